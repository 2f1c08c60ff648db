import Derived.Test.YtielfejpnkcjbaaQh5
import Derived.Test.YtielfejpnkcjbaaProg
/- The loops of Go.Sort, round by round. -/
set_option linter.unusedVariables false
set_option linter.unusedSimpArgs false
namespace Go.Proofs.Ytielfejpnkcjbaa.Ab
open Go.Sort
section
variable {α : Type} [Inhabited α] {cmp : α → α → Int}
theorem insInner_go {a j : Nat} {d : Array α} (h1 : (j : Int) > a) (h2 : cmp d[j]! d[j - 1]! < 0) : insInner (ltOf cmp) a (j - 1) (swp d j (j - 1)) = insInner (ltOf cmp) a j d := by
  obtain ⟨k, rfl⟩ : ∃ k, j = k + 1 := ⟨j - 1, by omega⟩
  rw [insInner]
  simp only [Nat.add_sub_cancel] at h2 ⊢
  rw [if_pos (by simp [ltOf, h2]; omega)]
theorem insInner_stop {a j : Nat} {d : Array α} (h : (j : Int) > a → 0 ≤ cmp d[j]! d[j - 1]!) : insInner (ltOf cmp) a j d = d := by
  cases j with
  | zero => rfl
  | succ k =>
    rw [insInner, if_neg]
    simp only [Nat.add_sub_cancel] at h
    simp [ltOf]
    intro h1
    exact h (by omega)
theorem insOuter_go {a b i : Nat} {d : Array α} (h : i < b) : insOuter (ltOf cmp) a b i d = insOuter (ltOf cmp) a b (i + 1) (insInner (ltOf cmp) a i d) := by
  rw [insOuter, if_pos h]
theorem insOuter_end {a b i : Nat} {d : Array α} (h : b ≤ i) : insOuter (ltOf cmp) a b i d = d := by
  rw [insOuter, if_neg (by omega)]
theorem sift_end {hi f r : Nat} {d : Array α} (h : hi ≤ 2 * r + 1) : siftDown (ltOf cmp) hi f r d = d := by
  rw [siftDown, dif_pos (by omega)]
/-- What a round does with the greater child. -/
def siftTo (lt : α → α → Bool) (hi f r c : Nat) (d : Array α) : Array α := if !lt d[f + r]! d[f + c]! then d else siftDown lt hi f c (swp d (f + r) (f + c))
theorem sift_l {hi f r : Nat} {d : Array α} (h : 2 * r + 1 < hi) (h2 : 2 * r + 1 + 1 < hi → 0 ≤ cmp d[f + (2 * r + 1)]! d[f + (2 * r + 1) + 1]!) : siftDown (ltOf cmp) hi f r d = siftTo (ltOf cmp) hi f r (2 * r + 1) d := by
  rw [siftDown, dif_neg (by omega), if_neg]; · rfl
  simp only [ltOf, Bool.and_eq_true, decide_eq_true_eq]
  intro hh
  have := h2 hh.1
  omega
theorem sift_r {hi f r : Nat} {d : Array α} (h : 2 * r + 1 + 1 < hi) (h2 : cmp d[f + (2 * r + 1)]! d[f + (2 * r + 1) + 1]! < 0) : siftDown (ltOf cmp) hi f r d = siftTo (ltOf cmp) hi f r (2 * r + 1 + 1) d := by
  rw [siftDown, dif_neg (by omega), if_pos (by simp [ltOf, h2, h]), dif_pos (by omega)]; rfl
theorem siftTo_end {hi f r c : Nat} {d : Array α} (h : 0 ≤ cmp d[f + r]! d[f + c]!) : siftTo (ltOf cmp) hi f r c d = d := by
  unfold siftTo; rw [if_pos]; simp [ltOf]; omega
theorem siftTo_go {hi f r c : Nat} {d : Array α} (h : cmp d[f + r]! d[f + c]! < 0) : siftTo (ltOf cmp) hi f r c d = siftDown (ltOf cmp) hi f c (swp d (f + r) (f + c)) := by
  unfold siftTo; rw [if_neg]; simp [ltOf]; omega
theorem sift_size (hi f r : Nat) (d : Array α) : (siftDown (ltOf cmp) hi f r d).size = d.size := by
  fun_induction siftDown (ltOf cmp) hi f r d <;> simp_all [size_swp]
theorem build_go {n a k : Nat} {d : Array α} (h : 0 < k) : heapBuild (ltOf cmp) n a k d = heapBuild (ltOf cmp) n a (k - 1) (siftDown (ltOf cmp) n a (k - 1) d) := by
  cases k with
  | zero => omega
  | succ k => rfl
theorem pop_go {a k : Nat} {d : Array α} (h : 0 < k) : heapPop (ltOf cmp) a k d = heapPop (ltOf cmp) a (k - 1) (siftDown (ltOf cmp) (k - 1) a 0 (swp d a (a + (k - 1)))) := by
  cases k with
  | zero => omega
  | succ k => rfl
theorem heap_eq {n a b : Nat} {d : Array α} (h : n = b - a) : heapSort (ltOf cmp) d a b = heapPop (ltOf cmp) a n (heapBuild (ltOf cmp) n a ((n - 1) / 2 + 1) d) := by
  subst h; rfl
theorem scanUp_go {p : α → Bool} {d : Array α} {i j : Nat} (h1 : i ≤ j) (h2 : p d[i]! = true) : scanUp p d j (i + 1) = scanUp p d j i := by
  rw [scanUp.eq_def p d j i, if_pos (by simp [h1, h2])]
theorem scanUp_stop {p : α → Bool} {d : Array α} {i j : Nat} (h : i ≤ j → p d[i]! = false) : scanUp p d j i = i := by
  rw [scanUp, if_neg]
  simp only [Bool.and_eq_true, decide_eq_true_eq, not_and, Bool.not_eq_true]; exact h
theorem scanDown_go {p : α → Bool} {d : Array α} {i j : Nat} (h0 : 0 < j) (h1 : i ≤ j) (h2 : p d[j]! = true) : scanDown p d i (j - 1) = scanDown p d i j := by
  cases j with
  | zero => omega
  | succ k => rw [scanDown, if_pos (by simp [h1, h2])]; rfl
theorem scanDown_stop {p : α → Bool} {d : Array α} {i j : Nat} (h : i ≤ j → p d[j]! = false) : scanDown p d i j = j := by
  cases j with
  | zero => rfl
  | succ k =>
    rw [scanDown, if_neg]
    simp only [Bool.and_eq_true, decide_eq_true_eq, not_and, Bool.not_eq_true]; exact h
theorem scan_ne {p : α → Bool} {d : Array α} {i j j0 : Nat} (h1 : i ≤ j0 → p d[i]! = false) (h2 : i ≤ j → p d[j]! = true) (hj : j ≤ j0) (h : i ≤ j) : i < j := by
  rcases Nat.lt_or_ge i j with h3 | h3
  · exact h3
  · have e2 : i = j := by omega
    have := h1 (by omega)
    rw [e2, h2 h] at this; cases this
theorem part_out {a i j i2 j2 : Nat} {d : Array α} (h1 : scanUp (fun x => ltOf cmp x d[a]!) d j i = i2) (h2 : scanDown (fun x => !ltOf cmp x d[a]!) d i2 j = j2) (h : i2 > j2) : partLoop (ltOf cmp) a i j d = (j2, d) := by
  rw [partLoop_eq, h1, h2, if_pos h]
theorem part_go {a i j i2 j2 : Nat} {d : Array α} (h1 : scanUp (fun x => ltOf cmp x d[a]!) d j i = i2) (h2 : scanDown (fun x => !ltOf cmp x d[a]!) d i2 j = j2) (h : i2 ≤ j2) : partLoop (ltOf cmp) a i j d = partLoop (ltOf cmp) a (i2 + 1) (j2 - 1) (swp d i2 j2) := by
  rw [partLoop_eq, h1, h2, if_neg (by omega)]
theorem partition_one {a b p i j : Nat} {d d1 : Array α} (hd : swp d a p = d1) (h1 : scanUp (fun x => ltOf cmp x d1[a]!) d1 (b - 1) (a + 1) = i) (h2 : scanDown (fun x => !ltOf cmp x d1[a]!) d1 i (b - 1) = j) (h : i > j) : partition (ltOf cmp) d a b p = (j, true, swp d1 j a) := by
  subst hd; subst h1; subst h2; unfold partition; rw [if_pos h]
theorem partition_two {a b p i j k : Nat} {d d1 d2 : Array α} (hd : swp d a p = d1) (h1 : scanUp (fun x => ltOf cmp x d1[a]!) d1 (b - 1) (a + 1) = i) (h2 : scanDown (fun x => !ltOf cmp x d1[a]!) d1 i (b - 1) = j) (h : i ≤ j) (hl : partLoop (ltOf cmp) a (i + 1) (j - 1) (swp d1 i j) = (k, d2)) : partition (ltOf cmp) d a b p = (k, false, swp d2 k a) := by
  subst hd; subst h1; subst h2; unfold partition; rw [if_neg (by omega)]; simp only [hl]
theorem parteq_out {a i j i2 j2 : Nat} {d : Array α} (h1 : scanUp (fun x => !ltOf cmp d[a]! x) d j i = i2) (h2 : scanDown (fun x => ltOf cmp d[a]! x) d i2 j = j2) (h : i2 > j2) : partEqLoop (ltOf cmp) a i j d = (i2, d) := by
  rw [partEqLoop_eq, h1, h2, if_pos h]
theorem parteq_go {a i j i2 j2 : Nat} {d : Array α} (h1 : scanUp (fun x => !ltOf cmp d[a]! x) d j i = i2) (h2 : scanDown (fun x => ltOf cmp d[a]! x) d i2 j = j2) (h : i2 ≤ j2) : partEqLoop (ltOf cmp) a i j d = partEqLoop (ltOf cmp) a (i2 + 1) (j2 - 1) (swp d i2 j2) := by
  rw [partEqLoop_eq, h1, h2, if_neg (by omega)]
theorem sorted_go {d : Array α} {b i : Nat} (h1 : i < b) (h2 : 0 ≤ cmp d[i]! d[i - 1]!) : scanSorted (ltOf cmp) d b (i + 1) = scanSorted (ltOf cmp) d b i := by
  rw [scanSorted.eq_def (ltOf cmp) d b i, if_pos (by simp [ltOf, h1]; omega)]
theorem sorted_stop {d : Array α} {b i : Nat} (h : i < b → cmp d[i]! d[i - 1]! < 0) : scanSorted (ltOf cmp) d b i = i := by
  rw [scanSorted, if_neg]
  simp only [ltOf, Bool.and_eq_true, decide_eq_true_eq, Bool.not_eq_true', decide_eq_false_iff_not, not_and, Int.not_lt]
  intro hh; have := h hh; omega
theorem down_go {d : Array α} {j : Nat} (h0 : 1 ≤ j) (h : cmp d[j]! d[j - 1]! < 0) : shiftDown (ltOf cmp) (j - 1) (swp d j (j - 1)) = shiftDown (ltOf cmp) j d := by
  obtain ⟨k, rfl⟩ : ∃ k, j = k + 1 := ⟨j - 1, by omega⟩
  simp only [Nat.add_sub_cancel] at h ⊢
  rw [shiftDown, if_neg]; simp [ltOf]; omega
theorem down_stop {d : Array α} {j : Nat} (h : 1 ≤ j → 0 ≤ cmp d[j]! d[j - 1]!) : shiftDown (ltOf cmp) j d = d := by
  cases j with
  | zero => rfl
  | succ k =>
    have := h (by omega)
    simp only [Nat.add_sub_cancel] at this
    rw [shiftDown, if_pos]; simp [ltOf]; omega
theorem up_go {d : Array α} {b j : Nat} (h0 : j < b) (h : cmp d[j]! d[j - 1]! < 0) : shiftUp (ltOf cmp) b (j + 1) (swp d j (j - 1)) = shiftUp (ltOf cmp) b j d := by
  rw [shiftUp.eq_def (ltOf cmp) b j d, if_pos h0, if_neg]; simp [ltOf]; omega
theorem up_stop {d : Array α} {b j : Nat} (h : j < b → 0 ≤ cmp d[j]! d[j - 1]!) : shiftUp (ltOf cmp) b j d = d := by
  rw [shiftUp]
  by_cases hj : j < b
  · have := h hj
    rw [if_pos hj, if_pos]; simp [ltOf]; omega
  · rw [if_neg hj]
theorem pins_done {a b s i i2 : Nat} {d : Array α} (hs : scanSorted (ltOf cmp) d b i = i2) (h : i2 = b) : partialIns (ltOf cmp) a b (s + 1) i d = (d, true) := by
  rw [partialIns, hs]; simp only [if_pos h]
theorem pins_short {a b s i i2 : Nat} {d : Array α} (hs : scanSorted (ltOf cmp) d b i = i2) (h : i2 ≠ b) (h2 : b - a < 50) : partialIns (ltOf cmp) a b (s + 1) i d = (d, false) := by
  rw [partialIns, hs]; simp only [if_neg h, if_pos h2]
theorem pins_go {a b s i i2 : Nat} {d d2 d3 d4 : Array α} (hs : scanSorted (ltOf cmp) d b i = i2) (h : i2 ≠ b) (h2 : ¬ b - a < 50) (hd2 : swp d i2 (i2 - 1) = d2) (hd3 : (if i2 - a ≥ 2 then shiftDown (ltOf cmp) (i2 - 1) d2 else d2) = d3) (hd4 : (if b - i2 ≥ 2 then shiftUp (ltOf cmp) b (i2 + 1) d3 else d3) = d4) : partialIns (ltOf cmp) a b (s + 1) i d = partialIns (ltOf cmp) a b s i2 d4 := by
  subst hd2; subst hd3; subst hd4
  rw [partialIns, hs]; simp only [if_neg h, if_neg h2]
end
end Go.Proofs.Ytielfejpnkcjbaa.Ab

/- Operations by hand: what only reckons or reads; the index of a string. -/
set_option linter.unusedVariables false
set_option linter.unusedSimpArgs false
namespace Go.Proofs.Ytielfejpnkcjbaa.Ab
open Go.Proofs.Ytielfejpnkcjbaa.Sl
section
variable {P : Program} {N : Nat} {ops : Array Oper} {dr : Option (List Nat)} {h0 : Gd} {Qr : Tm → Heap → Prop} {s s' : St} {az rest : List AO} {o : Oper} {β : Nat → Value} {hF h : Heap} {Tc : Tm}
theorem RegN.other {d : Nat} {k : K} {q : Bool} (v : AV) (rd : Option Nat) (hpv : ∀ o, o.op = k.op → ∀ {β : Nat → Value} {hF h : Heap} {Tc : Tm}, Sem h0 β hF h Tc s.T s.L s.σ → PvOk P β hF h Tc o ⟨True, v, rd⟩)
    (r : RegN P N ops h0 Qr az ⟨s.T, (d, none, v) :: s.L, s.σ, addrd rd s.rs⟩) : RegN P N ops h0 Qr (⟨some d, none, k, q⟩ :: az) s := by
  intro os hm hok β hF h Tc sem nd
  cases os with
  | nil => simp at hm
  | cons o os =>
    simp only [List.map_cons, List.cons.injEq] at hm
    simp only [List.all_cons, Bool.and_eq_true] at hok
    have f := fit_of hm.1 hok.1
    obtain ⟨nd', hne⟩ := nod_step nd rfl none v
    refine ⟨f.lt, ?_⟩
    rw [f.want_none rfl]
    obtain ⟨u, hv, _, hr⟩ := hpv o f.op sem
    refine (hr h sem.ok.le (fun _ _ _ _ => rfl)).sop ?_
    rw [put_some f.dst]
    exact r os hm.2 hok.2 _ _ _ _ (sem.put (g := none) hne (fun _ _ e => by cases e) hv) nd'
theorem RegD.other {loud : List Nat} {d : Nat} {k : K} {q : Bool} (hact' : isAct k.op = false) (v : AV) (rd : Option Nat) (hrd : ∀ id, rd = some id → ∃ x, (id, x) ∈ s.σ) (hpv : ∀ o, o.op = k.op → ∀ {β : Nat → Value} {hF h : Heap} {Tc : Tm}, Sem h0 β hF h Tc s.T s.L s.σ → PvOk P β hF h Tc o ⟨True, v, rd⟩)
    (r : RegD P N ops loud h0 Qr az ⟨s.T, (d, none, v) :: s.L, s.σ, addrd rd s.rs⟩) : RegD P N ops loud h0 Qr (⟨some d, none, k, q⟩ :: az) s := by
  intro τ hm hok β hF h Tc F E sem fo nd
  cases τ with
  | nil => simp at hm
  | cons e0 τ =>
    obtain ⟨i, rfl, hstrip, hloud, hm2⟩ := d_head hm
    simp only [List.all_cons, Bool.and_eq_true] at hok
    have f := fit_of hstrip hok.1
    obtain ⟨nd', hne⟩ := nod_step nd rfl none v
    have hact : isAct (opAt ops i).op = false := by rw [f.op]; exact hact'
    have fo' := fo.rd rd hrd
    simp only [sdraw, List.not_mem_nil, if_false, hact, Bool.false_eq_true]
    rw [f.want_none rfl]
    simp only [if_true]
    obtain ⟨u, hv, hp, hr⟩ := hpv _ f.op sem
    cases hrd' : isRead (opAt ops i).op with
    | true =>
      rw [if_pos rfl]
      refine ⟨u, ⟨fun g => hF.le g ∧ ∀ id b, rd = some id → baseOf (β id) = some b → g b = h b, fun g g' hgg hg => ⟨Heap.le_trans hg.1 hgg, fun id b e1 e2 => ?_⟩⟩, ⟨sem.ok.le, fun _ _ _ _ => rfl⟩, fun g hg => hr g hg.1 hg.2, ?_⟩
      · have h1 := hg.2 id b e1 e2
        obtain ⟨x, hx⟩ := hrd id e1
        obtain ⟨ob', h2⟩ := (sem.ok.ok _ hx).blk ((sem.ok.ok _ hx).fp e2)
        rw [h2] at h1 ⊢
        exact hgg _ _ h1
      · rw [put_some f.dst]
        refine r τ hm2 hok.2 _ _ _ _ _ _ (sem.put (g := none) hne (fun _ _ e => by cases e) hv) ⟨fun A hA g hg hb => ?_, fo'.2⟩ nd'
        rcases List.mem_cons.1 hA with rfl | hA
        · refine ⟨hg, fun id b e1 e2 => hb id ?_ b e2⟩
          simp [addrd, e1]
        · exact fo'.1 A hA g hg hb
    | false =>
      rw [if_neg (by simp)]
      refine ⟨u, hp hrd', ?_⟩
      rw [put_some f.dst]
      exact r τ hm2 hok.2 _ _ _ _ _ _ (sem.put (g := none) hne (fun _ _ e => by cases e) hv) fo' nd'
theorem reg_other {d : Nat} {k : K} {q : Bool} (hact : isAct k.op = false) (v : AV) (hpv : ∀ o, o.op = k.op → ∀ {β : Nat → Value} {hF h : Heap} {Tc : Tm}, Sem h0 β hF h Tc s.T s.L s.σ → PvOk P β hF h Tc o ⟨True, v, none⟩)
    (r : Reg P N ops dr h0 Qr az ⟨s.T, (d, none, v) :: s.L, s.σ, s.rs⟩) : Reg P N ops dr h0 Qr (⟨some d, none, k, q⟩ :: az) s := by
  cases dr with
  | none => exact RegN.other v none hpv r
  | some l => exact RegD.other hact v none (fun _ e => by cases e) hpv r
/-- The index of a string. -/
theorem r_index_str {ρ : Operand → Value} {t : TypeId} {x i : Operand} {s : ByteArray} {k : IntKind} {j : Nat} {c : UInt8} (ho : o.op = .index t x i) (hu : P.underlying t = some .string) (hx : ρ x = .string s) (hi : ρ i = .int k j) (hc : s[j]? = some c) : ReadOp P o ρ h (.int .u8 c.toNat) := by
  intro w r
  simp [execOp, ho, Instr.index, hx, hi, asIntOf, run_underlying hu, hc]
theorem r_ixs {d : Nat} {q : Bool} {t : TypeId} {x i : Operand} {str : ByteArray} {k : IntKind} {j : Nat} (c : UInt8) (hc : str[j]? = some c) (r : Reg P N ops dr h0 Qr az ⟨s.T, (d, none, .fz (.val (.int .u8 c.toNat))) :: s.L, s.σ, s.rs⟩) (hu : P.underlying t = some .string := by rfl)
    (hx : opd s.L s.T [] x = some (.fz (.val (.string str))) := by simp only [run, step1, isA, stepP, stepA, pv, pa, gob, opd, lookV, lookL, lookT, lookS, chain, inCh, addrd, hits, pgT, pgL, addL, pT, pL, pS, pO, pC, pA, ibin, sint, intBin, feq, fc_int, fc_bool, fc_str, fc_slice, fc_ptr, fc_map, fc_nif, fc_nfn, fc_agg, fc_of, fc_L, fc_sl, fc_fp, fc_ifc, fc_fn, fillF, ofzs, ofzp, unfz, rowsP, srcRows_of, srcRows_L, srcRows_os, srcRows_nil, asSl_of, asSl_L, asSl_sl, asSl_nil, setS, okNew, nmT, nmL, nmS, nmC, nmNe, OO.cells, absC, bnd, target, resV, resVs, List.set_cons_zero, List.set_cons_succ, ↓reduceIte, reduceCtorEq, Nat.reduceEqDiff, Nat.reduceBEq, Nat.reduceAdd, Nat.reduceMul, Nat.reduceLT, Nat.reduceLeDiff, Nat.reduceSub, Option.map_some, List.map_cons, List.map_nil, List.drop_succ_cons, List.drop_zero, List.drop_nil, List.take_succ_cons, List.take_zero, List.take_nil, List.cons_append, List.nil_append, List.append_nil, List.any_cons, List.any_nil, List.contains_cons, List.contains_nil, List.getElem?_cons_zero, List.getElem?_cons_succ, List.length_cons, List.length_nil, cond_true, cond_false, decide_true, decide_false, Bool.not_true, Bool.not_false, Bool.true_and, Bool.false_and, Bool.and_true, Bool.and_false, Bool.or_true, Bool.true_or, Bool.or_false, Bool.false_or, beq_self_eq_true, Bool.false_eq_true, pick_and, pick_or, Int.toNat_natCast, Int.toNat_zero, true_and, and_true, forall_const, implies_true, Nat.zero_add, Nat.add_zero, and_self, *] <;> exact rfl) (hi : opd s.L s.T [] i = some (.fz (.val (.int k j))) := by simp only [run, step1, isA, stepP, stepA, pv, pa, gob, opd, lookV, lookL, lookT, lookS, chain, inCh, addrd, hits, pgT, pgL, addL, pT, pL, pS, pO, pC, pA, ibin, sint, intBin, feq, fc_int, fc_bool, fc_str, fc_slice, fc_ptr, fc_map, fc_nif, fc_nfn, fc_agg, fc_of, fc_L, fc_sl, fc_fp, fc_ifc, fc_fn, fillF, ofzs, ofzp, unfz, rowsP, srcRows_of, srcRows_L, srcRows_os, srcRows_nil, asSl_of, asSl_L, asSl_sl, asSl_nil, setS, okNew, nmT, nmL, nmS, nmC, nmNe, OO.cells, absC, bnd, target, resV, resVs, List.set_cons_zero, List.set_cons_succ, ↓reduceIte, reduceCtorEq, Nat.reduceEqDiff, Nat.reduceBEq, Nat.reduceAdd, Nat.reduceMul, Nat.reduceLT, Nat.reduceLeDiff, Nat.reduceSub, Option.map_some, List.map_cons, List.map_nil, List.drop_succ_cons, List.drop_zero, List.drop_nil, List.take_succ_cons, List.take_zero, List.take_nil, List.cons_append, List.nil_append, List.append_nil, List.any_cons, List.any_nil, List.contains_cons, List.contains_nil, List.getElem?_cons_zero, List.getElem?_cons_succ, List.length_cons, List.length_nil, cond_true, cond_false, decide_true, decide_false, Bool.not_true, Bool.not_false, Bool.true_and, Bool.false_and, Bool.and_true, Bool.and_false, Bool.or_true, Bool.true_or, Bool.or_false, Bool.false_or, beq_self_eq_true, Bool.false_eq_true, pick_and, pick_or, Int.toNat_natCast, Int.toNat_zero, true_and, and_true, forall_const, implies_true, Nat.zero_add, Nat.add_zero, and_self, *] <;> exact rfl) : Reg P N ops dr h0 Qr (⟨some d, none, .other (.index t x i), q⟩ :: az) s :=
  reg_other rfl _ (fun o ho β hF h Tc sem => fin_pr (.fz (.val _)) (r_index_str ho hu (fz_val (opd_ok sem (fun x hx => by cases hx) hx)) (fz_val (opd_ok sem (fun x hx => by cases hx) hi)) hc)) r
end
end Go.Proofs.Ytielfejpnkcjbaa.Ab

/- Foreign objects turned by hand; going through a map. -/
set_option linter.unusedVariables false
set_option linter.unusedSimpArgs false
namespace Go.Proofs.Ytielfejpnkcjbaa.Ab
open Go.Proofs.Ytielfejpnkcjbaa.Sl
section
variable {P : Program} {N : Nat} {ops : Array Oper} {h0 : Gd} {Qr : Tm → Heap → Prop} {s : St} {az : List AO}
/-- An operation in a region in its order that turns a foreign object, or reads it. -/
theorem ext_act {d : Nat} {k : K} {q : Bool} {id : Nat} {D : Nat → Prop} {Φ : Value → Heap → Prop} (hσ : lookS s.σ id = some (.ext D Φ)) {Y : Type} (Pr : Y → Prop) (D' : Y → Nat → Prop) (Φ' : Y → Value → Heap → Prop) (vo : Y → FV)
    (hsop : ∀ o, o.op = k.op → ∀ {β : Nat → Value} {hF h : Heap} {Tc : Tm}, Sem h0 β hF h Tc s.T s.L s.σ → Φ (β id) h → (∀ b, D b → h b ≠ none) → SOp P o (ev Tc) h (fun v h' => ∃ y, Pr y ∧ FRep h0.h (vo y) v ∧ (∀ b o, ¬ D b → h b = some o → h' b = some o) ∧ (∀ b, D b → D' y b) ∧ (∀ b, D' y b → D b ∨ h b = none) ∧ (∀ b, D' y b → h' b ≠ none) ∧ ∀ h'', (∀ b, D' y b → h'' b = h' b) → Φ' y (β id) h''))
    (r : ∀ y, Pr y → RegN P N ops h0 Qr az ⟨s.T, (d, none, .fz (vo y)) :: s.L, setS s.σ id (.ext (D' y) (Φ' y)), if q = true then s.rs else []⟩) : RegN P N ops h0 Qr (⟨some d, none, k, q⟩ :: az) s := by
  intro os hm hok' β hF h Tc sem nd
  cases os with
  | nil => simp at hm
  | cons o os =>
    simp only [List.map_cons, List.cons.injEq] at hm
    simp only [List.all_cons, Bool.and_eq_true] at hok'
    have f := fit_of hm.1 hok'.1
    refine ⟨f.lt, ?_⟩
    rw [f.want_none rfl]
    have hmem := lookS_mem hσ
    obtain ⟨k1, k2, k3⟩ := sem.ok.ok _ hmem
    refine (hsop o f.op sem (k3 h fun _ _ => rfl) k2).mono fun v h' ⟨y, hy, rv, keep, sub, ex, dom, hΦ⟩ => ?_
    have hD : ∀ b, D b → hF b = none := fun b hb => sem.ok.out _ hmem b hb
    have oth : ∀ e ∈ s.σ, e.1 ≠ id → ∀ b, fpOf (β e.1) e.2 b → h' b = h b ∧ ¬ D b := fun e he hne b e1 => by
      obtain ⟨ob, h3⟩ := (sem.ok.ok e he).blk e1
      have hnd : ¬ D b := fun hb => sem.ok.sep e he _ hmem b hne e1 hb
      exact ⟨by rw [h3]; exact keep b ob hnd h3, hnd⟩
    have hle : hF.le h' := fun b ob e => keep b ob (fun hb => by rw [hD b hb] at e; cases e) (sem.ok.le b ob e)
    have okk : Ok h0 β hF h' (setS s.σ id (.ext (D' y) (Φ' y))) := by
      refine ⟨sem.ok.le0, hle, fun e he => ?_, fun e he b e1 => ?_, fun e he e' he' b hne e1 => ?_, sem.ok.fix, by rw [setS_keys]; exact sem.ok.nd⟩
      · rcases setS_mem sem.ok.nd e he with rfl | ⟨he, hne⟩
        · exact ⟨fun b hb => sub b (k1 b hb), dom, hΦ⟩
        · exact (sem.ok.ok e he).fr (Heap.le_refl _) (fun b e1 => (oth e he hne b e1).1) rfl (fun _ _ _ _ => rfl)
      · rcases setS_mem sem.ok.nd e he with rfl | ⟨he, hne⟩
        · rcases ex b e1 with hb | hb
          · exact hD b hb
          · cases e2 : hF b with
            | none => rfl
            | some ob => rw [sem.ok.le b ob e2] at hb; cases hb
        · exact sem.ok.out e he b e1
      · have no : ∀ e ∈ s.σ, e.1 ≠ id → fpOf (β e.1) e.2 b → ¬ D' y b := fun e he hne e1 hb => by
          rcases ex b hb with hb | hb
          · exact (oth e he hne b e1).2 hb
          · obtain ⟨ob, h3⟩ := (sem.ok.ok e he).blk e1
            rw [h3] at hb; cases hb
        rcases setS_mem sem.ok.nd e he with rfl | ⟨he, hn1⟩ <;> rcases setS_mem sem.ok.nd e' he' with rfl | ⟨he', hn2⟩
        · exact absurd rfl hne
        · exact fun e2 => no e' he' hn2 e2 e1
        · exact no e he hn1 e1
        · exact sem.ok.sep e he e' he' b hne e1
    have sem' := sem.turn okk (Heap.le_refl _) (fun _ _ _ _ => rfl) (fun _ _ _ _ => rfl)
    rw [put_some f.dst]
    obtain ⟨nd', hne⟩ := nod_step nd rfl none (.fz (vo y))
    exact r y hy os hm.2 hok'.2 _ _ _ _ (sem'.put (g := none) hne (fun _ _ e => by cases e) (.fz (rv.le sem.ok.le0))) nd'
/-! ### A map, gone through -/
variable {κ : Type} {enc : κ → Value}
def MapV (enc : κ → Value) (h : Heap) (mv : Value) (l : List (Ey κ)) (cl : Nat) : Prop := (mv = .map none ∧ l = []) ∨ ∃ mb, mv = .map (some mb) ∧ IsMapN h mb enc l cl
def ItV (h : Heap) (it : Nat) (mv : Value) (cl : Nat) (seen : List Nat) : Prop := (mv = .map none ∧ h it = some (.mapIter none 0 #[] 0)) ∨ ∃ mb, mv = .map (some mb) ∧ IsIter h it mb cl seen
/-- The map's block. -/
def mvB (mv : Value) (b : Nat) : Prop := mv = .map (some b)
theorem MapV.same {h h' : Heap} {mv : Value} {l : List (Ey κ)} {cl : Nat} (m : MapV enc h mv l cl) (e : ∀ b, mvB mv b → h' b = h b) : MapV enc h' mv l cl := by
  rcases m with m | ⟨mb, rfl, m⟩
  · exact .inl m
  · exact .inr ⟨mb, rfl, by rw [e mb rfl]; exact m.1, m.2⟩
theorem ItV.same {h h' : Heap} {it cl : Nat} {mv : Value} {seen : List Nat} (m : ItV h it mv cl seen) (e : h' it = h it) : ItV h' it mv cl seen := by
  rcases m with ⟨rfl, m⟩ | ⟨mb, rfl, m⟩
  · exact .inl ⟨rfl, by rw [e]; exact m⟩
  · exact .inr ⟨mb, rfl, by unfold IsIter; rw [e]; exact m⟩
section
variable {o : Oper} {ρ : Operand → Value} {h : Heap} {K' : Value → Heap → Prop} {kt : TypeId}
theorem s_rangeV {t e : TypeId} {x : Operand} {mv : Value} {l : List (Ey κ)} {cl : Nat} (ho : o.op = .range t x) (ht : P.underlying t = some (.map kt e)) (hx : ρ x = mv) (hm : MapV enc h mv l cl)
    (k : ∀ it ob, h it = none → ItV (h.set it ob) it mv cl [] → K' (.pointer (some ⟨it, 0, none⟩)) (h.set it ob)) : SOp P o ρ h K' := by
  rcases hm with ⟨rfl, rfl⟩ | ⟨mb, rfl, hm⟩
  · exact s_range_nil ho ht hx fun it hit => k it _ hit (.inl ⟨rfl, Heap.set_same _ _ _⟩)
  · exact s_range ho ht hx hm fun it hit => k it _ hit (.inr ⟨mb, rfl, Heap.set_same _ _ _⟩)
theorem s_nextV {x : Operand} {it cl : Nat} {mv : Value} {seen : List Nat} {l : List (Ey κ)} (ho : o.op = .next x false) (hx : ρ x = .pointer (some ⟨it, 0, none⟩)) (hit : ItV h it mv cl seen) (hm : MapV enc h mv l cl)
    (over : (∀ e ∈ l, e.born ∈ seen) → K' (.tuple #[.bool false]) h)
    (step : ∀ e ob, e ∈ l → e.born ∉ seen → ItV (h.set it ob) it mv cl (seen ++ [e.born]) → K' (.tuple #[.bool true, enc e.key, e.val]) (h.set it ob)) : SOp P o ρ h K' := by
  rcases hm with ⟨rfl, rfl⟩ | ⟨mb, rfl, hm⟩
  · rcases hit with ⟨_, hit⟩ | ⟨mb, h1, _⟩
    · exact (r_next_nil ho hx hit).sop (over (by simp))
    · cases h1
  · rcases hit with ⟨h1, _⟩ | ⟨mb', h1, hit⟩
    · cases h1
    · cases h1
      exact s_next ho hx hit hm over fun e he hs => step e _ he hs (.inr ⟨mb, rfl, Heap.set_same _ _ _⟩)
theorem r_entryV {x : Operand} {it cl β : Nat} {mv : Value} {seen : List Nat} {l : List (Ey κ)} {e : Ey κ} (ho : o.op = .entry x) (hx : ρ x = .pointer (some ⟨it, 0, none⟩)) (hit : ItV h it mv cl (seen ++ [β])) (hm : MapV enc h mv l cl) (he : e ∈ l) (hb : e.born = β) :
    ReadOp P o ρ h (.tuple #[enc e.key, e.val]) := by
  rcases hm with ⟨rfl, rfl⟩ | ⟨mb, rfl, hm⟩
  · cases he
  · rcases hit with ⟨h1, _⟩ | ⟨mb', h1, hit⟩
    · cases h1
    · cases h1
      exact r_entry ho hx hit hm he hb
end
end
end Go.Proofs.Ytielfejpnkcjbaa.Ab

/- An empty slice of one's own. -/
set_option linter.unusedVariables false
set_option linter.unusedSimpArgs false
namespace Go.Proofs.Ytielfejpnkcjbaa.Ab
open Go.Proofs.Ytielfejpnkcjbaa.Sl
def setT : AT → Nat → AV → AT
  | [], _, _ => []
  | e :: r, i, x => if e.1 = i then (i, x) :: r else e :: setT r i x
theorem setT_mem {i : Nat} {x : AV} : ∀ {T : AT}, ∀ e ∈ setT T i x, e ∈ T ∨ e = (i, x)
  | [], e, he => by cases he
  | a :: r, e, he => by
    unfold setT at he
    split at he
    · rcases List.mem_cons.1 he with rfl | he
      · exact .inr rfl
      · exact .inl (List.mem_cons_of_mem _ he)
    · rcases List.mem_cons.1 he with rfl | he
      · exact .inl List.mem_cons_self
      · exact (setT_mem e he).imp (List.mem_cons_of_mem _) id
theorem lookT_mem' {T : AT} {i : Nat} {x : AV} (h : lookT T i = some x) : (i, x) ∈ T := by
  induction T with
  | nil => cases h
  | cons e r ih =>
    unfold lookT at h
    split at h
    · rename_i h1
      cases h
      rw [← h1]; exact List.mem_cons_self
    · exact List.mem_cons_of_mem _ (ih h)
section
variable {P : Program} {N : Nat} {h0 : Gd} {Q : Exit → Tm → Heap → Prop} {T : AT} {σ : AS} {r : List Code}
theorem a_nilown (i id : Nat) (t : TypeId) (sz : Nat) (e : lookT T i = some (.fz (.val (.slice none 0 0)))) (hd : okNew id T [] σ = true) (k : AC P N h0 r Q (setT T i (.os id)) ((id, .rows t sz []) :: σ)) : AC P N h0 r Q T σ := by
  intro β hF h Tc sem
  simp only [okNew, Bool.and_eq_true] at hd
  obtain ⟨⟨⟨hT, _⟩, hS⟩, hid⟩ := hd
  have hid := of_decide_eq_true hid
  have hT := nmT_spec hT
  have hS := nmS_spec hS
  have hb : ∀ j, j ≠ id → (fun j => if j = id then Value.slice none 0 0 else β j) j = β j := fun j hj => if_neg hj
  generalize hβ : (fun j => if j = id then Value.slice none 0 0 else β j) = β' at hb
  have hbi : β' id = .slice none 0 0 := by rw [← hβ]; exact if_pos rfl
  have nofp : ∀ b, ¬ fpOf (β' id) (.rows t sz []) b := fun b h => by simp only [fpOf, hbi, baseOf] at h; cases h
  refine k β' hF h Tc ⟨⟨sem.ok.le0, sem.ok.le, fun e he => ?_, fun e he b h1 => ?_, fun e he e' he' b hne h1 => ?_, fun j hj => by rw [hb j (by omega)]; exact sem.ok.fix j hj, ?_⟩, fun e he hl => ?_, fun e he => (by cases he), fun e he => (by cases he)⟩
  · rcases List.mem_cons.1 he with rfl | he
    · exact ⟨[], by simp only [hbi]; exact .nil, by simp, by simp, ⟨rfl, fun j c v a => by simp at a⟩⟩
    · exact (sem.ok.ok e he).fr (Heap.le_refl _) (fun _ _ => rfl) (hb _ (hS e he).1) (fun c hc j hj => hb j fun e1 => (hS e he).2 c hc (by rw [hj, e1]))
  · rcases List.mem_cons.1 he with rfl | he
    · exact absurd h1 (nofp b)
    · rw [hb _ (hS e he).1] at h1; exact sem.ok.out e he b h1
  · rcases List.mem_cons.1 he with rfl | he
    · exact absurd h1 (nofp b)
    · rcases List.mem_cons.1 he' with rfl | he'
      · exact nofp b
      · rw [hb _ (hS e he).1] at h1
        rw [hb _ (hS e' he').1]
        exact sem.ok.sep e he e' he' b hne h1
  · simp only [List.map_cons, List.nodup_cons]
    refine ⟨fun h1 => ?_, sem.ok.nd⟩
    obtain ⟨e, he, h2⟩ := List.mem_map.1 h1
    exact (hS e he).1 h2
  · rcases setT_mem e he with he | rfl
    · exact (sem.t e he (fun _ h => by cases h)).to (Heap.le_refl _) fun j hj => hb j fun e1 => hT e he (by rw [hj, e1])
    · have h1 := sem.t _ (lookT_mem' e) (fun _ h => by cases h)
      have h2 := fz_val h1
      simp only at h2 ⊢
      rw [h2, ← hbi]
      exact .os _
/-- A foreign object is told of less. -/
theorem a_shrink {id : Nat} {D D' : Nat → Prop} {Φ Φ' : Value → Heap → Prop} (hσ : lookS σ id = some (.ext D' Φ')) (sub : ∀ b, D b → D' b) (hb : ∀ β : Nat → Value, ∀ h, Φ' (β id) h → ∀ b, baseOf (β id) = some b → D b) (hs : ∀ v h, Φ' v h → Φ v h) (hst : ∀ v h h', Φ v h → (∀ b, D b → h' b = h b) → Φ v h') (k : AC P N h0 r Q T (setS σ id (.ext D Φ))) : AC P N h0 r Q T σ := by
  intro β hF h Tc sem
  have hm := lookS_mem hσ
  obtain ⟨k1, k2, k3⟩ := sem.ok.ok _ hm
  have hΦ := k3 h fun _ _ => rfl
  refine k β hF h Tc ⟨⟨sem.ok.le0, sem.ok.le, fun e he => ?_, fun e he b h1 => ?_, fun e he e' he' b hne h1 => ?_, sem.ok.fix, by rw [setS_keys]; exact sem.ok.nd⟩, sem.t, sem.l, sem.g⟩
  · rcases setS_mem sem.ok.nd e he with rfl | ⟨he, hne⟩
    · exact ⟨fun b h1 => hb β h hΦ b h1, fun b h1 => k2 b (sub b h1), fun h' h1 => hst _ h h' (hs _ _ hΦ) h1⟩
    · exact sem.ok.ok e he
  · rcases setS_mem sem.ok.nd e he with rfl | ⟨he, hne⟩
    · exact sem.ok.out _ hm b (sub b h1)
    · exact sem.ok.out e he b h1
  · rcases setS_mem sem.ok.nd e he with rfl | ⟨he, hn1⟩ <;> rcases setS_mem sem.ok.nd e' he' with rfl | ⟨he', hn2⟩
    · exact absurd rfl hne
    · exact sem.ok.sep _ hm e' he' b hne (sub b h1)
    · exact fun h2 => sem.ok.sep e he _ hm b hne h1 (sub b h2)
    · exact sem.ok.sep e he e' he' b hne h1
def delS (id : Nat) : AS → AS
  | [] => []
  | e :: r => if e.1 = id then delS id r else e :: delS id r
theorem delS_mem {id : Nat} : ∀ {σ : AS}, ∀ e ∈ delS id σ, e ∈ σ ∧ e.1 ≠ id
  | [], e, he => by cases he
  | a :: r, e, he => by
    unfold delS at he
    split at he
    · exact ⟨List.mem_cons_of_mem _ (delS_mem e he).1, (delS_mem e he).2⟩
    · rename_i h1
      rcases List.mem_cons.1 he with rfl | he
      · exact ⟨List.mem_cons_self, h1⟩
      · exact ⟨List.mem_cons_of_mem _ (delS_mem e he).1, (delS_mem e he).2⟩
theorem delS_sub {id : Nat} : ∀ {σ : AS}, (delS id σ).Sublist σ
  | [] => .slnil
  | a :: r => by
    unfold delS
    split
    · exact .cons _ delS_sub
    · exact .cons_cons _ delS_sub
theorem slL_rep {β : Nat → Value} {hF hF' h : Heap} {id sz : Nat} {t : TypeId} {rows : List (List FV)} (ok : OOk β hF h id (.rows t sz rows)) (l : hF.le hF') (hb : ∀ b, baseOf (β id) = some b → hF' b = h b) : FRep hF' (slL rows) (β id) := by
  have key : ∀ i, i < rows.length → ∃ b n c full, β id = .slice (some ⟨b, 0, none⟩) n c ∧ h b = some (.cells full t (0, 0)) ∧ rows.length * sz ≤ full.size ∧ (rows.getD i []).length = sz ∧ ∀ (p : Nat) (c : FV) (u : Value), (rows.getD i [])[p]? = some c → full[i * sz + p]? = some u → FRep hF c u := fun i hi => rows_at ok hi
  obtain ⟨vs, own, hlen, hone, reps⟩ := ok
  unfold slL
  have hrow : ∀ i, i < rows.length → rows.getD i [] ∈ rows := fun i hi => by rw [List.getD_eq_getElem?_getD, List.getElem?_eq_getElem hi]; exact List.getElem_mem hi
  generalize hn : rows.length = n at own key hrow ⊢
  generalize hβ : β id = v at own key hb ⊢
  cases own with
  | nil => exact .sl0 _ _ _
  | @at_ b n c full cs hb' hl hnc hcap hc =>
    rcases Nat.eq_zero_or_pos n with rfl | h0
    · exact .sl0 _ _ _
    have hsz : n * sz ≤ full.size := Nat.le_trans (Nat.mul_le_mul_right _ hnc) hcap
    refine .sl (sz := sz) (by rw [hb b rfl]; exact hb') hnc (fun i hi => hlen _ (hrow i hi)) (fun i hi => hone _ (hrow i hi)) (by omega) (fun i j cc u hi e1 e2 => ?_)
    obtain ⟨b2, n2, c2, full2, h1, h2, _, _, h5⟩ := key i hi
    cases h1
    rw [hb'] at h2
    cases h2
    exact (h5 j cc u e1 (by simpa using e2)).le l
/-- A slice of one's own is left as it is. -/
theorem a_freeze (i id : Nat) {t : TypeId} {sz : Nat} {rows : List (List FV)} (e : lookT T i = some (.os id)) (hσ : lookS σ id = some (.rows t sz rows)) (k : AC P N h0 r Q (setT (pT id T) i (.fz (slL rows))) (delS id σ)) : AC P N h0 r Q T σ := by
  intro β hF h Tc sem
  have hm := lookS_mem hσ
  have ok := sem.ok.ok _ hm
  obtain ⟨hF', hG⟩ : ∃ G : Heap, ∀ b, G b = if baseOf (β id) = some b then h b else hF b := ⟨_, fun _ => rfl⟩
  have g1 : ∀ b, baseOf (β id) = some b → hF' b = h b := fun b hb => by rw [hG, if_pos hb]
  have g2 : ∀ b, ¬ baseOf (β id) = some b → hF' b = hF b := fun b hb => by rw [hG, if_neg hb]
  have l1 : hF.le hF' := fun b o eb => by
    by_cases hb : baseOf (β id) = some b
    · rw [g1 b hb]; exact sem.ok.le b o eb
    · rw [g2 b hb]; exact eb
  have l2 : hF'.le h := fun b o eb => by
    by_cases hb : baseOf (β id) = some b
    · rw [g1 b hb] at eb; exact eb
    · rw [g2 b hb] at eb; exact sem.ok.le b o eb
  refine k β hF' h Tc ⟨⟨Heap.le_trans sem.ok.le0 l1, l2, fun e he => ?_, fun e he b h1 => ?_, fun e he e' he' => sem.ok.sep e (delS_mem e he).1 e' (delS_mem e' he').1, sem.ok.fix, sem.ok.nd.sublist (delS_sub.map _)⟩, fun x hx hl => ?_, fun e he => (by cases he), fun e he => (by cases he)⟩
  · exact (sem.ok.ok e (delS_mem e he).1).fr l1 (fun _ _ => rfl) rfl (fun _ _ _ _ => rfl)
  · rw [g2 b fun hb => sem.ok.sep e (delS_mem e he).1 _ hm b (delS_mem e he).2 h1 (ok.fp hb)]
    exact sem.ok.out e (delS_mem e he).1 b h1
  · rcases setT_mem x hx with hx | rfl
    · have : ∀ {T : AT}, x ∈ pT id T → ∃ y ∈ T, x = (y.1, pA id y.2) := fun {T} => by
        induction T with
        | nil => intro h; cases h
        | cons a r ih =>
          intro h
          rcases List.mem_cons.1 h with rfl | h
          · exact ⟨a, List.mem_cons_self, rfl⟩
          · obtain ⟨y, hy, h2⟩ := ih h
            exact ⟨y, List.mem_cons_of_mem _ hy, h2⟩
      obtain ⟨y, hy, rfl⟩ := this hx
      exact pA_rep ((sem.t y hy (fun _ h => by cases h)).to l1 (fun _ _ => rfl))
    · have h1 := sem.t _ (lookT_mem' e) (fun _ h => by cases h)
      simp only at h1 ⊢
      generalize Tc i = v at h1
      cases h1
      exact .fz (slL_rep ok l1 g1)
end
end Go.Proofs.Ytielfejpnkcjbaa.Ab

/- Plain facts on addresses' bits. No program. -/
set_option linter.unusedVariables false
set_option linter.unusedSimpArgs false
namespace Go.Proofs.Ytielfejpnkcjbaa
theorem ofInt_nat (A : Nat) : BitVec.ofInt IntKind.u32.bits (A : Int) = BitVec.ofNat 32 A := by
  show BitVec.ofInt 32 (A : Int) = _
  rw [BitVec.ofInt_natCast]
theorem wrap32_nat (A : Nat) (h : A < 4294967296) : IntKind.u32.wrap (A : Int) = (A : Int) := by
  show (if (false && decide ((A : Int) % 4294967296 ≥ 2147483648)) = true then (A : Int) % 4294967296 - 4294967296 else (A : Int) % 4294967296) = _
  simp only [Bool.false_and, Bool.false_eq_true, if_false]
  omega
theorem wrap64_in (n : Int) (h : -9223372036854775808 ≤ n) (h' : n ≤ 9223372036854775807) : IntKind.i64.wrap n = n := by
  show (if (true && decide (n % 18446744073709551616 ≥ 9223372036854775808)) = true then n % 18446744073709551616 - 18446744073709551616 else n % 18446744073709551616) = n
  simp only [Bool.true_and, decide_eq_true_eq]
  split <;> omega
theorem wrapU64_in (n : Int) (h : 0 ≤ n) (h' : n < 18446744073709551616) : IntKind.u64.wrap n = n := by
  show (if (false && decide (n % 18446744073709551616 ≥ 9223372036854775808)) = true then n % 18446744073709551616 - 18446744073709551616 else n % 18446744073709551616) = n
  simp only [Bool.false_and, Bool.false_eq_true, if_false]
  omega
theorem wrap64_nat (n : Int) (m : Nat) (h : n = (m : Int)) (h' : m ≤ 9223372036854775807) : IntKind.i64.wrap n = (m : Int) := by rw [h, wrap64_in _ (by omega) (by omega)]
/-- The bit i, from the highest on. -/
def bitI (A i : Nat) : Bool := A.testBit (31 - i)
theorem and_one (x : Nat) : x &&& 1 = x % 2 := Nat.and_one_is_mod x
theorem fdiv_pow (A k : Nat) : Int.fdiv (A : Int) (2 ^ k) = ((A / 2 ^ k : Nat) : Int) := by
  have : ((2 : Int) ^ k) = ((2 ^ k : Nat) : Int) := by simp
  rw [this, Int.fdiv_eq_ediv_of_nonneg _ (Int.natCast_nonneg _)]
  exact (Int.natCast_ediv _ _).symm
theorem bit_eq (A i : Nat) (hA : A < 4294967296) (hi : i ≤ 31) :
    IntKind.i64.wrap (IntKind.u32.wrap (BitVec.ofInt IntKind.u32.bits (Int.fdiv (A : Int) (2 ^ (min (31 - i) IntKind.u32.bits))) &&& BitVec.ofInt IntKind.u32.bits 1).toNat) = if bitI A i then 1 else 0 := by
  have hm : min (31 - i) IntKind.u32.bits = 31 - i := by show min (31 - i) 32 = _; omega
  rw [hm, fdiv_pow]
  change IntKind.i64.wrap (IntKind.u32.wrap ((BitVec.ofInt 32 ((A / 2 ^ (31 - i) : Nat) : Int) &&& BitVec.ofInt 32 1).toNat : Int)) = _
  rw [BitVec.ofInt_natCast, show BitVec.ofInt 32 1 = BitVec.ofNat 32 1 from rfl]
  have hlt : A / 2 ^ (31 - i) < 4294967296 := Nat.lt_of_le_of_lt (Nat.div_le_self _ _) hA
  have h2 : (BitVec.ofNat 32 (A / 2 ^ (31 - i)) &&& BitVec.ofNat 32 1).toNat = A / 2 ^ (31 - i) % 2 := by
    rw [BitVec.toNat_and, BitVec.toNat_ofNat, BitVec.toNat_ofNat, Nat.mod_eq_of_lt hlt]
    exact and_one _
  rw [h2]
  have hb : bitI A i = decide (A / 2 ^ (31 - i) % 2 = 1) := by unfold bitI; rw [Nat.testBit_eq_decide_div_mod_eq]
  have hlt2 : A / 2 ^ (31 - i) % 2 < 2 := Nat.mod_lt _ (by decide)
  rw [wrap32_nat _ (by omega), wrap64_in _ (by omega) (by omega), hb]
  by_cases h : A / 2 ^ (31 - i) % 2 = 1
  · simp [h]
  · have : A / 2 ^ (31 - i) % 2 = 0 := by omega
    simp [this]
/-- The mask of so many bits. -/
def maskNat (m : Nat) : Nat := 4294967296 - 2 ^ (32 - m)
theorem maskNat_lt (m : Nat) : maskNat m < 4294967296 := by unfold maskNat; have : 0 < 2 ^ (32 - m) := Nat.pos_of_ne_zero (by simp); omega
theorem maskNat_bit : ∀ m : Nat, m ≤ 32 → ∀ j : Nat, j < 32 → (maskNat m).testBit j = decide (32 - m ≤ j) := by decide
/-- An address's first m bits, the others 0. -/
def cut (A m : Nat) : Nat := A &&& maskNat m
theorem cut_bit (A m : Nat) (hA : A < 4294967296) (hm : m ≤ 32) (i : Nat) (hi : i ≤ 31) : bitI (cut A m) i = (bitI A i && decide (i < m)) := by
  unfold bitI cut
  rw [Nat.testBit_and, maskNat_bit m hm (31 - i) (by omega)]
  congr 1
  simp; omega
theorem cut_lt (A m : Nat) (hA : A < 4294967296) : cut A m < 4294967296 := Nat.lt_of_le_of_lt Nat.and_le_left hA
theorem eq_of_bits (A B : Nat) (hA : A < 4294967296) (hB : B < 4294967296) (h : ∀ i, i ≤ 31 → bitI A i = bitI B i) : A = B := by
  apply Nat.eq_of_testBit_eq
  intro j
  rcases Nat.lt_or_ge j 32 with hj | hj
  · have := h (31 - j) (by omega)
    unfold bitI at this
    rwa [show 31 - (31 - j) = j by omega] at this
  · have h32 : (4294967296 : Nat) ≤ 2 ^ j := by
      have : 2 ^ 32 ≤ 2 ^ j := Nat.pow_le_pow_right (by decide) hj
      exact this
    rw [Nat.testBit_lt_two_pow (Nat.lt_of_lt_of_le hA h32), Nat.testBit_lt_two_pow (Nat.lt_of_lt_of_le hB h32)]
/-- The way that an address's first m bits take. -/
def path (A : Nat) : Nat → List Bool
  | 0 => []
  | m + 1 => path A m ++ [bitI A m]
theorem path_length (A m : Nat) : (path A m).length = m := by induction m with
  | zero => rfl
  | succ m ih => simp [path, ih]
theorem path_eq_iff (A B m : Nat) : path A m = path B m ↔ ∀ i, i < m → bitI A i = bitI B i := by
  induction m with
  | zero => simp [path]
  | succ m ih =>
    simp only [path]
    constructor
    · intro h i hi
      have h1 := List.append_inj h (by simp [path_length])
      rcases Nat.lt_succ_iff_lt_or_eq.1 hi with h2 | h2
      · exact ih.1 h1.1 i h2
      · subst h2; simpa using h1.2
    · intro h
      rw [ih.2 (fun i hi => h i (by omega)), h m (by omega)]
theorem path_cut (A m k : Nat) (hA : A < 4294967296) (hm : m ≤ 32) (hk : k ≤ m) : path (cut A m) k = path A k := by
  rw [path_eq_iff]
  intro i hi
  rw [cut_bit A m hA hm i (by omega)]
  simp; omega
theorem cut_eq_iff (A B m : Nat) (hA : A < 4294967296) (hB : B < 4294967296) (hm : m ≤ 32) : cut A m = cut B m ↔ path A m = path B m := by
  rw [path_eq_iff]
  constructor
  · intro h i hi
    have h1 := cut_bit A m hA hm i (by omega)
    have h2 := cut_bit B m hB hm i (by omega)
    rw [h] at h1
    rw [h1] at h2
    simpa [hi] using h2
  · intro h
    refine eq_of_bits _ _ (cut_lt A m hA) (cut_lt B m hB) fun i hi => ?_
    rw [cut_bit A m hA hm i hi, cut_bit B m hB hm i hi]
    by_cases h1 : i < m
    · rw [h i h1]
    · simp [h1]
end Go.Proofs.Ytielfejpnkcjbaa

/- Addresses: masks, whether a prefix may be, an address's bits. -/
set_option linter.unusedVariables false
set_option linter.unusedSimpArgs false
namespace Go.Proofs.Ytielfejpnkcjbaa
open Sl
/-- So many ones, from the highest bit on. -/
def maskN (m : Nat) : Int := 4294967296 - 2 ^ (32 - m)
def clip (n : Int) : Nat := if n < 0 then 0 else if 32 < n then 32 else n.toNat
theorem mask_eq : ∀ m : Nat, m ≤ 32 → IntKind.u32.wrap (BitVec.ofInt IntKind.u32.bits (if IntKind.u32.signed then -1 else IntKind.u32.max) ^^^ BitVec.ofInt IntKind.u32.bits (Int.fdiv 4294967295 (2 ^ (min m IntKind.u32.bits)))).toNat = maskN m := by decide
theorem clip_eq (n : Int) : (if 32 < (if 0 > n then 0 else n) then 32 else if 0 > n then 0 else n) = (clip n : Int) := by
  unfold clip
  split <;> split <;> (try split) <;> omega
theorem clip_le (n : Int) : clip n ≤ 32 := by unfold clip; split <;> (try split) <;> omega
theorem mask_ok (n : Int) (h : Heap) : SCalls Try.prog 45 #[.int .i64 n] h (fun v h' => h' = h ∧ v = .int .u32 (maskN (clip n))) := by
  refine s_enter Try.func45 rfl (by rw [Try.ntmps45]; simp) ?_
  rw [Try.ntmps45]
  have hc := clip_eq n
  have hl := clip_le n
  generalize hT : T0 #[.int .i64 n] = T
  have h0 : T 0 = .int .i64 n := by rw [← hT]; rfl
  clear hT
  refine s_seq ?_
  refine s_region ?_
  refine w_pv rfl dC (want_none rfl) (p_val evA) ?_
  refine w_nil ?_
  refine s_seq ?_
  refine s_region ?_
  refine w_pv rfl dC (want_none rfl) (p_val evA) ?_
  refine w_rd rfl dC (want_none rfl) (r_max2 rfl evA evA) ?_
  refine w_rd rfl dC (want_none rfl) (r_min2 rfl evA evA) ?_
  refine w_pv rfl dC (want_none rfl) (p_val evA) ?_
  refine w_nil ?_
  refine s_seq ?_
  refine s_region ?_
  refine w_pv rfl dC (want_none rfl) (p_val evA) ?_
  refine w_rd rfl dC (want_none rfl) (r_shr rfl evA evA arA) ?_
  refine w_rd rfl dC (want_none rfl) (r_bnot rfl evA) ?_
  refine w_pv rfl dC (want_none rfl) (p_val evA) ?_
  refine w_nil ?_
  refine s_ret ⟨_, res_one rfl rfl, rfl, ?_⟩
  simp only [upd, ↓reduceIte, hc, Int.toNat_natCast]
  exact congrArg _ (mask_eq _ hl)

/-- A prefix's value. -/
def pfxV (a n : Int) : Value := .agg #[.int .u32 a, .int .i64 n]
/-- Whether a prefix may be, as the machine reckons it. -/
def validB (a n : Int) : Bool := decide (n ≥ 0) && decide (n ≤ 32) && (IntKind.u32.wrap (BitVec.ofInt IntKind.u32.bits a &&& ~~~(BitVec.ofInt IntKind.u32.bits (maskN (clip n)))).toNat == 0)
theorem addrValid_ok (a n : Int) (h : Heap) : SCalls Try.prog 43 #[pfxV a n] h (fun v h' => h.le h' ∧ v = .bool (validB a n)) := by
  refine s_enter Try.func43 rfl (by rw [Try.ntmps43]; simp) ?_
  rw [Try.ntmps43]
  generalize hT : T0 #[pfxV a n] = T
  have h0 : T 0 = .agg #[.int .u32 a, .int .i64 n] := by rw [← hT]; rfl
  clear hT
  refine s_seq ?_
  refine s_region ?_
  refine w_al rfl dC (want_none rfl) (a_boxN rfl evA) ?_
  intro b1 hb1
  refine w_pv rfl dC (want_none rfl) (p_val evA) ?_
  refine w_nil ?_
  have hle := Heap.le_set (.cells #[.int .u32 a, .int .i64 n] 37) hb1
  unfold validB
  refine s_seq ?_
  by_cases hn : n ≥ 0
  · by_cases h32 : n ≤ 32
    · have e1 : decide (n ≥ 0) = true := decide_eq_true hn
      have e2 : decide (n ≤ 32) = true := decide_eq_true h32
      refine s_draw [(0, true), (1, true), (2, true), (3, true), (4, true), (5, true), (6, true), (7, true), (8, true), (9, true), (10, true), (11, true), (12, true), (13, true), (14, true), (15, true), (16, true), (17, true)] [] [] rfl kR kR ?_
      refine d_pv rfl rfl dC rfl rfl (want_none rfl) (p_fieldAddr (k := 1) rfl evA kR) ?_
      refine d_rd [_] rfl rfl dC rfl rfl (want_none rfl) (r_load1 rfl Try.underlying3 rfl evA (restr1 hpA) ceA) ?_
      refine d_pv rfl rfl dC rfl rfl (want_none rfl) (p_val evA) ?_
      refine d_pv rfl rfl dC rfl rfl (want_none rfl) (p_val evA) ?_
      refine d_pv rfl rfl dC rfl rfl (want_let rfl rfl evA) (p_fieldAddr (k := 1) rfl evA kR) ?_
      refine d_rd [_] rfl rfl dC rfl rfl (want_let rfl rfl evA) (r_load1 rfl Try.underlying3 rfl evA (restr1 hpA) ceA) ?_
      refine d_pv rfl rfl dC rfl rfl (want_let rfl rfl evA) (p_val evA) ?_
      refine d_pv rfl rfl dC rfl rfl (want_none rfl) (p_val evA) ?_
      refine d_pv rfl rfl dC rfl rfl (want_none rfl) (p_val evA) ?_
      refine d_pv rfl rfl dC rfl rfl (want_let rfl rfl evA) (p_fieldAddr (k := 0) rfl evA kR) ?_
      refine d_rd [_] rfl rfl dC rfl rfl (want_let rfl rfl evA) (r_load1 rfl Try.underlying23 rfl evA (restr1 hpA) ceA) ?_
      refine d_pv rfl rfl dC rfl rfl (want_let rfl rfl evA) (p_fieldAddr (k := 1) rfl evA kR) ?_
      refine d_rd [_] rfl rfl dC rfl rfl (want_let rfl rfl evA) (r_load1 rfl Try.underlying3 rfl evA (restr1 hpA) ceA) ?_
      refine d_qac rfl rfl dC (by decide) rfl (want_let rfl rfl evA) (s_call rfl rfl Try.func45 kR kR evA ?_); refine (mask_ok _ _).mono ?_; rintro _ _ ⟨rfl, rfl⟩; refine ⟨(fun _ _ h => h), ?_⟩
      refine d_pv rfl rfl dC rfl rfl (want_let rfl rfl evA) (p_val evA) ?_
      refine d_pv rfl rfl dC rfl rfl (want_let rfl rfl evA) (p_val evA) ?_
      refine d_pv rfl rfl dC rfl rfl (want_none rfl) (p_val evA) ?_
      refine d_pv rfl rfl dC rfl rfl (want_none rfl) (p_val evA) ?_
      refine d_nil ?_
      refine s_ret ⟨_, res_one rfl rfl, hle, ?_⟩
      simp only [pval, ev, upd, binVal, intBin, Option.map_some, ↓reduceIte, reduceCtorEq, Nat.reduceEqDiff, Nat.reduceBEq, List.map_toArray, List.map_cons, List.map_nil, cond_true, cond_false, decide_true, decide_false, Bool.not_true, Bool.not_false, Bool.true_and, Bool.false_and, Bool.and_true, Bool.and_false, beq_self_eq_true, bne_self_eq_false, List.getElem_toArray, List.getElem_cons_succ, List.getElem_cons_zero, e1, e2, Bool.true_and]
    · have e1 : decide (n ≥ 0) = true := decide_eq_true hn
      have e2 : decide (n ≤ 32) = false := decide_eq_false h32
      refine s_draw [(0, true), (1, true), (2, true), (3, true), (4, true), (5, true), (6, true), (7, true), (8, true), (9, true), (10, true), (11, true), (12, true), (13, true), (14, true), (15, true), (16, true), (17, true)] [] [] rfl kR kR ?_
      refine d_pv rfl rfl dC rfl rfl (want_none rfl) (p_fieldAddr (k := 1) rfl evA kR) ?_
      refine d_rd [_] rfl rfl dC rfl rfl (want_none rfl) (r_load1 rfl Try.underlying3 rfl evA (restr1 hpA) ceA) ?_
      refine d_pv rfl rfl dC rfl rfl (want_none rfl) (p_val evA) ?_
      refine d_pv rfl rfl dC rfl rfl (want_none rfl) (p_val evA) ?_
      refine d_pv rfl rfl dC rfl rfl (want_let rfl rfl evA) (p_fieldAddr (k := 1) rfl evA kR) ?_
      refine d_rd [_] rfl rfl dC rfl rfl (want_let rfl rfl evA) (r_load1 rfl Try.underlying3 rfl evA (restr1 hpA) ceA) ?_
      refine d_pv rfl rfl dC rfl rfl (want_let rfl rfl evA) (p_val evA) ?_
      refine d_pv rfl rfl dC rfl rfl (want_none rfl) (p_val evA) ?_
      refine d_pv rfl rfl dC rfl rfl (want_none rfl) (p_val evA) ?_
      refine d_skp rfl rfl dC (want_not rfl rfl evA rfl) ?_
      refine d_skp rfl rfl dC (want_not rfl rfl evA rfl) ?_
      refine d_skp rfl rfl dC (want_not rfl rfl evA rfl) ?_
      refine d_skp rfl rfl dC (want_not rfl rfl evA rfl) ?_
      refine d_skp rfl rfl dC (want_not rfl rfl evA rfl) ?_
      refine d_skp rfl rfl dC (want_not rfl rfl evA rfl) ?_
      refine d_skp rfl rfl dC (want_not rfl rfl evA rfl) ?_
      refine d_pv rfl rfl dC rfl rfl (want_none rfl) (p_val evA) ?_
      refine d_pv rfl rfl dC rfl rfl (want_none rfl) (p_val evA) ?_
      refine d_nil ?_
      refine s_ret ⟨_, res_one rfl rfl, hle, ?_⟩
      simp only [pval, ev, upd, binVal, intBin, Option.map_some, ↓reduceIte, reduceCtorEq, Nat.reduceEqDiff, Nat.reduceBEq, List.map_toArray, List.map_cons, List.map_nil, cond_true, cond_false, decide_true, decide_false, Bool.not_true, Bool.not_false, Bool.true_and, Bool.false_and, Bool.and_true, Bool.and_false, beq_self_eq_true, bne_self_eq_false, List.getElem_toArray, List.getElem_cons_succ, List.getElem_cons_zero, e1, e2, Bool.true_and, Bool.false_and]
  · have e1 : decide (n ≥ 0) = false := decide_eq_false hn
    refine s_draw [(0, true), (1, true), (2, true), (3, true), (4, true), (5, true), (6, true), (7, true), (8, true), (9, true), (10, true), (11, true), (12, true), (13, true), (14, true), (15, true), (16, true), (17, true)] [] [] rfl kR kR ?_
    refine d_pv rfl rfl dC rfl rfl (want_none rfl) (p_fieldAddr (k := 1) rfl evA kR) ?_
    refine d_rd [_] rfl rfl dC rfl rfl (want_none rfl) (r_load1 rfl Try.underlying3 rfl evA (restr1 hpA) ceA) ?_
    refine d_pv rfl rfl dC rfl rfl (want_none rfl) (p_val evA) ?_
    refine d_pv rfl rfl dC rfl rfl (want_none rfl) (p_val evA) ?_
    refine d_skp rfl rfl dC (want_not rfl rfl evA rfl) ?_
    refine d_skp rfl rfl dC (want_not rfl rfl evA rfl) ?_
    refine d_skp rfl rfl dC (want_not rfl rfl evA rfl) ?_
    refine d_pv rfl rfl dC rfl rfl (want_none rfl) (p_val evA) ?_
    refine d_pv rfl rfl dC rfl rfl (want_none rfl) (p_val evA) ?_
    refine d_skp rfl rfl dC (want_not rfl rfl evA rfl) ?_
    refine d_skp rfl rfl dC (want_not rfl rfl evA rfl) ?_
    refine d_skp rfl rfl dC (want_not rfl rfl evA rfl) ?_
    refine d_skp rfl rfl dC (want_not rfl rfl evA rfl) ?_
    refine d_skp rfl rfl dC (want_not rfl rfl evA rfl) ?_
    refine d_skp rfl rfl dC (want_not rfl rfl evA rfl) ?_
    refine d_skp rfl rfl dC (want_not rfl rfl evA rfl) ?_
    refine d_pv rfl rfl dC rfl rfl (want_none rfl) (p_val evA) ?_
    refine d_pv rfl rfl dC rfl rfl (want_none rfl) (p_val evA) ?_
    refine d_nil ?_
    refine s_ret ⟨_, res_one rfl rfl, hle, ?_⟩
    simp only [pval, ev, upd, binVal, intBin, Option.map_some, ↓reduceIte, reduceCtorEq, Nat.reduceEqDiff, Nat.reduceBEq, List.map_toArray, List.map_cons, List.map_nil, cond_true, cond_false, decide_true, decide_false, Bool.not_true, Bool.not_false, Bool.true_and, Bool.false_and, Bool.and_true, Bool.and_false, beq_self_eq_true, bne_self_eq_false, List.getElem_toArray, List.getElem_cons_succ, List.getElem_cons_zero, e1, Bool.false_and]

theorem maskN_nat : ∀ m : Nat, m ≤ 32 → maskN m = (maskNat m : Int) := by decide
theorem bv_and (A B : Nat) (hA : A < 4294967296) (hB : B < 4294967296) : IntKind.u32.wrap ((BitVec.ofInt IntKind.u32.bits (A : Int) &&& BitVec.ofInt IntKind.u32.bits (B : Int)).toNat : Int) = ((A &&& B : Nat) : Int) := by
  change IntKind.u32.wrap ((BitVec.ofInt 32 (A : Int) &&& BitVec.ofInt 32 (B : Int)).toNat : Int) = _
  rw [BitVec.ofInt_natCast, BitVec.ofInt_natCast, BitVec.toNat_and, BitVec.toNat_ofNat, BitVec.toNat_ofNat, Nat.mod_eq_of_lt (by exact hA), Nat.mod_eq_of_lt (by exact hB)]
  exact wrap32_nat _ (Nat.lt_of_le_of_lt Nat.and_le_left hA)
theorem bv_or (A B : Nat) (hA : A < 4294967296) (hB : B < 4294967296) : IntKind.u32.wrap ((BitVec.ofInt IntKind.u32.bits (A : Int) ||| BitVec.ofInt IntKind.u32.bits (B : Int)).toNat : Int) = ((A ||| B : Nat) : Int) := by
  change IntKind.u32.wrap ((BitVec.ofInt 32 (A : Int) ||| BitVec.ofInt 32 (B : Int)).toNat : Int) = _
  rw [BitVec.ofInt_natCast, BitVec.ofInt_natCast, BitVec.toNat_or, BitVec.toNat_ofNat, BitVec.toNat_ofNat, Nat.mod_eq_of_lt (by exact hA), Nat.mod_eq_of_lt (by exact hB)]
  exact wrap32_nat _ (Nat.or_lt_two_pow (n := 32) hA hB)
theorem bv_xor (A B : Nat) (hA : A < 4294967296) (hB : B < 4294967296) : IntKind.u32.wrap ((BitVec.ofInt IntKind.u32.bits (A : Int) ^^^ BitVec.ofInt IntKind.u32.bits (B : Int)).toNat : Int) = ((A ^^^ B : Nat) : Int) := by
  change IntKind.u32.wrap ((BitVec.ofInt 32 (A : Int) ^^^ BitVec.ofInt 32 (B : Int)).toNat : Int) = _
  rw [BitVec.ofInt_natCast, BitVec.ofInt_natCast, BitVec.toNat_xor, BitVec.toNat_ofNat, BitVec.toNat_ofNat, Nat.mod_eq_of_lt (by exact hA), Nat.mod_eq_of_lt (by exact hB)]
  exact wrap32_nat _ (Nat.xor_lt_two_pow (n := 32) hA hB)
theorem bv_andNot_zero (A m : Nat) (hA : A < 4294967296) (hm : m ≤ 32) : (IntKind.u32.wrap ((BitVec.ofInt IntKind.u32.bits (A : Int) &&& ~~~(BitVec.ofInt IntKind.u32.bits (maskNat m : Int))).toNat : Int) == 0) = decide (cut A m = A) := by
  change (IntKind.u32.wrap ((BitVec.ofInt 32 (A : Int) &&& ~~~(BitVec.ofInt 32 (maskNat m : Int))).toNat : Int) == 0) = _
  rw [BitVec.ofInt_natCast, BitVec.ofInt_natCast]
  have hlt := (BitVec.ofNat 32 A &&& ~~~(BitVec.ofNat 32 (maskNat m))).isLt
  rw [wrap32_nat _ hlt]
  have hz : (((BitVec.ofNat 32 A &&& ~~~(BitVec.ofNat 32 (maskNat m))).toNat : Int) == 0) = decide (BitVec.ofNat 32 A &&& ~~~(BitVec.ofNat 32 (maskNat m)) = 0#32) := by
    rw [Bool.eq_iff_iff]
    simp only [beq_iff_eq, decide_eq_true_eq]
    constructor
    · intro h
      apply BitVec.eq_of_toNat_eq
      simpa using h
    · intro h; rw [h]; rfl
  rw [hz]
  rw [Bool.eq_iff_iff]
  simp only [decide_eq_true_eq]
  have hbit : ∀ j, j < 32 → (BitVec.ofNat 32 A).getLsbD j = A.testBit j := fun j hj => by rw [BitVec.getLsbD_ofNat]; simp [hj]
  have hbm : ∀ j, j < 32 → (BitVec.ofNat 32 (maskNat m)).getLsbD j = decide (32 - m ≤ j) := fun j hj => by rw [BitVec.getLsbD_ofNat, maskNat_bit m hm j hj]; simp [hj]
  constructor
  · intro h
    refine eq_of_bits _ _ (cut_lt A m hA) hA fun i hi => ?_
    rw [cut_bit A m hA hm i hi]
    by_cases h1 : i < m
    · simp [h1]
    · have h2 := congrArg (fun b : BitVec 32 => b.getLsbD (31 - i)) h
      simp only [BitVec.getLsbD_and, BitVec.getLsbD_not, hbit _ (show 31 - i < 32 by omega), hbm _ (show 31 - i < 32 by omega)] at h2
      have h3 : ¬ (32 - m ≤ 31 - i) := by omega
      have h4 : (31 - i < 32) := by omega
      simp [h3, h4] at h2
      simp [h1, bitI, h2]
  · intro h
    apply BitVec.eq_of_getLsbD_eq
    intro j hj
    simp only [BitVec.getLsbD_and, BitVec.getLsbD_not, hbit _ hj, hbm _ hj]
    have h1 : A.testBit j = (A.testBit j && decide (32 - m ≤ j)) := by
      have := cut_bit A m hA hm (31 - j) (by omega)
      rw [h] at this
      unfold bitI at this
      rw [show 31 - (31 - j) = j by omega] at this
      rw [this]
      congr 1
      simp; omega
    rw [h1]
    by_cases h2 : 32 - m ≤ j <;> simp [h2]
theorem clip_of (n : Nat) (h : n ≤ 32) : clip (n : Int) = n := by unfold clip; split <;> (try split) <;> omega
/-- Whether a prefix may be. -/
def okPfx (A : Nat) (n : Int) : Bool := decide (0 ≤ n ∧ n ≤ 32 ∧ cut A n.toNat = A)
theorem validB_eq (A : Nat) (n : Int) (hA : A < 4294967296) : validB (A : Int) n = okPfx A n := by
  unfold validB okPfx
  by_cases h0 : 0 ≤ n
  · by_cases h1 : n ≤ 32
    · have hc : clip n = n.toNat := by
        have := clip_of n.toNat (by omega)
        rwa [Int.toNat_of_nonneg h0] at this
      rw [hc, maskN_nat _ (by omega), bv_andNot_zero A _ hA (by omega)]
      simp [h0, h1]
    · simp [h1]
  · simp [h0]
theorem bit_ok (A i : Nat) (hA : A < 4294967296) (hi : i ≤ 31) (h : Heap) : SCalls Try.prog 44 #[.int .u32 A, .int .i64 i] h (fun v h' => h' = h ∧ v = .int .i64 (if bitI A i then 1 else 0)) := by
  refine s_enter Try.func44 rfl (by rw [Try.ntmps44]; simp) ?_
  rw [Try.ntmps44]
  have hb := bit_eq A i hA hi
  generalize hT : T0 #[.int .u32 A, .int .i64 i] = T
  have h0 : T 0 = .int .u32 A := by rw [← hT]; rfl
  have h1 : T 1 = .int .i64 i := by rw [← hT]; rfl
  clear hT
  have hw : IntKind.i64.wrap (31 - (i : Int)) = ((31 - i : Nat) : Int) := by rw [wrap64_in _ (by omega) (by omega)]; omega
  refine s_seq ?_
  refine s_region ?_
  refine w_pv rfl dC (want_none rfl) (p_val evA) ?_
  refine w_nil ?_
  refine s_seq ?_
  refine s_region ?_
  refine w_pv rfl dC (want_none rfl) (p_val evA) ?_
  refine w_pv rfl dC (want_none rfl) (p_val evA) ?_
  refine w_pv rfl dC (want_none rfl) (p_val evA) ?_
  refine w_rd rfl dC (want_none rfl) (r_shr rfl evA evA arA) ?_
  refine w_pv rfl dC (want_none rfl) (p_val evA) ?_
  refine w_rd rfl dC (want_none rfl) (r_convert_int rfl Try.underlying23 Try.underlying3 evA rfl) ?_
  refine w_pv rfl dC (want_none rfl) (p_val evA) ?_
  refine w_nil ?_
  refine s_ret ⟨_, res_one rfl rfl, rfl, ?_⟩
  simp only [pval, ev, upd, binVal, intBin, Option.map_some, ↓reduceIte, reduceCtorEq, Nat.reduceEqDiff, Nat.reduceBEq, List.map_toArray, List.map_cons, List.map_nil, cond_true, cond_false, decide_true, decide_false, Bool.not_true, Bool.not_false, Bool.true_and, Bool.false_and, Bool.and_true, Bool.and_false, beq_self_eq_true, bne_self_eq_false, List.getElem_toArray, List.getElem_cons_succ, List.getElem_cons_zero, Int.toNat_natCast]
  rw [hb]
theorem maskNat_step : ∀ k : Nat, k < 32 → maskNat k ||| 2 ^ (31 - k) = maskNat (k + 1) := by decide
theorem rmask_ok (n : Int) (h : Heap) : SCalls Try.prog 14 #[.int .i64 n] h (fun v h' => h' = h ∧ v = .int .u32 (maskNat (clip n))) := by
  refine s_enter Try.func14 rfl (by rw [Try.ntmps14]; simp) ?_
  rw [Try.ntmps14]
  generalize hT : T0 #[.int .i64 n] = T
  have h0 : T 0 = .int .i64 n := by rw [← hT]; rfl
  clear hT
  repeat refine s_seq ?_
  refine s_region ?_
  refine w_pv rfl dC (want_none rfl) (p_val evA) ?_
  refine w_nil ?_
  repeat refine s_seq ?_
  refine s_region ?_
  refine w_pv rfl dC (want_none rfl) (p_val evA) ?_
  refine w_nil ?_
  repeat refine s_seq ?_
  refine s_region ?_
  refine w_pv rfl dC (want_none rfl) (p_val evA) ?_
  refine w_nil ?_
  repeat refine s_seq ?_
  refine (s_block (s_loop (fun m T h' => ∃ i : Nat, m = 33 - i ∧ i ≤ clip n ∧ h' = h ∧ T 0 = .int .i64 n ∧ T 3 = .int .u32 (maskNat i) ∧ T 4 = .int .i64 i) (n0 := 33) ⟨0, rfl, Nat.zero_le _, rfl, slA, by simp only [pval, ev, upd, binVal, intBin, Option.map_some, ↓reduceIte, reduceCtorEq, Nat.reduceEqDiff, Nat.reduceBEq, List.map_toArray, List.map_cons, List.map_nil, cond_true, cond_false, decide_true, decide_false, Bool.not_true, Bool.not_false, Bool.true_and, Bool.false_and, Bool.and_true, Bool.and_false, beq_self_eq_true, bne_self_eq_false, List.getElem_toArray, List.getElem_cons_succ, List.getElem_cons_zero, *] <;> rfl, by simp only [pval, ev, upd, binVal, intBin, Option.map_some, ↓reduceIte, reduceCtorEq, Nat.reduceEqDiff, Nat.reduceBEq, List.map_toArray, List.map_cons, List.map_nil, cond_true, cond_false, decide_true, decide_false, Bool.not_true, Bool.not_false, Bool.true_and, Bool.false_and, Bool.and_true, Bool.and_false, beq_self_eq_true, bne_self_eq_false, List.getElem_toArray, List.getElem_cons_succ, List.getElem_cons_zero, *] <;> rfl⟩ ?_))
  clear h0 T
  rintro m T h' ⟨i, rfl, hi, rfl, h0, h3, h4⟩
  have hcl := clip_le n
  by_cases hlt : i < clip n
  · have e1 : decide ((i : Int) < n) = true := decide_eq_true (by unfold clip at hlt; split at hlt <;> (try split at hlt) <;> omega)
    have e2 : decide ((i : Int) < 32) = true := decide_eq_true (by omega)
    have hw : IntKind.i64.wrap (31 - (i : Int)) = ((31 - i : Nat) : Int) := by rw [wrap64_in _ (by omega) (by omega)]; omega
    have hw2 : IntKind.u64.wrap ((31 - i : Nat) : Int) = ((31 - i : Nat) : Int) := wrapU64_in _ (by omega) (by omega)
    have hw3 : IntKind.i64.wrap ((i : Int) + 1) = ((i + 1 : Nat) : Int) := by rw [wrap64_in _ (by omega) (by omega)]; omega
    repeat refine s_seq ?_
    refine s_region ?_
    refine w_pv rfl dC (want_none rfl) (p_val evA) ?_
    refine w_pv rfl dC (want_none rfl) (p_val evA) ?_
    refine w_pv rfl dC (want_none rfl) (p_val evA) ?_
    refine w_pv rfl dC (want_none rfl) (p_val evA) ?_
    refine w_pv rfl dC (want_let rfl rfl evA) (p_val evA) ?_
    refine w_pv rfl dC (want_let rfl rfl evA) (p_val evA) ?_
    refine w_pv rfl dC (want_none rfl) (p_val evA) ?_
    refine w_nil ?_
    refine (s_cond (t := true) slA (s_skip ?_))
    repeat refine s_seq ?_
    refine (s_block ?_)
    refine s_region ?_
    refine w_pv rfl dC (want_none rfl) (p_val evA) ?_
    refine w_pv rfl dC (want_none rfl) (p_val evA) ?_
    refine w_pv rfl dC (want_none rfl) (p_val evA) ?_
    refine w_rd rfl dC (want_none rfl) (r_convert_int rfl Try.underlying3 Try.underlying41 evA rfl) ?_
    refine w_rd rfl dC (want_none rfl) (r_shl rfl evA evA arA) ?_
    refine w_pv rfl dC (want_none rfl) (p_val evA) ?_
    refine w_pv rfl dC (want_none rfl) (p_val evA) ?_
    refine w_nil ?_
    repeat refine s_seq ?_
    refine s_region ?_
    refine w_pv rfl dC (want_none rfl) (p_val evA) ?_
    refine w_pv rfl dC (want_none rfl) (p_val evA) ?_
    refine w_pv rfl dC (want_none rfl) (p_val evA) ?_
    refine w_nil ?_
    refine ⟨33 - (i + 1), by omega, i + 1, rfl, by omega, rfl, slA, ?_, slA⟩
    simp only [pval, ev, upd, binVal, intBin, Option.map_some, ↓reduceIte, reduceCtorEq, Nat.reduceEqDiff, Nat.reduceBEq, List.map_toArray, List.map_cons, List.map_nil, cond_true, cond_false, decide_true, decide_false, Bool.not_true, Bool.not_false, Bool.true_and, Bool.false_and, Bool.and_true, Bool.and_false, beq_self_eq_true, bne_self_eq_false, List.getElem_toArray, List.getElem_cons_succ, List.getElem_cons_zero, *]
    have hp : (2 : Nat) ^ (31 - i) < 4294967296 := Nat.pow_lt_pow_right (by decide) (show 31 - i < 32 by omega)
    have hm : min (31 - i) IntKind.u32.bits = 31 - i := by show min (31 - i) 32 = _; omega
    have h2 : (1 : Int) * 2 ^ min (((31 - i : Nat) : Int)).toNat IntKind.u32.bits = ((2 ^ (31 - i) : Nat) : Int) := by
      rw [Int.toNat_natCast, hm, Int.one_mul]; simp
    rw [h2, wrap32_nat _ hp, bv_or _ _ (maskNat_lt i) hp, maskNat_step i (by omega)]
  · have hic : clip n = i := by omega
    by_cases hn : (i : Int) < n
    · have e1 : decide ((i : Int) < n) = true := decide_eq_true hn
      have e2 : decide ((i : Int) < 32) = false := decide_eq_false (by intro h32; unfold clip at hic; split at hic <;> (try split at hic) <;> omega)
      repeat refine s_seq ?_
      refine s_region ?_
      refine w_pv rfl dC (want_none rfl) (p_val evA) ?_
      refine w_pv rfl dC (want_none rfl) (p_val evA) ?_
      refine w_pv rfl dC (want_none rfl) (p_val evA) ?_
      refine w_pv rfl dC (want_none rfl) (p_val evA) ?_
      refine w_pv rfl dC (want_let rfl rfl evA) (p_val evA) ?_
      refine w_pv rfl dC (want_let rfl rfl evA) (p_val evA) ?_
      refine w_pv rfl dC (want_none rfl) (p_val evA) ?_
      refine w_nil ?_
      refine (s_cond (t := false) slA (s_exit ?_))
      repeat refine s_seq ?_
      refine s_region ?_
      refine w_pv rfl dC (want_none rfl) (p_val evA) ?_
      refine w_pv rfl dC (want_none rfl) (p_val evA) ?_
      refine w_nil ?_
      refine s_ret ⟨_, res_one rfl rfl, rfl, ?_⟩
      simp only [pval, ev, upd, binVal, intBin, Option.map_some, ↓reduceIte, reduceCtorEq, Nat.reduceEqDiff, Nat.reduceBEq, List.map_toArray, List.map_cons, List.map_nil, cond_true, cond_false, decide_true, decide_false, Bool.not_true, Bool.not_false, Bool.true_and, Bool.false_and, Bool.and_true, Bool.and_false, beq_self_eq_true, bne_self_eq_false, List.getElem_toArray, List.getElem_cons_succ, List.getElem_cons_zero, *]
    · have e1 : decide ((i : Int) < n) = false := decide_eq_false hn
      repeat refine s_seq ?_
      refine s_region ?_
      refine w_pv rfl dC (want_none rfl) (p_val evA) ?_
      refine w_pv rfl dC (want_none rfl) (p_val evA) ?_
      refine w_pv rfl dC (want_none rfl) (p_val evA) ?_
      refine w_pv rfl dC (want_none rfl) (p_val evA) ?_
      refine w_skp rfl dC (want_not rfl rfl evA rfl) ?_
      refine w_skp rfl dC (want_not rfl rfl evA rfl) ?_
      refine w_pv rfl dC (want_none rfl) (p_val evA) ?_
      refine w_nil ?_
      refine (s_cond (t := false) slA (s_exit ?_))
      repeat refine s_seq ?_
      refine s_region ?_
      refine w_pv rfl dC (want_none rfl) (p_val evA) ?_
      refine w_pv rfl dC (want_none rfl) (p_val evA) ?_
      refine w_nil ?_
      refine s_ret ⟨_, res_one rfl rfl, rfl, ?_⟩
      simp only [pval, ev, upd, binVal, intBin, Option.map_some, ↓reduceIte, reduceCtorEq, Nat.reduceEqDiff, Nat.reduceBEq, List.map_toArray, List.map_cons, List.map_nil, cond_true, cond_false, decide_true, decide_false, Bool.not_true, Bool.not_false, Bool.true_and, Bool.false_and, Bool.and_true, Bool.and_false, beq_self_eq_true, bne_self_eq_false, List.getElem_toArray, List.getElem_cons_succ, List.getElem_cons_zero, *]
end Go.Proofs.Ytielfejpnkcjbaa

/- Small functions: numbers within bounds, lists of numbers held against each other, copied. -/
set_option linter.unusedVariables false
set_option linter.unusedSimpArgs false
namespace Go.Proofs.Ytielfejpnkcjbaa
open Sl
theorem Sl.Cells.form {h : Heap} {sz n : Nat} {v : Value} {cs : List Value} (x : Cells h sz v n cs) : ∃ a c, v = .slice a n c := by
  cases x with
  | zero a c => exact ⟨_, _, rfl⟩
  | at_ => exact ⟨_, _, rfl⟩
theorem Sl.Cells.get {h : Heap} {sz n : Nat} {v : Value} {cs : List Value} (x : Cells h sz v n cs) {i : Nat} (hi : i < n) :
    ∃ b off c full e fz, v = .slice (some ⟨b, off, none⟩) n c ∧ h b = some (.cells full e fz) ∧ ∀ j, j < sz → full[off + i * sz + j]? = cs[i * sz + j]? := by
  cases x with
  | zero a c => omega
  | @at_ b off n c full e fz cs hb hl hnc hc =>
    refine ⟨b, off, c, full, e, fz, rfl, hb, fun j hj => ?_⟩
    have hlt : i * sz + j < n * sz := by
      have : (i + 1) * sz ≤ n * sz := Nat.mul_le_mul_right _ hi
      rw [Nat.add_mul] at this; omega
    rw [← hc, List.getElem?_take_of_lt hlt, List.getElem?_drop, Array.getElem?_toList, Nat.add_assoc]
theorem tmod_fix (n b : Int) (hb : 0 < b) : (0 ≤ n.tmod b → n.tmod b = n % b) ∧ (n.tmod b < 0 → n.tmod b + b = n % b) ∧ -b < n.tmod b ∧ n.tmod b < b := by
  have h1 := Int.tmod_eq_emod (a := n) (b := b)
  have h2 := Int.emod_nonneg n (show b ≠ 0 by omega)
  have h3 := Int.emod_lt_of_pos n hb
  have hab : (b.natAbs : Int) = b := by omega
  split at h1
  · omega
  · rename_i hc
    have hne : n % b ≠ 0 := fun e => hc (.inr (Int.dvd_of_emod_eq_zero e))
    rw [hab] at h1
    omega
theorem number_ok (n b : Int) (hb : 0 < b) (hb' : b ≤ 4611686018427387904) (h : Heap) : SCalls Try.prog 12 #[.int .i64 n, .int .i64 b] h (fun v h' => h' = h ∧ v = .int .i64 (n % b)) := by
  refine s_enter Try.func12 rfl (by rw [Try.ntmps12]; simp) ?_
  rw [Try.ntmps12]
  obtain ⟨hf1, hf2, hlow, hhigh⟩ := tmod_fix n b hb
  have h2 := Int.emod_nonneg n (show b ≠ 0 by omega)
  have h3 := Int.emod_lt_of_pos n hb
  have hbn : b ≠ 0 := by omega
  have hbn' : (b == 0) = false := by simp [hbn]
  have hw : IntKind.i64.wrap (n.tmod b) = n.tmod b := wrap64_in _ (by omega) (by omega)
  generalize hT : T0 #[.int .i64 n, .int .i64 b] = T
  have h0 : T 0 = .int .i64 n := by rw [← hT]; rfl
  have h1 : T 1 = .int .i64 b := by rw [← hT]; rfl
  clear hT
  repeat refine s_seq ?_
  repeat refine s_seq ?_
  refine s_region ?_
  refine w_pv rfl dC (want_none rfl) (p_val evA) ?_
  refine w_nil ?_
  repeat refine s_seq ?_
  refine s_region ?_
  refine w_pv rfl dC (want_none rfl) (p_val evA) ?_
  refine w_pv rfl dC (want_none rfl) (p_val evA) ?_
  refine w_rd rfl dC (want_none rfl) (r_rem rfl evA evA arA) ?_
  refine w_pv rfl dC (want_none rfl) (p_val evA) ?_
  refine w_nil ?_
  repeat refine s_seq ?_
  refine s_region ?_
  refine w_pv rfl dC (want_none rfl) (p_val evA) ?_
  refine w_pv rfl dC (want_none rfl) (p_val evA) ?_
  refine w_nil ?_
  generalize n.tmod b = r at *
  generalize n % b = r' at *
  by_cases hr : r < 0
  · have hd : decide (r < 0) = true := decide_eq_true hr
    have hw2 : IntKind.i64.wrap (r + b) = r' := by rw [hf2 hr]; exact wrap64_in _ (by omega) (by omega)
    clear hf1 hf2
    repeat refine s_seq ?_
    refine s_cond (t := true) slA ?_
    repeat refine s_seq ?_
    refine s_region ?_
    refine w_pv rfl dC (want_none rfl) (p_val evA) ?_
    refine w_pv rfl dC (want_none rfl) (p_val evA) ?_
    refine w_pv rfl dC (want_none rfl) (p_val evA) ?_
    refine w_pv rfl dC (want_none rfl) (p_val evA) ?_
    refine w_nil ?_
    repeat refine s_seq ?_
    refine s_region ?_
    refine w_pv rfl dC (want_none rfl) (p_val evA) ?_
    refine w_pv rfl dC (want_none rfl) (p_val evA) ?_
    refine w_nil ?_
    refine s_ret ⟨_, res_one rfl rfl, rfl, ?_⟩
    simp only [pval, ev, upd, binVal, intBin, Option.map_some, ↓reduceIte, reduceCtorEq, Nat.reduceEqDiff, Nat.reduceBEq, List.map_toArray, List.map_cons, List.map_nil, cond_true, cond_false, decide_true, decide_false, Bool.not_true, Bool.not_false, Bool.true_and, Bool.false_and, Bool.and_true, Bool.and_false, beq_self_eq_true, bne_self_eq_false, List.getElem_toArray, List.getElem_cons_succ, List.getElem_cons_zero, *]
  · have hd : decide (r < 0) = false := decide_eq_false hr
    have hw2 : r = r' := hf1 (by omega)
    subst hw2
    clear hf1 hf2
    repeat refine s_seq ?_
    refine s_cond (t := false) slA ?_
    repeat refine s_seq ?_
    refine s_skip ?_
    repeat refine s_seq ?_
    refine s_region ?_
    refine w_pv rfl dC (want_none rfl) (p_val evA) ?_
    refine w_pv rfl dC (want_none rfl) (p_val evA) ?_
    refine w_nil ?_
    refine s_ret ⟨_, res_one rfl rfl, rfl, ?_⟩
    simp only [pval, ev, upd, binVal, intBin, Option.map_some, ↓reduceIte, reduceCtorEq, Nat.reduceEqDiff, Nat.reduceBEq, List.map_toArray, List.map_cons, List.map_nil, cond_true, cond_false, decide_true, decide_false, Bool.not_true, Bool.not_false, Bool.true_and, Bool.false_and, Bool.and_true, Bool.and_false, beq_self_eq_true, bne_self_eq_false, List.getElem_toArray, List.getElem_cons_succ, List.getElem_cons_zero, *]
theorem sameInts_ok (u v : Value) (xs ys : List Int) (h : Heap) (hu : Cells h 1 u xs.length (xs.map (.int .i64))) (hv : Cells h 1 v ys.length (ys.map (.int .i64))) (hx : xs.length ≤ 4611686018427387904) (hy : ys.length ≤ 4611686018427387904) :
    SCalls Try.prog 16 #[u, v] h (fun r h' => h' = h ∧ r = .bool (decide (xs = ys))) := by
  refine s_enter Try.func16 rfl (by rw [Try.ntmps16]; simp) ?_
  rw [Try.ntmps16]
  obtain ⟨a1, c1, rfl⟩ := hu.form
  obtain ⟨a2, c2, rfl⟩ := hv.form
  generalize hT : T0 #[.slice a1 xs.length c1, .slice a2 ys.length c2] = T
  have h0 : T 0 = .slice a1 xs.length c1 := by rw [← hT]; rfl
  have h1 : T 1 = .slice a2 ys.length c2 := by rw [← hT]; rfl
  clear hT
  repeat refine s_seq ?_
  refine s_region ?_
  refine w_pv rfl dC (want_none rfl) (p_val evA) ?_
  refine w_nil ?_
  repeat refine s_seq ?_
  refine s_region ?_
  refine w_pv rfl dC (want_none rfl) (p_val evA) ?_
  refine w_rd rfl dC (want_none rfl) (r_len_slice rfl Try.underlying28 evA) ?_
  refine w_pv rfl dC (want_none rfl) (p_val evA) ?_
  refine w_rd rfl dC (want_none rfl) (r_len_slice rfl Try.underlying28 evA) ?_
  refine w_pv rfl dC (want_none rfl) (p_val evA) ?_
  refine w_nil ?_
  by_cases hl : ys.length = xs.length
  · have hl' : ((xs.length : Int) != (ys.length : Int)) = false := by simp [hl]
    refine s_cond (t := false) (by simp only [pval, ev, upd, binVal, intBin, Option.map_some, ↓reduceIte, reduceCtorEq, Nat.reduceEqDiff, Nat.reduceBEq, List.map_toArray, List.map_cons, List.map_nil, cond_true, cond_false, decide_true, decide_false, Bool.not_true, Bool.not_false, Bool.true_and, Bool.false_and, Bool.and_true, Bool.and_false, beq_self_eq_true, bne_self_eq_false, List.getElem_toArray, List.getElem_cons_succ, List.getElem_cons_zero, hl']) (s_skip ?_)
    repeat refine s_seq ?_
    refine s_region ?_
    refine w_pv rfl dC (want_none rfl) (p_val evA) ?_
    refine w_nil ?_
    repeat refine s_seq ?_
    refine (s_block (s_loop (fun m T h' => ∃ i : Nat, m = xs.length - i ∧ i ≤ xs.length ∧ (∀ j, j < i → xs[j]? = ys[j]?) ∧ h' = h ∧ T 0 = .slice a1 xs.length c1 ∧ T 1 = .slice a2 ys.length c2 ∧ T 5 = .int .i64 i) (n0 := xs.length) ⟨0, rfl, Nat.zero_le _, by omega, rfl, slA, slA, by simp only [pval, ev, upd, binVal, intBin, Option.map_some, ↓reduceIte, reduceCtorEq, Nat.reduceEqDiff, Nat.reduceBEq, List.map_toArray, List.map_cons, List.map_nil, cond_true, cond_false, decide_true, decide_false, Bool.not_true, Bool.not_false, Bool.true_and, Bool.false_and, Bool.and_true, Bool.and_false, beq_self_eq_true, bne_self_eq_false, List.getElem_toArray, List.getElem_cons_succ, List.getElem_cons_zero, *] <;> rfl⟩ ?_))
    clear h0 h1 T
    rintro m T h' ⟨i, rfl, hi, hsame, rfl, h0, h1, h5⟩
    by_cases hlt : i < xs.length
    · have e1 : decide ((i : Int) < (xs.length : Int)) = true := decide_eq_true (by omega)
      have hw3 : IntKind.i64.wrap ((i : Int) + 1) = ((i + 1 : Nat) : Int) := wrap64_nat _ _ (by omega) (by omega)
      obtain ⟨b1, o1, k1, f1, t1, z1, q1, hb1, hg1⟩ := hu.get hlt
      obtain ⟨b2, o2, k2, f2, t2, z2, q2, hb2, hg2⟩ := hv.get (i := i) (by omega)
      cases q1
      cases q2
      obtain ⟨x, hxi⟩ : ∃ x, xs[i]? = some x := ⟨_, List.getElem?_eq_getElem hlt⟩
      obtain ⟨y, hyi⟩ : ∃ y, ys[i]? = some y := ⟨_, List.getElem?_eq_getElem (by omega)⟩
      have g1 : f1[o1 + i * 1]? = some (.int .i64 x) := by have := hg1 0 (by omega); simpa [hxi] using this
      have g2 : f2[o2 + i * 1]? = some (.int .i64 y) := by have := hg2 0 (by omega); simpa [hyi] using this
      clear hg1 hg2
      have hii : (0 : Int) ≤ (i : Int) := by omega
      have hi1 : (i : Int) < (xs.length : Int) := by omega
      have hi2 : (i : Int) < (ys.length : Int) := by omega
      clear hl'
      repeat refine s_seq ?_
      refine s_region ?_
      refine w_pv rfl dC (want_none rfl) (p_val evA) ?_
      refine w_pv rfl dC (want_none rfl) (p_val evA) ?_
      refine w_rd rfl dC (want_none rfl) (r_len_slice rfl Try.underlying28 evA) ?_
      refine w_pv rfl dC (want_none rfl) (p_val evA) ?_
      refine w_nil ?_
      refine (s_cond (t := true) slA (s_skip ?_))
      repeat refine s_seq ?_
      refine s_block ?_
      repeat refine s_seq ?_
      refine s_draw [(0, true), (1, true), (2, true), (3, true), (4, true), (5, true), (6, true), (7, true), (8, true), (9, true)] [] [] rfl kR kR ?_
      refine d_pv rfl rfl dC rfl rfl (want_none rfl) (p_val evA) ?_
      refine d_pv rfl rfl dC rfl rfl (want_none rfl) (p_val evA) ?_
      refine d_pv rfl rfl dC rfl rfl (want_none rfl) (p_indexAddr (sz := 1) rfl Try.underlying28 kR kR evA evA hii hi1) ?_
      refine d_rd [_] rfl rfl dC rfl rfl (want_none rfl) (r_load1 rfl Try.underlying3 rfl evA (restr1 hpA) ceA) ?_
      refine d_pv rfl rfl dC rfl rfl (want_none rfl) (p_val evA) ?_
      refine d_pv rfl rfl dC rfl rfl (want_none rfl) (p_val evA) ?_
      refine d_pv rfl rfl dC rfl rfl (want_none rfl) (p_indexAddr (sz := 1) rfl Try.underlying28 kR kR evA evA hii hi2) ?_
      refine d_rd [_] rfl rfl dC rfl rfl (want_none rfl) (r_load1 rfl Try.underlying3 rfl evA (restr1 hpA) ceA) ?_
      refine d_pv rfl rfl dC rfl rfl (want_none rfl) (p_val evA) ?_
      refine d_pv rfl rfl dC rfl rfl (want_none rfl) (p_val evA) ?_
      refine d_nil ?_
      repeat refine s_seq ?_
      refine s_region ?_
      refine w_pv rfl dC (want_none rfl) (p_val evA) ?_
      refine w_pv rfl dC (want_none rfl) (p_val evA) ?_
      refine w_nil ?_
      by_cases hxy : x = y
      · have hne : (x == y) = true := by simp [hxy]
        refine s_cond (t := false) slA (s_skip ?_)
        refine s_region ?_
        refine w_pv rfl dC (want_none rfl) (p_val evA) ?_
        refine w_pv rfl dC (want_none rfl) (p_val evA) ?_
        refine w_pv rfl dC (want_none rfl) (p_val evA) ?_
        refine w_nil ?_
        refine ⟨xs.length - (i + 1), by omega, i + 1, rfl, by omega, ?_, rfl, slA, slA, slA⟩
        intro j hj
        by_cases hji : j = i
        · rw [hji, hxi, hyi, hxy]
        · exact hsame j (by omega)
      · have hne : (x == y) = false := by simp [hxy]
        refine s_cond (t := true) slA ?_
        repeat refine s_seq ?_
        refine s_region ?_
        refine w_pv rfl dC (want_none rfl) (p_val evA) ?_
        refine w_nil ?_
        refine s_ret ⟨_, res_one rfl rfl, rfl, ?_⟩
        have : ¬ xs = ys := by rintro rfl; rw [hxi] at hyi; exact hxy (Option.some.inj hyi)
        simp only [pval, ev, upd, binVal, intBin, Option.map_some, ↓reduceIte, reduceCtorEq, Nat.reduceEqDiff, Nat.reduceBEq, List.map_toArray, List.map_cons, List.map_nil, cond_true, cond_false, decide_true, decide_false, Bool.not_true, Bool.not_false, Bool.true_and, Bool.false_and, Bool.and_true, Bool.and_false, beq_self_eq_true, bne_self_eq_false, List.getElem_toArray, List.getElem_cons_succ, List.getElem_cons_zero, *]
    · have e1 : decide ((i : Int) < (xs.length : Int)) = false := decide_eq_false (by omega)
      clear hl'
      repeat refine s_seq ?_
      refine s_region ?_
      refine w_pv rfl dC (want_none rfl) (p_val evA) ?_
      refine w_pv rfl dC (want_none rfl) (p_val evA) ?_
      refine w_rd rfl dC (want_none rfl) (r_len_slice rfl Try.underlying28 evA) ?_
      refine w_pv rfl dC (want_none rfl) (p_val evA) ?_
      refine w_nil ?_
      refine (s_cond (t := false) slA (s_exit ?_))
      repeat refine s_seq ?_
      refine s_region ?_
      refine w_pv rfl dC (want_none rfl) (p_val evA) ?_
      refine w_nil ?_
      refine s_ret ⟨_, res_one rfl rfl, rfl, ?_⟩
      have : xs = ys := by
        apply List.ext_getElem?
        intro j
        by_cases hj : j < i
        · exact hsame j hj
        · rw [List.getElem?_eq_none (by omega), List.getElem?_eq_none (by omega)]
      subst this
      simp only [pval, ev, upd, binVal, intBin, Option.map_some, ↓reduceIte, reduceCtorEq, Nat.reduceEqDiff, Nat.reduceBEq, List.map_toArray, List.map_cons, List.map_nil, cond_true, cond_false, decide_true, decide_false, Bool.not_true, Bool.not_false, Bool.true_and, Bool.false_and, Bool.and_true, Bool.and_false, beq_self_eq_true, bne_self_eq_false, List.getElem_toArray, List.getElem_cons_succ, List.getElem_cons_zero, *]
  · have hl' : ((xs.length : Int) != (ys.length : Int)) = true := by simpa using fun e => hl (by omega)
    refine s_cond (t := true) (by simp only [pval, ev, upd, binVal, intBin, Option.map_some, ↓reduceIte, reduceCtorEq, Nat.reduceEqDiff, Nat.reduceBEq, List.map_toArray, List.map_cons, List.map_nil, cond_true, cond_false, decide_true, decide_false, Bool.not_true, Bool.not_false, Bool.true_and, Bool.false_and, Bool.and_true, Bool.and_false, beq_self_eq_true, bne_self_eq_false, List.getElem_toArray, List.getElem_cons_succ, List.getElem_cons_zero, hl']) ?_
    repeat refine s_seq ?_
    refine s_region ?_
    refine w_pv rfl dC (want_none rfl) (p_val evA) ?_
    refine w_nil ?_
    refine s_ret ⟨_, res_one rfl rfl, rfl, ?_⟩
    have : ¬ xs = ys := by rintro rfl; exact hl rfl
    simp only [pval, ev, upd, binVal, intBin, Option.map_some, ↓reduceIte, reduceCtorEq, Nat.reduceEqDiff, Nat.reduceBEq, List.map_toArray, List.map_cons, List.map_nil, cond_true, cond_false, decide_true, decide_false, Bool.not_true, Bool.not_false, Bool.true_and, Bool.false_and, Bool.and_true, Bool.and_false, beq_self_eq_true, bne_self_eq_false, List.getElem_toArray, List.getElem_cons_succ, List.getElem_cons_zero, *]
end Go.Proofs.Ytielfejpnkcjbaa

/- The trie in memory. -/
set_option linter.unusedVariables false
set_option linter.unusedSimpArgs false
namespace Go.Proofs.Ytielfejpnkcjbaa.Sl
mutual
def ckv (P : Program) : Nat → TypeId → Value → Bool
  | 0, _, _ => false
  | n + 1, t, v => match P.underlying t, v with
    | some (.struct fs), .agg cs => ckvF P n cs fs.toList
    | some (.int _), _ => true
    | some .string, _ => true
    | some .bool, _ => true
    | _, _ => false
def ckvF (P : Program) : Nat → Array Value → List Field → Bool
  | _, _, [] => true
  | n, cs, f :: r => (if f.name = "_" then true else match partV P f.type cs f.offset with | some a => ckv P n f.type a | none => false) && ckvF P n cs r
end
theorem run_ckv {P : Program} : ∀ (n : Nat) (t : TypeId) (v : Value) (emp : Bool) (w : World), ckv P n t v = true → (Instr.checkKey emp n t v).run P w = .ok () w := by
  intro n
  induction n with
  | zero => intro t v emp w h; simp [ckv] at h
  | succ n ih =>
    have ihF : ∀ (fs : List Field) (cs : Array Value) (emp : Bool) (w : World), ckvF P n cs fs = true → (forIn (m := Sem) fs PUnit.unit fun f __s => if f.name = "_" then pure (ForInStep.yield PUnit.unit) else do
        let x ← part f.type cs f.offset
        (fun a => ForInStep.yield PUnit.unit) <$> Instr.checkKey emp n f.type x).run P w = .ok PUnit.unit w := by
      intro fs
      induction fs with
      | nil => intro cs emp w h; rfl
      | cons f r ihr =>
        intro cs emp w h
        simp only [ckvF, Bool.and_eq_true] at h
        obtain ⟨h1, h2⟩ := h
        have ih2 := ihr cs emp w h2
        simp only [List.forIn_cons, Sem.run_bind]
        by_cases hf : f.name = "_"
        · simp only [hf, if_true, Sem.run_pure, Result.andThen_ok]; exact ih2
        · simp only [hf, if_false] at h1
          cases hp : partV P f.type cs f.offset with
          | none => rw [hp] at h1; cases h1
          | some a =>
            rw [hp] at h1
            simp only [hf, if_false, Sem.run_bind, run_partV hp, Result.andThen_ok, Sem.run_map, ih f.type a emp w h1, Sem.run_pure]
            exact ih2
    intro t v emp w h
    unfold ckv at h
    split at h
    · rename_i fs cs hu
      simp only [Instr.checkKey, Sem.run_bind, run_underlying hu, Result.andThen_ok]
      have := ihF fs.toList cs emp w h
      rw [Array.forIn_toList] at this
      simp [this]
    all_goals first | (rename_i hu; simp [Instr.checkKey, run_underlying hu]; done) | (cases h; done)
end Go.Proofs.Ytielfejpnkcjbaa.Sl
namespace Go.Proofs.Ytielfejpnkcjbaa
open Sl
theorem pfx_key : KeyLaw Try.prog 37 (fun k : Int × Int => pfxV k.1 k.2) where
  now := by
    intro d hd
    rw [Try.underlying37] at hd
    cases hd
    exact .inr fun _ _ => rfl
  eq := by
    intro k k' w
    refine run_eqv 10000 _ _ _ _ w ?_
    obtain ⟨a, b⟩ := k
    obtain ⟨c, d⟩ := k'
    simp [eqv, eqvFields, partV, pfxV]
    rw [Bool.eq_iff_iff]; simp
  check := fun emp k w => run_ckv 10000 _ _ emp w (by simp [ckv, ckvF, partV, pfxV]; done)
  bits := by intro k; simp [Instr.sameBits, pfxV]
theorem Sl.Own.only {h h' : Heap} {e : TypeId} {sz n : Nat} {v : Value} {cs : List Value} (x : Own h e sz v n cs) (k : ∀ r o, blockOf v = some r → h r = some o → h' r = some o) : Own h' e sz v n cs := by
  cases x with
  | nil => exact .nil
  | at_ hb hl hnc hcap hc => exact .at_ (k _ _ rfl hb) hl hnc hcap hc
theorem Sl.Cells.only {h h' : Heap} {sz n : Nat} {v : Value} {cs : List Value} (x : Cells h sz v n cs) (k : ∀ r o, blockOf v = some r → h r = some o → h' r = some o) : Cells h' sz v n cs := by
  cases x with
  | zero a c => exact .zero a c
  | at_ hb hl hnc hc => exact .at_ (k _ _ rfl hb) hl hnc hc
theorem Sl.Own.oneC {h : Heap} {e : TypeId} {sz n : Nat} {v : Value} {cs : List Value} (x : Own h e sz v n cs) : v.oneCell' = true := by
  cases x with
  | nil => rfl
  | at_ => rfl
theorem Sl.Own.blk {h : Heap} {e : TypeId} {sz n : Nat} {v : Value} {cs : List Value} (x : Own h e sz v n cs) {r : Nat} (hr : blockOf v = some r) : ∃ o, h r = some o := by
  cases x with
  | nil => cases hr
  | at_ hb hl hnc hcap hc => cases hr; exact ⟨_, hb⟩
theorem get_set_self {a : Array Value} {i : Nat} {v : Value} (h : i < a.size) : (a.setIfInBounds i v)[i]? = some v := by simp [h]
/-! ### The knots -/
inductive Role where
  | no | node (q : List Bool) | row (q : List Bool) | map
  deriving DecidableEq
structure TrieS where
  A : List Bool → Option Nat
  row : List Bool → Value
  mv : Value
  role : Nat → Role
def ptrTo (x : Option Nat) : Value := .pointer (x.map fun b => ⟨b, 0, none⟩)
/-- A count list that a map is of. -/
abbrev Cnt := List ((Int × Int) × Value)
structure TrieH (h : Heap) (S : TrieS) (p : Nat) (nums : List Bool → List Int) (l : Cnt) : Prop where
  root : S.A [] = some p
  rnode : ∀ q b, S.A q = some b → S.role b = .node q
  node : ∀ q b, S.A q = some b → ∃ full ty, h b = some (.cells full ty (0, 0)) ∧ 3 ≤ full.size ∧ full[0]? = some (ptrTo (S.A (q ++ [false]))) ∧ full[1]? = some (ptrTo (S.A (q ++ [true]))) ∧ full[2]? = some (S.row q) ∧ (q = [] → full[3]? = some S.mv)
  rown : ∀ q b, S.A q = some b → Own h 3 1 (S.row q) (nums q).length ((nums q).map (.int .i64))
  rrole : ∀ q b r, S.A q = some b → blockOf (S.row q) = some r → S.role r = .row q
  none_ : ∀ q, S.A q = none → nums q = []
  closed : ∀ q x b, S.A (q ++ [x]) = some b → S.A q ≠ none
  map : (S.mv = .map none ∧ l = []) ∨ ∃ mb, S.mv = .map (some mb) ∧ S.role mb = .map ∧ IsMap h mb (fun k : Int × Int => pfxV k.1 k.2) l
  dom : ∀ b, S.role b ≠ .no → h b ≠ none
/-- What a step changes: what is not the object's stays; what becomes the object's was it, or was not there. -/
structure Chg (D D' : Nat → Prop) (h h' : Heap) : Prop where
  keep : ∀ b o, ¬ D b → h b = some o → h' b = some o
  ext : ∀ b, D' b → D b ∨ h b = none
theorem Chg.refl (D : Nat → Prop) (h : Heap) : Chg D D h h := ⟨fun _ _ _ e => e, fun _ d => .inl d⟩
theorem Chg.trans {D D1 D2 : Nat → Prop} {h h1 h2 : Heap} (a : Chg D D1 h h1) (b : Chg D1 D2 h1 h2) : Chg D D2 h h2 where
  keep := fun k o hn e => b.keep k o (fun d => by
    rcases a.ext k d with d | d
    · exact hn d
    · rw [d] at e; cases e) (a.keep k o hn e)
  ext := fun k d => by
    rcases b.ext k d with d | d
    · exact a.ext k d
    · by_cases hd : D k
      · exact .inl hd
      · cases e : h k with
        | none => exact .inr rfl
        | some o => rw [a.keep k o hd e] at d; cases d
theorem Chg.le {D D' : Nat → Prop} {h h' h2 : Heap} (a : Chg D D' h h') (l : h'.le h2) : Chg D D' h h2 := ⟨fun b o hn e => l b o (a.keep b o hn e), a.ext⟩
theorem Chg.of_le {D D' : Nat → Prop} {h h1 h2 : Heap} (l : h.le h1) (a : Chg D D' h1 h2) : Chg D D' h h2 := ⟨fun b o hn e => a.keep b o hn (l b o e), fun b d => (a.ext b d).imp id fun e => by
  cases e1 : h b with
  | none => rfl
  | some o => rw [l b o e1] at e; cases e⟩
def TrieS.dom (S : TrieS) (b : Nat) : Prop := S.role b ≠ .no
theorem TrieH.le {h h' : Heap} {S : TrieS} {p : Nat} {nums : List Bool → List Int} {l : Cnt} (t : TrieH h S p nums l) (le : h.le h') : TrieH h' S p nums l where
  root := t.root
  rnode := t.rnode
  node := fun q b e => by obtain ⟨full, ty, hb, r⟩ := t.node q b e; exact ⟨full, ty, le _ _ hb, r⟩
  rown := fun q b e => (t.rown q b e).le le
  rrole := t.rrole
  none_ := t.none_
  closed := t.closed
  map := t.map.imp id fun ⟨mb, e, r, m⟩ => ⟨mb, e, r, m.le le⟩
  dom := fun b hb => by
    cases e : h b with
    | none => exact absurd e (t.dom b hb)
    | some o => rw [le b o e]; simp
/-- What holds of a heap holds of one that is the same at the object's blocks. -/
theorem TrieH.only {h h' : Heap} {S : TrieS} {p : Nat} {nums : List Bool → List Int} {l : Cnt} (t : TrieH h S p nums l) (e : ∀ b o, S.role b ≠ .no → h b = some o → h' b = some o) : TrieH h' S p nums l where
  root := t.root
  rnode := t.rnode
  node := fun q b e1 => by obtain ⟨full, ty, hb, r⟩ := t.node q b e1; exact ⟨full, ty, e _ _ (by rw [t.rnode q b e1]; simp) hb, r⟩
  rown := fun q b e1 => (t.rown q b e1).only fun r o hr e2 => e r o (by rw [t.rrole q b r e1 hr]; simp) e2
  rrole := t.rrole
  none_ := t.none_
  closed := t.closed
  map := t.map.imp id fun ⟨mb, e1, r, m⟩ => ⟨mb, e1, r, by obtain ⟨es, cl, e2, x⟩ := m.out; exact ⟨es, cl, e _ _ (by rw [r]; simp) e2, x⟩⟩
  dom := fun b hb => by
    cases e1 : h b with
    | none => exact absurd e1 (t.dom b hb)
    | some o => rw [e b o hb e1]; simp
/-- A new trie. -/
theorem TrieH.new (h : Heap) (p : Nat) (ty : TypeId) : TrieH (h.set p (.cells #[.pointer none, .pointer none, .slice none 0 0, .map none] ty (0, 0))) ⟨fun q => if q = [] then some p else none, fun _ => .slice none 0 0, .map none, fun b => if b = p then .node [] else .no⟩ p (fun _ => []) [] where
  root := rfl
  rnode := fun q b e => by
    simp only at e ⊢
    split at e
    · rename_i hq; cases e; simp [hq]
    · cases e
  node := fun q b e => by
    simp only at e ⊢
    split at e
    · rename_i hq
      cases e
      exact ⟨_, _, Heap.set_same _ _ _, by simp, by simp [ptrTo], by simp [ptrTo], by simp, by simp⟩
    · cases e
  rown := fun q b e => .nil
  rrole := fun q b r e e1 => by simp [blockOf] at e1
  none_ := fun _ _ => rfl
  closed := fun q x b e => by simp at e
  map := .inl ⟨rfl, rfl⟩
  dom := fun b hb => by
    simp only at hb
    split at hb
    · rename_i hq; rw [hq, Heap.set_same]; simp
    · exact absurd rfl hb
section
variable {h : Heap} {S : TrieS} {p : Nat} {nums : List Bool → List Int} {l : Cnt}
theorem TrieH.free (t : TrieH h S p nums l) {b : Nat} (hb : h b = none) : S.role b = .no := by
  cases e : S.role b with
  | no => rfl
  | _ => exact absurd hb (t.dom b (by rw [e]; simp))
theorem TrieH.inj (t : TrieH h S p nums l) {q q' : List Bool} {b : Nat} (h1 : S.A q = some b) (h2 : S.A q' = some b) : q = q' := by
  have := (t.rnode q b h1).symm.trans (t.rnode q' b h2)
  simpa using this
/-- A knot below a knot. -/
theorem TrieH.grow (t : TrieH h S p nums l) {q : List Bool} {x : Bool} {b nb : Nat} {full : Array Value} {ty ty' : TypeId} (hq : S.A q = some b) (hx : S.A (q ++ [x]) = none) (hb : h b = some (.cells full ty (0, 0))) (hnb : h nb = none) :
    ∃ S', TrieH ((h.set nb (.cells #[.pointer none, .pointer none, .slice none 0 0] ty' (0, 0))).set b (.cells (full.setIfInBounds (if x then 1 else 0) (.pointer (some ⟨nb, 0, none⟩))) ty (0, 0))) S' p nums l ∧ S'.A (q ++ [x]) = some nb ∧
      Chg S.dom S'.dom h ((h.set nb (.cells #[.pointer none, .pointer none, .slice none 0 0] ty' (0, 0))).set b (.cells (full.setIfInBounds (if x then 1 else 0) (.pointer (some ⟨nb, 0, none⟩))) ty (0, 0))) := by
  obtain ⟨full', ty2, hb', h3, hf0, hf1, hf2, hf3⟩ := t.node q b hq
  rw [hb] at hb'
  cases hb'
  have hnr := t.free hnb
  have hbn : b ≠ nb := fun e => by rw [e, hnb] at hb; cases hb
  have hother : ∀ k, k ≠ b → k ≠ nb → ((h.set nb (.cells #[.pointer none, .pointer none, .slice none 0 0] ty' (0, 0))).set b (.cells (full.setIfInBounds (if x then 1 else 0) (.pointer (some ⟨nb, 0, none⟩))) ty (0, 0))) k = h k := fun k h1 h2 => by
    rw [Heap.set_other _ _ h1, Heap.set_other _ _ h2]
  have hatn : ((h.set nb (.cells #[.pointer none, .pointer none, .slice none 0 0] ty' (0, 0))).set b (.cells (full.setIfInBounds (if x then 1 else 0) (.pointer (some ⟨nb, 0, none⟩))) ty (0, 0))) nb = some (.cells #[.pointer none, .pointer none, .slice none 0 0] ty' (0, 0)) := by
    rw [Heap.set_other _ _ (Ne.symm hbn), Heap.set_same]
  have hatb := Heap.set_same (h.set nb (.cells #[.pointer none, .pointer none, .slice none 0 0] ty' (0, 0))) b (.cells (full.setIfInBounds (if x then 1 else 0) (.pointer (some ⟨nb, 0, none⟩))) ty (0, 0))
  generalize ((h.set nb (.cells #[.pointer none, .pointer none, .slice none 0 0] ty' (0, 0))).set b (.cells (full.setIfInBounds (if x then 1 else 0) (.pointer (some ⟨nb, 0, none⟩))) ty (0, 0))) = h2 at hother hatn hatb ⊢
  have hdeep : ∀ y, S.A (q ++ [x, y]) = none := fun y => by
    rw [show q ++ [x, y] = q ++ [x] ++ [y] by simp]
    cases e : S.A (q ++ [x] ++ [y]) with
    | none => rfl
    | some c => exact absurd hx (t.closed _ _ _ e)
  have hne : ∀ k, S.role k ≠ .no → k ≠ nb := fun k hk e => hk (by rw [e]; exact hnr)
  refine ⟨⟨fun r => if r = q ++ [x] then some nb else S.A r, fun r => if r = q ++ [x] then .slice none 0 0 else S.row r, S.mv, fun k => if k = nb then .node (q ++ [x]) else S.role k⟩, ⟨?_, ?_, ?_, ?_, ?_, ?_, ?_, ?_, ?_⟩, by simp, ⟨?_, ?_⟩⟩
  · simp [t.root]
  · intro r c e
    simp only at e ⊢
    split at e
    · rename_i hr; cases e; simp [hr]
    · have := t.rnode r c e
      have : c ≠ nb := hne c (by rw [this]; simp)
      rw [if_neg this]; exact t.rnode r c e
  · intro r c e
    simp only at e ⊢
    split at e
    · rename_i hr
      cases e
      subst hr
      refine ⟨_, _, hatn, by simp, ?_, ?_, ?_, ?_⟩
      · rw [if_neg (by simp)]; simp [hdeep, ptrTo]
      · rw [if_neg (by simp)]; simp [hdeep, ptrTo]
      · simp
      · simp
    · rename_i hr
      have hcr := t.rnode r c e
      have hcn : c ≠ nb := hne c (by rw [hcr]; simp)
      by_cases hcb : c = b
      · subst hcb
        have hrq := t.inj e hq
        subst hrq
        refine ⟨_, _, hatb, by simpa using h3, ?_, ?_, ?_, ?_⟩
        · cases x with
          | false => simp only [if_true, Bool.false_eq_true, if_false]; exact get_set_self (by omega)
          | true => simpa using hf0
        · cases x with
          | false => simpa using hf1
          | true => simp only [if_true]; exact get_set_self (by omega)
        · rw [if_neg hr]; cases x <;> simpa using hf2
        · intro hr0; cases x <;> simpa using hf3 hr0
      · obtain ⟨f, ty2, hf, r3, r4, r5, r6, r7⟩ := t.node r c e
        refine ⟨f, ty2, by rw [hother c hcb hcn]; exact hf, r3, ?_, ?_, ?_, r7⟩
        · have : ¬ (r ++ [false] = q ++ [x]) := by
            intro e1
            have := (List.append_inj' e1 rfl).1
            rw [this, hq] at e; cases e; exact hcb rfl
          rw [if_neg this]; exact r4
        · have : ¬ (r ++ [true] = q ++ [x]) := by
            intro e1
            have := (List.append_inj' e1 rfl).1
            rw [this, hq] at e; cases e; exact hcb rfl
          rw [if_neg this]; exact r5
        · rw [if_neg hr]; exact r6
  · intro r c e
    simp only at e ⊢
    split at e
    · rename_i hr
      rw [if_pos hr, hr, t.none_ _ hx]; exact .nil
    · rename_i hr
      rw [if_neg hr]
      refine (t.rown r c e).only fun k o hk ho => ?_
      have hkr := t.rrole r c k e hk
      rw [hother k ?_ (hne k (by rw [hkr]; simp))]; exact ho
      intro e1
      rw [e1, t.rnode q b hq] at hkr; cases hkr
  · intro r c k e e1
    simp only at e e1 ⊢
    split at e
    · rename_i hr; rw [if_pos hr] at e1; cases e1
    · rename_i hr
      rw [if_neg hr] at e1
      have hkr := t.rrole r c k e e1
      rw [if_neg (hne k (by rw [hkr]; simp))]; exact hkr
  · intro r e
    simp only at e
    split at e
    · cases e
    · exact t.none_ r e
  · intro r y c e
    simp only at e ⊢
    split
    · simp
    · split at e
      · rename_i hr
        have := (List.append_inj' hr rfl).1
        rw [this, hq]; simp
      · exact t.closed r y c e
  · refine t.map.imp id fun ⟨mb, e1, r, m⟩ => ⟨mb, e1, ?_, m.of (hother mb ?_ (hne mb (by rw [r]; simp)))⟩
    · simp only; rw [if_neg (hne mb (by rw [r]; simp))]; exact r
    · intro e2; rw [e2, t.rnode q b hq] at r; cases r
  · intro k hk
    simp only at hk
    split at hk
    · rename_i e; rw [e, hatn]; simp
    · by_cases hkb : k = b
      · rw [hkb, hatb]; simp
      · rw [hother k hkb (hne k hk)]; exact t.dom k hk
  · intro k o hk e
    have h1 : k ≠ b := fun e1 => hk (by show S.role k ≠ .no; rw [e1, t.rnode q b hq]; simp)
    have h2 : k ≠ nb := fun e1 => by rw [e1, hnb] at e; cases e
    rw [hother k h1 h2]; exact e
  · intro k hk
    by_cases h1 : k = nb
    · exact .inr (by rw [h1]; exact hnb)
    · left
      show S.role k ≠ .no
      have : (if k = nb then Role.node (q ++ [x]) else S.role k) ≠ .no := hk
      rwa [if_neg h1] at this
/-- A number is put into a knot's row. -/
theorem TrieH.push (t : TrieH h S p nums l) {q : List Bool} {b : Nat} {full : Array Value} {ty : TypeId} {v' : Value} {h1 : Heap} {n : Int} (hq : S.A q = some b) (hb : h b = some (.cells full ty (0, 0))) (own : Own h1 3 1 v' ((nums q).length + 1) ((nums q).map (.int .i64) ++ [.int .i64 n])) (g : Grew h h1 (S.row q) v') :
    h1 b = some (.cells full ty (0, 0)) ∧ ∃ S', TrieH (h1.set b (.cells (full.setIfInBounds 2 v') ty (0, 0))) S' p (fun r => if r = q then nums q ++ [n] else nums r) l ∧ S'.mv = S.mv ∧ Chg S.dom S'.dom h (h1.set b (.cells (full.setIfInBounds 2 v') ty (0, 0))) := by
  obtain ⟨full', ty2, hb', h3, hf0, hf1, hf2, hf3⟩ := t.node q b hq
  rw [hb] at hb'
  cases hb'
  have hrow : ∀ r, blockOf (S.row q) = some r → S.role r = .row q := fun r e => t.rrole q b r hq e
  have hold : ∀ k o, S.role k ≠ .row q → h k = some o → h1 k = some o := fun k o hk e => g.same k o e fun e1 => hk (hrow k e1.symm)
  have hb1 : h1 b = some (.cells full ty (0, 0)) := hold b _ (by rw [t.rnode q b hq]; simp) hb
  refine ⟨hb1, ?_⟩
  -- the block of the new row
  have hnew : ∀ r, blockOf v' = some r → S.role r = .row q ∨ h r = none := by
    intro r e
    rcases g.blk with e1 | ⟨r', e1, e2⟩
    · exact .inl (hrow r (by rw [← e1]; exact e))
    · rw [e] at e1; cases e1; exact .inr e2
  have hnb : ∀ r, blockOf v' = some r → r ≠ b := by
    intro r e e1
    rcases hnew r e with h2 | h2
    · rw [e1, t.rnode q b hq] at h2; cases h2
    · rw [e1, hb] at h2; cases h2
  have hat := Heap.set_same h1 b (.cells (full.setIfInBounds 2 v') ty (0, 0))
  have hoth : ∀ k, k ≠ b → (h1.set b (.cells (full.setIfInBounds 2 v') ty (0, 0))) k = h1 k := fun k hk => Heap.set_other _ _ hk
  generalize (h1.set b (.cells (full.setIfInBounds 2 v') ty (0, 0))) = h2 at hat hoth ⊢
  refine ⟨⟨S.A, fun r => if r = q then v' else S.row r, S.mv, fun k => if blockOf v' = some k then .row q else if S.role k = .row q then .no else S.role k⟩, ⟨t.root, ?_, ?_, ?_, ?_, ?_, t.closed, ?_, ?_⟩, rfl, ⟨?_, ?_⟩⟩
  · intro r c e
    have hr := t.rnode r c e
    have h4 : ¬ blockOf v' = some c := fun e1 => by
      rcases hnew c e1 with h2 | h2
      · rw [hr] at h2; cases h2
      · obtain ⟨f, ty2, hf, _⟩ := t.node r c e; rw [hf] at h2; cases h2
    simp only
    rw [if_neg h4, hr]; simp
  · intro r c e
    simp only at e ⊢
    by_cases hcb : c = b
    · subst hcb
      have hrq := t.inj e hq
      subst hrq
      exact ⟨_, _, hat, by simpa using h3, by simpa using hf0, by simpa using hf1, by simp only [if_true]; exact get_set_self (by omega), fun e1 => by simpa using hf3 e1⟩
    · obtain ⟨f, ty2, hf, r3, r4, r5, r6, r7⟩ := t.node r c e
      have : r ≠ q := fun e1 => hcb (by rw [e1, hq] at e; cases e; rfl)
      exact ⟨f, ty2, by rw [hoth c hcb]; exact hold c _ (by rw [t.rnode r c e]; simp) hf, r3, r4, r5, by rw [if_neg this]; exact r6, r7⟩
  · intro r c e
    simp only at e ⊢
    by_cases hrq : r = q
    · subst hrq
      simp only [if_true, List.map_append, List.map_cons, List.map_nil, List.length_append, List.length_cons, List.length_nil]
      exact own.only fun k o hk ho => by rw [hoth k (hnb k hk)]; exact ho
    · simp only [if_neg hrq]
      refine (t.rown r c e).only fun k o hk ho => ?_
      have hkr := t.rrole r c k e hk
      rw [hoth k (fun e1 => by rw [e1, t.rnode q b hq] at hkr; cases hkr)]
      exact hold k o (by rw [hkr]; simpa using hrq) ho
  · intro r c k e e1
    simp only at e e1 ⊢
    by_cases hrq : r = q
    · rw [if_pos hrq] at e1; rw [if_pos e1, hrq]
    · rw [if_neg hrq] at e1
      have hkr := t.rrole r c k e e1
      have h4 : ¬ blockOf v' = some k := fun e2 => by
        rcases hnew k e2 with h2 | h2
        · rw [hkr] at h2; simp at h2; exact hrq h2
        · obtain ⟨o, ho⟩ := (t.rown r c e).blk e1; rw [ho] at h2; cases h2
      rw [if_neg h4, hkr, if_neg (by simpa using hrq)]
  · intro r e
    simp only at e ⊢
    have : r ≠ q := fun e1 => by rw [e1, hq] at e; cases e
    rw [if_neg this]; exact t.none_ r e
  · refine t.map.imp id fun ⟨mb, e1, r, m⟩ => ⟨mb, e1, ?_, ?_⟩
    · have h4 : ¬ blockOf v' = some mb := fun e2 => by
        rcases hnew mb e2 with h2 | h2
        · rw [r] at h2; cases h2
        · obtain ⟨o, ho⟩ := m.some; rw [ho] at h2; cases h2
      simp only
      rw [if_neg h4, r]; simp
    · obtain ⟨es, cl, e2, x⟩ := m.out
      refine ⟨es, cl, ?_, x⟩
      rw [hoth mb (fun e3 => by rw [e3, t.rnode q b hq] at r; cases r)]
      exact hold mb _ (by rw [r]; simp) e2
  · intro k hk
    simp only at hk
    by_cases hkb : k = b
    · rw [hkb, hat]; simp
    · rw [hoth k hkb]
      split at hk
      · rename_i e; obtain ⟨o, ho⟩ := own.blk e; rw [ho]; simp
      · split at hk
        · exact absurd rfl hk
        · rename_i h5
          cases e : h k with
          | none => exact absurd e (t.dom k hk)
          | some o => rw [hold k o h5 e]; simp
  · intro k o hk e
    have h0 : S.role k = .no := by
      cases e1 : S.role k with
      | no => rfl
      | _ => exact absurd (show S.role k ≠ .no by rw [e1]; simp) hk
    have h5 : k ≠ b := fun e1 => by rw [e1, t.rnode q b hq] at h0; cases h0
    rw [hoth k h5]; exact hold k o (by rw [h0]; simp) e
  · intro k hk
    have hk : (if blockOf v' = some k then Role.row q else if S.role k = .row q then .no else S.role k) ≠ .no := hk
    split at hk
    · rename_i e
      rcases hnew k e with h2 | h2
      · left; show S.role k ≠ .no; rw [h2]; simp
      · exact .inr h2
    · split at hk
      · exact absurd rfl hk
      · exact .inl hk
/-- The map is made. -/
theorem TrieH.mkmap (t : TrieH h S p nums []) {full : Array Value} {ty : TypeId} {mb : Nat} (hb : h p = some (.cells full ty (0, 0))) (hmb : h mb = none) (hsz : 3 < full.size) :
    ∃ S', TrieH ((h.set mb (.map #[] 0)).set p (.cells (full.setIfInBounds 3 (.map (some mb))) ty (0, 0))) S' p nums [] ∧ S'.mv = .map (some mb) ∧ Chg S.dom S'.dom h ((h.set mb (.map #[] 0)).set p (.cells (full.setIfInBounds 3 (.map (some mb))) ty (0, 0))) := by
  obtain ⟨full', ty2, hb', h3, hf0, hf1, hf2, hf3⟩ := t.node [] p t.root
  rw [hb] at hb'
  cases hb'
  have hnr := t.free hmb
  have hpm : p ≠ mb := fun e => by rw [e, hmb] at hb; cases hb
  have hne : ∀ k, S.role k ≠ .no → k ≠ mb := fun k hk e => hk (by rw [e]; exact hnr)
  have hat := Heap.set_same (h.set mb (.map #[] 0)) p (.cells (full.setIfInBounds 3 (.map (some mb))) ty (0, 0))
  have hatm : ((h.set mb (.map #[] 0)).set p (.cells (full.setIfInBounds 3 (.map (some mb))) ty (0, 0))) mb = some (.map #[] 0) := by rw [Heap.set_other _ _ (Ne.symm hpm), Heap.set_same]
  have hoth : ∀ k, k ≠ p → k ≠ mb → ((h.set mb (.map #[] 0)).set p (.cells (full.setIfInBounds 3 (.map (some mb))) ty (0, 0))) k = h k := fun k h1 h2 => by rw [Heap.set_other _ _ h1, Heap.set_other _ _ h2]
  generalize ((h.set mb (.map #[] 0)).set p (.cells (full.setIfInBounds 3 (.map (some mb))) ty (0, 0))) = h2 at hat hatm hoth ⊢
  refine ⟨⟨S.A, S.row, .map (some mb), fun k => if k = mb then .map else S.role k⟩, ⟨t.root, ?_, ?_, ?_, ?_, t.none_, t.closed, .inr ⟨mb, rfl, by simp, ⟨#[], 0, hatm, rfl, by simp, by simp⟩⟩, ?_⟩, rfl, ⟨?_, ?_⟩⟩
  · intro r c e
    have hr := t.rnode r c e
    simp only
    rw [if_neg (hne c (by rw [hr]; simp))]; exact hr
  · intro r c e
    simp only at e ⊢
    by_cases hcp : c = p
    · subst hcp
      have := t.inj e t.root
      subst this
      exact ⟨_, _, hat, by simpa using h3, by simpa using hf0, by simpa using hf1, by simpa using hf2, fun _ => get_set_self (by omega)⟩
    · obtain ⟨f, ty2, hf, r3, r4, r5, r6, r7⟩ := t.node r c e
      exact ⟨f, ty2, by rw [hoth c hcp (hne c (by rw [t.rnode r c e]; simp))]; exact hf, r3, r4, r5, r6, fun e1 => absurd (by rw [e1, t.root] at e; cases e; rfl) hcp⟩
  · intro r c e
    refine (t.rown r c e).only fun k o hk ho => ?_
    have hkr := t.rrole r c k e hk
    rw [hoth k (fun e1 => by rw [e1, t.rnode [] p t.root] at hkr; cases hkr) (hne k (by rw [hkr]; simp))]; exact ho
  · intro r c k e e1
    have hkr := t.rrole r c k e e1
    simp only
    rw [if_neg (hne k (by rw [hkr]; simp))]; exact hkr
  · intro k hk
    simp only at hk
    split at hk
    · rename_i e; rw [e, hatm]; simp
    · by_cases hkp : k = p
      · rw [hkp, hat]; simp
      · rw [hoth k hkp (hne k hk)]; exact t.dom k hk
  · intro k o hk e
    have h0 : S.role k = .no := by
      cases e1 : S.role k with
      | no => rfl
      | _ => exact absurd (show S.role k ≠ .no by rw [e1]; simp) hk
    have h1 : k ≠ p := fun e1 => by rw [e1, t.rnode [] p t.root] at h0; cases h0
    have h2 : k ≠ mb := fun e1 => by rw [e1, hmb] at e; cases e
    rw [hoth k h1 h2]; exact e
  · intro k hk
    by_cases h1 : k = mb
    · exact .inr (by rw [h1]; exact hmb)
    · left
      have : (if k = mb then Role.map else S.role k) ≠ .no := hk
      rwa [if_neg h1] at this
/-- The map has other entries. -/
theorem TrieH.setmap (t : TrieH h S p nums l) {mb : Nat} (hm : S.mv = .map (some mb)) {ob : Obj} {l' : Cnt} (im : IsMap (h.set mb ob) mb (fun k : Int × Int => pfxV k.1 k.2) l') : TrieH (h.set mb ob) S p nums l' ∧ Chg S.dom S.dom h (h.set mb ob) := by
  have hrole : S.role mb = .map := by
    rcases t.map with ⟨e, _⟩ | ⟨mb', e, r, _⟩
    · rw [e] at hm; cases hm
    · rw [e] at hm; cases hm; exact r
  have hoth : ∀ k, k ≠ mb → (h.set mb ob) k = h k := fun k h1 => Heap.set_other _ _ h1
  have hat := Heap.set_same h mb ob
  generalize h.set mb ob = h2 at hoth hat im ⊢
  have hne : ∀ k, S.role k ≠ .map → k ≠ mb := fun k hk e => hk (by rw [e]; exact hrole)
  refine ⟨⟨t.root, t.rnode, ?_, ?_, t.rrole, t.none_, t.closed, .inr ⟨mb, hm, hrole, im⟩, ?_⟩, ⟨?_, fun k hk => .inl hk⟩⟩
  · intro r c e
    obtain ⟨f, ty2, hf, x⟩ := t.node r c e
    exact ⟨f, ty2, by rw [hoth c (hne c (by rw [t.rnode r c e]; simp))]; exact hf, x⟩
  · intro r c e
    refine (t.rown r c e).only fun k o hk ho => ?_
    rw [hoth k (hne k (by rw [t.rrole r c k e hk]; simp))]; exact ho
  · intro k hk
    by_cases h1 : k = mb
    · rw [h1, hat]; simp
    · rw [hoth k h1]; exact t.dom k hk
  · intro k o hk e
    have : k ≠ mb := fun e1 => hk (by show S.role k ≠ .no; rw [e1, hrole]; simp)
    rw [hoth k this]; exact e
end
end Go.Proofs.Ytielfejpnkcjbaa

/- The table of what was heard, in memory. -/
set_option linter.unusedVariables false
set_option linter.unusedSimpArgs false
namespace Go.Proofs.Ytielfejpnkcjbaa
open Sl
abbrev ThK := (Int × Int × Int) × (Int × Int)
def thV (k : ThK) : Value := .agg #[.int .i64 k.1.1, .int .i64 k.1.2.1, .int .u32 k.1.2.2, .int .u32 k.2.1, .int .u32 k.2.2]
structure MsgA where
  kind : Int
  frm : Int
  to : Int
  src : Int
  grp : Int
  rank : Int
  cost : Int
  only : Bool
  srcs : List Int
def msgV (m : MsgA) (sv : Value) : Value := .agg #[.int .i64 m.kind, .int .u32 m.frm, .int .u32 m.to, .int .u32 m.src, .int .u32 m.grp, .int .i64 m.rank, .int .i64 m.cost, .bool m.only, sv]
def entV (k : ThK) (age : Int) (m : MsgA) (sv : Value) : Value := .agg #[.int .i64 k.1.1, .int .i64 k.1.2.1, .int .u32 k.1.2.2, .int .u32 k.2.1, .int .u32 k.2.2, .int .i64 age, .int .i64 m.kind, .int .u32 m.frm, .int .u32 m.to, .int .u32 m.src, .int .u32 m.grp, .int .i64 m.rank, .int .i64 m.cost, .bool m.only, sv]
/-- An entry, with where its list lies, and its birth. -/
structure Rc where
  key : ThK
  age : Int
  msg : MsgA
  sv : Value
  born : Nat
def Rc.ey (r : Rc) : Ey ThK := ⟨r.key, entV r.key r.age r.msg r.sv, r.born⟩
structure AT where
  key : ThK
  age : Int
  msg : MsgA
def Rc.t (r : Rc) : AT := ⟨r.key, r.age, r.msg⟩
structure RowD (h : Heap) (D : Nat → Prop) (r : Rc) : Prop where
  cells : Cells h 1 r.sv r.msg.srcs.length (r.msg.srcs.map (.int .u32))
  blk : ∀ b, blockOf r.sv = some b → D b
  len : r.msg.srcs.length ≤ 1000000
  one : r.sv.oneCell' = true
  age0 : 0 ≤ r.age
  age3 : r.age ≤ 3
structure TableAt (h : Heap) (D : Nat → Prop) (p : Nat) (ts : List AT) : Prop where
  out : ∃ (mv : Value) (ty : TypeId), h p = some (.cells #[mv] ty (0, 0)) ∧ D p ∧ ((mv = .map none ∧ ts = []) ∨ ∃ (mb : Nat) (rs : List Rc) (cl : Nat), mv = .map (some mb) ∧ D mb ∧ IsMapN h mb thV (rs.map Rc.ey) cl ∧ ts = rs.map Rc.t ∧ ∀ r ∈ rs, RowD h D r)
  dom : ∀ b, D b → h b ≠ none
theorem thing_key : KeyLaw Try.prog 57 thV where
  now := by
    intro d hd
    rw [Try.underlying57] at hd
    cases hd
    exact .inr fun _ _ => rfl
  eq := by
    intro k k' w
    refine run_eqv 10000 _ _ _ _ w ?_
    obtain ⟨⟨a1, a2, a3⟩, a4, a5⟩ := k
    obtain ⟨⟨b1, b2, b3⟩, b4, b5⟩ := k'
    have h52 : Try.prog.cellsOf 52 = 2 := by kernel_rfl
    simp [eqv, eqvFields, partV, thV, h52]
    rw [Bool.eq_iff_iff]; simp; omega
  check := fun emp k w => run_ckv 10000 _ _ emp w (by
    have h52 : Try.prog.cellsOf 52 = 2 := by kernel_rfl
    simp [ckv, ckvF, partV, thV, h52])
  bits := by intro k; simp [Instr.sameBits, thV]
theorem RowD.only {h h' : Heap} {D : Nat → Prop} {r : Rc} (x : RowD h D r) (e : ∀ b o, D b → h b = some o → (∀ es cl, o ≠ .map es cl) → h' b = some o) : RowD h' D r := by
  refine ⟨?_, x.blk, x.len, x.one, x.age0, x.age3⟩
  have hc := x.cells
  have hb := x.blk
  generalize r.sv = v at hc hb ⊢
  generalize r.msg.srcs.map (Value.int .u32) = cs at hc ⊢
  generalize r.msg.srcs.length = n at hc ⊢
  cases hc with
  | zero a c => exact .zero a c
  | at_ h1 hl hnc hc => exact .at_ (e _ _ (hb _ rfl) h1 (by intros; simp)) hl hnc hc
/-! ### Ticks -/
def gone (r : Rc) : Bool := decide (r.age + 1 > 3)
def tickR (r : Rc) : Option Rc := if gone r then none else some { r with age := r.age + 1 }
/-- What is there when the entries born in 'seen' have been ticked. -/
def midR (seen : List Nat) (r : Rc) : Option Rc := if r.born ∈ seen then tickR r else some r
def mids (rs : List Rc) (seen : List Nat) : List Rc := rs.filterMap (midR seen)
def goneN (rs : List Rc) (seen : List Nat) : Nat := (rs.filter fun r => decide (r.born ∈ seen) && gone r).length
theorem goneN_nil (rs : List Rc) : goneN rs [] = 0 := by
  unfold goneN
  induction rs with
  | nil => rfl
  | cons r rs ih => rw [List.filter_cons]; simp only [List.not_mem_nil, decide_false, Bool.false_and, Bool.false_eq_true, if_false] at ih ⊢; exact ih
theorem midR_same {seen : List Nat} {r y : Rc} (h : midR seen r = some y) : y.key = r.key ∧ y.born = r.born ∧ y.msg = r.msg ∧ y.sv = r.sv ∧ (r.born ∉ seen → y = r) := by
  unfold midR at h
  split at h
  · unfold tickR at h
    split at h
    · cases h
    · cases h; rename_i h1 _; exact ⟨rfl, rfl, rfl, rfl, fun h2 => absurd h1 h2⟩
  · cases h; exact ⟨rfl, rfl, rfl, rfl, fun _ => rfl⟩
theorem mids_nil (rs : List Rc) : mids rs [] = rs := by
  unfold mids
  induction rs with
  | nil => rfl
  | cons r rs ih => rw [List.filterMap_cons]; simp [midR]; exact ih
theorem mids_at {rs : List Rc} {seen : List Nat} {e : Ey ThK} (he : e ∈ (mids rs seen).map Rc.ey) (hs : e.born ∉ seen) : ∃ r ∈ rs, e = r.ey ∧ r.born ∉ seen := by
  obtain ⟨y, hy, rfl⟩ := List.mem_map.1 he
  obtain ⟨r, hr, h1⟩ := List.mem_filterMap.1 hy
  obtain ⟨_, h2, _, _, h3⟩ := midR_same h1
  have hs' : r.born ∉ seen := by rw [← h2]; exact hs
  exact ⟨r, hr, by rw [h3 hs'], hs'⟩
theorem filter_mid {f f' : Rc → Option Rc} {p : Rc → Bool} : ∀ {rs : List Rc}, (∀ x ∈ rs, f' x = (f x).filter p) → (rs.filterMap f).filter p = rs.filterMap f'
  | [], _ => rfl
  | r :: rs, h => by
    have ih := filter_mid (rs := rs) (f := f) (f' := f') (p := p) (fun x hx => h x (by simp [hx]))
    have h0 := h r (by simp)
    rw [List.filterMap_cons, List.filterMap_cons, h0]
    cases f r with
    | none => simpa using ih
    | some y =>
      cases hp : p y with
      | true => simp [Option.filter, hp, ih]
      | false => simp [Option.filter, hp, ih]
theorem map_mid {f f' : Rc → Option Rc} {g : Rc → Rc} {rs : List Rc} (h : ∀ x ∈ rs, f' x = (f x).map g) : (rs.filterMap f).map g = rs.filterMap f' := by
  induction rs with
  | nil => rfl
  | cons r rs ih =>
    have ih := ih (fun x hx => h x (by simp [hx]))
    rw [List.filterMap_cons, List.filterMap_cons, h r (by simp)]
    cases f r with
    | none => simpa using ih
    | some y => simp [ih]
theorem fm_congr {f g : Rc → Option Rc} {rs : List Rc} (h : ∀ x ∈ rs, f x = g x) : rs.filterMap f = rs.filterMap g := by
  induction rs with
  | nil => rfl
  | cons r rs ih => rw [List.filterMap_cons, List.filterMap_cons, h r (by simp), ih (fun x hx => h x (by simp [hx]))]
theorem uniq_born {rs : List Rc} (nd : (rs.map (·.born)).Nodup) {r x : Rc} (hr : r ∈ rs) (hx : x ∈ rs) (e : x.born = r.born) : x = r := by
  induction rs with
  | nil => cases hr
  | cons a rs ih =>
    simp only [List.map_cons, List.nodup_cons] at nd
    rcases List.mem_cons.1 hr with hr2 | hr2 <;> rcases List.mem_cons.1 hx with hx2 | hx2
    · rw [hr2, hx2]
    · exact absurd (List.mem_map.2 ⟨x, hx2, by rw [e, hr2]⟩) nd.1
    · exact absurd (List.mem_map.2 ⟨r, hr2, by rw [← e, hx2]⟩) nd.1
    · exact ih nd.2 hr2 hx2
theorem uniq_key {rs : List Rc} (nd : (rs.map (·.key)).Nodup) {r x : Rc} (hr : r ∈ rs) (hx : x ∈ rs) (e : x.key = r.key) : x = r := by
  induction rs with
  | nil => cases hr
  | cons a rs ih =>
    simp only [List.map_cons, List.nodup_cons] at nd
    rcases List.mem_cons.1 hr with hr2 | hr2 <;> rcases List.mem_cons.1 hx with hx2 | hx2
    · rw [hr2, hx2]
    · exact absurd (List.mem_map.2 ⟨x, hx2, by rw [e, hr2]⟩) nd.1
    · exact absurd (List.mem_map.2 ⟨r, hr2, by rw [← e, hx2]⟩) nd.1
    · exact ih nd.2 hr2 hx2
section
variable {rs : List Rc} {seen : List Nat} {r : Rc}
theorem mid_del (nb : (rs.map (·.born)).Nodup) (nk : (rs.map (·.key)).Nodup) (hr : r ∈ rs) (hs : r.born ∉ seen) (hg : gone r = true) : delN ((mids rs seen).map Rc.ey) r.key = (mids rs (seen ++ [r.born])).map Rc.ey := by
  have h1 : delN ((mids rs seen).map Rc.ey) r.key = ((mids rs seen).filter fun y => !decide (y.key = r.key)).map Rc.ey := by
    unfold delN; rw [List.filter_map]; rfl
  rw [h1]
  congr 1
  refine filter_mid fun x hx => ?_
  by_cases hxr : x.born = r.born
  · have := uniq_born nb hr hx hxr
    subst this
    have e1 : midR seen x = some x := by simp [midR, hs]
    have e2 : midR (seen ++ [x.born]) x = none := by simp [midR, tickR, hg]
    rw [e1, e2]; simp [Option.filter]
  · have e1 : midR (seen ++ [r.born]) x = midR seen x := by simp [midR, hxr]
    rw [e1]
    cases hm : midR seen x with
    | none => rfl
    | some y =>
      have hk : y.key ≠ r.key := fun e => by
        rw [(midR_same hm).1] at e
        exact hxr (by rw [uniq_key nk hr hx e])
      simp [Option.filter, hk]
theorem mid_set (nb : (rs.map (·.born)).Nodup) (nk : (rs.map (·.key)).Nodup) (hr : r ∈ rs) (hs : r.born ∉ seen) (hg : gone r = false) : setN ((mids rs seen).map Rc.ey) r.key (entV r.key (r.age + 1) r.msg r.sv) = (mids rs (seen ++ [r.born])).map Rc.ey := by
  have h1 : setN ((mids rs seen).map Rc.ey) r.key (entV r.key (r.age + 1) r.msg r.sv) = ((mids rs seen).map fun y => if y.key = r.key then { r with age := r.age + 1 } else y).map Rc.ey := by
    unfold setN
    rw [List.map_map, List.map_map]
    apply List.map_congr_left
    intro y hy
    obtain ⟨x, hx, hm⟩ := List.mem_filterMap.1 hy
    simp only [Function.comp]
    by_cases hk : y.key = r.key
    · have hk2 : x.key = r.key := by rw [← (midR_same hm).1]; exact hk
      have := uniq_key nk hr hx hk2
      subst this
      have := (midR_same hm).2.2.2.2 hs
      subst this
      simp [Rc.ey]
    · rw [if_neg hk, if_neg (by simpa [Rc.ey] using hk)]
  rw [h1]
  congr 1
  refine map_mid fun x hx => ?_
  by_cases hxr : x.born = r.born
  · have := uniq_born nb hr hx hxr
    subst this
    have e1 : midR seen x = some x := by simp [midR, hs]
    have e2 : midR (seen ++ [x.born]) x = some { x with age := x.age + 1 } := by simp [midR, tickR, hg]
    rw [e1, e2]; simp
  · have e1 : midR (seen ++ [r.born]) x = midR seen x := by simp [midR, hxr]
    rw [e1]
    cases hm : midR seen x with
    | none => rfl
    | some y =>
      have hk : y.key ≠ r.key := fun e => by
        rw [(midR_same hm).1] at e
        exact hxr (by rw [uniq_key nk hr hx e])
      simp [hk]
theorem gone_step (nb : (rs.map (·.born)).Nodup) (hr : r ∈ rs) (hs : r.born ∉ seen) : goneN rs (seen ++ [r.born]) = goneN rs seen + if gone r then 1 else 0 := by
  unfold goneN
  induction rs with
  | nil => cases hr
  | cons a rs ih =>
    simp only [List.map_cons, List.nodup_cons] at nb
    rcases List.mem_cons.1 hr with rfl | hr
    · have hrest : (rs.filter fun x => decide (x.born ∈ seen ++ [r.born]) && gone x) = rs.filter fun x => decide (x.born ∈ seen) && gone x := by
        apply List.filter_congr
        intro x hx
        have : x.born ≠ r.born := fun e => nb.1 (List.mem_map.2 ⟨x, hx, e⟩)
        simp [this]
      rw [List.filter_cons, List.filter_cons, hrest]
      cases hg : gone r <;> simp [hs]
    · have hne : a.born ≠ r.born := fun e => nb.1 (List.mem_map.2 ⟨r, hr, e.symm⟩)
      have ih := ih nb.2 hr
      rw [List.filter_cons, List.filter_cons]
      simp only [List.mem_append, List.mem_singleton, hne, or_false] at ih ⊢
      split
      · simp only [List.length_cons, ih]; omega
      · exact ih
end
theorem mids_all {rs : List Rc} {seen : List Nat} (h : ∀ e ∈ (mids rs seen).map Rc.ey, e.born ∈ seen) : mids rs seen = rs.filterMap tickR ∧ goneN rs seen = (rs.filter gone).length := by
  have hin : ∀ r ∈ rs, r.born ∈ seen := by
    intro r hr
    by_cases hs : r.born ∈ seen
    · exact hs
    · exact h r.ey (List.mem_map.2 ⟨r, List.mem_filterMap.2 ⟨r, hr, by simp [midR, hs]⟩, rfl⟩)
  constructor
  · unfold mids
    refine fm_congr fun r hr => ?_
    simp [midR, hin r hr]
  · unfold goneN
    congr 1
    apply List.filter_congr
    intro r hr
    simp [hin r hr]
end Go.Proofs.Ytielfejpnkcjbaa
