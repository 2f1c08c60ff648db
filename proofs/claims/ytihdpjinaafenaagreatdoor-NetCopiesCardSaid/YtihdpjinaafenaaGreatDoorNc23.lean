import Derived.Test.YtihdpjinaafenaaGreatDoorNc22
import Derived.Sort.LotA
import Derived.Sort.LotB
import Derived.Sort.LotC
import Derived.Sort.LotD1
import Derived.Sort.LotD3
import Derived.Test.YtihdpjinaafenaaGreatDoorProg
noncomputable section
/- Rows of an array; calls with objects, worded with proofs as defaults. -/
set_option linter.unusedVariables false
set_option linter.unusedSimpArgs false
namespace Go.Proofs.YtihdpjinaafenaaGreatDoor.Ab
open Go.Proofs.YtihdpjinaafenaaGreatDoor.Sl
structure Enc (α : Type) (sz : Nat) where
 f : α → List FV
 len : ∀ x, (f x).length = sz
 one : ∀ x, (f x).all FV.one = true
def rw {α : Type} {sz : Nat} (e : Enc α sz) (d : Array α) : List (List FV) := d.toList.map e.f
section
variable {α : Type} [Inhabited α] {sz : Nat} {e : Enc α sz} {d : Array α}
omit [Inhabited α] in
theorem rw_length : (rw e d).length = d.size := by simp [rw]
theorem rw_getD {i : Nat} (h : i < d.size) : (rw e d).getD i [] = e.f d[i]! := by
 simp [rw, List.getD_eq_getElem?_getD, h]
omit [Inhabited α] in
theorem rw_set {i : Nat} {x : α} : (rw e d).set i (e.f x) = rw e (d.setIfInBounds i x) := by
 simp [rw, List.map_set]
theorem rw_swp {i j : Nat} (hi : i < d.size) (hj : j < d.size) : ((rw e d).set i ((rw e d).getD j [])).set j ((rw e d).getD i []) = rw e (Go.Sort.swp d i j) := by
 rw [rw_getD hi, rw_getD hj, rw_set, rw_set]; rfl
theorem rw_len {i : Nat} (h : i < d.size) : ((rw e d).getD i []).length = sz := by rw [rw_getD h]; exact e.len _
theorem rw_one {i : Nat} (h : i < d.size) : ((rw e d).getD i []).all FV.one = true := by rw [rw_getD h]; exact e.one _
end
section
variable {P : Program} {N : Nat} {ops : Array Oper} {dr : Option (List Nat)} {h0 : Gd} {Q : Exit → Tm → Heap → Prop} {Qr : Tm → Heap → Prop} {T T' : AT} {σ σ' : AS} {s s' : St} {az rest : List AO} {QE : Exit → Tm → Heap → Prop}
theorem AConv.rfl' {xs : List AV} : AConv xs xs := fun _ _ _ r => r
theorem r_callG {d : Option Nat} {k : K} {q : Bool} {f : FuncId} {ops' : List Operand} {xs args : List AV} {σi : AS} {Y : Type} {Pr : Y → Prop} {σo : Y → AS} {res : Y → FV} (ids : List Nat) (c : GCall P f args σi Y Pr σo res) {σn : Y → AS} (r : ∀ y, Pr y → Reg P N ops dr h0 Qr az ⟨s.T, addL d none (.fz (res y)) s.L, σn y, if q = true then s.rs else []⟩)
  (en : fname k = some (f, ops') := by rfl) (e : targetG (opd s.L s.T []) ops' = some xs := by simp only [targetG, run, step1, isA, stepP, stepA, pv, pa, gob, opd, lookV, lookL, lookT, lookS, chain, inCh, addrd, hits, pgT, pgL, addL, pT, pL, pS, pO, pC, pA, ibin, sint, intBin, feq, fc_int, fc_bool, fc_str, fc_slice, fc_ptr, fc_map, fc_nif, fc_nfn, fc_agg, fc_of, fc_L, fc_sl, fc_fp, fc_ifc, fc_fn, fillF, ofzs, ofzp, unfz, rowsP, srcRows_of, srcRows_L, srcRows_os, srcRows_nil, asSl_of, asSl_L, asSl_sl, asSl_nil, setS, okNew, nmT, nmL, nmS, nmC, nmNe, OO.cells, absC, bnd, target, resV, resVs, List.set_cons_zero, List.set_cons_succ, ↓reduceIte, reduceCtorEq, Nat.reduceEqDiff, Nat.reduceBEq, Nat.reduceAdd, Nat.reduceMul, Nat.reduceLT, Nat.reduceLeDiff, Nat.reduceSub, Option.map_some, List.map_cons, List.map_nil, List.drop_succ_cons, List.drop_zero, List.drop_nil, List.take_succ_cons, List.take_zero, List.take_nil, List.cons_append, List.nil_append, List.append_nil, List.any_cons, List.any_nil, List.contains_cons, List.contains_nil, List.getElem?_cons_zero, List.getElem?_cons_succ, List.length_cons, List.length_nil, cond_true, cond_false, decide_true, decide_false, Bool.not_true, Bool.not_false, Bool.true_and, Bool.false_and, Bool.and_true, Bool.and_false, Bool.or_true, Bool.true_or, Bool.or_false, Bool.false_or, beq_self_eq_true, Bool.false_eq_true, pick_and, pick_or, Int.toNat_natCast, Int.toNat_zero, true_and, and_true, forall_const, implies_true, Nat.zero_add, Nat.add_zero, and_self, *] <;> exact rfl) (cv : AConv xs (renC ids args) := by exact AConv.rfl') (hc : okCall P f = true := by kernel_rfl)
  (hl : handed ids s.σ σi := by simp only [handed, renN, renO, renC, renA, List.getD_cons_zero, List.getD_cons_succ, run, step1, isA, stepP, stepA, pv, pa, gob, opd, lookV, lookL, lookT, lookS, chain, inCh, addrd, hits, pgT, pgL, addL, pT, pL, pS, pO, pC, pA, ibin, sint, intBin, feq, fc_int, fc_bool, fc_str, fc_slice, fc_ptr, fc_map, fc_nif, fc_nfn, fc_agg, fc_of, fc_L, fc_sl, fc_fp, fc_ifc, fc_fn, fillF, ofzs, ofzp, unfz, rowsP, srcRows_of, srcRows_L, srcRows_os, srcRows_nil, asSl_of, asSl_L, asSl_sl, asSl_nil, setS, okNew, nmT, nmL, nmS, nmC, nmNe, OO.cells, absC, bnd, target, resV, resVs, List.set_cons_zero, List.set_cons_succ, ↓reduceIte, reduceCtorEq, Nat.reduceEqDiff, Nat.reduceBEq, Nat.reduceAdd, Nat.reduceMul, Nat.reduceLT, Nat.reduceLeDiff, Nat.reduceSub, Option.map_some, List.map_cons, List.map_nil, List.drop_succ_cons, List.drop_zero, List.drop_nil, List.take_succ_cons, List.take_zero, List.take_nil, List.cons_append, List.nil_append, List.append_nil, List.any_cons, List.any_nil, List.contains_cons, List.contains_nil, List.getElem?_cons_zero, List.getElem?_cons_succ, List.length_cons, List.length_nil, cond_true, cond_false, decide_true, decide_false, Bool.not_true, Bool.not_false, Bool.true_and, Bool.false_and, Bool.and_true, Bool.and_false, Bool.or_true, Bool.true_or, Bool.or_false, Bool.false_or, beq_self_eq_true, Bool.false_eq_true, pick_and, pick_or, Int.toNat_natCast, Int.toNat_zero, true_and, and_true, forall_const, implies_true, Nat.zero_add, Nat.add_zero, and_self, *]) (hnd : (σi.map fun e => renN ids e.1).Nodup := by simp [renN]) (hq : (q && (σi.map fun e => renN ids e.1).any fun i => s.rs.contains i) = false := by rfl)
  (hσ : ∀ y, setAll ids s.σ (σo y) = σn y := by intro y; simp only [setAll, renN, renO, renC, renA, List.getD_cons_zero, List.getD_cons_succ, run, step1, isA, stepP, stepA, pv, pa, gob, opd, lookV, lookL, lookT, lookS, chain, inCh, addrd, hits, pgT, pgL, addL, pT, pL, pS, pO, pC, pA, ibin, sint, intBin, feq, fc_int, fc_bool, fc_str, fc_slice, fc_ptr, fc_map, fc_nif, fc_nfn, fc_agg, fc_of, fc_L, fc_sl, fc_fp, fc_ifc, fc_fn, fillF, ofzs, ofzp, unfz, rowsP, srcRows_of, srcRows_L, srcRows_os, srcRows_nil, asSl_of, asSl_L, asSl_sl, asSl_nil, setS, okNew, nmT, nmL, nmS, nmC, nmNe, OO.cells, absC, bnd, target, resV, resVs, List.set_cons_zero, List.set_cons_succ, ↓reduceIte, reduceCtorEq, Nat.reduceEqDiff, Nat.reduceBEq, Nat.reduceAdd, Nat.reduceMul, Nat.reduceLT, Nat.reduceLeDiff, Nat.reduceSub, Option.map_some, List.map_cons, List.map_nil, List.drop_succ_cons, List.drop_zero, List.drop_nil, List.take_succ_cons, List.take_zero, List.take_nil, List.cons_append, List.nil_append, List.append_nil, List.any_cons, List.any_nil, List.contains_cons, List.contains_nil, List.getElem?_cons_zero, List.getElem?_cons_succ, List.length_cons, List.length_nil, cond_true, cond_false, decide_true, decide_false, Bool.not_true, Bool.not_false, Bool.true_and, Bool.false_and, Bool.and_true, Bool.and_false, Bool.or_true, Bool.true_or, Bool.or_false, Bool.false_or, beq_self_eq_true, Bool.false_eq_true, pick_and, pick_or, Int.toNat_natCast, Int.toNat_zero, true_and, and_true, forall_const, implies_true, Nat.zero_add, Nat.add_zero, and_self, *] <;> exact rfl) : Reg P N ops dr h0 Qr (⟨d, none, k, q⟩ :: az) s :=
 reg_callG ids c en e cv hc hl hnd hq fun y hy => by rw [hσ y]; exact r y hy
theorem y_retG {fn : Func} {hb : Heap} {σi : AS} {Y : Type} {Pr : Y → Prop} {σo : Y → AS} {res : Y → FV} {vs : List FV} {σ' : AS} {e : Exit} (l : List (ResultVar × Option Nat)) (y : Y) (ks : List Nat) (hy : Pr y) (hσ : σ' = σo y) (hx : ∀ h v, FRep h (.tup vs) v → FRep h (res y) v) (hks : ks.Nodup := by decide) (he : e = .ret ∨ e = .normal := by first | exact .inl rfl | exact .inr rfl) (hq : QE e = retQ P fn (GR h0 hb σi Y Pr σo res) .ret := by rfl) (hr : fn.results = (l.map (·.1)).toArray := by rfl) (hl : l.length ≠ 1 := by decide) (hok : l.all (okR P) = true := by kernel_rfl) (ev : resVs T σ l = some vs := by simp only [run, step1, isA, stepP, stepA, pv, pa, gob, opd, lookV, lookL, lookT, lookS, chain, inCh, addrd, hits, pgT, pgL, addL, pT, pL, pS, pO, pC, pA, ibin, sint, intBin, feq, fc_int, fc_bool, fc_str, fc_slice, fc_ptr, fc_map, fc_nif, fc_nfn, fc_agg, fc_of, fc_L, fc_sl, fc_fp, fc_ifc, fc_fn, fillF, ofzs, ofzp, unfz, rowsP, srcRows_of, srcRows_L, srcRows_os, srcRows_nil, asSl_of, asSl_L, asSl_sl, asSl_nil, setS, okNew, nmT, nmL, nmS, nmC, nmNe, OO.cells, absC, bnd, target, resV, resVs, List.set_cons_zero, List.set_cons_succ, ↓reduceIte, reduceCtorEq, Nat.reduceEqDiff, Nat.reduceBEq, Nat.reduceAdd, Nat.reduceMul, Nat.reduceLT, Nat.reduceLeDiff, Nat.reduceSub, Option.map_some, List.map_cons, List.map_nil, List.drop_succ_cons, List.drop_zero, List.drop_nil, List.take_succ_cons, List.take_zero, List.take_nil, List.cons_append, List.nil_append, List.append_nil, List.any_cons, List.any_nil, List.contains_cons, List.contains_nil, List.getElem?_cons_zero, List.getElem?_cons_succ, List.length_cons, List.length_nil, cond_true, cond_false, decide_true, decide_false, Bool.not_true, Bool.not_false, Bool.true_and, Bool.false_and, Bool.and_true, Bool.and_false, Bool.or_true, Bool.true_or, Bool.or_false, Bool.false_or, beq_self_eq_true, Bool.false_eq_true, pick_and, pick_or, Int.toNat_natCast, Int.toNat_zero, true_and, and_true, forall_const, implies_true, Nat.zero_add, Nat.add_zero, and_self, *] <;> exact rfl)
  (es : pickS σ ks = some σ' := by simp only [pickS, run, step1, isA, stepP, stepA, pv, pa, gob, opd, lookV, lookL, lookT, lookS, chain, inCh, addrd, hits, pgT, pgL, addL, pT, pL, pS, pO, pC, pA, ibin, sint, intBin, feq, fc_int, fc_bool, fc_str, fc_slice, fc_ptr, fc_map, fc_nif, fc_nfn, fc_agg, fc_of, fc_L, fc_sl, fc_fp, fc_ifc, fc_fn, fillF, ofzs, ofzp, unfz, rowsP, srcRows_of, srcRows_L, srcRows_os, srcRows_nil, asSl_of, asSl_L, asSl_sl, asSl_nil, setS, okNew, nmT, nmL, nmS, nmC, nmNe, OO.cells, absC, bnd, target, resV, resVs, List.set_cons_zero, List.set_cons_succ, ↓reduceIte, reduceCtorEq, Nat.reduceEqDiff, Nat.reduceBEq, Nat.reduceAdd, Nat.reduceMul, Nat.reduceLT, Nat.reduceLeDiff, Nat.reduceSub, Option.map_some, List.map_cons, List.map_nil, List.drop_succ_cons, List.drop_zero, List.drop_nil, List.take_succ_cons, List.take_zero, List.take_nil, List.cons_append, List.nil_append, List.append_nil, List.any_cons, List.any_nil, List.contains_cons, List.contains_nil, List.getElem?_cons_zero, List.getElem?_cons_succ, List.length_cons, List.length_nil, cond_true, cond_false, decide_true, decide_false, Bool.not_true, Bool.not_false, Bool.true_and, Bool.false_and, Bool.and_true, Bool.and_false, Bool.or_true, Bool.true_or, Bool.or_false, Bool.false_or, beq_self_eq_true, Bool.false_eq_true, pick_and, pick_or, Int.toNat_natCast, Int.toNat_zero, true_and, and_true, forall_const, implies_true, Nat.zero_add, Nat.add_zero, and_self, *] <;> exact rfl) (h1000 : nm1000 σ' = true := by rfl) : AX h0 e QE T σ := x_retG e y l ks hks hy hq hr hl hok ev es h1000 hσ hx
theorem g_enter1 {f : FuncId} {fn : Func} {c : Code} {args : List AV} {t : TypeId} {sz : Nat} {rows : List (List FV)} {Y : Type} {Pr : Y → Prop} {ro : Y → List (List FV)} {res : Y → FV} (hf : P.funcs[f]? = some fn) (hb : fn.body = some c)
  (k : ∀ h0, AC P fn.ntmps h0 [c] (retQ P fn (GR h0 h0.h [(1000, .rows t sz rows)] Y Pr (fun y => [(1000, .rows t sz (ro y))]) res)) (argG 0 args) [(1000, .rows t sz rows)]) (hN : Nat.ble args.length fn.ntmps = true := by kernel_rfl) : GCall P f args [(1000, .rows t sz rows)] Y Pr (fun y => [(1000, .rows t sz (ro y))]) res := by
 refine g_enter hf hb (fun x hx => ?_) (fun y _ e he => ⟨_, List.mem_singleton.2 rfl, ?_, fun v b h => ?_⟩) (fun y _ e he => ⟨_, List.mem_singleton.2 rfl, ?_, fun v b h => ?_⟩) (fun _ _ => rfl) k hN
 ·rw [List.mem_singleton.1 hx]; exact Nat.le_refl _
 ·rw [List.mem_singleton.1 he]
 ·rw [List.mem_singleton.1 he] at h; exact h
 ·rw [List.mem_singleton.1 he]
 ·rw [List.mem_singleton.1 he] at h; exact h
end
structure CmpFn (P : Program) {α : Type} {sz : Nat} (e : Enc α sz) (cmp : α → α → Int) where
 f : FuncId
 a : List FV
 b : List FV
 ok : okCall P f = true
 call : ∀ x y, PureCall P f (a ++ [.agg (e.f x), .agg (e.f y)] ++ b) (vI (cmp x y))
abbrev CmpFn.fv {P : Program} {α : Type} {sz : Nat} {e : Enc α sz} {cmp : α → α → Int} (c : CmpFn P e cmp) : FV := .fn c.f c.a c.b
theorem CmpFn.at {P : Program} {α : Type} [Inhabited α] {sz : Nat} {e : Enc α sz} {cmp : α → α → Int} (c : CmpFn P e cmp) {d : Array α} (i j : Nat) (hi : i < d.size) (hj : j < d.size) : PureCall P c.f (c.a ++ [.agg ((rw e d).getD i []), .agg ((rw e d).getD j [])] ++ c.b) (vI (cmp d[i]! d[j]!)) := by
 rw [rw_getD hi, rw_getD hj]; exact c.call _ _
def ltOf {α : Type} (cmp : α → α → Int) : α → α → Bool := fun x y => decide (cmp x y < 0)
end Go.Proofs.YtihdpjinaafenaaGreatDoor.Ab

/- The loops of Go.Sort, round by round. -/
set_option linter.unusedVariables false
set_option linter.unusedSimpArgs false
namespace Go.Proofs.YtihdpjinaafenaaGreatDoor.Ab
open Go.Sort
section
variable {α : Type} [Inhabited α] {cmp : α → α → Int}
theorem insInner_go {a j : Nat} {d : Array α} (h1 : (j : Int) > a) (h2 : cmp d[j]! d[j - 1]! < 0) : insInner (ltOf cmp) a (j - 1) (swp d j (j - 1)) = insInner (ltOf cmp) a j d := by
 obtain ⟨k, rfl⟩ : ∃ k, j = k + 1 := ⟨j - 1, by omega⟩
 rw [insInner]
 simp only [Nat.add_sub_cancel] at h2 ⊢
 rw [if_pos (by simp [ltOf, h2]; omega)]
theorem insInner_stop {a j : Nat} {d : Array α} (h : (j : Int) > a → 0 ≤ cmp d[j]! d[j - 1]!) : insInner (ltOf cmp) a j d = d := by
 cases j with
 | zero => rfl
 | succ k =>
  rw [insInner, if_neg]
  simp only [Nat.add_sub_cancel] at h
  simp [ltOf]
  intro h1
  exact h (by omega)
theorem insOuter_go {a b i : Nat} {d : Array α} (h : i < b) : insOuter (ltOf cmp) a b i d = insOuter (ltOf cmp) a b (i + 1) (insInner (ltOf cmp) a i d) := by
 rw [insOuter, if_pos h]
theorem insOuter_end {a b i : Nat} {d : Array α} (h : b ≤ i) : insOuter (ltOf cmp) a b i d = d := by
 rw [insOuter, if_neg (by omega)]
end
end Go.Proofs.YtihdpjinaafenaaGreatDoor.Ab

/- Operations by hand: what only reckons or reads; the index of a string. -/
set_option linter.unusedVariables false
set_option linter.unusedSimpArgs false
namespace Go.Proofs.YtihdpjinaafenaaGreatDoor.Ab
open Go.Proofs.YtihdpjinaafenaaGreatDoor.Sl
section
variable {P : Program} {N : Nat} {ops : Array Oper} {dr : Option (List Nat)} {h0 : Gd} {Qr : Tm → Heap → Prop} {s s' : St} {az rest : List AO} {o : Oper} {β : Nat → Value} {hF h : Heap} {Tc : Tm}
theorem RegN.other {d : Nat} {k : K} {q : Bool} (v : AV) (rd : Option Nat) (hpv : ∀ o, o.op = k.op → ∀ {β : Nat → Value} {hF h : Heap} {Tc : Tm}, Sem h0 β hF h Tc s.T s.L s.σ → PvOk P β hF h Tc o ⟨True, v, rd⟩)
  (r : RegN P N ops h0 Qr az ⟨s.T, (d, none, v) :: s.L, s.σ, addrd rd s.rs⟩) : RegN P N ops h0 Qr (⟨some d, none, k, q⟩ :: az) s := by
 intro os hm hok β hF h Tc sem nd
 cases os with
 | nil => simp at hm
 | cons o os =>
  simp only [List.map_cons, List.cons.injEq] at hm
  simp only [List.all_cons, Bool.and_eq_true] at hok
  have f := fit_of hm.1 hok.1
  obtain ⟨nd', hne⟩ := nod_step nd rfl none v
  refine ⟨f.lt, ?_⟩
  rw [f.want_none rfl]
  obtain ⟨u, hv, _, hr⟩ := hpv o f.op sem
  refine (hr h sem.ok.le (fun _ _ _ _ => rfl)).sop ?_
  rw [put_some f.dst]
  exact r os hm.2 hok.2 _ _ _ _ (sem.put (g := none) hne (fun _ _ e => by cases e) hv) nd'
theorem RegD.other {loud : List Nat} {d : Nat} {k : K} {q : Bool} (hact' : isAct k.op = false) (v : AV) (rd : Option Nat) (hrd : ∀ id, rd = some id → ∃ x, (id, x) ∈ s.σ) (hpv : ∀ o, o.op = k.op → ∀ {β : Nat → Value} {hF h : Heap} {Tc : Tm}, Sem h0 β hF h Tc s.T s.L s.σ → PvOk P β hF h Tc o ⟨True, v, rd⟩)
  (r : RegD P N ops loud h0 Qr az ⟨s.T, (d, none, v) :: s.L, s.σ, addrd rd s.rs⟩) : RegD P N ops loud h0 Qr (⟨some d, none, k, q⟩ :: az) s := by
 intro τ hm hok β hF h Tc F E sem fo nd
 cases τ with
 | nil => simp at hm
 | cons e0 τ =>
  obtain ⟨i, rfl, hstrip, hloud, hm2⟩ := d_head hm
  simp only [List.all_cons, Bool.and_eq_true] at hok
  have f := fit_of hstrip hok.1
  obtain ⟨nd', hne⟩ := nod_step nd rfl none v
  have hact : isAct (opAt ops i).op = false := by rw [f.op]; exact hact'
  have fo' := fo.rd rd hrd
  simp only [sdraw, List.not_mem_nil, if_false, hact, Bool.false_eq_true]
  rw [f.want_none rfl]
  simp only [if_true]
  obtain ⟨u, hv, hp, hr⟩ := hpv _ f.op sem
  cases hrd' : isRead (opAt ops i).op with
  | true =>
   rw [if_pos rfl]
   refine ⟨u, ⟨fun g => hF.le g ∧ ∀ id b, rd = some id → baseOf (β id) = some b → g b = h b, fun g g' hgg hg => ⟨Heap.le_trans hg.1 hgg, fun id b e1 e2 => ?_⟩⟩, ⟨sem.ok.le, fun _ _ _ _ => rfl⟩, fun g hg => hr g hg.1 hg.2, ?_⟩
   ·have h1 := hg.2 id b e1 e2
    obtain ⟨x, hx⟩ := hrd id e1
    obtain ⟨ob', h2⟩ := (sem.ok.ok _ hx).blk ((sem.ok.ok _ hx).fp e2)
    rw [h2] at h1 ⊢
    exact hgg _ _ h1
   ·rw [put_some f.dst]
    refine r τ hm2 hok.2 _ _ _ _ _ _ (sem.put (g := none) hne (fun _ _ e => by cases e) hv) ⟨fun A hA g hg hb => ?_, fo'.2⟩ nd'
    rcases List.mem_cons.1 hA with rfl | hA
    ·refine ⟨hg, fun id b e1 e2 => hb id ?_ b e2⟩
     simp [addrd, e1]
    ·exact fo'.1 A hA g hg hb
  | false =>
   rw [if_neg (by simp)]
   refine ⟨u, hp hrd', ?_⟩
   rw [put_some f.dst]
   exact r τ hm2 hok.2 _ _ _ _ _ _ (sem.put (g := none) hne (fun _ _ e => by cases e) hv) fo' nd'
theorem reg_other {d : Nat} {k : K} {q : Bool} (hact : isAct k.op = false) (v : AV) (hpv : ∀ o, o.op = k.op → ∀ {β : Nat → Value} {hF h : Heap} {Tc : Tm}, Sem h0 β hF h Tc s.T s.L s.σ → PvOk P β hF h Tc o ⟨True, v, none⟩)
  (r : Reg P N ops dr h0 Qr az ⟨s.T, (d, none, v) :: s.L, s.σ, s.rs⟩) : Reg P N ops dr h0 Qr (⟨some d, none, k, q⟩ :: az) s := by
 cases dr with
 | none => exact RegN.other v none hpv r
 | some l => exact RegD.other hact v none (fun _ e => by cases e) hpv r
theorem r_index_str {ρ : Operand → Value} {t : TypeId} {x i : Operand} {s : ByteArray} {k : IntKind} {j : Nat} {c : UInt8} (ho : o.op = .index t x i) (hu : P.underlying t = some .string) (hx : ρ x = .string s) (hi : ρ i = .int k j) (hc : s[j]? = some c) : ReadOp P o ρ h (.int .u8 c.toNat) := by
 intro w r
 simp [execOp, ho, Instr.index, hx, hi, asIntOf, run_underlying hu, hc]
theorem r_ixs {d : Nat} {q : Bool} {t : TypeId} {x i : Operand} {str : ByteArray} {k : IntKind} {j : Nat} (c : UInt8) (hc : str[j]? = some c) (r : Reg P N ops dr h0 Qr az ⟨s.T, (d, none, .fz (.val (.int .u8 c.toNat))) :: s.L, s.σ, s.rs⟩) (hu : P.underlying t = some .string := by rfl)
  (hx : opd s.L s.T [] x = some (.fz (.val (.string str))) := by simp only [run, step1, isA, stepP, stepA, pv, pa, gob, opd, lookV, lookL, lookT, lookS, chain, inCh, addrd, hits, pgT, pgL, addL, pT, pL, pS, pO, pC, pA, ibin, sint, intBin, feq, fc_int, fc_bool, fc_str, fc_slice, fc_ptr, fc_map, fc_nif, fc_nfn, fc_agg, fc_of, fc_L, fc_sl, fc_fp, fc_ifc, fc_fn, fillF, ofzs, ofzp, unfz, rowsP, srcRows_of, srcRows_L, srcRows_os, srcRows_nil, asSl_of, asSl_L, asSl_sl, asSl_nil, setS, okNew, nmT, nmL, nmS, nmC, nmNe, OO.cells, absC, bnd, target, resV, resVs, List.set_cons_zero, List.set_cons_succ, ↓reduceIte, reduceCtorEq, Nat.reduceEqDiff, Nat.reduceBEq, Nat.reduceAdd, Nat.reduceMul, Nat.reduceLT, Nat.reduceLeDiff, Nat.reduceSub, Option.map_some, List.map_cons, List.map_nil, List.drop_succ_cons, List.drop_zero, List.drop_nil, List.take_succ_cons, List.take_zero, List.take_nil, List.cons_append, List.nil_append, List.append_nil, List.any_cons, List.any_nil, List.contains_cons, List.contains_nil, List.getElem?_cons_zero, List.getElem?_cons_succ, List.length_cons, List.length_nil, cond_true, cond_false, decide_true, decide_false, Bool.not_true, Bool.not_false, Bool.true_and, Bool.false_and, Bool.and_true, Bool.and_false, Bool.or_true, Bool.true_or, Bool.or_false, Bool.false_or, beq_self_eq_true, Bool.false_eq_true, pick_and, pick_or, Int.toNat_natCast, Int.toNat_zero, true_and, and_true, forall_const, implies_true, Nat.zero_add, Nat.add_zero, and_self, *] <;> exact rfl) (hi : opd s.L s.T [] i = some (.fz (.val (.int k j))) := by simp only [run, step1, isA, stepP, stepA, pv, pa, gob, opd, lookV, lookL, lookT, lookS, chain, inCh, addrd, hits, pgT, pgL, addL, pT, pL, pS, pO, pC, pA, ibin, sint, intBin, feq, fc_int, fc_bool, fc_str, fc_slice, fc_ptr, fc_map, fc_nif, fc_nfn, fc_agg, fc_of, fc_L, fc_sl, fc_fp, fc_ifc, fc_fn, fillF, ofzs, ofzp, unfz, rowsP, srcRows_of, srcRows_L, srcRows_os, srcRows_nil, asSl_of, asSl_L, asSl_sl, asSl_nil, setS, okNew, nmT, nmL, nmS, nmC, nmNe, OO.cells, absC, bnd, target, resV, resVs, List.set_cons_zero, List.set_cons_succ, ↓reduceIte, reduceCtorEq, Nat.reduceEqDiff, Nat.reduceBEq, Nat.reduceAdd, Nat.reduceMul, Nat.reduceLT, Nat.reduceLeDiff, Nat.reduceSub, Option.map_some, List.map_cons, List.map_nil, List.drop_succ_cons, List.drop_zero, List.drop_nil, List.take_succ_cons, List.take_zero, List.take_nil, List.cons_append, List.nil_append, List.append_nil, List.any_cons, List.any_nil, List.contains_cons, List.contains_nil, List.getElem?_cons_zero, List.getElem?_cons_succ, List.length_cons, List.length_nil, cond_true, cond_false, decide_true, decide_false, Bool.not_true, Bool.not_false, Bool.true_and, Bool.false_and, Bool.and_true, Bool.and_false, Bool.or_true, Bool.true_or, Bool.or_false, Bool.false_or, beq_self_eq_true, Bool.false_eq_true, pick_and, pick_or, Int.toNat_natCast, Int.toNat_zero, true_and, and_true, forall_const, implies_true, Nat.zero_add, Nat.add_zero, and_self, *] <;> exact rfl) : Reg P N ops dr h0 Qr (⟨some d, none, .other (.index t x i), q⟩ :: az) s :=
 reg_other rfl _ (fun o ho β hF h Tc sem => fin_pr (.fz (.val _)) (r_index_str ho hu (fz_val (opd_ok sem (fun x hx => by cases hx) hx)) (fz_val (opd_ok sem (fun x hx => by cases hx) hi)) hc)) r
end
end Go.Proofs.YtihdpjinaafenaaGreatDoor.Ab

/- Things as frozen values. -/
set_option linter.unusedVariables false
set_option linter.unusedSimpArgs false
namespace Go.Proofs.YtihdpjinaafenaaGreatDoor
open Sl Ab
theorem Ab.frep_val {h : Heap} {u v : Value} (r : FRep h (.val u) v) : v = u := by cases r; rfl
theorem FReps.nil' {h : Heap} : FReps h [] [] := ⟨rfl, fun j c v a => by simp at a⟩
def encTh (k : ThK) : List FV := [vI k.1.1, vI k.1.2.1, vU k.1.2.2, vU k.2.1, vU k.2.2]
theorem thV_of {h : Heap} {k : ThK} {v : Value} (r0 : FRep h (.agg (encTh k)) v) : v = thV k := by
 obtain ⟨vs, rfl, r⟩ := frep_agg r0
 obtain ⟨v1, vs, rfl, r1, r⟩ := r.uncons
 obtain ⟨v2, vs, rfl, r2, r⟩ := r.uncons
 obtain ⟨v3, vs, rfl, r3, r⟩ := r.uncons
 obtain ⟨v4, vs, rfl, r4, r⟩ := r.uncons
 obtain ⟨v5, vs, rfl, r5, r⟩ := r.uncons
 have : vs = [] := List.length_eq_zero_iff.1 r.1
 rw [frep_val r1, frep_val r2, frep_val r3, frep_val r4, frep_val r5, this]
 rfl
end Go.Proofs.YtihdpjinaafenaaGreatDoor

/- Readable slices: what they look like. -/
set_option linter.unusedVariables false
set_option linter.unusedSimpArgs false
namespace Go.Proofs.YtihdpjinaafenaaGreatDoor
open Sl
theorem Sl.Cells.form {h : Heap} {sz n : Nat} {v : Value} {cs : List Value} (x : Cells h sz v n cs) : ∃ a c, v = .slice a n c := by
 cases x with
 | zero a c => exact ⟨_, _, rfl⟩
 | at_ => exact ⟨_, _, rfl⟩
theorem Sl.Cells.get {h : Heap} {sz n : Nat} {v : Value} {cs : List Value} (x : Cells h sz v n cs) {i : Nat} (hi : i < n) :
  ∃ b off c full e fz, v = .slice (some ⟨b, off, none⟩) n c ∧ h b = some (.cells full e fz) ∧ ∀ j, j < sz → full[off + i * sz + j]? = cs[i * sz + j]? := by
 cases x with
 | zero a c => omega
 | @at_ b off n c full e fz cs hb hl hnc hc =>
  refine ⟨b, off, c, full, e, fz, rfl, hb, fun j hj => ?_⟩
  have hlt : i * sz + j < n * sz := by
   have : (i + 1) * sz ≤ n * sz := Nat.mul_le_mul_right _ hi
   rw [Nat.add_mul] at this; omega
  rw [← hc, List.getElem?_take_of_lt hlt, List.getElem?_drop, Array.getElem?_toList, Nat.add_assoc]
end Go.Proofs.YtihdpjinaafenaaGreatDoor

/- cmp.Compare, cmp.Or. -/
set_option linter.unusedVariables false
set_option linter.unusedSimpArgs false
namespace Go.Proofs.YtihdpjinaafenaaGreatDoor
open Sl
def cmpI (a b : Int) : Int := if a < b then -1 else if a > b then 1 else 0
theorem isNaNInt_ok (a : Int) (h : Heap) : SCalls Tryz.prog 172 #[.int .i64 a] h (fun r h' => h' = h ∧ r = .bool false) := by
 refine s_enter Tryz.func172 rfl (by rw [Tryz.ntmps172]; simp) ?_
 rw [Tryz.ntmps172]
 generalize hT : T0 #[.int .i64 a] = T
 have h0 : T 0 = .int .i64 a := by rw [← hT]; rfl
 clear hT
 repeat refine s_seq ?_
 refine s_region ?_
 refine w_pv rfl dC (want_none rfl) (p_val evA) ?_
 refine w_nil ?_
 repeat refine s_seq ?_
 refine s_region ?_
 refine w_pv rfl dC (want_none rfl) (p_val evA) ?_
 refine w_pv rfl dC (want_none rfl) (p_val evA) ?_
 refine w_pv rfl dC (want_none rfl) (p_val evA) ?_
 refine w_pv rfl dC (want_none rfl) (p_val evA) ?_
 refine w_nil ?_
 exact s_ret ⟨_, res_one rfl rfl, rfl, slA⟩
theorem cmpInt_ok (a b : Int) (h : Heap) : SCalls Tryz.prog 103 #[.int .i64 a, .int .i64 b] h (fun r h' => h' = h ∧ r = .int .i64 (cmpI a b)) := by
 refine s_enter Tryz.func103 rfl (by rw [Tryz.ntmps103]; simp) ?_
 rw [Tryz.ntmps103]
 generalize hT : T0 #[.int .i64 a, .int .i64 b] = T
 have h0 : T 0 = .int .i64 a := by rw [← hT]; rfl
 have h1 : T 1 = .int .i64 b := by rw [← hT]; rfl
 clear hT
 unfold cmpI
 by_cases hlt : a < b
 ·have e1 : decide (a < b) = true := decide_eq_true hlt
  simp only [if_pos hlt]
  clear hlt
  repeat refine s_seq ?_
  refine s_region ?_
  refine w_pv rfl dC (want_none rfl) (p_val evA) ?_
  refine w_nil ?_
  repeat refine s_seq ?_
  refine s_region ?_
  refine w_pv rfl dC (want_none rfl) (p_val evA) ?_
  refine w_ac rfl dC (want_none rfl) (s_call rfl rfl Tryz.func172 kR kR evA ?_); refine (isNaNInt_ok _ _).mono ?_; rintro _ h ⟨rfl, rfl⟩
  refine w_pv rfl dC (want_none rfl) (p_val evA) ?_
  refine w_nil ?_
  repeat refine s_seq ?_
  refine s_region ?_
  refine w_pv rfl dC (want_none rfl) (p_val evA) ?_
  refine w_ac rfl dC (want_none rfl) (s_call rfl rfl Tryz.func172 kR kR evA ?_); refine (isNaNInt_ok _ _).mono ?_; rintro _ h ⟨rfl, rfl⟩
  refine w_pv rfl dC (want_none rfl) (p_val evA) ?_
  refine w_nil ?_
  repeat refine s_seq ?_
  refine s_region ?_
  refine w_pv rfl dC (want_none rfl) (p_val evA) ?_
  refine w_nil ?_
  repeat refine s_seq ?_
  refine s_cond (t := false) slA ?_
  repeat refine s_seq ?_
  refine s_skip ?_
  repeat refine s_seq ?_
  refine s_region ?_
  refine w_pv rfl dC (want_none rfl) (p_val evA) ?_
  refine w_nil ?_
  repeat refine s_seq ?_
  refine s_cond (t := false) slA ?_
  repeat refine s_seq ?_
  refine s_skip ?_
  repeat refine s_seq ?_
  refine s_region ?_
  refine w_pv rfl dC (want_none rfl) (p_val evA) ?_
  refine w_pv rfl dC (want_none rfl) (p_val evA) ?_
  refine w_pv rfl dC (want_none rfl) (p_val evA) ?_
  refine w_nil ?_
  repeat refine s_seq ?_
  refine s_cond (t := true) slA ?_
  repeat refine s_seq ?_
  refine s_region ?_
  refine w_pv rfl dC (want_none rfl) (p_val evA) ?_
  refine w_nil ?_
  exact s_ret ⟨_, res_one rfl rfl, rfl, slA⟩
 ·have e1 : decide (a < b) = false := decide_eq_false hlt
  simp only [if_neg hlt]
  by_cases hgt : a > b
  ·have e2 : decide (a > b) = true := decide_eq_true hgt
   simp only [if_pos hgt]
   clear hlt hgt
   repeat refine s_seq ?_
   refine s_region ?_
   refine w_pv rfl dC (want_none rfl) (p_val evA) ?_
   refine w_nil ?_
   repeat refine s_seq ?_
   refine s_region ?_
   refine w_pv rfl dC (want_none rfl) (p_val evA) ?_
   refine w_ac rfl dC (want_none rfl) (s_call rfl rfl Tryz.func172 kR kR evA ?_); refine (isNaNInt_ok _ _).mono ?_; rintro _ h ⟨rfl, rfl⟩
   refine w_pv rfl dC (want_none rfl) (p_val evA) ?_
   refine w_nil ?_
   repeat refine s_seq ?_
   refine s_region ?_
   refine w_pv rfl dC (want_none rfl) (p_val evA) ?_
   refine w_ac rfl dC (want_none rfl) (s_call rfl rfl Tryz.func172 kR kR evA ?_); refine (isNaNInt_ok _ _).mono ?_; rintro _ h ⟨rfl, rfl⟩
   refine w_pv rfl dC (want_none rfl) (p_val evA) ?_
   refine w_nil ?_
   repeat refine s_seq ?_
   refine s_region ?_
   refine w_pv rfl dC (want_none rfl) (p_val evA) ?_
   refine w_nil ?_
   repeat refine s_seq ?_
   refine s_cond (t := false) slA ?_
   repeat refine s_seq ?_
   refine s_skip ?_
   repeat refine s_seq ?_
   refine s_region ?_
   refine w_pv rfl dC (want_none rfl) (p_val evA) ?_
   refine w_nil ?_
   repeat refine s_seq ?_
   refine s_cond (t := false) slA ?_
   repeat refine s_seq ?_
   refine s_skip ?_
   repeat refine s_seq ?_
   refine s_region ?_
   refine w_pv rfl dC (want_none rfl) (p_val evA) ?_
   refine w_pv rfl dC (want_none rfl) (p_val evA) ?_
   refine w_pv rfl dC (want_none rfl) (p_val evA) ?_
   refine w_nil ?_
   repeat refine s_seq ?_
   refine s_cond (t := false) slA ?_
   repeat refine s_seq ?_
   refine s_skip ?_
   repeat refine s_seq ?_
   refine s_region ?_
   refine w_pv rfl dC (want_none rfl) (p_val evA) ?_
   refine w_pv rfl dC (want_none rfl) (p_val evA) ?_
   refine w_pv rfl dC (want_none rfl) (p_val evA) ?_
   refine w_nil ?_
   repeat refine s_seq ?_
   refine s_cond (t := true) slA ?_
   repeat refine s_seq ?_
   refine s_region ?_
   refine w_pv rfl dC (want_none rfl) (p_val evA) ?_
   refine w_nil ?_
   exact s_ret ⟨_, res_one rfl rfl, rfl, slA⟩
  ·have e2 : decide (a > b) = false := decide_eq_false hgt
   simp only [if_neg hgt]
   clear hlt hgt
   repeat refine s_seq ?_
   refine s_region ?_
   refine w_pv rfl dC (want_none rfl) (p_val evA) ?_
   refine w_nil ?_
   repeat refine s_seq ?_
   refine s_region ?_
   refine w_pv rfl dC (want_none rfl) (p_val evA) ?_
   refine w_ac rfl dC (want_none rfl) (s_call rfl rfl Tryz.func172 kR kR evA ?_); refine (isNaNInt_ok _ _).mono ?_; rintro _ h ⟨rfl, rfl⟩
   refine w_pv rfl dC (want_none rfl) (p_val evA) ?_
   refine w_nil ?_
   repeat refine s_seq ?_
   refine s_region ?_
   refine w_pv rfl dC (want_none rfl) (p_val evA) ?_
   refine w_ac rfl dC (want_none rfl) (s_call rfl rfl Tryz.func172 kR kR evA ?_); refine (isNaNInt_ok _ _).mono ?_; rintro _ h ⟨rfl, rfl⟩
   refine w_pv rfl dC (want_none rfl) (p_val evA) ?_
   refine w_nil ?_
   repeat refine s_seq ?_
   refine s_region ?_
   refine w_pv rfl dC (want_none rfl) (p_val evA) ?_
   refine w_nil ?_
   repeat refine s_seq ?_
   refine s_cond (t := false) slA ?_
   repeat refine s_seq ?_
   refine s_skip ?_
   repeat refine s_seq ?_
   refine s_region ?_
   refine w_pv rfl dC (want_none rfl) (p_val evA) ?_
   refine w_nil ?_
   repeat refine s_seq ?_
   refine s_cond (t := false) slA ?_
   repeat refine s_seq ?_
   refine s_skip ?_
   repeat refine s_seq ?_
   refine s_region ?_
   refine w_pv rfl dC (want_none rfl) (p_val evA) ?_
   refine w_pv rfl dC (want_none rfl) (p_val evA) ?_
   refine w_pv rfl dC (want_none rfl) (p_val evA) ?_
   refine w_nil ?_
   repeat refine s_seq ?_
   refine s_cond (t := false) slA ?_
   repeat refine s_seq ?_
   refine s_skip ?_
   repeat refine s_seq ?_
   refine s_region ?_
   refine w_pv rfl dC (want_none rfl) (p_val evA) ?_
   refine w_pv rfl dC (want_none rfl) (p_val evA) ?_
   refine w_pv rfl dC (want_none rfl) (p_val evA) ?_
   refine w_nil ?_
   repeat refine s_seq ?_
   refine s_cond (t := false) slA ?_
   repeat refine s_seq ?_
   refine s_skip ?_
   repeat refine s_seq ?_
   refine s_region ?_
   refine w_pv rfl dC (want_none rfl) (p_val evA) ?_
   refine w_nil ?_
   exact s_ret ⟨_, res_one rfl rfl, rfl, slA⟩
theorem isNaNAddr_ok (a : Int) (h : Heap) : SCalls Tryz.prog 248 #[.int .u32 a] h (fun r h' => h' = h ∧ r = .bool false) := by
 refine s_enter Tryz.func248 rfl (by rw [Tryz.ntmps248]; simp) ?_
 rw [Tryz.ntmps248]
 generalize hT : T0 #[.int .u32 a] = T
 have h0 : T 0 = .int .u32 a := by rw [← hT]; rfl
 clear hT
 repeat refine s_seq ?_
 refine s_region ?_
 refine w_pv rfl dC (want_none rfl) (p_val evA) ?_
 refine w_nil ?_
 repeat refine s_seq ?_
 refine s_region ?_
 refine w_pv rfl dC (want_none rfl) (p_val evA) ?_
 refine w_pv rfl dC (want_none rfl) (p_val evA) ?_
 refine w_pv rfl dC (want_none rfl) (p_val evA) ?_
 refine w_pv rfl dC (want_none rfl) (p_val evA) ?_
 refine w_nil ?_
 exact s_ret ⟨_, res_one rfl rfl, rfl, slA⟩
theorem cmpAddr_ok (a b : Int) (h : Heap) : SCalls Tryz.prog 173 #[.int .u32 a, .int .u32 b] h (fun r h' => h' = h ∧ r = .int .i64 (cmpI a b)) := by
 refine s_enter Tryz.func173 rfl (by rw [Tryz.ntmps173]; simp) ?_
 rw [Tryz.ntmps173]
 generalize hT : T0 #[.int .u32 a, .int .u32 b] = T
 have h0 : T 0 = .int .u32 a := by rw [← hT]; rfl
 have h1 : T 1 = .int .u32 b := by rw [← hT]; rfl
 clear hT
 unfold cmpI
 by_cases hlt : a < b
 ·have e1 : decide (a < b) = true := decide_eq_true hlt
  simp only [if_pos hlt]
  clear hlt
  repeat refine s_seq ?_
  refine s_region ?_
  refine w_pv rfl dC (want_none rfl) (p_val evA) ?_
  refine w_nil ?_
  repeat refine s_seq ?_
  refine s_region ?_
  refine w_pv rfl dC (want_none rfl) (p_val evA) ?_
  refine w_ac rfl dC (want_none rfl) (s_call rfl rfl Tryz.func248 kR kR evA ?_); refine (isNaNAddr_ok _ _).mono ?_; rintro _ h ⟨rfl, rfl⟩
  refine w_pv rfl dC (want_none rfl) (p_val evA) ?_
  refine w_nil ?_
  repeat refine s_seq ?_
  refine s_region ?_
  refine w_pv rfl dC (want_none rfl) (p_val evA) ?_
  refine w_ac rfl dC (want_none rfl) (s_call rfl rfl Tryz.func248 kR kR evA ?_); refine (isNaNAddr_ok _ _).mono ?_; rintro _ h ⟨rfl, rfl⟩
  refine w_pv rfl dC (want_none rfl) (p_val evA) ?_
  refine w_nil ?_
  repeat refine s_seq ?_
  refine s_region ?_
  refine w_pv rfl dC (want_none rfl) (p_val evA) ?_
  refine w_nil ?_
  repeat refine s_seq ?_
  refine s_cond (t := false) slA ?_
  repeat refine s_seq ?_
  refine s_skip ?_
  repeat refine s_seq ?_
  refine s_region ?_
  refine w_pv rfl dC (want_none rfl) (p_val evA) ?_
  refine w_nil ?_
  repeat refine s_seq ?_
  refine s_cond (t := false) slA ?_
  repeat refine s_seq ?_
  refine s_skip ?_
  repeat refine s_seq ?_
  refine s_region ?_
  refine w_pv rfl dC (want_none rfl) (p_val evA) ?_
  refine w_pv rfl dC (want_none rfl) (p_val evA) ?_
  refine w_pv rfl dC (want_none rfl) (p_val evA) ?_
  refine w_nil ?_
  repeat refine s_seq ?_
  refine s_cond (t := true) slA ?_
  repeat refine s_seq ?_
  refine s_region ?_
  refine w_pv rfl dC (want_none rfl) (p_val evA) ?_
  refine w_nil ?_
  exact s_ret ⟨_, res_one rfl rfl, rfl, slA⟩
 ·have e1 : decide (a < b) = false := decide_eq_false hlt
  simp only [if_neg hlt]
  by_cases hgt : a > b
  ·have e2 : decide (a > b) = true := decide_eq_true hgt
   simp only [if_pos hgt]
   clear hlt hgt
   repeat refine s_seq ?_
   refine s_region ?_
   refine w_pv rfl dC (want_none rfl) (p_val evA) ?_
   refine w_nil ?_
   repeat refine s_seq ?_
   refine s_region ?_
   refine w_pv rfl dC (want_none rfl) (p_val evA) ?_
   refine w_ac rfl dC (want_none rfl) (s_call rfl rfl Tryz.func248 kR kR evA ?_); refine (isNaNAddr_ok _ _).mono ?_; rintro _ h ⟨rfl, rfl⟩
   refine w_pv rfl dC (want_none rfl) (p_val evA) ?_
   refine w_nil ?_
   repeat refine s_seq ?_
   refine s_region ?_
   refine w_pv rfl dC (want_none rfl) (p_val evA) ?_
   refine w_ac rfl dC (want_none rfl) (s_call rfl rfl Tryz.func248 kR kR evA ?_); refine (isNaNAddr_ok _ _).mono ?_; rintro _ h ⟨rfl, rfl⟩
   refine w_pv rfl dC (want_none rfl) (p_val evA) ?_
   refine w_nil ?_
   repeat refine s_seq ?_
   refine s_region ?_
   refine w_pv rfl dC (want_none rfl) (p_val evA) ?_
   refine w_nil ?_
   repeat refine s_seq ?_
   refine s_cond (t := false) slA ?_
   repeat refine s_seq ?_
   refine s_skip ?_
   repeat refine s_seq ?_
   refine s_region ?_
   refine w_pv rfl dC (want_none rfl) (p_val evA) ?_
   refine w_nil ?_
   repeat refine s_seq ?_
   refine s_cond (t := false) slA ?_
   repeat refine s_seq ?_
   refine s_skip ?_
   repeat refine s_seq ?_
   refine s_region ?_
   refine w_pv rfl dC (want_none rfl) (p_val evA) ?_
   refine w_pv rfl dC (want_none rfl) (p_val evA) ?_
   refine w_pv rfl dC (want_none rfl) (p_val evA) ?_
   refine w_nil ?_
   repeat refine s_seq ?_
   refine s_cond (t := false) slA ?_
   repeat refine s_seq ?_
   refine s_skip ?_
   repeat refine s_seq ?_
   refine s_region ?_
   refine w_pv rfl dC (want_none rfl) (p_val evA) ?_
   refine w_pv rfl dC (want_none rfl) (p_val evA) ?_
   refine w_pv rfl dC (want_none rfl) (p_val evA) ?_
   refine w_nil ?_
   repeat refine s_seq ?_
   refine s_cond (t := true) slA ?_
   repeat refine s_seq ?_
   refine s_region ?_
   refine w_pv rfl dC (want_none rfl) (p_val evA) ?_
   refine w_nil ?_
   exact s_ret ⟨_, res_one rfl rfl, rfl, slA⟩
  ·have e2 : decide (a > b) = false := decide_eq_false hgt
   simp only [if_neg hgt]
   clear hlt hgt
   repeat refine s_seq ?_
   refine s_region ?_
   refine w_pv rfl dC (want_none rfl) (p_val evA) ?_
   refine w_nil ?_
   repeat refine s_seq ?_
   refine s_region ?_
   refine w_pv rfl dC (want_none rfl) (p_val evA) ?_
   refine w_ac rfl dC (want_none rfl) (s_call rfl rfl Tryz.func248 kR kR evA ?_); refine (isNaNAddr_ok _ _).mono ?_; rintro _ h ⟨rfl, rfl⟩
   refine w_pv rfl dC (want_none rfl) (p_val evA) ?_
   refine w_nil ?_
   repeat refine s_seq ?_
   refine s_region ?_
   refine w_pv rfl dC (want_none rfl) (p_val evA) ?_
   refine w_ac rfl dC (want_none rfl) (s_call rfl rfl Tryz.func248 kR kR evA ?_); refine (isNaNAddr_ok _ _).mono ?_; rintro _ h ⟨rfl, rfl⟩
   refine w_pv rfl dC (want_none rfl) (p_val evA) ?_
   refine w_nil ?_
   repeat refine s_seq ?_
   refine s_region ?_
   refine w_pv rfl dC (want_none rfl) (p_val evA) ?_
   refine w_nil ?_
   repeat refine s_seq ?_
   refine s_cond (t := false) slA ?_
   repeat refine s_seq ?_
   refine s_skip ?_
   repeat refine s_seq ?_
   refine s_region ?_
   refine w_pv rfl dC (want_none rfl) (p_val evA) ?_
   refine w_nil ?_
   repeat refine s_seq ?_
   refine s_cond (t := false) slA ?_
   repeat refine s_seq ?_
   refine s_skip ?_
   repeat refine s_seq ?_
   refine s_region ?_
   refine w_pv rfl dC (want_none rfl) (p_val evA) ?_
   refine w_pv rfl dC (want_none rfl) (p_val evA) ?_
   refine w_pv rfl dC (want_none rfl) (p_val evA) ?_
   refine w_nil ?_
   repeat refine s_seq ?_
   refine s_cond (t := false) slA ?_
   repeat refine s_seq ?_
   refine s_skip ?_
   repeat refine s_seq ?_
   refine s_region ?_
   refine w_pv rfl dC (want_none rfl) (p_val evA) ?_
   refine w_pv rfl dC (want_none rfl) (p_val evA) ?_
   refine w_pv rfl dC (want_none rfl) (p_val evA) ?_
   refine w_nil ?_
   repeat refine s_seq ?_
   refine s_cond (t := false) slA ?_
   repeat refine s_seq ?_
   refine s_skip ?_
   repeat refine s_seq ?_
   refine s_region ?_
   refine w_pv rfl dC (want_none rfl) (p_val evA) ?_
   refine w_nil ?_
   exact s_ret ⟨_, res_one rfl rfl, rfl, slA⟩
def orI (xs : List Int) : Int := (xs.find? fun x => !(x == 0)).getD 0
theorem or_ok {h : Heap} {v : Value} (xs : List Int) (hc : Cells h 1 v xs.length (xs.map (.int .i64))) (hn : xs.length ≤ 1000000) :
  SCalls Tryz.prog 102 #[v] h (fun r h' => h' = h ∧ r = .int .i64 (orI xs)) := by
 refine s_enter Tryz.func102 rfl (by rw [Tryz.ntmps102]; simp) ?_
 rw [Tryz.ntmps102]
 obtain ⟨a, c, rfl⟩ := hc.form
 generalize hT : T0 #[.slice a xs.length c] = T
 have h0 : T 0 = .slice a xs.length c := by rw [← hT]; rfl
 clear hT
 repeat refine s_seq ?_
 refine s_region ?_
 refine w_pv rfl dC (want_none rfl) (p_val evA) ?_
 refine w_nil ?_
 repeat refine s_seq ?_
 refine s_region ?_
 refine w_pv rfl dC (want_none rfl) (p_val evA) ?_
 refine w_nil ?_
 repeat refine s_seq ?_
 refine s_region ?_
 refine w_pv rfl dC (want_none rfl) (p_val evA) ?_
 refine w_rd rfl dC (want_none rfl) (r_len_slice rfl Tryz.underlying63 evA) ?_
 refine w_pv rfl dC (want_none rfl) (p_val evA) ?_
 refine w_nil ?_
 refine (s_block (s_loop (fun m T h' => ∃ i : Nat, m = xs.length - i ∧ i ≤ xs.length ∧ h' = h ∧ (∀ x ∈ xs.take i, x = 0) ∧ T 3 = .int .i64 0 ∧ T 6 = .slice a xs.length c ∧ T 7 = .int .i64 (xs.length : Nat) ∧ T 8 = .int .i64 (i : Nat)) (n0 := xs.length)
  ⟨0, by omega, by omega, rfl, by simp, slA, slA, slA, by simp only [pval, ev, upd, binVal, intBin, Option.map_some, ↓reduceIte, reduceCtorEq, Nat.reduceEqDiff, Nat.reduceBEq, List.map_toArray, List.map_cons, List.map_nil, cond_true, cond_false, decide_true, decide_false, Bool.not_true, Bool.not_false, Bool.true_and, Bool.false_and, Bool.and_true, Bool.and_false, beq_self_eq_true, bne_self_eq_false, List.getElem_toArray, List.getElem_cons_succ, List.getElem_cons_zero, *] <;> rfl⟩ ?_))
 clear h0 T
 rintro m T h' ⟨i, rfl, hi, rfl, hz, h3, h6, h7, h8⟩
 by_cases hlt : i < xs.length
 ·have e1 : decide ((i : Int) < (xs.length : Int)) = true := decide_eq_true (by omega)
  have hw3 : IntKind.i64.wrap ((i : Int) + 1) = ((i + 1 : Nat) : Int) := wrap64_nat _ _ (by omega) (by omega)
  obtain ⟨b1, o1, k1, f1, t1, z1, q1, hb1, hg1⟩ := hc.get hlt
  cases q1
  obtain ⟨x, hxi⟩ : ∃ x, xs[i]? = some x := ⟨_, List.getElem?_eq_getElem hlt⟩
  have g1 : f1[o1 + i * 1]? = some (.int .i64 x) := by have := hg1 0 (by omega); simpa [hxi] using this
  clear hg1
  have hii : (0 : Int) ≤ (i : Int) := by omega
  have hi1 : (i : Int) < (xs.length : Int) := by omega
  by_cases hx0 : x = 0
  ·have e2 : (x != 0) = false := by simp [hx0]
   have hz2 : ∀ y ∈ xs.take (i + 1), y = 0 := by
    intro y hy
    rw [List.take_add_one, hxi] at hy
    rcases List.mem_append.1 hy with hy | hy
    ·exact hz y hy
    ·simp at hy; rw [hy]; exact hx0
   clear hx0 hxi
   repeat refine s_seq ?_
   refine s_region ?_
   refine w_pv rfl dC (want_none rfl) (p_val evA) ?_
   refine w_nil ?_
   repeat refine s_seq ?_
   refine s_cond (t := true) slA ?_
   repeat refine s_seq ?_
   refine s_skip ?_
   repeat refine s_seq ?_
   refine s_block ?_
   repeat refine s_seq ?_
   refine s_region ?_
   refine w_pv rfl dC (want_none rfl) (p_indexAddr (sz := 1) rfl Tryz.underlying63 kR kR evA evA hii hi1) ?_
   refine w_rd rfl dC (want_none rfl) (r_load1 rfl Tryz.underlying3 rfl evA hpA ceA) ?_
   refine w_pv rfl dC (want_none rfl) (p_val evA) ?_
   refine w_nil ?_
   repeat refine s_seq ?_
   refine s_region ?_
   refine w_pv rfl dC (want_none rfl) (p_val evA) ?_
   refine w_pv rfl dC (want_none rfl) (p_val evA) ?_
   refine w_pv rfl dC (want_none rfl) (p_val evA) ?_
   refine w_nil ?_
   repeat refine s_seq ?_
   refine s_cond (t := false) slA ?_
   repeat refine s_seq ?_
   refine s_skip ?_
   repeat refine s_seq ?_
   refine s_region ?_
   refine w_pv rfl dC (want_none rfl) (p_val evA) ?_
   refine w_pv rfl dC (want_none rfl) (p_val evA) ?_
   refine w_nil ?_
   exact ⟨xs.length - (i + 1), by omega, i + 1, rfl, by omega, rfl, hz2, slA, slA, slA, slA⟩
  ·have e2 : (x != 0) = true := by simpa using hx0
   have hor : orI xs = x := by
    unfold orI
    have h1 : xs = xs.take i ++ x :: xs.drop (i + 1) := by
     have : xs[i] = x := (List.getElem?_eq_some_iff.1 hxi).2
     rw [← this, List.getElem_cons_drop, List.take_append_drop]
    have h2 : (xs.take i).find? (fun x => !(x == 0)) = none := by
     rw [List.find?_eq_none]; intro y hy; simp [hz y hy]
    rw [h1, List.find?_append, h2]
    simp [hx0]
   clear hx0 hxi hz
   repeat refine s_seq ?_
   refine s_region ?_
   refine w_pv rfl dC (want_none rfl) (p_val evA) ?_
   refine w_nil ?_
   repeat refine s_seq ?_
   refine s_cond (t := true) slA ?_
   repeat refine s_seq ?_
   refine s_skip ?_
   repeat refine s_seq ?_
   refine s_block ?_
   repeat refine s_seq ?_
   refine s_region ?_
   refine w_pv rfl dC (want_none rfl) (p_indexAddr (sz := 1) rfl Tryz.underlying63 kR kR evA evA hii hi1) ?_
   refine w_rd rfl dC (want_none rfl) (r_load1 rfl Tryz.underlying3 rfl evA hpA ceA) ?_
   refine w_pv rfl dC (want_none rfl) (p_val evA) ?_
   refine w_nil ?_
   repeat refine s_seq ?_
   refine s_region ?_
   refine w_pv rfl dC (want_none rfl) (p_val evA) ?_
   refine w_pv rfl dC (want_none rfl) (p_val evA) ?_
   refine w_pv rfl dC (want_none rfl) (p_val evA) ?_
   refine w_nil ?_
   repeat refine s_seq ?_
   refine s_cond (t := true) slA ?_
   repeat refine s_seq ?_
   refine s_region ?_
   refine w_pv rfl dC (want_none rfl) (p_val evA) ?_
   refine w_pv rfl dC (want_none rfl) (p_val evA) ?_
   refine w_nil ?_
   exact s_ret ⟨_, res_one rfl rfl, rfl, slA⟩
 ·have e1 : decide ((i : Int) < (xs.length : Int)) = false := decide_eq_false (by omega)
  have hor : orI xs = 0 := by
   unfold orI
   have : xs.find? (fun x => !(x == 0)) = none := by
    rw [List.find?_eq_none]; intro y hy
    have := hz y (by rw [List.take_of_length_le (by omega)]; exact hy)
    simp [this]
   rw [this]; rfl
  clear hz
  repeat refine s_seq ?_
  refine s_region ?_
  refine w_pv rfl dC (want_none rfl) (p_val evA) ?_
  refine w_nil ?_
  repeat refine s_seq ?_
  refine s_cond (t := false) slA ?_
  repeat refine s_seq ?_
  refine s_exit ?_
  repeat refine s_seq ?_
  refine s_region ?_
  refine w_pv rfl dC (want_none rfl) (p_val evA) ?_
  refine w_pv rfl dC (want_none rfl) (p_val evA) ?_
  refine w_nil ?_
  exact s_ret ⟨_, res_one rfl rfl, rfl, slA⟩
end Go.Proofs.YtihdpjinaafenaaGreatDoor

/- Things held against one another: The order of what was heard. -/
set_option linter.unusedVariables false
set_option linter.unusedSimpArgs false
namespace Go.Proofs.YtihdpjinaafenaaGreatDoor
open Sl
def cmpT (a b : ThK) : Int := orI [cmpI a.1.1 b.1.1, cmpI a.1.2.1 b.1.2.1, cmpI a.2.2 b.2.2, cmpI a.2.1 b.2.1, cmpI a.1.2.2 b.1.2.2]
theorem compare_ok (a b : ThK) (h : Heap) : SCalls Tryz.prog 142 #[thV a, thV b] h (fun r h' => h.le h' ∧ r = .int .i64 (cmpT a b)) := by
 refine s_enter Tryz.func142 rfl (by rw [Tryz.ntmps142]; simp) ?_
 rw [Tryz.ntmps142]
 generalize hT : T0 #[thV a, thV b] = T
 have h0 : T 0 = .agg #[.int .i64 a.1.1, .int .i64 a.1.2.1, .int .u32 a.1.2.2, .int .u32 a.2.1, .int .u32 a.2.2] := by rw [← hT]; rfl
 have h1 : T 1 = .agg #[.int .i64 b.1.1, .int .i64 b.1.2.1, .int .u32 b.1.2.2, .int .u32 b.2.1, .int .u32 b.2.2] := by rw [← hT]; rfl
 clear hT
 repeat refine s_seq ?_
 refine s_region ?_
 refine w_al rfl dC (want_none rfl) (a_boxN rfl evA) ?_
 intro b2 hb2
 refine w_al rfl dC (want_none rfl) (a_boxN rfl evA) ?_
 intro b3 hb3
 have hne3_2 : b3 ≠ b2 := by rintro rfl; first | (simp [Heap.set] at hb3; done) | (simp [Heap.set] at hb3; split at hb3 <;> simp at hb3; done) | (simp [Heap.set] at hb3; (repeat' (split at hb3)) <;> simp_all)
 have hne2_3 := hne3_2.symm
 refine w_pv rfl dC (want_none rfl) (p_val evA) ?_
 refine w_nil ?_
 refine genH fun h2 hh => ?_
 have hb2v : h2 b2 = some (.cells #[.int .i64 a.1.1, .int .i64 a.1.2.1, .int .u32 a.1.2.2, .int .u32 a.2.1, .int .u32 a.2.2] 144 (0, 0)) := by rw [hh, Heap.set_other _ _ hne2_3]; exact Heap.set_same _ _ _
 have hb3v : h2 b3 = some (.cells #[.int .i64 b.1.1, .int .i64 b.1.2.1, .int .u32 b.1.2.2, .int .u32 b.2.1, .int .u32 b.2.2] 144 (0, 0)) := by rw [hh]; exact Heap.set_same _ _ _
 have hle : h.le h2 := by rw [hh]; exact Heap.le_trans (Heap.le_set _ hb2) (Heap.le_set _ hb3)
 clear hh
 repeat refine s_seq ?_
 refine s_draw [(0, true), (1, true), (2, true), (3, true), (5, true), (6, true), (7, true), (8, true), (10, true), (11, true), (12, true), (13, true), (14, true), (15, true), (17, true), (18, true), (19, true), (20, true), (21, true), (22, true), (24, true), (25, true), (26, true), (27, true), (4, true), (9, true), (16, true), (23, true), (28, true), (29, true), (30, true), (31, true)] [] [28, 29, 30] rfl kR kR ?_
 refine d_pv rfl rfl dC rfl rfl (want_none rfl) (p_fieldAddr (k := 0) rfl evA kR) ?_
 refine d_rd [_] rfl rfl dC rfl rfl (want_none rfl) (r_load1 rfl Tryz.underlying3 rfl evA (restr1 hpA) ceA) ?_
 refine d_pv rfl rfl dC rfl rfl (want_none rfl) (p_fieldAddr (k := 0) rfl evA kR) ?_
 refine d_rd [_] rfl rfl dC rfl rfl (want_none rfl) (r_load1 rfl Tryz.underlying3 rfl evA (restr1 hpA) ceA) ?_
 refine d_pv rfl rfl dC rfl rfl (want_none rfl) (p_fieldAddr (k := 1) rfl evA kR) ?_
 refine d_rd [_] rfl rfl dC rfl rfl (want_none rfl) (r_load1 rfl Tryz.underlying3 rfl evA (restr1 hpA) ceA) ?_
 refine d_pv rfl rfl dC rfl rfl (want_none rfl) (p_fieldAddr (k := 1) rfl evA kR) ?_
 refine d_rd [_] rfl rfl dC rfl rfl (want_none rfl) (r_load1 rfl Tryz.underlying3 rfl evA (restr1 hpA) ceA) ?_
 refine d_pv rfl rfl dC rfl rfl (want_none rfl) (p_fieldAddr (k := 3) rfl evA kR) ?_
 refine d_pv rfl rfl dC rfl rfl (want_none rfl) (p_fieldAddr (k := 1) rfl evA kR) ?_
 refine d_rd [_] rfl rfl dC rfl rfl (want_none rfl) (r_load1 rfl Tryz.underlying23 rfl evA (restr1 hpA) ceA) ?_
 refine d_pv rfl rfl dC rfl rfl (want_none rfl) (p_fieldAddr (k := 3) rfl evA kR) ?_
 refine d_pv rfl rfl dC rfl rfl (want_none rfl) (p_fieldAddr (k := 1) rfl evA kR) ?_
 refine d_rd [_] rfl rfl dC rfl rfl (want_none rfl) (r_load1 rfl Tryz.underlying23 rfl evA (restr1 hpA) ceA) ?_
 refine d_pv rfl rfl dC rfl rfl (want_none rfl) (p_fieldAddr (k := 3) rfl evA kR) ?_
 refine d_pv rfl rfl dC rfl rfl (want_none rfl) (p_fieldAddr (k := 0) rfl evA kR) ?_
 refine d_rd [_] rfl rfl dC rfl rfl (want_none rfl) (r_load1 rfl Tryz.underlying23 rfl evA (restr1 hpA) ceA) ?_
 refine d_pv rfl rfl dC rfl rfl (want_none rfl) (p_fieldAddr (k := 3) rfl evA kR) ?_
 refine d_pv rfl rfl dC rfl rfl (want_none rfl) (p_fieldAddr (k := 0) rfl evA kR) ?_
 refine d_rd [_] rfl rfl dC rfl rfl (want_none rfl) (r_load1 rfl Tryz.underlying23 rfl evA (restr1 hpA) ceA) ?_
 refine d_pv rfl rfl dC rfl rfl (want_none rfl) (p_fieldAddr (k := 2) rfl evA kR) ?_
 refine d_rd [_] rfl rfl dC rfl rfl (want_none rfl) (r_load1 rfl Tryz.underlying23 rfl evA (restr1 hpA) ceA) ?_
 refine d_pv rfl rfl dC rfl rfl (want_none rfl) (p_fieldAddr (k := 2) rfl evA kR) ?_
 refine d_rd [_] rfl rfl dC rfl rfl (want_none rfl) (r_load1 rfl Tryz.underlying23 rfl evA (restr1 hpA) ceA) ?_
 refine d_qac rfl rfl dC (by decide) rfl (want_none rfl) (s_call rfl rfl Tryz.func103 kR kR evA ?_); refine (cmpInt_ok _ _ _).mono ?_; rintro _ h2 ⟨rfl, rfl⟩; refine ⟨(fun _ _ h => h), ?_⟩
 refine d_qac rfl rfl dC (by decide) rfl (want_none rfl) (s_call rfl rfl Tryz.func103 kR kR evA ?_); refine (cmpInt_ok _ _ _).mono ?_; rintro _ h2 ⟨rfl, rfl⟩; refine ⟨(fun _ _ h => h), ?_⟩
 refine d_qac rfl rfl dC (by decide) rfl (want_none rfl) (s_call rfl rfl Tryz.func173 kR kR evA ?_); refine (cmpAddr_ok _ _ _).mono ?_; rintro _ h2 ⟨rfl, rfl⟩; refine ⟨(fun _ _ h => h), ?_⟩
 refine d_qac rfl rfl dC (by decide) rfl (want_none rfl) (s_call rfl rfl Tryz.func173 kR kR evA ?_); refine (cmpAddr_ok _ _ _).mono ?_; rintro _ h2 ⟨rfl, rfl⟩; refine ⟨(fun _ _ h => h), ?_⟩
 refine d_lac rfl rfl dC (by decide) rfl (want_none rfl) (s_call rfl rfl Tryz.func173 kR kR evA ?_); refine (cmpAddr_ok _ _ _).mono ?_; rintro _ h2 ⟨rfl, rfl⟩
 refine d_lal rfl rfl dC (by decide) rfl (want_none rfl) (a_buildSliceN (vs := [_, _, _, _, _]) rfl Tryz.underlying63 kR (by simp only [pval, ev, upd, binVal, intBin, Option.map_some, ↓reduceIte, reduceCtorEq, Nat.reduceEqDiff, Nat.reduceBEq, List.map_toArray, List.map_cons, List.map_nil, cond_true, cond_false, decide_true, decide_false, Bool.not_true, Bool.not_false, Bool.true_and, Bool.false_and, Bool.and_true, Bool.and_false, beq_self_eq_true, bne_self_eq_false, List.getElem_toArray, List.getElem_cons_succ, List.getElem_cons_zero, *] <;> rfl) rfl (by simp [Value.cells]) (by decide) (by decide)) ?_
 intro b34 hb34
 have hle34 := Heap.le_set (.cells #[.int .i64 (cmpI a.1.1 b.1.1), .int .i64 (cmpI a.1.2.1 b.1.2.1), .int .i64 (cmpI a.2.2 b.2.2), .int .i64 (cmpI a.2.1 b.2.1), .int .i64 (cmpI a.1.2.2 b.1.2.2)] 3 (0, 0)) hb34; refine d_lac rfl rfl dC (by decide) rfl (want_none rfl) (s_call rfl rfl Tryz.func102 kR kR evA ?_); refine (or_ok [cmpI a.1.1 b.1.1, cmpI a.1.2.1 b.1.2.1, cmpI a.2.2 b.2.2, cmpI a.2.1 b.2.1, cmpI a.1.2.2 b.1.2.2] (.at_ (Heap.set_same _ _ _) rfl (Nat.le_refl _) rfl) (by simp)).mono ?_; rintro _ h4 ⟨rfl, rfl⟩
 refine d_pv rfl rfl dC rfl rfl (want_none rfl) (p_val evA) ?_
 refine d_nil ?_
 exact s_ret ⟨_, res_one rfl rfl, Heap.le_trans hle hle34, by simp only [pval, ev, upd, binVal, intBin, Option.map_some, ↓reduceIte, reduceCtorEq, Nat.reduceEqDiff, Nat.reduceBEq, List.map_toArray, List.map_cons, List.map_nil, cond_true, cond_false, decide_true, decide_false, Bool.not_true, Bool.not_false, Bool.true_and, Bool.false_and, Bool.and_true, Bool.and_false, beq_self_eq_true, bne_self_eq_false, List.getElem_toArray, List.getElem_cons_succ, List.getElem_cons_zero]; rfl⟩
end Go.Proofs.YtihdpjinaafenaaGreatDoor

/- Foreign objects turned by hand; going through a map. -/
set_option linter.unusedVariables false
set_option linter.unusedSimpArgs false
namespace Go.Proofs.YtihdpjinaafenaaGreatDoor.Ab
open Go.Proofs.YtihdpjinaafenaaGreatDoor.Sl
section
variable {P : Program} {N : Nat} {ops : Array Oper} {h0 : Gd} {Qr : Tm → Heap → Prop} {s : St} {az : List AO}
theorem ext_act {d : Nat} {k : K} {q : Bool} {id : Nat} {D : Nat → Prop} {Φ : Value → Heap → Prop} (hσ : lookS s.σ id = some (.ext D Φ)) {Y : Type} (Pr : Y → Prop) (D' : Y → Nat → Prop) (Φ' : Y → Value → Heap → Prop) (vo : Y → FV)
  (hsop : ∀ o, o.op = k.op → ∀ {β : Nat → Value} {hF h : Heap} {Tc : Tm}, Sem h0 β hF h Tc s.T s.L s.σ → Φ (β id) h → (∀ b, D b → h b ≠ none) → SOp P o (ev Tc) h (fun v h' => ∃ y, Pr y ∧ FRep h0.h (vo y) v ∧ (∀ b o, ¬ D b → h b = some o → h' b = some o) ∧ (∀ b, D b → D' y b) ∧ (∀ b, D' y b → D b ∨ h b = none) ∧ (∀ b, D' y b → h' b ≠ none) ∧ ∀ h'', (∀ b, D' y b → h'' b = h' b) → Φ' y (β id) h''))
  (r : ∀ y, Pr y → RegN P N ops h0 Qr az ⟨s.T, (d, none, .fz (vo y)) :: s.L, setS s.σ id (.ext (D' y) (Φ' y)), if q = true then s.rs else []⟩) : RegN P N ops h0 Qr (⟨some d, none, k, q⟩ :: az) s := by
 intro os hm hok' β hF h Tc sem nd
 cases os with
 | nil => simp at hm
 | cons o os =>
  simp only [List.map_cons, List.cons.injEq] at hm
  simp only [List.all_cons, Bool.and_eq_true] at hok'
  have f := fit_of hm.1 hok'.1
  refine ⟨f.lt, ?_⟩
  rw [f.want_none rfl]
  have hmem := lookS_mem hσ
  obtain ⟨k1, k2, k3⟩ := sem.ok.ok _ hmem
  refine (hsop o f.op sem (k3 h fun _ _ => rfl) k2).mono fun v h' ⟨y, hy, rv, keep, sub, ex, dom, hΦ⟩ => ?_
  have hD : ∀ b, D b → hF b = none := fun b hb => sem.ok.out _ hmem b hb
  have oth : ∀ e ∈ s.σ, e.1 ≠ id → ∀ b, fpOf (β e.1) e.2 b → h' b = h b ∧ ¬ D b := fun e he hne b e1 => by
   obtain ⟨ob, h3⟩ := (sem.ok.ok e he).blk e1
   have hnd : ¬ D b := fun hb => sem.ok.sep e he _ hmem b hne e1 hb
   exact ⟨by rw [h3]; exact keep b ob hnd h3, hnd⟩
  have hle : hF.le h' := fun b ob e => keep b ob (fun hb => by rw [hD b hb] at e; cases e) (sem.ok.le b ob e)
  have okk : Ok h0 β hF h' (setS s.σ id (.ext (D' y) (Φ' y))) := by
   refine ⟨sem.ok.le0, hle, fun e he => ?_, fun e he b e1 => ?_, fun e he e' he' b hne e1 => ?_, sem.ok.fix, by rw [setS_keys]; exact sem.ok.nd⟩
   ·rcases setS_mem sem.ok.nd e he with rfl | ⟨he, hne⟩
    ·exact ⟨fun b hb => sub b (k1 b hb), dom, hΦ⟩
    ·exact (sem.ok.ok e he).fr (Heap.le_refl _) (fun b e1 => (oth e he hne b e1).1) rfl (fun _ _ _ _ => rfl)
   ·rcases setS_mem sem.ok.nd e he with rfl | ⟨he, hne⟩
    ·rcases ex b e1 with hb | hb
     ·exact hD b hb
     ·cases e2 : hF b with
      | none => rfl
      | some ob => rw [sem.ok.le b ob e2] at hb; cases hb
    ·exact sem.ok.out e he b e1
   ·have no : ∀ e ∈ s.σ, e.1 ≠ id → fpOf (β e.1) e.2 b → ¬ D' y b := fun e he hne e1 hb => by
     rcases ex b hb with hb | hb
     ·exact (oth e he hne b e1).2 hb
     ·obtain ⟨ob, h3⟩ := (sem.ok.ok e he).blk e1
      rw [h3] at hb; cases hb
    rcases setS_mem sem.ok.nd e he with rfl | ⟨he, hn1⟩ <;> rcases setS_mem sem.ok.nd e' he' with rfl | ⟨he', hn2⟩
    ·exact absurd rfl hne
    ·exact fun e2 => no e' he' hn2 e2 e1
    ·exact no e he hn1 e1
    ·exact sem.ok.sep e he e' he' b hne e1
  have sem' := sem.turn okk (Heap.le_refl _) (fun _ _ _ _ => rfl) (fun _ _ _ _ => rfl)
  rw [put_some f.dst]
  obtain ⟨nd', hne⟩ := nod_step nd rfl none (.fz (vo y))
  exact r y hy os hm.2 hok'.2 _ _ _ _ (sem'.put (g := none) hne (fun _ _ e => by cases e) (.fz (rv.le sem.ok.le0))) nd'
variable {κ : Type} {enc : κ → Value}
def MapV (enc : κ → Value) (h : Heap) (mv : Value) (l : List (Ey κ)) (cl : Nat) : Prop := (mv = .map none ∧ l = []) ∨ ∃ mb, mv = .map (some mb) ∧ IsMapN h mb enc l cl
def ItV (h : Heap) (it : Nat) (mv : Value) (cl : Nat) (seen : List Nat) : Prop := (mv = .map none ∧ h it = some (.mapIter none 0 #[] 0)) ∨ ∃ mb, mv = .map (some mb) ∧ IsIter h it mb cl seen
def mvB (mv : Value) (b : Nat) : Prop := mv = .map (some b)
theorem MapV.same {h h' : Heap} {mv : Value} {l : List (Ey κ)} {cl : Nat} (m : MapV enc h mv l cl) (e : ∀ b, mvB mv b → h' b = h b) : MapV enc h' mv l cl := by
 rcases m with m | ⟨mb, rfl, m⟩
 ·exact .inl m
 ·exact .inr ⟨mb, rfl, by rw [e mb rfl]; exact m.1, m.2⟩
theorem ItV.same {h h' : Heap} {it cl : Nat} {mv : Value} {seen : List Nat} (m : ItV h it mv cl seen) (e : h' it = h it) : ItV h' it mv cl seen := by
 rcases m with ⟨rfl, m⟩ | ⟨mb, rfl, m⟩
 ·exact .inl ⟨rfl, by rw [e]; exact m⟩
 ·exact .inr ⟨mb, rfl, by unfold IsIter; rw [e]; exact m⟩
section
variable {o : Oper} {ρ : Operand → Value} {h : Heap} {K' : Value → Heap → Prop} {kt : TypeId}
theorem s_rangeV {t e : TypeId} {x : Operand} {mv : Value} {l : List (Ey κ)} {cl : Nat} (ho : o.op = .range t x) (ht : P.underlying t = some (.map kt e)) (hx : ρ x = mv) (hm : MapV enc h mv l cl)
  (k : ∀ it ob, h it = none → ItV (h.set it ob) it mv cl [] → K' (.pointer (some ⟨it, 0, none⟩)) (h.set it ob)) : SOp P o ρ h K' := by
 rcases hm with ⟨rfl, rfl⟩ | ⟨mb, rfl, hm⟩
 ·exact s_range_nil ho ht hx fun it hit => k it _ hit (.inl ⟨rfl, Heap.set_same _ _ _⟩)
 ·exact s_range ho ht hx hm fun it hit => k it _ hit (.inr ⟨mb, rfl, Heap.set_same _ _ _⟩)
theorem s_nextV {x : Operand} {it cl : Nat} {mv : Value} {seen : List Nat} {l : List (Ey κ)} (ho : o.op = .next x false) (hx : ρ x = .pointer (some ⟨it, 0, none⟩)) (hit : ItV h it mv cl seen) (hm : MapV enc h mv l cl)
  (over : (∀ e ∈ l, e.born ∈ seen) → K' (.tuple #[.bool false]) h)
  (step : ∀ e ob, e ∈ l → e.born ∉ seen → ItV (h.set it ob) it mv cl (seen ++ [e.born]) → K' (.tuple #[.bool true, enc e.key, e.val]) (h.set it ob)) : SOp P o ρ h K' := by
 rcases hm with ⟨rfl, rfl⟩ | ⟨mb, rfl, hm⟩
 ·rcases hit with ⟨_, hit⟩ | ⟨mb, h1, _⟩
  ·exact (r_next_nil ho hx hit).sop (over (by simp))
  ·cases h1
 ·rcases hit with ⟨h1, _⟩ | ⟨mb', h1, hit⟩
  ·cases h1
  ·cases h1
   exact s_next ho hx hit hm over fun e he hs => step e _ he hs (.inr ⟨mb, rfl, Heap.set_same _ _ _⟩)
theorem r_entryV {x : Operand} {it cl β : Nat} {mv : Value} {seen : List Nat} {l : List (Ey κ)} {e : Ey κ} (ho : o.op = .entry x) (hx : ρ x = .pointer (some ⟨it, 0, none⟩)) (hit : ItV h it mv cl (seen ++ [β])) (hm : MapV enc h mv l cl) (he : e ∈ l) (hb : e.born = β) :
  ReadOp P o ρ h (.tuple #[enc e.key, e.val]) := by
 rcases hm with ⟨rfl, rfl⟩ | ⟨mb, rfl, hm⟩
 ·cases he
 ·rcases hit with ⟨h1, _⟩ | ⟨mb', h1, hit⟩
  ·cases h1
  ·cases h1
   exact r_entry ho hx hit hm he hb
end
end
end Go.Proofs.YtihdpjinaafenaaGreatDoor.Ab
