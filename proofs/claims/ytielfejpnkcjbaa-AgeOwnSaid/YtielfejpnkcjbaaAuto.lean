/- Short words for what the walk's printed lines prove over and over: each bears its proof as its default. -/
import Derived.Test.YtielfejpnkcjbaaMaps
set_option linter.unusedVariables false
set_option linter.unusedSimpArgs false
namespace Go.Proofs.Ytielfejpnkcjbaa.Sl
theorem evA {p : Prop} (e : p := by simp only [pval, ev, upd, binVal, intBin, Option.map_some, ↓reduceIte, reduceCtorEq, Nat.reduceEqDiff, Nat.reduceBEq, List.map_toArray, List.map_cons, List.map_nil, cond_true, cond_false, decide_true, decide_false, Bool.not_true, Bool.not_false, Bool.true_and, Bool.false_and, Bool.and_true, Bool.and_false, beq_self_eq_true, bne_self_eq_false, List.getElem_toArray, List.getElem_cons_succ, List.getElem_cons_zero, *] <;> exact rfl) : p := e
theorem slA {p : Prop} (e : p := by simp only [pval, ev, upd, binVal, intBin, Option.map_some, ↓reduceIte, reduceCtorEq, Nat.reduceEqDiff, Nat.reduceBEq, List.map_toArray, List.map_cons, List.map_nil, cond_true, cond_false, decide_true, decide_false, Bool.not_true, Bool.not_false, Bool.true_and, Bool.false_and, Bool.and_true, Bool.and_false, beq_self_eq_true, bne_self_eq_false, List.getElem_toArray, List.getElem_cons_succ, List.getElem_cons_zero, *]) : p := e
theorem evB {p : Prop} (e : p := by simp only [pval, ev, upd, binVal, intBin, Option.map_some, ↓reduceIte, reduceCtorEq, Nat.reduceEqDiff, Nat.reduceBEq, List.map_toArray, List.map_cons, List.map_nil, cond_true, cond_false, decide_true, decide_false, Bool.not_true, Bool.not_false, Bool.true_and, Bool.false_and, Bool.and_true, Bool.and_false, beq_self_eq_true, bne_self_eq_false, List.getElem_toArray, List.getElem_cons_succ, List.getElem_cons_zero, *]; exact rfl) : p := e
theorem hpA {p : Prop} (e : p := by repeat (first | assumption | exact Heap.set_same _ _ _ | (refine Heap.set_old (by assumption) ?_) | (refine Heap.set_oth (by assumption) ?_))) : p := e
theorem szA {p : Prop} (e : p := by first | decide | rfl | assumption | omega | (simp; done) | (simp; omega)) : p := e
theorem ocA {p : Prop} (e : p := by first | rfl | assumption | decide | (simp [Value.oneCell']; done) | (simp [Value.oneCell']; repeat' (first | rfl | assumption | refine ⟨?_, ?_⟩))) : p := e
theorem ceA {p : Prop} (e : p := by first | rfl | assumption | (simp; done)) : p := e
theorem gdA {p : Prop} (e : p := by first | rfl | kernel_rfl) : p := e
theorem eqA {p : Prop} (e : p := by simp [eqv, eqvFields, partV]; rfl) : p := e
theorem arA {p : Prop} (e : p := by first | omega | decide | simp) : p := e
theorem kR {p : Prop} (e : p := by kernel_rfl) : p := e
theorem dC {p : Prop} (e : p := by decide) : p := e
end Go.Proofs.Ytielfejpnkcjbaa.Sl
