/- From a call's contract over a partial heap to what a row asks of the world behind it. -/
import Derived.Test.YtielfejpnkcjbaaMapsB
import Derived.ProofKit
import Derived.OpenShut
import Derived.Carry
set_option linter.unusedVariables false
namespace Go.Proofs.Ytielfejpnkcjbaa.Sl
open Go.ChangeShapes Go.WideShapes Go.ChangeAt Go.RowKit
def heapOf (w : World) : Heap := fun b => w.heap[b]?
theorem calls_below {P : Program} {f : FuncId} {args : Array Value} {w : World} (c : SCalls P f args (heapOf w) (fun r h' => (heapOf w).le h' ∧ r = .bool true)) :
    Calls P f args w fun e w' => e = .returned (.bool true) ∧ Below w.heap.size w w' := by
  refine (c w (fun b o e => e)).mono ?_
  rintro e w' ⟨v, h', rfl, ⟨hle, rfl⟩, r, st⟩
  refine ⟨rfl, st.os, st.tape, st.output, st.size, fun k hk => ?_⟩
  obtain ⟨o, ho⟩ : ∃ o, w.heap[k]? = some o := ⟨w.heap[k], Array.getElem?_eq_getElem hk⟩
  rw [ho]
  exact r k o (hle k o ho)
theorem trodAll_below {H : Type} {enc : TypeId × Value → H} {P : Program} (hl : laidOutB P = true) {W W' : World} (hb : Below W.heap.size W W') : ∀ (ts : List TypeId) (vs : List Value) (ds : List (DataW H)) (ps : List MemPlace),
    ts.all (fun t => P.readableRec t && decide (t < P.types.size)) = true → (∀ x ∈ ps, x.block < W.heap.size) → DataW.TrodAll enc P W 0 (fun _ => true) true ts vs ds ps → DataW.TrodAll enc P W' 0 (fun b => decide (b < W.heap.size)) true ts vs ds ps
  | [], [], [], ps, _, _, h => h
  | t :: ts, v :: vs, d :: ds, ps, ht, hp, h => by
    obtain ⟨p, q, h1, h2, rfl⟩ := h
    simp only [List.all_cons, Bool.and_eq_true, decide_eq_true_eq] at ht
    exact ⟨p, q, Below.trod hl ht.1.1 ht.1.2 h1 hb (fun x hx => hp x (by simp [hx])), trodAll_below hl hb ts vs ds q ht.2 (fun x hx => hp x (by simp [hx])) h2, rfl⟩
  | [], _ :: _, _, _, _, _, h => h.elim
  | [], [], _ :: _, _, _, _, h => h.elim
  | _ :: _, [], _, _, _, _, h => h.elim
  | _ :: _, _ :: _, [], _, _, _, h => h.elim
/-- A law that returns true and leaves all that was there as it was. -/
theorem law_post {H : Type} {enc : TypeId × Value → H} {P : Program} {f : Func} {s : ChangeSpec} {apart fresh : Bool} {W W' : World} {args : Array Value} {ds : List (DataW H)} {before : List MemPlace} {tb : TypeId}
    (hl : laidOutB P = true) (ht : f.params.toList.all (fun t => P.readableRec t && decide (t < P.types.size)) = true) (hv : s.vars = []) (hr : f.resultTypes = #[tb]) (hub : P.underlying tb = some .bool)
    (hfn : s.fn H (ds ++ []) = { results := [.lit (.bool true)], args := ds }) (hW : DataW.Whole enc P f.params.toList s.vars apart W args.toList ds [] before) (hb : Below W.heap.size W W') :
    s.post enc P f apart fresh false false W args (.bool true) W' := by
  have hlt := hW.lt
  obtain ⟨p, q, hA, hV, rfl, hz, hn⟩ := hW
  have hV' := hV
  rw [hv] at hV'
  have hq : q = [] := hV'
  subst hq
  refine ⟨ds, [], _, [], p, [], ⟨p, [], hA, hV, rfl, hz, hn⟩, ?_, ?_, ?_, hb.frame _, fun h => by cases h⟩
  · rw [hfn, hr]
    exact trodAll_cons_mk (shut_bool hub _) trodAll_mk0
  · rw [hfn]
    exact trodAll_below hl hb _ _ _ _ ht (fun x hx => hlt x (by simp [hx])) hA
  · rw [hfn, hv]; rfl
end Go.Proofs.Ytielfejpnkcjbaa.Sl
