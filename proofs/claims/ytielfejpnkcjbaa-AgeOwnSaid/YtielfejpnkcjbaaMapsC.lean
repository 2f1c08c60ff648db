/- Maps: ranges over them, what is deleted; made slices. -/
import Derived.Test.YtielfejpnkcjbaaMapsB
set_option linter.unusedVariables false
set_option linter.unusedSimpArgs false
namespace Go.Proofs.Ytielfejpnkcjbaa.Sl
section
variable {P : Program} {kt : TypeId} {κ : Type} {enc : κ → Value}
/-- An entry: key, value, birth. -/
structure Ey (κ : Type) where
  key : κ
  val : Value
  born : Nat
/-- Block b is a map, its entries with their births, its clock. -/
def IsMapN (h : Heap) (b : Nat) (enc : κ → Value) (l : List (Ey κ)) (cl : Nat) : Prop :=
  h b = some (.map (l.map fun e => { key := enc e.key, val := e.val, born := e.born : MapEntry }).toArray cl) ∧ (l.map (·.born)).Nodup ∧ (∀ e ∈ l, e.born < cl) ∧ (l.map (·.key)).Nodup
def unE (e : Ey κ) : κ × Value := (e.key, e.val)
theorem IsMapN.map {h : Heap} {b : Nat} {l : List (Ey κ)} {cl : Nat} (x : IsMapN h b enc l cl) : IsMap h b enc (l.map unE) ∧ Keys1 (l.map unE) := by
  obtain ⟨h1, h2, h3, h4⟩ := x
  refine ⟨⟨_, cl, h1, ?_, ?_, ?_⟩, ?_⟩
  · simp [EsRep, unE, Function.comp_def]
  · simpa [Function.comp_def] using h2
  · simpa using h3
  · simpa [Keys1, unE, Function.comp_def] using h4
theorem zipNames (enc : κ → Value) : ∀ (es : List MapEntry) (l : List (κ × Value)), EsRep enc es l → ∃ n : List (Ey κ), n.map unE = l ∧ es = n.map fun e => { key := enc e.key, val := e.val, born := e.born : MapEntry }
  | [], [], _ => ⟨[], rfl, rfl⟩
  | [], p :: l, h => by simp [EsRep] at h
  | e :: es, [], h => by simp [EsRep] at h
  | e :: es, p :: l, h => by
    simp only [EsRep, List.map_cons, List.cons.injEq, Prod.mk.injEq] at h
    obtain ⟨n, h1, h2⟩ := zipNames enc es l h.2
    refine ⟨⟨p.1, p.2, e.born⟩ :: n, by simp [unE, h1], ?_⟩
    simp only [List.map_cons, ← h2, ← h.1.1, ← h.1.2]
theorem IsMap.named {h : Heap} {b : Nat} {l : List (κ × Value)} (x : IsMap h b enc l) (n1 : Keys1 l) : ∃ n cl, n.map unE = l ∧ IsMapN h b enc n cl := by
  obtain ⟨es, cl, h1, h2, h3, h4⟩ := x.out
  obtain ⟨n, h5, h6⟩ := zipNames enc es.toList l h2
  refine ⟨n, cl, h5, ?_, ?_, ?_, ?_⟩
  · rw [h1, ← h6]
  · rw [h6] at h3; simpa [Function.comp_def] using h3
  · rw [h6] at h4; simpa using h4
  · rw [← h5] at n1; simpa [Keys1, unE, Function.comp_def] using n1
/-- Block it goes over the map b, whose clock is cl; seen: the births that it has come to. -/
def IsIter (h : Heap) (it b cl : Nat) (seen : List Nat) : Prop := h it = some (.mapIter (some b) cl seen.toArray cl)
variable {o : Oper} {ρ : Operand → Value} {h : Heap} {K' : Value → Heap → Prop}
theorem sop_alloc_at {obj : Obj} {vf : Nat → Value} (p : ∀ w, Rel h w → (execOp ρ o).run P w = .ok (.value (vf w.heap.size)) (w.alloc obj)) (k : ∀ b, h b = none → K' (vf b) (h.set b obj)) : SOp P o ρ h K' := by
  intro w r
  have hn : h w.heap.size = none := by
    cases e1 : h w.heap.size with
    | none => rfl
    | some o => have := r.lt e1; omega
  refine .inl ⟨_, _, h.set w.heap.size obj, .inl (p w r), k _ hn, ?_, ?_⟩
  · intro b o' e1
    by_cases hb : b = w.heap.size
    · subst hb; rw [Heap.set_same] at e1; cases e1; exact heap_alloc_new w _
    · rw [Heap.set_other _ _ hb] at e1
      exact (heap_alloc w _ b (r.lt e1)).trans (r b o' e1)
  · refine ⟨rfl, rfl, rfl, by rw [size_alloc]; omega, fun b hb _ => heap_alloc w _ b hb, fun b e1 e2 => ?_⟩
    by_cases hb : b = w.heap.size
    · omega
    · rw [Heap.set_other _ _ hb] at e2; exact absurd e1 e2
/-- A range over a map begins. -/
theorem s_range {t e : TypeId} {x : Operand} {b : Nat} {l : List (Ey κ)} {cl : Nat} (ho : o.op = .range t x) (ht : P.underlying t = some (.map kt e)) (hx : ρ x = .map (some b)) (hm : IsMapN h b enc l cl)
    (k : ∀ it, h it = none → K' (.pointer (some ⟨it, 0, none⟩)) (h.set it (.mapIter (some b) cl #[] cl))) : SOp P o ρ h K' := by
  refine sop_alloc_at (fun w r => ?_) k
  have hbw := r b _ hm.1
  simp [execOp, ho, Instr.range, run_underlying ht, hx, getObj, Sem.run, hbw, newObj]
theorem s_range_nil {t e : TypeId} {x : Operand} (ho : o.op = .range t x) (ht : P.underlying t = some (.map kt e)) (hx : ρ x = .map none)
    (k : ∀ it, h it = none → K' (.pointer (some ⟨it, 0, none⟩)) (h.set it (.mapIter none 0 #[] 0))) : SOp P o ρ h K' := by
  refine sop_alloc_at (fun w r => ?_) k
  simp [execOp, ho, Instr.range, run_underlying ht, hx, newObj, Sem.run]
theorem r_next_nil {x : Operand} {it : Nat} (ho : o.op = .next x false) (hx : ρ x = .pointer (some ⟨it, 0, none⟩)) (hit : h it = some (.mapIter none 0 #[] 0)) : ReadOp P o ρ h (.tuple #[.bool false]) := by
  intro w r
  have hw := r it _ hit
  simp [execOp, ho, Instr.next, hx, getObj, Sem.run, hw]
theorem run_choose_lt {n : Nat} (hn : 0 < n) (w : World) : ∃ k d, k < n ∧ ∀ (p : Program), (choose (.mapNext n)).run p w = .ok k { w with drawn := d } := by
  by_cases h1 : n ≤ 1
  · refine ⟨0, w.drawn, by omega, fun p => ?_⟩
    simp [choose, Sem.run, Question.forced, h1]
  · refine ⟨(Question.mapNext n).cut (w.tape w.drawn (.mapNext n)), w.drawn + 1, Nat.mod_lt _ hn, fun p => ?_⟩
    simp [choose, Sem.run, Question.forced, h1]
def mkE (enc : κ → Value) (e : Ey κ) : MapEntry := { key := enc e.key, val := e.val, born := e.born }
/-- What a range may come to next. -/
def candsOf (es : Array MapEntry) (since : Nat) (seen : Array Nat) : Array (Option MapEntry) :=
  let left := es.filter fun e => !seen.contains e.born
  let old := left.filter (·.born < since)
  let new := left.filter (·.born ≥ since)
  (if old.isEmpty then #[none] else #[]) ++ (old ++ new).map some
theorem cands_spec {l : List (Ey κ)} {cl : Nat} {seen : List Nat} (hlt : ∀ e ∈ l, e.born < cl) :
    0 < (candsOf (l.map (mkE enc)).toArray cl seen.toArray).size ∧ ∀ (k : Nat) (c : Option MapEntry), (candsOf (l.map (mkE enc)).toArray cl seen.toArray)[k]? = some c → (c = none ∧ ∀ e ∈ l, e.born ∈ seen) ∨ ∃ e ∈ l, e.born ∉ seen ∧ c = some (mkE enc e) := by
  have hmem : ∀ x, x ∈ (((l.map (mkE enc)).toArray.filter fun e => !seen.toArray.contains e.born).filter fun e => decide (e.born < cl)) ↔ ∃ e ∈ l, e.born ∉ seen ∧ x = mkE enc e := by
    intro x
    simp only [Array.mem_filter, List.mem_toArray, List.mem_map, Bool.not_eq_true', decide_eq_true_eq]
    constructor
    · rintro ⟨⟨⟨e, he, rfl⟩, h2⟩, h3⟩
      exact ⟨e, he, by simpa [mkE] using h2, rfl⟩
    · rintro ⟨e, he, h2, rfl⟩
      exact ⟨⟨⟨e, he, rfl⟩, by simpa [mkE] using h2⟩, hlt e he⟩
  have hnew : (((l.map (mkE enc)).toArray.filter fun e => !seen.toArray.contains e.born).filter fun e => decide (e.born ≥ cl)) = #[] := by
    rw [Array.filter_eq_empty_iff]
    intro x hx
    simp only [Array.mem_filter, List.mem_toArray, List.mem_map] at hx
    obtain ⟨⟨e, he, rfl⟩, _⟩ := hx
    have := hlt e he
    simp [mkE]; omega
  unfold candsOf
  simp only [hnew, Array.append_empty]
  generalize (((l.map (mkE enc)).toArray.filter fun e => !seen.toArray.contains e.born).filter fun e => decide (e.born < cl)) = old at hmem
  by_cases h0 : old = #[]
  · subst h0
    refine ⟨by simp, fun k c hk => .inl ?_⟩
    have hc : c = none := by
      have := Array.mem_of_getElem? hk
      simpa using this
    refine ⟨hc, fun e he => ?_⟩
    by_cases hs : e.born ∈ seen
    · exact hs
    · have := (hmem (mkE enc e)).2 ⟨e, he, hs, rfl⟩
      simp at this
  · have hne : old.isEmpty = false := by simpa using h0
    rw [hne]
    refine ⟨by simpa using Array.size_pos_iff.2 h0, fun k c hk => .inr ?_⟩
    have := Array.mem_of_getElem? hk
    simp only [Bool.false_eq_true, if_false, Array.empty_append, Array.mem_map] at this
    obtain ⟨x, hx, rfl⟩ := this
    obtain ⟨e, he, h2, rfl⟩ := (hmem x).1 hx
    exact ⟨e, he, h2, rfl⟩
def noRow : Obj → Bool
  | .cells .. => false
  | _ => true
theorem run_getO {w : World} {b : Nat} {x : Obj} (h : w.heap[b]? = some x) (hc : noRow x = true := by rfl) : (getObj b).run P w = .ok x w := by
  cases x <;> first | (cases hc; done) | simp [getObj, Sem.run, h]
theorem run_setO {w : World} {b : Nat} {x y : Obj} (h : w.heap[b]? = some x) (hc : noRow x = true := by rfl) : (setObj b y).run P w = .ok () { w with heap := w.heap.setIfInBounds b y } := by
  cases x <;> first | (cases hc; done) | simp [setObj, Sem.run, h]
/-- The next entry, or none is left. -/
theorem s_next {x : Operand} {it b cl : Nat} {seen : List Nat} {l : List (Ey κ)} (ho : o.op = .next x false) (hx : ρ x = .pointer (some ⟨it, 0, none⟩)) (hit : IsIter h it b cl seen) (hm : IsMapN h b enc l cl)
    (over : (∀ e ∈ l, e.born ∈ seen) → K' (.tuple #[.bool false]) h)
    (step : ∀ e, e ∈ l → e.born ∉ seen → K' (.tuple #[.bool true, enc e.key, e.val]) (h.set it (.mapIter (some b) cl (seen ++ [e.born]).toArray cl))) : SOp P o ρ h K' := by
  intro w r
  have hiw : w.heap[it]? = some (.mapIter (some b) cl seen.toArray cl) := r it _ hit
  have hbw : w.heap[b]? = some (.map (l.map (mkE enc)).toArray cl) := r b _ hm.1
  obtain ⟨hpos, hc⟩ := cands_spec (enc := enc) (l := l) (cl := cl) (seen := seen) hm.2.2.1
  obtain ⟨k, d, hk, hrun⟩ := run_choose_lt hpos w
  have hrun := hrun P
  have hun : (!seen.toArray.isEmpty && !(l.map (mkE enc)).toArray.isEmpty && (l.map (mkE enc)).toArray.all (fun e => decide (e.born ≥ cl))) = false := by
    cases hl : l with
    | nil => simp
    | cons e l' =>
      have h1 : e.born < cl := hm.2.2.1 e (by rw [hl]; simp)
      have h2 : ((e :: l').map (mkE enc)).toArray.all (fun e => decide (e.born ≥ cl)) = false := by
        simp only [List.all_toArray, List.map_cons, List.all_cons, mkE]
        rw [decide_eq_false (by omega)]; rfl
      rw [h2]; simp
  have hck : (candsOf (l.map (mkE enc)).toArray cl seen.toArray)[k]? = some ((candsOf (l.map (mkE enc)).toArray cl seen.toArray)[k]) := Array.getElem?_eq_getElem hk
  rcases hc k _ hck with ⟨h1, h2⟩ | ⟨e, he, h2, h1⟩
  · refine .inl ⟨_, { w with drawn := d }, h, .inl ?_, over h2, r, ⟨rfl, rfl, rfl, Nat.le_refl _, fun _ _ _ => rfl, fun b e1 e2 => absurd e1 e2⟩⟩
    rw [h1] at hck
    have hck' := hck
    unfold candsOf at hck' hrun
    dsimp only at hck' hrun
    simp only [execOp, ho, Instr.next, hx, Sem.run_bind, run_getO hiw, Result.andThen_ok, run_getO hbw, hun, Bool.false_eq_true, if_false, hrun, hck', Sem.run_pure]
  · rw [h1] at hck
    have hck' := hck
    unfold candsOf at hck' hrun
    dsimp only at hck' hrun
    refine .inl ⟨_, { w with drawn := d, heap := w.heap.setIfInBounds it (.mapIter (some b) cl (seen ++ [e.born]).toArray cl) }, _, .inl ?_, step e he h2, ?_, ?_⟩
    · have hs : (seen.toArray.push (mkE enc e).born) = (seen ++ [e.born]).toArray := by simp [mkE]
      simp only [execOp, ho, Instr.next, hx, Sem.run_bind, run_getO hiw, Result.andThen_ok, run_getO hbw, hun, Bool.false_eq_true, if_false, hrun, hck', run_setO (P := P) (w := { w with drawn := d }) hiw, Sem.run_pure, hs]
      rfl
    · exact Rel.setObj (w := { w with drawn := d }) r hit
    · have := Step.setObj (w := { w with drawn := d }) (o' := .mapIter (some b) cl (seen ++ [e.born]).toArray cl) hit
      exact ⟨this.os, this.tape, this.output, this.size, this.keep, this.fresh⟩
theorem rep_N (l : List (Ey κ)) : EsRep enc (l.map (mkE enc)) (l.map unE) := by simp [EsRep, mkE, unE, Function.comp_def]
theorem map_eraseIdx {α β : Type} (f : α → β) : ∀ (l : List α) (j : Nat), (l.map f).eraseIdx j = (l.eraseIdx j).map f
  | [], j => by simp
  | a :: l, 0 => by simp
  | a :: l, j + 1 => by simp [map_eraseIdx f l j]
theorem find_born {l : List (Ey κ)} (nd : (l.map (·.born)).Nodup) {e : Ey κ} (he : e ∈ l) : (l.map (mkE enc)).find? (fun x => x.born == e.born) = some (mkE enc e) := by
  induction l with
  | nil => cases he
  | cons a l ih =>
    simp only [List.map_cons, List.nodup_cons] at nd
    rcases List.mem_cons.1 he with rfl | he
    · simp [mkE]
    · have hne : a.born ≠ e.born := fun e1 => nd.1 (e1 ▸ List.mem_map.2 ⟨e, he, rfl⟩)
      rw [List.map_cons, List.find?_cons_of_neg (by simpa [mkE] using hne)]
      exact ih nd.2 he
/-- The entry that a range stands at, read once more. -/
theorem r_entry {x : Operand} {it b cl β : Nat} {seen : List Nat} {l : List (Ey κ)} {e : Ey κ} (ho : o.op = .entry x) (hx : ρ x = .pointer (some ⟨it, 0, none⟩)) (hit : IsIter h it b cl (seen ++ [β])) (hm : IsMapN h b enc l cl) (he : e ∈ l) (hb : e.born = β) :
    ReadOp P o ρ h (.tuple #[enc e.key, e.val]) := by
  subst hb
  intro w r
  have hiw : w.heap[it]? = some (.mapIter (some b) cl (seen ++ [e.born]).toArray cl) := r it _ hit
  have hbw : w.heap[b]? = some (.map (l.map (mkE enc)).toArray cl) := r b _ hm.1
  have hf : (l.map (mkE enc)).toArray.find? (fun x => x.born == e.born) = some (mkE enc e) := by
    rw [List.find?_toArray]; exact find_born hm.2.1 he
  have hbk : (seen ++ [e.born]).toArray.back? = some e.born := by simp
  simp only [execOp, ho, Instr.entry, hx, Sem.run_bind, run_getO hiw, Result.andThen_ok, hbk, run_getO hbw, bne_self_eq_false, Bool.false_eq_true, if_false, hf, Sem.run_pure]
  rfl
end
section
variable {P : Program} {kt : TypeId} {κ : Type} [DecidableEq κ] {enc : κ → Value}
variable {o : Oper} {ρ : Operand → Value} {h : Heap} {K' : Value → Heap → Prop}
def delN (l : List (Ey κ)) (k : κ) : List (Ey κ) := l.filter fun e => !decide (e.key = k)
def setN (l : List (Ey κ)) (k : κ) (v : Value) : List (Ey κ) := l.map fun e => if e.key = k then { e with val := v } else e
theorem delN_idx {k : κ} : ∀ {l : List (Ey κ)} {j : Nat} {e : Ey κ}, (l.map (·.key)).Nodup → l[j]? = some e → e.key = k → l.eraseIdx j = delN l k
  | [], j, e, _, h, _ => by simp at h
  | a :: l, 0, e, nd, h, hk => by
    simp only [List.getElem?_cons_zero, Option.some.injEq] at h
    subst h
    simp only [List.map_cons, List.nodup_cons] at nd
    have : delN l k = l := by
      unfold delN
      rw [List.filter_eq_self]
      intro x hx
      have : x.key ≠ k := fun e1 => nd.1 (by rw [hk, ← e1]; exact List.mem_map.2 ⟨x, hx, rfl⟩)
      simpa using this
    unfold delN at this ⊢
    simp [hk, this]
  | a :: l, j + 1, e, nd, h, hk => by
    simp only [List.map_cons, List.nodup_cons] at nd
    have h' : l[j]? = some e := by simpa using h
    have hne : a.key ≠ k := fun e1 => nd.1 (by rw [e1, ← hk]; exact List.mem_map.2 ⟨e, List.mem_of_getElem? h', rfl⟩)
    have ih := delN_idx nd.2 h' hk
    unfold delN at ih ⊢
    simp [hne, ih]
theorem setN_idx {k : κ} {v : Value} : ∀ {l : List (Ey κ)} {j : Nat} {e : Ey κ}, (l.map (·.key)).Nodup → l[j]? = some e → e.key = k → (l.map (mkE enc)).modify j (fun x => { x with key := enc k, val := v }) = (setN l k v).map (mkE enc)
  | [], j, e, _, h, _ => by simp at h
  | a :: l, 0, e, nd, h, hk => by
    simp only [List.getElem?_cons_zero, Option.some.injEq] at h
    subst h
    simp only [List.map_cons, List.nodup_cons] at nd
    have : setN l k v = l := by
      unfold setN
      have : ∀ x ∈ l, (if x.key = k then { x with val := v } else x) = x := by
        intro x hx
        have : x.key ≠ k := fun e1 => nd.1 (by rw [hk, ← e1]; exact List.mem_map.2 ⟨x, hx, rfl⟩)
        rw [if_neg this]
      exact (List.map_congr_left this).trans (List.map_id' l)
    unfold setN at this ⊢
    simp [hk, this, mkE]
  | a :: l, j + 1, e, nd, h, hk => by
    simp only [List.map_cons, List.nodup_cons] at nd
    have h' : l[j]? = some e := by simpa using h
    have hne : a.key ≠ k := fun e1 => nd.1 (by rw [e1, ← hk]; exact List.mem_map.2 ⟨e, List.mem_of_getElem? h', rfl⟩)
    have ih := setN_idx (v := v) nd.2 h' hk
    unfold setN at ih ⊢
    simp [hne, ih]
theorem findK_N {k : κ} {l : List (Ey κ)} {j : Nat} {v : Value} (h : findK k (l.map unE) 0 = some (j, v)) : ∃ e, l[j]? = some e ∧ e.key = k ∧ e.val = v := by
  obtain ⟨m, hm, hl⟩ := findK_some k _ 0 j v h
  have : j = m := by omega
  subst this
  rw [List.getElem?_map, Option.map_eq_some_iff] at hl
  obtain ⟨e, he, h2⟩ := hl
  exact ⟨e, he, congrArg Prod.fst h2, congrArg Prod.snd h2⟩
theorem findK_N0 {k : κ} {l : List (Ey κ)} (h : findK k (l.map unE) 0 = none) : ∀ e ∈ l, e.key ≠ k := by
  intro e he e1
  have := (findK_none k _ 0).1 h
  unfold hasK at this
  rw [List.any_eq_false] at this
  exact this (unE e) (List.mem_map.2 ⟨e, he, rfl⟩) (by simp [unE, e1])
theorem delN_map {l : List (Ey κ)} {h : Heap} {b cl : Nat} {k : κ} (x : IsMapN h b enc l cl) : IsMapN (h.set b (.map ((delN l k).map (mkE enc)).toArray cl)) b enc (delN l k) cl := by
  obtain ⟨h1, h2, h3, h4⟩ := x
  refine ⟨Heap.set_same _ _ _, ?_, fun e he => h3 e (List.mem_filter.1 he).1, ?_⟩
  · exact List.Nodup.sublist (List.Sublist.map _ List.filter_sublist) h2
  · exact List.Nodup.sublist (List.Sublist.map _ List.filter_sublist) h4
theorem setN_born (l : List (Ey κ)) (k : κ) (v : Value) : (setN l k v).map (·.born) = l.map (·.born) := by
  unfold setN; rw [List.map_map]; apply List.map_congr_left; intro e _; simp only [Function.comp]; split <;> rfl
theorem setN_key (l : List (Ey κ)) (k : κ) (v : Value) : (setN l k v).map (·.key) = l.map (·.key) := by
  unfold setN; rw [List.map_map]; apply List.map_congr_left; intro e _; simp only [Function.comp]; split <;> rfl
theorem setN_map {l : List (Ey κ)} {h : Heap} {b cl : Nat} {k : κ} {v : Value} (x : IsMapN h b enc l cl) : IsMapN (h.set b (.map ((setN l k v).map (mkE enc)).toArray cl)) b enc (setN l k v) cl := by
  obtain ⟨h1, h2, h3, h4⟩ := x
  refine ⟨Heap.set_same _ _ _, by rw [setN_born]; exact h2, fun e he => ?_, by rw [setN_key]; exact h4⟩
  have : e.born ∈ (setN l k v).map (·.born) := List.mem_map.2 ⟨e, he, rfl⟩
  rw [setN_born] at this
  obtain ⟨e', he', h5⟩ := List.mem_map.1 this
  rw [← h5]; exact h3 e' he'
/-- 'delete(m, k)'. -/
theorem s_delete (K : KeyLaw P kt enc) {t tk et : TypeId} {m x : Operand} {b cl : Nat} {l : List (Ey κ)} {k : κ} {d : TypeDesc} (ho : o.op = .call ⟨.builtin .delete, #[m, x], #[t, tk]⟩) (ht : P.underlying t = some (.map kt et)) (hk : P.underlying kt = some d)
    (hm : ρ m = .map (some b)) (hx : ρ x = enc k) (im : IsMapN h b enc l cl) (kk : K' (.tuple #[]) (h.set b (.map ((delN l k).map (mkE enc)).toArray cl))) : SOp P o ρ h K' := by
  intro w r
  have hbw : w.heap[b]? = some (.map (l.map (mkE enc)).toArray cl) := r b _ im.1
  have hf := run_findKey K hk k w (l.map (mkE enc)) (l.map unE) (rep_N l)
  refine .inl ⟨_, _, _, .inl ?_, kk, r.setObj im.1, Step.setObj im.1⟩
  cases hfk : findK k (l.map unE) 0 with
  | none =>
    have hd : delN l k = l := by
      unfold delN; rw [List.filter_eq_self]; intro e he; simpa using findK_N0 hfk e he
    simp only [execOp, ho, resolve, Sem.run_bind, Sem.run_pure, Result.andThen_ok, invoke, builtin, Builtin.delete_]
    simp [run_underlying ht, hm, hx, run_getO hbw, K.check, hf, hfk, run_setO hbw, hd]
  | some p =>
    obtain ⟨j, v⟩ := p
    obtain ⟨e, he, h2, h3⟩ := findK_N hfk
    have hd : (l.map (mkE enc)).eraseIdx j = (delN l k).map (mkE enc) := by rw [← delN_idx im.2.2.2 he h2, map_eraseIdx]
    simp only [execOp, ho, resolve, Sem.run_bind, Sem.run_pure, Result.andThen_ok, invoke, builtin, Builtin.delete_]
    simp [run_underlying ht, hm, hx, run_getO hbw, K.check, hf, hfk, run_setO hbw, hd]
/-- 'm[k] = v' where there is an entry. -/
theorem s_mapUpdateN (K : KeyLaw P kt enc) {t et : TypeId} {m x y : Operand} {b cl : Nat} {l : List (Ey κ)} {k : κ} {d : TypeDesc} {v : Value} (ho : o.op = .mapUpdate t m x y) (ht : P.underlying t = some (.map kt et)) (hk : P.underlying kt = some d)
    (hm : ρ m = .map (some b)) (hx : ρ x = enc k) (hy : ρ y = v) (im : IsMapN h b enc l cl) (hin : ∃ e ∈ l, e.key = k) (kk : K' undef (h.set b (.map ((setN l k v).map (mkE enc)).toArray cl))) : SOp P o ρ h K' := by
  intro w r
  have hbw : w.heap[b]? = some (.map (l.map (mkE enc)).toArray cl) := r b _ im.1
  have hf := run_findKey K hk k w (l.map (mkE enc)) (l.map unE) (rep_N l)
  refine .inl ⟨_, _, _, .inr ⟨rfl, ?_⟩, kk, r.setObj im.1, Step.setObj im.1⟩
  cases hfk : findK k (l.map unE) 0 with
  | none => obtain ⟨e, he, h1⟩ := hin; exact absurd h1 (findK_N0 hfk e he)
  | some p =>
    obtain ⟨j, v0⟩ := p
    obtain ⟨e, he, h2, h3⟩ := findK_N hfk
    have hd := setN_idx (enc := enc) (v := v) im.2.2.2 he h2
    have hd' : (l.map (mkE enc)).toArray.modify j (fun x => { x with key := enc k, val := v }) = ((setN l k v).map (mkE enc)).toArray := by rw [← hd]; simp
    have hej : ((l.map (mkE enc)).toArray)[j]? = some (mkE enc e) := by simp [he]
    simp only [execOp, ho, Instr.mapUpdate, Sem.run_bind, run_underlying ht, Result.andThen_ok, hm, hx, hy, run_getO hbw, K.check, hf, hfk, hej]
    simp [Instr.keyThatStays, mkE, h2, K.bits, run_setO hbw]
    rw [hd]
end
theorem genHQ {J : Tm → Heap → Prop} {T : Tm} {h : Heap} (H : ∀ h', h' = h → J T h') : J T h := H h rfl
theorem genH {P : Program} {N : Nat} {Q : Exit → Tm → Heap → Prop} {c : Code} {T : Tm} {h : Heap} (H : ∀ h', h' = h → SCode P N c Q T h') : SCode P N c Q T h := H h rfl
end Go.Proofs.Ytielfejpnkcjbaa.Sl
