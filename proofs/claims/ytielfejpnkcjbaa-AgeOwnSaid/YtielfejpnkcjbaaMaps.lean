/- Maps: their entries as a list of keys and values, in the order in which they came. -/
import Derived.Test.YtielfejpnkcjbaaFn
set_option linter.unusedVariables false
set_option linter.unusedSimpArgs false
namespace Go.Proofs.Ytielfejpnkcjbaa.Sl
/-- A key's type, and how keys are laid. -/
structure KeyLaw (P : Program) (kt : TypeId) {κ : Type} [DecidableEq κ] (enc : κ → Value) : Prop where
  now : ∀ d, P.underlying kt = some d → (∀ k k', Instr.sameNow d (enc k) (enc k') = some (decide (k = k'))) ∨ (∀ k k', Instr.sameNow d (enc k) (enc k') = none)
  eq : ∀ k k' w, (Op.equal kt (enc k) (enc k')).run P w = .ok (decide (k = k')) w
  check : ∀ emp k w, (Instr.checkKey emp 10000 kt (enc k)).run P w = .ok () w
  bits : ∀ k, Instr.sameBits 10000 (enc k) (enc k) = true
section
variable {P : Program} {kt : TypeId} {κ : Type} [DecidableEq κ] {enc : κ → Value}
def findK (k : κ) : List (κ × Value) → Nat → Option (Nat × Value)
  | [], _ => none
  | (k', v) :: r, i => if k = k' then some (i, v) else findK k r (i + 1)
def getK (l : List (κ × Value)) (k : κ) : Option Value := (l.find? fun p => decide (k = p.1)).map (·.2)
def hasK (l : List (κ × Value)) (k : κ) : Bool := l.any fun p => decide (k = p.1)
/-- Stored at a key. -/
def putK (l : List (κ × Value)) (k : κ) (v : Value) : List (κ × Value) := if hasK l k then l.map (fun p => if k = p.1 then (p.1, v) else p) else l ++ [(k, v)]
def delK (l : List (κ × Value)) (k : κ) : List (κ × Value) := l.filter fun p => !decide (k = p.1)
theorem findK_val (k : κ) : ∀ (l : List (κ × Value)) (i : Nat), (findK k l i).map (·.2) = getK l k
  | [], i => rfl
  | (k', v) :: r, i => by
    unfold findK getK
    by_cases h : k = k'
    · simp [h]
    · rw [if_neg h, findK_val k r (i + 1)]; simp [getK, h]
theorem findK_some (k : κ) : ∀ (l : List (κ × Value)) (i j : Nat) (v : Value), findK k l i = some (j, v) → ∃ m, j = i + m ∧ l[m]? = some (k, v)
  | [], i, j, v, h => by simp [findK] at h
  | (k', v') :: r, i, j, v, h => by
    unfold findK at h
    by_cases hk : k = k'
    · rw [if_pos hk] at h; simp only [Option.some.injEq, Prod.mk.injEq] at h
      exact ⟨0, by omega, by simp [hk, h.2]⟩
    · rw [if_neg hk] at h
      obtain ⟨m, hm, hl⟩ := findK_some k r (i + 1) j v h
      exact ⟨m + 1, by omega, by simpa using hl⟩
theorem findK_none (k : κ) : ∀ (l : List (κ × Value)) (i : Nat), findK k l i = none ↔ hasK l k = false
  | [], i => by simp [findK, hasK]
  | (k', v) :: r, i => by
    unfold findK
    by_cases h : k = k'
    · simp [h, hasK]
    · rw [if_neg h, findK_none k r (i + 1)]; simp [hasK, h]
theorem getK_none (l : List (κ × Value)) (k : κ) : getK l k = none ↔ hasK l k = false := by
  rw [← findK_val k l 0, ← findK_none k l 0]; simp
/-- The entries of a map, as they lie. -/
def EsRep (enc : κ → Value) (es : List MapEntry) (l : List (κ × Value)) : Prop := es.map (fun e => (e.key, e.val)) = l.map (fun p => (enc p.1, p.2))
end
section
variable {κ : Type} {enc : κ → Value}
theorem EsRep.nil : EsRep enc [] ([] : List (κ × Value)) := rfl
end
section
variable {P : Program} {kt : TypeId} {κ : Type} [DecidableEq κ] {enc : κ → Value}
theorem run_findAsking (K : KeyLaw P kt enc) (k : κ) (w : World) : ∀ (es : List MapEntry) (l : List (κ × Value)) (i : Nat), EsRep enc es l → (Instr.findAsking kt (enc k) es i).run P w = .ok (findK k l i) w
  | [], l, i, h => by
    cases l with
    | nil => simp [Instr.findAsking, findK]
    | cons p r => simp [EsRep] at h
  | e :: es, l, i, h => by
    cases l with
    | nil => simp [EsRep] at h
    | cons p r =>
      obtain ⟨k', v⟩ := p
      simp only [EsRep, List.map_cons, List.cons.injEq, Prod.mk.injEq] at h
      obtain ⟨⟨hk, hv⟩, hr⟩ := h
      have ih := run_findAsking K k w es r (i + 1) hr
      simp only [Instr.findAsking, findK, Sem.run_bind, hk, K.eq k k' w, Result.andThen_ok]
      by_cases hkk : k = k'
      · simp [hkk, hv]
      · simp [hkk, ih]
theorem findNow_eq {d : TypeDesc} (hd : ∀ k k', Instr.sameNow d (enc k) (enc k') = some (decide (k = k'))) (k : κ) : ∀ (es : List MapEntry) (l : List (κ × Value)) (i : Nat), EsRep enc es l → Instr.findNow d (enc k) es i = some (findK k l i)
  | [], l, i, h => by
    cases l with
    | nil => simp [Instr.findNow, findK]
    | cons p r => simp [EsRep] at h
  | e :: es, l, i, h => by
    cases l with
    | nil => simp [EsRep] at h
    | cons p r =>
      obtain ⟨k', v⟩ := p
      simp only [EsRep, List.map_cons, List.cons.injEq, Prod.mk.injEq] at h
      obtain ⟨⟨hk, hv⟩, hr⟩ := h
      have ih := findNow_eq hd k es r (i + 1) hr
      simp only [Instr.findNow, findK, hk, hd k k']
      by_cases hkk : k = k'
      · simp [hkk, hv]
      · simp [hkk, ih]
theorem run_findKey (K : KeyLaw P kt enc) {d : TypeDesc} (hu : P.underlying kt = some d) (k : κ) (w : World) (es : List MapEntry) (l : List (κ × Value)) (h : EsRep enc es l) : (Instr.findKey kt (enc k) es).run P w = .ok (findK k l 0) w := by
  simp only [Instr.findKey, Sem.run_bind, run_underlying hu, Result.andThen_ok]
  rcases K.now d hu with hd | hd
  · rw [findNow_eq hd k es l 0 h]; rfl
  · cases es with
    | nil =>
      cases l with
      | nil => rfl
      | cons p r => simp [EsRep] at h
    | cons e es =>
      cases l with
      | nil => simp [EsRep] at h
      | cons p r =>
        have hk : e.key = enc p.1 := by simp only [EsRep, List.map_cons, List.cons.injEq, Prod.mk.injEq] at h; exact h.1.1
        have : Instr.findNow d (enc k) (e :: es) 0 = none := by simp [Instr.findNow, hk, hd]
        rw [this]
        exact run_findAsking K k w _ _ 0 h
/-- Block b is a map whose entries read as the list l. -/
structure IsMap (h : Heap) (b : Nat) (enc : κ → Value) (l : List (κ × Value)) : Prop where
  out : ∃ es cl, h b = some (.map es cl) ∧ EsRep enc es.toList l ∧ (es.toList.map (·.born)).Nodup ∧ ∀ e ∈ es.toList, e.born < cl
end
section
variable {κ : Type} {enc : κ → Value}
theorem IsMap.le {h h' : Heap} {b : Nat} {l : List (κ × Value)} (x : IsMap h b enc l) (le : h.le h') : IsMap h' b enc l := by
  obtain ⟨es, cl, e, r⟩ := x.out
  exact ⟨es, cl, le _ _ e, r⟩
end
section
variable {P : Program} {kt : TypeId} {κ : Type} [DecidableEq κ] {enc : κ → Value}
end
section
variable {κ : Type} {enc : κ → Value}
theorem IsMap.of {h h' : Heap} {b : Nat} {l : List (κ × Value)} (x : IsMap h b enc l) (e : h' b = h b) : IsMap h' b enc l := by
  obtain ⟨es, cl, e1, r⟩ := x.out
  exact ⟨es, cl, by rw [e]; exact e1, r⟩
end
section
variable {P : Program} {kt : TypeId} {κ : Type} [DecidableEq κ] {enc : κ → Value}
end
section
variable {κ : Type} {enc : κ → Value}
theorem IsMap.some {h : Heap} {b : Nat} {l : List (κ × Value)} (x : IsMap h b enc l) : ∃ o, h b = some o := by
  obtain ⟨es, cl, e, r⟩ := x.out
  exact ⟨_, e⟩
end
section
variable {P : Program} {kt : TypeId} {κ : Type} [DecidableEq κ] {enc : κ → Value}
end
section
variable {κ : Type} {enc : κ → Value}
theorem IsMap.made (h : Heap) (b : Nat) : IsMap (h.set b (.map #[] 0)) b enc [] := ⟨#[], 0, Heap.set_same _ _ _, rfl, by simp, by simp⟩
end
section
variable {P : Program} {kt : TypeId} {κ : Type} [DecidableEq κ] {enc : κ → Value}
variable {o : Oper} {ρ : Operand → Value} {h : Heap} {K' : Value → Heap → Prop}
end
section
variable {κ : Type} {enc : κ → Value} {h : Heap}
theorem es_len {es : List MapEntry} {l : List (κ × Value)} (h : EsRep enc es l) : es.length = l.length := by
  have := congrArg List.length h
  simpa using this
end
section
variable {P : Program} {kt : TypeId} {κ : Type} [DecidableEq κ] {enc : κ → Value}
variable {o : Oper} {ρ : Operand → Value} {h : Heap} {K' : Value → Heap → Prop}
theorem r_lookup (K : KeyLaw P kt enc) {t et : TypeId} {m x : Operand} {b : Nat} {l : List (κ × Value)} {k : κ} {d : TypeDesc} {i : TypeInfo} {z : Value} {ok : Bool} (ho : o.op = .lookup t m x ok) (ht : P.underlying t = some (.map kt et)) (hk : P.underlying kt = some d) (hi : P.info? et = some i) (hz : i.zero = some z)
    (hm : ρ m = .map (some b)) (hx : ρ x = enc k) (im : IsMap h b enc l) : ReadOp P o ρ h (if ok then .tuple #[(getK l k).getD z, .bool (hasK l k)] else (getK l k).getD z) := by
  obtain ⟨es, cl, e, r, _, _⟩ := im.out
  intro w rw_
  have hb := rw_ b _ e
  have hf := run_findKey K hk k w es.toList l r
  have hfv := findK_val k l 0
  simp only [execOp, ho, Instr.lookup, Sem.run_bind, run_underlying ht, Result.andThen_ok, hm, hx, getObj, Sem.run, hb, Sem.run_pure, K.check, hf]
  cases hfk : findK k l 0 with
  | none =>
    have hh := (findK_none k l 0).1 hfk
    rw [hfk] at hfv
    have hg : getK l k = none := by rw [← hfv]; rfl
    simp [zeroValue, typeInfo, program, Sem.run, hi, hz, hg, hh]
  | some p =>
    obtain ⟨j, v⟩ := p
    rw [hfk] at hfv
    have hg : getK l k = some v := by rw [← hfv]; rfl
    have hh : hasK l k = true := by
      cases e1 : hasK l k with
      | true => rfl
      | false => rw [(findK_none k l 0).2 e1] at hfk; cases hfk
    simp [hg, hh]
theorem r_lookup_nil (K : KeyLaw P kt enc) {t et : TypeId} {m x : Operand} {k : κ} {i : TypeInfo} {z : Value} {d : TypeDesc} {ok : Bool} (ho : o.op = .lookup t m x ok) (ht : P.underlying t = some (.map kt et)) (hk : P.underlying kt = some d) (hi : P.info? et = some i) (hz : i.zero = some z)
    (hm : ρ m = .map none) (hx : ρ x = enc k) : ReadOp P o ρ h (if ok then .tuple #[z, .bool false] else z) := by
  intro w rw_
  have hf := run_findKey K hk k w [] [] rfl
  simp only [execOp, ho, Instr.lookup, Sem.run_bind, run_underlying ht, Result.andThen_ok, hm, hx, Sem.run_pure, K.check, hf, findK]
  simp [zeroValue, typeInfo, program, Sem.run, hi, hz]
end
section
variable {κ : Type} {enc : κ → Value} {h : Heap}
theorem es_get {es : List MapEntry} {l : List (κ × Value)} (r : EsRep enc es l) {j : Nat} {k : κ} {v : Value} (h : l[j]? = some (k, v)) : ∃ e, es[j]? = some e ∧ e.key = enc k ∧ e.val = v := by
  have := congrArg (·[j]?) r
  simp only [List.getElem?_map, h, Option.map_some] at this
  cases he : es[j]? with
  | none => rw [he] at this; cases this
  | some e => rw [he] at this; simp only [Option.map_some, Option.some.injEq, Prod.mk.injEq] at this; exact ⟨e, rfl, this.1, this.2⟩
end
section
variable {P : Program} {kt : TypeId} {κ : Type} [DecidableEq κ] {enc : κ → Value}
variable {o : Oper} {ρ : Operand → Value} {h : Heap} {K' : Value → Heap → Prop}
theorem Rel.setObj {w : World} (r : Rel h w) {b : Nat} {o o' : Obj} (hb : h b = some o) : Rel (h.set b o') { w with heap := w.heap.setIfInBounds b o' } := by
  have hlt := r.lt hb
  intro k x e
  by_cases hk : k = b
  · subst hk; rw [Heap.set_same] at e; cases e; simp [Array.getElem?_setIfInBounds, hlt]
  · rw [Heap.set_other _ _ hk] at e
    show (w.heap.setIfInBounds b o')[k]? = _
    rw [Array.getElem?_setIfInBounds_ne (fun e => hk e.symm)]; exact r k x e
theorem Step.setObj {w : World} {b : Nat} {o o' : Obj} (hb : h b = some o) : Step h (h.set b o') w { w with heap := w.heap.setIfInBounds b o' } := by
  refine ⟨rfl, rfl, rfl, by simp, fun k hk hn => ?_, fun k h1 h2 => ?_⟩
  · have : k ≠ b := fun e1 => by rw [e1, hb] at hn; cases hn
    show (w.heap.setIfInBounds b o')[k]? = _
    rw [Array.getElem?_setIfInBounds_ne (fun e => this e.symm)]
  · by_cases hk : k = b
    · rw [hk, hb] at h1; cases h1
    · rw [Heap.set_other _ _ hk] at h2; exact absurd h1 h2
/-- The keys are told apart: a list without a key twice. -/
def Keys1 (l : List (κ × Value)) : Prop := (l.map (·.1)).Nodup
theorem modify_rep {es : List MapEntry} {l : List (κ × Value)} (r : EsRep enc es l) (n1 : Keys1 l) {j : Nat} {k : κ} {v v' : Value} (h : l[j]? = some (k, v)) (f : MapEntry → MapEntry) (hf : ∀ e, e.key = enc k → (f e).key = enc k ∧ (f e).val = v') :
    EsRep enc (es.modify j f) (l.map fun p => if k = p.1 then (p.1, v') else p) := by
  have hlen := es_len r
  unfold EsRep
  apply List.ext_getElem?
  intro m
  simp only [List.getElem?_map, List.getElem?_modify]
  have hm := congrArg (·[m]?) r
  simp only [List.getElem?_map] at hm
  cases he : es[m]? with
  | none =>
    rw [he] at hm
    simp only [Option.map_none] at hm
    cases hl : l[m]? with
    | none => simp
    | some p => rw [hl] at hm; cases hm
  | some e =>
    rw [he] at hm
    cases hl : l[m]? with
    | none => rw [hl] at hm; cases hm
    | some p =>
      rw [hl] at hm
      simp only [Option.map_some, Option.some.injEq, Prod.mk.injEq] at hm
      simp only [Option.map_some, Option.some.injEq]
      by_cases hj : j = m
      · subst hj
        rw [h] at hl
        simp only [Option.some.injEq] at hl
        subst hl
        have := hf e hm.1
        simp [this.1, this.2]
      · have hne : k ≠ p.1 := by
          intro e1
          have hlt : m < l.length := (List.getElem?_eq_some_iff.1 hl).1
          have hjl : j < l.length := (List.getElem?_eq_some_iff.1 h).1
          have hnd := List.pairwise_iff_getElem.1 n1
          have e2 : (l.map (·.1))[j]'(by simpa using hjl) = k := by
            have : l[j] = (k, v) := (List.getElem?_eq_some_iff.1 h).2
            simp [this]
          have e3 : (l.map (·.1))[m]'(by simpa using hlt) = k := by
            have : l[m] = p := (List.getElem?_eq_some_iff.1 hl).2
            simp [this, e1]
          rcases Nat.lt_or_gt_of_ne hj with h1 | h1
          · exact hnd j m _ _ h1 (by rw [e2, e3])
          · exact hnd m j _ _ h1 (by rw [e2, e3])
        simp [hj, hne, hm.1, hm.2]
theorem putK_keys (l : List (κ × Value)) (n1 : Keys1 l) (k : κ) (v : Value) : Keys1 (putK l k v) := by
  unfold putK Keys1
  split
  · rename_i hh
    have : (l.map (fun p => if k = p.1 then (p.1, v) else p)).map (·.1) = l.map (·.1) := by
      rw [List.map_map]; apply List.map_congr_left; intro p _; simp only [Function.comp]; split <;> rfl
    rw [this]; exact n1
  · rename_i hh
    rw [List.map_append]
    have hn : k ∉ l.map (·.1) := by
      intro hm
      obtain ⟨p, hp, e⟩ := List.mem_map.1 hm
      exact hh (List.any_eq_true.2 ⟨p, hp, by simp [e]⟩)
    refine List.nodup_append.2 ⟨n1, by simp, ?_⟩
    intro a ha b hb e
    simp only [List.map_cons, List.map_nil, List.mem_singleton] at hb
    exact hn (by rw [← hb, ← e]; exact ha)
theorem delK_keys (l : List (κ × Value)) (n1 : Keys1 l) (k : κ) : Keys1 (delK l k) := by
  unfold delK Keys1
  exact List.Nodup.sublist (List.Sublist.map _ List.filter_sublist) n1
/-- 'm[k] = v'. -/
theorem s_mapUpdate (K : KeyLaw P kt enc) {t et : TypeId} {m x y : Operand} {b : Nat} {l : List (κ × Value)} {k : κ} {d : TypeDesc} {v : Value} (ho : o.op = .mapUpdate t m x y) (ht : P.underlying t = some (.map kt et)) (hk : P.underlying kt = some d)
    (hm : ρ m = .map (some b)) (hx : ρ x = enc k) (hy : ρ y = v) (im : IsMap h b enc l) (n1 : Keys1 l) (kk : ∀ ob, IsMap (h.set b ob) b enc (putK l k v) → K' undef (h.set b ob)) : SOp P o ρ h K' := by
  obtain ⟨es, cl, e, r, nd, lt⟩ := im.out
  intro w rw_
  have hb := rw_ b _ e
  have hf := run_findKey K hk k w es.toList l r
  cases hfk : findK k l 0 with
  | none =>
    have hh := (findK_none k l 0).1 hfk
    refine .inl ⟨undef, _, h.set b (.map (es.push { key := enc k, val := v, born := cl }) (cl + 1)), .inr ⟨rfl, ?_⟩, kk _ ⟨_, _, Heap.set_same _ _ _, ?_, ?_, ?_⟩, rw_.setObj e, Step.setObj e⟩
    · simp only [execOp, ho, Instr.mapUpdate, Sem.run_bind, run_underlying ht, Result.andThen_ok, hm, hx, hy, getObj, Sem.run, hb, Sem.run_pure, K.check, hf, hfk]
      simp [Instr.mapUpdate, setObj, Sem.run, hb]
    · simp only [putK, hh, Bool.false_eq_true, if_false, EsRep, Array.toList_push, List.map_append]
      rw [r]; rfl
    · simp only [Array.toList_push, List.map_append]
      refine List.nodup_append.2 ⟨nd, by simp, ?_⟩
      intro a ha b' hb' e'
      simp only [List.map_cons, List.map_nil, List.mem_singleton] at hb'
      obtain ⟨e1, h1, h2⟩ := List.mem_map.1 ha
      have := lt e1 h1
      omega
    · intro e1 h1
      simp only [Array.toList_push, List.mem_append, List.mem_singleton] at h1
      rcases h1 with h1 | h1
      · have := lt e1 h1; omega
      · rw [h1]; show cl < cl + 1; omega
  | some p =>
    obtain ⟨j, v0⟩ := p
    obtain ⟨j', hj, hl⟩ := findK_some k l 0 j v0 hfk
    have hj : j = j' := by omega
    subst hj
    obtain ⟨e1, he1, hk1, hv1⟩ := es_get r hl
    have hh : hasK l k = true := by
      cases e2 : hasK l k with
      | true => rfl
      | false => rw [(findK_none k l 0).2 e2] at hfk; cases hfk
    have he1' : es[j]? = some e1 := by simpa using he1
    refine .inl ⟨undef, _, h.set b (.map (es.modify j fun e => { e with key := enc k, val := v }) cl), .inr ⟨rfl, ?_⟩, kk _ ⟨_, _, Heap.set_same _ _ _, ?_, ?_, ?_⟩, rw_.setObj e, Step.setObj e⟩
    · simp only [execOp, ho, Instr.mapUpdate, Sem.run_bind, run_underlying ht, Result.andThen_ok, hm, hx, hy, getObj, Sem.run, hb, Sem.run_pure, K.check, hf, hfk]
      simp [Instr.keyThatStays, he1', hk1, K.bits, setObj, Sem.run, hb]
    · simp only [putK, hh, if_true]
      rw [show (es.modify j fun e => { e with key := enc k, val := v }).toList = es.toList.modify j (fun e => { e with key := enc k, val := v }) from by simp]
      exact modify_rep r n1 hl _ (fun e _ => ⟨rfl, rfl⟩)
    · have : (es.modify j fun e => { e with key := enc k, val := v }).toList.map (·.born) = es.toList.map (·.born) := by
        apply List.ext_getElem?
        intro m
        simp only [Array.toList_modify, List.getElem?_map, List.getElem?_modify]
        cases es.toList[m]? with
        | none => rfl
        | some e2 => simp; split <;> rfl
      rw [this]; exact nd
    · intro e2 h2
      have : e2.born ∈ (es.modify j fun e => { e with key := enc k, val := v }).toList.map (·.born) := List.mem_map.2 ⟨e2, h2, rfl⟩
      have h3 : (es.modify j fun e => { e with key := enc k, val := v }).toList.map (·.born) = es.toList.map (·.born) := by
        apply List.ext_getElem?
        intro m
        simp only [Array.toList_modify, List.getElem?_map, List.getElem?_modify]
        cases es.toList[m]? with
        | none => rfl
        | some e2 => simp; split <;> rfl
      rw [h3] at this
      obtain ⟨e3, h4, h5⟩ := List.mem_map.1 this
      rw [← h5]; exact lt e3 h4
end
end Go.Proofs.Ytielfejpnkcjbaa.Sl
