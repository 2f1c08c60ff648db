import Derived.Test.YtfbjgbecabbdnaaGreatDoorTs4
/- Maps: their entries as a list of keys and values, in the order in which they came. -/
set_option linter.unusedVariables false
set_option linter.unusedSimpArgs false
namespace Go.Proofs.YtfbjgbecabbdnaaGreatDoor.Sl
/-- A key's type, and how keys are laid. -/
structure KeyLaw (P : Program) (kt : TypeId) {κ : Type} [DecidableEq κ] (enc : κ → Value) : Prop where
  now : ∀ d, P.underlying kt = some d → (∀ k k', Instr.sameNow d (enc k) (enc k') = some (decide (k = k'))) ∨ (∀ k k', Instr.sameNow d (enc k) (enc k') = none)
  eq : ∀ k k' w, (Op.equal kt (enc k) (enc k')).run P w = .ok (decide (k = k')) w
  check : ∀ emp k w, (Instr.checkKey emp 10000 kt (enc k)).run P w = .ok () w
  bits : ∀ k, Instr.sameBits 10000 (enc k) (enc k) = true
section
variable {P : Program} {kt : TypeId} {κ : Type} [DecidableEq κ] {enc : κ → Value}
def findK (k : κ) : List (κ × Value) → Nat → Option (Nat × Value)
  | [], _ => none
  | (k', v) :: r, i => if k = k' then some (i, v) else findK k r (i + 1)
def getK (l : List (κ × Value)) (k : κ) : Option Value := (l.find? fun p => decide (k = p.1)).map (·.2)
def hasK (l : List (κ × Value)) (k : κ) : Bool := l.any fun p => decide (k = p.1)
/-- Stored at a key. -/
def putK (l : List (κ × Value)) (k : κ) (v : Value) : List (κ × Value) := if hasK l k then l.map (fun p => if k = p.1 then (p.1, v) else p) else l ++ [(k, v)]
def delK (l : List (κ × Value)) (k : κ) : List (κ × Value) := l.filter fun p => !decide (k = p.1)
theorem findK_val (k : κ) : ∀ (l : List (κ × Value)) (i : Nat), (findK k l i).map (·.2) = getK l k
  | [], i => rfl
  | (k', v) :: r, i => by
    unfold findK getK
    by_cases h : k = k'
    · simp [h]
    · rw [if_neg h, findK_val k r (i + 1)]; simp [getK, h]
theorem findK_some (k : κ) : ∀ (l : List (κ × Value)) (i j : Nat) (v : Value), findK k l i = some (j, v) → ∃ m, j = i + m ∧ l[m]? = some (k, v)
  | [], i, j, v, h => by simp [findK] at h
  | (k', v') :: r, i, j, v, h => by
    unfold findK at h
    by_cases hk : k = k'
    · rw [if_pos hk] at h; simp only [Option.some.injEq, Prod.mk.injEq] at h
      exact ⟨0, by omega, by simp [hk, h.2]⟩
    · rw [if_neg hk] at h
      obtain ⟨m, hm, hl⟩ := findK_some k r (i + 1) j v h
      exact ⟨m + 1, by omega, by simpa using hl⟩
theorem findK_none (k : κ) : ∀ (l : List (κ × Value)) (i : Nat), findK k l i = none ↔ hasK l k = false
  | [], i => by simp [findK, hasK]
  | (k', v) :: r, i => by
    unfold findK
    by_cases h : k = k'
    · simp [h, hasK]
    · rw [if_neg h, findK_none k r (i + 1)]; simp [hasK, h]
theorem getK_none (l : List (κ × Value)) (k : κ) : getK l k = none ↔ hasK l k = false := by
  rw [← findK_val k l 0, ← findK_none k l 0]; simp
/-- The entries of a map, as they lie. -/
def EsRep (enc : κ → Value) (es : List MapEntry) (l : List (κ × Value)) : Prop := es.map (fun e => (e.key, e.val)) = l.map (fun p => (enc p.1, p.2))
end
section
variable {κ : Type} {enc : κ → Value}
theorem EsRep.nil : EsRep enc [] ([] : List (κ × Value)) := rfl
end
section
variable {P : Program} {kt : TypeId} {κ : Type} [DecidableEq κ] {enc : κ → Value}
theorem run_findAsking (K : KeyLaw P kt enc) (k : κ) (w : World) : ∀ (es : List MapEntry) (l : List (κ × Value)) (i : Nat), EsRep enc es l → (Instr.findAsking kt (enc k) es i).run P w = .ok (findK k l i) w
  | [], l, i, h => by
    cases l with
    | nil => simp [Instr.findAsking, findK]
    | cons p r => simp [EsRep] at h
  | e :: es, l, i, h => by
    cases l with
    | nil => simp [EsRep] at h
    | cons p r =>
      obtain ⟨k', v⟩ := p
      simp only [EsRep, List.map_cons, List.cons.injEq, Prod.mk.injEq] at h
      obtain ⟨⟨hk, hv⟩, hr⟩ := h
      have ih := run_findAsking K k w es r (i + 1) hr
      simp only [Instr.findAsking, findK, Sem.run_bind, hk, K.eq k k' w, Result.andThen_ok]
      by_cases hkk : k = k'
      · simp [hkk, hv]
      · simp [hkk, ih]
theorem findNow_eq {d : TypeDesc} (hd : ∀ k k', Instr.sameNow d (enc k) (enc k') = some (decide (k = k'))) (k : κ) : ∀ (es : List MapEntry) (l : List (κ × Value)) (i : Nat), EsRep enc es l → Instr.findNow d (enc k) es i = some (findK k l i)
  | [], l, i, h => by
    cases l with
    | nil => simp [Instr.findNow, findK]
    | cons p r => simp [EsRep] at h
  | e :: es, l, i, h => by
    cases l with
    | nil => simp [EsRep] at h
    | cons p r =>
      obtain ⟨k', v⟩ := p
      simp only [EsRep, List.map_cons, List.cons.injEq, Prod.mk.injEq] at h
      obtain ⟨⟨hk, hv⟩, hr⟩ := h
      have ih := findNow_eq hd k es r (i + 1) hr
      simp only [Instr.findNow, findK, hk, hd k k']
      by_cases hkk : k = k'
      · simp [hkk, hv]
      · simp [hkk, ih]
theorem run_findKey (K : KeyLaw P kt enc) {d : TypeDesc} (hu : P.underlying kt = some d) (k : κ) (w : World) (es : List MapEntry) (l : List (κ × Value)) (h : EsRep enc es l) : (Instr.findKey kt (enc k) es).run P w = .ok (findK k l 0) w := by
  simp only [Instr.findKey, Sem.run_bind, run_underlying hu, Result.andThen_ok]
  rcases K.now d hu with hd | hd
  · rw [findNow_eq hd k es l 0 h]; rfl
  · cases es with
    | nil =>
      cases l with
      | nil => rfl
      | cons p r => simp [EsRep] at h
    | cons e es =>
      cases l with
      | nil => simp [EsRep] at h
      | cons p r =>
        have hk : e.key = enc p.1 := by simp only [EsRep, List.map_cons, List.cons.injEq, Prod.mk.injEq] at h; exact h.1.1
        have : Instr.findNow d (enc k) (e :: es) 0 = none := by simp [Instr.findNow, hk, hd]
        rw [this]
        exact run_findAsking K k w _ _ 0 h
/-- Block b is a map whose entries read as the list l. -/
structure IsMap (h : Heap) (b : Nat) (enc : κ → Value) (l : List (κ × Value)) : Prop where
  out : ∃ es cl, h b = some (.map es cl) ∧ EsRep enc es.toList l ∧ (es.toList.map (·.born)).Nodup ∧ ∀ e ∈ es.toList, e.born < cl
end
section
variable {κ : Type} {enc : κ → Value}
theorem IsMap.le {h h' : Heap} {b : Nat} {l : List (κ × Value)} (x : IsMap h b enc l) (le : h.le h') : IsMap h' b enc l := by
  obtain ⟨es, cl, e, r⟩ := x.out
  exact ⟨es, cl, le _ _ e, r⟩
end
section
variable {P : Program} {kt : TypeId} {κ : Type} [DecidableEq κ] {enc : κ → Value}
end
section
variable {κ : Type} {enc : κ → Value}
theorem IsMap.of {h h' : Heap} {b : Nat} {l : List (κ × Value)} (x : IsMap h b enc l) (e : h' b = h b) : IsMap h' b enc l := by
  obtain ⟨es, cl, e1, r⟩ := x.out
  exact ⟨es, cl, by rw [e]; exact e1, r⟩
end
section
variable {P : Program} {kt : TypeId} {κ : Type} [DecidableEq κ] {enc : κ → Value}
end
section
variable {κ : Type} {enc : κ → Value}
theorem IsMap.some {h : Heap} {b : Nat} {l : List (κ × Value)} (x : IsMap h b enc l) : ∃ o, h b = some o := by
  obtain ⟨es, cl, e, r⟩ := x.out
  exact ⟨_, e⟩
end
section
variable {P : Program} {kt : TypeId} {κ : Type} [DecidableEq κ] {enc : κ → Value}
end
section
variable {κ : Type} {enc : κ → Value}
theorem IsMap.made (h : Heap) (b : Nat) : IsMap (h.set b (.map #[] 0)) b enc [] := ⟨#[], 0, Heap.set_same _ _ _, rfl, by simp, by simp⟩
end
section
variable {P : Program} {kt : TypeId} {κ : Type} [DecidableEq κ] {enc : κ → Value}
variable {o : Oper} {ρ : Operand → Value} {h : Heap} {K' : Value → Heap → Prop}
end
section
variable {κ : Type} {enc : κ → Value} {h : Heap}
theorem es_len {es : List MapEntry} {l : List (κ × Value)} (h : EsRep enc es l) : es.length = l.length := by
  have := congrArg List.length h
  simpa using this
end
section
variable {P : Program} {kt : TypeId} {κ : Type} [DecidableEq κ] {enc : κ → Value}
variable {o : Oper} {ρ : Operand → Value} {h : Heap} {K' : Value → Heap → Prop}
theorem r_lookup (K : KeyLaw P kt enc) {t et : TypeId} {m x : Operand} {b : Nat} {l : List (κ × Value)} {k : κ} {d : TypeDesc} {i : TypeInfo} {z : Value} {ok : Bool} (ho : o.op = .lookup t m x ok) (ht : P.underlying t = some (.map kt et)) (hk : P.underlying kt = some d) (hi : P.info? et = some i) (hz : i.zero = some z)
    (hm : ρ m = .map (some b)) (hx : ρ x = enc k) (im : IsMap h b enc l) : ReadOp P o ρ h (if ok then .tuple #[(getK l k).getD z, .bool (hasK l k)] else (getK l k).getD z) := by
  obtain ⟨es, cl, e, r, _, _⟩ := im.out
  intro w rw_
  have hb := rw_ b _ e
  have hf := run_findKey K hk k w es.toList l r
  have hfv := findK_val k l 0
  simp only [execOp, ho, Instr.lookup, Sem.run_bind, run_underlying ht, Result.andThen_ok, hm, hx, getObj, Sem.run, hb, Sem.run_pure, K.check, hf]
  cases hfk : findK k l 0 with
  | none =>
    have hh := (findK_none k l 0).1 hfk
    rw [hfk] at hfv
    have hg : getK l k = none := by rw [← hfv]; rfl
    simp [zeroValue, typeInfo, program, Sem.run, hi, hz, hg, hh]
  | some p =>
    obtain ⟨j, v⟩ := p
    rw [hfk] at hfv
    have hg : getK l k = some v := by rw [← hfv]; rfl
    have hh : hasK l k = true := by
      cases e1 : hasK l k with
      | true => rfl
      | false => rw [(findK_none k l 0).2 e1] at hfk; cases hfk
    simp [hg, hh]
theorem r_lookup_nil (K : KeyLaw P kt enc) {t et : TypeId} {m x : Operand} {k : κ} {i : TypeInfo} {z : Value} {d : TypeDesc} {ok : Bool} (ho : o.op = .lookup t m x ok) (ht : P.underlying t = some (.map kt et)) (hk : P.underlying kt = some d) (hi : P.info? et = some i) (hz : i.zero = some z)
    (hm : ρ m = .map none) (hx : ρ x = enc k) : ReadOp P o ρ h (if ok then .tuple #[z, .bool false] else z) := by
  intro w rw_
  have hf := run_findKey K hk k w [] [] rfl
  simp only [execOp, ho, Instr.lookup, Sem.run_bind, run_underlying ht, Result.andThen_ok, hm, hx, Sem.run_pure, K.check, hf, findK]
  simp [zeroValue, typeInfo, program, Sem.run, hi, hz]
end
section
variable {κ : Type} {enc : κ → Value} {h : Heap}
theorem es_get {es : List MapEntry} {l : List (κ × Value)} (r : EsRep enc es l) {j : Nat} {k : κ} {v : Value} (h : l[j]? = some (k, v)) : ∃ e, es[j]? = some e ∧ e.key = enc k ∧ e.val = v := by
  have := congrArg (·[j]?) r
  simp only [List.getElem?_map, h, Option.map_some] at this
  cases he : es[j]? with
  | none => rw [he] at this; cases this
  | some e => rw [he] at this; simp only [Option.map_some, Option.some.injEq, Prod.mk.injEq] at this; exact ⟨e, rfl, this.1, this.2⟩
end
section
variable {P : Program} {kt : TypeId} {κ : Type} [DecidableEq κ] {enc : κ → Value}
variable {o : Oper} {ρ : Operand → Value} {h : Heap} {K' : Value → Heap → Prop}
theorem Rel.setObj {w : World} (r : Rel h w) {b : Nat} {o o' : Obj} (hb : h b = some o) : Rel (h.set b o') { w with heap := w.heap.setIfInBounds b o' } := by
  have hlt := r.lt hb
  intro k x e
  by_cases hk : k = b
  · subst hk; rw [Heap.set_same] at e; cases e; simp [Array.getElem?_setIfInBounds, hlt]
  · rw [Heap.set_other _ _ hk] at e
    show (w.heap.setIfInBounds b o')[k]? = _
    rw [Array.getElem?_setIfInBounds_ne (fun e => hk e.symm)]; exact r k x e
theorem Step.setObj {w : World} {b : Nat} {o o' : Obj} (hb : h b = some o) : Step h (h.set b o') w { w with heap := w.heap.setIfInBounds b o' } := by
  refine ⟨rfl, rfl, rfl, by simp, fun k hk hn => ?_, fun k h1 h2 => ?_⟩
  · have : k ≠ b := fun e1 => by rw [e1, hb] at hn; cases hn
    show (w.heap.setIfInBounds b o')[k]? = _
    rw [Array.getElem?_setIfInBounds_ne (fun e => this e.symm)]
  · by_cases hk : k = b
    · rw [hk, hb] at h1; cases h1
    · rw [Heap.set_other _ _ hk] at h2; exact absurd h1 h2
/-- The keys are told apart: a list without a key twice. -/
def Keys1 (l : List (κ × Value)) : Prop := (l.map (·.1)).Nodup
theorem modify_rep {es : List MapEntry} {l : List (κ × Value)} (r : EsRep enc es l) (n1 : Keys1 l) {j : Nat} {k : κ} {v v' : Value} (h : l[j]? = some (k, v)) (f : MapEntry → MapEntry) (hf : ∀ e, e.key = enc k → (f e).key = enc k ∧ (f e).val = v') :
    EsRep enc (es.modify j f) (l.map fun p => if k = p.1 then (p.1, v') else p) := by
  have hlen := es_len r
  unfold EsRep
  apply List.ext_getElem?
  intro m
  simp only [List.getElem?_map, List.getElem?_modify]
  have hm := congrArg (·[m]?) r
  simp only [List.getElem?_map] at hm
  cases he : es[m]? with
  | none =>
    rw [he] at hm
    simp only [Option.map_none] at hm
    cases hl : l[m]? with
    | none => simp
    | some p => rw [hl] at hm; cases hm
  | some e =>
    rw [he] at hm
    cases hl : l[m]? with
    | none => rw [hl] at hm; cases hm
    | some p =>
      rw [hl] at hm
      simp only [Option.map_some, Option.some.injEq, Prod.mk.injEq] at hm
      simp only [Option.map_some, Option.some.injEq]
      by_cases hj : j = m
      · subst hj
        rw [h] at hl
        simp only [Option.some.injEq] at hl
        subst hl
        have := hf e hm.1
        simp [this.1, this.2]
      · have hne : k ≠ p.1 := by
          intro e1
          have hlt : m < l.length := (List.getElem?_eq_some_iff.1 hl).1
          have hjl : j < l.length := (List.getElem?_eq_some_iff.1 h).1
          have hnd := List.pairwise_iff_getElem.1 n1
          have e2 : (l.map (·.1))[j]'(by simpa using hjl) = k := by
            have : l[j] = (k, v) := (List.getElem?_eq_some_iff.1 h).2
            simp [this]
          have e3 : (l.map (·.1))[m]'(by simpa using hlt) = k := by
            have : l[m] = p := (List.getElem?_eq_some_iff.1 hl).2
            simp [this, e1]
          rcases Nat.lt_or_gt_of_ne hj with h1 | h1
          · exact hnd j m _ _ h1 (by rw [e2, e3])
          · exact hnd m j _ _ h1 (by rw [e2, e3])
        simp [hj, hne, hm.1, hm.2]
theorem putK_keys (l : List (κ × Value)) (n1 : Keys1 l) (k : κ) (v : Value) : Keys1 (putK l k v) := by
  unfold putK Keys1
  split
  · rename_i hh
    have : (l.map (fun p => if k = p.1 then (p.1, v) else p)).map (·.1) = l.map (·.1) := by
      rw [List.map_map]; apply List.map_congr_left; intro p _; simp only [Function.comp]; split <;> rfl
    rw [this]; exact n1
  · rename_i hh
    rw [List.map_append]
    have hn : k ∉ l.map (·.1) := by
      intro hm
      obtain ⟨p, hp, e⟩ := List.mem_map.1 hm
      exact hh (List.any_eq_true.2 ⟨p, hp, by simp [e]⟩)
    refine List.nodup_append.2 ⟨n1, by simp, ?_⟩
    intro a ha b hb e
    simp only [List.map_cons, List.map_nil, List.mem_singleton] at hb
    exact hn (by rw [← hb, ← e]; exact ha)
theorem delK_keys (l : List (κ × Value)) (n1 : Keys1 l) (k : κ) : Keys1 (delK l k) := by
  unfold delK Keys1
  exact List.Nodup.sublist (List.Sublist.map _ List.filter_sublist) n1
/-- 'm[k] = v'. -/
theorem s_mapUpdate (K : KeyLaw P kt enc) {t et : TypeId} {m x y : Operand} {b : Nat} {l : List (κ × Value)} {k : κ} {d : TypeDesc} {v : Value} (ho : o.op = .mapUpdate t m x y) (ht : P.underlying t = some (.map kt et)) (hk : P.underlying kt = some d)
    (hm : ρ m = .map (some b)) (hx : ρ x = enc k) (hy : ρ y = v) (im : IsMap h b enc l) (n1 : Keys1 l) (kk : ∀ ob, IsMap (h.set b ob) b enc (putK l k v) → K' undef (h.set b ob)) : SOp P o ρ h K' := by
  obtain ⟨es, cl, e, r, nd, lt⟩ := im.out
  intro w rw_
  have hb := rw_ b _ e
  have hf := run_findKey K hk k w es.toList l r
  cases hfk : findK k l 0 with
  | none =>
    have hh := (findK_none k l 0).1 hfk
    refine .inl ⟨undef, _, h.set b (.map (es.push { key := enc k, val := v, born := cl }) (cl + 1)), .inr ⟨rfl, ?_⟩, kk _ ⟨_, _, Heap.set_same _ _ _, ?_, ?_, ?_⟩, rw_.setObj e, Step.setObj e⟩
    · simp only [execOp, ho, Instr.mapUpdate, Sem.run_bind, run_underlying ht, Result.andThen_ok, hm, hx, hy, getObj, Sem.run, hb, Sem.run_pure, K.check, hf, hfk]
      simp [Instr.mapUpdate, setObj, Sem.run, hb]
    · simp only [putK, hh, Bool.false_eq_true, if_false, EsRep, Array.toList_push, List.map_append]
      rw [r]; rfl
    · simp only [Array.toList_push, List.map_append]
      refine List.nodup_append.2 ⟨nd, by simp, ?_⟩
      intro a ha b' hb' e'
      simp only [List.map_cons, List.map_nil, List.mem_singleton] at hb'
      obtain ⟨e1, h1, h2⟩ := List.mem_map.1 ha
      have := lt e1 h1
      omega
    · intro e1 h1
      simp only [Array.toList_push, List.mem_append, List.mem_singleton] at h1
      rcases h1 with h1 | h1
      · have := lt e1 h1; omega
      · rw [h1]; show cl < cl + 1; omega
  | some p =>
    obtain ⟨j, v0⟩ := p
    obtain ⟨j', hj, hl⟩ := findK_some k l 0 j v0 hfk
    have hj : j = j' := by omega
    subst hj
    obtain ⟨e1, he1, hk1, hv1⟩ := es_get r hl
    have hh : hasK l k = true := by
      cases e2 : hasK l k with
      | true => rfl
      | false => rw [(findK_none k l 0).2 e2] at hfk; cases hfk
    have he1' : es[j]? = some e1 := by simpa using he1
    refine .inl ⟨undef, _, h.set b (.map (es.modify j fun e => { e with key := enc k, val := v }) cl), .inr ⟨rfl, ?_⟩, kk _ ⟨_, _, Heap.set_same _ _ _, ?_, ?_, ?_⟩, rw_.setObj e, Step.setObj e⟩
    · simp only [execOp, ho, Instr.mapUpdate, Sem.run_bind, run_underlying ht, Result.andThen_ok, hm, hx, hy, getObj, Sem.run, hb, Sem.run_pure, K.check, hf, hfk]
      simp [Instr.keyThatStays, he1', hk1, K.bits, setObj, Sem.run, hb]
    · simp only [putK, hh, if_true]
      rw [show (es.modify j fun e => { e with key := enc k, val := v }).toList = es.toList.modify j (fun e => { e with key := enc k, val := v }) from by simp]
      exact modify_rep r n1 hl _ (fun e _ => ⟨rfl, rfl⟩)
    · have : (es.modify j fun e => { e with key := enc k, val := v }).toList.map (·.born) = es.toList.map (·.born) := by
        apply List.ext_getElem?
        intro m
        simp only [Array.toList_modify, List.getElem?_map, List.getElem?_modify]
        cases es.toList[m]? with
        | none => rfl
        | some e2 => simp; split <;> rfl
      rw [this]; exact nd
    · intro e2 h2
      have : e2.born ∈ (es.modify j fun e => { e with key := enc k, val := v }).toList.map (·.born) := List.mem_map.2 ⟨e2, h2, rfl⟩
      have h3 : (es.modify j fun e => { e with key := enc k, val := v }).toList.map (·.born) = es.toList.map (·.born) := by
        apply List.ext_getElem?
        intro m
        simp only [Array.toList_modify, List.getElem?_map, List.getElem?_modify]
        cases es.toList[m]? with
        | none => rfl
        | some e2 => simp; split <;> rfl
      rw [h3] at this
      obtain ⟨e3, h4, h5⟩ := List.mem_map.1 this
      rw [← h5]; exact lt e3 h4
end
end Go.Proofs.YtfbjgbecabbdnaaGreatDoor.Sl

/- Short words for what the walk's printed lines prove over and over: each bears its proof as its default. -/
set_option linter.unusedVariables false
set_option linter.unusedSimpArgs false
namespace Go.Proofs.YtfbjgbecabbdnaaGreatDoor.Sl
theorem evA {p : Prop} (e : p := by simp only [pval, ev, upd, binVal, intBin, Option.map_some, ↓reduceIte, reduceCtorEq, Nat.reduceEqDiff, Nat.reduceBEq, List.map_toArray, List.map_cons, List.map_nil, cond_true, cond_false, decide_true, decide_false, Bool.not_true, Bool.not_false, Bool.true_and, Bool.false_and, Bool.and_true, Bool.and_false, beq_self_eq_true, bne_self_eq_false, List.getElem_toArray, List.getElem_cons_succ, List.getElem_cons_zero, *] <;> exact rfl) : p := e
theorem slA {p : Prop} (e : p := by simp only [pval, ev, upd, binVal, intBin, Option.map_some, ↓reduceIte, reduceCtorEq, Nat.reduceEqDiff, Nat.reduceBEq, List.map_toArray, List.map_cons, List.map_nil, cond_true, cond_false, decide_true, decide_false, Bool.not_true, Bool.not_false, Bool.true_and, Bool.false_and, Bool.and_true, Bool.and_false, beq_self_eq_true, bne_self_eq_false, List.getElem_toArray, List.getElem_cons_succ, List.getElem_cons_zero, *]) : p := e
theorem evB {p : Prop} (e : p := by simp only [pval, ev, upd, binVal, intBin, Option.map_some, ↓reduceIte, reduceCtorEq, Nat.reduceEqDiff, Nat.reduceBEq, List.map_toArray, List.map_cons, List.map_nil, cond_true, cond_false, decide_true, decide_false, Bool.not_true, Bool.not_false, Bool.true_and, Bool.false_and, Bool.and_true, Bool.and_false, beq_self_eq_true, bne_self_eq_false, List.getElem_toArray, List.getElem_cons_succ, List.getElem_cons_zero, *]; exact rfl) : p := e
theorem hpA {p : Prop} (e : p := by repeat (first | assumption | exact Heap.set_same _ _ _ | (refine Heap.set_old (by assumption) ?_) | (refine Heap.set_oth (by assumption) ?_))) : p := e
theorem szA {p : Prop} (e : p := by first | decide | rfl | assumption | omega | (simp; done) | (simp; omega)) : p := e
theorem ocA {p : Prop} (e : p := by first | rfl | assumption | decide | (simp [Value.oneCell']; done) | (simp [Value.oneCell']; repeat' (first | rfl | assumption | refine ⟨?_, ?_⟩))) : p := e
theorem ceA {p : Prop} (e : p := by first | rfl | assumption | (simp; done)) : p := e
theorem gdA {p : Prop} (e : p := by first | rfl | kernel_rfl) : p := e
theorem eqA {p : Prop} (e : p := by simp [eqv, eqvFields, partV]; rfl) : p := e
theorem arA {p : Prop} (e : p := by first | omega | decide | simp) : p := e
theorem kR {p : Prop} (e : p := by kernel_rfl) : p := e
theorem dC {p : Prop} (e : p := by decide) : p := e
end Go.Proofs.YtfbjgbecabbdnaaGreatDoor.Sl

/- What the walk's printed lines cite. -/
set_option linter.unusedVariables false
set_option linter.unusedSimpArgs false
namespace Go.Proofs.YtfbjgbecabbdnaaGreatDoor.Sl
section
variable {P : Program} {N : Nat} {ops : Array Oper} {Q : Tm → Heap → Prop} {T : Tm} {h : Heap} {o : Oper} {r : List Oper} {d : Nat} {v : Value}
theorem want_none (hg : o.guard = none) : want ops T o = true := by simp [want, hg]
theorem want_let {j t : Nat} {b : Bool} (hg : o.guard = some (j, b)) (hj : ((ops[j]?).bind (·.dst)) = some t) (hT : T t = .bool b) : want ops T o = true := by simp [want, hg, hj, hT]
theorem want_not {j t : Nat} {b b' : Bool} (hg : o.guard = some (j, b)) (hj : ((ops[j]?).bind (·.dst)) = some t) (hT : T t = .bool b') (hb : (b' == b) = false) : want ops T o = false := by simp only [want, hg, hj, hT]; exact hb
theorem w_ac (hd : o.dst = some d) (hN : d < N) (hg : want ops T o = true) (p : SOp P o (ev T) h (fun v h' => sops P N ops Q r (upd T d v) h')) : sops P N ops Q (o :: r) T h := by
  refine ⟨fun t ht => by rw [hd] at ht; cases ht; exact hN, ?_⟩
  rw [hg, hd]; exact p
theorem w_rd (hd : o.dst = some d) (hN : d < N) (hg : want ops T o = true) (p : ReadOp P o (ev T) h v) (s : sops P N ops Q r (upd T d v) h) : sops P N ops Q (o :: r) T h := w_ac hd hN hg (p.sop s)
theorem w_pv (hd : o.dst = some d) (hN : d < N) (hg : want ops T o = true) (p : PureOp P o (ev T) v) (s : sops P N ops Q r (upd T d v) h) : sops P N ops Q (o :: r) T h := w_ac hd hN hg ((p.read h).sop s)
theorem w_al {obj : Obj} {vf : Nat → Value} (hd : o.dst = some d) (hN : d < N) (hg : want ops T o = true) (p : AllocOp P o (ev T) obj vf) (s : ∀ b, h b = none → sops P N ops Q r (upd T d (vf b)) (h.set b obj)) : sops P N ops Q (o :: r) T h := w_ac hd hN hg (p.sop s)
theorem w_st (hd : o.dst = none) (hg : want ops T o = true) (p : SOp P o (ev T) h (fun _ h' => sops P N ops Q r T h')) : sops P N ops Q (o :: r) T h := by
  refine ⟨fun t ht => (by rw [hd] at ht; cases ht), ?_⟩
  rw [hg, hd]; exact p
theorem w_skp (hd : o.dst = some d) (hN : d < N) (hg : want ops T o = false) (s : sops P N ops Q r (upd T d undef) h) : sops P N ops Q (o :: r) T h := by
  refine ⟨fun t ht => by rw [hd] at ht; cases ht; exact hN, ?_⟩
  rw [hg, hd]; exact s
variable {pp loud : List Nat} {F : List RdA} {E : Env} {i : Nat} {re : List Ent}
theorem d_pv (ho : opAt ops i = o) (hd : o.dst = some d) (hp : i ∉ pp) (ha : isAct o.op = false) (hr : isRead o.op = false) (hw : want ops T o = true) (p : PureOp P o (ev T) v) (s : sdraw P N ops pp loud Q re (upd T d v) h F E) : sdraw P N ops pp loud Q ((i, true) :: re) T h F E := by
  subst ho
  simp only [sdraw, hp, if_false, hw, if_true, ha, hr, Bool.false_eq_true, hd]
  exact ⟨v, p, s⟩
theorem d_rdA (A : RdA) (ho : opAt ops i = o) (hd : o.dst = some d) (hp : i ∉ pp) (ha : isAct o.op = false) (hr : isRead o.op = true) (hw : want ops T o = true) (hA : A.on h) (p : ∀ g, A.on g → ReadOp P o (ev T) g v) (s : sdraw P N ops pp loud Q re (upd T d v) h (A :: F) E) : sdraw P N ops pp loud Q ((i, true) :: re) T h F E := by
  subst ho
  simp only [sdraw, hp, if_false, hw, if_true, ha, hr, Bool.false_eq_true, hd]
  exact ⟨v, A, hA, p, s⟩
def rdNone : RdA := ⟨fun _ => True, fun _ _ _ h => h⟩
def rdAt (S : List Nat) (h : Heap) : RdA := ⟨fun g => ∀ b, b ∈ S → ∀ x, h b = some x → g b = some x, fun g g' l a b hb x e => l b x (a b hb x e)⟩
theorem d_rd0 (ho : opAt ops i = o) (hd : o.dst = some d) (hp : i ∉ pp) (ha : isAct o.op = false) (hr : isRead o.op = true) (hw : want ops T o = true) (p : ∀ g, ReadOp P o (ev T) g v) (s : sdraw P N ops pp loud Q re (upd T d v) h (rdNone :: F) E) : sdraw P N ops pp loud Q ((i, true) :: re) T h F E :=
  d_rdA rdNone ho hd hp ha hr hw trivial (fun g _ => p g) s
theorem d_rd (S : List Nat) (ho : opAt ops i = o) (hd : o.dst = some d) (hp : i ∉ pp) (ha : isAct o.op = false) (hr : isRead o.op = true) (hw : want ops T o = true) (p : ReadOp P o (ev T) (fun b => if b ∈ S then h b else none) v) (s : sdraw P N ops pp loud Q re (upd T d v) h (rdAt S h :: F) E) : sdraw P N ops pp loud Q ((i, true) :: re) T h F E :=
  d_rdA (rdAt S h) ho hd hp ha hr hw (fun _ _ _ e => e) (fun g hg w r => p w (fun b x e => by
    dsimp only at e
    split at e
    · rename_i hb; exact r b x (hg b hb x e)
    · cases e)) s
/-- Two ways come together. -/
def joinQ (J : Tm → Heap → Prop) : Exit → Tm → Heap → Prop
  | .normal => J
  | _ => fun _ _ => False
theorem s_join {Q : Exit → Tm → Heap → Prop} {c : Code} (J : Tm → Heap → Prop) (a : SCode P N c (joinQ J) T h) (b : ∀ T' h', J T' h' → Q .normal T' h') : SCode P N c Q T h := a.mono fun e T' h' q => by
  cases e with
  | normal => exact b T' h' q
  | _ => exact q.elim
theorem restr1 {b : Nat} {x : Obj} {l : List Nat} (e : h b = some x) : (fun k => if k ∈ b :: l then h k else none) b = some x := by simpa using e
theorem ReadOp.pure0 {ρ : Operand → Value} (hr : ReadOp P o ρ (fun _ => none) v) : PureOp P o ρ v := fun w => hr w (fun b o e => by cases e)
theorem d_pr (ho : opAt ops i = o) (hd : o.dst = some d) (hp : i ∉ pp) (ha : isAct o.op = false) (hr : isRead o.op = false) (hg : want ops T o = true) (p : ReadOp P o (ev T) (fun _ => none) v) (s : sdraw P N ops pp loud Q re (upd T d v) h F E) : sdraw P N ops pp loud Q ((i, true) :: re) T h F E :=
  d_pv ho hd hp ha hr hg p.pure0 s
theorem d_skp (ho : opAt ops i = o) (hd : o.dst = some d) (hp : i ∉ pp) (hw : want ops T o = false) (s : sdraw P N ops pp loud Q re (upd T d undef) h F E) : sdraw P N ops pp loud Q ((i, true) :: re) T h F E := by
  subst ho
  simp only [sdraw, hp, if_false, hw, Bool.false_eq_true, hd]
  exact s
theorem d_lac (ho : opAt ops i = o) (hd : o.dst = some d) (hp : i ∉ pp) (hl : i ∈ loud) (ha : isAct o.op = true) (hw : want ops T o = true) (p : SOp P o (ev T) h (fun v h' => sdraw P N ops pp loud Q re (upd T d v) h' [] E)) : sdraw P N ops pp loud Q ((i, true) :: re) T h F E := by
  subst ho
  simp only [sdraw, hp, hl, if_false, hw, if_true, ha, hd]
  exact p
theorem d_qac (ho : opAt ops i = o) (hd : o.dst = some d) (hp : i ∉ pp) (hl : i ∉ loud) (ha : isAct o.op = true) (hw : want ops T o = true) (p : SOp P o (ev T) h (fun v h' => (∀ A ∈ F, A.on h → A.on h') ∧ sdraw P N ops pp loud Q re (upd T d v) h' F E)) : sdraw P N ops pp loud Q ((i, true) :: re) T h F E := by
  subst ho
  simp only [sdraw, hp, hl, if_false, hw, if_true, ha, hd]
  exact p
theorem d_lst (ho : opAt ops i = o) (hd : o.dst = none) (hp : i ∉ pp) (hl : i ∈ loud) (ha : isAct o.op = true) (hw : want ops T o = true) (p : SOp P o (ev T) h (fun _ h' => sdraw P N ops pp loud Q re T h' [] E)) : sdraw P N ops pp loud Q ((i, true) :: re) T h F E := by
  subst ho
  simp only [sdraw, hp, hl, if_false, hw, if_true, ha, hd]
  exact p
theorem d_qst (ho : opAt ops i = o) (hd : o.dst = none) (hp : i ∉ pp) (hl : i ∉ loud) (ha : isAct o.op = true) (hw : want ops T o = true) (p : SOp P o (ev T) h (fun _ h' => (∀ A ∈ F, A.on h → A.on h') ∧ sdraw P N ops pp loud Q re T h' F E)) : sdraw P N ops pp loud Q ((i, true) :: re) T h F E := by
  subst ho
  simp only [sdraw, hp, hl, if_false, hw, if_true, ha, hd]
  exact p
theorem d_lal {obj : Obj} {vf : Nat → Value} (ho : opAt ops i = o) (hd : o.dst = some d) (hp : i ∉ pp) (hl : i ∈ loud) (ha : isAct o.op = true) (hg : want ops T o = true) (p : AllocOp P o (ev T) obj vf) (s : ∀ b, h b = none → sdraw P N ops pp loud Q re (upd T d (vf b)) (h.set b obj) [] E) : sdraw P N ops pp loud Q ((i, true) :: re) T h F E :=
  d_lac ho hd hp hl ha hg (p.sop s)
theorem d_qal {obj : Obj} {vf : Nat → Value} (ho : opAt ops i = o) (hd : o.dst = some d) (hp : i ∉ pp) (hl : i ∉ loud) (ha : isAct o.op = true) (hg : want ops T o = true) (p : AllocOp P o (ev T) obj vf) (s : ∀ b, h b = none → sdraw P N ops pp loud Q re (upd T d (vf b)) (h.set b obj) F E) : sdraw P N ops pp loud Q ((i, true) :: re) T h F E :=
  d_qac ho hd hp hl ha hg (p.sop fun b hb => ⟨fun A _ e => A.mono _ _ (Heap.le_set obj hb) e, s b hb⟩)
theorem d_prp {obj : Obj} {vf : Nat → Value} (ho : opAt ops i = o) (p : AllocOp P o (ev T) obj vf) (s : sdraw P N ops pp loud Q re T h F (E.put i (obj, vf))) : sdraw P N ops pp loud Q ((i, false) :: re) T h F E := d_prep ho p s
theorem d_bnd {obj : Obj} {vf : Nat → Value} (ho : opAt ops i = o) (hd : o.dst = some d) (hp : i ∈ pp) (hE : E i = (obj, vf)) (s : ∀ b, h b = none → sdraw P N ops pp loud Q re (upd T d (vf b)) (h.set b obj) F E) : sdraw P N ops pp loud Q ((i, true) :: re) T h F E := by
  refine d_bind ho hp hE ?_
  rw [hd]; exact s
theorem genS {Q : Exit → Tm → Heap → Prop} {c : Code} (H : ∀ T', (∀ t, T' t = T t) → SCode P N c Q T' h) : SCode P N c Q T h := H T (fun _ => rfl)
/-- Looking a block up. -/
theorem Heap.set_old {b k : Nat} {x y : Obj} (hb : h b = none) (hk : h k = some x) : h.set b y k = some x := by
  have : k ≠ b := fun e => by rw [e, hb] at hk; cases hk
  rw [Heap.set_other _ _ this]; exact hk
theorem Heap.set_oth {b k : Nat} {x y : Obj} (hb : k ≠ b) (hk : h k = some x) : h.set b y k = some x := by
  rw [Heap.set_other _ _ hb]; exact hk
variable {ρ : Operand → Value}
def fieldOff (P : Program) (t f : Nat) : Option Nat := match P.underlying t with
  | some (.struct fs) => match fs[f]? with
    | some fd => if P.cellsOf fd.type = 0 then none else some fd.offset
    | none => none
  | _ => none
theorem p_fieldAddr {t f b off k : Nat} {x : Operand} (ho : o.op = .fieldAddr t x f) (hx : ρ x = .pointer (some ⟨b, off, none⟩)) (hk : fieldOff P t f = some k) : PureOp P o ρ (.pointer (some ⟨b, off + k, none⟩)) := by
  refine p_val ?_
  rw [ho]
  simp only [pval, hx]
  unfold fieldOff at hk
  split at hk
  · rename_i fs hu
    simp only [hu]
    split at hk
    · rename_i fd hf
      simp only [hf]
      split at hk
      · cases hk
      · rename_i hz
        simp only [Option.some.injEq] at hk
        rw [if_neg hz, hk]
    · cases hk
  · cases hk
/-- A field of a value: one cell, or several. -/
def fieldPart (P : Program) (t f : Nat) : Option (Nat × Nat × Bool) := match P.underlying t with
  | some (.struct fs) => match fs[f]? with
    | some fd => match P.underlying fd.type with
      | some (.struct _) | some (.array _ _) => some (fd.offset, P.cellsOf fd.type, true)
      | some _ => some (fd.offset, 1, false)
      | none => none
    | none => none
  | _ => none
theorem p_field1 {t f k : Nat} {x : Operand} {cs : Array Value} (ho : o.op = .field t x f) (hx : ρ x = .agg cs) (hk : fieldPart P t f = some (k, 1, false)) (hv : cs[k]? = some v) : PureOp P o ρ v := by
  refine p_val ?_
  rw [ho]
  simp only [pval, hx]
  unfold fieldPart at hk
  split at hk <;> (try simp only [reduceCtorEq] at hk)
  rename_i fs hu
  simp only [hu]
  split at hk <;> (try simp only [reduceCtorEq] at hk)
  rename_i fd hf
  simp only [hf]
  split at hk <;> (try simp only [Option.some.injEq, Prod.mk.injEq, Bool.true_eq_false, and_false, reduceCtorEq] at hk)
  rename_i d h1 h2 hd
  simp only [hd]
  obtain ⟨rfl, _⟩ := hk
  cases d <;> first | (exact hv) | (exfalso; first | exact h1 _ rfl | exact h2 _ _ rfl)
theorem p_fieldN {t f k n : Nat} {x : Operand} {cs : Array Value} (ho : o.op = .field t x f) (hx : ρ x = .agg cs) (hk : fieldPart P t f = some (k, n, true)) : PureOp P o ρ (.agg (cs.extract k (k + n))) := by
  refine p_val ?_
  rw [ho]
  simp only [pval, hx]
  unfold fieldPart at hk
  split at hk <;> (try simp only [reduceCtorEq] at hk)
  rename_i fs hu
  simp only [hu]
  split at hk <;> (try simp only [reduceCtorEq] at hk)
  rename_i fd hf
  simp only [hf]
  split at hk <;> (try simp only [Option.some.injEq, Prod.mk.injEq, Bool.false_eq_true, and_false, reduceCtorEq] at hk)
  · rename_i hd
    simp only [hd]
    obtain ⟨rfl, rfl, _⟩ := hk
    rfl
  · rename_i hd
    simp only [hd]
    obtain ⟨rfl, rfl, _⟩ := hk
    rfl
theorem a_box1 {t : TypeId} {x : Operand} (ho : o.op = .box t x) (hx : ρ x = v) (hv : v.oneCell' = true) : AllocOp P o ρ (.cells #[v] t) (fun b => .pointer (some ⟨b, 0, none⟩)) := by
  have := a_box (P := P) (ρ := ρ) ho
  have hc : v.cells = #[v] := by cases v <;> simp [Value.oneCell'] at hv <;> rfl
  rw [hx, hc] at this
  exact this
theorem a_boxN {t : TypeId} {x : Operand} {cs : Array Value} (ho : o.op = .box t x) (hx : ρ x = .agg cs) : AllocOp P o ρ (.cells cs t) (fun b => .pointer (some ⟨b, 0, none⟩)) := by
  have := a_box (P := P) (ρ := ρ) ho
  rw [hx] at this
  exact this
theorem p_build {t : TypeId} {parts : Array (Nat × Operand)} {vs : List (Nat × Value)} {cells : Array Value} (ho : o.op = .build t parts) (hv : (parts.map fun (i, x) => (i, ρ x)).toList = vs) (hb : P.built t vs = some cells) : PureOp P o ρ (.agg cells) := by
  refine p_val ?_
  rw [ho]
  simp only [pval, hv, hb, Option.map_some]
theorem a_buildSlice0 {t e : Nat} (ho : o.op = .buildSlice t 0 #[]) (hu : P.underlying t = some (.slice e)) (he : (P.info? e).isSome = true) : AllocOp P o ρ (.cells #[] e) (fun b => .slice (some ⟨b, 0, none⟩) 0 0) := by
  intro w
  simp [execOp, ho, Instr.buildSlice, run_underlying hu, run_cellsOf _ _ he, Instr.fill, newRow, newObj, Sem.run, show Array.range 0 = #[] from rfl]
/-- What a struct's literal is made of: its fields' places, its zero. -/
def placesOf (P : Program) (t : Nat) : Option (List (Nat × Nat)) := match P.underlying t with
  | some (.struct fs) => fs.toList.mapM fun f => (P.info? f.type).map fun i => (f.offset, i.size)
  | _ => none
def zeroOf (P : Program) (t : Nat) : Option (Array Value) := ((P.info? t).bind (·.zero)).map (·.cells)
theorem p_buildW {t : TypeId} {parts : Array (Nat × Operand)} {vs : List (Nat × Value)} {places : List (Nat × Nat)} {z cells : Array Value} (ho : o.op = .build t parts) (hv : (parts.map fun (i, x) => (i, ρ x)).toList = vs)
    (hp : placesOf P t = some places) (hz : zeroOf P t = some z) (hc : Instr.fill (places.toArray[·]?) z vs = some cells) : PureOp P o ρ (.agg cells) := by
  refine p_build ho hv ?_
  unfold placesOf at hp
  unfold zeroOf at hz
  split at hp <;> (try simp only [reduceCtorEq] at hp)
  rename_i fs hu
  unfold Program.built
  cases hi : P.info? t with
  | none => simp [hi] at hz
  | some i =>
    cases hzz : i.zero with
    | none => simp [hi, hzz] at hz
    | some zz =>
      simp only [hi, hzz, Option.bind_some, Option.map_some, Option.some.injEq] at hz
      subst hz
      simp only [hu, hzz, hp]
      exact hc
end
end Go.Proofs.YtfbjgbecabbdnaaGreatDoor.Sl
