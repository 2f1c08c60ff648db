import Derived.Test.YtfbjgbecabbdnaaGreatDoorSs13
/- What acts: maps; all acts. -/
set_option linter.unusedVariables false
set_option linter.unusedSimpArgs false
namespace Go.Proofs.YtfbjgbecabbdnaaGreatDoor.Ce
open Go.Proofs.YtfbjgbecabbdnaaGreatDoor.Sl
open Ab (isOne isMany isSl isArr isIntT isStr zeroIs okCall)
section
variable {κ : Type} {enc : κ → Value}
theorem MB_get (l : List (κ × Value)) (m : Nat) : (MB enc l)[m]? = (l[m]?).map fun p => { key := enc p.1, val := p.2, born := m } := by
  unfold MB
  rw [List.getElem?_map, List.getElem?_zipIdx]
  cases l[m]? <;> simp
theorem MB_push (l : List (κ × Value)) (k : κ) (v : Value) : (MB enc l).toArray.push { key := enc k, val := v, born := l.length } = (MB enc (l ++ [(k, v)])).toArray := by
  apply Array.ext'
  apply List.ext_getElem?
  intro m
  rw [Array.toList_push, MB_get]
  show (MB enc l ++ [_])[m]? = _
  rcases Nat.lt_trichotomy m l.length with h | h | h
  · rw [List.getElem?_append_left (by rw [MB_len]; exact h), List.getElem?_append_left h, MB_get]
  · subst h
    rw [List.getElem?_append_right (by rw [MB_len]; exact Nat.le_refl _), List.getElem?_append_right (Nat.le_refl _), MB_len, Nat.sub_self]; rfl
  · rw [List.getElem?_eq_none (by simp [MB_len]; omega), List.getElem?_eq_none (by simp; omega)]; rfl
theorem MB_set (l : List (κ × Value)) (j : Nat) (k : κ) (v v0 : Value) (hj : l[j]? = some (k, v0)) (f : MapEntry → MapEntry) (hf : ∀ e : MapEntry, e.key = enc k → f e = { key := enc k, val := v, born := e.born }) : (MB enc l).toArray.modify j f = (MB enc (l.set j (k, v))).toArray := by
  apply Array.ext'
  apply List.ext_getElem?
  intro m
  rw [Array.toList_modify, List.getElem?_modify, MB_get]
  show _ = (MB enc (l.set j (k, v)))[m]?
  rw [MB_get, List.getElem?_set]
  have hlt := (List.getElem?_eq_some_iff.1 hj).1
  by_cases hjm : j = m
  · subst hjm
    rw [hj, if_pos rfl, if_pos hlt]
    simp [hf]
  · rw [if_neg hjm]
    cases l[m]? <;> simp [hjm]
end
section
variable {P : Program} {kt : TypeId} {κ : Type} [DecidableEq κ] {enc : κ → Value} {o : Oper} {ρ : Operand → Value} {h : Heap} {K' : Value → Heap → Prop}
theorem putK_at {l : List (κ × Value)} {k : κ} {v v0 : Value} {j : Nat} (n1 : Keys1 l) (hj : l[j]? = some (k, v0)) : putK l k v = l.set j (k, v) := by
  have hh : hasK l k = true := hasK_mem.2 (List.mem_map.2 ⟨_, List.mem_of_getElem? hj, rfl⟩)
  unfold putK
  rw [hh]
  simp only [if_true]
  apply List.ext_getElem?
  intro m
  rw [List.getElem?_map, List.getElem?_set]
  have hlt := (List.getElem?_eq_some_iff.1 hj).1
  by_cases hjm : j = m
  · subst hjm; rw [hj, if_pos rfl, if_pos hlt]; simp
  · rw [if_neg hjm]
    cases hl : l[m]? with
    | none => rfl
    | some p =>
      have hne : k ≠ p.1 := by
        intro e1
        have hml := (List.getElem?_eq_some_iff.1 hl).1
        have hnd := List.pairwise_iff_getElem.1 n1
        have e2 : (l.map (·.1))[j]'(by simpa using hlt) = k := by
          have : l[j] = (k, v0) := (List.getElem?_eq_some_iff.1 hj).2
          simp [this]
        have e3 : (l.map (·.1))[m]'(by simpa using hml) = k := by
          have : l[m] = p := (List.getElem?_eq_some_iff.1 hl).2
          simp [this, e1]
        rcases Nat.lt_or_gt_of_ne hjm with h1 | h1
        · exact hnd j m _ _ h1 (by rw [e2, e3])
        · exact hnd m j _ _ h1 (by rw [e2, e3])
      simp [hne]
theorem putK_no {l : List (κ × Value)} {k : κ} {v : Value} (hh : hasK l k = false) : putK l k v = l ++ [(k, v)] := by
  unfold putK
  rw [hh]; rfl
theorem s_mapUpdateM (K : KeyLaw P kt enc) {t et : TypeId} {m x y : Operand} {b : Nat} {l : List (κ × Value)} {k : κ} {d : TypeDesc} {v : Value} (ho : o.op = .mapUpdate t m x y) (ht : P.underlying t = some (.map kt et)) (hk : P.underlying kt = some d)
    (hm : ρ m = .map (some b)) (hx : ρ x = enc k) (hy : ρ y = v) (e : h b = some (.map (MB enc l).toArray l.length)) (n1 : Keys1 l) (kk : K' undef (h.set b (.map (MB enc (putK l k v)).toArray (putK l k v).length))) : SOp P o ρ h K' := by
  intro w rw_
  have hb := rw_ b _ e
  have hf := run_findKey K hk k w (MB enc l) l (MB_rep enc l)
  cases hfk : findK k l 0 with
  | none =>
    have hh := (findK_none k l 0).1 hfk
    rw [putK_no hh] at kk
    refine .inl ⟨undef, _, _, .inr ⟨rfl, ?_⟩, kk, rw_.setObj e, Step.setObj e⟩
    simp only [execOp, ho, Instr.mapUpdate, Sem.run_bind, run_underlying ht, Result.andThen_ok, hm, hx, hy, getObj, Sem.run, hb, Sem.run_pure, K.check, hf, hfk]
    simp [Instr.mapUpdate, setObj, Sem.run, hb, ← MB_push]
  | some p =>
    obtain ⟨j, v0⟩ := p
    obtain ⟨j', hj, hl⟩ := findK_some k l 0 j v0 hfk
    have hj : j = j' := by omega
    subst hj
    rw [putK_at n1 hl] at kk
    have hms := MB_set (enc := enc) l j k v v0 hl (fun e => { e with key := enc k, val := v }) (fun e _ => rfl)
    have he1 : (MB enc l)[j]? = some { key := enc k, val := v0, born := j } := by rw [MB_get, hl]; rfl
    refine .inl ⟨undef, _, _, .inr ⟨rfl, ?_⟩, kk, rw_.setObj e, Step.setObj e⟩
    rw [← hms]
    simp only [execOp, ho, Instr.mapUpdate, Sem.run_bind, run_underlying ht, Result.andThen_ok, hm, hx, hy, getObj, Sem.run, hb, Sem.run_pure, K.check, hf, hfk]
    simp [Instr.keyThatStays, he1, K.bits, setObj, Sem.run, hb]
theorem s_mapEntryM (K : KeyLaw P kt enc) {t et : TypeId} {m x : Operand} {b : Nat} {l : List (κ × Value)} {k : κ} {d : TypeDesc} {z : Value} (ho : o.op = .mapEntry t m x) (ht : P.underlying t = some (.map kt et)) (hk : P.underlying kt = some d) (hz : zeroV P et = some z)
    (hm : ρ m = .map (some b)) (hx : ρ x = enc k) (e : h b = some (.map (MB enc l).toArray l.length))
    (k1 : ∀ j v, findK k l 0 = some (j, v) → K' (.tuple #[v, .int .i64 (j : Nat)]) (h.set b (.map (MB enc l).toArray l.length))) (k2 : findK k l 0 = none → K' (.tuple #[z, .int .i64 (l.length : Nat)]) (h.set b (.map (MB enc (l ++ [(k, z)])).toArray (l.length + 1)))) : SOp P o ρ h K' := by
  obtain ⟨i, hi, hzz⟩ := zeroV_spec hz
  intro w rw_
  have hb := rw_ b _ e
  have hf := run_findKey K hk k w (MB enc l) l (MB_rep enc l)
  cases hfk : findK k l 0 with
  | none =>
    refine .inl ⟨_, _, _, .inl ?_, k2 hfk, rw_.setObj e, Step.setObj e⟩
    simp only [execOp, ho, Instr.mapEntry, Sem.run_bind, run_underlying ht, Result.andThen_ok, hm, hx, getObj, Sem.run, hb, Sem.run_pure, K.check, hf, hfk]
    simp [zeroValue, typeInfo, program, Sem.run, hi, hzz, setObj, hb, goInt, ← MB_push]
  | some p =>
    obtain ⟨j, v0⟩ := p
    obtain ⟨j', hj, hl⟩ := findK_some k l 0 j v0 hfk
    have hj : j = j' := by omega
    subst hj
    have he1 : (MB enc l)[j]? = some { key := enc k, val := v0, born := j } := by rw [MB_get, hl]; rfl
    have hid : (MB enc l).toArray.modify j (fun e => { e with key := enc k }) = (MB enc l).toArray := by
      apply Array.ext'
      apply List.ext_getElem?
      intro m
      rw [Array.toList_modify, List.getElem?_modify]
      show _ <$> (MB enc l)[m]? = (MB enc l)[m]?
      by_cases hjm : j = m
      · subst hjm; rw [he1]; simp
      · cases (MB enc l)[m]? <;> simp [hjm]
    refine .inl ⟨_, _, _, .inl ?_, k1 j v0 hfk, rw_.setObj e, Step.setObj e⟩
    simp only [execOp, ho, Instr.mapEntry, Sem.run_bind, run_underlying ht, Result.andThen_ok, hm, hx, getObj, Sem.run, hb, Sem.run_pure, K.check, hf, hfk]
    simp [Instr.keyThatStays, he1, K.bits, setObj, Sem.run, hb, goInt]
    rw [← hid]
    simp
omit [DecidableEq κ] in
theorem s_entryStoreM {t : TypeId} {m s x : Operand} {b j : Nat} {l : List (κ × Value)} {k : κ} {v v0 : Value} (ho : o.op = .entryStore t m s x)
    (hm : ρ m = .map (some b)) (hs : ρ s = .int .i64 (j : Nat)) (hx : ρ x = v) (e : h b = some (.map (MB enc l).toArray l.length)) (hj : l[j]? = some (k, v0)) (kk : K' undef (h.set b (.map (MB enc (l.set j (k, v))).toArray l.length))) : SOp P o ρ h K' := by
  intro w rw_
  have hb := rw_ b _ e
  have he1 : (MB enc l)[j]? = some { key := enc k, val := v0, born := j } := by rw [MB_get, hj]; rfl
  have hlt : j < (MB enc l).length := (List.getElem?_eq_some_iff.1 he1).1
  have hfind : (MB enc l).toArray.findIdx? (fun e => (e.born : Int) == (j : Int)) = some j := by
    rw [Array.findIdx?_eq_some_iff_getElem]
    refine ⟨by simpa using hlt, ?_, fun i hi => ?_⟩
    · have : (MB enc l)[j] = { key := enc k, val := v0, born := j } := (List.getElem?_eq_some_iff.1 he1).2
      simp [this]
    · have hil : i < (MB enc l).length := by omega
      have h1 := MB_get (enc := enc) l i
      rw [List.getElem?_eq_getElem hil] at h1
      have h2 : ((MB enc l)[i]).born = i := by
        cases hli : l[i]? with
        | none => rw [hli] at h1; cases h1
        | some p => rw [hli] at h1; simp only [Option.map_some, Option.some.injEq] at h1; rw [h1]
      simp only [List.getElem_toArray, h2, beq_iff_eq]
      omega
  have hms := MB_set (enc := enc) l j k v v0 hj (fun e => { e with val := v }) (fun e he => by cases e; simp at he; simp [he])
  refine .inl ⟨undef, _, _, .inr ⟨rfl, ?_⟩, kk, rw_.setObj e, Step.setObj e⟩
  rw [← hms]
  simp only [execOp, ho, Instr.entryStore, hm, hs, hx, Sem.run_bind, getObj, Sem.run, hb, Sem.run_pure, Result.andThen_ok, asInt, asIntOf, hfind]
  simp [setObj, Sem.run, hb, hfind]
end
section
variable {P : Program} {N : Kn P} {β : Bk} {H : CH} {n0 : Pos} {ck : Nat} {h : Heap} {T : Tr CV} {Tc : Tm} {o : Oper}
theorem aMup_ok (r : TR β T Tc) (hr : HR N.toKy β H n0 ck h) {t : Nat} {s : Sh} {m k v : CP} (hm : m.ok = true) (hk : k.ok = true) (hv : v.ok = true) (hs : shOk N.sh t s = true) (hop : o.op = .mapUpdate t m.op k.op v.op) : AoOk N β H ck h Tc o (aMup t s m k v T H n0 ck) := by
  unfold aMup
  have hsh := shOk_spec hs
  obtain ⟨kt, et, d, hu, hd, law⟩ := N.law t s hsh
  split
  case h_2 => trivial
  rename_i id l e0 e1
  obtain ⟨hl, hkv⟩ := keyOf_ok e1 (CP.get_ok r k hk)
  split
  case h_2 => trivial
  rename_i st t' es hc
  cases htt : Nat.beq t t' with
  | false => trivial
  | true =>
    have := Nat.eq_of_beq_eq_true htt
    subst this
    obtain ⟨y, hy, hmv⟩ := g_m r hm e0
    obtain ⟨s', l', hs', hb, n1, hkk, hvv⟩ := hr.map hc hy
    rw [hsh] at hs'
    cases hs'
    obtain ⟨p1, p2⟩ := putE_ok hl (CP.get_ok r v hv) hkk hvv n1
    exact s_mapUpdateM law hop hu hd hmv hkv rfl hb n1 (aft_turn hr hy (live_map hc) rfl (.map s hsh _ (Heap.set_same _ _ _) (putK_keys _ n1 _ _) p1 p2) .u)
theorem idxE_ok {s : Sh} {k : List Int} (hk : k.length = s.n) : ∀ {es : List (List Int × CV)} {l : List (s.key × Value)} (j : Nat), l.map (fun p => p.1.1) = es.map (·.1) → VRs β (es.map (·.2)) (l.map (·.2)) →
    match idxE k es j with
    | some (i, c) => ∃ v, findK (⟨k, hk⟩ : s.key) l j = some (i, v) ∧ VR β c v
    | none => findK (⟨k, hk⟩ : s.key) l j = none
  | [], [], _, _, _ => rfl
  | [], _ :: _, _, e, _ => by simp at e
  | _ :: _, [], _, e, _ => by simp at e
  | e :: es, (p, u) :: l, j, h1, h2 => by
    simp only [List.map_cons, List.cons.injEq] at h1
    simp only [List.map_cons] at h2
    cases h2 with
    | cons r1 r2 =>
      have ih := idxE_ok hk (j + 1) h1.2 r2
      have hd : keq k e.1 = decide ((⟨k, hk⟩ : s.key) = p) := by
        rw [keq_eq, ← h1.1, Bool.eq_iff_iff, decide_eq_true_eq, decide_eq_true_eq]
        exact ⟨fun e => Subtype.ext e, fun e => congrArg Subtype.val e⟩
      unfold idxE findK
      rw [hd]
      by_cases hkp : (⟨k, hk⟩ : s.key) = p
      · simp only [hkp, decide_true, cond_true, if_true]
        exact ⟨u, rfl, r1⟩
      · simp only [hkp, decide_false, cond_false, if_false]
        exact ih
theorem aMen_ok (r : TR β T Tc) (hr : HR N.toKy β H n0 ck h) {t et : Nat} {s : Sh} {m k : CP} {z : CV} (hm : m.ok = true) (hk : k.ok = true) (hs : shOk N.sh t s = true) (hz : z.shut = true) (hzi : zIs P et z = true) (het : (match P.underlying t with | some (.map _ et') => et' == et | _ => false) = true)
    (hop : o.op = .mapEntry t m.op k.op) : AoOk N β H ck h Tc o (aMen t s m k et z T H n0 ck) := by
  unfold aMen
  have hsh := shOk_spec hs
  obtain ⟨kt, et', d, hu, hd, law⟩ := N.law t s hsh
  rw [hu] at het
  have het : et' = et := by simpa using het
  subst het
  have hzv := zIs_ok hzi
  split
  case h_2 => trivial
  rename_i id l e0 e1
  obtain ⟨hl, hkv⟩ := keyOf_ok e1 (CP.get_ok r k hk)
  split
  case h_2 => trivial
  rename_i st t' es hc
  cases htt : Nat.beq t t' with
  | false => trivial
  | true =>
    have := Nat.eq_of_beq_eq_true htt
    subst this
    obtain ⟨y, hy, hmv⟩ := g_m r hm e0
    obtain ⟨s', l', hs', hb, n1, hkk, hvv⟩ := hr.map hc hy
    rw [hsh] at hs'
    cases hs'
    have hix := idxE_ok hl 0 hkk hvv
    have hlen : l'.length = es.length := by have := congrArg List.length hkk; simpa using this
    simp only [cond_true]
    split
    · rename_i j c hj
      rw [hj] at hix
      obtain ⟨v, hf, rv⟩ := hix
      refine s_mapEntryM law hop hu hd hzv hmv hkv hb (fun j' v' e2 => ?_) (fun e2 => by rw [e2] at hf; cases hf)
      rw [hf] at e2
      cases e2
      exact aft_turn hr hy (live_map hc) rfl (.map s hsh _ (Heap.set_same _ _ _) n1 hkk hvv) (.tup (.cons rv (.cons (.i .i64 (Int.ofNat _)) .nil)))
    · rename_i hj
      rw [hj] at hix
      refine s_mapEntryM law hop hu hd hzv hmv hkv hb (fun j' v' e2 => by rw [e2] at hix; cases hix) (fun e2 => ?_)
      have n2 : Keys1 (l' ++ [((⟨l, hl⟩ : s.key), z.val)]) := by
        have := putK_keys l' n1 (⟨l, hl⟩ : s.key) z.val
        rwa [putK_no ((findK_none _ _ 0).1 e2)] at this
      rw [hlen]
      refine aft_turn hr hy (live_map hc) rfl (.map s hsh (l' ++ [((⟨l, hl⟩ : s.key), z.val)]) ?_ n2 (by simp [hkk]) (by simpa using hvv.append (.cons (shut_ok β z hz) .nil))) (.tup (.cons (shut_ok β z hz) (.cons (.i .i64 (Int.ofNat _)) .nil)))
      rw [Heap.set_same, List.length_append, hlen]; rfl
theorem setE_ok {s : Sh} {c : CV} {v : Value} (hc : VR β c v) : ∀ {es es' : List (List Int × CV)} {j : Nat} {l : List (s.key × Value)}, setE c es j = some es' → l.map (fun p => p.1.1) = es.map (·.1) → VRs β (es.map (·.2)) (l.map (·.2)) →
    ∃ k v0, l[j]? = some (k, v0) ∧ (l.set j (k, v)).map (fun p => p.1.1) = es'.map (·.1) ∧ VRs β (es'.map (·.2)) ((l.set j (k, v)).map (·.2))
  | [], _, _, _, e, _, _ => by simp [setE] at e
  | _ :: _, _, _, [], _, e, _ => by simp at e
  | e :: es, es', 0, (p, u) :: l, he, h1, h2 => by
    simp only [List.map_cons, List.cons.injEq] at h1
    simp only [List.map_cons] at h2
    cases he
    cases h2 with
    | cons r1 r2 => exact ⟨p, u, rfl, by simp [h1.1, h1.2], by simpa using .cons hc r2⟩
  | e :: es, es', j + 1, (p, u) :: l, he, h1, h2 => by
    simp only [List.map_cons, List.cons.injEq] at h1
    simp only [List.map_cons] at h2
    unfold setE at he
    split at he
    · rename_i l2 hl2
      cases he
      cases h2 with
      | cons r1 r2 =>
        obtain ⟨k, v0, i1, i2, i3⟩ := setE_ok hc hl2 h1.2 r2
        exact ⟨k, v0, by simpa using i1, by simp only [List.set_cons_succ, List.map_cons, i2, h1.1], by simp only [List.set_cons_succ, List.map_cons]; exact .cons r1 i3⟩
    · cases he
theorem keys_set {κ : Type} {l : List (κ × Value)} {j : Nat} {k : κ} {v v0 : Value} (n1 : Keys1 l) (hj : l[j]? = some (k, v0)) : Keys1 (l.set j (k, v)) := by
  have : (l.set j (k, v)).map (·.1) = l.map (·.1) := by
    apply List.ext_getElem?
    intro m
    rw [List.getElem?_map, List.getElem?_map, List.getElem?_set]
    have hlt := (List.getElem?_eq_some_iff.1 hj).1
    by_cases hjm : j = m
    · subst hjm; rw [if_pos rfl, if_pos hlt, hj]; rfl
    · rw [if_neg hjm]
  unfold Keys1
  rw [this]; exact n1
theorem aMst_ok (r : TR β T Tc) (hr : HR N.toKy β H n0 ck h) {t : Nat} {m k v : CP} (hm : m.ok = true) (hk : k.ok = true) (hv : v.ok = true) (hop : o.op = .entryStore t m.op k.op v.op) : AoOk N β H ck h Tc o (aMst t m k v T H n0 ck) := by
  unfold aMst
  split
  case h_2 => trivial
  rename_i id j e0 e1
  split
  case h_2 => trivial
  rename_i st t' es hc
  split
  case h_2 => trivial
  rename_i l hl
  obtain ⟨y, hy, hmv⟩ := g_m r hm e0
  obtain ⟨s', l', hs', hb, n1, hkk, hvv⟩ := hr.map hc hy
  obtain ⟨k', v0, i1, i2, i3⟩ := setE_ok (CP.get_ok r v hv) hl hkk hvv
  refine s_entryStoreM hop hmv (g_i r hk e1) rfl hb i1 (aft_turn hr hy (live_map hc) rfl (.map s' hs' _ ?_ (keys_set n1 i1) i2 i3) .u)
  rw [Heap.set_same, List.length_set]
end
end Go.Proofs.YtfbjgbecabbdnaaGreatDoor.Ce

/- The evaluator: regions. -/
set_option linter.unusedVariables false
set_option linter.unusedSimpArgs false
namespace Go.Proofs.YtfbjgbecabbdnaaGreatDoor.Ce
open Go.Proofs.YtfbjgbecabbdnaaGreatDoor.Sl
open Ab (isOne isMany isSl isArr isIntT isStr zeroIs okCall)
/-! ### 1. Dispatch -/
noncomputable def K.rd (k : K) : Tr CV → CH → Ro := K.rec (motive := fun _ => Tr CV → CH → Ro) rMv rMv rPick rBin rBins rEq rEqst rNot rBnot rConv rCstr rNilc rFa rFd1 rFdN rIx rIxa rIxs rIxv rLd rLdN rLen rLens rLenm rMin rMax rBld rExt rMkf rMki rSli rSl0 rLku (fun _ _ _ _ => .no) (fun _ _ _ _ => .no) (fun _ _ _ _ _ => .no) (fun _ _ _ _ _ _ => .no) (fun _ _ _ _ _ _ _ _ _ => .no) (fun _ _ _ _ _ _ _ => .no) (fun _ _ _ _ => .no) (fun _ _ _ _ _ _ _ _ => .no) (fun _ _ _ _ => .no) (fun _ _ _ _ _ _ _ => .no) (fun _ _ _ _ _ _ _ _ => .no) (fun _ _ _ _ _ _ => .no) (fun _ _ _ _ _ _ _ => .no) (fun _ _ _ _ _ => .no) (fun _ _ _ _ _ => .no) (fun _ _ _ => .no) k
noncomputable def K.al (k : K) : Tr CV → Nat → Option Al := K.rec (motive := fun _ => Tr CV → Nat → Option Al) (fun _ _ _ => none) (fun _ _ _ => none) (fun _ _ _ _ _ => none) (fun _ _ _ _ _ _ _ => none) (fun _ _ _ _ _ _ _ => none) (fun _ _ _ _ _ _ _ _ => none) (fun _ _ _ _ _ _ _ _ => none) (fun _ _ _ _ => none) (fun _ _ _ _ => none) (fun _ _ _ _ _ _ => none) (fun _ _ _ _ _ => none) (fun _ _ _ => none) (fun _ _ _ _ _ _ => none) (fun _ _ _ _ _ _ => none) (fun _ _ _ _ _ _ _ => none) (fun _ _ _ _ _ _ _ => none) (fun _ _ _ _ _ _ _ _ => none) (fun _ _ _ _ _ => none) (fun _ _ _ _ _ _ _ => none) (fun _ _ _ _ => none) (fun _ _ _ _ _ => none) (fun _ _ _ _ _ => none) (fun _ _ _ _ => none) (fun _ _ _ _ => none) (fun _ _ _ _ _ => none) (fun _ _ _ _ _ => none) (fun _ _ _ _ _ _ => none) (fun _ _ _ _ => none) (fun _ _ _ _ _ => none) (fun _ _ _ _ => none) (fun _ _ _ _ _ _ _ _ => none) (fun _ _ _ _ _ _ _ => none) (fun _ _ _ _ _ _ _ _ _ => none) lBox lAlc (fun _ _ _ _ _ => none) (fun _ _ _ _ _ _ => none) (fun _ _ _ _ _ _ _ _ _ => none) lBsl (fun _ _ _ _ => none) lMks lMkm (fun _ _ _ _ _ _ _ => none) (fun _ _ _ _ _ _ _ _ => none) (fun _ _ _ _ _ _ => none) (fun _ _ _ _ _ _ _ => none) (fun _ _ _ _ _ => none) (fun _ _ _ _ _ => none) (fun _ _ _ => none) k
noncomputable def K.ac (k : K) : Tr CV → CH → Pos → Nat → Ao := K.rec (motive := fun _ => Tr CV → CH → Pos → Nat → Ao) (fun _ _ _ _ _ => .no) (fun _ _ _ _ _ => .no) (fun _ _ _ _ _ _ _ => .no) (fun _ _ _ _ _ _ _ _ _ => .no) (fun _ _ _ _ _ _ _ _ _ => .no) (fun _ _ _ _ _ _ _ _ _ _ => .no) (fun _ _ _ _ _ _ _ _ _ _ => .no) (fun _ _ _ _ _ _ => .no) (fun _ _ _ _ _ _ => .no) (fun _ _ _ _ _ _ _ _ => .no) (fun _ _ _ _ _ _ _ => .no) (fun _ _ _ _ _ => .no) (fun _ _ _ _ _ _ _ _ => .no) (fun _ _ _ _ _ _ _ _ => .no) (fun _ _ _ _ _ _ _ _ _ => .no) (fun _ _ _ _ _ _ _ _ _ => .no) (fun _ _ _ _ _ _ _ _ _ _ => .no) (fun _ _ _ _ _ _ _ => .no) (fun _ _ _ _ _ _ _ _ _ => .no) (fun _ _ _ _ _ _ => .no) (fun _ _ _ _ _ _ _ => .no) (fun _ _ _ _ _ _ _ => .no) (fun _ _ _ _ _ _ => .no) (fun _ _ _ _ _ _ => .no) (fun _ _ _ _ _ _ _ => .no) (fun _ _ _ _ _ _ _ => .no) (fun _ _ _ _ _ _ _ _ => .no) (fun _ _ _ _ _ _ => .no) (fun _ _ _ _ _ _ _ => .no) (fun _ _ _ _ _ _ => .no) (fun _ _ _ _ _ _ _ _ _ _ => .no) (fun _ _ _ _ _ _ _ _ _ => .no) (fun _ _ _ _ _ _ _ _ _ _ _ => .no) (fun x0 x1 T H n ck => aAl (lBox x0 x1 T ck) H n ck) (fun x0 x1 T H n ck => aAl (lAlc x0 x1 T ck) H n ck) aSt aStN aApp (fun x0 x1 x2 x3 x4 T H n ck => aAl (lBsl x0 x1 x2 x3 x4 T ck) H n ck) aBs0 (fun x0 x1 x2 x3 x4 x5 T H n ck => aAl (lMks x0 x1 x2 x3 x4 x5 T ck) H n ck) (fun x0 x1 T H n ck => aAl (lMkm x0 x1 T ck) H n ck) aMup aMen aMst aClr (fun _ _ _ _ _ _ _ => .no) (fun _ _ _ _ _ _ _ => .no) (fun _ _ _ _ _ => .no) k
section
variable {P : Program} {N : Kn P} {β : Bk} {H : CH} {n0 : Pos} {ck : Nat} {h : Heap} {T : Tr CV} {Tc : Tm} {o : Oper}
theorem rd_ok (r : TR β T Tc) (hr : HR N.toKy β H n0 ck h) {k : K} (hs : k.side N = true) (hop : o.op = k.op) : RoOk P β H h Tc o (k.rd T H) := by
  cases k <;> simp only [K.side, Bool.and_eq_true, beq_iff_eq, decide_eq_true_eq] at hs
  case mv x => exact rMv_ok (H := H) r hs (.inl hop)
  case asg x => exact rMv_ok (H := H) r hs (.inr hop)
  case pick c x y => exact rPick_ok (H := H) r hs.1.1 hs.1.2 hs.2 hop
  case bin op t x y ty => exact rBin_ok (H := H) r hs.1 hs.2 hop
  case bins op t x y ty => exact rBins_ok (H := H) r hs.1 hs.2 hop
  case eqc n c t x y ty => exact rEq_ok (H := H) r hs.1.1 hs.1.2 hs.2 hop
  case eqst n ks t x y ty =>
    refine rEqst_ok (N := N) (H := H) r hs.1.1 hs.1.2 ?_ hop
    have h2 := hs.2
    split at h2
    · rename_i ks' e; rw [e, of_decide_eq_true h2]
    · cases h2
  case not t x => exact rNot_ok (H := H) r hs hop
  case bnot t x => exact rBnot_ok (H := H) r hs hop
  case conv s d x k => exact rConv_ok (H := H) r hs.1.1 hs.1.2 hs.2 hop
  case cstr s d x => exact rCstr_ok (H := H) r hs.1.1 hs.1.2 hs.2 hop
  case nilc x => exact rNilc_ok (H := H) r hs hop
  case fa t x f off => exact rFa_ok (H := H) r hs.1 hs.2 hop
  case fd1 t x f off => exact rFd1_ok (H := H) r hs.1 hs.2 hop
  case fdN t x f off n => exact rFdN_ok (H := H) r hs.1 hs.2 hop
  case ix t x i e sz => exact rIx_ok (H := H) r hs.1.1.1.1 hs.1.1.1.2 hs.1.1.2 hs.1.2 hs.2 hop
  case ixa t x i e sz n => exact rIxa_ok (H := H) r hs.1.1.1.1 hs.1.1.1.2 hs.1.1.2 hs.1.2 hs.2 hop
  case ixs t x i => exact rIxs_ok (H := H) r hs.1.1 hs.1.2 hs.2 hop
  case ixv t x i e n => exact rIxv_ok (H := H) r hs.1.1.1.1 hs.1.1.1.2 hs.1.1.2 hs.1.2 hs.2 hop
  case ld t x => exact rLd_ok (H := H) r hr hs.1 hs.2 hop
  case ldN t x n => exact rLdN_ok (H := H) r hr hs.1.1 hs.1.2 hs.2 hop
  case len t x e => exact rLen_ok (H := H) r hs.1 hs.2 hop
  case lens t x => exact rLens_ok (H := H) r hs.1 hs.2 hop
  case lenm t x => exact rLenm_ok (H := H) r hr hs.1 hs.2 hop
  case cmin x y t => exact rMin_ok (H := H) r hs.1 hs.2 hop
  case cmax x y t => exact rMax_ok (H := H) r hs.1 hs.2 hop
  case bld t parts pl z =>
    refine rBld_ok (H := H) r hs.1.1.1.1 ?_ hs.1.1.2 hs.1.2 hs.2 hop
    have := hs.1.1.1.2
    simpa using this
  case ext x i => exact rExt_ok (H := H) r hs hop
  case mkf f xs ys => exact rMkf_ok (H := H) r hs.1 hs.2 hop
  case mki t x => exact rMki_ok (H := H) r hs.1 hs.2 hop
  case sli t x lo hi e sz => exact rSli_ok (H := H) r hs.1.1.1.1.1 hs.1.1.1.1.2 hs.1.1.1.2 hs.1.1.2 hs.1.2 hs.2 hop
  case sl0 t x hi mx e => exact rSl0_ok (H := H) r hs.1.1.1.1 hs.1.1.1.2 hs.1.1.2 hs.1.2 hs.2 hop
  case lku t s x k ok et z => exact rLku_ok (H := H) r hr hs.1.1.1.1.1 hs.1.1.1.1.2 hs.1.1.1.2 hs.1.1.2 hs.1.2 hs.2 hop
  all_goals trivial
theorem al_ok (r : TR β T Tc) {k : K} (hs : k.side N = true) (hop : o.op = k.op) : AlOk N β Tc o ck (k.al T ck) := by
  cases k <;> simp only [K.side, Bool.and_eq_true, beq_iff_eq, decide_eq_true_eq, Bool.not_eq_true'] at hs
  case box t x => exact lBox_ok r hs hop
  case alc t zs => exact lAlc_ok (T := T) hs.1.1.1 hs.1.1.2 hs.1.2 hop
  case bsl t m parts e sz => exact lBsl_ok r hs.1.1.1.1.1.1 hs.1.1.1.1.1.2 hs.1.1.1.1.2 hs.1.1.1.2 hs.1.1.2 hs.1.2 hs.2 hop
  case mks t x y e sz zs => exact lMks_ok r hs.1.1.1.1.1.1.1 hs.1.1.1.1.1.1.2 hs.1.1.1.1.1.2 hs.1.1.1.1.2 hs.1.1.1.2 hs.1.1.2 hs.1.2 hop
  case mkm t s => exact lMkm_ok (T := T) hs hop
  all_goals trivial
theorem ac_ok (r : TR β T Tc) (hr : HR N.toKy β H n0 ck h) {k : K} (hs : k.side N = true) (hop : o.op = k.op) : AoOk N β H ck h Tc o (k.ac T H n0 ck) := by
  have al := al_ok (ck := ck) r hs hop
  cases k <;> simp only [K.side, Bool.and_eq_true, beq_iff_eq, decide_eq_true_eq, Bool.not_eq_true'] at hs
  case box t x => exact aAl_ok hr al
  case alc t zs => exact aAl_ok hr al
  case bsl t m parts e sz => exact aAl_ok hr al
  case mks t x y e sz zs => exact aAl_ok hr al
  case mkm t s => exact aAl_ok hr al
  case st t x y => exact aSt_ok r hr hs.1.1.1 hs.1.1.2 hs.1.2 hs.2 hop
  case stN t x y n => exact aStN_ok r hr hs.1.1.1 hs.1.1.2 hs.1.2 hs.2 hop
  case app t tx x y e e' sz => exact aApp_ok r hr hs.1.1.1.1.1 hs.1.1.1.1.2 hs.1.1.1.2 hs.1.1.2 hs.1.2 hs.2 hop
  case bs0 t e => exact aBs0_ok (T := T) hr hs.1 hs.2 hop
  case mup t s m k v => exact aMup_ok r hr hs.1.1.1 hs.1.1.2 hs.1.2 hs.2 hop
  case men t s m k et z => exact aMen_ok r hr hs.1.1.1.1.1 hs.1.1.1.1.2 hs.1.1.1.2 hs.1.1.2 hs.1.2 hs.2 hop
  case mst t m k v => exact aMst_ok r hr hs.1.1 hs.1.2 hs.2 hop
  case clr t x e sz zs => exact aClr_ok r hr hs.1.1.1.1.1.1 hs.1.1.1.1.1.2 hs.1.1.1.1.2 hs.1.1.1.2 hs.1.1.2 hs.1.2 hs.2 hop
  all_goals trivial
theorem isAct_rd {k : K} (h : k.rd T H ≠ .no) : isAct k.op = false := by
  cases k <;> first | rfl | exact absurd rfl h
theorem isAct_ac {k : K} (h : k.ac T H n0 ck ≠ .no) : isAct k.op = true := by
  cases k <;> first | rfl | exact absurd rfl h
theorem isAct_al {k : K} (h : k.al T ck ≠ none) : isAct k.op = true := by
  cases k <;> first | rfl | exact absurd rfl h
end
/-! ### 2. Entries -/
inductive EN where
  | r (d : Pos) (k : K) (q : Bool)
  | a (d : Option Pos) (k : K) (q : Bool)
  | cl (d : Option Pos) (f : Pos) (args : List CP) (tys : List Nat) (q : Bool)
  | cv (d : Option Pos) (x : CP) (args : List CP) (tys : List Nat) (q : Bool)
  | pre (i : Nat) (d : Pos) (k : K) | bnd (i : Nat) (d : Pos) (k : K)
  | gd (p : Pos) (b : Bool) (x : EN)
abbrev CF1 := Pos → List CV → CH → Pos → Nat → Ao
/-- true: a call of yield, by the block of its loop's record. -/
abbrev CF := Bool → CF1
structure St where
  T : Tr CV
  H : CH
  n : Pos
  ck : Nat
  rs : List (Pos × Nat)
  E : List (Nat × Al)
noncomputable def putC (d : Option Pos) (v : CV) (T : Tr CV) : Tr CV := match d with
  | some p => Tr.set .u p v T
  | none => T
noncomputable def quietOk (rs : List (Pos × Nat)) (H : CH) : Bool := rs.all fun e => Nat.beq (hget e.1 H).st e.2
noncomputable def aft (d : Option Pos) (q : Bool) (s : St) (a : Ao) : Option St := match a with
  | .no => none
  | .ok v H n ck => bif q then (bif quietOk s.rs H then some ⟨putC d v s.T, H, n, ck, s.rs, s.E⟩ else none) else some ⟨putC d v s.T, H, n, ck, [], s.E⟩
noncomputable def stR (d : Pos) (k : K) (q : Bool) (_ : CF) (s : St) : Option St := match k.rd s.T s.H with
  | .no => none
  | .ok v => some ⟨Tr.set .u d v s.T, s.H, s.n, s.ck, s.rs, s.E⟩
  | .rd v id => bif q then some ⟨Tr.set .u d v s.T, s.H, s.n, s.ck, (id, (hget id s.H).st) :: s.rs, s.E⟩ else some ⟨Tr.set .u d v s.T, s.H, s.n, s.ck, s.rs, s.E⟩
noncomputable def stA (d : Option Pos) (k : K) (q : Bool) (_ : CF) (s : St) : Option St := aft d q s (k.ac s.T s.H s.n s.ck)
noncomputable def stCl (d : Option Pos) (f : Pos) (args : List CP) (_ : List Nat) (q : Bool) (cf : CF) (s : St) : Option St := aft d q s (cf false f (gets args s.T) s.H s.n s.ck)
noncomputable def stCv (d : Option Pos) (x : CP) (args : List CP) (_ : List Nat) (q : Bool) (cf : CF) (s : St) : Option St := match x.get s.T with
  | .fn f xs ys => aft d q s (cf false f (xs ++ (gets args s.T ++ ys)) s.H s.n s.ck)
  | .yl id => aft d q s (cf true id (gets args s.T) s.H s.n s.ck)
  | _ => none
noncomputable def stPre (i : Nat) (_ : Pos) (k : K) (_ : CF) (s : St) : Option St := match k.al s.T 0 with
  | some y => some ⟨s.T, s.H, s.n, s.ck, s.rs, (i, y) :: s.E⟩
  | none => none
def lookE (i : Nat) : List (Nat × Al) → Option Al
  | [] => none
  | e :: r => bif Nat.beq i e.1 then some e.2 else lookE i r
noncomputable def stBnd (i : Nat) (d : Pos) (_ : K) (_ : CF) (s : St) : Option St := match lookE i s.E with
  | some y => some ⟨Tr.set .u d (y.v s.n) s.T, hset s.n y.o s.H, s.n.succ, s.ck, s.rs, s.E⟩
  | none => none
def EN.d : EN → Option Pos
  | .r d _ _ => some d
  | .a d _ _ => d
  | .cl d _ _ _ _ => d
  | .cv d _ _ _ _ => d
  | .pre _ d _ => some d
  | .bnd _ d _ => some d
  | .gd _ _ x => x.d
noncomputable def EN.go (x : EN) : CF → St → Option St :=
  EN.rec (motive := fun _ => CF → St → Option St) stR stA stCl stCv stPre stBnd (fun p b x ih cf s => match Tr.get .u p s.T with
    | .b t => bif t == b then ih cf s else some ⟨putC x.d .u s.T, s.H, s.n, s.ck, s.rs, s.E⟩
    | .u => some ⟨putC x.d .u s.T, s.H, s.n, s.ck, s.rs, s.E⟩
    | _ => none) x
noncomputable def gos (cf : CF) (l : List EN) : St → Option St := List.rec (motive := fun _ => St → Option St) some (fun x _ ih s => Option.rec none ih (x.go cf s)) l
theorem gos_cons (cf : CF) (x : EN) (l : List EN) (s : St) : gos cf (x :: l) s = match x.go cf s with | some s' => gos cf l s' | none => none := by
  show Option.rec (motive := fun _ => Option St) none (gos cf l) (x.go cf s) = _
  cases x.go cf s <;> rfl
def dn (d : Option Pos) : Option Nat := d.map fun p => p.nat - 1
def EN.op : EN → Op
  | .r _ k _ | .a _ k _ | .pre _ _ k | .bnd _ _ k => k.op
  | .cl _ f args tys _ => (K.call f args tys).op
  | .cv _ x args tys _ => (K.callv x args tys).op
  | .gd _ _ x => x.op
def EN.gu : EN → Option (Nat × Bool)
  | .gd p b _ => some (p.nat - 1, b)
  | _ => none
def EN.strip (x : EN) : Option Nat × Op × Option (Nat × Bool) := (dn x.d, x.op, x.gu)
variable {P : Program}
def EN.plain : EN → Bool
  | .gd _ _ _ | .pre _ _ _ | .bnd _ _ _ => false
  | _ => true
def EN.side (N : Kn P) : EN → Bool
  | .r _ k _ | .a _ k _ | .bnd _ _ k => k.side N
  | .pre _ _ k => k.side N
  | .cl _ f args tys _ => (K.call f args tys).side N
  | .cv _ x args tys _ => (K.callv x args tys).side N
  | .gd _ _ x => x.plain && x.side N
def EN.okN (M : Nat) (x : EN) : Bool := (match x.d with | some p => decide (p.nat - 1 < M) | none => true) && (match x.gu with | some (t, _) => decide (t < 1000000000) | none => true)
end Go.Proofs.YtfbjgbecabbdnaaGreatDoor.Ce

/- The evaluator: a region's entries one behind the other. -/
set_option linter.unusedVariables false
set_option linter.unusedSimpArgs false
namespace Go.Proofs.YtfbjgbecabbdnaaGreatDoor.Ce
open Go.Proofs.YtfbjgbecabbdnaaGreatDoor.Sl
open Ab (isOne isMany isSl isArr isIntT isStr zeroIs okCall)
variable {P : Program}
def strip3 (ops : Array Oper) (o : Oper) : Option Nat × Op × Option (Nat × Bool) := (o.dst, o.op, match o.guard with
  | none => none
  | some (j, b) => match (ops[j]?).bind (·.dst) with
    | some t => some (t, b)
    | none => some (1000000000, b))
theorem okCall_spec {f : FuncId} (h : okCall P f = true) : ∃ fn, P.funcs[f]? = some fn ∧ (fn.name == "runtime.NumGoroutine") = false ∧ fn.body.isNone = false := by
  unfold Ab.okCall at h
  split at h
  · rename_i fn hf
    simp only [Bool.and_eq_true, Bool.not_eq_true'] at h
    exact ⟨fn, hf, h.1, h.2⟩
  · cases h
def Sem (N : Kn P) (β : Bk) (s : St) (h : Heap) (Tc : Tm) : Prop := TR β s.T Tc ∧ HR N.toKy β s.H s.n s.ck h
structure After (N : Kn P) (β : Bk) (s : St) (h : Heap) (s' : St) (Tc' : Tm) (h' : Heap) : Prop where
  out : ∃ β', β.le β' ∧ Sem N β' s' h' Tc'
  keep : Keep β s.H s'.H h h'
  mono : ∀ p, (hget p s.H).st ≤ (hget p s'.H).st
section
variable {N : Kn P} {β β' : Bk} {s s' s1 : St} {h h' h1 : Heap} {Tc Tc' : Tm} {o : Oper} {cf : CF}
theorem After.here (x : Sem N β s h Tc) : After N β s h s Tc h := ⟨⟨β, Bk.le_refl _, x⟩, Keep.refl _ _ _, fun _ => Nat.le_refl _⟩
theorem After.trans (l : β.le β') (k : Keep β s.H s1.H h h1) (m : ∀ p, (hget p s.H).st ≤ (hget p s1.H).st) (b : After N β' s1 h1 s' Tc' h') : After N β s h s' Tc' h' := by
  obtain ⟨⟨β2, l2, x⟩, k2, m2⟩ := b
  exact ⟨⟨β2, Bk.le_trans l l2, x⟩, Keep.trans k l k2 m2, fun p => Nat.le_trans (m p) (m2 p)⟩
def CfOk1 (N : Kn P) (cf : CF1) : Prop := ∀ (f : Pos) (args : List CV) (vs : List Value) (H : CH) (n : Pos) (ck : Nat) (β : Bk) (h : Heap) (v : CV) (H' : CH) (n' : Pos) (ck' : Nat),
  cf f args H n ck = .ok v H' n' ck' → HR N.toKy β H n ck h → VRs β args vs → okCall P (f.nat - 1) = true ∧ SCalls P (f.nat - 1) vs.toArray h (Aft N β H ck h v H' n' ck')
def YfOk (N : Kn P) (cf : CF1) : Prop := ∀ (id : Pos) (args : List CV) (vs : List Value) (H : CH) (n : Pos) (ck : Nat) (β : Bk) (h : Heap) (v : CV) (H' : CH) (n' : Pos) (ck' : Nat) (x : Blk),
  cf id args H n ck = .ok v H' n' ck' → HR N.toKy β H n ck h → VRs β args vs → β id = some x → ∃ r : Loop, h x.b = some (.loop r) ∧ vs.length = r.params.size ∧ SRound P x.b r.fn (setPs r.params vs.toArray r.tmps) r.assign r.body h (Aft N β H ck h v H' n' ck')
def CfOk (N : Kn P) (cf : CF) : Prop := CfOk1 N (cf false) ∧ YfOk N (cf true)
theorem put_dn {β : Bk} {T : Tr CV} {Tc : Tm} (r : TR β T Tc) (d : Option Pos) {c : CV} {v : Value} (hv : VR β c v) : TR β (putC d c T) (put Tc (dn d) v) := by
  cases d with
  | none => exact r
  | some p => exact r.put p hv
theorem aft_after {s : St} {d : Option Pos} {q : Bool} {v : CV} {H : CH} {n : Pos} {ck : Nat} (x : Sem N β s h Tc) (e : aft d q s (.ok v H n ck) = some s') {u : Value} {h' : Heap} (a : Aft N β s.H s.ck h v H n ck u h') : After N β s h s' (put Tc (dn d) u) h' ∧ s'.H = H ∧ s'.E = s.E ∧ (q = true → quietOk s.rs H = true ∧ s'.rs = s.rs) ∧ (q = false → s'.rs = []) := by
  obtain ⟨⟨β', l, hr, hv⟩, k, m⟩ := a
  have key : ∀ rs', After N β s h ⟨putC d v s.T, H, n, ck, rs', s.E⟩ (put Tc (dn d) u) h' := fun rs' => ⟨⟨β', l, put_dn (x.1.le l) d hv, hr⟩, k, m⟩
  unfold aft at e
  cases q with
  | false => cases e; exact ⟨key _, rfl, rfl, fun e => (by cases e), fun _ => rfl⟩
  | true =>
    simp only [cond_true] at e
    cases hq : quietOk s.rs H with
    | false => rw [hq] at e; cases e
    | true => rw [hq] at e; cases e; exact ⟨key _, rfl, rfl, fun _ => ⟨rfl, rfl⟩, fun e => by cases e⟩
/-- A plain act. -/
theorem act_sop (hc : CfOk N cf) (x : Sem N β s h Tc) {y : EN} (hp : ∀ d k q, y ≠ .r d k q) (hpl : y.plain = true) (hs : y.side N = true) (hop : o.op = y.op) (e : y.go cf s = some s') :
    ∃ (d : Option Pos) (q : Bool) (v : CV) (H : CH) (n : Pos) (ck : Nat), d = y.d ∧ aft d q s (.ok v H n ck) = some s' ∧ isAct o.op = true ∧ SOp P o (ev Tc) h (Aft N β s.H s.ck h v H n ck) ∧ (match y with | .a _ _ q' | .cl _ _ _ _ q' | .cv _ _ _ _ q' => q' = q | _ => False) := by
  cases y with
  | r d k q => exact absurd rfl (hp d k q)
  | a d k q =>
    have e : aft d q s (k.ac s.T s.H s.n s.ck) = some s' := e
    have ok := ac_ok (N := N) x.1 x.2 (k := k) hs hop
    have hact := isAct_ac (k := k) (T := s.T) (H := s.H) (n0 := s.n) (ck := s.ck)
    cases ha : k.ac s.T s.H s.n s.ck with
    | no => rw [ha] at e; cases e
    | ok v H n ck =>
      rw [ha] at e ok hact
      exact ⟨d, q, v, H, n, ck, rfl, e, by rw [hop]; exact hact (by simp), ok, rfl⟩
  | cl d f args tys q =>
    have e : aft d q s (cf false f (gets args s.T) s.H s.n s.ck) = some s' := e
    cases ha : cf false f (gets args s.T) s.H s.n s.ck with
    | no => rw [ha] at e; cases e
    | ok v H n ck =>
      rw [ha] at e
      simp only [EN.side, K.side, Bool.and_eq_true] at hs
      obtain ⟨ho, c⟩ := hc.1 f _ _ _ _ _ β h v H n ck ha x.2 (gets_ok x.1 hs.1)
      obtain ⟨fn, h1, h2, h3⟩ := okCall_spec ho
      refine ⟨d, q, v, H, n, ck, rfl, e, by rw [hop]; rfl, ?_, rfl⟩
      exact s_call hop rfl h1 h2 h3 (by simp [Function.comp_def]) c
  | cv d f args tys q =>
    have e : stCv d f args tys q cf s = some s' := e
    unfold stCv at e
    simp only [EN.side, K.side, Bool.and_eq_true] at hs
    split at e
    · rename_i g xs ys hg
      have hv := CP.get_ok x.1 f hs.1
      rw [hg] at hv
      generalize hu : ev Tc f.op = u at hv
      cases hv with
      | @fn _ _ _ va vb ra rb =>
        cases ha : cf false g (xs ++ (gets args s.T ++ ys)) s.H s.n s.ck with
        | no => rw [ha] at e; cases e
        | ok v H n ck =>
          rw [ha] at e
          obtain ⟨ho, c⟩ := hc.1 g _ _ _ _ _ β h v H n ck ha x.2 (ra.append ((gets_ok x.1 hs.2).append rb))
          obtain ⟨fn, h1, h2, h3⟩ := okCall_spec ho
          refine ⟨d, q, v, H, n, ck, rfl, e, by rw [hop]; rfl, ?_, rfl⟩
          exact s_callv hop hu h1 h2 h3 (by simp [Function.comp_def]) c
    · rename_i id hg
      have hv := CP.get_ok x.1 f hs.1
      rw [hg] at hv
      generalize hu : ev Tc f.op = u at hv
      cases hv with
      | @yl _ y hy =>
        cases ha : cf true id (gets args s.T) s.H s.n s.ck with
        | no => rw [ha] at e; cases e
        | ok v H n ck =>
          rw [ha] at e
          obtain ⟨r, h1, h2, c⟩ := hc.2 id _ _ _ _ _ β h v H n ck y ha x.2 (gets_ok x.1 hs.2) hy
          refine ⟨d, q, v, H, n, ck, rfl, e, by rw [hop]; rfl, ?_, rfl⟩
          exact s_yield hop hu h1 (by simp [Function.comp_def]) (by rw [List.size_toArray]; exact h2) c
    · cases e
  | pre i d k => cases hpl
  | bnd i d k => cases hpl
  | gd p b y => cases hpl
/-- A plain read. -/
theorem rd_sop (x : Sem N β s h Tc) {d : Pos} {k : K} {q : Bool} (hs : k.side N = true) (hop : o.op = k.op) (e : (EN.r d k q).go cf s = some s') :
    isAct o.op = false ∧ ∃ (c : CV) (rs' : List (Pos × Nat)) (v : Value), s' = ⟨Tr.set .u d c s.T, s.H, s.n, s.ck, rs', s.E⟩ ∧ VR β c v ∧
      ((rs' = s.rs ∧ PureOp P o (ev Tc) v) ∨ (∃ id y, (rs' = if q = true then (id, (hget id s.H).st) :: s.rs else s.rs) ∧ β id = some y ∧ (hget id s.H).live = true ∧ isRead o.op = true ∧ ∀ g : Heap, g y.b = h y.b → ReadOp P o (ev Tc) g v)) := by
  have e : stR d k q cf s = some s' := e
  unfold stR at e
  have ok := rd_ok (N := N) x.1 x.2 (k := k) hs hop
  have hact := isAct_rd (k := k) (T := s.T) (H := s.H)
  split at e
  · cases e
  · rename_i v hr
    rw [hr] at ok hact
    obtain ⟨u, hv, hp⟩ := ok
    cases e
    exact ⟨by rw [hop]; exact hact (by simp), v, _, u, rfl, hv, .inl ⟨rfl, hp⟩⟩
  · rename_i v id hr
    rw [hr] at ok hact
    obtain ⟨u, hv, hrd, y, hy, hlive, hp⟩ := ok
    cases q with
    | true => cases e; exact ⟨by rw [hop]; exact hact (by simp), v, _, u, rfl, hv, .inr ⟨id, y, rfl, hy, hlive, hrd, hp⟩⟩
    | false => cases e; exact ⟨by rw [hop]; exact hact (by simp), v, _, u, rfl, hv, .inr ⟨id, y, rfl, hy, hlive, hrd, hp⟩⟩
/-! ### In the order of the text -/
theorem strip_spec {ops : Array Oper} {y : EN} (h : strip3 ops o = y.strip) (hg : (match y.gu with | some (t, _) => decide (t < 1000000000) | none => true) = true) : o.dst = dn y.d ∧ o.op = y.op ∧ (y.gu = none → o.guard = none) ∧ ∀ t b, y.gu = some (t, b) → ∃ j, o.guard = some (j, b) ∧ ((ops[j]?).bind (·.dst)) = some t := by
  simp only [strip3, EN.strip, Prod.mk.injEq] at h
  obtain ⟨h1, h2, h3⟩ := h
  refine ⟨h1, h2, fun e => ?_, fun t b e => ?_⟩
  · rw [e] at h3
    cases ho : o.guard with
    | none => rfl
    | some z =>
      obtain ⟨j, b⟩ := z
      rw [ho] at h3
      simp only at h3
      split at h3 <;> cases h3
  · rw [e] at h3 hg
    cases ho : o.guard with
    | none => rw [ho] at h3; cases h3
    | some z =>
      obtain ⟨j, b'⟩ := z
      rw [ho] at h3
      simp only at h3
      split at h3
      · rename_i t' ht'; cases h3; exact ⟨j, rfl, ht'⟩
      · cases h3; simp at hg
/-- What a guard says. -/
theorem gd_go (x : Sem N β s h Tc) {p : Pos} {b : Bool} {y : EN} (e : (EN.gd p b y).go cf s = some s') : (Tc (p.nat - 1) = .bool b ∧ y.go cf s = some s') ∨ ((∀ b', Tc (p.nat - 1) = .bool b' → (b' == b) = false) ∧ s' = ⟨putC y.d .u s.T, s.H, s.n, s.ck, s.rs, s.E⟩) := by
  have e : (match Tr.get .u p s.T with
    | .b t => bif t == b then y.go cf s else some ⟨putC y.d .u s.T, s.H, s.n, s.ck, s.rs, s.E⟩
    | .u => some ⟨putC y.d .u s.T, s.H, s.n, s.ck, s.rs, s.E⟩
    | _ => none) = some s' := e
  have hv := x.1.at p
  split at e
  · rename_i t ht
    rw [ht] at hv
    generalize Tc (p.nat - 1) = u at hv
    cases hv
    cases htb : t == b with
    | true =>
      rw [htb] at e
      exact .inl ⟨by rw [(beq_iff_eq.1 htb)], e⟩
    | false =>
      rw [htb] at e
      cases e
      exact .inr ⟨fun b' e1 => by cases e1; exact htb, rfl⟩
  · rename_i ht
    rw [ht] at hv
    generalize Tc (p.nat - 1) = u at hv
    cases hv
    cases e
    exact .inr ⟨fun b' e1 => (by cases e1), rfl⟩
  · cases e
theorem want_gd {ops : Array Oper} {t : Nat} {b : Bool} (hg : ∃ j, o.guard = some (j, b) ∧ ((ops[j]?).bind (·.dst)) = some t) : (Tc t = .bool b → want ops Tc o = true) ∧ ((∀ b', Tc t = .bool b' → (b' == b) = false) → want ops Tc o = false) := by
  obtain ⟨j, h1, h2⟩ := hg
  unfold want
  rw [h1]
  simp only [h2]
  refine ⟨fun e => by rw [e]; simp, fun e => ?_⟩
  cases ht : Tc t with
  | bool b' => simpa using e b' ht
  | _ => rfl
theorem skip_after (x : Sem N β s h Tc) (d : Option Pos) : Sem N β ⟨putC d .u s.T, s.H, s.n, s.ck, s.rs, s.E⟩ h (put Tc (dn d) undef) := ⟨put_dn x.1 d .u, x.2⟩
/-- A plain entry. -/
theorem plain_sop (hc : CfOk N cf) (x : Sem N β s h Tc) {y : EN} (hpl : y.plain = true) (hs : y.side N = true) (hop : o.op = y.op) (e : y.go cf s = some s') : SOp P o (ev Tc) h (fun v h' => After N β s h s' (put Tc (dn y.d) v) h') := by
  by_cases hr : ∃ d k q, y = .r d k q
  · obtain ⟨d, k, q, rfl⟩ := hr
    obtain ⟨_, c, rs', v, rfl, hv, hp⟩ := rd_sop x hs hop e
    have fin : After N β s h ⟨Tr.set .u d c s.T, s.H, s.n, s.ck, rs', s.E⟩ (put Tc (dn (some d)) v) h := ⟨⟨β, Bk.le_refl _, put_dn x.1 (some d) hv, x.2⟩, Keep.refl _ _ _, fun _ => Nat.le_refl _⟩
    rcases hp with ⟨_, hp⟩ | ⟨id, z, _, _, _, _, hp⟩
    · exact (hp.read h).sop fin
    · exact (hp h rfl).sop fin
  · obtain ⟨d, q, v, H, n, ck, hd, ea, _, sop, _⟩ := act_sop hc x (fun d k q e => hr ⟨d, k, q, e⟩) hpl hs hop e
    exact sop.mono fun u h' a => by rw [← hd]; exact (aft_after x ea a).1
theorem gos_sops {M : Nat} {ops : Array Oper} {Q : Tm → Heap → Prop} (hc : CfOk N cf) : ∀ (l : List EN) (os : List Oper) {s s' : St} {β : Bk} {h : Heap} {Tc : Tm}, os.map (strip3 ops) = l.map EN.strip → l.all (fun y => y.side N && y.okN M && (y.plain || (match y with | .gd _ _ _ => true | _ => false))) = true →
    Sem N β s h Tc → gos cf l s = some s' → (∀ T' h', After N β s h s' T' h' → Q T' h') → sops P M ops Q os Tc h
  | [], os, s, s', β, h, Tc, hm, _, x, e, hq => by
    cases os with
    | cons o os => simp at hm
    | nil => cases e; exact hq _ _ (.here x)
  | y :: l, os, s, s', β, h, Tc, hm, hl, x, e, hq => by
    cases os with
    | nil => simp at hm
    | cons o os =>
      simp only [List.map_cons, List.cons.injEq] at hm
      simp only [List.all_cons, Bool.and_eq_true] at hl
      obtain ⟨⟨⟨hside, hok⟩, hform⟩, hl⟩ := hl
      rw [gos_cons] at e
      simp only [EN.okN, Bool.and_eq_true] at hok
      obtain ⟨f1, f2, f3, f4⟩ := strip_spec hm.1 hok.2
      cases hgo : y.go cf s with
      | none => rw [hgo] at e; cases e
      | some s1 =>
        rw [hgo] at e
        simp only at e
        have next : ∀ v h1, After N β s h s1 (put Tc o.dst v) h1 → sops P M ops Q os (put Tc o.dst v) h1 := fun v h1 a => by
          obtain ⟨⟨β1, l1, x1⟩, k1, m1⟩ := a
          exact gos_sops hc l os hm.2 hl x1 e fun T' h' b => hq T' h' (b.trans l1 k1 m1)
        refine ⟨fun t ht => ?_, ?_⟩
        · rw [f1] at ht
          cases hd : y.d with
          | none => rw [hd] at ht; cases ht
          | some p => rw [hd] at ht; cases ht; have := hok.1; rw [hd] at this; exact of_decide_eq_true this
        cases hpl : y.plain with
        | true =>
          have hgn : y.gu = none := by cases y <;> first | rfl | cases hpl
          have hw : want ops Tc o = true := Sl.want_none (f3 hgn)
          rw [hw]
          exact (plain_sop hc x hpl hside f2 hgo).mono fun v h' a => next v h' (by rw [f1]; exact a)
        | false =>
          rw [hpl] at hform
          cases y with
          | gd p b z =>
            simp only [EN.side, Bool.and_eq_true] at hside
            obtain ⟨w1, w2⟩ := want_gd (Tc := Tc) (f4 _ _ rfl)
            rcases gd_go x hgo with ⟨h1, h2⟩ | ⟨h1, h2⟩
            · rw [w1 h1]
              exact (plain_sop hc x hside.1 hside.2 f2 h2).mono fun v h' a => next v h' (by rw [f1]; exact a)
            · rw [w2 h1]
              simp only [Bool.false_eq_true, if_false]
              refine next _ _ ?_
              rw [f1, h2]
              have := After.here (N := N) (skip_after x z.d)
              obtain ⟨⟨β2, l2, x2⟩, k2, m2⟩ := this
              exact ⟨⟨β2, l2, x2⟩, k2, m2⟩
          | _ => cases hform
end
end Go.Proofs.YtfbjgbecabbdnaaGreatDoor.Ce
