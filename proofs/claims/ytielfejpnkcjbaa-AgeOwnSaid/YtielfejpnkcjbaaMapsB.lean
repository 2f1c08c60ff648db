/- Maps: an entry that is sought, and then told its value ('m[k]++'). -/
import Derived.Test.YtielfejpnkcjbaaWalk
set_option linter.unusedVariables false
set_option linter.unusedSimpArgs false
namespace Go.Proofs.Ytielfejpnkcjbaa.Sl
section
variable {P : Program} {kt : TypeId} {κ : Type} [DecidableEq κ] {enc : κ → Value}
variable {o : Oper} {ρ : Operand → Value} {h : Heap} {K' : Value → Heap → Prop}
theorem foldl_set_get (off : Nat) : ∀ (vs : List Value) (k : Nat) (cells : Array Value), off + k + vs.length ≤ cells.size → ∀ m,
    ((vs.zipIdx k).foldl (fun (cs : Array Value) (x : Value × Nat) => cs.setIfInBounds (off + x.2) x.1) cells)[m]? = if off + k ≤ m ∧ m < off + k + vs.length then vs[m - (off + k)]? else cells[m]?
  | [], k, cells, _, m => by
    have : ¬ (off + k ≤ m ∧ m < off + k + 0) := by omega
    simp only [List.zipIdx_nil, List.foldl_nil, List.length_nil, if_neg this]
  | v :: vs, k, cells, h, m => by
    simp only [List.length_cons] at h
    simp only [List.zipIdx_cons, List.foldl_cons, List.length_cons]
    rw [foldl_set_get off vs (k + 1) _ (by simp; omega) m, Array.getElem?_setIfInBounds]
    by_cases h1 : off + (k + 1) ≤ m ∧ m < off + (k + 1) + vs.length
    · rw [if_pos h1, if_pos (by omega)]
      rw [show m - (off + k) = (m - (off + (k + 1))) + 1 by omega]
      simp
    · rw [if_neg h1]
      by_cases h2 : off + k = m
      · subst h2
        rw [if_pos rfl, if_pos (by omega), if_pos (by omega)]
        simp
      · rw [if_neg h2, if_neg (by omega)]
theorem fill_at {off : Nat} {vs cells : Array Value} (h : off + vs.size ≤ cells.size) : vs.zipIdx.foldl (fun cs (c, j) => cs.setIfInBounds (off + j) c) cells = (cells.toList.take off ++ vs.toList ++ cells.toList.drop (off + vs.size)).toArray := by
  apply Array.ext_getElem?
  intro m
  have h1 := foldl_set_get off vs.toList 0 cells (by simpa using h) m
  rw [← Array.foldl_toList, Array.toList_zipIdx]
  rw [h1]
  simp only [List.getElem?_toArray, Nat.add_zero, Array.length_toList]
  by_cases h2 : off ≤ m ∧ m < off + vs.size
  · rw [if_pos h2, List.append_assoc, List.getElem?_append_right (by simp; omega), List.getElem?_append_left (by simp; omega)]
    simp only [List.length_take, Array.length_toList]
    rw [show min off cells.size = off by omega]
  · rw [if_neg h2]
    rcases Nat.lt_or_ge m off with h3 | h3
    · rw [List.append_assoc, List.getElem?_append_left (by simp; omega), List.getElem?_take_of_lt h3]; simp
    · rw [List.getElem?_append_right (by simp; omega), List.getElem?_drop]
      simp only [List.length_append, List.length_take, Array.length_toList, Array.getElem?_toList]
      congr 1; omega
/-- A literal's cells, as a list. -/
def fillL (places : List (Nat × Nat)) : List Value → List (Nat × Value) → Option (List Value)
  | cs, [] => some cs
  | cs, (i, v) :: r => match places[i]? with
    | none => none
    | some (off, size) => if v.cells.size = size ∧ off + size ≤ cs.length then fillL places (cs.take off ++ v.cells.toList ++ cs.drop (off + size)) r else none
theorem fill_fillL {places : List (Nat × Nat)} : ∀ {vs : List (Nat × Value)} {cs cs' : List Value}, fillL places cs vs = some cs' → Instr.fill (places.toArray[·]?) cs.toArray vs = some cs'.toArray
  | [], cs, cs', h => by simp only [fillL, Option.some.injEq] at h; rw [h]; rfl
  | (i, v) :: r, cs, cs', h => by
    unfold fillL at h
    split at h
    · cases h
    · rename_i off size hp
      split at h
      · rename_i hc
        obtain ⟨hc1, hc2⟩ := hc
        have hp' : places.toArray[i]? = some (off, size) := by simpa using hp
        unfold Instr.fill
        simp only [hp']
        have h2 : (decide (v.cells.size ≠ size) || decide (off + v.cells.size > cs.toArray.size)) = false := by
          simp only [Bool.or_eq_false_iff, decide_eq_false_iff_not, List.size_toArray]; omega
        rw [h2]
        simp only [Bool.false_eq_true, if_false]
        rw [fill_at (by simp; omega), hc1]
        exact fill_fillL h
      · cases h
theorem p_buildL {t : TypeId} {parts : Array (Nat × Operand)} {vs : List (Nat × Value)} {places : List (Nat × Nat)} {z cells : List Value} (ho : o.op = .build t parts) (hv : (parts.map fun (i, x) => (i, ρ x)).toList = vs)
    (hp : placesOf P t = some places) (hz : zeroOf P t = some z.toArray) (hc : fillL places z vs = some cells) : PureOp P o ρ (.agg cells.toArray) :=
  p_buildW ho hv hp hz (fill_fillL hc)
/-- A list of one. -/
theorem a_buildSlice1 {t e sz : Nat} {x : Operand} {v : Value} (ho : o.op = .buildSlice t 1 #[(0, x)]) (hu : P.underlying t = some (.slice e)) (hx : ρ x = v) (hi : infoOk P e sz = true) (hv : v.cells.size = sz) (h0 : 0 < sz) (h1 : sz ≤ 65536) :
    AllocOp P o ρ (.cells v.cells e) (fun b => .slice (some ⟨b, 0, none⟩) 1 1) := by
  obtain ⟨i, z, hi, hz, hs, hz1, hb⟩ := infoOk_spec hi
  have hcell : P.cellsOf e = sz := by simp [Program.cellsOf, hi, hs]
  refine a_buildSlice (cells := v.cells) ho hu ?_ (by rw [hcell]; omega) (by rw [hcell]; omega)
  unfold sliceLit
  simp only [hi, hz, Instr.fill, hs, List.map_toArray, List.map_cons, List.map_nil, hx]
  have h2 : (decide (v.cells.size ≠ sz) || decide (0 * sz + v.cells.size > ((Array.range (1 * sz)).map (fun j => z.cells[j % z.cells.size]!)).size)) = false := by
    simp only [Array.size_map, Array.size_range, Bool.or_eq_false_iff, decide_eq_false_iff_not]; omega
  rw [h2]
  simp only [Bool.false_eq_true, if_false]
  simp only [Nat.zero_mul]
  rw [fill_at (by simp; omega), List.drop_eq_nil_of_le (by simp; omega)]
  simp
/-- With an entry for a key. -/
def entK (l : List (κ × Value)) (k : κ) (z : Value) : List (κ × Value) := if hasK l k then l else l ++ [(k, z)]
theorem hasK_mem {l : List (κ × Value)} {k : κ} : hasK l k = true ↔ k ∈ l.map (·.1) := by
  unfold hasK
  rw [List.any_eq_true]
  simp only [decide_eq_true_eq, List.mem_map]
  exact ⟨fun ⟨p, hp, e⟩ => ⟨p, hp, e.symm⟩, fun ⟨p, hp, e⟩ => ⟨p, hp, e.symm⟩⟩
theorem getK_entK (l : List (κ × Value)) (k k' : κ) (z : Value) : (getK (entK l k z) k').getD z = (getK l k').getD z := by
  unfold entK
  split
  · rfl
  · rename_i hh
    unfold getK
    rw [List.find?_append]
    cases hf : l.find? (fun p => decide (k' = p.1)) with
    | some p => rfl
    | none =>
      simp only [Option.none_or, Option.map_none, Option.getD_none]
      by_cases hk : k' = k
      · simp [hk]
      · simp [hk]
theorem putK_entK (l : List (κ × Value)) (k : κ) (z v : Value) : putK (entK l k z) k v = putK l k v := by
  unfold entK
  split
  · rfl
  · rename_i hh
    have hn : hasK l k = false := by simpa using hh
    have h1 : hasK (l ++ [(k, z)]) k = true := by simp [hasK]
    unfold putK
    rw [h1, hn]
    simp only [if_true, Bool.false_eq_true, if_false, List.map_append, List.map_cons, List.map_nil]
    congr 1
    have : ∀ p ∈ l, (if k = p.1 then (p.1, v) else p) = p := by
      intro p hp
      have : k ≠ p.1 := by rintro rfl; rw [hasK_mem.2 (List.mem_map.2 ⟨p, hp, rfl⟩)] at hn; cases hn
      rw [if_neg this]
    exact (List.map_congr_left this).trans (List.map_id' l)
/-- A map with an entry of a birth that is known. -/
structure IsMapE (h : Heap) (b : Nat) (enc : κ → Value) (l : List (κ × Value)) (k : κ) (β : Nat) : Prop where
  out : ∃ (es : Array MapEntry) (cl j : Nat) (e : MapEntry) (v : Value), h b = some (.map es cl) ∧ EsRep enc es.toList l ∧ (es.toList.map (·.born)).Nodup ∧ (∀ e ∈ es.toList, e.born < cl) ∧ es[j]? = some e ∧ e.born = β ∧ l[j]? = some (k, v)
end
section
variable {κ : Type} {enc : κ → Value} {h : Heap}
theorem IsMapE.map {b : Nat} {l : List (κ × Value)} {k : κ} {β : Nat} (x : IsMapE h b enc l k β) : IsMap h b enc l := by
  obtain ⟨es, cl, j, e, v, h1, h2, h3, h4, _⟩ := x.out
  exact ⟨es, cl, h1, h2, h3, h4⟩
end
section
variable {P : Program} {kt : TypeId} {κ : Type} [DecidableEq κ] {enc : κ → Value}
variable {o : Oper} {ρ : Operand → Value} {h : Heap} {K' : Value → Heap → Prop}
end
section
variable {κ : Type} {enc : κ → Value} {h : Heap}
theorem IsMapE.of {h' : Heap} {b : Nat} {l : List (κ × Value)} {k : κ} {β : Nat} (x : IsMapE h b enc l k β) (e : h' b = h b) : IsMapE h' b enc l k β := by
  obtain ⟨es, cl, j, e1, v, h1, h2⟩ := x.out
  exact ⟨es, cl, j, e1, v, by rw [e]; exact h1, h2⟩
end
section
variable {P : Program} {kt : TypeId} {κ : Type} [DecidableEq κ] {enc : κ → Value}
variable {o : Oper} {ρ : Operand → Value} {h : Heap} {K' : Value → Heap → Prop}
theorem map_modify_born (es : List MapEntry) (j : Nat) (f : MapEntry → MapEntry) (hf : ∀ e, (f e).born = e.born) : (es.modify j f).map (·.born) = es.map (·.born) := by
  apply List.ext_getElem?
  intro m
  simp only [List.getElem?_map, List.getElem?_modify]
  cases es[m]? with
  | none => rfl
  | some e2 => simp; split <;> simp [hf]
theorem lt_modify {es : List MapEntry} {cl : Nat} (j : Nat) (f : MapEntry → MapEntry) (hf : ∀ e, (f e).born = e.born) (lt : ∀ e ∈ es, e.born < cl) : ∀ e ∈ es.modify j f, e.born < cl := by
  intro e2 h2
  have : e2.born ∈ (es.modify j f).map (·.born) := List.mem_map.2 ⟨e2, h2, rfl⟩
  rw [map_modify_born es j f hf] at this
  obtain ⟨e3, h4, h5⟩ := List.mem_map.1 this
  rw [← h5]; exact lt e3 h4
/-- An entry is sought, or made. -/
theorem s_mapEntry (K : KeyLaw P kt enc) {t et : TypeId} {m x : Operand} {b : Nat} {l : List (κ × Value)} {k : κ} {d : TypeDesc} {i : TypeInfo} {z : Value} (ho : o.op = .mapEntry t m x) (ht : P.underlying t = some (.map kt et)) (hk : P.underlying kt = some d) (hi : P.info? et = some i) (hz : i.zero = some z)
    (hm : ρ m = .map (some b)) (hx : ρ x = enc k) (im : IsMap h b enc l) (n1 : Keys1 l) (kk : ∀ ob β v, IsMapE (h.set b ob) b enc (entK l k z) k β → K' (.tuple #[v, .int .i64 (β : Nat)]) (h.set b ob)) : SOp P o ρ h K' := by
  obtain ⟨es, cl, e, r, nd, lt⟩ := im.out
  intro w rw_
  have hb := rw_ b _ e
  have hf := run_findKey K hk k w es.toList l r
  cases hfk : findK k l 0 with
  | none =>
    have hh := (findK_none k l 0).1 hfk
    have hl := es_len r
    refine .inl ⟨_, _, h.set b (.map (es.push { key := enc k, val := z, born := cl }) (cl + 1)), .inl ?_, kk _ cl z ⟨_, _, es.size, _, z, Heap.set_same _ _ _, ?_, ?_, ?_, Array.getElem?_push_size, rfl, ?_⟩, rw_.setObj e, Step.setObj e⟩
    · simp only [execOp, ho, Instr.mapEntry, Sem.run_bind, run_underlying ht, Result.andThen_ok, hm, hx, getObj, Sem.run, hb, Sem.run_pure, K.check, hf, hfk]
      simp [zeroValue, typeInfo, program, Sem.run, hi, hz, setObj, hb, goInt]
    · simp only [entK, hh, Bool.false_eq_true, if_false, EsRep, Array.toList_push, List.map_append]
      rw [r]; rfl
    · simp only [Array.toList_push, List.map_append]
      refine List.nodup_append.2 ⟨nd, by simp, ?_⟩
      intro a ha b' hb' e'
      simp only [List.map_cons, List.map_nil, List.mem_singleton] at hb'
      obtain ⟨e1, h1, h2⟩ := List.mem_map.1 ha
      have := lt e1 h1
      omega
    · intro e1 h1
      simp only [Array.toList_push, List.mem_append, List.mem_singleton] at h1
      rcases h1 with h1 | h1
      · have := lt e1 h1; omega
      · rw [h1]; show cl < cl + 1; omega
    · have : es.size = l.length := by simpa using hl
      simp [entK, hh, this]
  | some p =>
    obtain ⟨j, v0⟩ := p
    obtain ⟨j', hj, hl⟩ := findK_some k l 0 j v0 hfk
    have hj : j = j' := by omega
    subst hj
    obtain ⟨e1, he1, hk1, hv1⟩ := es_get r hl
    have hh : hasK l k = true := by
      cases e2 : hasK l k with
      | true => rfl
      | false => rw [(findK_none k l 0).2 e2] at hfk; cases hfk
    have he1' : es[j]? = some e1 := by simpa using he1
    have hid : es.modify j (fun e => { e with key := enc k }) = es := by
      apply Array.ext'
      rw [Array.toList_modify]
      apply List.ext_getElem?
      intro m
      rw [List.getElem?_modify]
      by_cases hjm : j = m
      · subst hjm; rw [he1]; simp [← hk1]
      · cases es.toList[m]? <;> simp [hjm]
    refine .inl ⟨_, _, h.set b (.map (es.modify j fun e => { e with key := enc k }) cl), .inl ?_, kk _ e1.born v0 ⟨_, _, j, e1, v0, Heap.set_same _ _ _, ?_, ?_, ?_, ?_, rfl, ?_⟩, rw_.setObj e, Step.setObj e⟩
    · simp only [execOp, ho, Instr.mapEntry, Sem.run_bind, run_underlying ht, Result.andThen_ok, hm, hx, getObj, Sem.run, hb, Sem.run_pure, K.check, hf, hfk]
      simp [Instr.keyThatStays, he1', hk1, K.bits, setObj, Sem.run, hb, goInt]
    · rw [hid]; simpa [entK, hh] using r
    · rw [hid]; exact nd
    · rw [hid]; exact lt
    · rw [hid]; exact he1'
    · simpa [entK, hh] using hl
/-- The entry is told its value. -/
theorem s_entryStore {t : TypeId} {m s x : Operand} {b β : Nat} {l : List (κ × Value)} {k : κ} {v : Value} (ho : o.op = .entryStore t m s x)
    (hm : ρ m = .map (some b)) (hs : ρ s = .int .i64 (β : Nat)) (hx : ρ x = v) (im : IsMapE h b enc l k β) (n1 : Keys1 l) (kk : ∀ ob, IsMap (h.set b ob) b enc (putK l k v) → K' undef (h.set b ob)) : SOp P o ρ h K' := by
  obtain ⟨es, cl, j, e, v0, hb0, r, nd, lt, he, hβ, hl⟩ := im.out
  intro w rw_
  have hb := rw_ b _ hb0
  have hfind : es.findIdx? (fun e => (e.born : Int) == (β : Int)) = some j := by
    rw [Array.findIdx?_eq_some_iff_getElem]
    have hjlt : j < es.size := (Array.getElem?_eq_some_iff.1 he).1
    have hje : es[j] = e := (Array.getElem?_eq_some_iff.1 he).2
    refine ⟨hjlt, by simp [hje, hβ], fun i hi => ?_⟩
    have hnd := List.pairwise_iff_getElem.1 nd i j (by simp; omega) (by simpa using hjlt) hi
    simp only [List.getElem_map, Array.getElem_toList, hje, hβ] at hnd
    simp only [beq_iff_eq]
    intro e'
    exact hnd (by omega)
  have hhas : hasK l k = true := hasK_mem.2 (List.mem_map.2 ⟨_, List.mem_of_getElem? hl, rfl⟩)
  refine .inl ⟨undef, _, h.set b (.map (es.modify j fun e => { e with val := v }) cl), .inr ⟨rfl, ?_⟩, kk _ ⟨_, _, Heap.set_same _ _ _, ?_, ?_, ?_⟩, rw_.setObj hb0, Step.setObj hb0⟩
  · simp only [execOp, ho, Instr.entryStore, hm, hs, hx, Sem.run_bind, getObj, Sem.run, hb, Sem.run_pure, Result.andThen_ok, asInt, asIntOf, hfind]
    simp [setObj, Sem.run, hb, hfind]
  · simp only [putK, hhas, if_true, Array.toList_modify]
    exact modify_rep r n1 hl _ (fun e he => ⟨he, rfl⟩)
  · rw [Array.toList_modify, map_modify_born es.toList j (fun e => { e with val := v }) (fun _ => rfl)]; exact nd
  · rw [Array.toList_modify]; exact lt_modify j (fun e => { e with val := v }) (fun _ => rfl) lt
theorem entK_keys (l : List (κ × Value)) (n1 : Keys1 l) (k : κ) (z : Value) : Keys1 (entK l k z) := by
  unfold entK
  split
  · exact n1
  · rename_i hh
    have := putK_keys l n1 k z
    unfold putK at this
    rwa [if_neg hh] at this
theorem set_set (h : Heap) (b : Nat) (x y : Obj) : (h.set b x).set b y = h.set b y := by
  funext k; by_cases e : k = b <;> simp [Heap.set, e]
def zeroV (P : Program) (t : TypeId) : Option Value := (P.info? t).bind (·.zero)
theorem zeroV_spec {t : TypeId} {z : Value} (hz : zeroV P t = some z) : ∃ i, P.info? t = some i ∧ i.zero = some z := by
  unfold zeroV at hz
  cases hi : P.info? t with
  | none => rw [hi] at hz; cases hz
  | some i => rw [hi] at hz; exact ⟨i, rfl, hz⟩
theorem a_allocZ {t : TypeId} {z : Value} {zs : Array Value} (ho : o.op = .alloc t) (hz : zeroV P t = some z) (hc : z.cells = zs) : AllocOp P o ρ (.cells zs t) (fun b => .pointer (some ⟨b, 0, none⟩)) := by
  obtain ⟨i, hi, hz⟩ := zeroV_spec hz
  subst hc
  exact a_alloc ho hi hz
theorem r_lookupZ (K : KeyLaw P kt enc) {t et : TypeId} {m x : Operand} {b : Nat} {l : List (κ × Value)} {k : κ} {d : TypeDesc} {z : Value} {ok : Bool} (ho : o.op = .lookup t m x ok) (ht : P.underlying t = some (.map kt et)) (hk : P.underlying kt = some d) (hz : zeroV P et = some z)
    (hm : ρ m = .map (some b)) (hx : ρ x = enc k) (im : IsMap h b enc l) : ReadOp P o ρ h (if ok then .tuple #[(getK l k).getD z, .bool (hasK l k)] else (getK l k).getD z) := by
  obtain ⟨i, hi, hz⟩ := zeroV_spec hz
  exact r_lookup K ho ht hk hi hz hm hx im
theorem r_lookupV (K : KeyLaw P kt enc) {t et : TypeId} {m x : Operand} {b : Nat} {l : List (κ × Value)} {k : κ} {d : TypeDesc} {z v : Value} (ho : o.op = .lookup t m x false) (ht : P.underlying t = some (.map kt et)) (hk : P.underlying kt = some d) (hz : zeroV P et = some z)
    (hm : ρ m = .map (some b)) (hx : ρ x = enc k) (im : IsMap h b enc l) (hv : (getK l k).getD z = v) : ReadOp P o ρ h v := by
  have := r_lookupZ K ho ht hk hz hm hx im
  simpa [hv] using this
theorem r_lookup_nilZ (K : KeyLaw P kt enc) {t et : TypeId} {m x : Operand} {k : κ} {z : Value} {d : TypeDesc} {ok : Bool} (ho : o.op = .lookup t m x ok) (ht : P.underlying t = some (.map kt et)) (hk : P.underlying kt = some d) (hz : zeroV P et = some z)
    (hm : ρ m = .map none) (hx : ρ x = enc k) : ReadOp P o ρ h (if ok then .tuple #[z, .bool false] else z) := by
  obtain ⟨i, hi, hz⟩ := zeroV_spec hz
  exact r_lookup_nil K ho ht hk hi hz hm hx
theorem s_mapEntryZ (K : KeyLaw P kt enc) {t et : TypeId} {m x : Operand} {b : Nat} {l : List (κ × Value)} {k : κ} {d : TypeDesc} {z : Value} (ho : o.op = .mapEntry t m x) (ht : P.underlying t = some (.map kt et)) (hk : P.underlying kt = some d) (hz : zeroV P et = some z)
    (hm : ρ m = .map (some b)) (hx : ρ x = enc k) (im : IsMap h b enc l) (n1 : Keys1 l) (kk : ∀ ob β v, IsMapE (h.set b ob) b enc (entK l k z) k β → K' (.tuple #[v, .int .i64 (β : Nat)]) (h.set b ob)) : SOp P o ρ h K' := by
  obtain ⟨i, hi, hz⟩ := zeroV_spec hz
  exact s_mapEntry K ho ht hk hi hz hm hx im n1 kk
theorem rdAt_set {S : List Nat} {h0 : Heap} {b : Nat} {x : Obj} (hb : b ∉ S) : (rdAt S h0).on h → (rdAt S h0).on (h.set b x) := fun a k hk y e => by
  have e1 : k ≠ b := fun e1 => by rw [e1] at hk; exact hb hk
  rw [Heap.set_other _ _ e1]; exact a k hk y e
/-- A key that is looked up, whatever becomes of others. -/
def rdMap (enc : κ → Value) (b : Nat) (k : κ) (z v : Value) : RdA := ⟨fun g => ∃ l, IsMap g b enc l ∧ (getK l k).getD z = v, fun g g' le ⟨l, i, e⟩ => ⟨l, i.le le, e⟩⟩
end
end Go.Proofs.Ytielfejpnkcjbaa.Sl
