import Derived.Test.YtfbjgbecabbdnaaGreatDoorTs5
import Derived.ProofKit
import Derived.OpenShut
import Derived.Carry
/- Maps: an entry that is sought, and then told its value ('m[k]++'). -/
set_option linter.unusedVariables false
set_option linter.unusedSimpArgs false
namespace Go.Proofs.YtfbjgbecabbdnaaGreatDoor.Sl
section
variable {P : Program} {kt : TypeId} {κ : Type} [DecidableEq κ] {enc : κ → Value}
variable {o : Oper} {ρ : Operand → Value} {h : Heap} {K' : Value → Heap → Prop}
theorem foldl_set_get (off : Nat) : ∀ (vs : List Value) (k : Nat) (cells : Array Value), off + k + vs.length ≤ cells.size → ∀ m,
    ((vs.zipIdx k).foldl (fun (cs : Array Value) (x : Value × Nat) => cs.setIfInBounds (off + x.2) x.1) cells)[m]? = if off + k ≤ m ∧ m < off + k + vs.length then vs[m - (off + k)]? else cells[m]?
  | [], k, cells, _, m => by
    have : ¬ (off + k ≤ m ∧ m < off + k + 0) := by omega
    simp only [List.zipIdx_nil, List.foldl_nil, List.length_nil, if_neg this]
  | v :: vs, k, cells, h, m => by
    simp only [List.length_cons] at h
    simp only [List.zipIdx_cons, List.foldl_cons, List.length_cons]
    rw [foldl_set_get off vs (k + 1) _ (by simp; omega) m, Array.getElem?_setIfInBounds]
    by_cases h1 : off + (k + 1) ≤ m ∧ m < off + (k + 1) + vs.length
    · rw [if_pos h1, if_pos (by omega)]
      rw [show m - (off + k) = (m - (off + (k + 1))) + 1 by omega]
      simp
    · rw [if_neg h1]
      by_cases h2 : off + k = m
      · subst h2
        rw [if_pos rfl, if_pos (by omega), if_pos (by omega)]
        simp
      · rw [if_neg h2, if_neg (by omega)]
theorem fill_at {off : Nat} {vs cells : Array Value} (h : off + vs.size ≤ cells.size) : vs.zipIdx.foldl (fun cs (c, j) => cs.setIfInBounds (off + j) c) cells = (cells.toList.take off ++ vs.toList ++ cells.toList.drop (off + vs.size)).toArray := by
  apply Array.ext_getElem?
  intro m
  have h1 := foldl_set_get off vs.toList 0 cells (by simpa using h) m
  rw [← Array.foldl_toList, Array.toList_zipIdx]
  rw [h1]
  simp only [List.getElem?_toArray, Nat.add_zero, Array.length_toList]
  by_cases h2 : off ≤ m ∧ m < off + vs.size
  · rw [if_pos h2, List.append_assoc, List.getElem?_append_right (by simp; omega), List.getElem?_append_left (by simp; omega)]
    simp only [List.length_take, Array.length_toList]
    rw [show min off cells.size = off by omega]
  · rw [if_neg h2]
    rcases Nat.lt_or_ge m off with h3 | h3
    · rw [List.append_assoc, List.getElem?_append_left (by simp; omega), List.getElem?_take_of_lt h3]; simp
    · rw [List.getElem?_append_right (by simp; omega), List.getElem?_drop]
      simp only [List.length_append, List.length_take, Array.length_toList, Array.getElem?_toList]
      congr 1; omega
/-- A literal's cells, as a list. -/
def fillL (places : List (Nat × Nat)) : List Value → List (Nat × Value) → Option (List Value)
  | cs, [] => some cs
  | cs, (i, v) :: r => match places[i]? with
    | none => none
    | some (off, size) => if v.cells.size = size ∧ off + size ≤ cs.length then fillL places (cs.take off ++ v.cells.toList ++ cs.drop (off + size)) r else none
theorem fill_fillL {places : List (Nat × Nat)} : ∀ {vs : List (Nat × Value)} {cs cs' : List Value}, fillL places cs vs = some cs' → Instr.fill (places.toArray[·]?) cs.toArray vs = some cs'.toArray
  | [], cs, cs', h => by simp only [fillL, Option.some.injEq] at h; rw [h]; rfl
  | (i, v) :: r, cs, cs', h => by
    unfold fillL at h
    split at h
    · cases h
    · rename_i off size hp
      split at h
      · rename_i hc
        obtain ⟨hc1, hc2⟩ := hc
        have hp' : places.toArray[i]? = some (off, size) := by simpa using hp
        unfold Instr.fill
        simp only [hp']
        have h2 : (decide (v.cells.size ≠ size) || decide (off + v.cells.size > cs.toArray.size)) = false := by
          simp only [Bool.or_eq_false_iff, decide_eq_false_iff_not, List.size_toArray]; omega
        rw [h2]
        simp only [Bool.false_eq_true, if_false]
        rw [fill_at (by simp; omega), hc1]
        exact fill_fillL h
      · cases h
theorem p_buildL {t : TypeId} {parts : Array (Nat × Operand)} {vs : List (Nat × Value)} {places : List (Nat × Nat)} {z cells : List Value} (ho : o.op = .build t parts) (hv : (parts.map fun (i, x) => (i, ρ x)).toList = vs)
    (hp : placesOf P t = some places) (hz : zeroOf P t = some z.toArray) (hc : fillL places z vs = some cells) : PureOp P o ρ (.agg cells.toArray) :=
  p_buildW ho hv hp hz (fill_fillL hc)
/-- A list of one. -/
theorem a_buildSlice1 {t e sz : Nat} {x : Operand} {v : Value} (ho : o.op = .buildSlice t 1 #[(0, x)]) (hu : P.underlying t = some (.slice e)) (hx : ρ x = v) (hi : infoOk P e sz = true) (hv : v.cells.size = sz) (h0 : 0 < sz) (h1 : sz ≤ 65536) :
    AllocOp P o ρ (.cells v.cells e) (fun b => .slice (some ⟨b, 0, none⟩) 1 1) := by
  obtain ⟨i, z, hi, hz, hs, hz1, hb⟩ := infoOk_spec hi
  have hcell : P.cellsOf e = sz := by simp [Program.cellsOf, hi, hs]
  refine a_buildSlice (cells := v.cells) ho hu ?_ (by rw [hcell]; omega) (by rw [hcell]; omega)
  unfold sliceLit
  simp only [hi, hz, Instr.fill, hs, List.map_toArray, List.map_cons, List.map_nil, hx]
  have h2 : (decide (v.cells.size ≠ sz) || decide (0 * sz + v.cells.size > ((Array.range (1 * sz)).map (fun j => z.cells[j % z.cells.size]!)).size)) = false := by
    simp only [Array.size_map, Array.size_range, Bool.or_eq_false_iff, decide_eq_false_iff_not]; omega
  rw [h2]
  simp only [Bool.false_eq_true, if_false]
  simp only [Nat.zero_mul]
  rw [fill_at (by simp; omega), List.drop_eq_nil_of_le (by simp; omega)]
  simp
/-- With an entry for a key. -/
def entK (l : List (κ × Value)) (k : κ) (z : Value) : List (κ × Value) := if hasK l k then l else l ++ [(k, z)]
theorem hasK_mem {l : List (κ × Value)} {k : κ} : hasK l k = true ↔ k ∈ l.map (·.1) := by
  unfold hasK
  rw [List.any_eq_true]
  simp only [decide_eq_true_eq, List.mem_map]
  exact ⟨fun ⟨p, hp, e⟩ => ⟨p, hp, e.symm⟩, fun ⟨p, hp, e⟩ => ⟨p, hp, e.symm⟩⟩
theorem getK_entK (l : List (κ × Value)) (k k' : κ) (z : Value) : (getK (entK l k z) k').getD z = (getK l k').getD z := by
  unfold entK
  split
  · rfl
  · rename_i hh
    unfold getK
    rw [List.find?_append]
    cases hf : l.find? (fun p => decide (k' = p.1)) with
    | some p => rfl
    | none =>
      simp only [Option.none_or, Option.map_none, Option.getD_none]
      by_cases hk : k' = k
      · simp [hk]
      · simp [hk]
theorem putK_entK (l : List (κ × Value)) (k : κ) (z v : Value) : putK (entK l k z) k v = putK l k v := by
  unfold entK
  split
  · rfl
  · rename_i hh
    have hn : hasK l k = false := by simpa using hh
    have h1 : hasK (l ++ [(k, z)]) k = true := by simp [hasK]
    unfold putK
    rw [h1, hn]
    simp only [if_true, Bool.false_eq_true, if_false, List.map_append, List.map_cons, List.map_nil]
    congr 1
    have : ∀ p ∈ l, (if k = p.1 then (p.1, v) else p) = p := by
      intro p hp
      have : k ≠ p.1 := by rintro rfl; rw [hasK_mem.2 (List.mem_map.2 ⟨p, hp, rfl⟩)] at hn; cases hn
      rw [if_neg this]
    exact (List.map_congr_left this).trans (List.map_id' l)
/-- A map with an entry of a birth that is known. -/
structure IsMapE (h : Heap) (b : Nat) (enc : κ → Value) (l : List (κ × Value)) (k : κ) (β : Nat) : Prop where
  out : ∃ (es : Array MapEntry) (cl j : Nat) (e : MapEntry) (v : Value), h b = some (.map es cl) ∧ EsRep enc es.toList l ∧ (es.toList.map (·.born)).Nodup ∧ (∀ e ∈ es.toList, e.born < cl) ∧ es[j]? = some e ∧ e.born = β ∧ l[j]? = some (k, v)
end
section
variable {κ : Type} {enc : κ → Value} {h : Heap}
theorem IsMapE.map {b : Nat} {l : List (κ × Value)} {k : κ} {β : Nat} (x : IsMapE h b enc l k β) : IsMap h b enc l := by
  obtain ⟨es, cl, j, e, v, h1, h2, h3, h4, _⟩ := x.out
  exact ⟨es, cl, h1, h2, h3, h4⟩
end
section
variable {P : Program} {kt : TypeId} {κ : Type} [DecidableEq κ] {enc : κ → Value}
variable {o : Oper} {ρ : Operand → Value} {h : Heap} {K' : Value → Heap → Prop}
end
section
variable {κ : Type} {enc : κ → Value} {h : Heap}
theorem IsMapE.of {h' : Heap} {b : Nat} {l : List (κ × Value)} {k : κ} {β : Nat} (x : IsMapE h b enc l k β) (e : h' b = h b) : IsMapE h' b enc l k β := by
  obtain ⟨es, cl, j, e1, v, h1, h2⟩ := x.out
  exact ⟨es, cl, j, e1, v, by rw [e]; exact h1, h2⟩
end
section
variable {P : Program} {kt : TypeId} {κ : Type} [DecidableEq κ] {enc : κ → Value}
variable {o : Oper} {ρ : Operand → Value} {h : Heap} {K' : Value → Heap → Prop}
theorem map_modify_born (es : List MapEntry) (j : Nat) (f : MapEntry → MapEntry) (hf : ∀ e, (f e).born = e.born) : (es.modify j f).map (·.born) = es.map (·.born) := by
  apply List.ext_getElem?
  intro m
  simp only [List.getElem?_map, List.getElem?_modify]
  cases es[m]? with
  | none => rfl
  | some e2 => simp; split <;> simp [hf]
theorem lt_modify {es : List MapEntry} {cl : Nat} (j : Nat) (f : MapEntry → MapEntry) (hf : ∀ e, (f e).born = e.born) (lt : ∀ e ∈ es, e.born < cl) : ∀ e ∈ es.modify j f, e.born < cl := by
  intro e2 h2
  have : e2.born ∈ (es.modify j f).map (·.born) := List.mem_map.2 ⟨e2, h2, rfl⟩
  rw [map_modify_born es j f hf] at this
  obtain ⟨e3, h4, h5⟩ := List.mem_map.1 this
  rw [← h5]; exact lt e3 h4
/-- An entry is sought, or made. -/
theorem s_mapEntry (K : KeyLaw P kt enc) {t et : TypeId} {m x : Operand} {b : Nat} {l : List (κ × Value)} {k : κ} {d : TypeDesc} {i : TypeInfo} {z : Value} (ho : o.op = .mapEntry t m x) (ht : P.underlying t = some (.map kt et)) (hk : P.underlying kt = some d) (hi : P.info? et = some i) (hz : i.zero = some z)
    (hm : ρ m = .map (some b)) (hx : ρ x = enc k) (im : IsMap h b enc l) (n1 : Keys1 l) (kk : ∀ ob β v, IsMapE (h.set b ob) b enc (entK l k z) k β → K' (.tuple #[v, .int .i64 (β : Nat)]) (h.set b ob)) : SOp P o ρ h K' := by
  obtain ⟨es, cl, e, r, nd, lt⟩ := im.out
  intro w rw_
  have hb := rw_ b _ e
  have hf := run_findKey K hk k w es.toList l r
  cases hfk : findK k l 0 with
  | none =>
    have hh := (findK_none k l 0).1 hfk
    have hl := es_len r
    refine .inl ⟨_, _, h.set b (.map (es.push { key := enc k, val := z, born := cl }) (cl + 1)), .inl ?_, kk _ cl z ⟨_, _, es.size, _, z, Heap.set_same _ _ _, ?_, ?_, ?_, Array.getElem?_push_size, rfl, ?_⟩, rw_.setObj e, Step.setObj e⟩
    · simp only [execOp, ho, Instr.mapEntry, Sem.run_bind, run_underlying ht, Result.andThen_ok, hm, hx, getObj, Sem.run, hb, Sem.run_pure, K.check, hf, hfk]
      simp [zeroValue, typeInfo, program, Sem.run, hi, hz, setObj, hb, goInt]
    · simp only [entK, hh, Bool.false_eq_true, if_false, EsRep, Array.toList_push, List.map_append]
      rw [r]; rfl
    · simp only [Array.toList_push, List.map_append]
      refine List.nodup_append.2 ⟨nd, by simp, ?_⟩
      intro a ha b' hb' e'
      simp only [List.map_cons, List.map_nil, List.mem_singleton] at hb'
      obtain ⟨e1, h1, h2⟩ := List.mem_map.1 ha
      have := lt e1 h1
      omega
    · intro e1 h1
      simp only [Array.toList_push, List.mem_append, List.mem_singleton] at h1
      rcases h1 with h1 | h1
      · have := lt e1 h1; omega
      · rw [h1]; show cl < cl + 1; omega
    · have : es.size = l.length := by simpa using hl
      simp [entK, hh, this]
  | some p =>
    obtain ⟨j, v0⟩ := p
    obtain ⟨j', hj, hl⟩ := findK_some k l 0 j v0 hfk
    have hj : j = j' := by omega
    subst hj
    obtain ⟨e1, he1, hk1, hv1⟩ := es_get r hl
    have hh : hasK l k = true := by
      cases e2 : hasK l k with
      | true => rfl
      | false => rw [(findK_none k l 0).2 e2] at hfk; cases hfk
    have he1' : es[j]? = some e1 := by simpa using he1
    have hid : es.modify j (fun e => { e with key := enc k }) = es := by
      apply Array.ext'
      rw [Array.toList_modify]
      apply List.ext_getElem?
      intro m
      rw [List.getElem?_modify]
      by_cases hjm : j = m
      · subst hjm; rw [he1]; simp [← hk1]
      · cases es.toList[m]? <;> simp [hjm]
    refine .inl ⟨_, _, h.set b (.map (es.modify j fun e => { e with key := enc k }) cl), .inl ?_, kk _ e1.born v0 ⟨_, _, j, e1, v0, Heap.set_same _ _ _, ?_, ?_, ?_, ?_, rfl, ?_⟩, rw_.setObj e, Step.setObj e⟩
    · simp only [execOp, ho, Instr.mapEntry, Sem.run_bind, run_underlying ht, Result.andThen_ok, hm, hx, getObj, Sem.run, hb, Sem.run_pure, K.check, hf, hfk]
      simp [Instr.keyThatStays, he1', hk1, K.bits, setObj, Sem.run, hb, goInt]
    · rw [hid]; simpa [entK, hh] using r
    · rw [hid]; exact nd
    · rw [hid]; exact lt
    · rw [hid]; exact he1'
    · simpa [entK, hh] using hl
/-- The entry is told its value. -/
theorem s_entryStore {t : TypeId} {m s x : Operand} {b β : Nat} {l : List (κ × Value)} {k : κ} {v : Value} (ho : o.op = .entryStore t m s x)
    (hm : ρ m = .map (some b)) (hs : ρ s = .int .i64 (β : Nat)) (hx : ρ x = v) (im : IsMapE h b enc l k β) (n1 : Keys1 l) (kk : ∀ ob, IsMap (h.set b ob) b enc (putK l k v) → K' undef (h.set b ob)) : SOp P o ρ h K' := by
  obtain ⟨es, cl, j, e, v0, hb0, r, nd, lt, he, hβ, hl⟩ := im.out
  intro w rw_
  have hb := rw_ b _ hb0
  have hfind : es.findIdx? (fun e => (e.born : Int) == (β : Int)) = some j := by
    rw [Array.findIdx?_eq_some_iff_getElem]
    have hjlt : j < es.size := (Array.getElem?_eq_some_iff.1 he).1
    have hje : es[j] = e := (Array.getElem?_eq_some_iff.1 he).2
    refine ⟨hjlt, by simp [hje, hβ], fun i hi => ?_⟩
    have hnd := List.pairwise_iff_getElem.1 nd i j (by simp; omega) (by simpa using hjlt) hi
    simp only [List.getElem_map, Array.getElem_toList, hje, hβ] at hnd
    simp only [beq_iff_eq]
    intro e'
    exact hnd (by omega)
  have hhas : hasK l k = true := hasK_mem.2 (List.mem_map.2 ⟨_, List.mem_of_getElem? hl, rfl⟩)
  refine .inl ⟨undef, _, h.set b (.map (es.modify j fun e => { e with val := v }) cl), .inr ⟨rfl, ?_⟩, kk _ ⟨_, _, Heap.set_same _ _ _, ?_, ?_, ?_⟩, rw_.setObj hb0, Step.setObj hb0⟩
  · simp only [execOp, ho, Instr.entryStore, hm, hs, hx, Sem.run_bind, getObj, Sem.run, hb, Sem.run_pure, Result.andThen_ok, asInt, asIntOf, hfind]
    simp [setObj, Sem.run, hb, hfind]
  · simp only [putK, hhas, if_true, Array.toList_modify]
    exact modify_rep r n1 hl _ (fun e he => ⟨he, rfl⟩)
  · rw [Array.toList_modify, map_modify_born es.toList j (fun e => { e with val := v }) (fun _ => rfl)]; exact nd
  · rw [Array.toList_modify]; exact lt_modify j (fun e => { e with val := v }) (fun _ => rfl) lt
theorem entK_keys (l : List (κ × Value)) (n1 : Keys1 l) (k : κ) (z : Value) : Keys1 (entK l k z) := by
  unfold entK
  split
  · exact n1
  · rename_i hh
    have := putK_keys l n1 k z
    unfold putK at this
    rwa [if_neg hh] at this
theorem set_set (h : Heap) (b : Nat) (x y : Obj) : (h.set b x).set b y = h.set b y := by
  funext k; by_cases e : k = b <;> simp [Heap.set, e]
def zeroV (P : Program) (t : TypeId) : Option Value := (P.info? t).bind (·.zero)
theorem zeroV_spec {t : TypeId} {z : Value} (hz : zeroV P t = some z) : ∃ i, P.info? t = some i ∧ i.zero = some z := by
  unfold zeroV at hz
  cases hi : P.info? t with
  | none => rw [hi] at hz; cases hz
  | some i => rw [hi] at hz; exact ⟨i, rfl, hz⟩
theorem a_allocZ {t : TypeId} {z : Value} {zs : Array Value} (ho : o.op = .alloc t) (hz : zeroV P t = some z) (hc : z.cells = zs) : AllocOp P o ρ (.cells zs t) (fun b => .pointer (some ⟨b, 0, none⟩)) := by
  obtain ⟨i, hi, hz⟩ := zeroV_spec hz
  subst hc
  exact a_alloc ho hi hz
theorem r_lookupZ (K : KeyLaw P kt enc) {t et : TypeId} {m x : Operand} {b : Nat} {l : List (κ × Value)} {k : κ} {d : TypeDesc} {z : Value} {ok : Bool} (ho : o.op = .lookup t m x ok) (ht : P.underlying t = some (.map kt et)) (hk : P.underlying kt = some d) (hz : zeroV P et = some z)
    (hm : ρ m = .map (some b)) (hx : ρ x = enc k) (im : IsMap h b enc l) : ReadOp P o ρ h (if ok then .tuple #[(getK l k).getD z, .bool (hasK l k)] else (getK l k).getD z) := by
  obtain ⟨i, hi, hz⟩ := zeroV_spec hz
  exact r_lookup K ho ht hk hi hz hm hx im
theorem r_lookupV (K : KeyLaw P kt enc) {t et : TypeId} {m x : Operand} {b : Nat} {l : List (κ × Value)} {k : κ} {d : TypeDesc} {z v : Value} (ho : o.op = .lookup t m x false) (ht : P.underlying t = some (.map kt et)) (hk : P.underlying kt = some d) (hz : zeroV P et = some z)
    (hm : ρ m = .map (some b)) (hx : ρ x = enc k) (im : IsMap h b enc l) (hv : (getK l k).getD z = v) : ReadOp P o ρ h v := by
  have := r_lookupZ K ho ht hk hz hm hx im
  simpa [hv] using this
theorem r_lookup_nilZ (K : KeyLaw P kt enc) {t et : TypeId} {m x : Operand} {k : κ} {z : Value} {d : TypeDesc} {ok : Bool} (ho : o.op = .lookup t m x ok) (ht : P.underlying t = some (.map kt et)) (hk : P.underlying kt = some d) (hz : zeroV P et = some z)
    (hm : ρ m = .map none) (hx : ρ x = enc k) : ReadOp P o ρ h (if ok then .tuple #[z, .bool false] else z) := by
  obtain ⟨i, hi, hz⟩ := zeroV_spec hz
  exact r_lookup_nil K ho ht hk hi hz hm hx
theorem s_mapEntryZ (K : KeyLaw P kt enc) {t et : TypeId} {m x : Operand} {b : Nat} {l : List (κ × Value)} {k : κ} {d : TypeDesc} {z : Value} (ho : o.op = .mapEntry t m x) (ht : P.underlying t = some (.map kt et)) (hk : P.underlying kt = some d) (hz : zeroV P et = some z)
    (hm : ρ m = .map (some b)) (hx : ρ x = enc k) (im : IsMap h b enc l) (n1 : Keys1 l) (kk : ∀ ob β v, IsMapE (h.set b ob) b enc (entK l k z) k β → K' (.tuple #[v, .int .i64 (β : Nat)]) (h.set b ob)) : SOp P o ρ h K' := by
  obtain ⟨i, hi, hz⟩ := zeroV_spec hz
  exact s_mapEntry K ho ht hk hi hz hm hx im n1 kk
theorem rdAt_set {S : List Nat} {h0 : Heap} {b : Nat} {x : Obj} (hb : b ∉ S) : (rdAt S h0).on h → (rdAt S h0).on (h.set b x) := fun a k hk y e => by
  have e1 : k ≠ b := fun e1 => by rw [e1] at hk; exact hb hk
  rw [Heap.set_other _ _ e1]; exact a k hk y e
/-- A key that is looked up, whatever becomes of others. -/
def rdMap (enc : κ → Value) (b : Nat) (k : κ) (z v : Value) : RdA := ⟨fun g => ∃ l, IsMap g b enc l ∧ (getK l k).getD z = v, fun g g' le ⟨l, i, e⟩ => ⟨l, i.le le, e⟩⟩
end
end Go.Proofs.YtfbjgbecabbdnaaGreatDoor.Sl

/- From a call's contract over a partial heap to what a row asks of the world behind it. -/
set_option linter.unusedVariables false
namespace Go.Proofs.YtfbjgbecabbdnaaGreatDoor.Sl
open Go.ChangeShapes Go.WideShapes Go.ChangeAt Go.RowKit
def heapOf (w : World) : Heap := fun b => w.heap[b]?
theorem calls_below {P : Program} {f : FuncId} {args : Array Value} {w : World} (c : SCalls P f args (heapOf w) (fun r h' => (heapOf w).le h' ∧ r = .bool true)) :
    Calls P f args w fun e w' => e = .returned (.bool true) ∧ Below w.heap.size w w' := by
  refine (c w (fun b o e => e)).mono ?_
  rintro e w' ⟨v, h', rfl, ⟨hle, rfl⟩, r, st⟩
  refine ⟨rfl, st.os, st.tape, st.output, st.size, fun k hk => ?_⟩
  obtain ⟨o, ho⟩ : ∃ o, w.heap[k]? = some o := ⟨w.heap[k], Array.getElem?_eq_getElem hk⟩
  rw [ho]
  exact r k o (hle k o ho)
theorem trodAll_below {H : Type} {enc : TypeId × Value → H} {P : Program} (hl : laidOutB P = true) {W W' : World} (hb : Below W.heap.size W W') : ∀ (ts : List TypeId) (vs : List Value) (ds : List (DataW H)) (ps : List MemPlace),
    ts.all (fun t => P.readableRec t && decide (t < P.types.size)) = true → (∀ x ∈ ps, x.block < W.heap.size) → DataW.TrodAll enc P W 0 (fun _ => true) true ts vs ds ps → DataW.TrodAll enc P W' 0 (fun b => decide (b < W.heap.size)) true ts vs ds ps
  | [], [], [], ps, _, _, h => h
  | t :: ts, v :: vs, d :: ds, ps, ht, hp, h => by
    obtain ⟨p, q, h1, h2, rfl⟩ := h
    simp only [List.all_cons, Bool.and_eq_true, decide_eq_true_eq] at ht
    exact ⟨p, q, Below.trod hl ht.1.1 ht.1.2 h1 hb (fun x hx => hp x (by simp [hx])), trodAll_below hl hb ts vs ds q ht.2 (fun x hx => hp x (by simp [hx])) h2, rfl⟩
  | [], _ :: _, _, _, _, _, h => h.elim
  | [], [], _ :: _, _, _, _, h => h.elim
  | _ :: _, [], _, _, _, _, h => h.elim
  | _ :: _, _ :: _, [], _, _, _, h => h.elim
/-- A law that returns true and leaves all that was there as it was. -/
theorem law_post {H : Type} {enc : TypeId × Value → H} {P : Program} {f : Func} {s : ChangeSpec} {apart fresh : Bool} {W W' : World} {args : Array Value} {ds : List (DataW H)} {before : List MemPlace} {tb : TypeId}
    (hl : laidOutB P = true) (ht : f.params.toList.all (fun t => P.readableRec t && decide (t < P.types.size)) = true) (hv : s.vars = []) (hr : f.resultTypes = #[tb]) (hub : P.underlying tb = some .bool)
    (hfn : s.fn H (ds ++ []) = { results := [.lit (.bool true)], args := ds }) (hW : DataW.Whole enc P f.params.toList s.vars apart W args.toList ds [] before) (hb : Below W.heap.size W W') :
    s.post enc P f apart fresh false false W args (.bool true) W' := by
  have hlt := hW.lt
  obtain ⟨p, q, hA, hV, rfl, hz, hn⟩ := hW
  have hV' := hV
  rw [hv] at hV'
  have hq : q = [] := hV'
  subst hq
  refine ⟨ds, [], _, [], p, [], ⟨p, [], hA, hV, rfl, hz, hn⟩, ?_, ?_, ?_, hb.frame _, fun h => by cases h⟩
  · rw [hfn, hr]
    exact trodAll_cons_mk (shut_bool hub _) trodAll_mk0
  · rw [hfn]
    exact trodAll_below hl hb _ _ _ _ ht (fun x hx => hlt x (by simp [hx])) hA
  · rw [hfn, hv]; rfl
end Go.Proofs.YtfbjgbecabbdnaaGreatDoor.Sl

/- Maps: ranges over them, what is deleted; made slices. -/
set_option linter.unusedVariables false
set_option linter.unusedSimpArgs false
namespace Go.Proofs.YtfbjgbecabbdnaaGreatDoor.Sl
section
variable {P : Program} {kt : TypeId} {κ : Type} {enc : κ → Value}
/-- An entry: key, value, birth. -/
structure Ey (κ : Type) where
  key : κ
  val : Value
  born : Nat
/-- Block b is a map, its entries with their births, its clock. -/
def IsMapN (h : Heap) (b : Nat) (enc : κ → Value) (l : List (Ey κ)) (cl : Nat) : Prop :=
  h b = some (.map (l.map fun e => { key := enc e.key, val := e.val, born := e.born : MapEntry }).toArray cl) ∧ (l.map (·.born)).Nodup ∧ (∀ e ∈ l, e.born < cl) ∧ (l.map (·.key)).Nodup
def unE (e : Ey κ) : κ × Value := (e.key, e.val)
theorem IsMapN.map {h : Heap} {b : Nat} {l : List (Ey κ)} {cl : Nat} (x : IsMapN h b enc l cl) : IsMap h b enc (l.map unE) ∧ Keys1 (l.map unE) := by
  obtain ⟨h1, h2, h3, h4⟩ := x
  refine ⟨⟨_, cl, h1, ?_, ?_, ?_⟩, ?_⟩
  · simp [EsRep, unE, Function.comp_def]
  · simpa [Function.comp_def] using h2
  · simpa using h3
  · simpa [Keys1, unE, Function.comp_def] using h4
theorem zipNames (enc : κ → Value) : ∀ (es : List MapEntry) (l : List (κ × Value)), EsRep enc es l → ∃ n : List (Ey κ), n.map unE = l ∧ es = n.map fun e => { key := enc e.key, val := e.val, born := e.born : MapEntry }
  | [], [], _ => ⟨[], rfl, rfl⟩
  | [], p :: l, h => by simp [EsRep] at h
  | e :: es, [], h => by simp [EsRep] at h
  | e :: es, p :: l, h => by
    simp only [EsRep, List.map_cons, List.cons.injEq, Prod.mk.injEq] at h
    obtain ⟨n, h1, h2⟩ := zipNames enc es l h.2
    refine ⟨⟨p.1, p.2, e.born⟩ :: n, by simp [unE, h1], ?_⟩
    simp only [List.map_cons, ← h2, ← h.1.1, ← h.1.2]
theorem IsMap.named {h : Heap} {b : Nat} {l : List (κ × Value)} (x : IsMap h b enc l) (n1 : Keys1 l) : ∃ n cl, n.map unE = l ∧ IsMapN h b enc n cl := by
  obtain ⟨es, cl, h1, h2, h3, h4⟩ := x.out
  obtain ⟨n, h5, h6⟩ := zipNames enc es.toList l h2
  refine ⟨n, cl, h5, ?_, ?_, ?_, ?_⟩
  · rw [h1, ← h6]
  · rw [h6] at h3; simpa [Function.comp_def] using h3
  · rw [h6] at h4; simpa using h4
  · rw [← h5] at n1; simpa [Keys1, unE, Function.comp_def] using n1
/-- Block it goes over the map b, whose clock is cl; seen: the births that it has come to. -/
def IsIter (h : Heap) (it b cl : Nat) (seen : List Nat) : Prop := h it = some (.mapIter (some b) cl seen.toArray cl)
variable {o : Oper} {ρ : Operand → Value} {h : Heap} {K' : Value → Heap → Prop}
theorem sop_alloc_at {obj : Obj} {vf : Nat → Value} (p : ∀ w, Rel h w → (execOp ρ o).run P w = .ok (.value (vf w.heap.size)) (w.alloc obj)) (k : ∀ b, h b = none → K' (vf b) (h.set b obj)) : SOp P o ρ h K' := by
  intro w r
  have hn : h w.heap.size = none := by
    cases e1 : h w.heap.size with
    | none => rfl
    | some o => have := r.lt e1; omega
  refine .inl ⟨_, _, h.set w.heap.size obj, .inl (p w r), k _ hn, ?_, ?_⟩
  · intro b o' e1
    by_cases hb : b = w.heap.size
    · subst hb; rw [Heap.set_same] at e1; cases e1; exact heap_alloc_new w _
    · rw [Heap.set_other _ _ hb] at e1
      exact (heap_alloc w _ b (r.lt e1)).trans (r b o' e1)
  · refine ⟨rfl, rfl, rfl, by rw [size_alloc]; omega, fun b hb _ => heap_alloc w _ b hb, fun b e1 e2 => ?_⟩
    by_cases hb : b = w.heap.size
    · omega
    · rw [Heap.set_other _ _ hb] at e2; exact absurd e1 e2
/-- A range over a map begins. -/
theorem s_range {t e : TypeId} {x : Operand} {b : Nat} {l : List (Ey κ)} {cl : Nat} (ho : o.op = .range t x) (ht : P.underlying t = some (.map kt e)) (hx : ρ x = .map (some b)) (hm : IsMapN h b enc l cl)
    (k : ∀ it, h it = none → K' (.pointer (some ⟨it, 0, none⟩)) (h.set it (.mapIter (some b) cl #[] cl))) : SOp P o ρ h K' := by
  refine sop_alloc_at (fun w r => ?_) k
  have hbw := r b _ hm.1
  simp [execOp, ho, Instr.range, run_underlying ht, hx, getObj, Sem.run, hbw, newObj]
theorem s_range_nil {t e : TypeId} {x : Operand} (ho : o.op = .range t x) (ht : P.underlying t = some (.map kt e)) (hx : ρ x = .map none)
    (k : ∀ it, h it = none → K' (.pointer (some ⟨it, 0, none⟩)) (h.set it (.mapIter none 0 #[] 0))) : SOp P o ρ h K' := by
  refine sop_alloc_at (fun w r => ?_) k
  simp [execOp, ho, Instr.range, run_underlying ht, hx, newObj, Sem.run]
theorem r_next_nil {x : Operand} {it : Nat} (ho : o.op = .next x false) (hx : ρ x = .pointer (some ⟨it, 0, none⟩)) (hit : h it = some (.mapIter none 0 #[] 0)) : ReadOp P o ρ h (.tuple #[.bool false]) := by
  intro w r
  have hw := r it _ hit
  simp [execOp, ho, Instr.next, hx, getObj, Sem.run, hw]
theorem run_choose_lt {n : Nat} (hn : 0 < n) (w : World) : ∃ k d, k < n ∧ ∀ (p : Program), (choose (.mapNext n)).run p w = .ok k { w with drawn := d } := by
  by_cases h1 : n ≤ 1
  · refine ⟨0, w.drawn, by omega, fun p => ?_⟩
    simp [choose, Sem.run, Question.forced, h1]
  · refine ⟨(Question.mapNext n).cut (w.tape w.drawn (.mapNext n)), w.drawn + 1, Nat.mod_lt _ hn, fun p => ?_⟩
    simp [choose, Sem.run, Question.forced, h1]
def mkE (enc : κ → Value) (e : Ey κ) : MapEntry := { key := enc e.key, val := e.val, born := e.born }
/-- What a range may come to next. -/
def candsOf (es : Array MapEntry) (since : Nat) (seen : Array Nat) : Array (Option MapEntry) :=
  let left := es.filter fun e => !seen.contains e.born
  let old := left.filter (·.born < since)
  let new := left.filter (·.born ≥ since)
  (if old.isEmpty then #[none] else #[]) ++ (old ++ new).map some
theorem cands_spec {l : List (Ey κ)} {cl : Nat} {seen : List Nat} (hlt : ∀ e ∈ l, e.born < cl) :
    0 < (candsOf (l.map (mkE enc)).toArray cl seen.toArray).size ∧ ∀ (k : Nat) (c : Option MapEntry), (candsOf (l.map (mkE enc)).toArray cl seen.toArray)[k]? = some c → (c = none ∧ ∀ e ∈ l, e.born ∈ seen) ∨ ∃ e ∈ l, e.born ∉ seen ∧ c = some (mkE enc e) := by
  have hmem : ∀ x, x ∈ (((l.map (mkE enc)).toArray.filter fun e => !seen.toArray.contains e.born).filter fun e => decide (e.born < cl)) ↔ ∃ e ∈ l, e.born ∉ seen ∧ x = mkE enc e := by
    intro x
    simp only [Array.mem_filter, List.mem_toArray, List.mem_map, Bool.not_eq_true', decide_eq_true_eq]
    constructor
    · rintro ⟨⟨⟨e, he, rfl⟩, h2⟩, h3⟩
      exact ⟨e, he, by simpa [mkE] using h2, rfl⟩
    · rintro ⟨e, he, h2, rfl⟩
      exact ⟨⟨⟨e, he, rfl⟩, by simpa [mkE] using h2⟩, hlt e he⟩
  have hnew : (((l.map (mkE enc)).toArray.filter fun e => !seen.toArray.contains e.born).filter fun e => decide (e.born ≥ cl)) = #[] := by
    rw [Array.filter_eq_empty_iff]
    intro x hx
    simp only [Array.mem_filter, List.mem_toArray, List.mem_map] at hx
    obtain ⟨⟨e, he, rfl⟩, _⟩ := hx
    have := hlt e he
    simp [mkE]; omega
  unfold candsOf
  simp only [hnew, Array.append_empty]
  generalize (((l.map (mkE enc)).toArray.filter fun e => !seen.toArray.contains e.born).filter fun e => decide (e.born < cl)) = old at hmem
  by_cases h0 : old = #[]
  · subst h0
    refine ⟨by simp, fun k c hk => .inl ?_⟩
    have hc : c = none := by
      have := Array.mem_of_getElem? hk
      simpa using this
    refine ⟨hc, fun e he => ?_⟩
    by_cases hs : e.born ∈ seen
    · exact hs
    · have := (hmem (mkE enc e)).2 ⟨e, he, hs, rfl⟩
      simp at this
  · have hne : old.isEmpty = false := by simpa using h0
    rw [hne]
    refine ⟨by simpa using Array.size_pos_iff.2 h0, fun k c hk => .inr ?_⟩
    have := Array.mem_of_getElem? hk
    simp only [Bool.false_eq_true, if_false, Array.empty_append, Array.mem_map] at this
    obtain ⟨x, hx, rfl⟩ := this
    obtain ⟨e, he, h2, rfl⟩ := (hmem x).1 hx
    exact ⟨e, he, h2, rfl⟩
def noRow : Obj → Bool
  | .cells .. => false
  | _ => true
theorem run_getO {w : World} {b : Nat} {x : Obj} (h : w.heap[b]? = some x) (hc : noRow x = true := by rfl) : (getObj b).run P w = .ok x w := by
  cases x <;> first | (cases hc; done) | simp [getObj, Sem.run, h]
theorem run_setO {w : World} {b : Nat} {x y : Obj} (h : w.heap[b]? = some x) (hc : noRow x = true := by rfl) : (setObj b y).run P w = .ok () { w with heap := w.heap.setIfInBounds b y } := by
  cases x <;> first | (cases hc; done) | simp [setObj, Sem.run, h]
/-- The next entry, or none is left. -/
theorem s_next {x : Operand} {it b cl : Nat} {seen : List Nat} {l : List (Ey κ)} (ho : o.op = .next x false) (hx : ρ x = .pointer (some ⟨it, 0, none⟩)) (hit : IsIter h it b cl seen) (hm : IsMapN h b enc l cl)
    (over : (∀ e ∈ l, e.born ∈ seen) → K' (.tuple #[.bool false]) h)
    (step : ∀ e, e ∈ l → e.born ∉ seen → K' (.tuple #[.bool true, enc e.key, e.val]) (h.set it (.mapIter (some b) cl (seen ++ [e.born]).toArray cl))) : SOp P o ρ h K' := by
  intro w r
  have hiw : w.heap[it]? = some (.mapIter (some b) cl seen.toArray cl) := r it _ hit
  have hbw : w.heap[b]? = some (.map (l.map (mkE enc)).toArray cl) := r b _ hm.1
  obtain ⟨hpos, hc⟩ := cands_spec (enc := enc) (l := l) (cl := cl) (seen := seen) hm.2.2.1
  obtain ⟨k, d, hk, hrun⟩ := run_choose_lt hpos w
  have hrun := hrun P
  have hun : (!seen.toArray.isEmpty && !(l.map (mkE enc)).toArray.isEmpty && (l.map (mkE enc)).toArray.all (fun e => decide (e.born ≥ cl))) = false := by
    cases hl : l with
    | nil => simp
    | cons e l' =>
      have h1 : e.born < cl := hm.2.2.1 e (by rw [hl]; simp)
      have h2 : ((e :: l').map (mkE enc)).toArray.all (fun e => decide (e.born ≥ cl)) = false := by
        simp only [List.all_toArray, List.map_cons, List.all_cons, mkE]
        rw [decide_eq_false (by omega)]; rfl
      rw [h2]; simp
  have hck : (candsOf (l.map (mkE enc)).toArray cl seen.toArray)[k]? = some ((candsOf (l.map (mkE enc)).toArray cl seen.toArray)[k]) := Array.getElem?_eq_getElem hk
  rcases hc k _ hck with ⟨h1, h2⟩ | ⟨e, he, h2, h1⟩
  · refine .inl ⟨_, { w with drawn := d }, h, .inl ?_, over h2, r, ⟨rfl, rfl, rfl, Nat.le_refl _, fun _ _ _ => rfl, fun b e1 e2 => absurd e1 e2⟩⟩
    rw [h1] at hck
    have hck' := hck
    unfold candsOf at hck' hrun
    dsimp only at hck' hrun
    simp only [execOp, ho, Instr.next, hx, Sem.run_bind, run_getO hiw, Result.andThen_ok, run_getO hbw, hun, Bool.false_eq_true, if_false, hrun, hck', Sem.run_pure]
  · rw [h1] at hck
    have hck' := hck
    unfold candsOf at hck' hrun
    dsimp only at hck' hrun
    refine .inl ⟨_, { w with drawn := d, heap := w.heap.setIfInBounds it (.mapIter (some b) cl (seen ++ [e.born]).toArray cl) }, _, .inl ?_, step e he h2, ?_, ?_⟩
    · have hs : (seen.toArray.push (mkE enc e).born) = (seen ++ [e.born]).toArray := by simp [mkE]
      simp only [execOp, ho, Instr.next, hx, Sem.run_bind, run_getO hiw, Result.andThen_ok, run_getO hbw, hun, Bool.false_eq_true, if_false, hrun, hck', run_setO (P := P) (w := { w with drawn := d }) hiw, Sem.run_pure, hs]
      rfl
    · exact Rel.setObj (w := { w with drawn := d }) r hit
    · have := Step.setObj (w := { w with drawn := d }) (o' := .mapIter (some b) cl (seen ++ [e.born]).toArray cl) hit
      exact ⟨this.os, this.tape, this.output, this.size, this.keep, this.fresh⟩
theorem rep_N (l : List (Ey κ)) : EsRep enc (l.map (mkE enc)) (l.map unE) := by simp [EsRep, mkE, unE, Function.comp_def]
theorem map_eraseIdx {α β : Type} (f : α → β) : ∀ (l : List α) (j : Nat), (l.map f).eraseIdx j = (l.eraseIdx j).map f
  | [], j => by simp
  | a :: l, 0 => by simp
  | a :: l, j + 1 => by simp [map_eraseIdx f l j]
theorem find_born {l : List (Ey κ)} (nd : (l.map (·.born)).Nodup) {e : Ey κ} (he : e ∈ l) : (l.map (mkE enc)).find? (fun x => x.born == e.born) = some (mkE enc e) := by
  induction l with
  | nil => cases he
  | cons a l ih =>
    simp only [List.map_cons, List.nodup_cons] at nd
    rcases List.mem_cons.1 he with rfl | he
    · simp [mkE]
    · have hne : a.born ≠ e.born := fun e1 => nd.1 (e1 ▸ List.mem_map.2 ⟨e, he, rfl⟩)
      rw [List.map_cons, List.find?_cons_of_neg (by simpa [mkE] using hne)]
      exact ih nd.2 he
/-- The entry that a range stands at, read once more. -/
theorem r_entry {x : Operand} {it b cl β : Nat} {seen : List Nat} {l : List (Ey κ)} {e : Ey κ} (ho : o.op = .entry x) (hx : ρ x = .pointer (some ⟨it, 0, none⟩)) (hit : IsIter h it b cl (seen ++ [β])) (hm : IsMapN h b enc l cl) (he : e ∈ l) (hb : e.born = β) :
    ReadOp P o ρ h (.tuple #[enc e.key, e.val]) := by
  subst hb
  intro w r
  have hiw : w.heap[it]? = some (.mapIter (some b) cl (seen ++ [e.born]).toArray cl) := r it _ hit
  have hbw : w.heap[b]? = some (.map (l.map (mkE enc)).toArray cl) := r b _ hm.1
  have hf : (l.map (mkE enc)).toArray.find? (fun x => x.born == e.born) = some (mkE enc e) := by
    rw [List.find?_toArray]; exact find_born hm.2.1 he
  have hbk : (seen ++ [e.born]).toArray.back? = some e.born := by simp
  simp only [execOp, ho, Instr.entry, hx, Sem.run_bind, run_getO hiw, Result.andThen_ok, hbk, run_getO hbw, bne_self_eq_false, Bool.false_eq_true, if_false, hf, Sem.run_pure]
  rfl
end
section
variable {P : Program} {kt : TypeId} {κ : Type} [DecidableEq κ] {enc : κ → Value}
variable {o : Oper} {ρ : Operand → Value} {h : Heap} {K' : Value → Heap → Prop}
def delN (l : List (Ey κ)) (k : κ) : List (Ey κ) := l.filter fun e => !decide (e.key = k)
def setN (l : List (Ey κ)) (k : κ) (v : Value) : List (Ey κ) := l.map fun e => if e.key = k then { e with val := v } else e
theorem delN_idx {k : κ} : ∀ {l : List (Ey κ)} {j : Nat} {e : Ey κ}, (l.map (·.key)).Nodup → l[j]? = some e → e.key = k → l.eraseIdx j = delN l k
  | [], j, e, _, h, _ => by simp at h
  | a :: l, 0, e, nd, h, hk => by
    simp only [List.getElem?_cons_zero, Option.some.injEq] at h
    subst h
    simp only [List.map_cons, List.nodup_cons] at nd
    have : delN l k = l := by
      unfold delN
      rw [List.filter_eq_self]
      intro x hx
      have : x.key ≠ k := fun e1 => nd.1 (by rw [hk, ← e1]; exact List.mem_map.2 ⟨x, hx, rfl⟩)
      simpa using this
    unfold delN at this ⊢
    simp [hk, this]
  | a :: l, j + 1, e, nd, h, hk => by
    simp only [List.map_cons, List.nodup_cons] at nd
    have h' : l[j]? = some e := by simpa using h
    have hne : a.key ≠ k := fun e1 => nd.1 (by rw [e1, ← hk]; exact List.mem_map.2 ⟨e, List.mem_of_getElem? h', rfl⟩)
    have ih := delN_idx nd.2 h' hk
    unfold delN at ih ⊢
    simp [hne, ih]
theorem setN_idx {k : κ} {v : Value} : ∀ {l : List (Ey κ)} {j : Nat} {e : Ey κ}, (l.map (·.key)).Nodup → l[j]? = some e → e.key = k → (l.map (mkE enc)).modify j (fun x => { x with key := enc k, val := v }) = (setN l k v).map (mkE enc)
  | [], j, e, _, h, _ => by simp at h
  | a :: l, 0, e, nd, h, hk => by
    simp only [List.getElem?_cons_zero, Option.some.injEq] at h
    subst h
    simp only [List.map_cons, List.nodup_cons] at nd
    have : setN l k v = l := by
      unfold setN
      have : ∀ x ∈ l, (if x.key = k then { x with val := v } else x) = x := by
        intro x hx
        have : x.key ≠ k := fun e1 => nd.1 (by rw [hk, ← e1]; exact List.mem_map.2 ⟨x, hx, rfl⟩)
        rw [if_neg this]
      exact (List.map_congr_left this).trans (List.map_id' l)
    unfold setN at this ⊢
    simp [hk, this, mkE]
  | a :: l, j + 1, e, nd, h, hk => by
    simp only [List.map_cons, List.nodup_cons] at nd
    have h' : l[j]? = some e := by simpa using h
    have hne : a.key ≠ k := fun e1 => nd.1 (by rw [e1, ← hk]; exact List.mem_map.2 ⟨e, List.mem_of_getElem? h', rfl⟩)
    have ih := setN_idx (v := v) nd.2 h' hk
    unfold setN at ih ⊢
    simp [hne, ih]
theorem findK_N {k : κ} {l : List (Ey κ)} {j : Nat} {v : Value} (h : findK k (l.map unE) 0 = some (j, v)) : ∃ e, l[j]? = some e ∧ e.key = k ∧ e.val = v := by
  obtain ⟨m, hm, hl⟩ := findK_some k _ 0 j v h
  have : j = m := by omega
  subst this
  rw [List.getElem?_map, Option.map_eq_some_iff] at hl
  obtain ⟨e, he, h2⟩ := hl
  exact ⟨e, he, congrArg Prod.fst h2, congrArg Prod.snd h2⟩
theorem findK_N0 {k : κ} {l : List (Ey κ)} (h : findK k (l.map unE) 0 = none) : ∀ e ∈ l, e.key ≠ k := by
  intro e he e1
  have := (findK_none k _ 0).1 h
  unfold hasK at this
  rw [List.any_eq_false] at this
  exact this (unE e) (List.mem_map.2 ⟨e, he, rfl⟩) (by simp [unE, e1])
theorem delN_map {l : List (Ey κ)} {h : Heap} {b cl : Nat} {k : κ} (x : IsMapN h b enc l cl) : IsMapN (h.set b (.map ((delN l k).map (mkE enc)).toArray cl)) b enc (delN l k) cl := by
  obtain ⟨h1, h2, h3, h4⟩ := x
  refine ⟨Heap.set_same _ _ _, ?_, fun e he => h3 e (List.mem_filter.1 he).1, ?_⟩
  · exact List.Nodup.sublist (List.Sublist.map _ List.filter_sublist) h2
  · exact List.Nodup.sublist (List.Sublist.map _ List.filter_sublist) h4
theorem setN_born (l : List (Ey κ)) (k : κ) (v : Value) : (setN l k v).map (·.born) = l.map (·.born) := by
  unfold setN; rw [List.map_map]; apply List.map_congr_left; intro e _; simp only [Function.comp]; split <;> rfl
theorem setN_key (l : List (Ey κ)) (k : κ) (v : Value) : (setN l k v).map (·.key) = l.map (·.key) := by
  unfold setN; rw [List.map_map]; apply List.map_congr_left; intro e _; simp only [Function.comp]; split <;> rfl
theorem setN_map {l : List (Ey κ)} {h : Heap} {b cl : Nat} {k : κ} {v : Value} (x : IsMapN h b enc l cl) : IsMapN (h.set b (.map ((setN l k v).map (mkE enc)).toArray cl)) b enc (setN l k v) cl := by
  obtain ⟨h1, h2, h3, h4⟩ := x
  refine ⟨Heap.set_same _ _ _, by rw [setN_born]; exact h2, fun e he => ?_, by rw [setN_key]; exact h4⟩
  have : e.born ∈ (setN l k v).map (·.born) := List.mem_map.2 ⟨e, he, rfl⟩
  rw [setN_born] at this
  obtain ⟨e', he', h5⟩ := List.mem_map.1 this
  rw [← h5]; exact h3 e' he'
/-- 'delete(m, k)'. -/
theorem s_delete (K : KeyLaw P kt enc) {t tk et : TypeId} {m x : Operand} {b cl : Nat} {l : List (Ey κ)} {k : κ} {d : TypeDesc} (ho : o.op = .call ⟨.builtin .delete, #[m, x], #[t, tk]⟩) (ht : P.underlying t = some (.map kt et)) (hk : P.underlying kt = some d)
    (hm : ρ m = .map (some b)) (hx : ρ x = enc k) (im : IsMapN h b enc l cl) (kk : K' (.tuple #[]) (h.set b (.map ((delN l k).map (mkE enc)).toArray cl))) : SOp P o ρ h K' := by
  intro w r
  have hbw : w.heap[b]? = some (.map (l.map (mkE enc)).toArray cl) := r b _ im.1
  have hf := run_findKey K hk k w (l.map (mkE enc)) (l.map unE) (rep_N l)
  refine .inl ⟨_, _, _, .inl ?_, kk, r.setObj im.1, Step.setObj im.1⟩
  cases hfk : findK k (l.map unE) 0 with
  | none =>
    have hd : delN l k = l := by
      unfold delN; rw [List.filter_eq_self]; intro e he; simpa using findK_N0 hfk e he
    simp only [execOp, ho, resolve, Sem.run_bind, Sem.run_pure, Result.andThen_ok, invoke, builtin, Builtin.delete_]
    simp [run_underlying ht, hm, hx, run_getO hbw, K.check, hf, hfk, run_setO hbw, hd]
  | some p =>
    obtain ⟨j, v⟩ := p
    obtain ⟨e, he, h2, h3⟩ := findK_N hfk
    have hd : (l.map (mkE enc)).eraseIdx j = (delN l k).map (mkE enc) := by rw [← delN_idx im.2.2.2 he h2, map_eraseIdx]
    simp only [execOp, ho, resolve, Sem.run_bind, Sem.run_pure, Result.andThen_ok, invoke, builtin, Builtin.delete_]
    simp [run_underlying ht, hm, hx, run_getO hbw, K.check, hf, hfk, run_setO hbw, hd]
/-- 'm[k] = v' where there is an entry. -/
theorem s_mapUpdateN (K : KeyLaw P kt enc) {t et : TypeId} {m x y : Operand} {b cl : Nat} {l : List (Ey κ)} {k : κ} {d : TypeDesc} {v : Value} (ho : o.op = .mapUpdate t m x y) (ht : P.underlying t = some (.map kt et)) (hk : P.underlying kt = some d)
    (hm : ρ m = .map (some b)) (hx : ρ x = enc k) (hy : ρ y = v) (im : IsMapN h b enc l cl) (hin : ∃ e ∈ l, e.key = k) (kk : K' undef (h.set b (.map ((setN l k v).map (mkE enc)).toArray cl))) : SOp P o ρ h K' := by
  intro w r
  have hbw : w.heap[b]? = some (.map (l.map (mkE enc)).toArray cl) := r b _ im.1
  have hf := run_findKey K hk k w (l.map (mkE enc)) (l.map unE) (rep_N l)
  refine .inl ⟨_, _, _, .inr ⟨rfl, ?_⟩, kk, r.setObj im.1, Step.setObj im.1⟩
  cases hfk : findK k (l.map unE) 0 with
  | none => obtain ⟨e, he, h1⟩ := hin; exact absurd h1 (findK_N0 hfk e he)
  | some p =>
    obtain ⟨j, v0⟩ := p
    obtain ⟨e, he, h2, h3⟩ := findK_N hfk
    have hd := setN_idx (enc := enc) (v := v) im.2.2.2 he h2
    have hd' : (l.map (mkE enc)).toArray.modify j (fun x => { x with key := enc k, val := v }) = ((setN l k v).map (mkE enc)).toArray := by rw [← hd]; simp
    have hej : ((l.map (mkE enc)).toArray)[j]? = some (mkE enc e) := by simp [he]
    simp only [execOp, ho, Instr.mapUpdate, Sem.run_bind, run_underlying ht, Result.andThen_ok, hm, hx, hy, run_getO hbw, K.check, hf, hfk, hej]
    simp [Instr.keyThatStays, mkE, h2, K.bits, run_setO hbw]
    rw [hd]
end
theorem genHQ {J : Tm → Heap → Prop} {T : Tm} {h : Heap} (H : ∀ h', h' = h → J T h') : J T h := H h rfl
theorem genH {P : Program} {N : Nat} {Q : Exit → Tm → Heap → Prop} {c : Code} {T : Tm} {h : Heap} (H : ∀ h', h' = h → SCode P N c Q T h') : SCode P N c Q T h := H h rfl
end Go.Proofs.YtfbjgbecabbdnaaGreatDoor.Sl
