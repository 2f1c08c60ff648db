import Derived.Test.YtihdpjinaafenaaGreatDoorNb3
noncomputable section
/- Maps: ranges over them, what is deleted; made slices. -/
set_option linter.unusedVariables false
set_option linter.unusedSimpArgs false
namespace Go.Proofs.YtihdpjinaafenaaGreatDoor.Sl
section
variable {P : Program} {kt : TypeId} {κ : Type} {enc : κ → Value}
structure Ey (κ:Type) where
 key:κ
 val:Value
 born:Nat
def IsMapN (h:Heap) (b:Nat) (enc:κ → Value) (l:List (Ey κ)) (cl:Nat):Prop :=
 h b = some (.map (l.map fun e=>{ key:=enc e.key,val:=e.val,born:=e.born:MapEntry }).toArray cl) ∧ (l.map (·.born)).Nodup ∧ (∀ e ∈ l,e.born < cl) ∧ (l.map (·.key)).Nodup
def unE (e:Ey κ):κ × Value:=(e.key,e.val)
theorem IsMapN.map {h:Heap} {b:Nat} {l:List (Ey κ)} {cl:Nat} (x:IsMapN h b enc l cl):IsMap h b enc (l.map unE) ∧ Keys1 (l.map unE):=by
 obtain ⟨h1,h2,h3,h4⟩:=x
 refine ⟨⟨_,cl,h1,?_,?_,?_⟩,?_⟩
 ·simp [EsRep,unE,Function.comp_def]
 ·simpa [Function.comp_def] using h2
 ·simpa using h3
 ·simpa [Keys1,unE,Function.comp_def] using h4
theorem zipNames (enc:κ → Value):∀ (es:List MapEntry) (l:List (κ × Value)),EsRep enc es l → ∃ n:List (Ey κ),n.map unE = l ∧ es = n.map fun e=>{ key:=enc e.key,val:=e.val,born:=e.born:MapEntry }
 | [],[],_=>⟨[],rfl,rfl⟩
 | [],p :: l,h=>by simp [EsRep] at h
 | e :: es,[],h=>by simp [EsRep] at h
 | e :: es,p :: l,h=>by
  simp only [EsRep,List.map_cons,List.cons.injEq,Prod.mk.injEq] at h
  obtain ⟨n,h1,h2⟩:=zipNames enc es l h.2
  refine ⟨⟨p.1,p.2,e.born⟩ :: n,by simp [unE,h1],?_⟩
  simp only [List.map_cons,← h2,← h.1.1,← h.1.2]
theorem IsMap.named {h:Heap} {b:Nat} {l:List (κ × Value)} (x:IsMap h b enc l) (n1:Keys1 l):∃ n cl,n.map unE = l ∧ IsMapN h b enc n cl:=by
 obtain ⟨es,cl,h1,h2,h3,h4⟩:=x.out
 obtain ⟨n,h5,h6⟩:=zipNames enc es.toList l h2
 refine ⟨n,cl,h5,?_,?_,?_,?_⟩
 ·rw [h1,← h6]
 ·rw [h6] at h3; simpa [Function.comp_def] using h3
 ·rw [h6] at h4; simpa using h4
 ·rw [← h5] at n1; simpa [Keys1,unE,Function.comp_def] using n1
def IsIter (h:Heap) (it b cl:Nat) (seen:List Nat):Prop:=h it = some (.mapIter (some b) cl seen.toArray cl)
variable {o : Oper} {ρ : Operand → Value} {h : Heap} {K' : Value → Heap → Prop}
theorem sop_alloc_at {obj:Obj} {vf:Nat → Value} (p:∀ w,Rel h w → (execOp ρ o).run P w = .ok (.value (vf w.heap.size)) (w.alloc obj)) (k:∀ b,h b = none → K' (vf b) (h.set b obj)):SOp P o ρ h K':=by
 intro w r
 have hn:h w.heap.size = none:=by
  cases e1:h w.heap.size with
  | none=>rfl
  | some o=>have:=r.lt e1; omega
 refine .inl ⟨_,_,h.set w.heap.size obj,.inl (p w r),k _ hn,?_,?_⟩
 ·intro b o' e1
  by_cases hb:b = w.heap.size
  ·subst hb; rw [Heap.set_same] at e1; cases e1; exact heap_alloc_new w _
  ·rw [Heap.set_other _ _ hb] at e1
   exact (heap_alloc w _ b (r.lt e1)).trans (r b o' e1)
 ·refine ⟨rfl,rfl,rfl,by rw [size_alloc]; omega,fun b hb _=>heap_alloc w _ b hb,fun b e1 e2=>?_⟩
  by_cases hb:b = w.heap.size
  ·omega
  ·rw [Heap.set_other _ _ hb] at e2; exact absurd e1 e2
theorem s_range {t e:TypeId} {x:Operand} {b:Nat} {l:List (Ey κ)} {cl:Nat} (ho:o.op = .range t x) (ht:P.underlying t = some (.map kt e)) (hx:ρ x = .map (some b)) (hm:IsMapN h b enc l cl)
  (k:∀ it,h it = none → K' (.pointer (some ⟨it,0,none⟩)) (h.set it (.mapIter (some b) cl #[] cl))):SOp P o ρ h K':=by
 refine sop_alloc_at (fun w r=>?_) k
 have hbw:=r b _ hm.1
 simp [execOp,ho,Instr.range,run_underlying ht,hx,getObj,Sem.run,hbw,newObj]
theorem s_range_nil {t e:TypeId} {x:Operand} (ho:o.op = .range t x) (ht:P.underlying t = some (.map kt e)) (hx:ρ x = .map none)
  (k:∀ it,h it = none → K' (.pointer (some ⟨it,0,none⟩)) (h.set it (.mapIter none 0 #[] 0))):SOp P o ρ h K':=by
 refine sop_alloc_at (fun w r=>?_) k
 simp [execOp,ho,Instr.range,run_underlying ht,hx,newObj,Sem.run]
theorem r_next_nil {x:Operand} {it:Nat} (ho:o.op = .next x false) (hx:ρ x = .pointer (some ⟨it,0,none⟩)) (hit:h it = some (.mapIter none 0 #[] 0)):ReadOp P o ρ h (.tuple #[.bool false]):=by
 intro w r
 have hw:=r it _ hit
 simp [execOp,ho,Instr.next,hx,getObj,Sem.run,hw]
theorem run_choose_lt {n:Nat} (hn:0 < n) (w:World):∃ k d,k < n ∧ ∀ (p:Program),(choose (.mapNext n)).run p w = .ok k { w with drawn:=d }:=by
 by_cases h1:n ≤ 1
 ·refine ⟨0,w.drawn,by omega,fun p=>?_⟩
  simp [choose,Sem.run,Question.forced,h1]
 ·refine ⟨(Question.mapNext n).cut (w.tape w.drawn (.mapNext n)),w.drawn + 1,Nat.mod_lt _ hn,fun p=>?_⟩
  simp [choose,Sem.run,Question.forced,h1]
def mkE (enc:κ → Value) (e:Ey κ):MapEntry:={ key:=enc e.key,val:=e.val,born:=e.born }
def candsOf (es:Array MapEntry) (since:Nat) (seen:Array Nat):Array (Option MapEntry) :=
 let left:=es.filter fun e=>!seen.contains e.born
 let old:=left.filter (·.born < since)
 let new:=left.filter (·.born ≥ since)
 (if old.isEmpty then #[none] else #[]) ++ (old ++ new).map some
theorem cands_spec {l:List (Ey κ)} {cl:Nat} {seen:List Nat} (hlt:∀ e ∈ l,e.born < cl) :
  0 < (candsOf (l.map (mkE enc)).toArray cl seen.toArray).size ∧ ∀ (k:Nat) (c:Option MapEntry),(candsOf (l.map (mkE enc)).toArray cl seen.toArray)[k]? = some c → (c = none ∧ ∀ e ∈ l,e.born ∈ seen) ∨ ∃ e ∈ l,e.born ∉ seen ∧ c = some (mkE enc e):=by
 have hmem:∀ x,x ∈ (((l.map (mkE enc)).toArray.filter fun e=>!seen.toArray.contains e.born).filter fun e=>decide (e.born < cl)) ↔ ∃ e ∈ l,e.born ∉ seen ∧ x = mkE enc e:=by
  intro x
  simp only [Array.mem_filter,List.mem_toArray,List.mem_map,Bool.not_eq_true',decide_eq_true_eq]
  constructor
  ·rintro ⟨⟨⟨e,he,rfl⟩,h2⟩,h3⟩
   exact ⟨e,he,by simpa [mkE] using h2,rfl⟩
  ·rintro ⟨e,he,h2,rfl⟩
   exact ⟨⟨⟨e,he,rfl⟩,by simpa [mkE] using h2⟩,hlt e he⟩
 have hnew:(((l.map (mkE enc)).toArray.filter fun e=>!seen.toArray.contains e.born).filter fun e=>decide (e.born ≥ cl)) = #[]:=by
  rw [Array.filter_eq_empty_iff]
  intro x hx
  simp only [Array.mem_filter,List.mem_toArray,List.mem_map] at hx
  obtain ⟨⟨e,he,rfl⟩,_⟩:=hx
  have:=hlt e he
  simp [mkE]; omega
 unfold candsOf
 simp only [hnew,Array.append_empty]
 generalize (((l.map (mkE enc)).toArray.filter fun e=>!seen.toArray.contains e.born).filter fun e=>decide (e.born < cl)) = old at hmem
 by_cases h0:old = #[]
 ·subst h0
  refine ⟨by simp,fun k c hk=>.inl ?_⟩
  have hc:c = none:=by
   have:=Array.mem_of_getElem? hk
   simpa using this
  refine ⟨hc,fun e he=>?_⟩
  by_cases hs:e.born ∈ seen
  ·exact hs
  ·have:=(hmem (mkE enc e)).2 ⟨e,he,hs,rfl⟩
   simp at this
 ·have hne:old.isEmpty = false:=by simpa using h0
  rw [hne]
  refine ⟨by simpa using Array.size_pos_iff.2 h0,fun k c hk=>.inr ?_⟩
  have:=Array.mem_of_getElem? hk
  simp only [Bool.false_eq_true,if_false,Array.empty_append,Array.mem_map] at this
  obtain ⟨x,hx,rfl⟩:=this
  obtain ⟨e,he,h2,rfl⟩:=(hmem x).1 hx
  exact ⟨e,he,h2,rfl⟩
def noRow:Obj → Bool
 | .cells ..=>false
 | _=>true
theorem run_getO {w:World} {b:Nat} {x:Obj} (h:w.heap[b]? = some x) (hc:noRow x = true:=by rfl):(getObj b).run P w = .ok x w:=by
 cases x <;> first | (cases hc; done) | simp [getObj,Sem.run,h]
theorem run_setO {w:World} {b:Nat} {x y:Obj} (h:w.heap[b]? = some x) (hc:noRow x = true:=by rfl):(setObj b y).run P w = .ok () { w with heap:=w.heap.setIfInBounds b y }:=by
 cases x <;> first | (cases hc; done) | simp [setObj,Sem.run,h]
theorem s_next {x:Operand} {it b cl:Nat} {seen:List Nat} {l:List (Ey κ)} (ho:o.op = .next x false) (hx:ρ x = .pointer (some ⟨it,0,none⟩)) (hit:IsIter h it b cl seen) (hm:IsMapN h b enc l cl)
  (over:(∀ e ∈ l,e.born ∈ seen) → K' (.tuple #[.bool false]) h)
  (step:∀ e,e ∈ l → e.born ∉ seen → K' (.tuple #[.bool true,enc e.key,e.val]) (h.set it (.mapIter (some b) cl (seen ++ [e.born]).toArray cl))):SOp P o ρ h K':=by
 intro w r
 have hiw:w.heap[it]? = some (.mapIter (some b) cl seen.toArray cl):=r it _ hit
 have hbw:w.heap[b]? = some (.map (l.map (mkE enc)).toArray cl):=r b _ hm.1
 obtain ⟨hpos,hc⟩:=cands_spec (enc:=enc) (l:=l) (cl:=cl) (seen:=seen) hm.2.2.1
 obtain ⟨k,d,hk,hrun⟩:=run_choose_lt hpos w
 have hrun:=hrun P
 have hun:(!seen.toArray.isEmpty && !(l.map (mkE enc)).toArray.isEmpty && (l.map (mkE enc)).toArray.all (fun e=>decide (e.born ≥ cl))) = false:=by
  cases hl:l with
  | nil=>simp
  | cons e l' =>
   have h1:e.born < cl:=hm.2.2.1 e (by rw [hl]; simp)
   have h2:((e :: l').map (mkE enc)).toArray.all (fun e=>decide (e.born ≥ cl)) = false:=by
    simp only [List.all_toArray,List.map_cons,List.all_cons,mkE]
    rw [decide_eq_false (by omega)]; rfl
   rw [h2]; simp
 have hck:(candsOf (l.map (mkE enc)).toArray cl seen.toArray)[k]? = some ((candsOf (l.map (mkE enc)).toArray cl seen.toArray)[k]):=Array.getElem?_eq_getElem hk
 rcases hc k _ hck with ⟨h1,h2⟩ | ⟨e,he,h2,h1⟩
 ·refine .inl ⟨_,{ w with drawn:=d },h,.inl ?_,over h2,r,⟨rfl,rfl,rfl,Nat.le_refl _,fun _ _ _=>rfl,fun b e1 e2=>absurd e1 e2⟩⟩
  rw [h1] at hck
  have hck':=hck
  unfold candsOf at hck' hrun
  dsimp only at hck' hrun
  simp only [execOp,ho,Instr.next,hx,Sem.run_bind,run_getO hiw,Result.andThen_ok,run_getO hbw,hun,Bool.false_eq_true,if_false,hrun,hck',Sem.run_pure]
 ·rw [h1] at hck
  have hck':=hck
  unfold candsOf at hck' hrun
  dsimp only at hck' hrun
  refine .inl ⟨_,{ w with drawn:=d,heap:=w.heap.setIfInBounds it (.mapIter (some b) cl (seen ++ [e.born]).toArray cl) },_,.inl ?_,step e he h2,?_,?_⟩
  ·have hs:(seen.toArray.push (mkE enc e).born) = (seen ++ [e.born]).toArray:=by simp [mkE]
   simp only [execOp,ho,Instr.next,hx,Sem.run_bind,run_getO hiw,Result.andThen_ok,run_getO hbw,hun,Bool.false_eq_true,if_false,hrun,hck',run_setO (P:=P) (w:={ w with drawn:=d }) hiw,Sem.run_pure,hs]
   rfl
  ·exact Rel.setObj (w:={ w with drawn:=d }) r hit
  ·have:=Step.setObj (w:={ w with drawn:=d }) (o':=.mapIter (some b) cl (seen ++ [e.born]).toArray cl) hit
   exact ⟨this.os,this.tape,this.output,this.size,this.keep,this.fresh⟩
theorem rep_N (l:List (Ey κ)):EsRep enc (l.map (mkE enc)) (l.map unE):=by simp [EsRep,mkE,unE,Function.comp_def]
theorem map_eraseIdx {α β:Type} (f:α → β):∀ (l:List α) (j:Nat),(l.map f).eraseIdx j = (l.eraseIdx j).map f
 | [],j=>by simp
 | a :: l,0=>by simp
 | a :: l,j + 1=>by simp [map_eraseIdx f l j]
theorem find_born {l:List (Ey κ)} (nd:(l.map (·.born)).Nodup) {e:Ey κ} (he:e ∈ l):(l.map (mkE enc)).find? (fun x=>x.born == e.born) = some (mkE enc e):=by
 induction l with
 | nil=>cases he
 | cons a l ih =>
  simp only [List.map_cons,List.nodup_cons] at nd
  rcases List.mem_cons.1 he with rfl | he
  ·simp [mkE]
  ·have hne:a.born ≠ e.born:=fun e1=>nd.1 (e1 ▸ List.mem_map.2 ⟨e,he,rfl⟩)
   rw [List.map_cons,List.find?_cons_of_neg (by simpa [mkE] using hne)]
   exact ih nd.2 he
theorem r_entry {x:Operand} {it b cl β:Nat} {seen:List Nat} {l:List (Ey κ)} {e:Ey κ} (ho:o.op = .entry x) (hx:ρ x = .pointer (some ⟨it,0,none⟩)) (hit:IsIter h it b cl (seen ++ [β])) (hm:IsMapN h b enc l cl) (he:e ∈ l) (hb:e.born = β) :
  ReadOp P o ρ h (.tuple #[enc e.key,e.val]):=by
 subst hb
 intro w r
 have hiw:w.heap[it]? = some (.mapIter (some b) cl (seen ++ [e.born]).toArray cl):=r it _ hit
 have hbw:w.heap[b]? = some (.map (l.map (mkE enc)).toArray cl):=r b _ hm.1
 have hf:(l.map (mkE enc)).toArray.find? (fun x=>x.born == e.born) = some (mkE enc e):=by
  rw [List.find?_toArray]; exact find_born hm.2.1 he
 have hbk:(seen ++ [e.born]).toArray.back? = some e.born:=by simp
 simp only [execOp,ho,Instr.entry,hx,Sem.run_bind,run_getO hiw,Result.andThen_ok,hbk,run_getO hbw,bne_self_eq_false,Bool.false_eq_true,if_false,hf,Sem.run_pure]
 rfl
end
section
variable {P : Program} {kt : TypeId} {κ : Type} [DecidableEq κ] {enc : κ → Value}
variable {o : Oper} {ρ : Operand → Value} {h : Heap} {K' : Value → Heap → Prop}
def delN (l:List (Ey κ)) (k:κ):List (Ey κ):=l.filter fun e=>!decide (e.key = k)
def setN (l:List (Ey κ)) (k:κ) (v:Value):List (Ey κ):=l.map fun e=>if e.key = k then { e with val:=v } else e
theorem delN_idx {k:κ}:∀ {l:List (Ey κ)} {j:Nat} {e:Ey κ},(l.map (·.key)).Nodup → l[j]? = some e → e.key = k → l.eraseIdx j = delN l k
 | [],j,e,_,h,_=>by simp at h
 | a :: l,0,e,nd,h,hk=>by
  simp only [List.getElem?_cons_zero,Option.some.injEq] at h
  subst h
  simp only [List.map_cons,List.nodup_cons] at nd
  have:delN l k = l:=by
   unfold delN
   rw [List.filter_eq_self]
   intro x hx
   have:x.key ≠ k:=fun e1=>nd.1 (by rw [hk,← e1]; exact List.mem_map.2 ⟨x,hx,rfl⟩)
   simpa using this
  unfold delN at this ⊢
  simp [hk,this]
 | a :: l,j + 1,e,nd,h,hk=>by
  simp only [List.map_cons,List.nodup_cons] at nd
  have h':l[j]? = some e:=by simpa using h
  have hne:a.key ≠ k:=fun e1=>nd.1 (by rw [e1,← hk]; exact List.mem_map.2 ⟨e,List.mem_of_getElem? h',rfl⟩)
  have ih:=delN_idx nd.2 h' hk
  unfold delN at ih ⊢
  simp [hne,ih]
theorem setN_idx {k:κ} {v:Value}:∀ {l:List (Ey κ)} {j:Nat} {e:Ey κ},(l.map (·.key)).Nodup → l[j]? = some e → e.key = k → (l.map (mkE enc)).modify j (fun x=>{ x with key:=enc k,val:=v }) = (setN l k v).map (mkE enc)
 | [],j,e,_,h,_=>by simp at h
 | a :: l,0,e,nd,h,hk=>by
  simp only [List.getElem?_cons_zero,Option.some.injEq] at h
  subst h
  simp only [List.map_cons,List.nodup_cons] at nd
  have:setN l k v = l:=by
   unfold setN
   have:∀ x ∈ l,(if x.key = k then { x with val:=v } else x) = x:=by
    intro x hx
    have:x.key ≠ k:=fun e1=>nd.1 (by rw [hk,← e1]; exact List.mem_map.2 ⟨x,hx,rfl⟩)
    rw [if_neg this]
   exact (List.map_congr_left this).trans (List.map_id' l)
  unfold setN at this ⊢
  simp [hk,this,mkE]
 | a :: l,j + 1,e,nd,h,hk=>by
  simp only [List.map_cons,List.nodup_cons] at nd
  have h':l[j]? = some e:=by simpa using h
  have hne:a.key ≠ k:=fun e1=>nd.1 (by rw [e1,← hk]; exact List.mem_map.2 ⟨e,List.mem_of_getElem? h',rfl⟩)
  have ih:=setN_idx (v:=v) nd.2 h' hk
  unfold setN at ih ⊢
  simp [hne,ih]
theorem findK_N {k:κ} {l:List (Ey κ)} {j:Nat} {v:Value} (h:findK k (l.map unE) 0 = some (j,v)):∃ e,l[j]? = some e ∧ e.key = k ∧ e.val = v:=by
 obtain ⟨m,hm,hl⟩:=findK_some k _ 0 j v h
 have:j = m:=by omega
 subst this
 rw [List.getElem?_map,Option.map_eq_some_iff] at hl
 obtain ⟨e,he,h2⟩:=hl
 exact ⟨e,he,congrArg Prod.fst h2,congrArg Prod.snd h2⟩
theorem findK_N0 {k:κ} {l:List (Ey κ)} (h:findK k (l.map unE) 0 = none):∀ e ∈ l,e.key ≠ k:=by
 intro e he e1
 have:=(findK_none k _ 0).1 h
 unfold hasK at this
 rw [List.any_eq_false] at this
 exact this (unE e) (List.mem_map.2 ⟨e,he,rfl⟩) (by simp [unE,e1])
theorem delN_map {l:List (Ey κ)} {h:Heap} {b cl:Nat} {k:κ} (x:IsMapN h b enc l cl):IsMapN (h.set b (.map ((delN l k).map (mkE enc)).toArray cl)) b enc (delN l k) cl:=by
 obtain ⟨h1,h2,h3,h4⟩:=x
 refine ⟨Heap.set_same _ _ _,?_,fun e he=>h3 e (List.mem_filter.1 he).1,?_⟩
 ·exact List.Nodup.sublist (List.Sublist.map _ List.filter_sublist) h2
 ·exact List.Nodup.sublist (List.Sublist.map _ List.filter_sublist) h4
theorem setN_born (l:List (Ey κ)) (k:κ) (v:Value):(setN l k v).map (·.born) = l.map (·.born):=by
 unfold setN; rw [List.map_map]; apply List.map_congr_left; intro e _; simp only [Function.comp]; split <;> rfl
theorem setN_key (l:List (Ey κ)) (k:κ) (v:Value):(setN l k v).map (·.key) = l.map (·.key):=by
 unfold setN; rw [List.map_map]; apply List.map_congr_left; intro e _; simp only [Function.comp]; split <;> rfl
theorem setN_map {l:List (Ey κ)} {h:Heap} {b cl:Nat} {k:κ} {v:Value} (x:IsMapN h b enc l cl):IsMapN (h.set b (.map ((setN l k v).map (mkE enc)).toArray cl)) b enc (setN l k v) cl:=by
 obtain ⟨h1,h2,h3,h4⟩:=x
 refine ⟨Heap.set_same _ _ _,by rw [setN_born]; exact h2,fun e he=>?_,by rw [setN_key]; exact h4⟩
 have:e.born ∈ (setN l k v).map (·.born):=List.mem_map.2 ⟨e,he,rfl⟩
 rw [setN_born] at this
 obtain ⟨e',he',h5⟩:=List.mem_map.1 this
 rw [← h5]; exact h3 e' he'
theorem s_delete (K:KeyLaw P kt enc) {t tk et:TypeId} {m x:Operand} {b cl:Nat} {l:List (Ey κ)} {k:κ} {d:TypeDesc} (ho:o.op = .call ⟨.builtin .delete,#[m,x],#[t,tk]⟩) (ht:P.underlying t = some (.map kt et)) (hk:P.underlying kt = some d)
  (hm:ρ m = .map (some b)) (hx:ρ x = enc k) (im:IsMapN h b enc l cl) (kk:K' (.tuple #[]) (h.set b (.map ((delN l k).map (mkE enc)).toArray cl))):SOp P o ρ h K':=by
 intro w r
 have hbw:w.heap[b]? = some (.map (l.map (mkE enc)).toArray cl):=r b _ im.1
 have hf:=run_findKey K hk k w (l.map (mkE enc)) (l.map unE) (rep_N l)
 refine .inl ⟨_,_,_,.inl ?_,kk,r.setObj im.1,Step.setObj im.1⟩
 cases hfk:findK k (l.map unE) 0 with
 | none =>
  have hd:delN l k = l:=by
   unfold delN; rw [List.filter_eq_self]; intro e he; simpa using findK_N0 hfk e he
  simp only [execOp,ho,resolve,Sem.run_bind,Sem.run_pure,Result.andThen_ok,invoke,builtin,Builtin.delete_]
  simp [run_underlying ht,hm,hx,run_getO hbw,K.check,hf,hfk,run_setO hbw,hd]
 | some p =>
  obtain ⟨j,v⟩:=p
  obtain ⟨e,he,h2,h3⟩:=findK_N hfk
  have hd:(l.map (mkE enc)).eraseIdx j = (delN l k).map (mkE enc):=by rw [← delN_idx im.2.2.2 he h2,map_eraseIdx]
  simp only [execOp,ho,resolve,Sem.run_bind,Sem.run_pure,Result.andThen_ok,invoke,builtin,Builtin.delete_]
  simp [run_underlying ht,hm,hx,run_getO hbw,K.check,hf,hfk,run_setO hbw,hd]
theorem s_mapUpdateN (K:KeyLaw P kt enc) {t et:TypeId} {m x y:Operand} {b cl:Nat} {l:List (Ey κ)} {k:κ} {d:TypeDesc} {v:Value} (ho:o.op = .mapUpdate t m x y) (ht:P.underlying t = some (.map kt et)) (hk:P.underlying kt = some d)
  (hm:ρ m = .map (some b)) (hx:ρ x = enc k) (hy:ρ y = v) (im:IsMapN h b enc l cl) (hin:∃ e ∈ l,e.key = k) (kk:K' undef (h.set b (.map ((setN l k v).map (mkE enc)).toArray cl))):SOp P o ρ h K':=by
 intro w r
 have hbw:w.heap[b]? = some (.map (l.map (mkE enc)).toArray cl):=r b _ im.1
 have hf:=run_findKey K hk k w (l.map (mkE enc)) (l.map unE) (rep_N l)
 refine .inl ⟨_,_,_,.inr ⟨rfl,?_⟩,kk,r.setObj im.1,Step.setObj im.1⟩
 cases hfk:findK k (l.map unE) 0 with
 | none=>obtain ⟨e,he,h1⟩:=hin; exact absurd h1 (findK_N0 hfk e he)
 | some p =>
  obtain ⟨j,v0⟩:=p
  obtain ⟨e,he,h2,h3⟩:=findK_N hfk
  have hd:=setN_idx (enc:=enc) (v:=v) im.2.2.2 he h2
  have hd':(l.map (mkE enc)).toArray.modify j (fun x=>{ x with key:=enc k,val:=v }) = ((setN l k v).map (mkE enc)).toArray:=by rw [← hd]; simp
  have hej:((l.map (mkE enc)).toArray)[j]? = some (mkE enc e):=by simp [he]
  simp only [execOp,ho,Instr.mapUpdate,Sem.run_bind,run_underlying ht,Result.andThen_ok,hm,hx,hy,run_getO hbw,K.check,hf,hfk,hej]
  simp [Instr.keyThatStays,mkE,h2,K.bits,run_setO hbw]
  rw [hd]
end
theorem genH {P:Program} {N:Nat} {Q:Exit → Tm → Heap → Prop} {c:Code} {T:Tm} {h:Heap} (H:∀ h',h' = h → SCode P N c Q T h'):SCode P N c Q T h:=H h rfl
end Go.Proofs.YtihdpjinaafenaaGreatDoor.Sl

/- An evaluator that the kernel can run: values and blocks by names of its own; how these stand to the model's. -/
namespace Go.Proofs.YtihdpjinaafenaaGreatDoor.Ce
open Go.Proofs.YtihdpjinaafenaaGreatDoor.Sl
inductive Pos where
 | h | o (p:Pos) | i (p:Pos)
 deriving DecidableEq
def Pos.succ (p:Pos):Pos:=Pos.rec (.o .h) (fun p _=>.i p) (fun _ ih=>.o ih) p
def Pos.nat:Pos → Nat
 | .h=>1
 | .o p=>2 * p.nat
 | .i p=>2 * p.nat + 1
theorem Pos.pos:∀ p:Pos,0 < p.nat
 | .h=>Nat.one_pos
 | .o p=>by have:=p.pos; simp only [Pos.nat]; omega
 | .i p=>by simp only [Pos.nat]; omega
theorem Pos.nat_succ:∀ p:Pos,p.succ.nat = p.nat + 1
 | .h=>rfl
 | .o p=>rfl
 | .i p=>by
  show 2 * p.succ.nat = 2 * p.nat + 1 + 1
  rw [p.nat_succ]; omega
theorem Pos.nat_inj:∀ {p q:Pos},p.nat = q.nat → p = q
 | .h,.h,_=>rfl
 | .h,.o q,e=>by have:=q.pos; simp only [Pos.nat] at e; omega
 | .h,.i q,e=>by have:=q.pos; simp only [Pos.nat] at e; omega
 | .o p,.h,e=>by have:=p.pos; simp only [Pos.nat] at e; omega
 | .o p,.o q,e=>by rw [Pos.nat_inj (p:=p) (q:=q) (by simp only [Pos.nat] at e; omega)]
 | .o p,.i q,e=>by simp only [Pos.nat] at e; omega
 | .i p,.h,e=>by have:=p.pos; simp only [Pos.nat] at e; omega
 | .i p,.o q,e=>by simp only [Pos.nat] at e; omega
 | .i p,.i q,e=>by rw [Pos.nat_inj (p:=p) (q:=q) (by simp only [Pos.nat] at e; omega)]
def pos:Nat → Pos
 | 0=>.h
 | t + 1=>(pos t).succ
theorem pos_nat:∀ t,(pos t).nat = t + 1
 | 0=>rfl
 | t + 1=>by rw [pos,Pos.nat_succ,pos_nat t]
inductive Tr (α:Type) where
 | e | n (v:α) (l r:Tr α)
section
variable {α : Type}
def Tr.get (d:α) (p:Pos):Tr α → α :=
 Pos.rec (motive:=fun _=>Tr α → α) (fun t=>Tr.rec d (fun v _ _ _ _=>v) t) (fun _ ih t=>Tr.rec d (fun _ l _ _ _=>ih l) t) (fun _ ih t=>Tr.rec d (fun _ _ r _ _=>ih r) t) p
def Tr.set (d:α) (p:Pos) (x:α):Tr α → Tr α :=
 Pos.rec (motive:=fun _=>Tr α → Tr α) (fun t=>Tr.rec (.n x .e .e) (fun _ l r _ _=>.n x l r) t) (fun _ ih t=>Tr.rec (.n d (ih .e) .e) (fun v l r _ _=>.n v (ih l) r) t) (fun _ ih t=>Tr.rec (.n d .e (ih .e)) (fun v l r _ _=>.n v l (ih r)) t) p
theorem Tr.get_e (d:α) (p:Pos):Tr.get d p .e = d:=by cases p <;> rfl
def Tr.upd (d:α) (p:Pos) (f:α → α):Tr α → Tr α :=
 Pos.rec (motive:=fun _=>Tr α → Tr α) (fun t=>Tr.rec (.n (f d) .e .e) (fun v l r _ _=>.n (f v) l r) t) (fun _ ih t=>Tr.rec (.n d (ih .e) .e) (fun v l r _ _=>.n v (ih l) r) t) (fun _ ih t=>Tr.rec (.n d .e (ih .e)) (fun v l r _ _=>.n v l (ih r)) t) p
theorem Tr.get_upd (d:α) (f:α → α):∀ (p q:Pos) (t:Tr α),Tr.get d q (Tr.upd d p f t) = if q = p then f (Tr.get d p t) else Tr.get d q t
 | .h,.h,.e=>rfl
 | .h,.h,.n _ _ _=>rfl
 | .h,.o q,.e=>by rw [if_neg (by simp)]; exact Tr.get_e d q
 | .h,.i q,.e=>by rw [if_neg (by simp)]; exact Tr.get_e d q
 | .h,.o q,.n _ _ _=>by rw [if_neg (by simp)]; rfl
 | .h,.i q,.n _ _ _=>by rw [if_neg (by simp)]; rfl
 | .o p,.h,.e=>by rw [if_neg (by simp)]; rfl
 | .o p,.h,.n _ _ _=>by rw [if_neg (by simp)]; rfl
 | .i p,.h,.e=>by rw [if_neg (by simp)]; rfl
 | .i p,.h,.n _ _ _=>by rw [if_neg (by simp)]; rfl
 | .o p,.i q,.e=>by rw [if_neg (by simp)]; exact Tr.get_e d q
 | .o p,.i q,.n _ _ _=>by rw [if_neg (by simp)]; rfl
 | .i p,.o q,.e=>by rw [if_neg (by simp)]; exact Tr.get_e d q
 | .i p,.o q,.n _ _ _=>by rw [if_neg (by simp)]; rfl
 | .o p,.o q,.e=>by
  show Tr.get d q (Tr.upd d p f .e) = if _ then f d else d
  rw [Tr.get_upd d f p q .e,Tr.get_e,Tr.get_e]; simp
 | .o p,.o q,.n v l r=>by
  show Tr.get d q (Tr.upd d p f l) = _
  rw [Tr.get_upd d f p q l]; simp; rfl
 | .i p,.i q,.e=>by
  show Tr.get d q (Tr.upd d p f .e) = if _ then f d else d
  rw [Tr.get_upd d f p q .e,Tr.get_e,Tr.get_e]; simp
 | .i p,.i q,.n v l r=>by
  show Tr.get d q (Tr.upd d p f r) = _
  rw [Tr.get_upd d f p q r]; simp; rfl
end
inductive D where
 | d0 | d1 | d2 | d3 | d4 | d5 | d6 | d7 | d8 | d9 | d10 | d11 | d12 | d13 | d14 | d15
 deriving DecidableEq
structure Pg (α:Type) where
 (a0 a1 a2 a3 a4 a5 a6 a7 a8 a9 a10 a11 a12 a13 a14 a15:α)
section
variable {α : Type}
def Pg.get (d:D):Pg α → α:=D.rec (motive:=fun _=>Pg α → α) Pg.a0 Pg.a1 Pg.a2 Pg.a3 Pg.a4 Pg.a5 Pg.a6 Pg.a7 Pg.a8 Pg.a9 Pg.a10 Pg.a11 Pg.a12 Pg.a13 Pg.a14 Pg.a15 d
def Pg.upd (d:D):(α → α) → Pg α → Pg α:=D.rec (motive:=fun _=>(α → α) → Pg α → Pg α) (fun f t=>Pg.rec (fun a0 a1 a2 a3 a4 a5 a6 a7 a8 a9 a10 a11 a12 a13 a14 a15=>⟨f a0,a1,a2,a3,a4,a5,a6,a7,a8,a9,a10,a11,a12,a13,a14,a15⟩) t) (fun f t=>Pg.rec (fun a0 a1 a2 a3 a4 a5 a6 a7 a8 a9 a10 a11 a12 a13 a14 a15=>⟨a0,f a1,a2,a3,a4,a5,a6,a7,a8,a9,a10,a11,a12,a13,a14,a15⟩) t) (fun f t=>Pg.rec (fun a0 a1 a2 a3 a4 a5 a6 a7 a8 a9 a10 a11 a12 a13 a14 a15=>⟨a0,a1,f a2,a3,a4,a5,a6,a7,a8,a9,a10,a11,a12,a13,a14,a15⟩) t) (fun f t=>Pg.rec (fun a0 a1 a2 a3 a4 a5 a6 a7 a8 a9 a10 a11 a12 a13 a14 a15=>⟨a0,a1,a2,f a3,a4,a5,a6,a7,a8,a9,a10,a11,a12,a13,a14,a15⟩) t) (fun f t=>Pg.rec (fun a0 a1 a2 a3 a4 a5 a6 a7 a8 a9 a10 a11 a12 a13 a14 a15=>⟨a0,a1,a2,a3,f a4,a5,a6,a7,a8,a9,a10,a11,a12,a13,a14,a15⟩) t) (fun f t=>Pg.rec (fun a0 a1 a2 a3 a4 a5 a6 a7 a8 a9 a10 a11 a12 a13 a14 a15=>⟨a0,a1,a2,a3,a4,f a5,a6,a7,a8,a9,a10,a11,a12,a13,a14,a15⟩) t) (fun f t=>Pg.rec (fun a0 a1 a2 a3 a4 a5 a6 a7 a8 a9 a10 a11 a12 a13 a14 a15=>⟨a0,a1,a2,a3,a4,a5,f a6,a7,a8,a9,a10,a11,a12,a13,a14,a15⟩) t) (fun f t=>Pg.rec (fun a0 a1 a2 a3 a4 a5 a6 a7 a8 a9 a10 a11 a12 a13 a14 a15=>⟨a0,a1,a2,a3,a4,a5,a6,f a7,a8,a9,a10,a11,a12,a13,a14,a15⟩) t) (fun f t=>Pg.rec (fun a0 a1 a2 a3 a4 a5 a6 a7 a8 a9 a10 a11 a12 a13 a14 a15=>⟨a0,a1,a2,a3,a4,a5,a6,a7,f a8,a9,a10,a11,a12,a13,a14,a15⟩) t) (fun f t=>Pg.rec (fun a0 a1 a2 a3 a4 a5 a6 a7 a8 a9 a10 a11 a12 a13 a14 a15=>⟨a0,a1,a2,a3,a4,a5,a6,a7,a8,f a9,a10,a11,a12,a13,a14,a15⟩) t) (fun f t=>Pg.rec (fun a0 a1 a2 a3 a4 a5 a6 a7 a8 a9 a10 a11 a12 a13 a14 a15=>⟨a0,a1,a2,a3,a4,a5,a6,a7,a8,a9,f a10,a11,a12,a13,a14,a15⟩) t) (fun f t=>Pg.rec (fun a0 a1 a2 a3 a4 a5 a6 a7 a8 a9 a10 a11 a12 a13 a14 a15=>⟨a0,a1,a2,a3,a4,a5,a6,a7,a8,a9,a10,f a11,a12,a13,a14,a15⟩) t) (fun f t=>Pg.rec (fun a0 a1 a2 a3 a4 a5 a6 a7 a8 a9 a10 a11 a12 a13 a14 a15=>⟨a0,a1,a2,a3,a4,a5,a6,a7,a8,a9,a10,a11,f a12,a13,a14,a15⟩) t) (fun f t=>Pg.rec (fun a0 a1 a2 a3 a4 a5 a6 a7 a8 a9 a10 a11 a12 a13 a14 a15=>⟨a0,a1,a2,a3,a4,a5,a6,a7,a8,a9,a10,a11,a12,f a13,a14,a15⟩) t) (fun f t=>Pg.rec (fun a0 a1 a2 a3 a4 a5 a6 a7 a8 a9 a10 a11 a12 a13 a14 a15=>⟨a0,a1,a2,a3,a4,a5,a6,a7,a8,a9,a10,a11,a12,a13,f a14,a15⟩) t) (fun f t=>Pg.rec (fun a0 a1 a2 a3 a4 a5 a6 a7 a8 a9 a10 a11 a12 a13 a14 a15=>⟨a0,a1,a2,a3,a4,a5,a6,a7,a8,a9,a10,a11,a12,a13,a14,f a15⟩) t) d
theorem Pg.get_upd (d e:D) (f:α → α) (t:Pg α):Pg.get e (Pg.upd d f t) = if e = d then f (Pg.get d t) else Pg.get e t:=by
 cases t; cases d <;> cases e <;> rfl
def Pg.all (x:α):Pg α:=⟨x,x,x,x,x,x,x,x,x,x,x,x,x,x,x,x⟩
theorem Pg.get_all (d:D) (x:α):Pg.get d (Pg.all x) = x:=by cases d <;> rfl
end
inductive Bx (α:Type) where
 | mk (f:α)
def Bx.f {α:Type} (b:Bx α):α:=Bx.rec (fun f=>f) b
def D.sel {α:Type} (d:D):Bx (Pg α → α):=D.rec (motive:=fun _=>Bx (Pg α → α)) (.mk fun t=>Pg.rec (fun a0 a1 a2 a3 a4 a5 a6 a7 a8 a9 a10 a11 a12 a13 a14 a15=>a0) t) (.mk fun t=>Pg.rec (fun a0 a1 a2 a3 a4 a5 a6 a7 a8 a9 a10 a11 a12 a13 a14 a15=>a1) t) (.mk fun t=>Pg.rec (fun a0 a1 a2 a3 a4 a5 a6 a7 a8 a9 a10 a11 a12 a13 a14 a15=>a2) t) (.mk fun t=>Pg.rec (fun a0 a1 a2 a3 a4 a5 a6 a7 a8 a9 a10 a11 a12 a13 a14 a15=>a3) t) (.mk fun t=>Pg.rec (fun a0 a1 a2 a3 a4 a5 a6 a7 a8 a9 a10 a11 a12 a13 a14 a15=>a4) t) (.mk fun t=>Pg.rec (fun a0 a1 a2 a3 a4 a5 a6 a7 a8 a9 a10 a11 a12 a13 a14 a15=>a5) t) (.mk fun t=>Pg.rec (fun a0 a1 a2 a3 a4 a5 a6 a7 a8 a9 a10 a11 a12 a13 a14 a15=>a6) t) (.mk fun t=>Pg.rec (fun a0 a1 a2 a3 a4 a5 a6 a7 a8 a9 a10 a11 a12 a13 a14 a15=>a7) t) (.mk fun t=>Pg.rec (fun a0 a1 a2 a3 a4 a5 a6 a7 a8 a9 a10 a11 a12 a13 a14 a15=>a8) t) (.mk fun t=>Pg.rec (fun a0 a1 a2 a3 a4 a5 a6 a7 a8 a9 a10 a11 a12 a13 a14 a15=>a9) t) (.mk fun t=>Pg.rec (fun a0 a1 a2 a3 a4 a5 a6 a7 a8 a9 a10 a11 a12 a13 a14 a15=>a10) t) (.mk fun t=>Pg.rec (fun a0 a1 a2 a3 a4 a5 a6 a7 a8 a9 a10 a11 a12 a13 a14 a15=>a11) t) (.mk fun t=>Pg.rec (fun a0 a1 a2 a3 a4 a5 a6 a7 a8 a9 a10 a11 a12 a13 a14 a15=>a12) t) (.mk fun t=>Pg.rec (fun a0 a1 a2 a3 a4 a5 a6 a7 a8 a9 a10 a11 a12 a13 a14 a15=>a13) t) (.mk fun t=>Pg.rec (fun a0 a1 a2 a3 a4 a5 a6 a7 a8 a9 a10 a11 a12 a13 a14 a15=>a14) t) (.mk fun t=>Pg.rec (fun a0 a1 a2 a3 a4 a5 a6 a7 a8 a9 a10 a11 a12 a13 a14 a15=>a15) t) d
def D.udF {α:Type} (d:D):Bx ((α → α) → Pg α → Pg α):=D.rec (motive:=fun _=>Bx ((α → α) → Pg α → Pg α)) (.mk fun f t=>Pg.rec (fun a0 a1 a2 a3 a4 a5 a6 a7 a8 a9 a10 a11 a12 a13 a14 a15=>⟨f a0,a1,a2,a3,a4,a5,a6,a7,a8,a9,a10,a11,a12,a13,a14,a15⟩) t) (.mk fun f t=>Pg.rec (fun a0 a1 a2 a3 a4 a5 a6 a7 a8 a9 a10 a11 a12 a13 a14 a15=>⟨a0,f a1,a2,a3,a4,a5,a6,a7,a8,a9,a10,a11,a12,a13,a14,a15⟩) t) (.mk fun f t=>Pg.rec (fun a0 a1 a2 a3 a4 a5 a6 a7 a8 a9 a10 a11 a12 a13 a14 a15=>⟨a0,a1,f a2,a3,a4,a5,a6,a7,a8,a9,a10,a11,a12,a13,a14,a15⟩) t) (.mk fun f t=>Pg.rec (fun a0 a1 a2 a3 a4 a5 a6 a7 a8 a9 a10 a11 a12 a13 a14 a15=>⟨a0,a1,a2,f a3,a4,a5,a6,a7,a8,a9,a10,a11,a12,a13,a14,a15⟩) t) (.mk fun f t=>Pg.rec (fun a0 a1 a2 a3 a4 a5 a6 a7 a8 a9 a10 a11 a12 a13 a14 a15=>⟨a0,a1,a2,a3,f a4,a5,a6,a7,a8,a9,a10,a11,a12,a13,a14,a15⟩) t) (.mk fun f t=>Pg.rec (fun a0 a1 a2 a3 a4 a5 a6 a7 a8 a9 a10 a11 a12 a13 a14 a15=>⟨a0,a1,a2,a3,a4,f a5,a6,a7,a8,a9,a10,a11,a12,a13,a14,a15⟩) t) (.mk fun f t=>Pg.rec (fun a0 a1 a2 a3 a4 a5 a6 a7 a8 a9 a10 a11 a12 a13 a14 a15=>⟨a0,a1,a2,a3,a4,a5,f a6,a7,a8,a9,a10,a11,a12,a13,a14,a15⟩) t) (.mk fun f t=>Pg.rec (fun a0 a1 a2 a3 a4 a5 a6 a7 a8 a9 a10 a11 a12 a13 a14 a15=>⟨a0,a1,a2,a3,a4,a5,a6,f a7,a8,a9,a10,a11,a12,a13,a14,a15⟩) t) (.mk fun f t=>Pg.rec (fun a0 a1 a2 a3 a4 a5 a6 a7 a8 a9 a10 a11 a12 a13 a14 a15=>⟨a0,a1,a2,a3,a4,a5,a6,a7,f a8,a9,a10,a11,a12,a13,a14,a15⟩) t) (.mk fun f t=>Pg.rec (fun a0 a1 a2 a3 a4 a5 a6 a7 a8 a9 a10 a11 a12 a13 a14 a15=>⟨a0,a1,a2,a3,a4,a5,a6,a7,a8,f a9,a10,a11,a12,a13,a14,a15⟩) t) (.mk fun f t=>Pg.rec (fun a0 a1 a2 a3 a4 a5 a6 a7 a8 a9 a10 a11 a12 a13 a14 a15=>⟨a0,a1,a2,a3,a4,a5,a6,a7,a8,a9,f a10,a11,a12,a13,a14,a15⟩) t) (.mk fun f t=>Pg.rec (fun a0 a1 a2 a3 a4 a5 a6 a7 a8 a9 a10 a11 a12 a13 a14 a15=>⟨a0,a1,a2,a3,a4,a5,a6,a7,a8,a9,a10,f a11,a12,a13,a14,a15⟩) t) (.mk fun f t=>Pg.rec (fun a0 a1 a2 a3 a4 a5 a6 a7 a8 a9 a10 a11 a12 a13 a14 a15=>⟨a0,a1,a2,a3,a4,a5,a6,a7,a8,a9,a10,a11,f a12,a13,a14,a15⟩) t) (.mk fun f t=>Pg.rec (fun a0 a1 a2 a3 a4 a5 a6 a7 a8 a9 a10 a11 a12 a13 a14 a15=>⟨a0,a1,a2,a3,a4,a5,a6,a7,a8,a9,a10,a11,a12,f a13,a14,a15⟩) t) (.mk fun f t=>Pg.rec (fun a0 a1 a2 a3 a4 a5 a6 a7 a8 a9 a10 a11 a12 a13 a14 a15=>⟨a0,a1,a2,a3,a4,a5,a6,a7,a8,a9,a10,a11,a12,a13,f a14,a15⟩) t) (.mk fun f t=>Pg.rec (fun a0 a1 a2 a3 a4 a5 a6 a7 a8 a9 a10 a11 a12 a13 a14 a15=>⟨a0,a1,a2,a3,a4,a5,a6,a7,a8,a9,a10,a11,a12,a13,a14,f a15⟩) t) d
theorem D.sel_eq {α:Type} (d:D) (T:Pg α):d.sel.f T = Pg.get d T:=by cases d <;> rfl
theorem D.udF_eq {α:Type} (d:D) (f:α → α) (T:Pg α):d.udF.f f T = Pg.upd d f T:=by cases d <;> rfl
def D.nat:D → Nat
 | .d0=>0
 | .d1=>1
 | .d2=>2
 | .d3=>3
 | .d4=>4
 | .d5=>5
 | .d6=>6
 | .d7=>7
 | .d8=>8
 | .d9=>9
 | .d10=>10
 | .d11=>11
 | .d12=>12
 | .d13=>13
 | .d14=>14
 | .d15=>15
theorem D.lt (d:D):d.nat < 16:=by cases d <;> decide
theorem D.nat_inj {a b:D} (h:a.nat = b.nat):a = b:=by cases a <;> cases b <;> first | rfl | (cases h; done)
structure Sp where
 (b a:D)
 deriving DecidableEq
def Sp.nat (p:Sp):Nat:=16 * p.b.nat + p.a.nat + 1
theorem Sp.nat_inj {p q:Sp} (h:p.nat - 1 = q.nat - 1):p = q:=by
 obtain ⟨b,a⟩:=p; obtain ⟨c,d⟩:=q
 simp only [Sp.nat] at h
 have h1:=D.lt a; have h2:=D.lt d
 rw [D.nat_inj (a:=b) (b:=c) (by omega),D.nat_inj (a:=a) (b:=d) (by omega)]
abbrev SL (α:Type):=Pg (Pg α)
def sget {α:Type} (p:Sp) (T:SL α):α:=Sp.rec (fun b a=>Pg.get a (Pg.get b T)) p
def sset {α:Type} (p:Sp) (x:α) (T:SL α):SL α:=Sp.rec (fun b a=>Pg.upd b (Pg.upd a (fun _=>x)) T) p
theorem sget_sset {α:Type} (p q:Sp) (x:α) (T:SL α):sget q (sset p x T) = if q = p then x else sget q T:=by
 obtain ⟨b,a⟩:=p; obtain ⟨c,d⟩:=q
 show Pg.get d (Pg.get c (Pg.upd b (Pg.upd a (fun _=>x)) T)) = _
 rw [Pg.get_upd]
 by_cases h:c = b
 ·subst h
  rw [if_pos rfl,Pg.get_upd]
  by_cases h2:d = a
  ·subst h2; simp
  ·rw [if_neg h2,if_neg (by simpa using h2)]; rfl
 ·rw [if_neg h,if_neg (by simp [h])]; rfl
def Sp.gf {α:Type} (p:Sp):Bx (SL α → α):=Sp.rec (fun b a=>Bx.rec (fun fb=>Bx.rec (fun fa=>.mk fun T=>fa (fb T)) (D.sel a)) (D.sel b)) p
def Sp.sf {α:Type} (p:Sp):Bx (α → SL α → SL α):=Sp.rec (fun b a=>Bx.rec (fun fb=>Bx.rec (fun fa=>.mk fun x T=>fb (fun g=>fa (fun _=>x) g) T) (D.udF a)) (D.udF b)) p
theorem Sp.gf_eq {α:Type} (p:Sp) (T:SL α):p.gf.f T = sget p T:=by
 obtain ⟨b,a⟩:=p
 show (Bx.rec (motive:=fun _=>Bx (SL α → α)) (fun fb=>Bx.rec (motive:=fun _=>Bx (SL α → α)) (fun fa=>.mk fun T=>fa (fb T)) (D.sel a)) (D.sel b)).f T = Pg.get a (Pg.get b T)
 rw [← D.sel_eq,← D.sel_eq]
 cases D.sel (α:=Pg α) b; cases D.sel (α:=α) a; rfl
theorem Sp.sf_eq {α:Type} (p:Sp) (x:α) (T:SL α):p.sf.f x T = sset p x T:=by
 obtain ⟨b,a⟩:=p
 show (Bx.rec (motive:=fun _=>Bx (α → SL α → SL α)) (fun fb=>Bx.rec (motive:=fun _=>Bx (α → SL α → SL α)) (fun fa=>.mk fun x T=>fb (fun g=>fa (fun _=>x) g) T) (D.udF a)) (D.udF b)).f x T = Pg.upd b (Pg.upd a (fun _=>x)) T
 rw [← D.udF_eq]
 have:Pg.upd a (fun _=>x) = (D.udF a).f (fun _=>x):=by funext t; rw [D.udF_eq]
 rw [this]
 cases D.udF (α:=Pg α) b; cases D.udF (α:=α) a; rfl
def Sp.succ (p:Sp):Sp:=Sp.rec (fun b a=>D.rec (motive:=fun _=>Sp) ⟨b,.d1⟩ ⟨b,.d2⟩ ⟨b,.d3⟩ ⟨b,.d4⟩ ⟨b,.d5⟩ ⟨b,.d6⟩ ⟨b,.d7⟩ ⟨b,.d8⟩ ⟨b,.d9⟩ ⟨b,.d10⟩ ⟨b,.d11⟩ ⟨b,.d12⟩ ⟨b,.d13⟩ ⟨b,.d14⟩ ⟨b,.d15⟩ ⟨D.rec (motive:=fun _=>D) .d1 .d2 .d3 .d4 .d5 .d6 .d7 .d8 .d9 .d10 .d11 .d12 .d13 .d14 .d15 .d0 b,.d0⟩ a) p
def sp:Nat → Sp
 | 0=>⟨.d0,.d0⟩
 | t + 1=>(sp t).succ
theorem Sp.nat_succ (p:Sp) (h:p.nat < 256):p.succ.nat = p.nat + 1:=by
 obtain ⟨b,a⟩:=p
 cases a <;> first | rfl | (cases b <;> first | rfl | (exact absurd h (by decide)))
theorem sp_nat:∀ t,t < 256 → (sp t).nat = t + 1
 | 0,_=>rfl
 | t + 1,h=>by rw [sp,Sp.nat_succ _ (by rw [sp_nat t (by omega)]; omega),sp_nat t (by omega)]
structure Id where
 pg:Pos
 (c b a:D)
 deriving DecidableEq
def Id.nat (p:Id):Nat:=((((p.pg.nat - 1) * 16 + p.c.nat) * 16) + p.b.nat) * 16 + p.a.nat + 1
theorem Id.pos (p:Id):0 < p.nat:=by simp only [Id.nat]; omega
theorem Id.nat_inj {p q:Id} (h:p.nat = q.nat):p = q:=by
 obtain ⟨x,c,b,a⟩:=p; obtain ⟨y,f,e,d⟩:=q
 simp only [Id.nat] at h
 have h1:=D.lt a; have h2:=D.lt b; have h3:=D.lt c; have h4:=D.lt d; have h5:=D.lt e; have h6:=D.lt f
 have hx:=x.pos; have hy:=y.pos
 rw [Pos.nat_inj (p:=x) (q:=y) (by omega),D.nat_inj (a:=a) (b:=d) (by omega),D.nat_inj (a:=b) (b:=e) (by omega),D.nat_inj (a:=c) (b:=f) (by omega)]
abbrev i0:Id:=⟨.h,.d0,.d0,.d0⟩
abbrev Ht (α:Type):=Tr (Pg (Pg (Pg α)))
section
variable {α : Type}
def iget (d:Pg (Pg (Pg α))) (p:Id) (H:Ht α):α:=Id.rec (fun pg c b a=>Pg.get a (Pg.get b (Pg.get c (Tr.get d pg H)))) p
def iset (d:Pg (Pg (Pg α))) (p:Id) (x:α) (H:Ht α):Ht α:=Id.rec (fun pg c b a=>Tr.upd d pg (Pg.upd c (Pg.upd b (Pg.upd a (fun _=>x)))) H) p
theorem iget_iset (d:Pg (Pg (Pg α))) (p q:Id) (x:α) (H:Ht α):iget d q (iset d p x H) = if q = p then x else iget d q H:=by
 obtain ⟨pg,c,b,a⟩:=p; obtain ⟨pg',c',b',a'⟩:=q
 show Pg.get a' (Pg.get b' (Pg.get c' (Tr.get d pg' (Tr.upd d pg (Pg.upd c (Pg.upd b (Pg.upd a (fun _=>x)))) H)))) = _
 rw [Tr.get_upd]
 by_cases e0:pg' = pg
 ·subst e0
  rw [if_pos rfl,Pg.get_upd]
  by_cases e1:c' = c
  ·subst e1
   rw [if_pos rfl,Pg.get_upd]
   by_cases e2:b' = b
   ·subst e2
    rw [if_pos rfl,Pg.get_upd]
    by_cases e3:a' = a
    ·subst e3; simp
    ·rw [if_neg e3,if_neg (by simpa using e3)]; rfl
   ·rw [if_neg e2,if_neg (by simp [e2])]; rfl
  ·rw [if_neg e1,if_neg (by simp [e1])]; rfl
 ·rw [if_neg e0,if_neg (by simp [e0])]; rfl
end
def Id.succ (p:Id):Id:=Id.rec (fun pg c b a=>D.rec (motive:=fun _=>Id) ⟨pg,c,b,.d1⟩ ⟨pg,c,b,.d2⟩ ⟨pg,c,b,.d3⟩ ⟨pg,c,b,.d4⟩ ⟨pg,c,b,.d5⟩ ⟨pg,c,b,.d6⟩ ⟨pg,c,b,.d7⟩ ⟨pg,c,b,.d8⟩ ⟨pg,c,b,.d9⟩ ⟨pg,c,b,.d10⟩ ⟨pg,c,b,.d11⟩ ⟨pg,c,b,.d12⟩ ⟨pg,c,b,.d13⟩ ⟨pg,c,b,.d14⟩ ⟨pg,c,b,.d15⟩ (D.rec (motive:=fun _=>Id) ⟨pg,c,.d1,.d0⟩ ⟨pg,c,.d2,.d0⟩ ⟨pg,c,.d3,.d0⟩ ⟨pg,c,.d4,.d0⟩ ⟨pg,c,.d5,.d0⟩ ⟨pg,c,.d6,.d0⟩ ⟨pg,c,.d7,.d0⟩ ⟨pg,c,.d8,.d0⟩ ⟨pg,c,.d9,.d0⟩ ⟨pg,c,.d10,.d0⟩ ⟨pg,c,.d11,.d0⟩ ⟨pg,c,.d12,.d0⟩ ⟨pg,c,.d13,.d0⟩ ⟨pg,c,.d14,.d0⟩ ⟨pg,c,.d15,.d0⟩ (D.rec (motive:=fun _=>Id) ⟨pg,.d1,.d0,.d0⟩ ⟨pg,.d2,.d0,.d0⟩ ⟨pg,.d3,.d0,.d0⟩ ⟨pg,.d4,.d0,.d0⟩ ⟨pg,.d5,.d0,.d0⟩ ⟨pg,.d6,.d0,.d0⟩ ⟨pg,.d7,.d0,.d0⟩ ⟨pg,.d8,.d0,.d0⟩ ⟨pg,.d9,.d0,.d0⟩ ⟨pg,.d10,.d0,.d0⟩ ⟨pg,.d11,.d0,.d0⟩ ⟨pg,.d12,.d0,.d0⟩ ⟨pg,.d13,.d0,.d0⟩ ⟨pg,.d14,.d0,.d0⟩ ⟨pg,.d15,.d0,.d0⟩ ⟨pg.succ,.d0,.d0,.d0⟩ c) b) a) p
theorem Id.nat_succ (p:Id):p.succ.nat = p.nat + 1:=by
 obtain ⟨pg,c,b,a⟩:=p
 cases a <;> first | rfl | skip
 cases b <;> first | rfl | skip
 ·show (Id.nat ⟨pg,c,.d1,.d0⟩) = _; simp only [Id.nat,D.nat]; omega
 ·show (Id.nat ⟨pg,c,.d2,.d0⟩) = _; simp only [Id.nat,D.nat]; omega
 ·show (Id.nat ⟨pg,c,.d3,.d0⟩) = _; simp only [Id.nat,D.nat]; omega
 ·show (Id.nat ⟨pg,c,.d4,.d0⟩) = _; simp only [Id.nat,D.nat]; omega
 ·show (Id.nat ⟨pg,c,.d5,.d0⟩) = _; simp only [Id.nat,D.nat]; omega
 ·show (Id.nat ⟨pg,c,.d6,.d0⟩) = _; simp only [Id.nat,D.nat]; omega
 ·show (Id.nat ⟨pg,c,.d7,.d0⟩) = _; simp only [Id.nat,D.nat]; omega
 ·show (Id.nat ⟨pg,c,.d8,.d0⟩) = _; simp only [Id.nat,D.nat]; omega
 ·show (Id.nat ⟨pg,c,.d9,.d0⟩) = _; simp only [Id.nat,D.nat]; omega
 ·show (Id.nat ⟨pg,c,.d10,.d0⟩) = _; simp only [Id.nat,D.nat]; omega
 ·show (Id.nat ⟨pg,c,.d11,.d0⟩) = _; simp only [Id.nat,D.nat]; omega
 ·show (Id.nat ⟨pg,c,.d12,.d0⟩) = _; simp only [Id.nat,D.nat]; omega
 ·show (Id.nat ⟨pg,c,.d13,.d0⟩) = _; simp only [Id.nat,D.nat]; omega
 ·show (Id.nat ⟨pg,c,.d14,.d0⟩) = _; simp only [Id.nat,D.nat]; omega
 ·show (Id.nat ⟨pg,c,.d15,.d0⟩) = _; simp only [Id.nat,D.nat]; omega
 ·cases c
  ·show (Id.nat ⟨pg,.d1,.d0,.d0⟩) = _; simp only [Id.nat,D.nat]; omega
  ·show (Id.nat ⟨pg,.d2,.d0,.d0⟩) = _; simp only [Id.nat,D.nat]; omega
  ·show (Id.nat ⟨pg,.d3,.d0,.d0⟩) = _; simp only [Id.nat,D.nat]; omega
  ·show (Id.nat ⟨pg,.d4,.d0,.d0⟩) = _; simp only [Id.nat,D.nat]; omega
  ·show (Id.nat ⟨pg,.d5,.d0,.d0⟩) = _; simp only [Id.nat,D.nat]; omega
  ·show (Id.nat ⟨pg,.d6,.d0,.d0⟩) = _; simp only [Id.nat,D.nat]; omega
  ·show (Id.nat ⟨pg,.d7,.d0,.d0⟩) = _; simp only [Id.nat,D.nat]; omega
  ·show (Id.nat ⟨pg,.d8,.d0,.d0⟩) = _; simp only [Id.nat,D.nat]; omega
  ·show (Id.nat ⟨pg,.d9,.d0,.d0⟩) = _; simp only [Id.nat,D.nat]; omega
  ·show (Id.nat ⟨pg,.d10,.d0,.d0⟩) = _; simp only [Id.nat,D.nat]; omega
  ·show (Id.nat ⟨pg,.d11,.d0,.d0⟩) = _; simp only [Id.nat,D.nat]; omega
  ·show (Id.nat ⟨pg,.d12,.d0,.d0⟩) = _; simp only [Id.nat,D.nat]; omega
  ·show (Id.nat ⟨pg,.d13,.d0,.d0⟩) = _; simp only [Id.nat,D.nat]; omega
  ·show (Id.nat ⟨pg,.d14,.d0,.d0⟩) = _; simp only [Id.nat,D.nat]; omega
  ·show (Id.nat ⟨pg,.d15,.d0,.d0⟩) = _; simp only [Id.nat,D.nat]; omega
  ·show (Id.nat ⟨pg.succ,.d0,.d0,.d0⟩) = _
   have:=pg.pos
   simp only [Id.nat,D.nat,Pos.nat_succ]; omega
inductive CV where
 | u | b (x:Bool) | i (k:IntKind) (n:Int) | s (l:List Nat)
 | p (id:Id) (off:Nat) | np | g (n:Nat)
 | sl (id:Id) (off n sz:Nat) (c:Option Nat) | z (c:Option Nat) | ns
 | m (id:Id) | nm
 | fn (f:Pos) (a b:List CV) | nf
 | ifc (t:Nat) (x:CV) | ni
 | agg (cs:List CV) | tup (cs:List CV) | xi (j:Nat) | yl (id:Id)
def CV.one:CV → Bool
 | .u | .agg _ | .tup _=>false
 | _=>true
inductive X1 (α:Type) where
 | no | yes (a:α)
inductive X2 (α β:Type) where
 | no | yes (a:α) (b:β)
inductive X5 where
 | no | yes (a:Id) (b c d:Nat) (e:Option Nat)
section
variable {α : Type}
def CV.toB (c:CV):X1 (Bool):=CV.rec (motive_1:=fun _=>X1 (Bool)) (motive_2:=fun _=>Unit) .no .yes (fun _ _=>.no) (fun _=>.no) (fun _ _=>.no) .no (fun _=>.no) (fun _ _ _ _ _=>.no) (fun _=>.no) .no (fun _=>.no) .no (fun _ _ _ _ _=>.no) .no (fun _ _ _=>.no) .no (fun _ _=>.no) (fun _ _=>.no) (fun _=>.no) (fun _=>.no) () (fun _ _ _ _=>()) c
def CV.onB (d:α) (f:Bool → α) (c:CV):α:=X1.rec d f (CV.toB c)
theorem CV.onB_eq (d:α) (f:Bool → α) (c:CV):CV.onB d f c = match c with | .b a1=>f a1 | _=>d:=by cases c <;> rfl
def CV.toI (c:CV):X2 IntKind Int:=CV.rec (motive_1:=fun _=>X2 IntKind Int) (motive_2:=fun _=>Unit) .no (fun _=>.no) .yes (fun _=>.no) (fun _ _=>.no) .no (fun _=>.no) (fun _ _ _ _ _=>.no) (fun _=>.no) .no (fun _=>.no) .no (fun _ _ _ _ _=>.no) .no (fun _ _ _=>.no) .no (fun _ _=>.no) (fun _ _=>.no) (fun _=>.no) (fun _=>.no) () (fun _ _ _ _=>()) c
def CV.onI (d:α) (f:IntKind → Int → α) (c:CV):α:=X2.rec d f (CV.toI c)
theorem CV.onI_eq (d:α) (f:IntKind → Int → α) (c:CV):CV.onI d f c = match c with | .i a1 a2=>f a1 a2 | _=>d:=by cases c <;> rfl
def CV.toP (c:CV):X2 Id Nat:=CV.rec (motive_1:=fun _=>X2 Id Nat) (motive_2:=fun _=>Unit) .no (fun _=>.no) (fun _ _=>.no) (fun _=>.no) .yes .no (fun _=>.no) (fun _ _ _ _ _=>.no) (fun _=>.no) .no (fun _=>.no) .no (fun _ _ _ _ _=>.no) .no (fun _ _ _=>.no) .no (fun _ _=>.no) (fun _ _=>.no) (fun _=>.no) (fun _=>.no) () (fun _ _ _ _=>()) c
def CV.onP (d:α) (f:Id → Nat → α) (c:CV):α:=X2.rec d f (CV.toP c)
def CV.toSl (c:CV):X5:=CV.rec (motive_1:=fun _=>X5) (motive_2:=fun _=>Unit) .no (fun _=>.no) (fun _ _=>.no) (fun _=>.no) (fun _ _=>.no) .no (fun _=>.no) .yes (fun _=>.no) .no (fun _=>.no) .no (fun _ _ _ _ _=>.no) .no (fun _ _ _=>.no) .no (fun _ _=>.no) (fun _ _=>.no) (fun _=>.no) (fun _=>.no) () (fun _ _ _ _=>()) c
def CV.onSl (d:α) (f:Id → Nat → Nat → Nat → Option Nat → α) (c:CV):α:=X5.rec d f (CV.toSl c)
def CV.toAgg (c:CV):X1 (List CV):=CV.rec (motive_1:=fun _=>X1 (List CV)) (motive_2:=fun _=>Unit) .no (fun _=>.no) (fun _ _=>.no) (fun _=>.no) (fun _ _=>.no) .no (fun _=>.no) (fun _ _ _ _ _=>.no) (fun _=>.no) .no (fun _=>.no) .no (fun _ _ _ _ _=>.no) .no (fun _ _ _=>.no) .no (fun l _=>.yes l) (fun _ _=>.no) (fun _=>.no) (fun _=>.no) () (fun _ _ _ _=>()) c
def CV.onAgg (d:α) (f:List CV → α) (c:CV):α:=X1.rec d f (CV.toAgg c)
def CV.toS (c:CV):X1 (List Nat):=CV.rec (motive_1:=fun _=>X1 (List Nat)) (motive_2:=fun _=>Unit) .no (fun _=>.no) (fun _ _=>.no) .yes (fun _ _=>.no) .no (fun _=>.no) (fun _ _ _ _ _=>.no) (fun _=>.no) .no (fun _=>.no) .no (fun _ _ _ _ _=>.no) .no (fun _ _ _=>.no) .no (fun _ _=>.no) (fun _ _=>.no) (fun _=>.no) (fun _=>.no) () (fun _ _ _ _=>()) c
def CV.onS (d:α) (f:List Nat → α) (c:CV):α:=X1.rec d f (CV.toS c)
def CV.toTup (c:CV):X1 (List CV):=CV.rec (motive_1:=fun _=>X1 (List CV)) (motive_2:=fun _=>Unit) .no (fun _=>.no) (fun _ _=>.no) (fun _=>.no) (fun _ _=>.no) .no (fun _=>.no) (fun _ _ _ _ _=>.no) (fun _=>.no) .no (fun _=>.no) .no (fun _ _ _ _ _=>.no) .no (fun _ _ _=>.no) .no (fun _ _=>.no) (fun l _=>.yes l) (fun _=>.no) (fun _=>.no) () (fun _ _ _ _=>()) c
def CV.onTup (d:α) (f:List CV → α) (c:CV):α:=X1.rec d f (CV.toTup c)
end
inductive G3 where
 | no | un | t | f
def CV.g3 (c:CV):G3:=CV.rec (motive_1:=fun _=>G3) (motive_2:=fun _=>Unit) .un (fun t=>Bool.rec .f .t t) (fun _ _=>.no) (fun _=>.no) (fun _ _=>.no) .no (fun _=>.no) (fun _ _ _ _ _=>.no) (fun _=>.no) .no (fun _=>.no) .no (fun _ _ _ _ _=>.no) .no (fun _ _ _=>.no) .no (fun _ _=>.no) (fun _ _=>.no) (fun _=>.no) (fun _=>.no) () (fun _ _ _ _=>()) c
def CV.oneR (c:CV):Bool:=CV.rec (motive_1:=fun _=>Bool) (motive_2:=fun _=>Unit) false (fun _=>true) (fun _ _=>true) (fun _=>true) (fun _ _=>true) true (fun _=>true) (fun _ _ _ _ _=>true) (fun _=>true) true (fun _=>true) true (fun _ _ _ _ _=>true) true (fun _ _ _=>true) true (fun _ _=>false) (fun _ _=>false) (fun _=>true) (fun _=>true) () (fun _ _ _ _=>()) c
theorem CV.oneR_eq (c:CV):c.oneR = c.one:=by cases c <;> rfl
def byt (l:List Nat):ByteArray:=⟨(l.map UInt8.ofNat).toArray⟩
structure Blk where
 b:Nat
 len:Nat
structure Bk where
 f:Id → Option Blk
 x:Nat → Value
instance:CoeFun Bk (fun _=>Id → Option Blk):=⟨Bk.f⟩
mutual
inductive VR (β:Bk):CV → Value → Prop where
 | u:VR β .u undef
 | b (x:Bool):VR β (.b x) (.bool x)
 | i (k:IntKind) (n:Int):VR β (.i k n) (.int k n)
 | s (l:List Nat) (h:l.all (fun x=>Nat.blt x 256) = true):VR β (.s l) (.string (byt l))
 | p {id:Id} (off:Nat) {x:Blk} (h:β id = some x):VR β (.p id off) (.pointer (some ⟨x.b,off,none⟩))
 | np:VR β .np (.pointer none)
 | g (n:Nat):VR β (.g n) (.pointer (some ⟨n,0,none⟩))
 | sl {id:Id} {off n sz:Nat} {c:Option Nat} {x:Blk} {k:Nat} (h:β id = some x) (hn:n ≤ k) (hc:off + k * sz ≤ x.len) (he:c = none ∨ c = some k):VR β (.sl id off n sz c) (.slice (some ⟨x.b,off,none⟩) n k)
 | z {a:Option Addr} {k:Nat} {c:Option Nat} (he:c = none ∨ c = some k) (hn:a = none → k = 0 ∧ c = none):VR β (.z c) (.slice a 0 k)
 | ns:VR β .ns (.slice none 0 0)
 | m {id:Id} {x:Blk} (h:β id = some x):VR β (.m id) (.map (some x.b))
 | nm:VR β .nm (.map none)
 | fn (f:Pos) {a b:List CV} {va vb:List Value} (ha:VRs β a va) (hb:VRs β b vb):VR β (.fn f a b) (.func (.func (f.nat - 1)) va.toArray vb.toArray)
 | nf:VR β .nf .nilFunc
 | ifc (t:Nat) {x:CV} {v:Value} (h:VR β x v):VR β (.ifc t x) (.iface t v)
 | ni:VR β .ni .nilIface
 | agg {cs:List CV} {vs:List Value} (h1:cs.all CV.one = true) (h:VRs β cs vs):VR β (.agg cs) (.agg vs.toArray)
 | tup {cs:List CV} {vs:List Value} (h:VRs β cs vs):VR β (.tup cs) (.tuple vs.toArray)
 | xi (j:Nat) (h:(β.x j).oneCell' = true):VR β (.xi j) (β.x j)
 | yl {id:Id} {x:Blk} (h:β id = some x):VR β (.yl id) (.func (.yield x.b) #[] #[])
inductive VRs (β:Bk):List CV → List Value → Prop where
 | nil:VRs β [] []
 | cons {c:CV} {v:Value} {cs:List CV} {vs:List Value} (h:VR β c v) (r:VRs β cs vs):VRs β (c :: cs) (v :: vs)
end
structure Bk.le (β β':Bk):Prop where
 f:∀ p x,β p = some x → β' p = some x
 x:β'.x = β.x
instance (β β':Bk):CoeFun (Bk.le β β') (fun _=>∀ p x,β p = some x → β' p = some x):=⟨Bk.le.f⟩
theorem Bk.le_refl (β:Bk):β.le β:=⟨fun _ _ e=>e,rfl⟩
theorem Bk.le_trans {β β' β'':Bk} (a:β.le β') (b:β'.le β''):β.le β'':=⟨fun p x e=>b p x (a p x e),b.x.trans a.x⟩
section
variable {β β' : Bk}
theorem VR.le (l:β.le β') {c:CV} {v:Value} (r:VR β c v):VR β' c v :=
 VR.rec (motive_1:=fun c v _=>VR β' c v) (motive_2:=fun cs vs _=>VRs β' cs vs) .u (fun x=>.b x) (fun k n=>.i k n) (fun l h=>.s l h) (fun off _ h=>.p off (l _ _ h)) .np (fun n=>.g n)
  (fun h hn hc he=>.sl (l _ _ h) hn hc he) (fun he hn=>.z he hn) .ns (fun h=>.m (l _ _ h)) .nm (fun f _ _ _ _ _ _ ha hb=>.fn f ha hb) .nf (fun t _ _ _ h=>.ifc t h) .ni (fun h1 _ h=>.agg h1 h) (fun _ h=>.tup h) (fun j h=>by rw [← l.x] at h ⊢; exact .xi j h) (fun h=>.yl (l _ _ h)) .nil (fun _ _ h r=>.cons h r) r
theorem VRs.le (l:β.le β'):∀ {cs:List CV} {vs:List Value},VRs β cs vs → VRs β' cs vs
 | _,_,.nil=>.nil
 | _,_,.cons h r=>.cons (h.le l) (VRs.le l r)
theorem VRs.len:∀ {cs:List CV} {vs:List Value},VRs β cs vs → vs.length = cs.length
 | _,_,.nil=>rfl
 | _,_,.cons _ r=>by simp [r.len]
theorem VR.one {c:CV} {v:Value} (r:VR β c v) (h1:c.one = true):v.oneCell' = true:=by
 cases r <;> first | rfl | assumption | cases h1
theorem VRs.one:∀ {cs:List CV} {vs:List Value},VRs β cs vs → cs.all CV.one = true → ∀ v ∈ vs,v.oneCell' = true
 | _,_,.nil,_,v,hv=>by cases hv
 | _,_,.cons h r,h1,v,hv=>by
  simp only [List.all_cons,Bool.and_eq_true] at h1
  rcases List.mem_cons.1 hv with rfl | hv
  ·exact h.one h1.1
  ·exact r.one h1.2 v hv
theorem VRs.get:∀ {cs:List CV} {vs:List Value},VRs β cs vs → ∀ {j:Nat} {c:CV},cs[j]? = some c → ∃ v,vs[j]? = some v ∧ VR β c v
 | _,_,.nil,j,c,e=>by simp at e
 | _,_,.cons h r,0,c,e=>by simp at e; subst e; exact ⟨_,rfl,h⟩
 | _,_,.cons h r,j + 1,c,e=>by simpa using r.get (by simpa using e)
theorem VRs.append:∀ {cs:List CV} {vs:List Value} {cs':List CV} {vs':List Value},VRs β cs vs → VRs β cs' vs' → VRs β (cs ++ cs') (vs ++ vs')
 | _,_,_,_,.nil,b=>b
 | _,_,_,_,.cons h r,b=>.cons h (r.append b)
theorem VRs.take:∀ {cs:List CV} {vs:List Value} (n:Nat),VRs β cs vs → VRs β (cs.take n) (vs.take n)
 | _,_,0,_=>by simp; exact .nil
 | _,_,n + 1,.nil=>by simp; exact .nil
 | _,_,n + 1,.cons h r=>by simpa using .cons h (r.take n)
theorem VRs.drop:∀ {cs:List CV} {vs:List Value} (n:Nat),VRs β cs vs → VRs β (cs.drop n) (vs.drop n)
 | _,_,0,r=>by simpa using r
 | _,_,n + 1,.nil=>by simp; exact .nil
 | _,_,n + 1,.cons h r=>by simpa using r.drop n
theorem VRs.split:∀ {cs cs':List CV} {vs:List Value},VRs β (cs ++ cs') vs → ∃ a b,vs = a ++ b ∧ VRs β cs a ∧ VRs β cs' b
 | [],cs',vs,r=>⟨[],vs,rfl,.nil,r⟩
 | c :: cs,cs',_,.cons h r=>by
  obtain ⟨a,b,rfl,ra,rb⟩:=VRs.split (cs:=cs) r
  exact ⟨_ :: a,b,rfl,.cons h ra,rb⟩
theorem VRs.mk:∀ {cs:List CV} {vs:List Value},vs.length = cs.length → (∀ (j:Nat) (c:CV) (v:Value),cs[j]? = some c → vs[j]? = some v → VR β c v) → VRs β cs vs
 | [],[],_,_=>.nil
 | [],_ :: _,h,_=>by simp at h
 | _ :: _,[],h,_=>by simp at h
 | c :: cs,v :: vs,h,k=>.cons (k 0 c v rfl rfl) (VRs.mk (by simpa using h) fun j c v a b=>k (j + 1) c v (by simpa using a) (by simpa using b))
def CV.cells:CV → List CV
 | .agg cs=>cs
 | c=>[c]
theorem VR.cells {c:CV} {v:Value} (r:VR β c v):VRs β c.cells v.cells.toList:=by
 cases r
 case agg h1 h=>simpa [CV.cells,Value.cells] using h
 case xi j h =>
  have hv:(β.x j).cells = #[β.x j]:=by generalize β.x j = v at h; cases v <;> first | rfl | cases h
  rw [hv]
  exact .cons (.xi j h) .nil
 all_goals exact .cons (by first | exact .u | constructor <;> assumption | constructor) .nil
end
def sl0:SL CV:=Pg.all (Pg.all .u)
def TR (β:Bk) (T:SL CV) (Tc:Tm):Prop:=∀ p:Sp,VR β (sget p T) (Tc (p.nat - 1))
theorem TR.le {β β':Bk} {T:SL CV} {Tc:Tm} (r:TR β T Tc) (l:β.le β'):TR β' T Tc:=fun t=>(r t).le l
theorem TR.at {β:Bk} {T:SL CV} {Tc:Tm} (r:TR β T Tc) (p:Sp):VR β (sget p T) (Tc (p.nat - 1)):=r p
theorem TR.put {β:Bk} {T:SL CV} {Tc:Tm} (r:TR β T Tc) (p:Sp) {c:CV} {v:Value} (h:VR β c v):TR β (sset p c T) (upd Tc (p.nat - 1) v):=fun t=>by
 rw [sget_sset]
 unfold upd
 by_cases e:t = p
 ·subst e; rw [if_pos rfl,if_pos rfl]; exact h
 ·rw [if_neg e,if_neg (fun e1=>e (Sp.nat_inj e1))]; exact r t
theorem TR.nil {β:Bk}:TR β sl0 (fun _=>undef):=fun t=>by
 have:sget t sl0 = .u:=by
  obtain ⟨b,a⟩:=t
  show Pg.get a (Pg.get b (Pg.all (Pg.all CV.u))) = _
  rw [Pg.get_all,Pg.get_all]
 rw [this]; exact .u
end Go.Proofs.YtihdpjinaafenaaGreatDoor.Ce
