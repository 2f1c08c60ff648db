import Derived.Test.YtihdpjinaafenaaGreatDoorNb10
noncomputable section
/- What acts: maps; all acts. -/
set_option linter.unusedVariables false
set_option linter.unusedSimpArgs false
namespace Go.Proofs.YtihdpjinaafenaaGreatDoor.Ce
open Go.Proofs.YtihdpjinaafenaaGreatDoor.Sl
open Ab (isOne isMany isSl isArr isIntT isStr zeroIs okCall)
section
variable {κ : Type} {enc : κ → Value}
theorem MB_get (l:List (κ × Value)) (m:Nat):(MB enc l)[m]? = (l[m]?).map fun p=>{ key:=enc p.1,val:=p.2,born:=m }:=by
 unfold MB
 rw [List.getElem?_map,List.getElem?_zipIdx]
 cases l[m]? <;> simp
theorem MB_push (l:List (κ × Value)) (k:κ) (v:Value):(MB enc l).toArray.push { key:=enc k,val:=v,born:=l.length } = (MB enc (l ++ [(k,v)])).toArray:=by
 apply Array.ext'
 apply List.ext_getElem?
 intro m
 rw [Array.toList_push,MB_get]
 show (MB enc l ++ [_])[m]? = _
 rcases Nat.lt_trichotomy m l.length with h | h | h
 ·rw [List.getElem?_append_left (by rw [MB_len]; exact h),List.getElem?_append_left h,MB_get]
 ·subst h
  rw [List.getElem?_append_right (by rw [MB_len]; exact Nat.le_refl _),List.getElem?_append_right (Nat.le_refl _),MB_len,Nat.sub_self]; rfl
 ·rw [List.getElem?_eq_none (by simp [MB_len]; omega),List.getElem?_eq_none (by simp; omega)]; rfl
theorem MB_set (l:List (κ × Value)) (j:Nat) (k:κ) (v v0:Value) (hj:l[j]? = some (k,v0)) (f:MapEntry → MapEntry) (hf:∀ e:MapEntry,e.key = enc k → f e = { key:=enc k,val:=v,born:=e.born }):(MB enc l).toArray.modify j f = (MB enc (l.set j (k,v))).toArray:=by
 apply Array.ext'
 apply List.ext_getElem?
 intro m
 rw [Array.toList_modify,List.getElem?_modify,MB_get]
 show _ = (MB enc (l.set j (k,v)))[m]?
 rw [MB_get,List.getElem?_set]
 have hlt:=(List.getElem?_eq_some_iff.1 hj).1
 by_cases hjm:j = m
 ·subst hjm
  rw [hj,if_pos rfl,if_pos hlt]
  simp [hf]
 ·rw [if_neg hjm]
  cases l[m]? <;> simp [hjm]
end
section
variable {P : Program} {kt : TypeId} {κ : Type} [DecidableEq κ] {enc : κ → Value} {o : Oper} {ρ : Operand → Value} {h : Heap} {K' : Value → Heap → Prop}
theorem putK_at {l:List (κ × Value)} {k:κ} {v v0:Value} {j:Nat} (n1:Keys1 l) (hj:l[j]? = some (k,v0)):putK l k v = l.set j (k,v):=by
 have hh:hasK l k = true:=hasK_mem.2 (List.mem_map.2 ⟨_,List.mem_of_getElem? hj,rfl⟩)
 unfold putK
 rw [hh]
 simp only [if_true]
 apply List.ext_getElem?
 intro m
 rw [List.getElem?_map,List.getElem?_set]
 have hlt:=(List.getElem?_eq_some_iff.1 hj).1
 by_cases hjm:j = m
 ·subst hjm; rw [hj,if_pos rfl,if_pos hlt]; simp
 ·rw [if_neg hjm]
  cases hl:l[m]? with
  | none=>rfl
  | some p =>
   have hne:k ≠ p.1:=by
    intro e1
    have hml:=(List.getElem?_eq_some_iff.1 hl).1
    have hnd:=List.pairwise_iff_getElem.1 n1
    have e2:(l.map (·.1))[j]'(by simpa using hlt) = k:=by
     have:l[j] = (k,v0):=(List.getElem?_eq_some_iff.1 hj).2
     simp [this]
    have e3:(l.map (·.1))[m]'(by simpa using hml) = k:=by
     have:l[m] = p:=(List.getElem?_eq_some_iff.1 hl).2
     simp [this,e1]
    rcases Nat.lt_or_gt_of_ne hjm with h1 | h1
    ·exact hnd j m _ _ h1 (by rw [e2,e3])
    ·exact hnd m j _ _ h1 (by rw [e2,e3])
   simp [hne]
theorem putK_no {l:List (κ × Value)} {k:κ} {v:Value} (hh:hasK l k = false):putK l k v = l ++ [(k,v)]:=by
 unfold putK
 rw [hh]; rfl
omit [DecidableEq κ] in
theorem MBn_get (l:List (κ × Value)) (bs:List Nat) (m:Nat):(MBn enc l bs)[m]? = match l[m]?,bs[m]? with
  | some p,some b=>some { key:=enc p.1,val:=p.2,born:=b }
  | _,_=>none:=by
 unfold MBn
 rw [List.getElem?_map]
 cases h1:l[m]? with
 | none =>
  rw [List.getElem?_eq_none (by rw [List.length_zip]; have:=List.getElem?_eq_none_iff.1 h1; omega)]; rfl
 | some p =>
  cases h2:bs[m]? with
  | none=>rw [List.getElem?_eq_none (by rw [List.length_zip]; have:=List.getElem?_eq_none_iff.1 h2; omega)]; rfl
  | some b=>rw [List.getElem?_zip_eq_some (z:=(p,b)) |>.2 ⟨h1,h2⟩]; rfl
omit [DecidableEq κ] in
theorem MBn_push (l:List (κ × Value)) (bs:List Nat) (hlen:bs.length = l.length) (k:κ) (v:Value) (b:Nat):(MBn enc l bs).toArray.push { key:=enc k,val:=v,born:=b } = (MBn enc (l ++ [(k,v)]) (bs ++ [b])).toArray:=by
 unfold MBn
 rw [List.zip_append hlen.symm]
 simp
omit [DecidableEq κ] in
theorem MBn_set (l:List (κ × Value)) (bs:List Nat) (j:Nat) (k:κ) (v v0:Value) (hj:l[j]? = some (k,v0)) (f:MapEntry → MapEntry) (hf:∀ e:MapEntry,e.key = enc k → f e = { key:=enc k,val:=v,born:=e.born }):(MBn enc l bs).toArray.modify j f = (MBn enc (l.set j (k,v)) bs).toArray:=by
 apply Array.ext'
 apply List.ext_getElem?
 intro m
 rw [Array.toList_modify,List.getElem?_modify,MBn_get]
 show _ = (MBn enc (l.set j (k,v)) bs)[m]?
 rw [MBn_get,List.getElem?_set]
 have hlt:=(List.getElem?_eq_some_iff.1 hj).1
 by_cases hjm:j = m
 ·subst hjm
  rw [hj,if_pos rfl,if_pos hlt]
  cases bs[j]? <;> simp [hf]
 ·rw [if_neg hjm]
  cases l[m]? <;> cases bs[m]? <;> simp [hjm]
theorem s_mapUpdateB (K:KeyLaw P kt enc) {t et:TypeId} {m x y:Operand} {b cl:Nat} {l:List (κ × Value)} {bs:List Nat} {k:κ} {d:TypeDesc} {v:Value} (ho:o.op = .mapUpdate t m x y) (ht:P.underlying t = some (.map kt et)) (hk:P.underlying kt = some d)
  (hm:ρ m = .map (some b)) (hx:ρ x = enc k) (hy:ρ y = v) (e:h b = some (.map (MBn enc l bs).toArray cl)) (hbs:Bs bs cl l.length) (n1:Keys1 l)
  (kk:∀ bs',Bs bs' (cl + ((putK l k v).length - l.length)) (putK l k v).length → (bs = List.range l.length ∧ cl = l.length → bs' = List.range (putK l k v).length ∧ cl + ((putK l k v).length - l.length) = (putK l k v).length) → K' undef (h.set b (.map (MBn enc (putK l k v) bs').toArray (cl + ((putK l k v).length - l.length))))):SOp P o ρ h K':=by
 intro w rw_
 have hb:=rw_ b _ e
 have hf:=run_findKey K hk k w (MBn enc l bs) l (MBn_rep enc l bs hbs.len)
 cases hfk:findK k l 0 with
 | none =>
  have hh:=(findK_none k l 0).1 hfk
  have hcl:cl + ((putK l k v).length - l.length) = cl + 1:=by rw [putK_no hh]; simp
  rw [hcl] at kk
  have kk:=kk (bs ++ [cl]) (by
   rw [putK_no hh]
   refine ⟨by simp [hbs.len],?_,fun b hb=>?_⟩
   ·rw [List.nodup_append]
    refine ⟨hbs.nd,by simp,fun a ha c hc e=>?_⟩
    simp only [List.mem_singleton] at hc
    have:=hbs.lt a ha
    omega
   ·rcases List.mem_append.1 hb with hb | hb
    ·have:=hbs.lt b hb; omega
    ·simp only [List.mem_singleton] at hb; omega) (fun ⟨h1,h2⟩=>by
   rw [putK_no hh,h1,h2]
   simp [List.range_succ])
  rw [putK_no hh] at kk
  refine .inl ⟨undef,_,_,.inr ⟨rfl,?_⟩,kk,rw_.setObj e,Step.setObj e⟩
  simp only [execOp,ho,Instr.mapUpdate,Sem.run_bind,run_underlying ht,Result.andThen_ok,hm,hx,hy,getObj,Sem.run,hb,Sem.run_pure,K.check,hf,hfk]
  simp [Instr.mapUpdate,setObj,Sem.run,hb,← MBn_push l bs hbs.len]
 | some p =>
  obtain ⟨j,v0⟩:=p
  obtain ⟨j',hj,hl⟩:=findK_some k l 0 j v0 hfk
  have hj:j = j':=by omega
  subst hj
  have hlen:(putK l k v).length = l.length:=by rw [putK_at n1 hl]; simp
  have hcl:cl + ((putK l k v).length - l.length) = cl:=by rw [hlen]; omega
  rw [hcl] at kk
  have kk:=kk bs (by rw [hlen]; exact hbs) (fun h=>by rw [hlen]; exact h)
  rw [putK_at n1 hl] at kk
  have hms:=MBn_set (enc:=enc) l bs j k v v0 hl (fun e=>{ e with key:=enc k,val:=v }) (fun e _=>rfl)
  have hjb:∃ c,bs[j]? = some c:=by
   have:=(List.getElem?_eq_some_iff.1 hl).1
   exact ⟨_,List.getElem?_eq_getElem (by rw [hbs.len]; exact this)⟩
  obtain ⟨c,hjb⟩:=hjb
  have he1:(MBn enc l bs)[j]? = some { key:=enc k,val:=v0,born:=c }:=by rw [MBn_get,hl,hjb]
  refine .inl ⟨undef,_,_,.inr ⟨rfl,?_⟩,kk,rw_.setObj e,Step.setObj e⟩
  rw [← hms]
  simp only [execOp,ho,Instr.mapUpdate,Sem.run_bind,run_underlying ht,Result.andThen_ok,hm,hx,hy,getObj,Sem.run,hb,Sem.run_pure,K.check,hf,hfk]
  simp [Instr.keyThatStays,he1,K.bits,setObj,Sem.run,hb]
theorem s_mapEntryM (K:KeyLaw P kt enc) {t et:TypeId} {m x:Operand} {b:Nat} {l:List (κ × Value)} {k:κ} {d:TypeDesc} {z:Value} (ho:o.op = .mapEntry t m x) (ht:P.underlying t = some (.map kt et)) (hk:P.underlying kt = some d) (hz:zeroV P et = some z)
  (hm:ρ m = .map (some b)) (hx:ρ x = enc k) (e:h b = some (.map (MB enc l).toArray l.length))
  (k1:∀ j v,findK k l 0 = some (j,v) → K' (.tuple #[v,.int .i64 (j:Nat)]) (h.set b (.map (MB enc l).toArray l.length))) (k2:findK k l 0 = none → K' (.tuple #[z,.int .i64 (l.length:Nat)]) (h.set b (.map (MB enc (l ++ [(k,z)])).toArray (l.length + 1)))):SOp P o ρ h K':=by
 obtain ⟨i,hi,hzz⟩:=zeroV_spec hz
 intro w rw_
 have hb:=rw_ b _ e
 have hf:=run_findKey K hk k w (MB enc l) l (MB_rep enc l)
 cases hfk:findK k l 0 with
 | none =>
  refine .inl ⟨_,_,_,.inl ?_,k2 hfk,rw_.setObj e,Step.setObj e⟩
  simp only [execOp,ho,Instr.mapEntry,Sem.run_bind,run_underlying ht,Result.andThen_ok,hm,hx,getObj,Sem.run,hb,Sem.run_pure,K.check,hf,hfk]
  simp [zeroValue,typeInfo,program,Sem.run,hi,hzz,setObj,hb,goInt,← MB_push]
 | some p =>
  obtain ⟨j,v0⟩:=p
  obtain ⟨j',hj,hl⟩:=findK_some k l 0 j v0 hfk
  have hj:j = j':=by omega
  subst hj
  have he1:(MB enc l)[j]? = some { key:=enc k,val:=v0,born:=j }:=by rw [MB_get,hl]; rfl
  have hid:(MB enc l).toArray.modify j (fun e=>{ e with key:=enc k }) = (MB enc l).toArray:=by
   apply Array.ext'
   apply List.ext_getElem?
   intro m
   rw [Array.toList_modify,List.getElem?_modify]
   show _ <$> (MB enc l)[m]? = (MB enc l)[m]?
   by_cases hjm:j = m
   ·subst hjm; rw [he1]; simp
   ·cases (MB enc l)[m]? <;> simp [hjm]
  refine .inl ⟨_,_,_,.inl ?_,k1 j v0 hfk,rw_.setObj e,Step.setObj e⟩
  simp only [execOp,ho,Instr.mapEntry,Sem.run_bind,run_underlying ht,Result.andThen_ok,hm,hx,getObj,Sem.run,hb,Sem.run_pure,K.check,hf,hfk]
  simp [Instr.keyThatStays,he1,K.bits,setObj,Sem.run,hb,goInt]
  rw [← hid]
  simp
omit [DecidableEq κ] in
theorem s_entryStoreM {t:TypeId} {m s x:Operand} {b j:Nat} {l:List (κ × Value)} {k:κ} {v v0:Value} (ho:o.op = .entryStore t m s x)
  (hm:ρ m = .map (some b)) (hs:ρ s = .int .i64 (j:Nat)) (hx:ρ x = v) (e:h b = some (.map (MB enc l).toArray l.length)) (hj:l[j]? = some (k,v0)) (kk:K' undef (h.set b (.map (MB enc (l.set j (k,v))).toArray l.length))):SOp P o ρ h K':=by
 intro w rw_
 have hb:=rw_ b _ e
 have he1:(MB enc l)[j]? = some { key:=enc k,val:=v0,born:=j }:=by rw [MB_get,hj]; rfl
 have hlt:j < (MB enc l).length:=(List.getElem?_eq_some_iff.1 he1).1
 have hfind:(MB enc l).toArray.findIdx? (fun e=>(e.born:Int) == (j:Int)) = some j:=by
  rw [Array.findIdx?_eq_some_iff_getElem]
  refine ⟨by simpa using hlt,?_,fun i hi=>?_⟩
  ·have:(MB enc l)[j] = { key:=enc k,val:=v0,born:=j }:=(List.getElem?_eq_some_iff.1 he1).2
   simp [this]
  ·have hil:i < (MB enc l).length:=by omega
   have h1:=MB_get (enc:=enc) l i
   rw [List.getElem?_eq_getElem hil] at h1
   have h2:((MB enc l)[i]).born = i:=by
    cases hli:l[i]? with
    | none=>rw [hli] at h1; cases h1
    | some p=>rw [hli] at h1; simp only [Option.map_some,Option.some.injEq] at h1; rw [h1]
   simp only [List.getElem_toArray,h2,beq_iff_eq]
   omega
 have hms:=MB_set (enc:=enc) l j k v v0 hj (fun e=>{ e with val:=v }) (fun e he=>by cases e; simp at he; simp [he])
 refine .inl ⟨undef,_,_,.inr ⟨rfl,?_⟩,kk,rw_.setObj e,Step.setObj e⟩
 rw [← hms]
 simp only [execOp,ho,Instr.entryStore,hm,hs,hx,Sem.run_bind,getObj,Sem.run,hb,Sem.run_pure,Result.andThen_ok,asInt,asIntOf,hfind]
 simp [setObj,Sem.run,hb,hfind]
end
section
variable {P : Program} {N : Kn P} {β : Bk} {H : CH} {n0 : Id} {ck : Nat} {h : Heap} {T : SL CV} {Tc : Tm} {o : Oper}
theorem aMup_ok (r:TR β T Tc) (hr:HR N.toKy β H n0 ck h) {t:Nat} {s:Sh} {m k v:CP} (hm:m.ok = true) (hk:k.ok = true) (hv:v.ok = true) (hs:shOk N.sh t s = true) (hop:o.op = .mapUpdate t m.op k.op v.op):AoOk N β H ck h Tc o (aMup t s m k v T H n0 ck):=by
 unfold aMup eMup
 simp only [putER_eq]
 have hsh:=shOk_spec hs
 obtain ⟨kt,et,d,hu,hd,law⟩:=N.law t s hsh
 split
 case h_2=>trivial
 rename_i id l e0 e1
 obtain ⟨hl,hkv⟩:=keyOf_ok e1 (CP.get_ok r k hk)
 split
 case h_2=>trivial
 rename_i st t' fl cl es hc
 cases htt:Nat.beq t t' with
 | false=>trivial
 | true =>
  have:=Nat.eq_of_beq_eq_true htt
  subst this
  obtain ⟨y,hy,hmv⟩:=g_m r hm e0
  obtain ⟨s',l',bs,hs',hb,hbs,hfl,n1,hkk,hvv⟩:=hr.map hc hy
  rw [hsh] at hs'
  cases hs'
  obtain ⟨p1,p2⟩:=putE_ok hl (CP.get_ok r v hv) hkk hvv n1
  have hl1:l'.length = es.length:=by have:=congrArg List.length hkk; simpa using this
  have hl2:(putK l' ⟨l,hl⟩ (ev Tc v.op)).length = (putE l (v.get T) es).length:=by have:=congrArg List.length p1; simpa using this
  refine s_mapUpdateB law hop hu hd hmv hkv rfl hb hbs n1 fun bs' h1 h2=>?_
  rw [hl1,hl2] at h1 h2 ⊢
  exact aft_turn hr hy (live_map hc) rfl (.map s hsh _ bs' (Heap.set_same _ _ _) (by rw [hl2]; exact h1) (fun e=>by rw [hl2]; exact h2 (by rw [← hl1]; exact hfl e)) (putK_keys _ n1 _ _) p1 p2) .u
theorem idxE_ok {s:Sh} {k:List Int} (hk:k.length = s.n):∀ {es:List (List Int × CV)} {l:List (s.key × Value)} (j:Nat),l.map (fun p=>p.1.1) = es.map (·.1) → VRs β (es.map (·.2)) (l.map (·.2)) →
  match idxE k es j with
  | some (i,c)=>∃ v,findK (⟨k,hk⟩:s.key) l j = some (i,v) ∧ VR β c v
  | none=>findK (⟨k,hk⟩:s.key) l j = none
 | [],[],_,_,_=>rfl
 | [],_ :: _,_,e,_=>by simp at e
 | _ :: _,[],_,e,_=>by simp at e
 | e :: es,(p,u) :: l,j,h1,h2=>by
  simp only [List.map_cons,List.cons.injEq] at h1
  simp only [List.map_cons] at h2
  cases h2 with
  | cons r1 r2 =>
   have ih:=idxE_ok hk (j + 1) h1.2 r2
   have hd:keq k e.1 = decide ((⟨k,hk⟩:s.key) = p):=by
    rw [keq_eq,← h1.1,Bool.eq_iff_iff,decide_eq_true_eq,decide_eq_true_eq]
    exact ⟨fun e=>Subtype.ext e,fun e=>congrArg Subtype.val e⟩
   unfold idxE findK
   rw [hd]
   by_cases hkp:(⟨k,hk⟩:s.key) = p
   ·simp only [hkp,decide_true,cond_true,if_true]
    exact ⟨u,rfl,r1⟩
   ·simp only [hkp,decide_false,cond_false,if_false]
    exact ih
theorem aMen_ok (r:TR β T Tc) (hr:HR N.toKy β H n0 ck h) {t et:Nat} {s:Sh} {m k:CP} {z:CV} (hm:m.ok = true) (hk:k.ok = true) (hs:shOk N.sh t s = true) (hz:z.shut = true) (hzi:zIs P et z = true) (het:(match P.underlying t with | some (.map _ et')=>et' == et | _=>false) = true)
  (hop:o.op = .mapEntry t m.op k.op):AoOk N β H ck h Tc o (aMen t s m k et z T H n0 ck):=by
 unfold aMen eMen
 simp only [idxER_eq]
 have hsh:=shOk_spec hs
 obtain ⟨kt,et',d,hu,hd,law⟩:=N.law t s hsh
 rw [hu] at het
 have het:et' = et:=by simpa using het
 subst het
 have hzv:=zIs_ok hzi
 split
 case h_2=>trivial
 rename_i id l e0 e1
 obtain ⟨hl,hkv⟩:=keyOf_ok e1 (CP.get_ok r k hk)
 split
 case h_2=>trivial
 rename_i st t' cl es hc
 cases htt:Nat.beq t t' with
 | false=>trivial
 | true =>
  have:=Nat.eq_of_beq_eq_true htt
  subst this
  obtain ⟨y,hy,hmv⟩:=g_m r hm e0
  obtain ⟨s',l',bs,hs',hb,hbs,hfl,n1,hkk,hvv⟩:=hr.map hc hy
  rw [hsh] at hs'
  cases hs'
  obtain ⟨rfl,rfl⟩:=hfl rfl
  rw [MBn_range] at hb
  have hix:=idxE_ok hl 0 hkk hvv
  have hlen:l'.length = es.length:=by have:=congrArg List.length hkk; simpa using this
  simp only [cond_true]
  split
  ·rename_i j c hj
   rw [hj] at hix
   obtain ⟨v,hf,rv⟩:=hix
   refine s_mapEntryM law hop hu hd hzv hmv hkv hb (fun j' v' e2=>?_) (fun e2=>by rw [e2] at hf; cases hf)
   rw [hf] at e2
   cases e2
   exact aft_turn hr hy (live_map hc) rfl (.map s hsh _ _ (by rw [MBn_range]; exact Heap.set_same _ _ _) (Bs.range _) (fun _=>⟨rfl,rfl⟩) n1 hkk hvv) (.tup (.cons rv (.cons (.i .i64 (Int.ofNat _)) .nil)))
  ·rename_i hj
   rw [hj] at hix
   refine s_mapEntryM law hop hu hd hzv hmv hkv hb (fun j' v' e2=>by rw [e2] at hix; cases hix) (fun e2=>?_)
   have n2:Keys1 (l' ++ [((⟨l,hl⟩:s.key),z.val)]):=by
    have:=putK_keys l' n1 (⟨l,hl⟩:s.key) z.val
    rwa [putK_no ((findK_none _ _ 0).1 e2)] at this
   rw [hlen]
   refine aft_turn hr hy (live_map hc) rfl (.map s hsh (l' ++ [((⟨l,hl⟩:s.key),z.val)]) (List.range (l' ++ [((⟨l,hl⟩:s.key),z.val)]).length) ?_ ?_ ?_ n2 (by simp [hkk]) (by simpa using hvv.append (.cons (shut_ok β z hz) .nil))) (.tup (.cons (shut_ok β z hz) (.cons (.i .i64 (Int.ofNat _)) .nil)))
   ·rw [MBn_range,Heap.set_same]
   ·have:(l' ++ [((⟨l,hl⟩:s.key),z.val)]).length = l'.length + 1:=by simp
    rw [this,hlen]; exact Bs.range _
   ·exact fun _=>⟨rfl,by simp [hlen]⟩
theorem setE_ok {s:Sh} {c:CV} {v:Value} (hc:VR β c v):∀ {es es':List (List Int × CV)} {j:Nat} {l:List (s.key × Value)},setE c es j = some es' → l.map (fun p=>p.1.1) = es.map (·.1) → VRs β (es.map (·.2)) (l.map (·.2)) →
  ∃ k v0,l[j]? = some (k,v0) ∧ (l.set j (k,v)).map (fun p=>p.1.1) = es'.map (·.1) ∧ VRs β (es'.map (·.2)) ((l.set j (k,v)).map (·.2))
 | [],_,_,_,e,_,_=>by simp [setE] at e
 | _ :: _,_,_,[],_,e,_=>by simp at e
 | e :: es,es',0,(p,u) :: l,he,h1,h2=>by
  simp only [List.map_cons,List.cons.injEq] at h1
  simp only [List.map_cons] at h2
  cases he
  cases h2 with
  | cons r1 r2=>exact ⟨p,u,rfl,by simp [h1.1,h1.2],by simpa using .cons hc r2⟩
 | e :: es,es',j + 1,(p,u) :: l,he,h1,h2=>by
  simp only [List.map_cons,List.cons.injEq] at h1
  simp only [List.map_cons] at h2
  unfold setE at he
  split at he
  ·rename_i l2 hl2
   cases he
   cases h2 with
   | cons r1 r2 =>
    obtain ⟨k,v0,i1,i2,i3⟩:=setE_ok hc hl2 h1.2 r2
    exact ⟨k,v0,by simpa using i1,by simp only [List.set_cons_succ,List.map_cons,i2,h1.1],by simp only [List.set_cons_succ,List.map_cons]; exact .cons r1 i3⟩
  ·cases he
theorem keys_set {κ:Type} {l:List (κ × Value)} {j:Nat} {k:κ} {v v0:Value} (n1:Keys1 l) (hj:l[j]? = some (k,v0)):Keys1 (l.set j (k,v)):=by
 have:(l.set j (k,v)).map (·.1) = l.map (·.1):=by
  apply List.ext_getElem?
  intro m
  rw [List.getElem?_map,List.getElem?_map,List.getElem?_set]
  have hlt:=(List.getElem?_eq_some_iff.1 hj).1
  by_cases hjm:j = m
  ·subst hjm; rw [if_pos rfl,if_pos hlt,hj]; rfl
  ·rw [if_neg hjm]
 unfold Keys1
 rw [this]; exact n1
theorem aMst_ok (r:TR β T Tc) (hr:HR N.toKy β H n0 ck h) {t:Nat} {m k v:CP} (hm:m.ok = true) (hk:k.ok = true) (hv:v.ok = true) (hop:o.op = .entryStore t m.op k.op v.op):AoOk N β H ck h Tc o (aMst t m k v T H n0 ck):=by
 unfold aMst eMst
 simp only [setER_eq]
 split
 case h_2=>trivial
 rename_i id j e0 e1
 split
 case h_2=>trivial
 rename_i st t' cl es hc
 split
 case h_2=>trivial
 rename_i l hl
 obtain ⟨y,hy,hmv⟩:=g_m r hm e0
 obtain ⟨s',l',bs,hs',hb,hbs,hfl,n1,hkk,hvv⟩:=hr.map hc hy
 obtain ⟨rfl,rfl⟩:=hfl rfl
 rw [MBn_range] at hb
 obtain ⟨k',v0,i1,i2,i3⟩:=setE_ok (CP.get_ok r v hv) hl hkk hvv
 refine s_entryStoreM hop hmv (g_i r hk e1) rfl hb i1 (aft_turn hr hy (live_map hc) rfl (.map s' hs' (l'.set j (k',ev Tc v.op)) (List.range (l'.set j (k',ev Tc v.op)).length) ?_ ?_ ?_ (keys_set n1 i1) i2 i3) .u)
 ·rw [MBn_range,Heap.set_same]
 ·rw [List.length_set]; exact Bs.range _
 ·exact fun _=>⟨rfl,by rw [List.length_set]⟩
end
end Go.Proofs.YtihdpjinaafenaaGreatDoor.Ce

/- The evaluator: regions. -/
namespace Go.Proofs.YtihdpjinaafenaaGreatDoor.Ce
open Go.Proofs.YtihdpjinaafenaaGreatDoor.Sl
open Ab (isOne isMany isSl isArr isIntT isStr zeroIs okCall)
def K.rd (k:K):SL CV → CH → Ro:=K.rec (motive:=fun _=>SL CV → CH → Ro) rMv rMv rPick rBin rBins rEq rEqst rNot rBnot rConv rCstr rNilc rFa rFd1 rFdN rIx rIxa rIxs rIxv rLd rLdN rLen rLens rLenm rMin rMax rBld rExt rMkf rMki rSli rSl0 rLku (fun _ _ _ _=>.no) (fun _ _ _ _=>.no) (fun _ _ _ _ _=>.no) (fun _ _ _ _ _ _=>.no) (fun _ _ _ _ _ _ _ _ _=>.no) (fun _ _ _ _ _ _ _=>.no) (fun _ _ _ _=>.no) (fun _ _ _ _ _ _ _ _=>.no) (fun _ _ _ _=>.no) (fun _ _ _ _ _ _ _=>.no) (fun _ _ _ _ _ _ _ _=>.no) (fun _ _ _ _ _ _=>.no) (fun _ _ _ _ _ _ _=>.no) (fun _ _ _ _ _=>.no) (fun _ _ _ _ _=>.no) rNeg rSlis rSlia rS2a rLdg rIxg (fun _ _ _=>.no) k
def K.al (k:K):SL CV → Nat → Option Al:=K.rec (motive:=fun _=>SL CV → Nat → Option Al) (fun _ _ _=>none) (fun _ _ _=>none) (fun _ _ _ _ _=>none) (fun _ _ _ _ _ _ _=>none) (fun _ _ _ _ _ _ _=>none) (fun _ _ _ _ _ _ _ _=>none) (fun _ _ _ _ _ _ _ _=>none) (fun _ _ _ _=>none) (fun _ _ _ _=>none) (fun _ _ _ _ _ _=>none) (fun _ _ _ _ _=>none) (fun _ _ _=>none) (fun _ _ _ _ _ _=>none) (fun _ _ _ _ _ _=>none) (fun _ _ _ _ _ _ _=>none) (fun _ _ _ _ _ _ _=>none) (fun _ _ _ _ _ _ _ _=>none) (fun _ _ _ _ _=>none) (fun _ _ _ _ _ _ _=>none) (fun _ _ _ _=>none) (fun _ _ _ _ _=>none) (fun _ _ _ _ _=>none) (fun _ _ _ _=>none) (fun _ _ _ _=>none) (fun _ _ _ _ _=>none) (fun _ _ _ _ _=>none) (fun _ _ _ _ _ _=>none) (fun _ _ _ _=>none) (fun _ _ _ _ _=>none) (fun _ _ _ _=>none) (fun _ _ _ _ _ _ _ _=>none) (fun _ _ _ _ _ _ _=>none) (fun _ _ _ _ _ _ _ _ _=>none) lBox lAlc (fun _ _ _ _ _=>none) (fun _ _ _ _ _ _=>none) (fun _ _ _ _ _ _ _ _ _=>none) lBsl (fun _ _ _ _=>none) lMks lMkm (fun _ _ _ _ _ _ _=>none) (fun _ _ _ _ _ _ _ _=>none) (fun _ _ _ _ _ _=>none) (fun _ _ _ _ _ _ _=>none) (fun _ _ _ _ _=>none) (fun _ _ _ _ _=>none) (fun _ _ _ _=>none) (fun _ _ _ _ _ _=>none) (fun _ _ _ _ _ _ _ _ _=>none) (fun _ _ _ _ _=>none) (fun _ _ _ _ _=>none) (fun _ _ _ _ _ _ _ _ _=>none) (fun _ _ _=>none) k
def K.ac (k:K):SL CV → CH → Id → Nat → Ao:=K.rec (motive:=fun _=>SL CV → CH → Id → Nat → Ao) (fun _ _ _ _ _=>.no) (fun _ _ _ _ _=>.no) (fun _ _ _ _ _ _ _=>.no) (fun _ _ _ _ _ _ _ _ _=>.no) (fun _ _ _ _ _ _ _ _ _=>.no) (fun _ _ _ _ _ _ _ _ _ _=>.no) (fun _ _ _ _ _ _ _ _ _ _=>.no) (fun _ _ _ _ _ _=>.no) (fun _ _ _ _ _ _=>.no) (fun _ _ _ _ _ _ _ _=>.no) (fun _ _ _ _ _ _ _=>.no) (fun _ _ _ _ _=>.no) (fun _ _ _ _ _ _ _ _=>.no) (fun _ _ _ _ _ _ _ _=>.no) (fun _ _ _ _ _ _ _ _ _=>.no) (fun _ _ _ _ _ _ _ _ _=>.no) (fun _ _ _ _ _ _ _ _ _ _=>.no) (fun _ _ _ _ _ _ _=>.no) (fun _ _ _ _ _ _ _ _ _=>.no) (fun _ _ _ _ _ _=>.no) (fun _ _ _ _ _ _ _=>.no) (fun _ _ _ _ _ _ _=>.no) (fun _ _ _ _ _ _=>.no) (fun _ _ _ _ _ _=>.no) (fun _ _ _ _ _ _ _=>.no) (fun _ _ _ _ _ _ _=>.no) (fun _ _ _ _ _ _ _ _=>.no) (fun _ _ _ _ _ _=>.no) (fun _ _ _ _ _ _ _=>.no) (fun _ _ _ _ _ _=>.no) (fun _ _ _ _ _ _ _ _ _ _=>.no) (fun _ _ _ _ _ _ _ _ _=>.no) (fun _ _ _ _ _ _ _ _ _ _ _=>.no) (fun x0 x1 T H n ck=>aAl (lBox x0 x1 T ck) H n ck) (fun x0 x1 T H n ck=>aAl (lAlc x0 x1 T ck) H n ck) aSt aStN aApp (fun x0 x1 x2 x3 x4 T H n ck=>aAl (lBsl x0 x1 x2 x3 x4 T ck) H n ck) aBs0 (fun x0 x1 x2 x3 x4 x5 T H n ck=>aAl (lMks x0 x1 x2 x3 x4 x5 T ck) H n ck) (fun x0 x1 T H n ck=>aAl (lMkm x0 x1 T ck) H n ck) aMup aMen aMst aClr (fun _ _ _ _ _ _ _=>.no) (fun _ _ _ _ _ _ _=>.no) (fun _ _ _ _ _ _=>.no) (fun _ _ _ _ _ _ _ _=>.no) (fun _ _ _ _ _ _ _ _ _ _ _=>.no) (fun _ _ _ _ _ _ _=>.no) (fun _ _ _ _ _ _ _=>.no) (fun _ _ _ _ _ _ _ _ _ _ _=>.no) (fun _ _ _ _ _=>.no) k
section
variable {P : Program} {N : Kn P} {β : Bk} {H : CH} {n0 : Id} {ck : Nat} {h : Heap} {T : SL CV} {Tc : Tm} {o : Oper}
theorem rd_ok (r:TR β T Tc) (hr:HR N.toKy β H n0 ck h) {k:K} (hs:k.side N = true) (hop:o.op = k.op):RoOk P β H h Tc o (k.rd T H):=by
 cases k <;> simp only [K.side,Bool.and_eq_true,beq_iff_eq,decide_eq_true_eq] at hs
 case mv x=>exact rMv_ok (H:=H) r hs (.inl hop)
 case asg x=>exact rMv_ok (H:=H) r hs (.inr hop)
 case pick c x y=>exact rPick_ok (H:=H) r hs.1.1 hs.1.2 hs.2 hop
 case bin op t x y ty=>exact rBin_ok (H:=H) r hs.1 hs.2 hop
 case bins op t x y ty=>exact rBins_ok (H:=H) r hs.1 hs.2 hop
 case eqc n c t x y ty=>exact rEq_ok (H:=H) r hs.1.1 hs.1.2 hs.2 hop
 case eqst n ks t x y ty =>
  refine rEqst_ok (N:=N) (H:=H) r hs.1.1 hs.1.2 ?_ hop
  have h2:=hs.2
  split at h2
  ·rename_i ks' e; rw [e,of_decide_eq_true h2]
  ·cases h2
 case not t x=>exact rNot_ok (H:=H) r hs hop
 case bnot t x=>exact rBnot_ok (H:=H) r hs hop
 case conv s d x k=>exact rConv_ok (H:=H) r hs.1.1 hs.1.2 hs.2 hop
 case cstr s d x=>exact rCstr_ok (H:=H) r hs.1.1 hs.1.2 hs.2 hop
 case nilc x=>exact rNilc_ok (H:=H) r hs hop
 case fa t x f off=>exact rFa_ok (H:=H) r hs.1 hs.2 hop
 case fd1 t x f off=>exact rFd1_ok (H:=H) r hs.1 hs.2 hop
 case fdN t x f off n=>exact rFdN_ok (H:=H) r hs.1 hs.2 hop
 case ix t x i e sz=>exact rIx_ok (H:=H) r hs.1.1.1.1 hs.1.1.1.2 hs.1.1.2 hs.1.2 hs.2 hop
 case ixa t x i e sz n=>exact rIxa_ok (H:=H) r hs.1.1.1.1 hs.1.1.1.2 hs.1.1.2 hs.1.2 hs.2 hop
 case ixs t x i=>exact rIxs_ok (H:=H) r hs.1.1 hs.1.2 hs.2 hop
 case ixv t x i e n=>exact rIxv_ok (H:=H) r hs.1.1.1.1 hs.1.1.1.2 hs.1.1.2 hs.1.2 hs.2 hop
 case ld t x=>exact rLd_ok (H:=H) r hr hs.1 hs.2 hop
 case ldN t x n=>exact rLdN_ok (H:=H) r hr hs.1.1 hs.1.2 hs.2 hop
 case len t x e=>exact rLen_ok (H:=H) r hs.1 hs.2 hop
 case lens t x=>exact rLens_ok (H:=H) r hs.1 hs.2 hop
 case lenm t x=>exact rLenm_ok (H:=H) r hr hs.1 hs.2 hop
 case cmin x y t=>exact rMin_ok (H:=H) r hs.1 hs.2 hop
 case cmax x y t=>exact rMax_ok (H:=H) r hs.1 hs.2 hop
 case bld t parts pl z =>
  refine rBld_ok (H:=H) r hs.1.1.1.1 ?_ hs.1.1.2 hs.1.2 hs.2 hop
  have:=hs.1.1.1.2
  simpa using this
 case ext x i=>exact rExt_ok (H:=H) r hs hop
 case mkf f xs ys=>exact rMkf_ok (H:=H) r hs.1 hs.2 hop
 case mki t x=>exact rMki_ok (H:=H) r hs.1 hs.2 hop
 case sli t x lo hi e sz=>exact rSli_ok (H:=H) r hs.1.1.1.1.1 hs.1.1.1.1.2 hs.1.1.1.2 hs.1.1.2 hs.1.2 hs.2 hop
 case sl0 t x hi mx e=>exact rSl0_ok (H:=H) r hs.1.1.1.1 hs.1.1.1.2 hs.1.1.2 hs.1.2 hs.2 hop
 case neg t x=>exact rNeg_ok (H:=H) r hs hop
 case slis t x lo hi=>exact rSlis_ok (H:=H) r hs.1.1.1 hs.1.1.2 hs.1.2 hs.2 hop
 case slia t x lo hi e sz n=>exact rSlia_ok r hr hs.1.1.1.1.1 hs.1.1.1.1.2 hs.1.1.1.2 hs.1.1.2 hs.1.2 hs.2 hop
 case s2a t x n=>exact rS2a_ok (H:=H) r hs.1 hs.2 hop
 case ldg t g id=>exact rLdg_ok r hr hs.1 hs.2 hop
 case ixg t g id i e sz n=>exact rIxg_ok r hr hs.1.1.1.1 hs.1.1.1.2 hs.1.1.2 hs.1.2 hs.2 hop
 case lku t s x k ok et z=>exact rLku_ok (H:=H) r hr hs.1.1.1.1.1 hs.1.1.1.1.2 hs.1.1.1.2 hs.1.1.2 hs.1.2 hs.2 hop
 all_goals trivial
theorem al_ok (r:TR β T Tc) {k:K} (hs:k.side N = true) (hop:o.op = k.op):AlOk N β Tc o ck (k.al T ck):=by
 cases k <;> simp only [K.side,Bool.and_eq_true,beq_iff_eq,decide_eq_true_eq,Bool.not_eq_true'] at hs
 case box t x=>exact lBox_ok r hs hop
 case alc t zs=>exact lAlc_ok (T:=T) hs.1.1.1 hs.1.1.2 hs.1.2 hop
 case bsl t m parts e sz=>exact lBsl_ok r hs.1.1.1.1.1.1 hs.1.1.1.1.1.2 hs.1.1.1.1.2 hs.1.1.1.2 hs.1.1.2 hs.1.2 hs.2 hop
 case mks t x y e sz zs=>exact lMks_ok r hs.1.1.1.1.1.1.1 hs.1.1.1.1.1.1.2 hs.1.1.1.1.1.2 hs.1.1.1.1.2 hs.1.1.1.2 hs.1.1.2 hs.1.2 hop
 case mkm t s=>exact lMkm_ok (T:=T) hs hop
 all_goals trivial
theorem ac_ok (r:TR β T Tc) (hr:HR N.toKy β H n0 ck h) {k:K} (hs:k.side N = true) (hop:o.op = k.op):AoOk N β H ck h Tc o (k.ac T H n0 ck):=by
 have al:=al_ok (ck:=ck) r hs hop
 cases k <;> simp only [K.side,Bool.and_eq_true,beq_iff_eq,decide_eq_true_eq,Bool.not_eq_true'] at hs
 case box t x=>exact aAl_ok hr al
 case alc t zs=>exact aAl_ok hr al
 case bsl t m parts e sz=>exact aAl_ok hr al
 case mks t x y e sz zs=>exact aAl_ok hr al
 case mkm t s=>exact aAl_ok hr al
 case st t x y=>exact aSt_ok r hr hs.1.1.1 hs.1.1.2 hs.1.2 hs.2 hop
 case stN t x y n=>exact aStN_ok r hr hs.1.1.1 hs.1.1.2 hs.1.2 hs.2 hop
 case app t tx x y e e' sz=>exact aApp_ok r hr hs.1.1.1.1.1 hs.1.1.1.1.2 hs.1.1.1.2 hs.1.1.2 hs.1.2 hs.2 hop
 case bs0 t e=>exact aBs0_ok (T:=T) hr hs.1 hs.2 hop
 case mup t s m k v=>exact aMup_ok r hr hs.1.1.1 hs.1.1.2 hs.1.2 hs.2 hop
 case men t s m k et z=>exact aMen_ok r hr hs.1.1.1.1.1 hs.1.1.1.1.2 hs.1.1.1.2 hs.1.1.2 hs.1.2 hs.2 hop
 case mst t m k v=>exact aMst_ok r hr hs.1.1 hs.1.2 hs.2 hop
 case clr t x e sz zs=>exact aClr_ok r hr hs.1.1.1.1.1.1 hs.1.1.1.1.1.2 hs.1.1.1.1.2 hs.1.1.1.2 hs.1.1.2 hs.1.2 hs.2 hop
 all_goals trivial
theorem isAct_rd {k:K} (h:k.rd T H ≠ .no):isAct k.op = false:=by
 cases k <;> first | rfl | exact absurd rfl h
theorem isAct_ac {k:K} (h:k.ac T H n0 ck ≠ .no):isAct k.op = true:=by
 cases k <;> first | rfl | exact absurd rfl h
end
inductive EN where
 | r (d:Sp) (k:K) (q:Bool)
 | a (d:Option Sp) (k:K) (q:Bool)
 | cl (d:Option Sp) (f:Pos) (args:List CP) (tys:List Nat) (q:Bool)
 | cv (d:Option Sp) (x:CP) (args:List CP) (tys:List Nat) (q:Bool)
 | pre (i:Nat) (d:Sp) (k:K) | bnd (i:Nat) (d:Sp) (k:K)
 | gd (p:Sp) (b:Bool) (x:EN)
abbrev EN.R (d:Sp) (k:K):EN:=.r d k false
abbrev EN.Q (d:Sp) (k:K):EN:=.r d k true
abbrev EN.A (d:Sp) (k:K):EN:=.a (some d) k false
abbrev EN.B (d:Sp) (k:K):EN:=.a (some d) k true
abbrev CF1:=Pos → List CV → CH → Id → Nat → Ao
abbrev YF:=Id → List CV → CH → Id → Nat → Ao
structure CF where
 c:CF1
 y:YF
abbrev RS:=List (Id × Nat)
abbrev ES:=List (Nat × Al)
structure St where
 T:SL CV
 H:CH
 n:Id
 ck:Nat
 rs:RS
 E:ES
def quietOk (rs:RS) (H:CH):Bool:=List.rec (motive:=fun _=>Bool) true (fun e _ ih=>Bool.rec false ih (Nat.beq (hget e.1 H).st e.2)) rs
theorem quietOk_eq (rs:RS) (H:CH):quietOk rs H = rs.all fun e=>Nat.beq (hget e.1 H).st e.2:=by
 induction rs with
 | nil=>rfl
 | cons e r ih =>
  show (Bool.rec false (quietOk r H) (Nat.beq (hget e.1 H).st e.2):Bool) = _
  rw [ih,List.all_cons]
  cases Nat.beq (hget e.1 H).st e.2 <;> rfl
def lookE (i:Nat):ES → Option Al
 | []=>none
 | e :: r=>bif Nat.beq i e.1 then some e.2 else lookE i r
def EN.d:EN → Option Sp
 | .r d _ _=>some d
 | .a d _ _=>d
 | .cl d _ _ _ _=>d
 | .cv d _ _ _ _=>d
 | .pre _ d _=>some d
 | .bnd _ d _=>some d
 | .gd _ _ x=>x.d
section
variable {ρ : Type}
def b1 (x:CP) (F:CV → CH → Ro):Bx (SL CV → CH → Ro):=Bx.rec (fun fx=>.mk fun T H=>F (fx T) H) x.gf
def b2 (x y:CP) (F:CV → CV → CH → Ro):Bx (SL CV → CH → Ro):=Bx.rec (fun fx=>Bx.rec (fun fy=>.mk fun T H=>F (fx T) (fy T) H) y.gf) x.gf
def b3 (x y z:CP) (F:CV → CV → CV → CH → Ro):Bx (SL CV → CH → Ro):=Bx.rec (fun fx=>Bx.rec (fun fy=>Bx.rec (fun fz=>.mk fun T H=>F (fx T) (fy T) (fz T) H) z.gf) y.gf) x.gf
def b1a (x:CP) (F:CV → CH → Id → Nat → Ao):Bx (SL CV → CH → Id → Nat → Ao):=Bx.rec (fun fx=>.mk fun T H n ck=>F (fx T) H n ck) x.gf
def b2a (x y:CP) (F:CV → CV → CH → Id → Nat → Ao):Bx (SL CV → CH → Id → Nat → Ao):=Bx.rec (fun fx=>Bx.rec (fun fy=>.mk fun T H n ck=>F (fx T) (fy T) H n ck) y.gf) x.gf
def b1l (x:CP) (F:CV → Nat → Option Al):Bx (SL CV → Nat → Option Al):=Bx.rec (fun fx=>.mk fun T ck=>F (fx T) ck) x.gf
theorem b1_eq (x:CP) (F:CV → CH → Ro) (T:SL CV) (H:CH):(b1 x F).f T H = F (x.get T) H:=by
 unfold b1 CP.get
 cases x.gf; rfl
theorem b2_eq (x y:CP) (F:CV → CV → CH → Ro) (T:SL CV) (H:CH):(b2 x y F).f T H = F (x.get T) (y.get T) H:=by
 unfold b2 CP.get
 cases x.gf; cases y.gf; rfl
theorem b3_eq (x y z:CP) (F:CV → CV → CV → CH → Ro) (T:SL CV) (H:CH):(b3 x y z F).f T H = F (x.get T) (y.get T) (z.get T) H:=by
 unfold b3 CP.get
 cases x.gf; cases y.gf; cases z.gf; rfl
theorem b1a_eq (x:CP) (F:CV → CH → Id → Nat → Ao) (T:SL CV) (H:CH) (n:Id) (ck:Nat):(b1a x F).f T H n ck = F (x.get T) H n ck:=by
 unfold b1a CP.get
 cases x.gf; rfl
theorem b2a_eq (x y:CP) (F:CV → CV → CH → Id → Nat → Ao) (T:SL CV) (H:CH) (n:Id) (ck:Nat):(b2a x y F).f T H n ck = F (x.get T) (y.get T) H n ck:=by
 unfold b2a CP.get
 cases x.gf; cases y.gf; rfl
theorem b1l_eq (x:CP) (F:CV → Nat → Option Al) (T:SL CV) (ck:Nat):(b1l x F).f T ck = F (x.get T) ck:=by
 unfold b1l CP.get
 cases x.gf; rfl
end
def K.rdF (k:K):Bx (SL CV → CH → Ro):=K.rec (motive:=fun _=>Bx (SL CV → CH → Ro)) (fun x=>b1 x (fun a _=>.ok a)) (fun x=>b1 x (fun a _=>.ok a)) (fun c x y=>b3 c x y (fun c x y _=>fPick c x y)) (fun op _ x y _=>b2 x y (fun a b _=>fBin op a b)) (fun op _ x y _=>b2 x y (fun a b _=>fBins op a b)) (fun n c _ x y _=>b2 x y (fun a b _=>fEq n c a b)) (fun n ks _ x y _=>b2 x y (fun a b _=>fEqst n ks a b)) (fun _ x=>b1 x (fun a _=>fNot a)) (fun _ x=>b1 x (fun a _=>fBnot a)) (fun _ _ x k=>b1 x (fun a _=>fConv a k)) (fun _ _ x=>b1 x (fun a _=>fCstr a)) (fun x=>b1 x (fun a _=>fNilc a)) (fun _ x _ off=>b1 x (fun a _=>fFa a off)) (fun _ x _ off=>b1 x (fun a _=>fFd1 a off)) (fun _ x _ off n=>b1 x (fun a _=>fFdN a off n)) (fun _ x i _ sz=>b2 x i (fun a b _=>fIx a b sz)) (fun _ x i _ sz n=>b2 x i (fun a b _=>fIxa a b sz n)) (fun _ x i=>b2 x i (fun a b _=>fIxs a b)) (fun _ x i _ n=>b2 x i (fun a b _=>fIxv a b n)) (fun _ x=>b1 x fLd) (fun _ x n=>b1 x (fun a H=>fLdN a n H)) (fun _ x _=>b1 x (fun a _=>fLen a)) (fun _ x=>b1 x (fun a _=>fLens a)) (fun _ x=>b1 x fLenm) (fun x y _=>b2 x y (fun a b _=>fMin a b)) (fun x y _=>b2 x y (fun a b _=>fMax a b)) (fun z0 z1 z2 z3=>.mk (K.rd (.bld z0 z1 z2 z3))) (fun x i=>b1 x (fun a _=>fExt a i)) (fun z0 z1 z2=>.mk (K.rd (.mkf z0 z1 z2))) (fun z0 z1=>.mk (K.rd (.mki z0 z1))) (fun z0 z1 z2 z3 z4 z5=>.mk (K.rd (.sli z0 z1 z2 z3 z4 z5))) (fun z0 z1 z2 z3 z4=>.mk (K.rd (.sl0 z0 z1 z2 z3 z4))) (fun z0 z1 z2 z3 z4 z5 z6=>.mk (K.rd (.lku z0 z1 z2 z3 z4 z5 z6))) (fun z0 z1=>.mk (K.rd (.box z0 z1))) (fun z0 z1=>.mk (K.rd (.alc z0 z1))) (fun z0 z1 z2=>.mk (K.rd (.st z0 z1 z2))) (fun z0 z1 z2 z3=>.mk (K.rd (.stN z0 z1 z2 z3))) (fun z0 z1 z2 z3 z4 z5 z6=>.mk (K.rd (.app z0 z1 z2 z3 z4 z5 z6))) (fun z0 z1 z2 z3 z4=>.mk (K.rd (.bsl z0 z1 z2 z3 z4))) (fun z0 z1=>.mk (K.rd (.bs0 z0 z1))) (fun z0 z1 z2 z3 z4 z5=>.mk (K.rd (.mks z0 z1 z2 z3 z4 z5))) (fun z0 z1=>.mk (K.rd (.mkm z0 z1))) (fun z0 z1 z2 z3 z4=>.mk (K.rd (.mup z0 z1 z2 z3 z4))) (fun z0 z1 z2 z3 z4 z5=>.mk (K.rd (.men z0 z1 z2 z3 z4 z5))) (fun z0 z1 z2 z3=>.mk (K.rd (.mst z0 z1 z2 z3))) (fun z0 z1 z2 z3 z4=>.mk (K.rd (.clr z0 z1 z2 z3 z4))) (fun z0 z1 z2=>.mk (K.rd (.call z0 z1 z2))) (fun z0 z1 z2=>.mk (K.rd (.callv z0 z1 z2))) (fun _ x=>b1 x (fun a _=>fNeg a)) (fun z0 z1 z2 z3=>.mk (K.rd (.slis z0 z1 z2 z3))) (fun z0 z1 z2 z3 z4 z5 z6=>.mk (K.rd (.slia z0 z1 z2 z3 z4 z5 z6))) (fun _ x n=>b1 x (fun a _=>fS2a a n)) (fun _ _ id=>.mk (fun _ H=>fLd (.p id 0) H)) (fun _ _ id i _ sz n=>b1 i (fun a _=>fIxa (.p id 0) a sz n)) (fun z0=>.mk (K.rd (.other z0))) k
def K.alF (k:K):Bx (SL CV → Nat → Option Al):=K.rec (motive:=fun _=>Bx (SL CV → Nat → Option Al)) (fun z0=>.mk (K.al (.mv z0))) (fun z0=>.mk (K.al (.asg z0))) (fun z0 z1 z2=>.mk (K.al (.pick z0 z1 z2))) (fun z0 z1 z2 z3 z4=>.mk (K.al (.bin z0 z1 z2 z3 z4))) (fun z0 z1 z2 z3 z4=>.mk (K.al (.bins z0 z1 z2 z3 z4))) (fun z0 z1 z2 z3 z4 z5=>.mk (K.al (.eqc z0 z1 z2 z3 z4 z5))) (fun z0 z1 z2 z3 z4 z5=>.mk (K.al (.eqst z0 z1 z2 z3 z4 z5))) (fun z0 z1=>.mk (K.al (.not z0 z1))) (fun z0 z1=>.mk (K.al (.bnot z0 z1))) (fun z0 z1 z2 z3=>.mk (K.al (.conv z0 z1 z2 z3))) (fun z0 z1 z2=>.mk (K.al (.cstr z0 z1 z2))) (fun z0=>.mk (K.al (.nilc z0))) (fun z0 z1 z2 z3=>.mk (K.al (.fa z0 z1 z2 z3))) (fun z0 z1 z2 z3=>.mk (K.al (.fd1 z0 z1 z2 z3))) (fun z0 z1 z2 z3 z4=>.mk (K.al (.fdN z0 z1 z2 z3 z4))) (fun z0 z1 z2 z3 z4=>.mk (K.al (.ix z0 z1 z2 z3 z4))) (fun z0 z1 z2 z3 z4 z5=>.mk (K.al (.ixa z0 z1 z2 z3 z4 z5))) (fun z0 z1 z2=>.mk (K.al (.ixs z0 z1 z2))) (fun z0 z1 z2 z3 z4=>.mk (K.al (.ixv z0 z1 z2 z3 z4))) (fun z0 z1=>.mk (K.al (.ld z0 z1))) (fun z0 z1 z2=>.mk (K.al (.ldN z0 z1 z2))) (fun z0 z1 z2=>.mk (K.al (.len z0 z1 z2))) (fun z0 z1=>.mk (K.al (.lens z0 z1))) (fun z0 z1=>.mk (K.al (.lenm z0 z1))) (fun z0 z1 z2=>.mk (K.al (.cmin z0 z1 z2))) (fun z0 z1 z2=>.mk (K.al (.cmax z0 z1 z2))) (fun z0 z1 z2 z3=>.mk (K.al (.bld z0 z1 z2 z3))) (fun z0 z1=>.mk (K.al (.ext z0 z1))) (fun z0 z1 z2=>.mk (K.al (.mkf z0 z1 z2))) (fun z0 z1=>.mk (K.al (.mki z0 z1))) (fun z0 z1 z2 z3 z4 z5=>.mk (K.al (.sli z0 z1 z2 z3 z4 z5))) (fun z0 z1 z2 z3 z4=>.mk (K.al (.sl0 z0 z1 z2 z3 z4))) (fun z0 z1 z2 z3 z4 z5 z6=>.mk (K.al (.lku z0 z1 z2 z3 z4 z5 z6))) (fun t x=>b1l x (fun a ck=>eBox t a ck)) (fun z0 z1=>.mk (K.al (.alc z0 z1))) (fun z0 z1 z2=>.mk (K.al (.st z0 z1 z2))) (fun z0 z1 z2 z3=>.mk (K.al (.stN z0 z1 z2 z3))) (fun z0 z1 z2 z3 z4 z5 z6=>.mk (K.al (.app z0 z1 z2 z3 z4 z5 z6))) (fun z0 z1 z2 z3 z4=>.mk (K.al (.bsl z0 z1 z2 z3 z4))) (fun z0 z1=>.mk (K.al (.bs0 z0 z1))) (fun z0 z1 z2 z3 z4 z5=>.mk (K.al (.mks z0 z1 z2 z3 z4 z5))) (fun z0 z1=>.mk (K.al (.mkm z0 z1))) (fun z0 z1 z2 z3 z4=>.mk (K.al (.mup z0 z1 z2 z3 z4))) (fun z0 z1 z2 z3 z4 z5=>.mk (K.al (.men z0 z1 z2 z3 z4 z5))) (fun z0 z1 z2 z3=>.mk (K.al (.mst z0 z1 z2 z3))) (fun z0 z1 z2 z3 z4=>.mk (K.al (.clr z0 z1 z2 z3 z4))) (fun z0 z1 z2=>.mk (K.al (.call z0 z1 z2))) (fun z0 z1 z2=>.mk (K.al (.callv z0 z1 z2))) (fun z0 z1=>.mk (K.al (.neg z0 z1))) (fun z0 z1 z2 z3=>.mk (K.al (.slis z0 z1 z2 z3))) (fun z0 z1 z2 z3 z4 z5 z6=>.mk (K.al (.slia z0 z1 z2 z3 z4 z5 z6))) (fun z0 z1 z2=>.mk (K.al (.s2a z0 z1 z2))) (fun z0 z1 z2=>.mk (K.al (.ldg z0 z1 z2))) (fun z0 z1 z2 z3 z4 z5 z6=>.mk (K.al (.ixg z0 z1 z2 z3 z4 z5 z6))) (fun z0=>.mk (K.al (.other z0))) k
def K.acF (k:K):Bx (SL CV → CH → Id → Nat → Ao):=K.rec (motive:=fun _=>Bx (SL CV → CH → Id → Nat → Ao)) (fun z0=>.mk (K.ac (.mv z0))) (fun z0=>.mk (K.ac (.asg z0))) (fun z0 z1 z2=>.mk (K.ac (.pick z0 z1 z2))) (fun z0 z1 z2 z3 z4=>.mk (K.ac (.bin z0 z1 z2 z3 z4))) (fun z0 z1 z2 z3 z4=>.mk (K.ac (.bins z0 z1 z2 z3 z4))) (fun z0 z1 z2 z3 z4 z5=>.mk (K.ac (.eqc z0 z1 z2 z3 z4 z5))) (fun z0 z1 z2 z3 z4 z5=>.mk (K.ac (.eqst z0 z1 z2 z3 z4 z5))) (fun z0 z1=>.mk (K.ac (.not z0 z1))) (fun z0 z1=>.mk (K.ac (.bnot z0 z1))) (fun z0 z1 z2 z3=>.mk (K.ac (.conv z0 z1 z2 z3))) (fun z0 z1 z2=>.mk (K.ac (.cstr z0 z1 z2))) (fun z0=>.mk (K.ac (.nilc z0))) (fun z0 z1 z2 z3=>.mk (K.ac (.fa z0 z1 z2 z3))) (fun z0 z1 z2 z3=>.mk (K.ac (.fd1 z0 z1 z2 z3))) (fun z0 z1 z2 z3 z4=>.mk (K.ac (.fdN z0 z1 z2 z3 z4))) (fun z0 z1 z2 z3 z4=>.mk (K.ac (.ix z0 z1 z2 z3 z4))) (fun z0 z1 z2 z3 z4 z5=>.mk (K.ac (.ixa z0 z1 z2 z3 z4 z5))) (fun z0 z1 z2=>.mk (K.ac (.ixs z0 z1 z2))) (fun z0 z1 z2 z3 z4=>.mk (K.ac (.ixv z0 z1 z2 z3 z4))) (fun z0 z1=>.mk (K.ac (.ld z0 z1))) (fun z0 z1 z2=>.mk (K.ac (.ldN z0 z1 z2))) (fun z0 z1 z2=>.mk (K.ac (.len z0 z1 z2))) (fun z0 z1=>.mk (K.ac (.lens z0 z1))) (fun z0 z1=>.mk (K.ac (.lenm z0 z1))) (fun z0 z1 z2=>.mk (K.ac (.cmin z0 z1 z2))) (fun z0 z1 z2=>.mk (K.ac (.cmax z0 z1 z2))) (fun z0 z1 z2 z3=>.mk (K.ac (.bld z0 z1 z2 z3))) (fun z0 z1=>.mk (K.ac (.ext z0 z1))) (fun z0 z1 z2=>.mk (K.ac (.mkf z0 z1 z2))) (fun z0 z1=>.mk (K.ac (.mki z0 z1))) (fun z0 z1 z2 z3 z4 z5=>.mk (K.ac (.sli z0 z1 z2 z3 z4 z5))) (fun z0 z1 z2 z3 z4=>.mk (K.ac (.sl0 z0 z1 z2 z3 z4))) (fun z0 z1 z2 z3 z4 z5 z6=>.mk (K.ac (.lku z0 z1 z2 z3 z4 z5 z6))) (fun t x=>b1a x (fun a H n ck=>aAl (eBox t a ck) H n ck)) (fun z0 z1=>.mk (K.ac (.alc z0 z1))) (fun _ x y=>b2a x y eSt) (fun _ x y m=>b2a x y (fun a b H n ck=>eStN a b m H n ck)) (fun _ _ x y e _ sz=>b2a x y (fun a b H n ck=>eApp a b e sz H n ck)) (fun z0 z1 z2 z3 z4=>.mk (K.ac (.bsl z0 z1 z2 z3 z4))) (fun z0 z1=>.mk (K.ac (.bs0 z0 z1))) (fun z0 z1 z2 z3 z4 z5=>.mk (K.ac (.mks z0 z1 z2 z3 z4 z5))) (fun z0 z1=>.mk (K.ac (.mkm z0 z1))) (fun z0 z1 z2 z3 z4=>.mk (K.ac (.mup z0 z1 z2 z3 z4))) (fun z0 z1 z2 z3 z4 z5=>.mk (K.ac (.men z0 z1 z2 z3 z4 z5))) (fun z0 z1 z2 z3=>.mk (K.ac (.mst z0 z1 z2 z3))) (fun z0 z1 z2 z3 z4=>.mk (K.ac (.clr z0 z1 z2 z3 z4))) (fun z0 z1 z2=>.mk (K.ac (.call z0 z1 z2))) (fun z0 z1 z2=>.mk (K.ac (.callv z0 z1 z2))) (fun z0 z1=>.mk (K.ac (.neg z0 z1))) (fun z0 z1 z2 z3=>.mk (K.ac (.slis z0 z1 z2 z3))) (fun z0 z1 z2 z3 z4 z5 z6=>.mk (K.ac (.slia z0 z1 z2 z3 z4 z5 z6))) (fun z0 z1 z2=>.mk (K.ac (.s2a z0 z1 z2))) (fun z0 z1 z2=>.mk (K.ac (.ldg z0 z1 z2))) (fun z0 z1 z2 z3 z4 z5 z6=>.mk (K.ac (.ixg z0 z1 z2 z3 z4 z5 z6))) (fun z0=>.mk (K.ac (.other z0))) k
theorem rdF_eq (k:K) (T:SL CV) (H:CH):k.rdF.f T H = k.rd T H:=by
 cases k <;> first | rfl | exact b1_eq _ _ _ _ | exact b2_eq _ _ _ _ _ | exact b3_eq _ _ _ _ _ _
theorem alF_eq (k:K) (T:SL CV) (ck:Nat):k.alF.f T ck = k.al T ck:=by
 cases k <;> first | rfl | exact b1l_eq _ _ _ _
theorem acF_eq (k:K) (T:SL CV) (H:CH) (n:Id) (ck:Nat):k.acF.f T H n ck = k.ac T H n ck:=by
 cases k <;> first | rfl | exact b1a_eq _ _ _ _ _ _ | exact b2a_eq _ _ _ _ _ _ _
abbrev KT:=SL CV → CH → Id → Nat → RS → ES → Ao
abbrev K4:=SL CV → CH → Id → Nat → Ao
def roK (r:Ro) (κ:CV → Ao):Ao:=Ro.rec .no κ (fun v _=>κ v) r
def roQ (r:Ro) (H:CH) (rs:RS) (κ:CV → RS → Ao):Ao:=Ro.rec .no (fun v=>κ v rs) (fun v id=>κ v ((id,(hget id H).st) :: rs)) r
def aoK (a:Ao) (κ:CV → CH → Id → Nat → Ao):Ao:=Ao.rec .no κ a
def aoQ (a:Ao) (rs:RS) (κ:CV → CH → Id → Nat → Ao):Ao:=Ao.rec .no (fun v H n ck=>Bool.rec .no (κ v H n ck) (quietOk rs H)) a
def alK (a:Option Al) (κ:Al → Ao):Ao:=Option.rec .no κ a
abbrev RK:=CV → CH → Id → Nat → RS → ES → Ao
def gdV (c:CV) (b:Bool) (F:RK → Ao) (κ:RK) (H:CH) (n:Id) (ck:Nat) (rs:RS) (E:ES):Ao:=G3.rec .no (κ .u H n ck rs E) (Bool.rec (κ .u H n ck rs E) (F κ) b) (Bool.rec (F κ) (κ .u H n ck rs E) b) (CV.g3 c)
theorem gdV_eq (c:CV) (b:Bool) (F:RK → Ao) (κ:RK) (H:CH) (n:Id) (ck:Nat) (rs:RS) (E:ES):gdV c b F κ H n ck rs E = match c with
 | .b t=>bif t == b then F κ else κ .u H n ck rs E
 | .u=>κ .u H n ck rs E
 | _=>.no:=by
 cases c <;> first | rfl | (rename_i t; cases t <;> cases b <;> rfl)
def cvF (cf:CF) (x:CV) (args:List CV) (H:CH) (n:Id) (ck:Nat):Ao:=match x with
 | .fn f xs ys=>cf.c f (appR xs (appR args ys)) H n ck
 | .yl id=>cf.y id args H n ck
 | _=>.no
def putC (d:Option Sp) (v:CV) (T:SL CV):SL CV:=Option.rec T (fun p=>sset p v T) d
def putF (d:Option Sp):Bx (CV → SL CV → SL CV):=Option.rec (.mk fun _ T=>T) Sp.sf d
theorem putF_eq (d:Option Sp) (v:CV) (T:SL CV):(putF d).f v T = putC d v T:=by
 cases d with
 | none=>rfl
 | some p=>exact Sp.sf_eq p v T
def getsF (l:List CP):Bx (SL CV → List CV):=List.rec (.mk fun _=>[]) (fun x _ ih=>Bx.rec (fun fx=>Bx.rec (fun g=>.mk fun T=>fx T :: g T) ih) x.gf) l
theorem getsF_eq (l:List CP) (T:SL CV):(getsF l).f T = gets l T:=by
 induction l with
 | nil=>rfl
 | cons x l ih =>
  show (Bx.rec (motive:=fun _=>Bx (SL CV → List CV)) (fun fx=>Bx.rec (motive:=fun _=>Bx (SL CV → List CV)) (fun g=>.mk fun T=>fx T :: g T) (getsF l)) x.gf).f T = x.gf.f T :: gets l T
  rw [← ih]
  cases x.gf; cases getsF l; rfl
def actF (q:Bool) (d:Option Sp) (A:CF → SL CV → CH → Id → Nat → Ao):Bx (CF → KT → KT):=Bx.rec (fun fd=>Bool.rec (.mk fun cf κ T H n ck rs E=>aoK (A cf T H n ck) (fun v H n ck=>κ (fd v T) H n ck [] E)) (.mk fun cf κ T H n ck rs E=>aoQ (A cf T H n ck) rs (fun v H n ck=>κ (fd v T) H n ck rs E)) q) (putF d)
abbrev VF:=CF → SL CV → CH → Id → Nat → RS → ES → RK → Ao
def actV (q:Bool) (A:CF → SL CV → CH → Id → Nat → Ao):Bx VF:=Bool.rec (.mk fun cf T H n ck rs E κ=>aoK (A cf T H n ck) (fun v H n ck=>κ v H n ck [] E)) (.mk fun cf T H n ck rs E κ=>aoQ (A cf T H n ck) rs (fun v H n ck=>κ v H n ck rs E)) q
def EN.V (x:EN):Bx VF:=EN.rec (motive:=fun _=>Bx VF)
 (fun _ k q=>Bx.rec (fun fk=>Bool.rec (.mk fun cf T H n ck rs E κ=>roK (fk T H) (fun v=>κ v H n ck rs E)) (.mk fun cf T H n ck rs E κ=>roQ (fk T H) H rs (fun v rs=>κ v H n ck rs E)) q) k.rdF)
 (fun _ k q=>Bx.rec (fun fk=>actV q (fun _=>fk)) k.acF)
 (fun _ f args _ q=>Bx.rec (fun ga=>actV q (fun cf T H n ck=>cf.c f (ga T) H n ck)) (getsF args))
 (fun _ x args _ q=>Bx.rec (fun fx=>Bx.rec (fun ga=>actV q (fun cf T H n ck=>cvF cf (fx T) (ga T) H n ck)) (getsF args)) x.gf)
 (fun _ _ _=>.mk fun _ _ _ _ _ _ _ _=>.no) (fun _ _ _=>.mk fun _ _ _ _ _ _ _ _=>.no) (fun _ _ _ _=>.mk fun _ _ _ _ _ _ _ _=>.no) x
def EN.F (x:EN):Bx (CF → KT → KT):=EN.rec (motive:=fun _=>Bx (CF → KT → KT))
 (fun d k q=>Bx.rec (fun fk=>Bx.rec (fun fd=>Bool.rec (.mk fun cf κ T H n ck rs E=>roK (fk T H) (fun v=>κ (fd v T) H n ck rs E)) (.mk fun cf κ T H n ck rs E=>roQ (fk T H) H rs (fun v rs=>κ (fd v T) H n ck rs E)) q) d.sf) k.rdF)
 (fun d k q=>Bx.rec (fun fk=>actF q d (fun _=>fk)) k.acF)
 (fun d f args _ q=>Bx.rec (fun ga=>actF q d (fun cf T H n ck=>cf.c f (ga T) H n ck)) (getsF args))
 (fun d x args _ q=>Bx.rec (fun fx=>Bx.rec (fun ga=>actF q d (fun cf T H n ck=>cvF cf (fx T) (ga T) H n ck)) (getsF args)) x.gf)
 (fun i _ k=>Bx.rec (fun fk=>.mk fun cf κ T H n ck rs E=>alK (fk T 0) (fun y=>κ T H n ck rs ((i,y) :: E))) k.alF)
 (fun i d _=>Bx.rec (fun fd=>.mk fun cf κ T H n ck rs E=>alK (lookE i E) (fun y=>κ (fd (y.v n) T) (hset n y.o H) n.succ ck rs E)) d.sf)
 (fun p b x _=>Bx.rec (fun fp=>Bx.rec (fun fd=>Bx.rec (fun fx=>.mk fun cf κ T H n ck rs E=>gdV (fp T) b (fx cf T H n ck rs E) (fun v H n ck rs E=>κ (fd v T) H n ck rs E) H n ck rs E) x.V) (putF x.d)) p.gf) x
def gosF (l:List EN):Bx (CF → KT → KT):=List.rec (.mk fun _ κ=>κ) (fun x _ ih=>Bx.rec (fun f=>Bx.rec (fun g=>.mk fun cf κ=>f cf (g cf κ)) ih) x.F) l
def aft (d:Option Sp) (q:Bool) (s:St) (a:Ao):Option St:=match a with
 | .no=>none
 | .ok v H n ck=>bif q then (bif quietOk s.rs H then some ⟨putC d v s.T,H,n,ck,s.rs,s.E⟩ else none) else some ⟨putC d v s.T,H,n,ck,[],s.E⟩
theorem aft_eq (d:Option Sp) (q:Bool) (s:St) (a:Ao):aft d q s a = match a with
 | .no=>none
 | .ok v H n ck=>bif q then (bif quietOk s.rs H then some ⟨putC d v s.T,H,n,ck,s.rs,s.E⟩ else none) else some ⟨putC d v s.T,H,n,ck,[],s.E⟩:=rfl
def stR (d:Sp) (k:K) (q:Bool) (_:CF) (s:St):Option St:=match k.rd s.T s.H with
 | .no=>none
 | .ok v=>some ⟨sset d v s.T,s.H,s.n,s.ck,s.rs,s.E⟩
 | .rd v id=>bif q then some ⟨sset d v s.T,s.H,s.n,s.ck,(id,(hget id s.H).st) :: s.rs,s.E⟩ else some ⟨sset d v s.T,s.H,s.n,s.ck,s.rs,s.E⟩
theorem stR_eq (d:Sp) (k:K) (q:Bool) (cf:CF) (s:St):stR d k q cf s = match k.rd s.T s.H with
 | .no=>none
 | .ok v=>some ⟨sset d v s.T,s.H,s.n,s.ck,s.rs,s.E⟩
 | .rd v id=>bif q then some ⟨sset d v s.T,s.H,s.n,s.ck,(id,(hget id s.H).st) :: s.rs,s.E⟩ else some ⟨sset d v s.T,s.H,s.n,s.ck,s.rs,s.E⟩:=rfl
def stA (d:Option Sp) (k:K) (q:Bool) (_:CF) (s:St):Option St:=aft d q s (k.ac s.T s.H s.n s.ck)
def stCl (d:Option Sp) (f:Pos) (args:List CP) (_:List Nat) (q:Bool) (cf:CF) (s:St):Option St:=aft d q s (cf.c f (gets args s.T) s.H s.n s.ck)
def stCv (d:Option Sp) (x:CP) (args:List CP) (_:List Nat) (q:Bool) (cf:CF) (s:St):Option St:=aft d q s (cvF cf (x.get s.T) (gets args s.T) s.H s.n s.ck)
def stPre (i:Nat) (_:Sp) (k:K) (_:CF) (s:St):Option St:=match k.al s.T 0 with
 | some y=>some ⟨s.T,s.H,s.n,s.ck,s.rs,(i,y) :: s.E⟩
 | none=>none
theorem stPre_eq (i:Nat) (d:Sp) (k:K) (cf:CF) (s:St):stPre i d k cf s = match k.al s.T 0 with
 | some y=>some ⟨s.T,s.H,s.n,s.ck,s.rs,(i,y) :: s.E⟩
 | none=>none:=rfl
def stBnd (i:Nat) (d:Sp) (_:K) (_:CF) (s:St):Option St:=match lookE i s.E with
 | some y=>some ⟨sset d (y.v s.n) s.T,hset s.n y.o s.H,s.n.succ,s.ck,s.rs,s.E⟩
 | none=>none
theorem stBnd_eq (i:Nat) (d:Sp) (k:K) (cf:CF) (s:St):stBnd i d k cf s = match lookE i s.E with
 | some y=>some ⟨sset d (y.v s.n) s.T,hset s.n y.o s.H,s.n.succ,s.ck,s.rs,s.E⟩
 | none=>none:=rfl
def EN.go (x:EN):CF → St → Option St :=
 EN.rec (motive:=fun _=>CF → St → Option St) stR stA stCl stCv stPre stBnd (fun p b x ih cf s=>match sget p s.T with
  | .b t=>bif t == b then ih cf s else some ⟨putC x.d .u s.T,s.H,s.n,s.ck,s.rs,s.E⟩
  | .u=>some ⟨putC x.d .u s.T,s.H,s.n,s.ck,s.rs,s.E⟩
  | _=>none) x
def gos (cf:CF) (l:List EN):St → Option St:=List.rec (motive:=fun _=>St → Option St) some (fun x _ ih s=>Option.rec none ih (x.go cf s)) l
theorem gos_cons (cf:CF) (x:EN) (l:List EN) (s:St):gos cf (x :: l) s = match x.go cf s with | some s'=>gos cf l s' | none=>none:=by
 show Option.rec (motive:=fun _=>Option St) none (gos cf l) (x.go cf s) = _
 cases x.go cf s <;> rfl
section
variable {cf : CF} {κ : KT} {T : SL CV} {H : CH} {n : Id} {ck : Nat} {rs : RS} {E : ES}
def onS (o:Option St) (κ:KT):Ao:=match o with
 | some s=>κ s.T s.H s.n s.ck s.rs s.E
 | none=>.no
theorem actF_eq (q:Bool) (d:Option Sp) (A:CF → SL CV → CH → Id → Nat → Ao):(actF q d A).f cf κ T H n ck rs E = onS (aft d q ⟨T,H,n,ck,rs,E⟩ (A cf T H n ck)) κ:=by
 obtain ⟨fd,hd⟩:∃ fd,putF d = .mk fd:=by cases h:putF d; exact ⟨_,rfl⟩
 have e:∀ v T,fd v T = putC d v T:=fun v T=>by rw [← putF_eq,hd]; rfl
 unfold actF
 rw [hd]
 cases q with
 | false =>
  show aoK (A cf T H n ck) (fun v H n ck=>κ (fd v T) H n ck [] E) = _
  simp only [e]
  cases A cf T H n ck <;> rfl
 | true =>
  show aoQ (A cf T H n ck) rs (fun v H n ck=>κ (fd v T) H n ck rs E) = _
  simp only [e]
  cases A cf T H n ck with
  | no=>rfl
  | ok v H n ck =>
   show (Bool.rec Ao.no (κ (putC d v T) H n ck rs E) (quietOk rs H):Ao) = onS (bif quietOk rs H then some (⟨putC d v T,H,n,ck,rs,E⟩:St) else none) κ
   cases quietOk rs H <;> rfl
theorem Bx.out {α:Type} (b:Bx α):∃ f,b = .mk f ∧ b.f = f:=by cases b; exact ⟨_,rfl,rfl⟩
def EN.late:EN → Bool
 | .pre _ _ _ | .bnd _ _ _ | .gd _ _ _=>false
 | _=>true
def EN.gok:EN → Bool
 | .gd _ _ x=>x.late
 | _=>true
theorem actV_eq (q:Bool) (d:Option Sp) (A:CF → SL CV → CH → Id → Nat → Ao):(actV q A).f cf T H n ck rs E (fun v H n ck rs E=>κ (putC d v T) H n ck rs E) = onS (aft d q ⟨T,H,n,ck,rs,E⟩ (A cf T H n ck)) κ:=by
 cases q with
 | false =>
  show aoK (A cf T H n ck) (fun v H n ck=>κ (putC d v T) H n ck [] E) = _
  cases A cf T H n ck <;> rfl
 | true =>
  show aoQ (A cf T H n ck) rs (fun v H n ck=>κ (putC d v T) H n ck rs E) = _
  cases A cf T H n ck with
  | no=>rfl
  | ok v H n ck =>
   show (Bool.rec Ao.no (κ (putC d v T) H n ck rs E) (quietOk rs H):Ao) = onS (bif quietOk rs H then some (⟨putC d v T,H,n,ck,rs,E⟩:St) else none) κ
   cases quietOk rs H <;> rfl
theorem V_eq:∀ (x:EN),x.late = true → x.V.f cf T H n ck rs E (fun v H n ck rs E=>κ (putC x.d v T) H n ck rs E) = onS (x.go cf ⟨T,H,n,ck,rs,E⟩) κ:=by
 intro x
 cases x with
 | r d k q =>
  intro _
  obtain ⟨fk,h1,h2⟩:=k.rdF.out
  have ek:fk T H = k.rd T H:=by rw [← h2]; exact rdF_eq k T H
  show (Bx.rec (motive:=fun _=>Bx VF) (fun fk=>Bool.rec (.mk fun cf T H n ck rs E κ=>roK (fk T H) (fun v=>κ v H n ck rs E)) (.mk fun cf T H n ck rs E κ=>roQ (fk T H) H rs (fun v rs=>κ v H n ck rs E)) q) k.rdF).f cf T H n ck rs E (fun v H n ck rs E=>κ (sset d v T) H n ck rs E) = onS (stR d k q cf ⟨T,H,n,ck,rs,E⟩) κ
  rw [h1,stR_eq]
  cases q with
  | false =>
   show roK (fk T H) (fun v=>κ (sset d v T) H n ck rs E) = _
   rw [ek]
   simp only
   cases k.rd T H <;> rfl
  | true =>
   show roQ (fk T H) H rs (fun v rs=>κ (sset d v T) H n ck rs E) = _
   rw [ek]
   simp only
   cases k.rd T H <;> rfl
 | a d k q =>
  intro _
  obtain ⟨fk,h1,h2⟩:=k.acF.out
  show (Bx.rec (motive:=fun _=>Bx VF) (fun fk=>actV q (fun _=>fk)) k.acF).f cf T H n ck rs E (fun v H n ck rs E=>κ (putC d v T) H n ck rs E) = onS (aft d q ⟨T,H,n,ck,rs,E⟩ (k.ac T H n ck)) κ
  rw [h1]
  refine (actV_eq q d (fun _=>fk)).trans ?_
  rw [← h2,acF_eq]
 | cl d f args tys q =>
  intro _
  obtain ⟨ga,h1,h2⟩:=(getsF args).out
  show (Bx.rec (motive:=fun _=>Bx VF) (fun ga=>actV q (fun cf T H n ck=>cf.c f (ga T) H n ck)) (getsF args)).f cf T H n ck rs E (fun v H n ck rs E=>κ (putC d v T) H n ck rs E) = onS (aft d q ⟨T,H,n,ck,rs,E⟩ (cf.c f (gets args T) H n ck)) κ
  rw [h1]
  refine (actV_eq q d (fun cf T H n ck=>cf.c f (ga T) H n ck)).trans ?_
  rw [← h2,getsF_eq]
 | cv d x args tys q =>
  intro _
  obtain ⟨ga,h1,h2⟩:=(getsF args).out
  obtain ⟨fx,h3,h4⟩:=x.gf.out
  show (Bx.rec (motive:=fun _=>Bx VF) (fun fx=>Bx.rec (motive:=fun _=>Bx VF) (fun ga=>actV q (fun cf T H n ck=>cvF cf (fx T) (ga T) H n ck)) (getsF args)) x.gf).f cf T H n ck rs E (fun v H n ck rs E=>κ (putC d v T) H n ck rs E) = onS (aft d q ⟨T,H,n,ck,rs,E⟩ (cvF cf (x.get T) (gets args T) H n ck)) κ
  rw [h1,h3]
  refine (actV_eq q d (fun cf T H n ck=>cvF cf (fx T) (ga T) H n ck)).trans ?_
  rw [← h2,← h4,getsF_eq]; rfl
 | pre i d k=>intro h; cases h
 | bnd i d k=>intro h; cases h
 | gd p b x=>intro h; cases h
theorem F_eq:∀ (x:EN) (T:SL CV) (H:CH) (n:Id) (ck:Nat) (rs:RS) (E:ES),x.gok = true → x.F.f cf κ T H n ck rs E = onS (x.go cf ⟨T,H,n,ck,rs,E⟩) κ:=by
 intro x
 cases x with
 | r d k q =>
  intro T H n ck rs E hg
  obtain ⟨fk,h1,h2⟩:=k.rdF.out
  obtain ⟨fd,h3,h4⟩:=(d.sf (α:=CV)).out
  have ek:fk T H = k.rd T H:=by rw [← h2]; exact rdF_eq k T H
  have ed:∀ v,fd v T = sset d v T:=fun v=>by rw [← h4]; exact Sp.sf_eq d v T
  show (Bx.rec (motive:=fun _=>Bx (CF → KT → KT)) (fun fk=>Bx.rec (motive:=fun _=>Bx (CF → KT → KT)) (fun fd=>Bool.rec (.mk fun cf κ T H n ck rs E=>roK (fk T H) (fun v=>κ (fd v T) H n ck rs E)) (.mk fun cf κ T H n ck rs E=>roQ (fk T H) H rs (fun v rs=>κ (fd v T) H n ck rs E)) q) d.sf) k.rdF).f cf κ T H n ck rs E = onS (stR d k q cf ⟨T,H,n,ck,rs,E⟩) κ
  rw [h1,h3,stR_eq]
  cases q with
  | false =>
   show roK (fk T H) (fun v=>κ (fd v T) H n ck rs E) = _
   rw [ek]
   simp only [ed]
   cases k.rd T H <;> rfl
  | true =>
   show roQ (fk T H) H rs (fun v rs=>κ (fd v T) H n ck rs E) = _
   rw [ek]
   simp only [ed]
   cases k.rd T H <;> rfl
 | a d k q =>
  intro T H n ck rs E hg
  obtain ⟨fk,h1,h2⟩:=k.acF.out
  show (Bx.rec (motive:=fun _=>Bx (CF → KT → KT)) (fun fk=>actF q d (fun _=>fk)) k.acF).f cf κ T H n ck rs E = onS (aft d q ⟨T,H,n,ck,rs,E⟩ (k.ac T H n ck)) κ
  rw [h1]
  refine (actF_eq q d (fun _=>fk)).trans ?_
  rw [← h2,acF_eq]
 | cl d f args tys q =>
  intro T H n ck rs E hg
  obtain ⟨ga,h1,h2⟩:=(getsF args).out
  show (Bx.rec (motive:=fun _=>Bx (CF → KT → KT)) (fun ga=>actF q d (fun cf T H n ck=>cf.c f (ga T) H n ck)) (getsF args)).f cf κ T H n ck rs E = onS (aft d q ⟨T,H,n,ck,rs,E⟩ (cf.c f (gets args T) H n ck)) κ
  rw [h1]
  refine (actF_eq q d (fun cf T H n ck=>cf.c f (ga T) H n ck)).trans ?_
  rw [← h2,getsF_eq]
 | cv d x args tys q =>
  intro T H n ck rs E hg
  obtain ⟨ga,h1,h2⟩:=(getsF args).out
  obtain ⟨fx,h3,h4⟩:=x.gf.out
  show (Bx.rec (motive:=fun _=>Bx (CF → KT → KT)) (fun fx=>Bx.rec (motive:=fun _=>Bx (CF → KT → KT)) (fun ga=>actF q d (fun cf T H n ck=>cvF cf (fx T) (ga T) H n ck)) (getsF args)) x.gf).f cf κ T H n ck rs E = onS (aft d q ⟨T,H,n,ck,rs,E⟩ (cvF cf (x.get T) (gets args T) H n ck)) κ
  rw [h1,h3]
  refine (actF_eq q d (fun cf T H n ck=>cvF cf (fx T) (ga T) H n ck)).trans ?_
  rw [← h2,← h4,getsF_eq]; rfl
 | pre i d k =>
  intro T H n ck rs E hg
  obtain ⟨fk,h1,h2⟩:=k.alF.out
  show (Bx.rec (motive:=fun _=>Bx (CF → KT → KT)) (fun fk=>.mk fun cf κ T H n ck rs E=>alK (fk T 0) (fun y=>κ T H n ck rs ((i,y) :: E))) k.alF).f cf κ T H n ck rs E = onS (stPre i d k cf ⟨T,H,n,ck,rs,E⟩) κ
  rw [h1,stPre_eq]
  show alK (fk T 0) (fun y=>κ T H n ck rs ((i,y) :: E)) = _
  rw [← h2,alF_eq]
  simp only
  cases k.al T 0 <;> rfl
 | bnd i d k =>
  intro T H n ck rs E hg
  obtain ⟨fd,h3,h4⟩:=(d.sf (α:=CV)).out
  have ed:∀ v,fd v T = sset d v T:=fun v=>by rw [← h4]; exact Sp.sf_eq d v T
  show (Bx.rec (motive:=fun _=>Bx (CF → KT → KT)) (fun fd=>.mk fun cf κ T H n ck rs E=>alK (lookE i E) (fun y=>κ (fd (y.v n) T) (hset n y.o H) n.succ ck rs E)) d.sf).f cf κ T H n ck rs E = onS (stBnd i d k cf ⟨T,H,n,ck,rs,E⟩) κ
  rw [h3,stBnd_eq]
  show alK (lookE i E) (fun y=>κ (fd (y.v n) T) (hset n y.o H) n.succ ck rs E) = _
  simp only [ed]
  cases lookE i E <;> rfl
 | gd p b x =>
  intro T H n ck rs E hg
  obtain ⟨fp,h1,h2⟩:=(p.gf (α:=CV)).out
  obtain ⟨fd,h3,h4⟩:=(putF x.d).out
  obtain ⟨fx,h5,h6⟩:=x.V.out
  have ed:∀ v,fd v T = putC x.d v T:=fun v=>by rw [← h4]; exact putF_eq x.d v T
  have ep:fp T = sget p T:=by rw [← h2]; exact Sp.gf_eq p T
  have ih:=V_eq (cf:=cf) (κ:=κ) (T:=T) (H:=H) (n:=n) (ck:=ck) (rs:=rs) (E:=E) x hg
  rw [h6] at ih
  show (Bx.rec (motive:=fun _=>Bx (CF → KT → KT)) (fun fp=>Bx.rec (motive:=fun _=>Bx (CF → KT → KT)) (fun fd=>Bx.rec (motive:=fun _=>Bx (CF → KT → KT)) (fun fx=>.mk fun cf κ T H n ck rs E=>gdV (fp T) b (fx cf T H n ck rs E) (fun v H n ck rs E=>κ (fd v T) H n ck rs E) H n ck rs E) x.V) (putF x.d)) p.gf).f cf κ T H n ck rs E = onS (match sget p T with
   | .b t=>bif t == b then x.go cf ⟨T,H,n,ck,rs,E⟩ else some (⟨putC x.d .u T,H,n,ck,rs,E⟩:St)
   | .u=>some ⟨putC x.d .u T,H,n,ck,rs,E⟩
   | _=>none) κ
  rw [h1,h3,h5]
  show gdV (fp T) b (fx cf T H n ck rs E) (fun v H n ck rs E=>κ (fd v T) H n ck rs E) H n ck rs E = _
  simp only [ed]
  rw [gdV_eq,ep,ih]
  cases sget p T with
  | b t=>simp only; cases t == b <;> rfl
  | _=>rfl
theorem gosF_eq:∀ (l:List EN) (T:SL CV) (H:CH) (n:Id) (ck:Nat) (rs:RS) (E:ES),l.all EN.gok = true → (gosF l).f cf κ T H n ck rs E = onS (gos cf l ⟨T,H,n,ck,rs,E⟩) κ
 | [],_,_,_,_,_,_,_=>rfl
 | x :: l,T,H,n,ck,rs,E,hg=>by
  simp only [List.all_cons,Bool.and_eq_true] at hg
  obtain ⟨f,h1,h2⟩:=x.F.out
  obtain ⟨g,h3,h4⟩:=(gosF l).out
  show (Bx.rec (motive:=fun _=>Bx (CF → KT → KT)) (fun f=>Bx.rec (motive:=fun _=>Bx (CF → KT → KT)) (fun g=>.mk fun cf κ=>f cf (g cf κ)) (gosF l)) x.F).f cf κ T H n ck rs E = _
  rw [h1,h3,gos_cons]
  show f cf (g cf κ) T H n ck rs E = _
  rw [← h2,← h4,F_eq _ _ _ _ _ _ _ hg.1]
  cases x.go cf ⟨T,H,n,ck,rs,E⟩ with
  | none=>rfl
  | some s1=>exact gosF_eq l _ _ _ _ _ _ hg.2
end
def dn (d:Option Sp):Option Nat:=d.map fun p=>p.nat - 1
def EN.op:EN → Op
 | .r _ k _ | .a _ k _ | .pre _ _ k | .bnd _ _ k=>k.op
 | .cl _ f args tys _=>(K.call f args tys).op
 | .cv _ x args tys _=>(K.callv x args tys).op
 | .gd _ _ x=>x.op
def EN.gu:EN → Option (Nat × Bool)
 | .gd p b _=>some (p.nat - 1,b)
 | _=>none
def EN.strip (x:EN):Option Nat × Op × Option (Nat × Bool):=(dn x.d,x.op,x.gu)
variable {P : Program}
def EN.plain:EN → Bool
 | .gd _ _ _ | .pre _ _ _ | .bnd _ _ _=>false
 | _=>true
def EN.side (N:Kn P):EN → Bool
 | .r _ k _ | .a _ k _ | .bnd _ _ k=>k.side N
 | .pre _ _ k=>k.side N
 | .cl _ f args tys _=>(K.call f args tys).side N
 | .cv _ x args tys _=>(K.callv x args tys).side N
 | .gd _ _ x=>x.plain && x.side N
def EN.okN (M:Nat) (x:EN):Bool:=(match x.d with | some p=>decide (p.nat - 1 < M) | none=>true) && (match x.gu with | some (t,_)=>decide (t < 1000000000) | none=>true)
end Go.Proofs.YtihdpjinaafenaaGreatDoor.Ce
