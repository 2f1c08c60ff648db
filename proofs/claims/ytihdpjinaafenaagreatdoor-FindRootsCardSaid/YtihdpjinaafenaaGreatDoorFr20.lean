import Derived.Test.YtihdpjinaafenaaGreatDoorFr19
import Derived.Test.YtihdpjinaafenaaGreatDoorShelf
noncomputable section
/- The rules for code; functions. -/
set_option linter.unusedVariables false
set_option linter.unusedSimpArgs false
namespace Go.Proofs.YtihdpjinaafenaaGreatDoor.Ab
open Go.Proofs.YtihdpjinaafenaaGreatDoor.Sl
def AK (P:Program) (N:Nat) (Q:Exit → Tm → Heap → Prop):List Code → Tm → Heap → Prop
 | [],T,h=>Q .normal T h
 | c :: r,T,h=>SCode P N c (thenS (AK P N Q r) Q) T h
def AC (P:Program) (N:Nat) (h0:Gd) (cs:List Code) (Q:Exit → Tm → Heap → Prop) (T:AT) (σ:AS):Prop:=∀ β hF h Tc,Sem h0 β hF h Tc T [] σ → AK P N Q cs Tc h
def keepT:List Nat → AL → AT → AT
 | [],_,_=>[]
 | t :: r,L,T=>match lookV L T t with
  | some (none,.hid)=>keepT r L T
  | some (none,x)=>(t,x) :: keepT r L T
  | _=>keepT r L T
def nmB (d:Nat):AS → Bool
 | []=>true
 | e :: r=>nmC d e.2.cells && nmB d r
def keepS (T:AT) (σ0:AS):AS → AS
 | []=>[]
 | e :: r=>if (nmT e.1 T && nmB e.1 σ0 && decide (e.1 < 1000)) = true then keepS T σ0 r else e :: keepS T σ0 r
def okAs (P:Program) (N:Nat) (az:List AO):Bool:=az.all (okA P N) && decide ((az.filterMap (·.dst)).Nodup)
section
variable {P : Program} {N : Nat} {ops : Array Oper} {h0 : Gd} {β : Nat → Value} {hF h : Heap} {Tc : Tm} {Q : Exit → Tm → Heap → Prop} {T T' : AT} {L : AL} {σ σ' : AS} {x y c : Code}
theorem Ok.sub (k:Ok h0 β hF h σ) (hs:List.Sublist σ' σ):Ok h0 β hF h σ' :=
 ⟨k.le0,k.le,fun e he=>k.ok e (hs.subset he),fun e he=>k.out e (hs.subset he),fun e he e' he'=>k.sep e (hs.subset he) e' (hs.subset he'),k.fix,(hs.map _).nodup k.nd⟩
theorem keepS_sub (T:AT) (σ0:AS):∀ σ:AS,List.Sublist (keepS T σ0 σ) σ
 | []=>.slnil
 | e :: r=>by
  unfold keepS
  split
  ·exact (keepS_sub T σ0 r).cons _
  ·exact (keepS_sub T σ0 r).cons_cons _
theorem keepT_mem:∀ {ks:List Nat} {L:AL} {T:AT} {e:Nat × AV},e ∈ keepT ks L T → lookV L T e.1 = some (none,e.2)
 | [],L,T,e,he=>by cases he
 | t :: r,L,T,e,he=>by
  unfold keepT at he
  split at he
  ·exact keepT_mem he
  ·rename_i x h1 h2
   rcases List.mem_cons.1 he with rfl | he
   ·exact h2
   ·exact keepT_mem he
  ·exact keepT_mem he
theorem Sem.keep (s:Sem h0 β hF h Tc T L σ) (ks:List Nat) (hs:List.Sublist σ' σ):Sem h0 β hF h Tc (keepT ks L T) [] σ' :=
 ⟨s.ok.sub hs,fun e he _=>s.lk (keepT_mem he),fun e he=>(by cases he),fun e he=>(by cases he)⟩
theorem reg_end {dr:Option (List Nat)} {s:St} {r:List Code} (ks:List Nat) (eT:keepT ks s.L s.T = T') (eσ:keepS T' s.σ s.σ = σ') (k:AC P N h0 r Q T' σ'):Reg P N ops dr h0 (AK P N Q r) [] s:=by
 subst eT
 subst eσ
 cases dr with
 | none =>
  intro os hm hok β hF h Tc sem nd
  have:os = []:=by simpa using hm
  subst this
  exact k β hF h Tc (sem.keep ks (keepS_sub _ _ _))
 | some l =>
  intro τ hm hok β hF h Tc F E sem fo nd
  have:τ = []:=by simpa using hm
  subst this
  exact k β hF h Tc (sem.keep ks (keepS_sub _ _ _))
variable {r : List Code}
theorem a_reg {id:Nat} (az:List AO) (hm:ops.toList.map (strip ops) = az.map AO.strip) (hok:okAs P N az = true) (k:Reg P N ops none h0 (AK P N Q r) az ⟨T,[],σ,[]⟩):AC P N h0 (.region id ops false :: r) Q T σ:=by
 intro β hF h Tc sem
 simp only [okAs,Bool.and_eq_true,decide_eq_true_eq] at hok
 exact s_region (k ops.toList hm hok.1 β hF h Tc sem (by simpa [Nod] using hok.2))
theorem a_regd {id:Nat} (τ:List Nat) (loud:List Nat) (az:List AO) (hm:(τ.map fun i=>(i,true)).map (fun e:Ent=>(e.2,strip ops (opAt ops e.1),loud.contains e.1)) = az.map (fun a=>(true,a.strip,!a.q))) (hok:okAs P N az = true)
  (hmix:P.follows .mixedOrders = true) (hk:drawOk ops (τ.map fun i=>(i,true)) [] loud = true) (hdN:(List.range ops.size).all (fun i=>match (opAt ops i).dst with | some t=>t < N | none=>true) = true)
  (k:Reg P N ops (some loud) h0 (AK P N Q r) az ⟨T,[],σ,[]⟩):AC P N h0 (.region id ops true :: r) Q T σ:=by
 intro β hF h Tc sem
 simp only [okAs,Bool.and_eq_true,decide_eq_true_eq] at hok
 exact s_draw _ [] loud hmix hk hdN (k _ hm hok.1 β hF h Tc [] _ sem ⟨fun A hA=>(by cases hA),fun id hid=>(by cases hid)⟩ (by simpa [Nod] using hok.2))
theorem a_seq (k:AC P N h0 (x :: y :: r) Q T σ):AC P N h0 (.seq x y :: r) Q T σ:=fun β hF h Tc sem=>s_seq ((k β hF h Tc sem).mono fun e T h q=>by cases e <;> exact q)
def AX (h0:Gd) (e:Exit) (Q:Exit → Tm → Heap → Prop) (T:AT) (σ:AS):Prop:=∀ β hF h Tc,Sem h0 β hF h Tc T [] σ → Q e Tc h
theorem a_ret (k:AX h0 .ret Q T σ):AC P N h0 (.ret :: r) Q T σ:=fun β hF h Tc sem=>s_ret (k β hF h Tc sem)
def argT:Nat → List FV → AT
 | _,[]=>[]
 | i,x :: xs=>(i,.fz x) :: argT (i + 1) xs
theorem argT_mem:∀ {xs:List FV} {i:Nat} {e:Nat × AV},e ∈ argT i xs → ∃ j x,xs[j]? = some x ∧ e = (i + j,.fz x)
 | [],i,e,he=>by cases he
 | x :: xs,i,e,he=>by
  rcases List.mem_cons.1 he with rfl | he
  ·exact ⟨0,x,rfl,rfl⟩
  ·obtain ⟨j,y,h1,rfl⟩:=argT_mem he
   exact ⟨j + 1,y,by simpa using h1,by rw [Nat.add_assoc,Nat.add_comm 1 j]⟩
theorem sem_enter {xs:List FV} {vs:List Value} (k:FReps h xs vs):Sem ⟨h,fun _=>undef⟩ (fun _=>undef) h h (T0 vs.toArray) (argT 0 xs) [] [] :=
 ⟨⟨Heap.le_refl _,Heap.le_refl _,fun e he=>(by cases he),fun e he=>(by cases he),fun e he=>(by cases he),fun _ _=>rfl,by simp⟩,fun e he _=>by
  obtain ⟨j,x,h1,rfl⟩:=argT_mem he
  have hj:j < vs.length:=by rw [k.1]; exact (List.getElem?_eq_some_iff.1 h1).1
  refine .fz (k.2 j x _ h1 ?_)
  simp [T0,List.getElem?_eq_getElem hj],fun e he=>(by cases he),fun e he=>(by cases he)⟩
def PureR (h0:Gd) (res:FV):Value → Heap → Prop:=fun r h'=>h0.h.le h' ∧ FRep h' res r
theorem p_enter {f:FuncId} {fn:Func} {xs:List FV} {res:FV} (hf:P.funcs[f]? = some fn) (hb:fn.body = some c) (k:∀ h0,AC P fn.ntmps h0 [c] (retQ P fn (PureR h0 res)) (argT 0 xs) []) (hN:Nat.ble xs.length fn.ntmps = true:=by kernel_rfl):PureCall P f xs res:=fun h vs r =>
 s_enter hf hb (by rw [List.size_toArray,r.1]; exact Nat.le_of_ble_eq_true hN) ((k ⟨h,_⟩ _ _ _ _ (sem_enter r)).mono fun e T h q=>by cases e <;> exact q)
def resV (T:AT) (σ:AS):ResultVar × Option Nat → Option FV
 | (.tmp t,_)=>match lookT T t with
  | some (.fz x)=>some x
  | _=>none
 | (.cell a _,none)=>match lookT T a with
  | some (.oe id _ 0 0)=>match lookS σ id with
   | some (.box _ [.fz x])=>some x
   | _=>none
  | some (.fz (.fp [x]))=>some x
  | _=>none
 | (.cell a _,some n)=>match lookT T a with
  | some (.oe id _ 0 0)=>match lookS σ id with
   | some (.box _ cells)=>match unfz cells with
    | some cs=>if cs.length = n then some (.agg cs) else none
    | none=>none
   | _=>none
  | some (.fz (.fp cs))=>if cs.length = n then some (.agg cs) else none
  | _=>none
def okR (P:Program):ResultVar × Option Nat → Bool
 | (.tmp _,_)=>true
 | (.cell _ ty,none)=>isOne P ty
 | (.cell _ ty,some n)=>isMany P ty && P.cellsOf ty == n
theorem resV_ok (s:Sem h0 β hF h Tc T [] σ) {x:ResultVar × Option Nat} {v:FV} (hok:okR P x = true) (e:resV T σ x = some v):∃ u,FRep hF v u ∧ ResOne P Tc h x.1 u:=by
 have hT:∀ {t:Nat} {av:AV},lookT T t = some av → ARep β hF av (Tc t):=fun h=>s.t _ (lookT_mem h) (fun e he=>by cases he)
 obtain ⟨rv,k⟩:=x
 cases rv with
 | tmp t =>
  simp only [resV] at e
  split at e
  ·rename_i x hx; cases e; exact ⟨_,fz_fz (hT hx),rfl⟩
  ·cases e
 | cell a ty =>
  cases k with
  | none =>
   have hd:isOne P ty = true:=hok
   simp only [resV] at e
   split at e
   ·rename_i id sz hx
    split at e
    ·rename_i t' x hσ
     cases e
     have h1:=hT hx
     generalize hv:Tc a = w at h1
     cases h1 with
     | @oe _ _ _ _ b hb =>
      obtain ⟨b',vs,hβ,hh,hr⟩:=s.ok.ok _ (lookS_mem hσ)
      have hbb:b' = b:=by simp only [hβ,baseOf,Option.some.injEq] at hb; exact hb
      subst hbb
      obtain ⟨hl,hr⟩:=hr
      match vs,hl with
      | [u],_ =>
       have hu:=fz_fz (hr 0 _ u rfl rfl)
       refine ⟨u, hu, ⟨some 0, .load ty (.tmp 0), 0, "", #[], none⟩, .tmp 0, rfl, ?_, ⟨_, hv⟩⟩
       exact r_ld1 (x:=.tmp 0) rfl hd hv hh (by simp)
    ·cases e
   ·rename_i x hx
    cases e
    obtain ⟨b,off,full,ty',fz,hv,hb,hsz,hr⟩:=frep_fp (fz_fz (hT hx))
    have hlt:off < full.size:=by simp at hsz; omega
    refine ⟨full[off], hr 0 _ _ rfl (Array.getElem?_eq_getElem hlt), ⟨some 0, .load ty (.tmp 0), 0, "", #[], none⟩, .tmp 0, rfl, ?_, ⟨_, hv⟩⟩
    exact r_ld1 (x:=.tmp 0) rfl hd hv (s.ok.le _ _ hb) (Array.getElem?_eq_getElem hlt)
   ·cases e
  | some n =>
   simp only [okR,Bool.and_eq_true,beq_iff_eq] at hok
   simp only [resV] at e
   split at e
   ·rename_i id sz hx
    split at e
    ·rename_i t' cells hσ
     split at e
     ·rename_i cs hc
      split at e
      ·rename_i hn
       cases e
       have h1:=hT hx
       generalize hv:Tc a = w at h1
       cases h1 with
       | @oe _ _ _ _ b hb =>
        obtain ⟨b',vs,hβ,hh,hr⟩:=s.ok.ok _ (lookS_mem hσ)
        have hbb:b' = b:=by simp only [hβ,baseOf,Option.some.injEq] at hb; exact hb
        subst hbb
        rw [unfz_eq hc] at hr
        have hr:=hr.unfz
        refine ⟨.agg vs.toArray, .agg hr.1 hr.2, ⟨some 0, .load ty (.tmp 0), 0, "", #[], none⟩, .tmp 0, rfl, ?_, ⟨_, hv⟩⟩
        have h5 := r_ldN (P := P) (x := .tmp 0) (o := ⟨some 0, .load ty (.tmp 0), 0, "", #[], none⟩) (ρ := fun _ => Tc a) rfl hok.1 hv hh hok.2 (by have := hr.1; simp; omega)
        have h6:vs.toArray.extract (0 * sz + 0) (0 * sz + 0 + n) = vs.toArray:=by
         have:=hr.1
         simp only [Nat.zero_mul,Nat.zero_add]
         rw [Array.extract_eq_self_of_le (by simp; omega)]
        rwa [h6] at h5
      ·cases e
     ·cases e
    ·cases e
   ·rename_i cs hx
    split at e
    ·rename_i hn
     cases e
     obtain ⟨b,off,full,ty',fz,hv,hb,hsz,hr⟩:=frep_fp (fz_fz (hT hx))
     have h1:=FReps.of_fp (n:=n) hsz (by omega) hr
     rw [List.take_of_length_le (by omega)] at h1
     refine ⟨.agg (full.extract off (off + n)), ?_, ⟨some 0, .load ty (.tmp 0), 0, "", #[], none⟩, .tmp 0, rfl, ?_, ⟨_, hv⟩⟩
     ·have h2:=FRep.agg h1.1 h1.2
      rwa [Array.toArray_toList] at h2
     ·exact r_ldN (x:=.tmp 0) rfl hok.1 hv (s.ok.le _ _ hb) hok.2 (by omega)
    ·cases e
   ·cases e
def resVs (T:AT) (σ:AS):List (ResultVar × Option Nat) → Option (List FV)
 | []=>some []
 | x :: r=>match resV T σ x with
  | some v=>match resVs T σ r with
   | some vs=>some (v :: vs)
   | none=>none
  | none=>none
theorem x_ret1 {fn:Func} {res x:FV} (rv:ResultVar) (k:Option Nat) (hq:Q .ret = retQ P fn (PureR h0 res) .ret) (hr:fn.results = #[rv]) (hok:okR P (rv,k) = true) (e:resV T σ (rv,k) = some x) (hx:∀ h v,FRep h x v → FRep h res v):AX h0 .ret Q T σ:=fun β hF h Tc sem=>by
 rw [hq]
 obtain ⟨u,h1,h2⟩:=resV_ok sem hok e
 exact ⟨u,res_one hr h2,Heap.le_trans sem.ok.le0 sem.ok.le,(hx _ _ h1).le sem.ok.le⟩
end
end Go.Proofs.YtihdpjinaafenaaGreatDoor.Ab

/- Words with proofs as defaults, for the printed walks. -/
namespace Go.Proofs.YtihdpjinaafenaaGreatDoor.Ab
open Go.Proofs.YtihdpjinaafenaaGreatDoor.Sl
abbrev tm (n:Nat):Operand:=.tmp n
abbrev vI (n:Int):FV:=.val (.int .i64 n)
abbrev vU (n:Int):FV:=.val (.int .u32 n)
abbrev vB (b:Bool):FV:=.val (.bool b)
abbrev vN:FV:=.val (.slice none 0 0)
theorem fc_int (k:IntKind) (n:Int):FV.cells (.val (.int k n)) = [.val (.int k n)]:=rfl
theorem fc_bool (b:Bool):FV.cells (.val (.bool b)) = [.val (.bool b)]:=rfl
theorem fc_str (s:ByteArray):FV.cells (.val (.string s)) = [.val (.string s)]:=rfl
theorem fc_slice (a:Option Addr) (n c:Nat):FV.cells (.val (.slice a n c)) = [.val (.slice a n c)]:=rfl
theorem fc_ptr (a:Option Addr):FV.cells (.val (.pointer a)) = [.val (.pointer a)]:=rfl
theorem fc_map (a:Option Nat):FV.cells (.val (.map a)) = [.val (.map a)]:=rfl
theorem fc_nif:FV.cells (.val .nilIface) = [.val .nilIface]:=rfl
theorem fc_nfn:FV.cells (.val .nilFunc) = [.val .nilFunc]:=rfl
theorem fc_agg (cs:List FV):FV.cells (.agg cs) = cs:=rfl
theorem fc_sl (n:Nat) (f:Nat → List FV):FV.cells (.sl n f) = [.sl n f]:=rfl
theorem fc_of {α:Type} [Inhabited α] (enc:α → List FV) (xs:List α):FV.cells (slOf enc xs) = [slOf enc xs]:=rfl
theorem fc_L (rows:List (List FV)):FV.cells (slL rows) = [slL rows]:=rfl
theorem fc_fp (cs:List FV):FV.cells (.fp cs) = [.fp cs]:=rfl
theorem fc_ifc (t:TypeId) (x:FV):FV.cells (.ifc t x) = [.ifc t x]:=rfl
theorem fc_fn (f:FuncId) (a b:List FV):FV.cells (.fn f a b) = [.fn f a b]:=rfl
theorem pick_and (a b:Bool):(bif a then b else false) = (a && b):=by cases a <;> rfl
theorem pick_or (a b:Bool):(bif a then true else b) = (a || b):=by cases a <;> rfl
theorem rows_of {α:Type} [Inhabited α] (enc:α → List FV) (xs:List α):rowsOf xs.length (fun i=>enc (xs.getD i default)) = xs.map enc:=by
 apply List.ext_getElem?
 intro i
 unfold rowsOf
 by_cases hi:i < xs.length
 ·simp [hi]
 ·rw [List.getElem?_eq_none (by simp; omega),List.getElem?_eq_none (by simp; omega)]
theorem rows_L (rows:List (List FV)):rowsOf rows.length (fun i=>rows.getD i []) = rows:=by
 apply List.ext_getElem?
 intro i
 unfold rowsOf
 by_cases hi:i < rows.length
 ·simp [hi]
 ·rw [List.getElem?_eq_none (by simp; omega),List.getElem?_eq_none (by omega)]
theorem srcRows_of {α:Type} [Inhabited α] (σ:AS) (sz:Nat) (enc:α → List FV) (xs:List α):srcRows σ sz (some (.fz (slOf enc xs))) = some (∀ i,i < xs.length → (enc (xs.getD i default)).length = sz,xs.map enc):=by
 simp only [srcRows,asSl_of,rows_of]
theorem srcRows_L (σ:AS) (sz:Nat) (rows:List (List FV)):srcRows σ sz (some (.fz (slL rows))) = some (∀ i,i < rows.length → (rows.getD i []).length = sz,rows):=by
 simp only [srcRows,asSl_L,rows_L]
theorem srcRows_os (σ:AS) (sz id:Nat):srcRows σ sz (some (.os id)) = match lookS σ id with
  | some (.rows _ sz' rows)=>if sz' = sz then some (True,rows) else none
  | _=>none:=rfl
theorem srcRows_nil (σ:AS) (sz:Nat):srcRows σ sz (some (.fz vN)) = some (∀ i,i < 0 → ([]:List FV).length = sz,[]):=rfl
section
variable {P : Program} {N : Nat} {ops : Array Oper} {dr : Option (List Nat)} {h0 : Gd} {Q : Exit → Tm → Heap → Prop} {Qr : Tm → Heap → Prop} {T T' : AT} {σ σ' : AS} {s s' : St} {az rest : List AO} {a : AO} {r : List Code} {x y c : Code}
theorem r_run {ob:Prop} (k:Reg P N ops dr h0 Qr rest s') (e:run az s = (rest,s',ob):=by simp only [run,step1,isA,stepP,stepA,pv,pa,gob,opd,lookV,lookL,lookT,lookS,chain,inCh,addrd,hits,pgT,pgL,addL,pT,pL,pS,pO,pC,pA,ibin,sint,intBin,feq,fc_int,fc_bool,fc_str,fc_slice,fc_ptr,fc_map,fc_nif,fc_nfn,fc_agg,fc_of,fc_L,fc_sl,fc_fp,fc_ifc,fc_fn,fillF,ofzs,ofzp,unfz,rowsP,srcRows_of,srcRows_L,srcRows_os,srcRows_nil,asSl_of,asSl_L,asSl_sl,asSl_nil,setS,okNew,nmT,nmL,nmS,nmC,nmNe,OO.cells,absC,bnd,target,resV,resVs,List.set_cons_zero,List.set_cons_succ,↓reduceIte,reduceCtorEq,Nat.reduceEqDiff,Nat.reduceBEq,Nat.reduceAdd,Nat.reduceMul,Nat.reduceLT,Nat.reduceLeDiff,Nat.reduceSub,Option.map_some,List.map_cons,List.map_nil,List.drop_succ_cons,List.drop_zero,List.drop_nil,List.take_succ_cons,List.take_zero,List.take_nil,List.cons_append,List.nil_append,List.append_nil,List.any_cons,List.any_nil,List.contains_cons,List.contains_nil,List.getElem?_cons_zero,List.getElem?_cons_succ,List.length_cons,List.length_nil,cond_true,cond_false,decide_true,decide_false,Bool.not_true,Bool.not_false,Bool.true_and,Bool.false_and,Bool.and_true,Bool.and_false,Bool.or_true,Bool.true_or,Bool.or_false,Bool.false_or,beq_self_eq_true,Bool.false_eq_true,pick_and,pick_or,Int.toNat_natCast,Int.toNat_zero,true_and,and_true,forall_const,implies_true,Nat.zero_add,Nat.add_zero,and_self, *] <;> exact rfl) (o:ob:=by (first | trivial | assumption | omega | (refine ⟨?_,?_⟩ <;> first | trivial | assumption | omega | (refine ⟨?_,?_⟩ <;> first | trivial | assumption | omega)) | (intros; first | trivial | omega | (refine ⟨?_,?_⟩ <;> first | trivial | omega)))):Reg P N ops dr h0 Qr az s:=reg_run e o k
theorem r_end (ks:List Nat) (k:AC P N h0 r Q T' σ') (eT:keepT ks s.L s.T = T':=by simp only [Nat.reduceLT,decide_true,decide_false,keepT,keepS,nmT,nmB,nmC,nmNe,OO.cells,lookV,lookL,lookT,↓reduceIte,reduceCtorEq,Nat.reduceEqDiff,Nat.reduceBEq,Bool.true_and,Bool.false_and,Bool.and_true,Bool.and_false,Bool.not_true,Bool.not_false,beq_self_eq_true,Bool.false_eq_true] <;> exact rfl) (eσ:keepS T' s.σ s.σ = σ':=by simp only [Nat.reduceLT,decide_true,decide_false,keepT,keepS,nmT,nmB,nmC,nmNe,OO.cells,lookV,lookL,lookT,↓reduceIte,reduceCtorEq,Nat.reduceEqDiff,Nat.reduceBEq,Bool.true_and,Bool.false_and,Bool.and_true,Bool.and_false,Bool.not_true,Bool.not_false,beq_self_eq_true,Bool.false_eq_true] <;> exact rfl):Reg P N ops dr h0 (AK P N Q r) [] s:=reg_end ks eT eσ k
theorem r_call {d:Nat} {k:K} {q:Bool} {f:FuncId} {xs ys:List FV} {res:FV} (c:PureCall P f ys res) (r:Reg P N ops dr h0 Qr az ⟨s.T,(d,none,.fz res) :: s.L,s.σ,if q = true then s.rs else []⟩)
  (e:target (opd s.L s.T []) k = some (f,xs):=by simp only [run,step1,isA,stepP,stepA,pv,pa,gob,opd,lookV,lookL,lookT,lookS,chain,inCh,addrd,hits,pgT,pgL,addL,pT,pL,pS,pO,pC,pA,ibin,sint,intBin,feq,fc_int,fc_bool,fc_str,fc_slice,fc_ptr,fc_map,fc_nif,fc_nfn,fc_agg,fc_of,fc_L,fc_sl,fc_fp,fc_ifc,fc_fn,fillF,ofzs,ofzp,unfz,rowsP,srcRows_of,srcRows_L,srcRows_os,srcRows_nil,asSl_of,asSl_L,asSl_sl,asSl_nil,setS,okNew,nmT,nmL,nmS,nmC,nmNe,OO.cells,absC,bnd,target,resV,resVs,List.set_cons_zero,List.set_cons_succ,↓reduceIte,reduceCtorEq,Nat.reduceEqDiff,Nat.reduceBEq,Nat.reduceAdd,Nat.reduceMul,Nat.reduceLT,Nat.reduceLeDiff,Nat.reduceSub,Option.map_some,List.map_cons,List.map_nil,List.drop_succ_cons,List.drop_zero,List.drop_nil,List.take_succ_cons,List.take_zero,List.take_nil,List.cons_append,List.nil_append,List.append_nil,List.any_cons,List.any_nil,List.contains_cons,List.contains_nil,List.getElem?_cons_zero,List.getElem?_cons_succ,List.length_cons,List.length_nil,cond_true,cond_false,decide_true,decide_false,Bool.not_true,Bool.not_false,Bool.true_and,Bool.false_and,Bool.and_true,Bool.and_false,Bool.or_true,Bool.true_or,Bool.or_false,Bool.false_or,beq_self_eq_true,Bool.false_eq_true,pick_and,pick_or,Int.toNat_natCast,Int.toNat_zero,true_and,and_true,forall_const,implies_true,Nat.zero_add,Nat.add_zero,and_self, *] <;> exact rfl) (hc:okCall P f = true:=by kernel_rfl) (cv:FConv xs ys:=by first | exact FConv.rfl | fail):Reg P N ops dr h0 Qr (⟨some d,none,k,q⟩ :: az) s:=reg_call e hc c cv r
theorem r_callg {d t:Nat} {p:Bool} {k:K} {q:Bool} {f:FuncId} {xs ys:List FV} {res:FV} (c:PureCall P f ys res) (r:Reg P N ops dr h0 Qr az ⟨s.T,(d,some (t,p),.fz res) :: s.L,s.σ,s.rs⟩)
  (e:target (opd s.L s.T (chain s.L 3 (some (t,p)))) k = some (f,xs):=by simp only [run,step1,isA,stepP,stepA,pv,pa,gob,opd,lookV,lookL,lookT,lookS,chain,inCh,addrd,hits,pgT,pgL,addL,pT,pL,pS,pO,pC,pA,ibin,sint,intBin,feq,fc_int,fc_bool,fc_str,fc_slice,fc_ptr,fc_map,fc_nif,fc_nfn,fc_agg,fc_of,fc_L,fc_sl,fc_fp,fc_ifc,fc_fn,fillF,ofzs,ofzp,unfz,rowsP,srcRows_of,srcRows_L,srcRows_os,srcRows_nil,asSl_of,asSl_L,asSl_sl,asSl_nil,setS,okNew,nmT,nmL,nmS,nmC,nmNe,OO.cells,absC,bnd,target,resV,resVs,List.set_cons_zero,List.set_cons_succ,↓reduceIte,reduceCtorEq,Nat.reduceEqDiff,Nat.reduceBEq,Nat.reduceAdd,Nat.reduceMul,Nat.reduceLT,Nat.reduceLeDiff,Nat.reduceSub,Option.map_some,List.map_cons,List.map_nil,List.drop_succ_cons,List.drop_zero,List.drop_nil,List.take_succ_cons,List.take_zero,List.take_nil,List.cons_append,List.nil_append,List.append_nil,List.any_cons,List.any_nil,List.contains_cons,List.contains_nil,List.getElem?_cons_zero,List.getElem?_cons_succ,List.length_cons,List.length_nil,cond_true,cond_false,decide_true,decide_false,Bool.not_true,Bool.not_false,Bool.true_and,Bool.false_and,Bool.and_true,Bool.and_false,Bool.or_true,Bool.true_or,Bool.or_false,Bool.false_or,beq_self_eq_true,Bool.false_eq_true,pick_and,pick_or,Int.toNat_natCast,Int.toNat_zero,true_and,and_true,forall_const,implies_true,Nat.zero_add,Nat.add_zero,and_self, *] <;> exact rfl) (hc:okCall P f = true:=by kernel_rfl) (cv:FConv xs ys:=by first | exact FConv.rfl | fail) (hin:(lookL s.L t).isSome = true:=by simp only [run,step1,isA,stepP,stepA,pv,pa,gob,opd,lookV,lookL,lookT,lookS,chain,inCh,addrd,hits,pgT,pgL,addL,pT,pL,pS,pO,pC,pA,ibin,sint,intBin,feq,fc_int,fc_bool,fc_str,fc_slice,fc_ptr,fc_map,fc_nif,fc_nfn,fc_agg,fc_of,fc_L,fc_sl,fc_fp,fc_ifc,fc_fn,fillF,ofzs,ofzp,unfz,rowsP,srcRows_of,srcRows_L,srcRows_os,srcRows_nil,asSl_of,asSl_L,asSl_sl,asSl_nil,setS,okNew,nmT,nmL,nmS,nmC,nmNe,OO.cells,absC,bnd,target,resV,resVs,List.set_cons_zero,List.set_cons_succ,↓reduceIte,reduceCtorEq,Nat.reduceEqDiff,Nat.reduceBEq,Nat.reduceAdd,Nat.reduceMul,Nat.reduceLT,Nat.reduceLeDiff,Nat.reduceSub,Option.map_some,List.map_cons,List.map_nil,List.drop_succ_cons,List.drop_zero,List.drop_nil,List.take_succ_cons,List.take_zero,List.take_nil,List.cons_append,List.nil_append,List.append_nil,List.any_cons,List.any_nil,List.contains_cons,List.contains_nil,List.getElem?_cons_zero,List.getElem?_cons_succ,List.length_cons,List.length_nil,cond_true,cond_false,decide_true,decide_false,Bool.not_true,Bool.not_false,Bool.true_and,Bool.false_and,Bool.and_true,Bool.and_false,Bool.or_true,Bool.true_or,Bool.or_false,Bool.false_or,beq_self_eq_true,Bool.false_eq_true,pick_and,pick_or,Int.toNat_natCast,Int.toNat_zero,true_and,and_true,forall_const,implies_true,Nat.zero_add,Nat.add_zero,and_self,Option.isSome_some]) :
  Reg P N ops dr h0 Qr (⟨some d,some (t,p),k,q⟩ :: az) s:=reg_callg e hc c cv hin r
theorem y_ret1 {fn:Func} {res x:FV} (rv:ResultVar) (k:Option Nat) (hx:∀ h v,FRep h x v → FRep h res v) (hq:Q .ret = retQ P fn (PureR h0 res) .ret:=by rfl) (hr:fn.results = #[rv]:=by rfl) (hok:okR P (rv,k) = true:=by kernel_rfl) (e:resV T σ (rv,k) = some x:=by simp only [run,step1,isA,stepP,stepA,pv,pa,gob,opd,lookV,lookL,lookT,lookS,chain,inCh,addrd,hits,pgT,pgL,addL,pT,pL,pS,pO,pC,pA,ibin,sint,intBin,feq,fc_int,fc_bool,fc_str,fc_slice,fc_ptr,fc_map,fc_nif,fc_nfn,fc_agg,fc_of,fc_L,fc_sl,fc_fp,fc_ifc,fc_fn,fillF,ofzs,ofzp,unfz,rowsP,srcRows_of,srcRows_L,srcRows_os,srcRows_nil,asSl_of,asSl_L,asSl_sl,asSl_nil,setS,okNew,nmT,nmL,nmS,nmC,nmNe,OO.cells,absC,bnd,target,resV,resVs,List.set_cons_zero,List.set_cons_succ,↓reduceIte,reduceCtorEq,Nat.reduceEqDiff,Nat.reduceBEq,Nat.reduceAdd,Nat.reduceMul,Nat.reduceLT,Nat.reduceLeDiff,Nat.reduceSub,Option.map_some,List.map_cons,List.map_nil,List.drop_succ_cons,List.drop_zero,List.drop_nil,List.take_succ_cons,List.take_zero,List.take_nil,List.cons_append,List.nil_append,List.append_nil,List.any_cons,List.any_nil,List.contains_cons,List.contains_nil,List.getElem?_cons_zero,List.getElem?_cons_succ,List.length_cons,List.length_nil,cond_true,cond_false,decide_true,decide_false,Bool.not_true,Bool.not_false,Bool.true_and,Bool.false_and,Bool.and_true,Bool.and_false,Bool.or_true,Bool.true_or,Bool.or_false,Bool.false_or,beq_self_eq_true,Bool.false_eq_true,pick_and,pick_or,Int.toNat_natCast,Int.toNat_zero,true_and,and_true,forall_const,implies_true,Nat.zero_add,Nat.add_zero,and_self, *] <;> exact rfl):AX h0 .ret Q T σ:=x_ret1 rv k hq hr hok e hx
end
theorem frep_of {x y:FV} (e:x = y):∀ h v,FRep h x v → FRep h y v:=by subst e; exact fun _ _ r=>r
end Go.Proofs.YtihdpjinaafenaaGreatDoor.Ab

/- Addresses, as contracts on frozen values: masks, whether a prefix may be, whether an address begins as one. -/
namespace Go.Proofs.YtihdpjinaafenaaGreatDoor
open Sl Ab
theorem fv_val {h:Heap} {a v:Value} (r:FRep h (.val a) v):v = a:=by cases r; rfl
theorem fvs_val {h:Heap}:∀ {us vs:List Value},FReps h (us.map .val) vs → vs = us
 | [],vs,r=>List.length_eq_zero_iff.1 r.1
 | u :: us,vs,r=>by
  obtain ⟨v,ws,rfl,r1,r2⟩:=FReps.uncons (by simpa using r)
  rw [fv_val r1,fvs_val r2]
theorem mask_p (n:Int):PureCall Tryz.prog 255 [vI n] (vU (maskN (clip n))):=by
 intro h vs r
 obtain rfl:=fvs_val (us:=[.int .i64 n]) r
 refine (mask_ok n h).mono ?_
 rintro r h' ⟨rfl,rfl⟩
 exact ⟨Heap.le_refl _,.val _⟩
theorem valid_p (a n:Int):PureCall Tryz.prog 184 [.agg [vU a,vI n]] (vB (validB a n)):=by
 intro h vs r
 obtain ⟨v1,vs,rfl,r1,r⟩:=r.uncons
 have:vs = []:=List.length_eq_zero_iff.1 r.1
 subst this
 obtain ⟨us,rfl,r2⟩:=frep_agg r1
 obtain rfl:=fvs_val (us:=[.int .u32 a,.int .i64 n]) r2
 refine (addrValid_ok a n h).mono ?_
 rintro r h' ⟨hle,rfl⟩
 exact ⟨hle,.val _⟩
theorem in_eq (A:Nat) (n:Int) (X:Nat) (hA:A < 4294967296) (hX:X < 4294967296):(validB A n && IntKind.u32.wrap ((BitVec.ofInt IntKind.u32.bits (X:Int) &&& BitVec.ofInt IntKind.u32.bits (maskN (clip n))).toNat:Int) == (A:Int)) = (okPfx A n && decide (cut X n.toNat = A)):=by
 rw [validB_eq A n hA]
 cases hv:okPfx A n with
 | false=>rfl
 | true =>
  unfold okPfx at hv
  simp only [decide_eq_true_eq] at hv
  have hcl:clip n = n.toNat:=by
   have:=clip_of n.toNat (by omega)
   rwa [Int.toNat_of_nonneg hv.1] at this
  rw [hcl,maskN_nat _ (by omega),bv_and X (maskNat n.toNat) hX (maskNat_lt _)]
  simp only [Bool.true_and]
  rw [Bool.eq_iff_iff]
  simp only [beq_iff_eq,decide_eq_true_eq]
  unfold cut
  omega
theorem in_p (A:Nat) (n:Int) (X:Nat) (hA:A < 4294967296) (hX:X < 4294967296):PureCall Tryz.prog 256 [.agg [vU A,vI n],vU X] (vB (okPfx A n && decide (cut X n.toNat = A))):=by
 rw [← in_eq A n X hA hX]
 refine p_enter Tryz.func256 rfl (fun h0=>?_)
 simp only [argT]
 refine a_seq ?_
 refine a_reg [⟨some 2,none,.box 118 (tm 0) true,false⟩,⟨some 4,none,.asg (.const (Value.bool false)),false⟩] kR kR ?_
 refine r_run ?_
 refine r_end [0,1,2,4] ?_
 refine a_seq ?_
 refine a_regd [0,1,2,3,4,5,8,9,6,7,10,11,12] [1] [⟨some 5,none,.ldN 118 (tm 2) 2,true⟩,⟨some 6,none,.call 184 [(tm 5)] [118],false⟩,⟨some 7,none,.mv (tm 6),true⟩,⟨some 8,some (7,true),.mv (tm 1),true⟩,⟨some 9,some (7,true),.fa 118 (tm 2) 1 1 1,true⟩,⟨some 10,some (7,true),.ld 3 (tm 9),true⟩,⟨some 13,some (7,true),.fa 118 (tm 2) 0 0 1,true⟩,⟨some 14,some (7,true),.ld 23 (tm 13),true⟩,⟨some 11,some (7,true),.call 255 [(tm 10)] [3],true⟩,⟨some 12,some (7,true),.bin .and 23 (tm 8) (tm 11) 23,true⟩,⟨some 15,some (7,true),.bin .eql 23 (tm 12) (tm 14) 23,true⟩,⟨some 16,none,.pick 7 (tm 15) (.const (Value.bool false)),true⟩,⟨some 4,none,.asg (tm 16),true⟩] kR kR kR kR kR ?_
 refine r_run ?_
 refine r_call (valid_p _ _) ?_
 refine r_run ?_
 refine r_callg (mask_p _) ?_
 refine r_run ?_
 refine r_end [0,1,2,4] ?_
 refine a_ret ?_
 refine y_ret1 (.tmp 4) (none) ?_
 exact frep_of rfl
end Go.Proofs.YtihdpjinaafenaaGreatDoor

/- Natives that only reckon: masks, whether a prefix may be, whether an address begins as a prefix. -/
set_option maxRecDepth 100000
namespace Go.Proofs.YtihdpjinaafenaaGreatDoor
open Sl Ce
def pureF (g:List CV → Option CV):NF:=fun args H n ck=>Option.rec none (fun v=>some (.ok v H n ck)) (g args)
mutual
theorem vr_shut {β:Bk}:∀ (c:CV) {v:Value},VR β c v → c.shut = true → v = c.val
 | .u,_,r,_=>by cases r; rfl
 | .b _,_,r,_=>by cases r; rfl
 | .i _ _,_,r,_=>by cases r; rfl
 | .s _,_,r,_=>by cases r; rfl
 | .p _ _,_,_,h=>by simp [CV.shut] at h
 | .np,_,r,_=>by cases r; rfl
 | .g _,_,r,_=>by cases r; rfl
 | .sl _ _ _ _ _,_,_,h=>by simp [CV.shut] at h
 | .z _,_,_,h=>by simp [CV.shut] at h
 | .ns,_,r,_=>by cases r; rfl
 | .m _,_,_,h=>by simp [CV.shut] at h
 | .xi _,_,_,h=>by simp [CV.shut] at h
 | .yl _,_,_,h=>by simp [CV.shut] at h
 | .nm,_,r,_=>by cases r; rfl
 | .fn _ x y,_,r,h=>by
  simp only [CV.shut,Bool.and_eq_true] at h
  cases r with
  | fn f h1 h2=>rw [vrs_shut x h1 h.1,vrs_shut y h2 h.2]; rfl
 | .nf,_,r,_=>by cases r; rfl
 | .ifc _ x,_,r,h=>by
  simp only [CV.shut] at h
  cases r with
  | ifc t h1=>rw [vr_shut x h1 h]; rfl
 | .ni,_,r,_=>by cases r; rfl
 | .agg cs,_,r,h=>by
  simp only [CV.shut,Bool.and_eq_true] at h
  cases r with
  | agg _ h1=>rw [vrs_shut cs h1 h.2]; rfl
 | .tup cs,_,r,h=>by
  simp only [CV.shut] at h
  cases r with
  | tup h1=>rw [vrs_shut cs h1 h]; rfl
theorem vrs_shut {β:Bk}:∀ (cs:List CV) {vs:List Value},VRs β cs vs → CV.shuts cs = true → vs = CV.vals cs
 | [],_,.nil,_=>rfl
 | c :: cs,_,.cons r rs,h=>by
  simp only [CV.shuts,Bool.and_eq_true] at h
  rw [vr_shut c r h.1,vrs_shut cs rs h.2]; rfl
end
theorem pureF_ok {P:Program} {N:Kn P} {f:Pos} {g:List CV → Option CV} (hok:Ab.okCall P (f.nat - 1) = true)
  (hg:∀ args v,g args = some v → v.shut = true ∧ CV.shuts args = true ∧ ∀ h,SCalls P (f.nat - 1) (CV.vals args).toArray h (fun r h'=>h.le h' ∧ r = v.val)):NFOk N f (pureF g):=by
 intro args H n ck v H' n' ck' e β h vs hr rv
 replace e:(Option.rec none (fun v=>some (.ok v H n ck)) (g args):Option Ao) = some (.ok v H' n' ck'):=e
 cases hgv:g args with
 | none=>rw [hgv] at e; cases e
 | some v0 =>
  rw [hgv] at e
  cases e
  obtain ⟨h1,h2,h3⟩:=hg args v hgv
  refine ⟨hok,?_⟩
  rw [vrs_shut _ rv h2]
  refine (h3 h).mono fun u h' ⟨e1,e2⟩=>?_
  rw [e2]
  exact aft_le hr e1 (shut_ok β v h1)
def okN (a n:Nat):Bool:=Nat.beq (Nat.land a (Nat.sub 4294967296 (Nat.pow 2 (Nat.sub 32 n)))) a
def u32N (a:Nat):Bool:=Nat.blt a 4294967296
def maskG (args:List CV):Option CV:=match args with
 | [.i .i64 (.ofNat n)]=>bif Nat.ble n 32 then some (.i .u32 (.ofNat (Nat.sub 4294967296 (Nat.pow 2 (Nat.sub 32 n))))) else none
 | _=>none
def validG (args:List CV):Option CV:=match args with
 | [.agg [.i .u32 (.ofNat a),.i .i64 (.ofNat n)]]=>bif Nat.ble n 32 && u32N a then some (.b (okN a n)) else none
 | _=>none
def inG (args:List CV):Option CV:=match args with
 | [.agg [.i .u32 (.ofNat a),.i .i64 (.ofNat n)],.i .u32 (.ofNat x)]=>bif Nat.ble n 32 && (u32N a && u32N x) then some (.b (okN a n && Nat.beq (Nat.land x (Nat.sub 4294967296 (Nat.pow 2 (Nat.sub 32 n)))) a)) else none
 | _=>none
theorem okN_eq (a n:Nat) (h:n ≤ 32):okN a n = okPfx a (n:Int):=by
 unfold okN okPfx cut maskNat
 rw [Bool.eq_iff_iff]
 simp only [Nat.beq_eq,decide_eq_true_eq,Int.toNat_natCast]
 exact ⟨fun e=>⟨by omega,by omega,e⟩,fun e=>e.2.2⟩
theorem pure_call {f:FuncId} {xs:List Value} {r:Value} (c:Ab.PureCall Tryz.prog f (xs.map .val) (.val r)) (h:Heap):SCalls Tryz.prog f xs.toArray h (fun v h'=>h.le h' ∧ v = r) :=
 (c h xs (Ab.freps_val h xs)).mono fun v h' ⟨a,b⟩=>⟨a,fv_val b⟩
theorem frep_agg2 (h:Heap) (us:List Value):Ab.FRep h (.agg (us.map .val)) (.agg us.toArray):=.agg (by simp) (Ab.freps_val h us).2
theorem band2 {a b:Bool} (h:(a && b) = true):a = true ∧ b = true:=by cases a <;> cases b <;> first | exact ⟨rfl,rfl⟩ | cases h
theorem u32N_lt {a:Nat} (h:u32N a = true):a < 4294967296:=Nat.le_of_ble_eq_true h
theorem bif_some {c:Bool} {α:Type} {x v:α} (h:(bif c then some x else none) = some v):c = true ∧ x = v:=by
 cases c with
 | false=>cases h
 | true=>exact ⟨rfl,Option.some.inj h⟩
variable {N : Kn Tryz.prog}
theorem maskG_ok (hf:(pos 255).nat - 1 = 255:=by simp [pos_nat]):NFOk N (pos 255) (pureF maskG):=by
 refine pureF_ok (by rw [hf]; kernel_rfl) fun args v e=>?_
 rw [hf]
 unfold maskG at e
 split at e
 case h_2=>cases e
 rename_i n
 obtain ⟨h1,rfl⟩:=bif_some e
 have hn:n ≤ 32:=Nat.le_of_ble_eq_true h1
 refine ⟨rfl,rfl,fun h=>(pure_call (xs:=[.int .i64 n]) (mask_p (n:Int)) h).mono fun u h' ⟨a,b⟩=>⟨a,?_⟩⟩
 rw [b,clip_of n hn,maskN_nat n hn]; rfl
theorem validG_ok (hf:(pos 184).nat - 1 = 184:=by simp [pos_nat]):NFOk N (pos 184) (pureF validG):=by
 refine pureF_ok (by rw [hf]; kernel_rfl) fun args v e=>?_
 rw [hf]
 unfold validG at e
 split at e
 case h_2=>cases e
 rename_i a n
 obtain ⟨h1,rfl⟩:=bif_some e
 obtain ⟨hn,ha⟩:=band2 h1
 have hn:n ≤ 32:=Nat.le_of_ble_eq_true hn
 have ha:=u32N_lt ha
 refine ⟨rfl,rfl,fun h=>(valid_p (a:Int) (n:Int) h _ (Ab.FReps.cons (frep_agg2 h [.int .u32 a,.int .i64 n]) (Ab.FReps.nil h))).mono fun u h' ⟨b,c⟩=>⟨b,?_⟩⟩
 rw [fv_val c,validB_eq a n ha,← okN_eq a n hn]; rfl
theorem inG_ok (hf:(pos 256).nat - 1 = 256:=by simp [pos_nat]):NFOk N (pos 256) (pureF inG):=by
 refine pureF_ok (by rw [hf]; kernel_rfl) fun args v e=>?_
 rw [hf]
 unfold inG at e
 split at e
 case h_2=>cases e
 rename_i a n x
 obtain ⟨h1,rfl⟩:=bif_some e
 obtain ⟨hn,h2⟩:=band2 h1
 obtain ⟨ha,hx⟩:=band2 h2
 have hn:n ≤ 32:=Nat.le_of_ble_eq_true hn
 have ha:=u32N_lt ha
 have hx:=u32N_lt hx
 refine ⟨rfl,rfl,fun h=>(in_p a (n:Int) x ha hx h _ (Ab.FReps.cons (frep_agg2 h [.int .u32 a,.int .i64 n]) (Ab.FReps.cons (.val (.int .u32 x)) (Ab.FReps.nil h)))).mono fun u h' ⟨b,c⟩=>⟨b,?_⟩⟩
 rw [fv_val c,← okN_eq a n hn]
 have:Nat.beq (Nat.land x (Nat.sub 4294967296 (Nat.pow 2 (Nat.sub 32 n)))) a = decide (cut x (n:Int).toNat = a):=by
  unfold cut maskNat
  rw [Bool.eq_iff_iff]
  simp only [Nat.beq_eq,decide_eq_true_eq,Int.toNat_natCast]
  exact Iff.rfl
 rw [← this]; rfl
def addrN:List (Pos × NF):=[(pos 256,pureF inG),(pos 184,pureF validG),(pos 255,pureF maskG)]
theorem addrN_ok {KN:Kn Tryz.prog}:∀ e ∈ addrN,NFOk KN e.1 e.2:=by
 intro e he
 simp only [addrN,List.mem_cons,List.not_mem_nil,or_false] at he
 rcases he with rfl | rfl | rfl
 ·exact inG_ok
 ·exact validG_ok
 ·exact maskG_ok
end Go.Proofs.YtihdpjinaafenaaGreatDoor

/- Natives: strings.Join, by the shelf's contract. -/
namespace Go.Proofs.YtihdpjinaafenaaGreatDoor
open Sl Ce Go.RowKit
theorem scalls_below {P:Program} {f:FuncId} {args:Array Value} {v:Value} {h:Heap} (c:∀ w,Rel h w → Calls P f args w fun e w'=>e = .returned v ∧ Below w.heap.size w w'):SCalls P f args h (fun r h'=>h' = h ∧ r = v):=fun w rel =>
 (c w rel).mono fun e w' ⟨e1,b⟩=>⟨v,h,e1,⟨rfl,rfl⟩,fun k o hk=>(b.block k (rel.lt hk)).trans (rel k o hk),b.os,b.tape,b.output,b.size,fun k hk _=>b.block k hk,fun k h1 h2=>absurd h1 h2⟩
def strs:List CV → Option (List (List Nat))
 | []=>some []
 | .s l :: r=>(match strs r with | some x=>some (l :: x) | none=>none)
 | _=>none
def joinL (sep:List Nat):List (List Nat) → List Nat
 | []=>[]
 | x :: r=>x ++ (r.map (sep ++ ·)).flatten
theorem strs_spec:∀ {cs:List CV} {l:List (List Nat)},strs cs = some l → l.length = cs.length ∧ ∀ (j:Nat) (x:List Nat),l[j]? = some x → cs[j]? = some (.s x)
 | [],l,e=>by cases e; exact ⟨rfl,fun j x h=>by simp at h⟩
 | c :: cs,l,e=>by
  unfold strs at e
  split at e
  ·rename_i e1; cases e1
  ·rename_i s r e1
   cases e1
   split at e
   ·rename_i l' hl'
    cases e
    obtain ⟨h1,h3⟩:=strs_spec hl'
    refine ⟨by simp [h1],fun j x h=>?_⟩
    cases j with
    | zero=>simp at h; subst h; rfl
    | succ j=>simpa using h3 j x (by simpa using h)
   ·cases e
  ·cases e
theorem joinL_eq (sep:List Nat) (xs:List (List Nat)):Lib.join (xs.map (fun l=>l.map UInt8.ofNat)) (sep.map UInt8.ofNat) = (joinL sep xs).map UInt8.ofNat:=by
 cases xs with
 | nil=>rfl
 | cons x r =>
  simp only [List.map_cons,Lib.join_cons,Lib.joinTail,joinL,List.map_append,List.map_flatten,List.map_map]
  congr 2
  apply List.map_congr_left
  intro a _
  simp
theorem joinL_all (sep:List Nat) (xs:List (List Nat)) (hs:sep.all (fun x=>Nat.blt x 256) = true) (hx:∀ x ∈ xs,x.all (fun x=>Nat.blt x 256) = true):(joinL sep xs).all (fun x=>Nat.blt x 256) = true:=by
 cases xs with
 | nil=>rfl
 | cons x r =>
  simp only [joinL,List.all_append,hx x List.mem_cons_self,Bool.true_and,List.all_eq_true,List.mem_flatten,List.mem_map]
  rintro b ⟨l,⟨y,hy,rfl⟩,hb⟩
  rcases List.mem_append.1 hb with h | h
  ·exact List.all_eq_true.1 hs b h
  ·exact List.all_eq_true.1 (hx y (List.mem_cons_of_mem _ hy)) b h
def joinF:NF:=fun args H n ck=>match args with
 | [.sl id off k 1 _,.s sep]=>match hget id H with
  | .cells _ _ cs=>bif leR (off + k) cs && Nat.ble k 1000000 then (match strs (takeR (dropR cs off) k) with
   | some xs=>bif Nat.ble (joinL sep xs).length 1000000 then some (.ok (.s (joinL sep xs)) H n ck) else none
   | none=>none) else none
  | _=>none
 | _=>none
theorem joinF_ok {N:Kn Tryz.prog} {f:Pos} (hf:f.nat - 1 = 151) (hok:Ab.okCall Tryz.prog 151 = true):NFOk N f joinF:=by
 intro args H n ck v H' n' ck' e β h vs hr rv
 rw [hf]
 refine ⟨hok,?_⟩
 unfold joinF at e
 split at e
 case h_2=>cases e
 rename_i id off k c sep
 split at e
 case h_2=>cases e
 rename_i st t cs hc
 cases hb:(leR (off + k) cs && Nat.ble k 1000000) with
 | false=>rw [hb] at e; cases e
 | true =>
 rw [hb] at e
 simp only [cond_true] at e
 obtain ⟨hle,hk⟩:=band2 hb
 rw [leR_eq] at hle
 have hle:=Nat.le_of_ble_eq_true hle
 have hk:=Nat.le_of_ble_eq_true hk
 split at e
 case h_2=>cases e
 rename_i xs hxs
 rw [takeR_eq,dropR_eq] at hxs
 obtain ⟨h1,h3⟩:=strs_spec hxs
 obtain ⟨hlen,hv⟩:=bif_some e
 have hlen:=Nat.le_of_ble_eq_true hlen
 simp only [Ao.ok.injEq] at hv
 obtain ⟨e1,e2,e3,e4⟩:=hv
 subst e1; subst e2; subst e3; subst e4
 cases rv with
 | cons r1 rv =>
 cases rv with
 | cons r2 rv =>
 cases rv
 cases r2 with
 | s _ hsep =>
 cases r1 with
 | sl hy hn hcc he =>
 rename_i y kk
 obtain ⟨us,tl,hbl,hl,hvv,_⟩:=hr.cells hc hy
 have hxk:xs.length = k:=by rw [h1]; simp; omega
 have hat:∀ (j:Nat) (x:List Nat),xs[j]? = some x → us[off + j]? = some (.string (byt x)) ∧ x.all (fun x=>Nat.blt x 256) = true:=fun j x hj=>by
  have h4:=h3 j x hj
  have hjn:j < k:=by
   have:=(List.getElem?_eq_some_iff.1 hj).1
   omega
  rw [List.getElem?_take,if_pos hjn,List.getElem?_drop] at h4
  obtain ⟨v,h5,h6⟩:=hvv.get h4
  cases h6 with
  | s _ hx=>exact ⟨h5,hx⟩
 have hall:=joinL_all sep xs hsep (fun x hx=>by
  obtain ⟨j,hj,e⟩:=List.mem_iff_getElem.1 hx
  exact (hat j x (by rw [List.getElem?_eq_getElem hj,e])).2)
 have hj:Lib.join ((xs.map byt).map (·.data.toList)) (byt sep).data.toList = (joinL sep xs).map UInt8.ofNat:=by
  rw [← joinL_eq,List.map_map]
  congr 1
 have key:=scalls_below (P:=Tryz.prog) (f:=151) (args:=#[.slice (some ⟨y.b,off,none⟩) k kk,.string (byt sep)]) (h:=h) (v:=.string (byt (joinL sep xs))) (fun w rel=>by
  have c:=Tryz.strings_Join y.b off kk (xs.map byt) (byt sep) w (fun j x hjx=>by
   rw [List.getElem?_map,Option.map_eq_some_iff] at hjx
   obtain ⟨l,hl',rfl⟩:=hjx
   have h5:=(hat j l hl').1
   rw [rel.cell hbl]
   have hlt:off + j < us.length:=(List.getElem?_eq_some_iff.1 h5).1
   simp only [List.getElem?_toArray]
   rw [List.getElem?_append_left hlt]; exact h5) (rel.lt hbl) (by simp; omega) (by simp; omega) (by rw [hj,List.length_map]; omega)
  rw [hj] at c
  simp only [List.length_map,hxk] at c
  exact c)
 exact key.mono fun u h' ⟨e1,e2⟩=>by rw [e2]; subst e1; exact aft_le hr (Heap.le_refl _) (.s _ hall)
def strN:List (Pos × NF):=(pos 151,joinF) :: addrN
theorem strN_ok {KN:Kn Tryz.prog}:∀ e ∈ strN,NFOk KN e.1 e.2:=by
 intro e he
 rcases List.mem_cons.1 he with rfl | he
 ·exact joinF_ok (by simp [pos_nat]) kR
 ·exact addrN_ok e he
end Go.Proofs.YtihdpjinaafenaaGreatDoor

/- FindRoots: the evaluation of one case. -/
set_option maxRecDepth 1000000
namespace Go.Proofs.YtihdpjinaafenaaGreatDoor
open Sl Ce
def findRootsNum:Pos:=pos 13
def findRootsFir:Pos:=pos 28
theorem findRoots_first_e:isTrue ((evF 1000000 (omL strN) tab 1000).c findRootsFir [] ch0 i0 0) = true:=by kernel_rfl
def findRootsH (τ:Nat → Nat):CH:=(hset i0 (.cells 0 (τ 10) [.i .u64 (.ofNat 1),.i .u64 (.ofNat 10),.i .u64 (.ofNat 100),.i .u64 (.ofNat 1000),.i .u64 (.ofNat 10000),.i .u64 (.ofNat 100000),.i .u64 (.ofNat 1000000),.i .u64 (.ofNat 10000000),.i .u64 (.ofNat 100000000),.i .u64 (.ofNat 1000000000),.i .u64 (.ofNat 10000000000),.i .u64 (.ofNat 100000000000),.i .u64 (.ofNat 1000000000000),.i .u64 (.ofNat 10000000000000),.i .u64 (.ofNat 100000000000000),.i .u64 (.ofNat 1000000000000000),.i .u64 (.ofNat 10000000000000000),.i .u64 (.ofNat 100000000000000000),.i .u64 (.ofNat 1000000000000000000),.i .u64 (.ofNat 10000000000000000000)]) ch0)
def findRootsAt (τ:Nat → Nat) (r0:Nat) (r1:Nat) (r2:Bool):Bool:=isTrueG gs1 ((evF 1000000 (omX findRootsNum [findRootsFir] [(0,4,r0),(1,5,r1)] strN) tabG 1000).c (pos 6) [.xi 0,.xi 1,.b r2] (findRootsH τ) i0.succ 0)
theorem findRoots_band {a b:Bool} (h:(a && b) = true):a = true ∧ b = true:=by cases a <;> cases b <;> first | exact ⟨rfl,rfl⟩ | cases h
end Go.Proofs.YtihdpjinaafenaaGreatDoor
