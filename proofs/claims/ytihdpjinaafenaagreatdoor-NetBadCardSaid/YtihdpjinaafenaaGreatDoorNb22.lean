import Derived.Test.YtihdpjinaafenaaGreatDoorNb21
import Derived.Test.YtihdpjinaafenaaGreatDoorProg
noncomputable section
/- Operations by hand: what only reckons or reads; the index of a string. -/
set_option linter.unusedVariables false
set_option linter.unusedSimpArgs false
namespace Go.Proofs.YtihdpjinaafenaaGreatDoor.Ab
open Go.Proofs.YtihdpjinaafenaaGreatDoor.Sl
section
variable {P : Program} {N : Nat} {ops : Array Oper} {dr : Option (List Nat)} {h0 : Gd} {Qr : Tm → Heap → Prop} {s s' : St} {az rest : List AO} {o : Oper} {β : Nat → Value} {hF h : Heap} {Tc : Tm}
theorem RegN.other {d:Nat} {k:K} {q:Bool} (v:AV) (rd:Option Nat) (hpv:∀ o,o.op = k.op → ∀ {β:Nat → Value} {hF h:Heap} {Tc:Tm},Sem h0 β hF h Tc s.T s.L s.σ → PvOk P β hF h Tc o ⟨True,v,rd⟩)
  (r:RegN P N ops h0 Qr az ⟨s.T,(d,none,v) :: s.L,s.σ,addrd rd s.rs⟩):RegN P N ops h0 Qr (⟨some d,none,k,q⟩ :: az) s:=by
 intro os hm hok β hF h Tc sem nd
 cases os with
 | nil=>simp at hm
 | cons o os =>
  simp only [List.map_cons,List.cons.injEq] at hm
  simp only [List.all_cons,Bool.and_eq_true] at hok
  have f:=fit_of hm.1 hok.1
  obtain ⟨nd',hne⟩:=nod_step nd rfl none v
  refine ⟨f.lt,?_⟩
  rw [f.want_none rfl]
  obtain ⟨u,hv,_,hr⟩:=hpv o f.op sem
  refine (hr h sem.ok.le (fun _ _ _ _=>rfl)).sop ?_
  rw [put_some f.dst]
  exact r os hm.2 hok.2 _ _ _ _ (sem.put (g:=none) hne (fun _ _ e=>by cases e) hv) nd'
theorem RegD.other {loud:List Nat} {d:Nat} {k:K} {q:Bool} (hact':isAct k.op = false) (v:AV) (rd:Option Nat) (hrd:∀ id,rd = some id → ∃ x,(id,x) ∈ s.σ) (hpv:∀ o,o.op = k.op → ∀ {β:Nat → Value} {hF h:Heap} {Tc:Tm},Sem h0 β hF h Tc s.T s.L s.σ → PvOk P β hF h Tc o ⟨True,v,rd⟩)
  (r:RegD P N ops loud h0 Qr az ⟨s.T,(d,none,v) :: s.L,s.σ,addrd rd s.rs⟩):RegD P N ops loud h0 Qr (⟨some d,none,k,q⟩ :: az) s:=by
 intro τ hm hok β hF h Tc F E sem fo nd
 cases τ with
 | nil=>simp at hm
 | cons e0 τ =>
  obtain ⟨i,rfl,hstrip,hloud,hm2⟩:=d_head hm
  simp only [List.all_cons,Bool.and_eq_true] at hok
  have f:=fit_of hstrip hok.1
  obtain ⟨nd',hne⟩:=nod_step nd rfl none v
  have hact:isAct (opAt ops i).op = false:=by rw [f.op]; exact hact'
  have fo':=fo.rd rd hrd
  simp only [sdraw,List.not_mem_nil,if_false,hact,Bool.false_eq_true]
  rw [f.want_none rfl]
  simp only [if_true]
  obtain ⟨u,hv,hp,hr⟩:=hpv _ f.op sem
  cases hrd':isRead (opAt ops i).op with
  | true =>
   rw [if_pos rfl]
   refine ⟨u,⟨fun g=>hF.le g ∧ ∀ id b,rd = some id → baseOf (β id) = some b → g b = h b,fun g g' hgg hg=>⟨Heap.le_trans hg.1 hgg,fun id b e1 e2=>?_⟩⟩,⟨sem.ok.le,fun _ _ _ _=>rfl⟩,fun g hg=>hr g hg.1 hg.2,?_⟩
   ·have h1:=hg.2 id b e1 e2
    obtain ⟨x,hx⟩:=hrd id e1
    obtain ⟨ob',h2⟩:=(sem.ok.ok _ hx).blk ((sem.ok.ok _ hx).fp e2)
    rw [h2] at h1 ⊢
    exact hgg _ _ h1
   ·rw [put_some f.dst]
    refine r τ hm2 hok.2 _ _ _ _ _ _ (sem.put (g:=none) hne (fun _ _ e=>by cases e) hv) ⟨fun A hA g hg hb=>?_,fo'.2⟩ nd'
    rcases List.mem_cons.1 hA with rfl | hA
    ·refine ⟨hg,fun id b e1 e2=>hb id ?_ b e2⟩
     simp [addrd,e1]
    ·exact fo'.1 A hA g hg hb
  | false =>
   rw [if_neg (by simp)]
   refine ⟨u,hp hrd',?_⟩
   rw [put_some f.dst]
   exact r τ hm2 hok.2 _ _ _ _ _ _ (sem.put (g:=none) hne (fun _ _ e=>by cases e) hv) fo' nd'
theorem reg_other {d:Nat} {k:K} {q:Bool} (hact:isAct k.op = false) (v:AV) (hpv:∀ o,o.op = k.op → ∀ {β:Nat → Value} {hF h:Heap} {Tc:Tm},Sem h0 β hF h Tc s.T s.L s.σ → PvOk P β hF h Tc o ⟨True,v,none⟩)
  (r:Reg P N ops dr h0 Qr az ⟨s.T,(d,none,v) :: s.L,s.σ,s.rs⟩):Reg P N ops dr h0 Qr (⟨some d,none,k,q⟩ :: az) s:=by
 cases dr with
 | none=>exact RegN.other v none hpv r
 | some l=>exact RegD.other hact v none (fun _ e=>by cases e) hpv r
theorem r_index_str {ρ:Operand → Value} {t:TypeId} {x i:Operand} {s:ByteArray} {k:IntKind} {j:Nat} {c:UInt8} (ho:o.op = .index t x i) (hu:P.underlying t = some .string) (hx:ρ x = .string s) (hi:ρ i = .int k j) (hc:s[j]? = some c):ReadOp P o ρ h (.int .u8 c.toNat):=by
 intro w r
 simp [execOp,ho,Instr.index,hx,hi,asIntOf,run_underlying hu,hc]
theorem r_ixs {d:Nat} {q:Bool} {t:TypeId} {x i:Operand} {str:ByteArray} {k:IntKind} {j:Nat} (c:UInt8) (hc:str[j]? = some c) (r:Reg P N ops dr h0 Qr az ⟨s.T,(d,none,.fz (.val (.int .u8 c.toNat))) :: s.L,s.σ,s.rs⟩) (hu:P.underlying t = some .string:=by rfl)
  (hx:opd s.L s.T [] x = some (.fz (.val (.string str))):=by simp only [run,step1,isA,stepP,stepA,pv,pa,gob,opd,lookV,lookL,lookT,lookS,chain,inCh,addrd,hits,pgT,pgL,addL,pT,pL,pS,pO,pC,pA,ibin,sint,intBin,feq,fc_int,fc_bool,fc_str,fc_slice,fc_ptr,fc_map,fc_nif,fc_nfn,fc_agg,fc_of,fc_L,fc_sl,fc_fp,fc_ifc,fc_fn,fillF,ofzs,ofzp,unfz,rowsP,srcRows_of,srcRows_L,srcRows_os,srcRows_nil,asSl_of,asSl_L,asSl_sl,asSl_nil,setS,okNew,nmT,nmL,nmS,nmC,nmNe,OO.cells,absC,bnd,target,resV,resVs,List.set_cons_zero,List.set_cons_succ,↓reduceIte,reduceCtorEq,Nat.reduceEqDiff,Nat.reduceBEq,Nat.reduceAdd,Nat.reduceMul,Nat.reduceLT,Nat.reduceLeDiff,Nat.reduceSub,Option.map_some,List.map_cons,List.map_nil,List.drop_succ_cons,List.drop_zero,List.drop_nil,List.take_succ_cons,List.take_zero,List.take_nil,List.cons_append,List.nil_append,List.append_nil,List.any_cons,List.any_nil,List.contains_cons,List.contains_nil,List.getElem?_cons_zero,List.getElem?_cons_succ,List.length_cons,List.length_nil,cond_true,cond_false,decide_true,decide_false,Bool.not_true,Bool.not_false,Bool.true_and,Bool.false_and,Bool.and_true,Bool.and_false,Bool.or_true,Bool.true_or,Bool.or_false,Bool.false_or,beq_self_eq_true,Bool.false_eq_true,pick_and,pick_or,Int.toNat_natCast,Int.toNat_zero,true_and,and_true,forall_const,implies_true,Nat.zero_add,Nat.add_zero,and_self, *] <;> exact rfl) (hi:opd s.L s.T [] i = some (.fz (.val (.int k j))):=by simp only [run,step1,isA,stepP,stepA,pv,pa,gob,opd,lookV,lookL,lookT,lookS,chain,inCh,addrd,hits,pgT,pgL,addL,pT,pL,pS,pO,pC,pA,ibin,sint,intBin,feq,fc_int,fc_bool,fc_str,fc_slice,fc_ptr,fc_map,fc_nif,fc_nfn,fc_agg,fc_of,fc_L,fc_sl,fc_fp,fc_ifc,fc_fn,fillF,ofzs,ofzp,unfz,rowsP,srcRows_of,srcRows_L,srcRows_os,srcRows_nil,asSl_of,asSl_L,asSl_sl,asSl_nil,setS,okNew,nmT,nmL,nmS,nmC,nmNe,OO.cells,absC,bnd,target,resV,resVs,List.set_cons_zero,List.set_cons_succ,↓reduceIte,reduceCtorEq,Nat.reduceEqDiff,Nat.reduceBEq,Nat.reduceAdd,Nat.reduceMul,Nat.reduceLT,Nat.reduceLeDiff,Nat.reduceSub,Option.map_some,List.map_cons,List.map_nil,List.drop_succ_cons,List.drop_zero,List.drop_nil,List.take_succ_cons,List.take_zero,List.take_nil,List.cons_append,List.nil_append,List.append_nil,List.any_cons,List.any_nil,List.contains_cons,List.contains_nil,List.getElem?_cons_zero,List.getElem?_cons_succ,List.length_cons,List.length_nil,cond_true,cond_false,decide_true,decide_false,Bool.not_true,Bool.not_false,Bool.true_and,Bool.false_and,Bool.and_true,Bool.and_false,Bool.or_true,Bool.true_or,Bool.or_false,Bool.false_or,beq_self_eq_true,Bool.false_eq_true,pick_and,pick_or,Int.toNat_natCast,Int.toNat_zero,true_and,and_true,forall_const,implies_true,Nat.zero_add,Nat.add_zero,and_self, *] <;> exact rfl):Reg P N ops dr h0 Qr (⟨some d,none,.other (.index t x i),q⟩ :: az) s :=
 reg_other rfl _ (fun o ho β hF h Tc sem=>fin_pr (.fz (.val _)) (r_index_str ho hu (fz_val (opd_ok sem (fun x hx=>by cases hx) hx)) (fz_val (opd_ok sem (fun x hx=>by cases hx) hi)) hc)) r
end
end Go.Proofs.YtihdpjinaafenaaGreatDoor.Ab

/- Things as frozen values. -/
namespace Go.Proofs.YtihdpjinaafenaaGreatDoor
open Sl Ab
theorem Ab.frep_val {h:Heap} {u v:Value} (r:FRep h (.val u) v):v = u:=by cases r; rfl
theorem FReps.nil' {h:Heap}:FReps h [] []:=⟨rfl,fun j c v a=>by simp at a⟩
def encTh (k:ThK):List FV:=[vI k.1.1,vI k.1.2.1,vU k.1.2.2,vU k.2.1,vU k.2.2]
theorem thV_of {h:Heap} {k:ThK} {v:Value} (r0:FRep h (.agg (encTh k)) v):v = thV k:=by
 obtain ⟨vs,rfl,r⟩:=frep_agg r0
 obtain ⟨v1,vs,rfl,r1,r⟩:=r.uncons
 obtain ⟨v2,vs,rfl,r2,r⟩:=r.uncons
 obtain ⟨v3,vs,rfl,r3,r⟩:=r.uncons
 obtain ⟨v4,vs,rfl,r4,r⟩:=r.uncons
 obtain ⟨v5,vs,rfl,r5,r⟩:=r.uncons
 have:vs = []:=List.length_eq_zero_iff.1 r.1
 rw [frep_val r1,frep_val r2,frep_val r3,frep_val r4,frep_val r5,this]
 rfl
end Go.Proofs.YtihdpjinaafenaaGreatDoor

/- Readable slices: what they look like. -/
namespace Go.Proofs.YtihdpjinaafenaaGreatDoor
open Sl
theorem Sl.Cells.form {h:Heap} {sz n:Nat} {v:Value} {cs:List Value} (x:Cells h sz v n cs):∃ a c,v = .slice a n c:=by
 cases x with
 | zero a c=>exact ⟨_,_,rfl⟩
 | at_=>exact ⟨_,_,rfl⟩
theorem Sl.Cells.get {h:Heap} {sz n:Nat} {v:Value} {cs:List Value} (x:Cells h sz v n cs) {i:Nat} (hi:i < n) :
  ∃ b off c full e fz,v = .slice (some ⟨b,off,none⟩) n c ∧ h b = some (.cells full e fz) ∧ ∀ j,j < sz → full[off + i * sz + j]? = cs[i * sz + j]?:=by
 cases x with
 | zero a c=>omega
 | @at_ b off n c full e fz cs hb hl hnc hc =>
  refine ⟨b,off,c,full,e,fz,rfl,hb,fun j hj=>?_⟩
  have hlt:i * sz + j < n * sz:=by
   have:(i + 1) * sz ≤ n * sz:=Nat.mul_le_mul_right _ hi
   rw [Nat.add_mul] at this; omega
  rw [← hc,List.getElem?_take_of_lt hlt,List.getElem?_drop,Array.getElem?_toList,Nat.add_assoc]
end Go.Proofs.YtihdpjinaafenaaGreatDoor

/- cmp.Compare, cmp.Or. -/
namespace Go.Proofs.YtihdpjinaafenaaGreatDoor
open Sl
def cmpI (a b:Int):Int:=if a < b then -1 else if a > b then 1 else 0
theorem isNaNInt_ok (a:Int) (h:Heap):SCalls Tryz.prog 172 #[.int .i64 a] h (fun r h'=>h' = h ∧ r = .bool false):=by
 refine s_enter Tryz.func172 rfl (by rw [Tryz.ntmps172]; simp) ?_
 rw [Tryz.ntmps172]
 generalize hT:T0 #[.int .i64 a] = T
 have h0:T 0 = .int .i64 a:=by rw [← hT]; rfl
 clear hT
 repeat refine s_seq ?_
 refine s_region ?_
 refine w_pv rfl dC (want_none rfl) (p_val evA) ?_
 refine w_nil ?_
 repeat refine s_seq ?_
 refine s_region ?_
 refine w_pv rfl dC (want_none rfl) (p_val evA) ?_
 refine w_pv rfl dC (want_none rfl) (p_val evA) ?_
 refine w_pv rfl dC (want_none rfl) (p_val evA) ?_
 refine w_pv rfl dC (want_none rfl) (p_val evA) ?_
 refine w_nil ?_
 exact s_ret ⟨_,res_one rfl rfl,rfl,slA⟩
theorem cmpInt_ok (a b:Int) (h:Heap):SCalls Tryz.prog 103 #[.int .i64 a,.int .i64 b] h (fun r h'=>h' = h ∧ r = .int .i64 (cmpI a b)):=by
 refine s_enter Tryz.func103 rfl (by rw [Tryz.ntmps103]; simp) ?_
 rw [Tryz.ntmps103]
 generalize hT:T0 #[.int .i64 a,.int .i64 b] = T
 have h0:T 0 = .int .i64 a:=by rw [← hT]; rfl
 have h1:T 1 = .int .i64 b:=by rw [← hT]; rfl
 clear hT
 unfold cmpI
 by_cases hlt:a < b
 ·have e1:decide (a < b) = true:=decide_eq_true hlt
  simp only [if_pos hlt]
  clear hlt
  repeat refine s_seq ?_
  refine s_region ?_
  refine w_pv rfl dC (want_none rfl) (p_val evA) ?_
  refine w_nil ?_
  repeat refine s_seq ?_
  refine s_region ?_
  refine w_pv rfl dC (want_none rfl) (p_val evA) ?_
  refine w_ac rfl dC (want_none rfl) (s_call rfl rfl Tryz.func172 kR kR evA ?_); refine (isNaNInt_ok _ _).mono ?_; rintro _ h ⟨rfl,rfl⟩
  refine w_pv rfl dC (want_none rfl) (p_val evA) ?_
  refine w_nil ?_
  repeat refine s_seq ?_
  refine s_region ?_
  refine w_pv rfl dC (want_none rfl) (p_val evA) ?_
  refine w_ac rfl dC (want_none rfl) (s_call rfl rfl Tryz.func172 kR kR evA ?_); refine (isNaNInt_ok _ _).mono ?_; rintro _ h ⟨rfl,rfl⟩
  refine w_pv rfl dC (want_none rfl) (p_val evA) ?_
  refine w_nil ?_
  repeat refine s_seq ?_
  refine s_region ?_
  refine w_pv rfl dC (want_none rfl) (p_val evA) ?_
  refine w_nil ?_
  repeat refine s_seq ?_
  refine s_cond (t:=false) slA ?_
  repeat refine s_seq ?_
  refine s_skip ?_
  repeat refine s_seq ?_
  refine s_region ?_
  refine w_pv rfl dC (want_none rfl) (p_val evA) ?_
  refine w_nil ?_
  repeat refine s_seq ?_
  refine s_cond (t:=false) slA ?_
  repeat refine s_seq ?_
  refine s_skip ?_
  repeat refine s_seq ?_
  refine s_region ?_
  refine w_pv rfl dC (want_none rfl) (p_val evA) ?_
  refine w_pv rfl dC (want_none rfl) (p_val evA) ?_
  refine w_pv rfl dC (want_none rfl) (p_val evA) ?_
  refine w_nil ?_
  repeat refine s_seq ?_
  refine s_cond (t:=true) slA ?_
  repeat refine s_seq ?_
  refine s_region ?_
  refine w_pv rfl dC (want_none rfl) (p_val evA) ?_
  refine w_nil ?_
  exact s_ret ⟨_,res_one rfl rfl,rfl,slA⟩
 ·have e1:decide (a < b) = false:=decide_eq_false hlt
  simp only [if_neg hlt]
  by_cases hgt:a > b
  ·have e2:decide (a > b) = true:=decide_eq_true hgt
   simp only [if_pos hgt]
   clear hlt hgt
   repeat refine s_seq ?_
   refine s_region ?_
   refine w_pv rfl dC (want_none rfl) (p_val evA) ?_
   refine w_nil ?_
   repeat refine s_seq ?_
   refine s_region ?_
   refine w_pv rfl dC (want_none rfl) (p_val evA) ?_
   refine w_ac rfl dC (want_none rfl) (s_call rfl rfl Tryz.func172 kR kR evA ?_); refine (isNaNInt_ok _ _).mono ?_; rintro _ h ⟨rfl,rfl⟩
   refine w_pv rfl dC (want_none rfl) (p_val evA) ?_
   refine w_nil ?_
   repeat refine s_seq ?_
   refine s_region ?_
   refine w_pv rfl dC (want_none rfl) (p_val evA) ?_
   refine w_ac rfl dC (want_none rfl) (s_call rfl rfl Tryz.func172 kR kR evA ?_); refine (isNaNInt_ok _ _).mono ?_; rintro _ h ⟨rfl,rfl⟩
   refine w_pv rfl dC (want_none rfl) (p_val evA) ?_
   refine w_nil ?_
   repeat refine s_seq ?_
   refine s_region ?_
   refine w_pv rfl dC (want_none rfl) (p_val evA) ?_
   refine w_nil ?_
   repeat refine s_seq ?_
   refine s_cond (t:=false) slA ?_
   repeat refine s_seq ?_
   refine s_skip ?_
   repeat refine s_seq ?_
   refine s_region ?_
   refine w_pv rfl dC (want_none rfl) (p_val evA) ?_
   refine w_nil ?_
   repeat refine s_seq ?_
   refine s_cond (t:=false) slA ?_
   repeat refine s_seq ?_
   refine s_skip ?_
   repeat refine s_seq ?_
   refine s_region ?_
   refine w_pv rfl dC (want_none rfl) (p_val evA) ?_
   refine w_pv rfl dC (want_none rfl) (p_val evA) ?_
   refine w_pv rfl dC (want_none rfl) (p_val evA) ?_
   refine w_nil ?_
   repeat refine s_seq ?_
   refine s_cond (t:=false) slA ?_
   repeat refine s_seq ?_
   refine s_skip ?_
   repeat refine s_seq ?_
   refine s_region ?_
   refine w_pv rfl dC (want_none rfl) (p_val evA) ?_
   refine w_pv rfl dC (want_none rfl) (p_val evA) ?_
   refine w_pv rfl dC (want_none rfl) (p_val evA) ?_
   refine w_nil ?_
   repeat refine s_seq ?_
   refine s_cond (t:=true) slA ?_
   repeat refine s_seq ?_
   refine s_region ?_
   refine w_pv rfl dC (want_none rfl) (p_val evA) ?_
   refine w_nil ?_
   exact s_ret ⟨_,res_one rfl rfl,rfl,slA⟩
  ·have e2:decide (a > b) = false:=decide_eq_false hgt
   simp only [if_neg hgt]
   clear hlt hgt
   repeat refine s_seq ?_
   refine s_region ?_
   refine w_pv rfl dC (want_none rfl) (p_val evA) ?_
   refine w_nil ?_
   repeat refine s_seq ?_
   refine s_region ?_
   refine w_pv rfl dC (want_none rfl) (p_val evA) ?_
   refine w_ac rfl dC (want_none rfl) (s_call rfl rfl Tryz.func172 kR kR evA ?_); refine (isNaNInt_ok _ _).mono ?_; rintro _ h ⟨rfl,rfl⟩
   refine w_pv rfl dC (want_none rfl) (p_val evA) ?_
   refine w_nil ?_
   repeat refine s_seq ?_
   refine s_region ?_
   refine w_pv rfl dC (want_none rfl) (p_val evA) ?_
   refine w_ac rfl dC (want_none rfl) (s_call rfl rfl Tryz.func172 kR kR evA ?_); refine (isNaNInt_ok _ _).mono ?_; rintro _ h ⟨rfl,rfl⟩
   refine w_pv rfl dC (want_none rfl) (p_val evA) ?_
   refine w_nil ?_
   repeat refine s_seq ?_
   refine s_region ?_
   refine w_pv rfl dC (want_none rfl) (p_val evA) ?_
   refine w_nil ?_
   repeat refine s_seq ?_
   refine s_cond (t:=false) slA ?_
   repeat refine s_seq ?_
   refine s_skip ?_
   repeat refine s_seq ?_
   refine s_region ?_
   refine w_pv rfl dC (want_none rfl) (p_val evA) ?_
   refine w_nil ?_
   repeat refine s_seq ?_
   refine s_cond (t:=false) slA ?_
   repeat refine s_seq ?_
   refine s_skip ?_
   repeat refine s_seq ?_
   refine s_region ?_
   refine w_pv rfl dC (want_none rfl) (p_val evA) ?_
   refine w_pv rfl dC (want_none rfl) (p_val evA) ?_
   refine w_pv rfl dC (want_none rfl) (p_val evA) ?_
   refine w_nil ?_
   repeat refine s_seq ?_
   refine s_cond (t:=false) slA ?_
   repeat refine s_seq ?_
   refine s_skip ?_
   repeat refine s_seq ?_
   refine s_region ?_
   refine w_pv rfl dC (want_none rfl) (p_val evA) ?_
   refine w_pv rfl dC (want_none rfl) (p_val evA) ?_
   refine w_pv rfl dC (want_none rfl) (p_val evA) ?_
   refine w_nil ?_
   repeat refine s_seq ?_
   refine s_cond (t:=false) slA ?_
   repeat refine s_seq ?_
   refine s_skip ?_
   repeat refine s_seq ?_
   refine s_region ?_
   refine w_pv rfl dC (want_none rfl) (p_val evA) ?_
   refine w_nil ?_
   exact s_ret ⟨_,res_one rfl rfl,rfl,slA⟩
theorem isNaNAddr_ok (a:Int) (h:Heap):SCalls Tryz.prog 248 #[.int .u32 a] h (fun r h'=>h' = h ∧ r = .bool false):=by
 refine s_enter Tryz.func248 rfl (by rw [Tryz.ntmps248]; simp) ?_
 rw [Tryz.ntmps248]
 generalize hT:T0 #[.int .u32 a] = T
 have h0:T 0 = .int .u32 a:=by rw [← hT]; rfl
 clear hT
 repeat refine s_seq ?_
 refine s_region ?_
 refine w_pv rfl dC (want_none rfl) (p_val evA) ?_
 refine w_nil ?_
 repeat refine s_seq ?_
 refine s_region ?_
 refine w_pv rfl dC (want_none rfl) (p_val evA) ?_
 refine w_pv rfl dC (want_none rfl) (p_val evA) ?_
 refine w_pv rfl dC (want_none rfl) (p_val evA) ?_
 refine w_pv rfl dC (want_none rfl) (p_val evA) ?_
 refine w_nil ?_
 exact s_ret ⟨_,res_one rfl rfl,rfl,slA⟩
theorem cmpAddr_ok (a b:Int) (h:Heap):SCalls Tryz.prog 173 #[.int .u32 a,.int .u32 b] h (fun r h'=>h' = h ∧ r = .int .i64 (cmpI a b)):=by
 refine s_enter Tryz.func173 rfl (by rw [Tryz.ntmps173]; simp) ?_
 rw [Tryz.ntmps173]
 generalize hT:T0 #[.int .u32 a,.int .u32 b] = T
 have h0:T 0 = .int .u32 a:=by rw [← hT]; rfl
 have h1:T 1 = .int .u32 b:=by rw [← hT]; rfl
 clear hT
 unfold cmpI
 by_cases hlt:a < b
 ·have e1:decide (a < b) = true:=decide_eq_true hlt
  simp only [if_pos hlt]
  clear hlt
  repeat refine s_seq ?_
  refine s_region ?_
  refine w_pv rfl dC (want_none rfl) (p_val evA) ?_
  refine w_nil ?_
  repeat refine s_seq ?_
  refine s_region ?_
  refine w_pv rfl dC (want_none rfl) (p_val evA) ?_
  refine w_ac rfl dC (want_none rfl) (s_call rfl rfl Tryz.func248 kR kR evA ?_); refine (isNaNAddr_ok _ _).mono ?_; rintro _ h ⟨rfl,rfl⟩
  refine w_pv rfl dC (want_none rfl) (p_val evA) ?_
  refine w_nil ?_
  repeat refine s_seq ?_
  refine s_region ?_
  refine w_pv rfl dC (want_none rfl) (p_val evA) ?_
  refine w_ac rfl dC (want_none rfl) (s_call rfl rfl Tryz.func248 kR kR evA ?_); refine (isNaNAddr_ok _ _).mono ?_; rintro _ h ⟨rfl,rfl⟩
  refine w_pv rfl dC (want_none rfl) (p_val evA) ?_
  refine w_nil ?_
  repeat refine s_seq ?_
  refine s_region ?_
  refine w_pv rfl dC (want_none rfl) (p_val evA) ?_
  refine w_nil ?_
  repeat refine s_seq ?_
  refine s_cond (t:=false) slA ?_
  repeat refine s_seq ?_
  refine s_skip ?_
  repeat refine s_seq ?_
  refine s_region ?_
  refine w_pv rfl dC (want_none rfl) (p_val evA) ?_
  refine w_nil ?_
  repeat refine s_seq ?_
  refine s_cond (t:=false) slA ?_
  repeat refine s_seq ?_
  refine s_skip ?_
  repeat refine s_seq ?_
  refine s_region ?_
  refine w_pv rfl dC (want_none rfl) (p_val evA) ?_
  refine w_pv rfl dC (want_none rfl) (p_val evA) ?_
  refine w_pv rfl dC (want_none rfl) (p_val evA) ?_
  refine w_nil ?_
  repeat refine s_seq ?_
  refine s_cond (t:=true) slA ?_
  repeat refine s_seq ?_
  refine s_region ?_
  refine w_pv rfl dC (want_none rfl) (p_val evA) ?_
  refine w_nil ?_
  exact s_ret ⟨_,res_one rfl rfl,rfl,slA⟩
 ·have e1:decide (a < b) = false:=decide_eq_false hlt
  simp only [if_neg hlt]
  by_cases hgt:a > b
  ·have e2:decide (a > b) = true:=decide_eq_true hgt
   simp only [if_pos hgt]
   clear hlt hgt
   repeat refine s_seq ?_
   refine s_region ?_
   refine w_pv rfl dC (want_none rfl) (p_val evA) ?_
   refine w_nil ?_
   repeat refine s_seq ?_
   refine s_region ?_
   refine w_pv rfl dC (want_none rfl) (p_val evA) ?_
   refine w_ac rfl dC (want_none rfl) (s_call rfl rfl Tryz.func248 kR kR evA ?_); refine (isNaNAddr_ok _ _).mono ?_; rintro _ h ⟨rfl,rfl⟩
   refine w_pv rfl dC (want_none rfl) (p_val evA) ?_
   refine w_nil ?_
   repeat refine s_seq ?_
   refine s_region ?_
   refine w_pv rfl dC (want_none rfl) (p_val evA) ?_
   refine w_ac rfl dC (want_none rfl) (s_call rfl rfl Tryz.func248 kR kR evA ?_); refine (isNaNAddr_ok _ _).mono ?_; rintro _ h ⟨rfl,rfl⟩
   refine w_pv rfl dC (want_none rfl) (p_val evA) ?_
   refine w_nil ?_
   repeat refine s_seq ?_
   refine s_region ?_
   refine w_pv rfl dC (want_none rfl) (p_val evA) ?_
   refine w_nil ?_
   repeat refine s_seq ?_
   refine s_cond (t:=false) slA ?_
   repeat refine s_seq ?_
   refine s_skip ?_
   repeat refine s_seq ?_
   refine s_region ?_
   refine w_pv rfl dC (want_none rfl) (p_val evA) ?_
   refine w_nil ?_
   repeat refine s_seq ?_
   refine s_cond (t:=false) slA ?_
   repeat refine s_seq ?_
   refine s_skip ?_
   repeat refine s_seq ?_
   refine s_region ?_
   refine w_pv rfl dC (want_none rfl) (p_val evA) ?_
   refine w_pv rfl dC (want_none rfl) (p_val evA) ?_
   refine w_pv rfl dC (want_none rfl) (p_val evA) ?_
   refine w_nil ?_
   repeat refine s_seq ?_
   refine s_cond (t:=false) slA ?_
   repeat refine s_seq ?_
   refine s_skip ?_
   repeat refine s_seq ?_
   refine s_region ?_
   refine w_pv rfl dC (want_none rfl) (p_val evA) ?_
   refine w_pv rfl dC (want_none rfl) (p_val evA) ?_
   refine w_pv rfl dC (want_none rfl) (p_val evA) ?_
   refine w_nil ?_
   repeat refine s_seq ?_
   refine s_cond (t:=true) slA ?_
   repeat refine s_seq ?_
   refine s_region ?_
   refine w_pv rfl dC (want_none rfl) (p_val evA) ?_
   refine w_nil ?_
   exact s_ret ⟨_,res_one rfl rfl,rfl,slA⟩
  ·have e2:decide (a > b) = false:=decide_eq_false hgt
   simp only [if_neg hgt]
   clear hlt hgt
   repeat refine s_seq ?_
   refine s_region ?_
   refine w_pv rfl dC (want_none rfl) (p_val evA) ?_
   refine w_nil ?_
   repeat refine s_seq ?_
   refine s_region ?_
   refine w_pv rfl dC (want_none rfl) (p_val evA) ?_
   refine w_ac rfl dC (want_none rfl) (s_call rfl rfl Tryz.func248 kR kR evA ?_); refine (isNaNAddr_ok _ _).mono ?_; rintro _ h ⟨rfl,rfl⟩
   refine w_pv rfl dC (want_none rfl) (p_val evA) ?_
   refine w_nil ?_
   repeat refine s_seq ?_
   refine s_region ?_
   refine w_pv rfl dC (want_none rfl) (p_val evA) ?_
   refine w_ac rfl dC (want_none rfl) (s_call rfl rfl Tryz.func248 kR kR evA ?_); refine (isNaNAddr_ok _ _).mono ?_; rintro _ h ⟨rfl,rfl⟩
   refine w_pv rfl dC (want_none rfl) (p_val evA) ?_
   refine w_nil ?_
   repeat refine s_seq ?_
   refine s_region ?_
   refine w_pv rfl dC (want_none rfl) (p_val evA) ?_
   refine w_nil ?_
   repeat refine s_seq ?_
   refine s_cond (t:=false) slA ?_
   repeat refine s_seq ?_
   refine s_skip ?_
   repeat refine s_seq ?_
   refine s_region ?_
   refine w_pv rfl dC (want_none rfl) (p_val evA) ?_
   refine w_nil ?_
   repeat refine s_seq ?_
   refine s_cond (t:=false) slA ?_
   repeat refine s_seq ?_
   refine s_skip ?_
   repeat refine s_seq ?_
   refine s_region ?_
   refine w_pv rfl dC (want_none rfl) (p_val evA) ?_
   refine w_pv rfl dC (want_none rfl) (p_val evA) ?_
   refine w_pv rfl dC (want_none rfl) (p_val evA) ?_
   refine w_nil ?_
   repeat refine s_seq ?_
   refine s_cond (t:=false) slA ?_
   repeat refine s_seq ?_
   refine s_skip ?_
   repeat refine s_seq ?_
   refine s_region ?_
   refine w_pv rfl dC (want_none rfl) (p_val evA) ?_
   refine w_pv rfl dC (want_none rfl) (p_val evA) ?_
   refine w_pv rfl dC (want_none rfl) (p_val evA) ?_
   refine w_nil ?_
   repeat refine s_seq ?_
   refine s_cond (t:=false) slA ?_
   repeat refine s_seq ?_
   refine s_skip ?_
   repeat refine s_seq ?_
   refine s_region ?_
   refine w_pv rfl dC (want_none rfl) (p_val evA) ?_
   refine w_nil ?_
   exact s_ret ⟨_,res_one rfl rfl,rfl,slA⟩
def orI (xs:List Int):Int:=(xs.find? fun x=>!(x == 0)).getD 0
theorem or_ok {h:Heap} {v:Value} (xs:List Int) (hc:Cells h 1 v xs.length (xs.map (.int .i64))) (hn:xs.length ≤ 1000000) :
  SCalls Tryz.prog 102 #[v] h (fun r h'=>h' = h ∧ r = .int .i64 (orI xs)):=by
 refine s_enter Tryz.func102 rfl (by rw [Tryz.ntmps102]; simp) ?_
 rw [Tryz.ntmps102]
 obtain ⟨a,c,rfl⟩:=hc.form
 generalize hT:T0 #[.slice a xs.length c] = T
 have h0:T 0 = .slice a xs.length c:=by rw [← hT]; rfl
 clear hT
 repeat refine s_seq ?_
 refine s_region ?_
 refine w_pv rfl dC (want_none rfl) (p_val evA) ?_
 refine w_nil ?_
 repeat refine s_seq ?_
 refine s_region ?_
 refine w_pv rfl dC (want_none rfl) (p_val evA) ?_
 refine w_nil ?_
 repeat refine s_seq ?_
 refine s_region ?_
 refine w_pv rfl dC (want_none rfl) (p_val evA) ?_
 refine w_rd rfl dC (want_none rfl) (r_len_slice rfl Tryz.underlying63 evA) ?_
 refine w_pv rfl dC (want_none rfl) (p_val evA) ?_
 refine w_nil ?_
 refine (s_block (s_loop (fun m T h'=>∃ i:Nat,m = xs.length - i ∧ i ≤ xs.length ∧ h' = h ∧ (∀ x ∈ xs.take i,x = 0) ∧ T 3 = .int .i64 0 ∧ T 6 = .slice a xs.length c ∧ T 7 = .int .i64 (xs.length:Nat) ∧ T 8 = .int .i64 (i:Nat)) (n0:=xs.length)
  ⟨0,by omega,by omega,rfl,by simp,slA,slA,slA,by simp only [pval,ev,upd,binVal,intBin,Option.map_some,↓reduceIte,reduceCtorEq,Nat.reduceEqDiff,Nat.reduceBEq,List.map_toArray,List.map_cons,List.map_nil,cond_true,cond_false,decide_true,decide_false,Bool.not_true,Bool.not_false,Bool.true_and,Bool.false_and,Bool.and_true,Bool.and_false,beq_self_eq_true,bne_self_eq_false,List.getElem_toArray,List.getElem_cons_succ,List.getElem_cons_zero, *] <;> rfl⟩ ?_))
 clear h0 T
 rintro m T h' ⟨i,rfl,hi,rfl,hz,h3,h6,h7,h8⟩
 by_cases hlt:i < xs.length
 ·have e1:decide ((i:Int) < (xs.length:Int)) = true:=decide_eq_true (by omega)
  have hw3:IntKind.i64.wrap ((i:Int) + 1) = ((i + 1:Nat):Int):=wrap64_nat _ _ (by omega) (by omega)
  obtain ⟨b1,o1,k1,f1,t1,z1,q1,hb1,hg1⟩:=hc.get hlt
  cases q1
  obtain ⟨x,hxi⟩:∃ x,xs[i]? = some x:=⟨_,List.getElem?_eq_getElem hlt⟩
  have g1:f1[o1 + i * 1]? = some (.int .i64 x):=by have:=hg1 0 (by omega); simpa [hxi] using this
  clear hg1
  have hii:(0:Int) ≤ (i:Int):=by omega
  have hi1:(i:Int) < (xs.length:Int):=by omega
  by_cases hx0:x = 0
  ·have e2:(x != 0) = false:=by simp [hx0]
   have hz2:∀ y ∈ xs.take (i + 1),y = 0:=by
    intro y hy
    rw [List.take_add_one,hxi] at hy
    rcases List.mem_append.1 hy with hy | hy
    ·exact hz y hy
    ·simp at hy; rw [hy]; exact hx0
   clear hx0 hxi
   repeat refine s_seq ?_
   refine s_region ?_
   refine w_pv rfl dC (want_none rfl) (p_val evA) ?_
   refine w_nil ?_
   repeat refine s_seq ?_
   refine s_cond (t:=true) slA ?_
   repeat refine s_seq ?_
   refine s_skip ?_
   repeat refine s_seq ?_
   refine s_block ?_
   repeat refine s_seq ?_
   refine s_region ?_
   refine w_pv rfl dC (want_none rfl) (p_indexAddr (sz:=1) rfl Tryz.underlying63 kR kR evA evA hii hi1) ?_
   refine w_rd rfl dC (want_none rfl) (r_load1 rfl Tryz.underlying3 rfl evA hpA ceA) ?_
   refine w_pv rfl dC (want_none rfl) (p_val evA) ?_
   refine w_nil ?_
   repeat refine s_seq ?_
   refine s_region ?_
   refine w_pv rfl dC (want_none rfl) (p_val evA) ?_
   refine w_pv rfl dC (want_none rfl) (p_val evA) ?_
   refine w_pv rfl dC (want_none rfl) (p_val evA) ?_
   refine w_nil ?_
   repeat refine s_seq ?_
   refine s_cond (t:=false) slA ?_
   repeat refine s_seq ?_
   refine s_skip ?_
   repeat refine s_seq ?_
   refine s_region ?_
   refine w_pv rfl dC (want_none rfl) (p_val evA) ?_
   refine w_pv rfl dC (want_none rfl) (p_val evA) ?_
   refine w_nil ?_
   exact ⟨xs.length - (i + 1),by omega,i + 1,rfl,by omega,rfl,hz2,slA,slA,slA,slA⟩
  ·have e2:(x != 0) = true:=by simpa using hx0
   have hor:orI xs = x:=by
    unfold orI
    have h1:xs = xs.take i ++ x :: xs.drop (i + 1):=by
     have:xs[i] = x:=(List.getElem?_eq_some_iff.1 hxi).2
     rw [← this,List.getElem_cons_drop,List.take_append_drop]
    have h2:(xs.take i).find? (fun x=>!(x == 0)) = none:=by
     rw [List.find?_eq_none]; intro y hy; simp [hz y hy]
    rw [h1,List.find?_append,h2]
    simp [hx0]
   clear hx0 hxi hz
   repeat refine s_seq ?_
   refine s_region ?_
   refine w_pv rfl dC (want_none rfl) (p_val evA) ?_
   refine w_nil ?_
   repeat refine s_seq ?_
   refine s_cond (t:=true) slA ?_
   repeat refine s_seq ?_
   refine s_skip ?_
   repeat refine s_seq ?_
   refine s_block ?_
   repeat refine s_seq ?_
   refine s_region ?_
   refine w_pv rfl dC (want_none rfl) (p_indexAddr (sz:=1) rfl Tryz.underlying63 kR kR evA evA hii hi1) ?_
   refine w_rd rfl dC (want_none rfl) (r_load1 rfl Tryz.underlying3 rfl evA hpA ceA) ?_
   refine w_pv rfl dC (want_none rfl) (p_val evA) ?_
   refine w_nil ?_
   repeat refine s_seq ?_
   refine s_region ?_
   refine w_pv rfl dC (want_none rfl) (p_val evA) ?_
   refine w_pv rfl dC (want_none rfl) (p_val evA) ?_
   refine w_pv rfl dC (want_none rfl) (p_val evA) ?_
   refine w_nil ?_
   repeat refine s_seq ?_
   refine s_cond (t:=true) slA ?_
   repeat refine s_seq ?_
   refine s_region ?_
   refine w_pv rfl dC (want_none rfl) (p_val evA) ?_
   refine w_pv rfl dC (want_none rfl) (p_val evA) ?_
   refine w_nil ?_
   exact s_ret ⟨_,res_one rfl rfl,rfl,slA⟩
 ·have e1:decide ((i:Int) < (xs.length:Int)) = false:=decide_eq_false (by omega)
  have hor:orI xs = 0:=by
   unfold orI
   have:xs.find? (fun x=>!(x == 0)) = none:=by
    rw [List.find?_eq_none]; intro y hy
    have:=hz y (by rw [List.take_of_length_le (by omega)]; exact hy)
    simp [this]
   rw [this]; rfl
  clear hz
  repeat refine s_seq ?_
  refine s_region ?_
  refine w_pv rfl dC (want_none rfl) (p_val evA) ?_
  refine w_nil ?_
  repeat refine s_seq ?_
  refine s_cond (t:=false) slA ?_
  repeat refine s_seq ?_
  refine s_exit ?_
  repeat refine s_seq ?_
  refine s_region ?_
  refine w_pv rfl dC (want_none rfl) (p_val evA) ?_
  refine w_pv rfl dC (want_none rfl) (p_val evA) ?_
  refine w_nil ?_
  exact s_ret ⟨_,res_one rfl rfl,rfl,slA⟩
end Go.Proofs.YtihdpjinaafenaaGreatDoor

/- Things held against one another: The order of what was heard. -/
namespace Go.Proofs.YtihdpjinaafenaaGreatDoor
open Sl
def cmpT (a b:ThK):Int:=orI [cmpI a.1.1 b.1.1,cmpI a.1.2.1 b.1.2.1,cmpI a.2.2 b.2.2,cmpI a.2.1 b.2.1,cmpI a.1.2.2 b.1.2.2]
theorem compare_ok (a b:ThK) (h:Heap):SCalls Tryz.prog 142 #[thV a,thV b] h (fun r h'=>h.le h' ∧ r = .int .i64 (cmpT a b)):=by
 refine s_enter Tryz.func142 rfl (by rw [Tryz.ntmps142]; simp) ?_
 rw [Tryz.ntmps142]
 generalize hT:T0 #[thV a,thV b] = T
 have h0:T 0 = .agg #[.int .i64 a.1.1,.int .i64 a.1.2.1,.int .u32 a.1.2.2,.int .u32 a.2.1,.int .u32 a.2.2]:=by rw [← hT]; rfl
 have h1:T 1 = .agg #[.int .i64 b.1.1,.int .i64 b.1.2.1,.int .u32 b.1.2.2,.int .u32 b.2.1,.int .u32 b.2.2]:=by rw [← hT]; rfl
 clear hT
 repeat refine s_seq ?_
 refine s_region ?_
 refine w_al rfl dC (want_none rfl) (a_boxN rfl evA) ?_
 intro b2 hb2
 refine w_al rfl dC (want_none rfl) (a_boxN rfl evA) ?_
 intro b3 hb3
 have hne3_2:b3 ≠ b2:=by rintro rfl; first | (simp [Heap.set] at hb3; done) | (simp [Heap.set] at hb3; split at hb3 <;> simp at hb3; done) | (simp [Heap.set] at hb3; (repeat' (split at hb3)) <;> simp_all)
 have hne2_3:=hne3_2.symm
 refine w_pv rfl dC (want_none rfl) (p_val evA) ?_
 refine w_nil ?_
 refine genH fun h2 hh=>?_
 have hb2v:h2 b2 = some (.cells #[.int .i64 a.1.1,.int .i64 a.1.2.1,.int .u32 a.1.2.2,.int .u32 a.2.1,.int .u32 a.2.2] 144 (0,0)):=by rw [hh,Heap.set_other _ _ hne2_3]; exact Heap.set_same _ _ _
 have hb3v:h2 b3 = some (.cells #[.int .i64 b.1.1,.int .i64 b.1.2.1,.int .u32 b.1.2.2,.int .u32 b.2.1,.int .u32 b.2.2] 144 (0,0)):=by rw [hh]; exact Heap.set_same _ _ _
 have hle:h.le h2:=by rw [hh]; exact Heap.le_trans (Heap.le_set _ hb2) (Heap.le_set _ hb3)
 clear hh
 repeat refine s_seq ?_
 refine s_draw [(0,true),(1,true),(2,true),(3,true),(5,true),(6,true),(7,true),(8,true),(10,true),(11,true),(12,true),(13,true),(14,true),(15,true),(17,true),(18,true),(19,true),(20,true),(21,true),(22,true),(24,true),(25,true),(26,true),(27,true),(4,true),(9,true),(16,true),(23,true),(28,true),(29,true),(30,true),(31,true)] [] [28,29,30] rfl kR kR ?_
 refine d_pv rfl rfl dC rfl rfl (want_none rfl) (p_fieldAddr (k:=0) rfl evA kR) ?_
 refine d_rd [_] rfl rfl dC rfl rfl (want_none rfl) (r_load1 rfl Tryz.underlying3 rfl evA (restr1 hpA) ceA) ?_
 refine d_pv rfl rfl dC rfl rfl (want_none rfl) (p_fieldAddr (k:=0) rfl evA kR) ?_
 refine d_rd [_] rfl rfl dC rfl rfl (want_none rfl) (r_load1 rfl Tryz.underlying3 rfl evA (restr1 hpA) ceA) ?_
 refine d_pv rfl rfl dC rfl rfl (want_none rfl) (p_fieldAddr (k:=1) rfl evA kR) ?_
 refine d_rd [_] rfl rfl dC rfl rfl (want_none rfl) (r_load1 rfl Tryz.underlying3 rfl evA (restr1 hpA) ceA) ?_
 refine d_pv rfl rfl dC rfl rfl (want_none rfl) (p_fieldAddr (k:=1) rfl evA kR) ?_
 refine d_rd [_] rfl rfl dC rfl rfl (want_none rfl) (r_load1 rfl Tryz.underlying3 rfl evA (restr1 hpA) ceA) ?_
 refine d_pv rfl rfl dC rfl rfl (want_none rfl) (p_fieldAddr (k:=3) rfl evA kR) ?_
 refine d_pv rfl rfl dC rfl rfl (want_none rfl) (p_fieldAddr (k:=1) rfl evA kR) ?_
 refine d_rd [_] rfl rfl dC rfl rfl (want_none rfl) (r_load1 rfl Tryz.underlying23 rfl evA (restr1 hpA) ceA) ?_
 refine d_pv rfl rfl dC rfl rfl (want_none rfl) (p_fieldAddr (k:=3) rfl evA kR) ?_
 refine d_pv rfl rfl dC rfl rfl (want_none rfl) (p_fieldAddr (k:=1) rfl evA kR) ?_
 refine d_rd [_] rfl rfl dC rfl rfl (want_none rfl) (r_load1 rfl Tryz.underlying23 rfl evA (restr1 hpA) ceA) ?_
 refine d_pv rfl rfl dC rfl rfl (want_none rfl) (p_fieldAddr (k:=3) rfl evA kR) ?_
 refine d_pv rfl rfl dC rfl rfl (want_none rfl) (p_fieldAddr (k:=0) rfl evA kR) ?_
 refine d_rd [_] rfl rfl dC rfl rfl (want_none rfl) (r_load1 rfl Tryz.underlying23 rfl evA (restr1 hpA) ceA) ?_
 refine d_pv rfl rfl dC rfl rfl (want_none rfl) (p_fieldAddr (k:=3) rfl evA kR) ?_
 refine d_pv rfl rfl dC rfl rfl (want_none rfl) (p_fieldAddr (k:=0) rfl evA kR) ?_
 refine d_rd [_] rfl rfl dC rfl rfl (want_none rfl) (r_load1 rfl Tryz.underlying23 rfl evA (restr1 hpA) ceA) ?_
 refine d_pv rfl rfl dC rfl rfl (want_none rfl) (p_fieldAddr (k:=2) rfl evA kR) ?_
 refine d_rd [_] rfl rfl dC rfl rfl (want_none rfl) (r_load1 rfl Tryz.underlying23 rfl evA (restr1 hpA) ceA) ?_
 refine d_pv rfl rfl dC rfl rfl (want_none rfl) (p_fieldAddr (k:=2) rfl evA kR) ?_
 refine d_rd [_] rfl rfl dC rfl rfl (want_none rfl) (r_load1 rfl Tryz.underlying23 rfl evA (restr1 hpA) ceA) ?_
 refine d_qac rfl rfl dC (by decide) rfl (want_none rfl) (s_call rfl rfl Tryz.func103 kR kR evA ?_); refine (cmpInt_ok _ _ _).mono ?_; rintro _ h2 ⟨rfl,rfl⟩; refine ⟨(fun _ _ h=>h),?_⟩
 refine d_qac rfl rfl dC (by decide) rfl (want_none rfl) (s_call rfl rfl Tryz.func103 kR kR evA ?_); refine (cmpInt_ok _ _ _).mono ?_; rintro _ h2 ⟨rfl,rfl⟩; refine ⟨(fun _ _ h=>h),?_⟩
 refine d_qac rfl rfl dC (by decide) rfl (want_none rfl) (s_call rfl rfl Tryz.func173 kR kR evA ?_); refine (cmpAddr_ok _ _ _).mono ?_; rintro _ h2 ⟨rfl,rfl⟩; refine ⟨(fun _ _ h=>h),?_⟩
 refine d_qac rfl rfl dC (by decide) rfl (want_none rfl) (s_call rfl rfl Tryz.func173 kR kR evA ?_); refine (cmpAddr_ok _ _ _).mono ?_; rintro _ h2 ⟨rfl,rfl⟩; refine ⟨(fun _ _ h=>h),?_⟩
 refine d_lac rfl rfl dC (by decide) rfl (want_none rfl) (s_call rfl rfl Tryz.func173 kR kR evA ?_); refine (cmpAddr_ok _ _ _).mono ?_; rintro _ h2 ⟨rfl,rfl⟩
 refine d_lal rfl rfl dC (by decide) rfl (want_none rfl) (a_buildSliceN (vs:=[_,_,_,_,_]) rfl Tryz.underlying63 kR (by simp only [pval,ev,upd,binVal,intBin,Option.map_some,↓reduceIte,reduceCtorEq,Nat.reduceEqDiff,Nat.reduceBEq,List.map_toArray,List.map_cons,List.map_nil,cond_true,cond_false,decide_true,decide_false,Bool.not_true,Bool.not_false,Bool.true_and,Bool.false_and,Bool.and_true,Bool.and_false,beq_self_eq_true,bne_self_eq_false,List.getElem_toArray,List.getElem_cons_succ,List.getElem_cons_zero, *] <;> rfl) rfl (by simp [Value.cells]) (by decide) (by decide)) ?_
 intro b34 hb34
 have hle34:=Heap.le_set (.cells #[.int .i64 (cmpI a.1.1 b.1.1),.int .i64 (cmpI a.1.2.1 b.1.2.1),.int .i64 (cmpI a.2.2 b.2.2),.int .i64 (cmpI a.2.1 b.2.1),.int .i64 (cmpI a.1.2.2 b.1.2.2)] 3 (0,0)) hb34; refine d_lac rfl rfl dC (by decide) rfl (want_none rfl) (s_call rfl rfl Tryz.func102 kR kR evA ?_); refine (or_ok [cmpI a.1.1 b.1.1,cmpI a.1.2.1 b.1.2.1,cmpI a.2.2 b.2.2,cmpI a.2.1 b.2.1,cmpI a.1.2.2 b.1.2.2] (.at_ (Heap.set_same _ _ _) rfl (Nat.le_refl _) rfl) (by simp)).mono ?_; rintro _ h4 ⟨rfl,rfl⟩
 refine d_pv rfl rfl dC rfl rfl (want_none rfl) (p_val evA) ?_
 refine d_nil ?_
 exact s_ret ⟨_,res_one rfl rfl,Heap.le_trans hle hle34,by simp only [pval,ev,upd,binVal,intBin,Option.map_some,↓reduceIte,reduceCtorEq,Nat.reduceEqDiff,Nat.reduceBEq,List.map_toArray,List.map_cons,List.map_nil,cond_true,cond_false,decide_true,decide_false,Bool.not_true,Bool.not_false,Bool.true_and,Bool.false_and,Bool.and_true,Bool.and_false,beq_self_eq_true,bne_self_eq_false,List.getElem_toArray,List.getElem_cons_succ,List.getElem_cons_zero]; rfl⟩
end Go.Proofs.YtihdpjinaafenaaGreatDoor

/- Foreign objects turned by hand; going through a map. -/
namespace Go.Proofs.YtihdpjinaafenaaGreatDoor.Ab
open Go.Proofs.YtihdpjinaafenaaGreatDoor.Sl
section
variable {P : Program} {N : Nat} {ops : Array Oper} {h0 : Gd} {Qr : Tm → Heap → Prop} {s : St} {az : List AO}
theorem ext_act {d:Nat} {k:K} {q:Bool} {id:Nat} {D:Nat → Prop} {Φ:Value → Heap → Prop} (hσ:lookS s.σ id = some (.ext D Φ)) {Y:Type} (Pr:Y → Prop) (D':Y → Nat → Prop) (Φ':Y → Value → Heap → Prop) (vo:Y → FV)
  (hsop:∀ o,o.op = k.op → ∀ {β:Nat → Value} {hF h:Heap} {Tc:Tm},Sem h0 β hF h Tc s.T s.L s.σ → Φ (β id) h → (∀ b,D b → h b ≠ none) → SOp P o (ev Tc) h (fun v h'=>∃ y,Pr y ∧ FRep h0.h (vo y) v ∧ (∀ b o,¬ D b → h b = some o → h' b = some o) ∧ (∀ b,D b → D' y b) ∧ (∀ b,D' y b → D b ∨ h b = none) ∧ (∀ b,D' y b → h' b ≠ none) ∧ ∀ h'',(∀ b,D' y b → h'' b = h' b) → Φ' y (β id) h''))
  (r:∀ y,Pr y → RegN P N ops h0 Qr az ⟨s.T,(d,none,.fz (vo y)) :: s.L,setS s.σ id (.ext (D' y) (Φ' y)),if q = true then s.rs else []⟩):RegN P N ops h0 Qr (⟨some d,none,k,q⟩ :: az) s:=by
 intro os hm hok' β hF h Tc sem nd
 cases os with
 | nil=>simp at hm
 | cons o os =>
  simp only [List.map_cons,List.cons.injEq] at hm
  simp only [List.all_cons,Bool.and_eq_true] at hok'
  have f:=fit_of hm.1 hok'.1
  refine ⟨f.lt,?_⟩
  rw [f.want_none rfl]
  have hmem:=lookS_mem hσ
  obtain ⟨k1,k2,k3⟩:=sem.ok.ok _ hmem
  refine (hsop o f.op sem (k3 h fun _ _=>rfl) k2).mono fun v h' ⟨y,hy,rv,keep,sub,ex,dom,hΦ⟩=>?_
  have hD:∀ b,D b → hF b = none:=fun b hb=>sem.ok.out _ hmem b hb
  have oth:∀ e ∈ s.σ,e.1 ≠ id → ∀ b,fpOf (β e.1) e.2 b → h' b = h b ∧ ¬ D b:=fun e he hne b e1=>by
   obtain ⟨ob,h3⟩:=(sem.ok.ok e he).blk e1
   have hnd:¬ D b:=fun hb=>sem.ok.sep e he _ hmem b hne e1 hb
   exact ⟨by rw [h3]; exact keep b ob hnd h3,hnd⟩
  have hle:hF.le h':=fun b ob e=>keep b ob (fun hb=>by rw [hD b hb] at e; cases e) (sem.ok.le b ob e)
  have okk:Ok h0 β hF h' (setS s.σ id (.ext (D' y) (Φ' y))):=by
   refine ⟨sem.ok.le0,hle,fun e he=>?_,fun e he b e1=>?_,fun e he e' he' b hne e1=>?_,sem.ok.fix,by rw [setS_keys]; exact sem.ok.nd⟩
   ·rcases setS_mem sem.ok.nd e he with rfl | ⟨he,hne⟩
    ·exact ⟨fun b hb=>sub b (k1 b hb),dom,hΦ⟩
    ·exact (sem.ok.ok e he).fr (Heap.le_refl _) (fun b e1=>(oth e he hne b e1).1) rfl (fun _ _ _ _=>rfl)
   ·rcases setS_mem sem.ok.nd e he with rfl | ⟨he,hne⟩
    ·rcases ex b e1 with hb | hb
     ·exact hD b hb
     ·cases e2:hF b with
      | none=>rfl
      | some ob=>rw [sem.ok.le b ob e2] at hb; cases hb
    ·exact sem.ok.out e he b e1
   ·have no:∀ e ∈ s.σ,e.1 ≠ id → fpOf (β e.1) e.2 b → ¬ D' y b:=fun e he hne e1 hb=>by
     rcases ex b hb with hb | hb
     ·exact (oth e he hne b e1).2 hb
     ·obtain ⟨ob,h3⟩:=(sem.ok.ok e he).blk e1
      rw [h3] at hb; cases hb
    rcases setS_mem sem.ok.nd e he with rfl | ⟨he,hn1⟩ <;> rcases setS_mem sem.ok.nd e' he' with rfl | ⟨he',hn2⟩
    ·exact absurd rfl hne
    ·exact fun e2=>no e' he' hn2 e2 e1
    ·exact no e he hn1 e1
    ·exact sem.ok.sep e he e' he' b hne e1
  have sem':=sem.turn okk (Heap.le_refl _) (fun _ _ _ _=>rfl) (fun _ _ _ _=>rfl)
  rw [put_some f.dst]
  obtain ⟨nd',hne⟩:=nod_step nd rfl none (.fz (vo y))
  exact r y hy os hm.2 hok'.2 _ _ _ _ (sem'.put (g:=none) hne (fun _ _ e=>by cases e) (.fz (rv.le sem.ok.le0))) nd'
variable {κ : Type} {enc : κ → Value}
def MapV (enc:κ → Value) (h:Heap) (mv:Value) (l:List (Ey κ)) (cl:Nat):Prop:=(mv = .map none ∧ l = []) ∨ ∃ mb,mv = .map (some mb) ∧ IsMapN h mb enc l cl
def ItV (h:Heap) (it:Nat) (mv:Value) (cl:Nat) (seen:List Nat):Prop:=(mv = .map none ∧ h it = some (.mapIter none 0 #[] 0)) ∨ ∃ mb,mv = .map (some mb) ∧ IsIter h it mb cl seen
def mvB (mv:Value) (b:Nat):Prop:=mv = .map (some b)
theorem MapV.same {h h':Heap} {mv:Value} {l:List (Ey κ)} {cl:Nat} (m:MapV enc h mv l cl) (e:∀ b,mvB mv b → h' b = h b):MapV enc h' mv l cl:=by
 rcases m with m | ⟨mb,rfl,m⟩
 ·exact .inl m
 ·exact .inr ⟨mb,rfl,by rw [e mb rfl]; exact m.1,m.2⟩
theorem ItV.same {h h':Heap} {it cl:Nat} {mv:Value} {seen:List Nat} (m:ItV h it mv cl seen) (e:h' it = h it):ItV h' it mv cl seen:=by
 rcases m with ⟨rfl,m⟩ | ⟨mb,rfl,m⟩
 ·exact .inl ⟨rfl,by rw [e]; exact m⟩
 ·exact .inr ⟨mb,rfl,by unfold IsIter; rw [e]; exact m⟩
section
variable {o : Oper} {ρ : Operand → Value} {h : Heap} {K' : Value → Heap → Prop} {kt : TypeId}
theorem s_rangeV {t e:TypeId} {x:Operand} {mv:Value} {l:List (Ey κ)} {cl:Nat} (ho:o.op = .range t x) (ht:P.underlying t = some (.map kt e)) (hx:ρ x = mv) (hm:MapV enc h mv l cl)
  (k:∀ it ob,h it = none → ItV (h.set it ob) it mv cl [] → K' (.pointer (some ⟨it,0,none⟩)) (h.set it ob)):SOp P o ρ h K':=by
 rcases hm with ⟨rfl,rfl⟩ | ⟨mb,rfl,hm⟩
 ·exact s_range_nil ho ht hx fun it hit=>k it _ hit (.inl ⟨rfl,Heap.set_same _ _ _⟩)
 ·exact s_range ho ht hx hm fun it hit=>k it _ hit (.inr ⟨mb,rfl,Heap.set_same _ _ _⟩)
theorem s_nextV {x:Operand} {it cl:Nat} {mv:Value} {seen:List Nat} {l:List (Ey κ)} (ho:o.op = .next x false) (hx:ρ x = .pointer (some ⟨it,0,none⟩)) (hit:ItV h it mv cl seen) (hm:MapV enc h mv l cl)
  (over:(∀ e ∈ l,e.born ∈ seen) → K' (.tuple #[.bool false]) h)
  (step:∀ e ob,e ∈ l → e.born ∉ seen → ItV (h.set it ob) it mv cl (seen ++ [e.born]) → K' (.tuple #[.bool true,enc e.key,e.val]) (h.set it ob)):SOp P o ρ h K':=by
 rcases hm with ⟨rfl,rfl⟩ | ⟨mb,rfl,hm⟩
 ·rcases hit with ⟨_,hit⟩ | ⟨mb,h1,_⟩
  ·exact (r_next_nil ho hx hit).sop (over (by simp))
  ·cases h1
 ·rcases hit with ⟨h1,_⟩ | ⟨mb',h1,hit⟩
  ·cases h1
  ·cases h1
   exact s_next ho hx hit hm over fun e he hs=>step e _ he hs (.inr ⟨mb,rfl,Heap.set_same _ _ _⟩)
theorem r_entryV {x:Operand} {it cl β:Nat} {mv:Value} {seen:List Nat} {l:List (Ey κ)} {e:Ey κ} (ho:o.op = .entry x) (hx:ρ x = .pointer (some ⟨it,0,none⟩)) (hit:ItV h it mv cl (seen ++ [β])) (hm:MapV enc h mv l cl) (he:e ∈ l) (hb:e.born = β) :
  ReadOp P o ρ h (.tuple #[enc e.key,e.val]):=by
 rcases hm with ⟨rfl,rfl⟩ | ⟨mb,rfl,hm⟩
 ·cases he
 ·rcases hit with ⟨h1,_⟩ | ⟨mb',h1,hit⟩
  ·cases h1
  ·cases h1
   exact r_entry ho hx hit hm he hb
end
end
end Go.Proofs.YtihdpjinaafenaaGreatDoor.Ab

/- An empty slice of one's own. -/
namespace Go.Proofs.YtihdpjinaafenaaGreatDoor.Ab
open Go.Proofs.YtihdpjinaafenaaGreatDoor.Sl
def setT:AT → Nat → AV → AT
 | [],_,_=>[]
 | e :: r,i,x=>if e.1 = i then (i,x) :: r else e :: setT r i x
theorem setT_mem {i:Nat} {x:AV}:∀ {T:AT},∀ e ∈ setT T i x,e ∈ T ∨ e = (i,x)
 | [],e,he=>by cases he
 | a :: r,e,he=>by
  unfold setT at he
  split at he
  ·rcases List.mem_cons.1 he with rfl | he
   ·exact .inr rfl
   ·exact .inl (List.mem_cons_of_mem _ he)
  ·rcases List.mem_cons.1 he with rfl | he
   ·exact .inl List.mem_cons_self
   ·exact (setT_mem e he).imp (List.mem_cons_of_mem _) id
theorem lookT_mem' {T:AT} {i:Nat} {x:AV} (h:lookT T i = some x):(i,x) ∈ T:=by
 induction T with
 | nil=>cases h
 | cons e r ih =>
  unfold lookT at h
  split at h
  ·rename_i h1
   cases h
   rw [← h1]; exact List.mem_cons_self
  ·exact List.mem_cons_of_mem _ (ih h)
section
variable {P : Program} {N : Nat} {h0 : Gd} {Q : Exit → Tm → Heap → Prop} {T : AT} {σ : AS} {r : List Code}
theorem a_nilown (i id:Nat) (t:TypeId) (sz:Nat) (e:lookT T i = some (.fz (.val (.slice none 0 0)))) (hd:okNew id T [] σ = true) (k:AC P N h0 r Q (setT T i (.os id)) ((id,.rows t sz []) :: σ)):AC P N h0 r Q T σ:=by
 intro β hF h Tc sem
 simp only [okNew,Bool.and_eq_true] at hd
 obtain ⟨⟨⟨hT,_⟩,hS⟩,hid⟩:=hd
 have hid:=of_decide_eq_true hid
 have hT:=nmT_spec hT
 have hS:=nmS_spec hS
 have hb:∀ j,j ≠ id → (fun j=>if j = id then Value.slice none 0 0 else β j) j = β j:=fun j hj=>if_neg hj
 generalize hβ:(fun j=>if j = id then Value.slice none 0 0 else β j) = β' at hb
 have hbi:β' id = .slice none 0 0:=by rw [← hβ]; exact if_pos rfl
 have nofp:∀ b,¬ fpOf (β' id) (.rows t sz []) b:=fun b h=>by simp only [fpOf,hbi,baseOf] at h; cases h
 refine k β' hF h Tc ⟨⟨sem.ok.le0,sem.ok.le,fun e he=>?_,fun e he b h1=>?_,fun e he e' he' b hne h1=>?_,fun j hj=>by rw [hb j (by omega)]; exact sem.ok.fix j hj,?_⟩,fun e he hl=>?_,fun e he=>(by cases he),fun e he=>(by cases he)⟩
 ·rcases List.mem_cons.1 he with rfl | he
  ·exact ⟨[],by simp only [hbi]; exact .nil,by simp,by simp,⟨rfl,fun j c v a=>by simp at a⟩⟩
  ·exact (sem.ok.ok e he).fr (Heap.le_refl _) (fun _ _=>rfl) (hb _ (hS e he).1) (fun c hc j hj=>hb j fun e1=>(hS e he).2 c hc (by rw [hj,e1]))
 ·rcases List.mem_cons.1 he with rfl | he
  ·exact absurd h1 (nofp b)
  ·rw [hb _ (hS e he).1] at h1; exact sem.ok.out e he b h1
 ·rcases List.mem_cons.1 he with rfl | he
  ·exact absurd h1 (nofp b)
  ·rcases List.mem_cons.1 he' with rfl | he'
   ·exact nofp b
   ·rw [hb _ (hS e he).1] at h1
    rw [hb _ (hS e' he').1]
    exact sem.ok.sep e he e' he' b hne h1
 ·simp only [List.map_cons,List.nodup_cons]
  refine ⟨fun h1=>?_,sem.ok.nd⟩
  obtain ⟨e,he,h2⟩:=List.mem_map.1 h1
  exact (hS e he).1 h2
 ·rcases setT_mem e he with he | rfl
  ·exact (sem.t e he (fun _ h=>by cases h)).to (Heap.le_refl _) fun j hj=>hb j fun e1=>hT e he (by rw [hj,e1])
  ·have h1:=sem.t _ (lookT_mem' e) (fun _ h=>by cases h)
   have h2:=fz_val h1
   simp only at h2 ⊢
   rw [h2,← hbi]
   exact .os _
theorem a_shrink {id:Nat} {D D':Nat → Prop} {Φ Φ':Value → Heap → Prop} (hσ:lookS σ id = some (.ext D' Φ')) (sub:∀ b,D b → D' b) (hb:∀ β:Nat → Value,∀ h,Φ' (β id) h → ∀ b,baseOf (β id) = some b → D b) (hs:∀ v h,Φ' v h → Φ v h) (hst:∀ v h h',Φ v h → (∀ b,D b → h' b = h b) → Φ v h') (k:AC P N h0 r Q T (setS σ id (.ext D Φ))):AC P N h0 r Q T σ:=by
 intro β hF h Tc sem
 have hm:=lookS_mem hσ
 obtain ⟨k1,k2,k3⟩:=sem.ok.ok _ hm
 have hΦ:=k3 h fun _ _=>rfl
 refine k β hF h Tc ⟨⟨sem.ok.le0,sem.ok.le,fun e he=>?_,fun e he b h1=>?_,fun e he e' he' b hne h1=>?_,sem.ok.fix,by rw [setS_keys]; exact sem.ok.nd⟩,sem.t,sem.l,sem.g⟩
 ·rcases setS_mem sem.ok.nd e he with rfl | ⟨he,hne⟩
  ·exact ⟨fun b h1=>hb β h hΦ b h1,fun b h1=>k2 b (sub b h1),fun h' h1=>hst _ h h' (hs _ _ hΦ) h1⟩
  ·exact sem.ok.ok e he
 ·rcases setS_mem sem.ok.nd e he with rfl | ⟨he,hne⟩
  ·exact sem.ok.out _ hm b (sub b h1)
  ·exact sem.ok.out e he b h1
 ·rcases setS_mem sem.ok.nd e he with rfl | ⟨he,hn1⟩ <;> rcases setS_mem sem.ok.nd e' he' with rfl | ⟨he',hn2⟩
  ·exact absurd rfl hne
  ·exact sem.ok.sep _ hm e' he' b hne (sub b h1)
  ·exact fun h2=>sem.ok.sep e he _ hm b hne h1 (sub b h2)
  ·exact sem.ok.sep e he e' he' b hne h1
def delS (id:Nat):AS → AS
 | []=>[]
 | e :: r=>if e.1 = id then delS id r else e :: delS id r
end
end Go.Proofs.YtihdpjinaafenaaGreatDoor.Ab

/- The order of things; those of a kind; what All answers. -/
namespace Go.Proofs.YtihdpjinaafenaaGreatDoor
open Sl Ab Go.Sort
def addB (D:Nat → Prop) (it b:Nat):Prop:=D b ∨ b = it
def restOf (K V:Ey ThK → FV):Option (Ey ThK) → List FV
 | none=>[]
 | some e=>[K e,V e]
def seenOf (seen:List Nat):Option (Ey ThK) → List Nat
 | none=>seen
 | some e=>seen ++ [e.born]
theorem compare_p (a b:ThK):PureCall Tryz.prog 142 [.agg (encTh a),.agg (encTh b)] (vI (cmpT a b)):=by
 intro h vs r
 obtain ⟨v1,vs,rfl,r1,r⟩:=r.uncons
 obtain ⟨v2,vs,rfl,r2,r⟩:=r.uncons
 have:vs = []:=List.length_eq_zero_iff.1 r.1
 subst this
 cases thV_of r1
 cases thV_of r2
 refine (compare_ok a b h).mono ?_
 rintro r h' ⟨hle,rfl⟩
 exact ⟨hle,.val _⟩
instance:Inhabited AT:=⟨⟨kzero,0,mzero⟩⟩
def cmpA (x y:AT):Int:=cmpT x.key y.key
theorem cmpT_lt (a b:ThK):cmpT a b < 0 ↔ a.1.1 < b.1.1 ∨ (a.1.1 = b.1.1 ∧ (a.1.2.1 < b.1.2.1 ∨ (a.1.2.1 = b.1.2.1 ∧ (a.2.2 < b.2.2 ∨ (a.2.2 = b.2.2 ∧ (a.2.1 < b.2.1 ∨ (a.2.1 = b.2.1 ∧ a.1.2.2 < b.1.2.2))))))):=by
 unfold cmpT
 have h:∀ (x y:Int) (l:List Int),orI (cmpI x y :: l) < 0 ↔ x < y ∨ (x = y ∧ orI l < 0):=by
  intro x y l
  unfold cmpI orI
  rcases Int.lt_trichotomy x y with h | h | h
  ·simp [h]
  ·subst h; simp
  ·have h1:¬ x < y:=by omega
   have h2:¬ x = y:=by omega
   simp [h1,h2,h]
 rw [h,h,h,h,h]
 simp [orI]
theorem swoA:SWO (ltOf cmpA) where
 irrefl x:=by
  simp only [ltOf,cmpA,cmpT_lt,decide_eq_false_iff_not]; omega
 trans x y z h1 h2:=by
  simp only [ltOf,cmpA,cmpT_lt,decide_eq_true_eq] at *; omega
 ntrans x y z h1 h2:=by
  simp only [ltOf,cmpA,cmpT_lt,decide_eq_false_iff_not] at *; omega
def ofKind (kind:Int) (x:AT):Bool:=x.key.1.1 == kind
def selR (kind:Int) (seen:List Nat) (rs:List Rc):List Rc:=rs.filter fun r=>decide (r.born ∈ seen) && ofKind kind r.t
theorem selR_step {kind:Int} {rs:List Rc} (nb:(rs.map Rc.born).Nodup) {r:Rc} (hr:r ∈ rs) {seen:List Nat} (hs:r.born ∉ seen):(selR kind (seen ++ [r.born]) rs).Perm (if ofKind kind r.t = true then selR kind seen rs ++ [r] else selR kind seen rs):=by
 unfold selR
 induction rs with
 | nil=>cases hr
 | cons a t ih =>
  simp only [List.map_cons,List.nodup_cons] at nb
  have other:∀ x ∈ t,x.born = r.born → a ≠ r:=fun x hx e e1=>nb.1 (by rw [e1,← e]; exact List.mem_map.2 ⟨x,hx,rfl⟩)
  by_cases ha:a = r
  ·subst ha
   have htail:(t.filter fun x=>decide (x.born ∈ seen ++ [a.born]) && ofKind kind x.t) = t.filter fun x=>decide (x.born ∈ seen) && ofKind kind x.t:=by
    apply List.filter_congr
    intro x hx
    have:¬ x.born = a.born:=fun e=>other x hx e rfl
    simp [this]
   rw [List.filter_cons,List.filter_cons,htail]
   have h1:decide (a.born ∈ seen) = false:=by simpa using hs
   rw [h1]
   simp only [List.mem_append,List.mem_singleton,or_true,decide_true,Bool.true_and,Bool.false_and,Bool.false_eq_true,if_false]
   split
   ·exact (List.perm_append_singleton a _).symm
   ·exact .refl _
  ·have hr':r ∈ t:=by
    rcases List.mem_cons.1 hr with h | h
    ·exact absurd h.symm ha
    ·exact h
   have hab:¬ a.born = r.born:=fun e=>nb.1 (by rw [e]; exact List.mem_map.2 ⟨r,hr',rfl⟩)
   have ih':=ih nb.2 hr'
   rw [List.filter_cons,List.filter_cons]
   have h1:decide (a.born ∈ seen ++ [r.born]) = decide (a.born ∈ seen):=by simp [hab]
   rw [h1]
   by_cases hc:(decide (a.born ∈ seen) && ofKind kind a.t) = true
   ·rw [if_pos hc,if_pos hc]
    by_cases hk:ofKind kind r.t = true
    ·rw [if_pos hk] at ih' ⊢; exact ih'.cons a
    ·rw [if_neg hk] at ih' ⊢; exact ih'.cons a
   ·rw [if_neg hc,if_neg hc]; exact ih'
theorem selR_all {kind:Int} {rs:List Rc} {seen:List Nat} (h:∀ r ∈ rs,r.born ∈ seen):selR kind seen rs = rs.filter fun r=>ofKind kind r.t:=by
 unfold selR
 apply List.filter_congr
 intro x hx
 simp [h x hx]
def AllAns (ts:List AT) (kind:Int) (l:List AT):Prop:=l.Perm (ts.filter (ofKind kind)) ∧ ∀ i j,i < j → j < l.length → ¬ cmpA (l.getD j default) (l.getD i default) < 0
theorem ans_of {ts:List AT} {kind:Int} {out:List AT} (hp:out.Perm (ts.filter (ofKind kind))) {d:Array AT} (hd:PermIn 0 out.toArray.size out.toArray d ∧ SortedIn (ltOf cmpA) 0 out.toArray.size d):AllAns ts kind d.toList:=by
 obtain ⟨⟨hsz,_,hpm⟩,hs⟩:=hd
 have e1:d.extract 0 out.toArray.size = d:=by rw [← hsz]; simp
 have e2:out.toArray.extract 0 out.toArray.size = out.toArray:=by simp
 rw [e1,e2] at hpm
 refine ⟨hpm.trans hp,fun i j hij hj h=>?_⟩
 have:=hs i j (Nat.zero_le _) hij (by rw [← hsz]; simpa using hj)
 simp only [ltOf,decide_eq_false_iff_not] at this
 have g:∀ k,k < d.toList.length → d.toList.getD k default = d[k]!:=fun k hk=>by
  have hk':k < d.size:=by simpa using hk
  simp [hk',List.getD_eq_getElem?_getD]
 rw [g i (by omega),g j hj] at h
 exact this h
end Go.Proofs.YtihdpjinaafenaaGreatDoor
