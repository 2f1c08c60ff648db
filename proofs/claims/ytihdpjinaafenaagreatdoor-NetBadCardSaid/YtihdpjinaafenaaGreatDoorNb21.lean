import Derived.Test.YtihdpjinaafenaaGreatDoorNb20
import Derived.Sort.LotA
import Derived.Sort.LotB
import Derived.Sort.LotC
import Derived.Sort.LotD1
import Derived.Sort.LotD3
noncomputable section
/- Words with proofs as defaults, for the printed walks. -/
set_option linter.unusedVariables false
set_option linter.unusedSimpArgs false
namespace Go.Proofs.YtihdpjinaafenaaGreatDoor.Ab
open Go.Proofs.YtihdpjinaafenaaGreatDoor.Sl
abbrev tm (n:Nat):Operand:=.tmp n
abbrev ci (n:Int):Operand:=.const (.int .i64 n)
abbrev vI (n:Int):FV:=.val (.int .i64 n)
abbrev vU (n:Int):FV:=.val (.int .u32 n)
abbrev vB (b:Bool):FV:=.val (.bool b)
abbrev vN:FV:=.val (.slice none 0 0)
theorem fc_int (k:IntKind) (n:Int):FV.cells (.val (.int k n)) = [.val (.int k n)]:=rfl
theorem fc_bool (b:Bool):FV.cells (.val (.bool b)) = [.val (.bool b)]:=rfl
theorem fc_str (s:ByteArray):FV.cells (.val (.string s)) = [.val (.string s)]:=rfl
theorem fc_slice (a:Option Addr) (n c:Nat):FV.cells (.val (.slice a n c)) = [.val (.slice a n c)]:=rfl
theorem fc_ptr (a:Option Addr):FV.cells (.val (.pointer a)) = [.val (.pointer a)]:=rfl
theorem fc_map (a:Option Nat):FV.cells (.val (.map a)) = [.val (.map a)]:=rfl
theorem fc_nif:FV.cells (.val .nilIface) = [.val .nilIface]:=rfl
theorem fc_nfn:FV.cells (.val .nilFunc) = [.val .nilFunc]:=rfl
theorem fc_agg (cs:List FV):FV.cells (.agg cs) = cs:=rfl
theorem fc_sl (n:Nat) (f:Nat → List FV):FV.cells (.sl n f) = [.sl n f]:=rfl
theorem fc_of {α:Type} [Inhabited α] (enc:α → List FV) (xs:List α):FV.cells (slOf enc xs) = [slOf enc xs]:=rfl
theorem fc_L (rows:List (List FV)):FV.cells (slL rows) = [slL rows]:=rfl
theorem fc_fp (cs:List FV):FV.cells (.fp cs) = [.fp cs]:=rfl
theorem fc_ifc (t:TypeId) (x:FV):FV.cells (.ifc t x) = [.ifc t x]:=rfl
theorem fc_fn (f:FuncId) (a b:List FV):FV.cells (.fn f a b) = [.fn f a b]:=rfl
theorem pick_and (a b:Bool):(bif a then b else false) = (a && b):=by cases a <;> rfl
theorem pick_or (a b:Bool):(bif a then true else b) = (a || b):=by cases a <;> rfl
theorem rows_of {α:Type} [Inhabited α] (enc:α → List FV) (xs:List α):rowsOf xs.length (fun i=>enc (xs.getD i default)) = xs.map enc:=by
 apply List.ext_getElem?
 intro i
 unfold rowsOf
 by_cases hi:i < xs.length
 ·simp [hi]
 ·rw [List.getElem?_eq_none (by simp; omega),List.getElem?_eq_none (by simp; omega)]
theorem rows_L (rows:List (List FV)):rowsOf rows.length (fun i=>rows.getD i []) = rows:=by
 apply List.ext_getElem?
 intro i
 unfold rowsOf
 by_cases hi:i < rows.length
 ·simp [hi]
 ·rw [List.getElem?_eq_none (by simp; omega),List.getElem?_eq_none (by omega)]
theorem srcRows_of {α:Type} [Inhabited α] (σ:AS) (sz:Nat) (enc:α → List FV) (xs:List α):srcRows σ sz (some (.fz (slOf enc xs))) = some (∀ i,i < xs.length → (enc (xs.getD i default)).length = sz,xs.map enc):=by
 simp only [srcRows,asSl_of,rows_of]
theorem srcRows_L (σ:AS) (sz:Nat) (rows:List (List FV)):srcRows σ sz (some (.fz (slL rows))) = some (∀ i,i < rows.length → (rows.getD i []).length = sz,rows):=by
 simp only [srcRows,asSl_L,rows_L]
theorem srcRows_os (σ:AS) (sz id:Nat):srcRows σ sz (some (.os id)) = match lookS σ id with
  | some (.rows _ sz' rows)=>if sz' = sz then some (True,rows) else none
  | _=>none:=rfl
theorem srcRows_nil (σ:AS) (sz:Nat):srcRows σ sz (some (.fz vN)) = some (∀ i,i < 0 → ([]:List FV).length = sz,[]):=rfl
section
variable {P : Program} {N : Nat} {ops : Array Oper} {dr : Option (List Nat)} {h0 : Gd} {Q : Exit → Tm → Heap → Prop} {Qr : Tm → Heap → Prop} {T T' : AT} {σ σ' : AS} {s s' : St} {az rest : List AO} {a : AO} {r : List Code} {x y c : Code}
theorem r_run {ob:Prop} (k:Reg P N ops dr h0 Qr rest s') (e:run az s = (rest,s',ob):=by simp only [run,step1,isA,stepP,stepA,pv,pa,gob,opd,lookV,lookL,lookT,lookS,chain,inCh,addrd,hits,pgT,pgL,addL,pT,pL,pS,pO,pC,pA,ibin,sint,intBin,feq,fc_int,fc_bool,fc_str,fc_slice,fc_ptr,fc_map,fc_nif,fc_nfn,fc_agg,fc_of,fc_L,fc_sl,fc_fp,fc_ifc,fc_fn,fillF,ofzs,ofzp,unfz,rowsP,srcRows_of,srcRows_L,srcRows_os,srcRows_nil,asSl_of,asSl_L,asSl_sl,asSl_nil,setS,okNew,nmT,nmL,nmS,nmC,nmNe,OO.cells,absC,bnd,target,resV,resVs,List.set_cons_zero,List.set_cons_succ,↓reduceIte,reduceCtorEq,Nat.reduceEqDiff,Nat.reduceBEq,Nat.reduceAdd,Nat.reduceMul,Nat.reduceLT,Nat.reduceLeDiff,Nat.reduceSub,Option.map_some,List.map_cons,List.map_nil,List.drop_succ_cons,List.drop_zero,List.drop_nil,List.take_succ_cons,List.take_zero,List.take_nil,List.cons_append,List.nil_append,List.append_nil,List.any_cons,List.any_nil,List.contains_cons,List.contains_nil,List.getElem?_cons_zero,List.getElem?_cons_succ,List.length_cons,List.length_nil,cond_true,cond_false,decide_true,decide_false,Bool.not_true,Bool.not_false,Bool.true_and,Bool.false_and,Bool.and_true,Bool.and_false,Bool.or_true,Bool.true_or,Bool.or_false,Bool.false_or,beq_self_eq_true,Bool.false_eq_true,pick_and,pick_or,Int.toNat_natCast,Int.toNat_zero,true_and,and_true,forall_const,implies_true,Nat.zero_add,Nat.add_zero,and_self, *] <;> exact rfl) (o:ob:=by (first | trivial | assumption | omega | (refine ⟨?_,?_⟩ <;> first | trivial | assumption | omega | (refine ⟨?_,?_⟩ <;> first | trivial | assumption | omega)) | (intros; first | trivial | omega | (refine ⟨?_,?_⟩ <;> first | trivial | omega)))):Reg P N ops dr h0 Qr az s:=reg_run e o k
theorem r_runO {ob:Prop} (o:ob) (k:Reg P N ops dr h0 Qr rest s') (e:run az s = (rest,s',ob):=by simp only [run,step1,isA,stepP,stepA,pv,pa,gob,opd,lookV,lookL,lookT,lookS,chain,inCh,addrd,hits,pgT,pgL,addL,pT,pL,pS,pO,pC,pA,ibin,sint,intBin,feq,fc_int,fc_bool,fc_str,fc_slice,fc_ptr,fc_map,fc_nif,fc_nfn,fc_agg,fc_of,fc_L,fc_sl,fc_fp,fc_ifc,fc_fn,fillF,ofzs,ofzp,unfz,rowsP,srcRows_of,srcRows_L,srcRows_os,srcRows_nil,asSl_of,asSl_L,asSl_sl,asSl_nil,setS,okNew,nmT,nmL,nmS,nmC,nmNe,OO.cells,absC,bnd,target,resV,resVs,List.set_cons_zero,List.set_cons_succ,↓reduceIte,reduceCtorEq,Nat.reduceEqDiff,Nat.reduceBEq,Nat.reduceAdd,Nat.reduceMul,Nat.reduceLT,Nat.reduceLeDiff,Nat.reduceSub,Option.map_some,List.map_cons,List.map_nil,List.drop_succ_cons,List.drop_zero,List.drop_nil,List.take_succ_cons,List.take_zero,List.take_nil,List.cons_append,List.nil_append,List.append_nil,List.any_cons,List.any_nil,List.contains_cons,List.contains_nil,List.getElem?_cons_zero,List.getElem?_cons_succ,List.length_cons,List.length_nil,cond_true,cond_false,decide_true,decide_false,Bool.not_true,Bool.not_false,Bool.true_and,Bool.false_and,Bool.and_true,Bool.and_false,Bool.or_true,Bool.true_or,Bool.or_false,Bool.false_or,beq_self_eq_true,Bool.false_eq_true,pick_and,pick_or,Int.toNat_natCast,Int.toNat_zero,true_and,and_true,forall_const,implies_true,Nat.zero_add,Nat.add_zero,and_self, *] <;> exact rfl):Reg P N ops dr h0 Qr az s:=reg_run e o k
theorem r_end (ks:List Nat) (k:AC P N h0 r Q T' σ') (eT:keepT ks s.L s.T = T':=by simp only [Nat.reduceLT,decide_true,decide_false,keepT,keepS,nmT,nmB,nmC,nmNe,OO.cells,lookV,lookL,lookT,↓reduceIte,reduceCtorEq,Nat.reduceEqDiff,Nat.reduceBEq,Bool.true_and,Bool.false_and,Bool.and_true,Bool.and_false,Bool.not_true,Bool.not_false,beq_self_eq_true,Bool.false_eq_true] <;> exact rfl) (eσ:keepS T' s.σ s.σ = σ':=by simp only [Nat.reduceLT,decide_true,decide_false,keepT,keepS,nmT,nmB,nmC,nmNe,OO.cells,lookV,lookL,lookT,↓reduceIte,reduceCtorEq,Nat.reduceEqDiff,Nat.reduceBEq,Bool.true_and,Bool.false_and,Bool.and_true,Bool.and_false,Bool.not_true,Bool.not_false,beq_self_eq_true,Bool.false_eq_true] <;> exact rfl):Reg P N ops dr h0 (AK P N Q r) [] s:=reg_end ks eT eσ k
theorem r_call {d:Nat} {k:K} {q:Bool} {f:FuncId} {xs ys:List FV} {res:FV} (c:PureCall P f ys res) (r:Reg P N ops dr h0 Qr az ⟨s.T,(d,none,.fz res) :: s.L,s.σ,if q = true then s.rs else []⟩)
  (e:target (opd s.L s.T []) k = some (f,xs):=by simp only [run,step1,isA,stepP,stepA,pv,pa,gob,opd,lookV,lookL,lookT,lookS,chain,inCh,addrd,hits,pgT,pgL,addL,pT,pL,pS,pO,pC,pA,ibin,sint,intBin,feq,fc_int,fc_bool,fc_str,fc_slice,fc_ptr,fc_map,fc_nif,fc_nfn,fc_agg,fc_of,fc_L,fc_sl,fc_fp,fc_ifc,fc_fn,fillF,ofzs,ofzp,unfz,rowsP,srcRows_of,srcRows_L,srcRows_os,srcRows_nil,asSl_of,asSl_L,asSl_sl,asSl_nil,setS,okNew,nmT,nmL,nmS,nmC,nmNe,OO.cells,absC,bnd,target,resV,resVs,List.set_cons_zero,List.set_cons_succ,↓reduceIte,reduceCtorEq,Nat.reduceEqDiff,Nat.reduceBEq,Nat.reduceAdd,Nat.reduceMul,Nat.reduceLT,Nat.reduceLeDiff,Nat.reduceSub,Option.map_some,List.map_cons,List.map_nil,List.drop_succ_cons,List.drop_zero,List.drop_nil,List.take_succ_cons,List.take_zero,List.take_nil,List.cons_append,List.nil_append,List.append_nil,List.any_cons,List.any_nil,List.contains_cons,List.contains_nil,List.getElem?_cons_zero,List.getElem?_cons_succ,List.length_cons,List.length_nil,cond_true,cond_false,decide_true,decide_false,Bool.not_true,Bool.not_false,Bool.true_and,Bool.false_and,Bool.and_true,Bool.and_false,Bool.or_true,Bool.true_or,Bool.or_false,Bool.false_or,beq_self_eq_true,Bool.false_eq_true,pick_and,pick_or,Int.toNat_natCast,Int.toNat_zero,true_and,and_true,forall_const,implies_true,Nat.zero_add,Nat.add_zero,and_self, *] <;> exact rfl) (hc:okCall P f = true:=by kernel_rfl) (cv:FConv xs ys:=by first | exact FConv.rfl | fail):Reg P N ops dr h0 Qr (⟨some d,none,k,q⟩ :: az) s:=reg_call e hc c cv r
theorem r_callg {d t:Nat} {p:Bool} {k:K} {q:Bool} {f:FuncId} {xs ys:List FV} {res:FV} (c:PureCall P f ys res) (r:Reg P N ops dr h0 Qr az ⟨s.T,(d,some (t,p),.fz res) :: s.L,s.σ,s.rs⟩)
  (e:target (opd s.L s.T (chain s.L 3 (some (t,p)))) k = some (f,xs):=by simp only [run,step1,isA,stepP,stepA,pv,pa,gob,opd,lookV,lookL,lookT,lookS,chain,inCh,addrd,hits,pgT,pgL,addL,pT,pL,pS,pO,pC,pA,ibin,sint,intBin,feq,fc_int,fc_bool,fc_str,fc_slice,fc_ptr,fc_map,fc_nif,fc_nfn,fc_agg,fc_of,fc_L,fc_sl,fc_fp,fc_ifc,fc_fn,fillF,ofzs,ofzp,unfz,rowsP,srcRows_of,srcRows_L,srcRows_os,srcRows_nil,asSl_of,asSl_L,asSl_sl,asSl_nil,setS,okNew,nmT,nmL,nmS,nmC,nmNe,OO.cells,absC,bnd,target,resV,resVs,List.set_cons_zero,List.set_cons_succ,↓reduceIte,reduceCtorEq,Nat.reduceEqDiff,Nat.reduceBEq,Nat.reduceAdd,Nat.reduceMul,Nat.reduceLT,Nat.reduceLeDiff,Nat.reduceSub,Option.map_some,List.map_cons,List.map_nil,List.drop_succ_cons,List.drop_zero,List.drop_nil,List.take_succ_cons,List.take_zero,List.take_nil,List.cons_append,List.nil_append,List.append_nil,List.any_cons,List.any_nil,List.contains_cons,List.contains_nil,List.getElem?_cons_zero,List.getElem?_cons_succ,List.length_cons,List.length_nil,cond_true,cond_false,decide_true,decide_false,Bool.not_true,Bool.not_false,Bool.true_and,Bool.false_and,Bool.and_true,Bool.and_false,Bool.or_true,Bool.true_or,Bool.or_false,Bool.false_or,beq_self_eq_true,Bool.false_eq_true,pick_and,pick_or,Int.toNat_natCast,Int.toNat_zero,true_and,and_true,forall_const,implies_true,Nat.zero_add,Nat.add_zero,and_self, *] <;> exact rfl) (hc:okCall P f = true:=by kernel_rfl) (cv:FConv xs ys:=by first | exact FConv.rfl | fail) (hin:(lookL s.L t).isSome = true:=by simp only [run,step1,isA,stepP,stepA,pv,pa,gob,opd,lookV,lookL,lookT,lookS,chain,inCh,addrd,hits,pgT,pgL,addL,pT,pL,pS,pO,pC,pA,ibin,sint,intBin,feq,fc_int,fc_bool,fc_str,fc_slice,fc_ptr,fc_map,fc_nif,fc_nfn,fc_agg,fc_of,fc_L,fc_sl,fc_fp,fc_ifc,fc_fn,fillF,ofzs,ofzp,unfz,rowsP,srcRows_of,srcRows_L,srcRows_os,srcRows_nil,asSl_of,asSl_L,asSl_sl,asSl_nil,setS,okNew,nmT,nmL,nmS,nmC,nmNe,OO.cells,absC,bnd,target,resV,resVs,List.set_cons_zero,List.set_cons_succ,↓reduceIte,reduceCtorEq,Nat.reduceEqDiff,Nat.reduceBEq,Nat.reduceAdd,Nat.reduceMul,Nat.reduceLT,Nat.reduceLeDiff,Nat.reduceSub,Option.map_some,List.map_cons,List.map_nil,List.drop_succ_cons,List.drop_zero,List.drop_nil,List.take_succ_cons,List.take_zero,List.take_nil,List.cons_append,List.nil_append,List.append_nil,List.any_cons,List.any_nil,List.contains_cons,List.contains_nil,List.getElem?_cons_zero,List.getElem?_cons_succ,List.length_cons,List.length_nil,cond_true,cond_false,decide_true,decide_false,Bool.not_true,Bool.not_false,Bool.true_and,Bool.false_and,Bool.and_true,Bool.and_false,Bool.or_true,Bool.true_or,Bool.or_false,Bool.false_or,beq_self_eq_true,Bool.false_eq_true,pick_and,pick_or,Int.toNat_natCast,Int.toNat_zero,true_and,and_true,forall_const,implies_true,Nat.zero_add,Nat.add_zero,and_self,Option.isSome_some]) :
  Reg P N ops dr h0 Qr (⟨some d,some (t,p),k,q⟩ :: az) s:=reg_callg e hc c cv hin r
theorem c_cond {c:Operand} {b:Bool} (rt:b = true → AC P N h0 (x :: r) Q T σ) (rf:b = false → AC P N h0 (y :: r) Q T σ) (e:opd [] T [] c = some (.fz (.val (.bool b))):=by simp only [run,step1,isA,stepP,stepA,pv,pa,gob,opd,lookV,lookL,lookT,lookS,chain,inCh,addrd,hits,pgT,pgL,addL,pT,pL,pS,pO,pC,pA,ibin,sint,intBin,feq,fc_int,fc_bool,fc_str,fc_slice,fc_ptr,fc_map,fc_nif,fc_nfn,fc_agg,fc_of,fc_L,fc_sl,fc_fp,fc_ifc,fc_fn,fillF,ofzs,ofzp,unfz,rowsP,srcRows_of,srcRows_L,srcRows_os,srcRows_nil,asSl_of,asSl_L,asSl_sl,asSl_nil,setS,okNew,nmT,nmL,nmS,nmC,nmNe,OO.cells,absC,bnd,target,resV,resVs,List.set_cons_zero,List.set_cons_succ,↓reduceIte,reduceCtorEq,Nat.reduceEqDiff,Nat.reduceBEq,Nat.reduceAdd,Nat.reduceMul,Nat.reduceLT,Nat.reduceLeDiff,Nat.reduceSub,Option.map_some,List.map_cons,List.map_nil,List.drop_succ_cons,List.drop_zero,List.drop_nil,List.take_succ_cons,List.take_zero,List.take_nil,List.cons_append,List.nil_append,List.append_nil,List.any_cons,List.any_nil,List.contains_cons,List.contains_nil,List.getElem?_cons_zero,List.getElem?_cons_succ,List.length_cons,List.length_nil,cond_true,cond_false,decide_true,decide_false,Bool.not_true,Bool.not_false,Bool.true_and,Bool.false_and,Bool.and_true,Bool.and_false,Bool.or_true,Bool.true_or,Bool.or_false,Bool.false_or,beq_self_eq_true,Bool.false_eq_true,pick_and,pick_or,Int.toNat_natCast,Int.toNat_zero,true_and,and_true,forall_const,implies_true,Nat.zero_add,Nat.add_zero,and_self, *] <;> exact rfl):AC P N h0 (.cond c x y :: r) Q T σ:=a_cond e rt rf
theorem c_false {c:Operand} (rf:AC P N h0 (y :: r) Q T σ) (e:opd [] T [] c = some (.fz (.val (.bool false))):=by simp only [run,step1,isA,stepP,stepA,pv,pa,gob,opd,lookV,lookL,lookT,lookS,chain,inCh,addrd,hits,pgT,pgL,addL,pT,pL,pS,pO,pC,pA,ibin,sint,intBin,feq,fc_int,fc_bool,fc_str,fc_slice,fc_ptr,fc_map,fc_nif,fc_nfn,fc_agg,fc_of,fc_L,fc_sl,fc_fp,fc_ifc,fc_fn,fillF,ofzs,ofzp,unfz,rowsP,srcRows_of,srcRows_L,srcRows_os,srcRows_nil,asSl_of,asSl_L,asSl_sl,asSl_nil,setS,okNew,nmT,nmL,nmS,nmC,nmNe,OO.cells,absC,bnd,target,resV,resVs,List.set_cons_zero,List.set_cons_succ,↓reduceIte,reduceCtorEq,Nat.reduceEqDiff,Nat.reduceBEq,Nat.reduceAdd,Nat.reduceMul,Nat.reduceLT,Nat.reduceLeDiff,Nat.reduceSub,Option.map_some,List.map_cons,List.map_nil,List.drop_succ_cons,List.drop_zero,List.drop_nil,List.take_succ_cons,List.take_zero,List.take_nil,List.cons_append,List.nil_append,List.append_nil,List.any_cons,List.any_nil,List.contains_cons,List.contains_nil,List.getElem?_cons_zero,List.getElem?_cons_succ,List.length_cons,List.length_nil,cond_true,cond_false,decide_true,decide_false,Bool.not_true,Bool.not_false,Bool.true_and,Bool.false_and,Bool.and_true,Bool.and_false,Bool.or_true,Bool.true_or,Bool.or_false,Bool.false_or,beq_self_eq_true,Bool.false_eq_true,pick_and,pick_or,Int.toNat_natCast,Int.toNat_zero,true_and,and_true,forall_const,implies_true,Nat.zero_add,Nat.add_zero,and_self, *] <;> exact rfl):AC P N h0 (.cond c x y :: r) Q T σ:=a_cond e (fun h=>by cases h) (fun _=>rf)
theorem c_weak (ks:List Nat) (k:AC P N h0 r Q T' σ') (eT:keepT ks [] T = T':=by simp only [Nat.reduceLT,decide_true,decide_false,keepT,keepS,nmT,nmB,nmC,nmNe,OO.cells,lookV,lookL,lookT,↓reduceIte,reduceCtorEq,Nat.reduceEqDiff,Nat.reduceBEq,Bool.true_and,Bool.false_and,Bool.and_true,Bool.and_false,Bool.not_true,Bool.not_false,beq_self_eq_true,Bool.false_eq_true] <;> exact rfl) (eσ:keepS T' σ σ = σ':=by simp only [Nat.reduceLT,decide_true,decide_false,keepT,keepS,nmT,nmB,nmC,nmNe,OO.cells,lookV,lookL,lookT,↓reduceIte,reduceCtorEq,Nat.reduceEqDiff,Nat.reduceBEq,Bool.true_and,Bool.false_and,Bool.and_true,Bool.and_false,Bool.not_true,Bool.not_false,beq_self_eq_true,Bool.false_eq_true] <;> exact rfl):AC P N h0 r Q T σ:=a_weak ks eT eσ k
theorem x_weak {e:Exit} (ks:List Nat) (k:AX h0 e Q T' σ') (eT:keepT ks [] T = T':=by simp only [Nat.reduceLT,decide_true,decide_false,keepT,keepS,nmT,nmB,nmC,nmNe,OO.cells,lookV,lookL,lookT,↓reduceIte,reduceCtorEq,Nat.reduceEqDiff,Nat.reduceBEq,Bool.true_and,Bool.false_and,Bool.and_true,Bool.and_false,Bool.not_true,Bool.not_false,beq_self_eq_true,Bool.false_eq_true] <;> exact rfl) (eσ:keepS T' σ σ = σ':=by simp only [Nat.reduceLT,decide_true,decide_false,keepT,keepS,nmT,nmB,nmC,nmNe,OO.cells,lookV,lookL,lookT,↓reduceIte,reduceCtorEq,Nat.reduceEqDiff,Nat.reduceBEq,Bool.true_and,Bool.false_and,Bool.and_true,Bool.and_false,Bool.not_true,Bool.not_false,beq_self_eq_true,Bool.false_eq_true] <;> exact rfl):AX h0 e Q T σ:=by
 subst eT
 subst eσ
 exact fun β hF h Tc sem=>k β hF h Tc (sem.keep ks (keepS_sub _ _ _))
theorem y_ret1 {fn:Func} {res x:FV} (rv:ResultVar) (k:Option Nat) (hx:∀ h v,FRep h x v → FRep h res v) (hq:Q .ret = retQ P fn (PureR h0 res) .ret:=by rfl) (hr:fn.results = #[rv]:=by rfl) (hok:okR P (rv,k) = true:=by kernel_rfl) (e:resV T σ (rv,k) = some x:=by simp only [run,step1,isA,stepP,stepA,pv,pa,gob,opd,lookV,lookL,lookT,lookS,chain,inCh,addrd,hits,pgT,pgL,addL,pT,pL,pS,pO,pC,pA,ibin,sint,intBin,feq,fc_int,fc_bool,fc_str,fc_slice,fc_ptr,fc_map,fc_nif,fc_nfn,fc_agg,fc_of,fc_L,fc_sl,fc_fp,fc_ifc,fc_fn,fillF,ofzs,ofzp,unfz,rowsP,srcRows_of,srcRows_L,srcRows_os,srcRows_nil,asSl_of,asSl_L,asSl_sl,asSl_nil,setS,okNew,nmT,nmL,nmS,nmC,nmNe,OO.cells,absC,bnd,target,resV,resVs,List.set_cons_zero,List.set_cons_succ,↓reduceIte,reduceCtorEq,Nat.reduceEqDiff,Nat.reduceBEq,Nat.reduceAdd,Nat.reduceMul,Nat.reduceLT,Nat.reduceLeDiff,Nat.reduceSub,Option.map_some,List.map_cons,List.map_nil,List.drop_succ_cons,List.drop_zero,List.drop_nil,List.take_succ_cons,List.take_zero,List.take_nil,List.cons_append,List.nil_append,List.append_nil,List.any_cons,List.any_nil,List.contains_cons,List.contains_nil,List.getElem?_cons_zero,List.getElem?_cons_succ,List.length_cons,List.length_nil,cond_true,cond_false,decide_true,decide_false,Bool.not_true,Bool.not_false,Bool.true_and,Bool.false_and,Bool.and_true,Bool.and_false,Bool.or_true,Bool.true_or,Bool.or_false,Bool.false_or,beq_self_eq_true,Bool.false_eq_true,pick_and,pick_or,Int.toNat_natCast,Int.toNat_zero,true_and,and_true,forall_const,implies_true,Nat.zero_add,Nat.add_zero,and_self, *] <;> exact rfl):AX h0 .ret Q T σ:=x_ret1 rv k hq hr hok e hx
end
theorem frep_of {x y:FV} (e:x = y):∀ h v,FRep h x v → FRep h y v:=by subst e; exact fun _ _ r=>r
end Go.Proofs.YtihdpjinaafenaaGreatDoor.Ab

/- Calls that turn an object: a slice handed on; an object of another kind behind a pointer. -/
namespace Go.Proofs.YtihdpjinaafenaaGreatDoor.Ab
open Go.Proofs.YtihdpjinaafenaaGreatDoor.Sl
section
variable {P : Program} {N : Nat} {ops : Array Oper} {h0 : Gd} {β : Nat → Value} {hF h hp : Heap} {Tc : Tm} {o : Oper} {a : AO} {Q : Tm → Heap → Prop} {loud : List Nat} {dr : Option (List Nat)} {az rest : List AO} {s s' : St}
theorem SCalls.frame2 {f:FuncId} {vs:Array Value} {R:Value → Heap → Prop} (c:SCalls P f vs hp R) (l:hp.le h) (hR:∀ r h1,R r h1 → ∀ b,hp b ≠ none → h1 b ≠ none) :
  SCalls P f vs h (fun r h2=>∃ h1,R r h1 ∧ h1.le h2 ∧ ∀ b,hp b = none → h b ≠ none → h1 b = none ∧ h2 b = h b):=by
 intro w rel
 refine (c w (rel.le l)).mono ?_
 rintro e w' ⟨v,h1,rfl,hr,rel1,st⟩
 have hdom:=hR v h1 hr
 have hnew:∀ b,hp b = none → h b ≠ none → h1 b = none:=fun b e1 e2=>by
  cases e3:h1 b with
  | none=>rfl
  | some ob =>
   have h3:=st.fresh b e1 (by rw [e3]; simp)
   cases e4:h b with
   | none=>exact absurd e4 e2
   | some ob'=>have:=rel.lt e4; omega
 refine ⟨v,fun b=>match h1 b with | some o=>some o | none=>h b,rfl,⟨h1,hr,fun b ob e=>by simp only [e],fun b e1 e2=>⟨hnew b e1 e2,by simp only [hnew b e1 e2]⟩⟩,fun b ob e=>?_,⟨st.os,st.tape,st.output,st.size,fun b hb hn=>?_,fun b hn hs=>?_⟩⟩
 ·cases e1:h1 b with
  | some ob'=>simp only [e1] at e; cases e; exact rel1 b _ e1
  | none =>
   simp only [e1] at e
   have hFb:hp b = none:=by
    cases e2:hp b with
    | none=>rfl
    | some ob'=>exact absurd e1 (hdom b (by rw [e2]; simp))
   exact (st.keep b (rel.lt e) hFb).trans (rel b ob e)
 ·refine st.keep b hb ?_
  cases e2:hp b with
  | none=>rfl
  | some ob'=>rw [l b _ e2] at hn; cases hn
 ·refine st.fresh b ?_ ?_
  ·cases e2:hp b with
   | none=>rfl
   | some ob'=>rw [l b _ e2] at hn; cases hn
  ·cases e1:h1 b with
   | none=>simp only [e1] at hs; exact absurd hn hs
   | some ob=>simp
variable {T : AT} {σ : AS} {QE : Exit → Tm → Heap → Prop}
end
end Go.Proofs.YtihdpjinaafenaaGreatDoor.Ab

/- Calls that are handed objects: whatever they are; with several answers. -/
namespace Go.Proofs.YtihdpjinaafenaaGreatDoor.Ab
open Go.Proofs.YtihdpjinaafenaaGreatDoor.Sl
def GCall (P:Program) (f:FuncId) (args:List AV) (σi:AS) (Y:Type) (Pr:Y → Prop) (σo:Y → AS) (res:Y → FV):Prop :=
 ∀ (γ:Nat → Value) (hF h:Heap) (vs:List Value),Ok ⟨hF,γ⟩ γ hF h σi → (∀ b,h b ≠ none → hF b ≠ none ∨ ∃ e ∈ σi,fpOf (γ e.1) e.2 b) → AReps γ hF args vs →
  SCalls P f vs.toArray h (fun r h'=>∃ y,Pr y ∧ ∃ hF',hF.le hF' ∧ Ok ⟨hF,γ⟩ γ hF' h' (σo y) ∧ (σo y).map (·.1) = σi.map (·.1) ∧ (∀ e ∈ σo y,∀ b,fpOf (γ e.1) e.2 b → (∃ e' ∈ σi,e'.1 = e.1 ∧ fpOf (γ e'.1) e'.2 b) ∨ h b = none) ∧ (∀ e ∈ σi,∀ b,fpOf (γ e.1) e.2 b → h' b ≠ none) ∧ FRep hF' (res y) r)
section
variable {P : Program} {N : Nat} {ops : Array Oper} {h0 : Gd} {β γ : Nat → Value} {hF h hp : Heap} {Tc : Tm} {o : Oper} {a : AO} {Q : Tm → Heap → Prop} {loud : List Nat} {dr : Option (List Nat)} {az rest : List AO} {s s' : St}
def AcE (h0:Gd) (β:Nat → Value) (hF:Heap) (σ':AS) (x:AV) (v:Value) (h':Heap):Prop:=∃ hF',Ok h0 β hF' h' σ' ∧ hF.le hF' ∧ ARep β hF' x v
theorem RegN.acsE {Y:Type} (Pr:Y → Prop) (σo:Y → AS) (vo:Y → AV) (hk:isAct a.k.op = true) (hg:a.g = none)
  (hok:∀ o,Fit P N ops o a → ∀ {β:Nat → Value} {hF h:Heap} {Tc:Tm},Sem h0 β hF h Tc s.T s.L s.σ → SOp P o (ev Tc) h (fun v h'=>∃ y,Pr y ∧ AcE h0 β hF (σo y) (vo y) v h'))
  (r:∀ y,Pr y → RegN P N ops h0 Q az ⟨s.T,addL a.dst none (vo y) s.L,σo y,if a.q = true then s.rs else []⟩):RegN P N ops h0 Q (a :: az) s:=by
 intro os hm hok' β hF h Tc sem nd
 cases os with
 | nil=>simp at hm
 | cons o os =>
  simp only [List.map_cons,List.cons.injEq] at hm
  simp only [List.all_cons,Bool.and_eq_true] at hok'
  have f:=fit_of hm.1 hok'.1
  refine ⟨f.lt,?_⟩
  rw [f.want_none hg]
  refine (hok o f sem).mono fun v h' ⟨y,hy,hF',k,l,rv⟩=>?_
  have sem':=sem.turn k l (fun _ _ _ _=>rfl) (fun _ _ _ _=>rfl)
  cases hd:a.dst with
  | none =>
   rw [put_none (f.dst.trans hd)]
   exact r y hy os hm.2 hok'.2 _ _ _ _ (by simpa [addL,hd] using sem') (by simpa [addL,hd] using nod_none nd hd)
  | some d =>
   rw [put_some (f.dst.trans hd)]
   obtain ⟨nd',hne⟩:=nod_step nd hd none (vo y)
   exact r y hy os hm.2 hok'.2 _ _ _ _ (by simpa [addL,hd] using sem'.put (g:=none) hne (fun _ _ e=>by cases e) rv) (by simpa [addL,hd] using nd')
theorem RegD.acsE {Y:Type} (Pr:Y → Prop) (σo:Y → AS) (vo:Y → AV) (mds:List Nat) (hk:isAct a.k.op = true) (hg:a.g = none) (hq:(a.q && mds.any fun i=>s.rs.contains i) = false)
  (hok:∀ o,Fit P N ops o a → ∀ {β:Nat → Value} {hF h:Heap} {Tc:Tm},Sem h0 β hF h Tc s.T s.L s.σ → SOp P o (ev Tc) h (fun v h'=>∃ y,Pr y ∧ AcE h0 β hF (σo y) (vo y) v h' ∧ ∀ e ∈ s.σ,e.1 ∉ mds → ∀ b,fpOf (β e.1) e.2 b → h' b = h b))
  (hσ:∀ y,Pr y → ∀ e ∈ s.σ,∃ x,(e.1,x) ∈ σo y)
  (r:∀ y,Pr y → RegD P N ops loud h0 Q az ⟨s.T,addL a.dst none (vo y) s.L,σo y,if a.q = true then s.rs else []⟩):RegD P N ops loud h0 Q (a :: az) s:=by
 intro τ hm hok' β hF h Tc F E sem fo nd
 cases τ with
 | nil=>simp at hm
 | cons e0 τ =>
  obtain ⟨i,rfl,hstrip,hloud,hm2⟩:=d_head hm
  simp only [List.all_cons,Bool.and_eq_true] at hok'
  have f:=fit_of hstrip hok'.1
  have hact:isAct (opAt ops i).op = true:=by rw [f.op]; exact hk
  simp only [sdraw,List.not_mem_nil,if_false,hact,if_true]
  rw [f.want_none hg]
  simp only [if_true]
  have next:∀ v h' y,Pr y → AcE h0 β hF (σo y) (vo y) v h' → ∀ F',(∀ hF',hF.le hF' → FOk F' β hF' h' (σo y) (if a.q = true then s.rs else [])) → sdraw P N ops [] loud Q τ (put Tc (opAt ops i).dst v) h' F' E:=by
   rintro v h' y hy ⟨hF',k,l,rv⟩ F' hF'ok
   have sem':=sem.turn k l (fun _ _ _ _=>rfl) (fun _ _ _ _=>rfl)
   have fo':=hF'ok hF' l
   cases hd:a.dst with
   | none =>
    rw [put_none (f.dst.trans hd)]
    exact r y hy τ hm2 hok'.2 _ _ _ _ _ _ (by simpa [addL,hd] using sem') fo' (by simpa [addL,hd] using nod_none nd hd)
   | some d =>
    rw [put_some (f.dst.trans hd)]
    obtain ⟨nd',hne⟩:=nod_step nd hd none (vo y)
    exact r y hy τ hm2 hok'.2 _ _ _ _ _ _ (by simpa [addL,hd] using sem'.put (g:=none) hne (fun _ _ e=>by cases e) rv) fo' (by simpa [addL,hd] using nd')
  cases hqq:a.q with
  | false =>
   rw [if_pos (hloud.2 hqq)]
   exact (hok _ f sem).mono fun v h' ⟨y,hy,x,_⟩=>next v h' y hy x [] fun hF' _=>⟨fun A hA=>(by cases hA),fun id hid=>(by rw [hqq] at hid; simp at hid)⟩
  | true =>
   rw [if_neg (fun e=>by rw [hloud.1 e] at hqq; cases hqq)]
   have hnomd:∀ id ∈ s.rs,id ∉ mds:=by
    intro id hid e1
    rw [hqq,Bool.true_and,List.any_eq_false] at hq
    exact hq id e1 (by simpa using hid)
   refine (hok _ f sem).mono fun v h' ⟨y,hy,x,keep⟩=>⟨fun A hA _=>?_,next v h' y hy x F fun hF' l=>⟨fun A hA g hg hb=>?_,fun id hid=>?_⟩⟩
   ·obtain ⟨hF',k,l,rv⟩:=x
    refine fo.1 A hA h' (Heap.le_trans l k.le) fun id hid b e1=>?_
    obtain ⟨x,hx⟩:=fo.2 id hid
    exact keep _ hx (hnomd id hid) b ((sem.ok.ok _ hx).fp e1)
   ·rw [hqq] at hb
    simp only [if_true] at hb
    refine fo.1 A hA g (Heap.le_trans l hg) fun id hid b e1=>?_
    obtain ⟨x,hx⟩:=fo.2 id hid
    rw [hb id hid b e1]
    exact keep _ hx (hnomd id hid) b ((sem.ok.ok _ hx).fp e1)
   ·rw [hqq] at hid
    obtain ⟨x,hx⟩:=fo.2 id (by simpa using hid)
    exact hσ y hy _ hx
def renN (ids:List Nat) (n:Nat):Nat:=ids.getD (n - 1000) 0
def renA (ids:List Nat):AV → AV
 | .os n=>.os (renN ids n)
 | .oe n sz i p=>.oe (renN ids n) sz i p
 | a=>a
def renC (ids:List Nat):List AV → List AV
 | []=>[]
 | a :: r=>renA ids a :: renC ids r
def renO (ids:List Nat):OO → OO
 | .box t cs=>.box t (renC ids cs)
 | x=>x
theorem renC_eq (ids:List Nat):∀ l,renC ids l = l.map (renA ids)
 | []=>rfl
 | a :: r=>by simp [renC,renC_eq ids r]
theorem renA_rep {ids:List Nat} (hγ:∀ n,γ n = β (renN ids n)) (x:AV) (v:Value):ARep β hF (renA ids x) v ↔ ARep γ hF x v:=by
 cases x with
 | hid=>exact ⟨fun _=>.hid v,fun _=>.hid v⟩
 | fz x=>exact ⟨fun h=>(by cases h with | fz r=>exact .fz r),fun h=>(by cases h with | fz r=>exact .fz r)⟩
 | os n =>
  simp only [renA]
  constructor
  ·intro h
   generalize hm:AV.os (renN ids n) = z at h
   cases h <;> cases hm
   rw [← hγ]; exact .os n
  ·intro h
   cases h
   rw [hγ]; exact .os _
 | oe n sz i p =>
  simp only [renA]
  constructor
  ·intro h
   generalize hm:AV.oe (renN ids n) sz i p = z at h
   cases h <;> cases hm
   rename_i hb
   exact .oe (by rw [hγ]; exact hb)
  ·intro h
   cases h with
   | oe hb=>exact .oe (by rw [← hγ]; exact hb)
theorem renC_rep {ids:List Nat} (hγ:∀ n,γ n = β (renN ids n)) (xs:List AV) (vs:List Value):AReps β hF (renC ids xs) vs ↔ AReps γ hF xs vs:=by
 rw [renC_eq]
 constructor
 ·rintro ⟨h1,h2⟩
  rw [List.length_map] at h1
  exact ⟨h1,fun j c v a b=>(renA_rep hγ c v).1 (h2 j _ v (by rw [List.getElem?_map,a]; rfl) b)⟩
 ·rintro ⟨h1,h2⟩
  refine ⟨by rw [List.length_map]; exact h1,fun j c v a b=>?_⟩
  rw [List.getElem?_map] at a
  cases e:xs[j]? with
  | none=>rw [e] at a; cases a
  | some x=>rw [e] at a; cases a; exact (renA_rep hγ x v).2 (h2 j x v e b)
theorem renO_ok {ids:List Nat} (hγ:∀ n,γ n = β (renN ids n)) (n:Nat) (x:OO):OOk β hF h (renN ids n) (renO ids x) ↔ OOk γ hF h n x:=by
 cases x with
 | box t cs =>
  simp only [renO,OOk,hγ n]
  constructor
  ·rintro ⟨b,vs,h1,h2,h3⟩; exact ⟨b,vs,h1,h2,(renC_rep hγ cs vs).1 h3⟩
  ·rintro ⟨b,vs,h1,h2,h3⟩; exact ⟨b,vs,h1,h2,(renC_rep hγ cs vs).2 h3⟩
 | ext D Φ=>simp only [renO,OOk,hγ n]
 | rows t sz rows=>simp only [renO,OOk,hγ n]
theorem renO_fp (ids:List Nat) (v:Value) (x:OO) (b:Nat):fpOf v (renO ids x) b ↔ fpOf v x b:=by cases x <;> exact Iff.rfl
def setAll (ids:List Nat):AS → AS → AS
 | σ,[]=>σ
 | σ,e :: r=>setAll ids (setS σ (renN ids e.1) (renO ids e.2)) r
theorem setAll_keys (ids:List Nat):∀ (l σ:AS),(setAll ids σ l).map (·.1) = σ.map (·.1)
 | [],σ=>rfl
 | e :: r,σ=>by unfold setAll; rw [setAll_keys ids r,setS_keys]
theorem setAll_mem {ids:List Nat}:∀ {l σ:AS},(σ.map (·.1)).Nodup → (l.map fun e=>renN ids e.1).Nodup → ∀ e ∈ setAll ids σ l,(∃ x ∈ l,e = (renN ids x.1,renO ids x.2)) ∨ (e ∈ σ ∧ ∀ x ∈ l,e.1 ≠ renN ids x.1)
 | [],σ,_,_,e,he=>.inr ⟨he,fun x hx=>by cases hx⟩
 | y :: l,σ,nd,nd2,e,he=>by
  unfold setAll at he
  simp only [List.map_cons,List.nodup_cons] at nd2
  rcases setAll_mem (by rw [setS_keys]; exact nd) nd2.2 e he with ⟨x,hx,h1⟩ | ⟨h1,h2⟩
  ·exact .inl ⟨x,List.mem_cons_of_mem _ hx,h1⟩
  ·rcases setS_mem nd e h1 with h3 | ⟨h3,h4⟩
   ·exact .inl ⟨y,List.mem_cons_self,h3⟩
   ·refine .inr ⟨h3,fun x hx=>?_⟩
    rcases List.mem_cons.1 hx with rfl | hx
    ·exact h4
    ·exact h2 x hx
theorem setAll_has {ids:List Nat}:∀ {l σ:AS} {e:Nat × OO},e ∈ σ → ∃ y,(e.1,y) ∈ setAll ids σ l
 | [],σ,e,he=>⟨e.2,he⟩
 | x :: l,σ,e,he=>by
  obtain ⟨y,hy⟩:=setS_has (id:=renN ids x.1) (x:=renO ids x.2) he
  obtain ⟨z,hz⟩:=setAll_has (l:=l) hy
  exact ⟨z,hz⟩
open Classical in
theorem g_ac {σ σi:AS} {ids:List Nat} (k:Ok h0 β hF h σ) {f:FuncId} {args:List AV} {vs:List Value} {Y:Type} {Pr:Y → Prop} {σo:Y → AS} {res:Y → FV} (hl:∀ e ∈ σi,(renN ids e.1,renO ids e.2) ∈ σ) (hnd:(σi.map fun e=>renN ids e.1).Nodup)
  (r:AReps β hF (renC ids args) vs) (c:GCall P f args σi Y Pr σo res) :
  SCalls P f vs.toArray h (fun v h'=>∃ y,Pr y ∧ AcE h0 β hF (setAll ids σ (σo y)) (.fz (res y)) v h' ∧ ∀ e ∈ σ,e.1 ∉ (σi.map fun e=>renN ids e.1) → ∀ b,fpOf (β e.1) e.2 b → h' b = h b):=by
 have hγ:∀ n,(fun n=>β (renN ids n)) n = β (renN ids n):=fun _=>rfl
 generalize hγ':(fun n=>β (renN ids n)) = γ at hγ
 have fp1:∀ e ∈ σi,∀ b,fpOf (γ e.1) e.2 b ↔ fpOf (β (renN ids e.1)) (renO ids e.2) b:=fun e he b=>by rw [hγ,renO_fp]
 have inj:∀ e ∈ σi,∀ e' ∈ σi,e.1 ≠ e'.1 → renN ids e.1 ≠ renN ids e'.1:=by
  intro e he e' he' hne e1
  obtain ⟨i,hi,rfl⟩:=List.mem_iff_getElem.1 he
  obtain ⟨j,hj,rfl⟩:=List.mem_iff_getElem.1 he'
  have:=List.pairwise_iff_getElem.1 hnd
  rcases Nat.lt_trichotomy i j with h1 | h1 | h1
  ·exact this i j (by simpa using hi) (by simpa using hj) h1 (by simpa using e1)
  ·subst h1; exact hne rfl
  ·exact this j i (by simpa using hj) (by simpa using hi) h1 (by simpa using e1.symm)
 have ndi:(σi.map (·.1)).Nodup:=by
  have:(σi.map fun e=>renN ids e.1) = (σi.map (·.1)).map (renN ids):=by rw [List.map_map]; rfl
  rw [this] at hnd
  exact (List.pairwise_map.1 hnd).imp fun h e=>h (by rw [e])
 let hp:Heap:=fun b=>if ∃ e ∈ σi,fpOf (γ e.1) e.2 b then h b else hF b
 have hp1:∀ b,(∃ e ∈ σi,fpOf (γ e.1) e.2 b) → hp b = h b:=fun b e=>if_pos e
 have hp2:∀ b,¬ (∃ e ∈ σi,fpOf (γ e.1) e.2 b) → hp b = hF b:=fun b e=>if_neg e
 have hle:hp.le h:=fun b ob e=>by
  by_cases hb:∃ e ∈ σi,fpOf (γ e.1) e.2 b
  ·rw [hp1 b hb] at e; exact e
  ·rw [hp2 b hb] at e; exact k.le b ob e
 have hFp:hF.le hp:=fun b ob e=>by
  by_cases hb:∃ e ∈ σi,fpOf (γ e.1) e.2 b
  ·rw [hp1 b hb]; exact k.le b ob e
  ·rw [hp2 b hb]; exact e
 have okp:Ok ⟨hF,γ⟩ γ hF hp σi:=by
  refine ⟨Heap.le_refl _,hFp,fun e he=>?_,fun e he b e1=>k.out _ (hl e he) b ((fp1 e he b).1 e1),fun e he e' he' b hne e1 e2=>?_,fun _ _=>rfl,ndi⟩
  ·exact ((renO_ok hγ e.1 e.2).1 (k.ok _ (hl e he))).fr (Heap.le_refl _) (fun b e1=>hp1 b ⟨e,he,e1⟩) rfl (fun _ _ _ _=>rfl)
  ·exact k.sep _ (hl e he) _ (hl e' he') b (inj e he e' he' hne) ((fp1 e he b).1 e1) ((fp1 e' he' b).1 e2)
 refine (SCalls.frame2 (c γ hF hp vs okp (fun b e=>?_) ((renC_rep hγ args vs).1 r)) hle ?_).mono ?_
 ·by_cases hb:∃ e ∈ σi,fpOf (γ e.1) e.2 b
  ·exact .inr hb
  ·rw [hp2 b hb] at e; exact .inl e
 ·rintro r h1 ⟨y,hy,hF',l1,k1,_,_,hdom,_⟩ b e
  by_cases hb:∃ e ∈ σi,fpOf (γ e.1) e.2 b
  ·obtain ⟨e',he',h2⟩:=hb; exact hdom e' he' b h2
  ·rw [hp2 b hb] at e
   cases e1:hF b with
   | none=>exact absurd e1 e
   | some ob=>rw [k1.le b ob (l1 b ob e1)]; simp
 ·rintro v h2 ⟨h1,⟨y,hy,hF',l1,k1,hkeys,hfp,hdom,hres⟩,hl2,hkeep⟩
  have ndo:((σo y).map fun e=>renN ids e.1).Nodup:=by
   have h3:((σo y).map fun e=>renN ids e.1) = ((σo y).map (·.1)).map (renN ids):=by rw [List.map_map]; rfl
   have h4:(σi.map fun e=>renN ids e.1) = (σi.map (·.1)).map (renN ids):=by rw [List.map_map]; rfl
   rw [h3,hkeys,← h4]; exact hnd
  have same1:∀ e ∈ σo y,∀ b,fpOf (γ e.1) e.2 b → h2 b = h1 b:=fun e he b e1=>by
   obtain ⟨ob,h3⟩:=(k1.ok e he).blk e1
   rw [h3]; exact hl2 b ob h3
  have oth:∀ e ∈ σ,(∀ x ∈ σo y,e.1 ≠ renN ids x.1) → ∀ x ∈ σi,e.1 ≠ renN ids x.1:=fun e he hne x hx e1=>by
   have:x.1 ∈ (σo y).map (·.1):=by rw [hkeys]; exact List.mem_map.2 ⟨x,hx,rfl⟩
   obtain ⟨z,hz,h3⟩:=List.mem_map.1 this
   exact hne z hz (by rw [e1,← h3])
  have hb:∀ e ∈ σ,(∀ x ∈ σi,e.1 ≠ renN ids x.1) → ∀ b,fpOf (β e.1) e.2 b → h1 b = none ∧ h2 b = h b:=fun e he hne b e1=>by
   obtain ⟨ob,h3⟩:=(k.ok e he).blk e1
   refine hkeep b ?_ (by rw [h3]; simp)
   have h4:¬ ∃ e ∈ σi,fpOf (γ e.1) e.2 b:=fun ⟨x,hx,h4⟩=>k.sep e he _ (hl x hx) b (hne x hx) e1 ((fp1 x hx b).1 h4)
   rw [hp2 b h4]; exact k.out e he b e1
  have hFn:∀ e ∈ σ,(∀ x ∈ σi,e.1 ≠ renN ids x.1) → ∀ b,fpOf (β e.1) e.2 b → hF' b = none:=fun e he hne b e1=>by
   cases e2:hF' b with
   | none=>rfl
   | some ob=>have:=(hb e he hne b e1).1; rw [k1.le b ob e2] at this; cases this
  have fpo:∀ x ∈ σo y,∀ b,fpOf (β (renN ids x.1)) (renO ids x.2) b → ∀ e ∈ σ,(∀ x ∈ σi,e.1 ≠ renN ids x.1) → ¬ fpOf (β e.1) e.2 b:=fun x hx b e1 e he hne e2=>by
   have e1':fpOf (γ x.1) x.2 b:=by rw [hγ]; exact (renO_fp ids _ _ b).1 e1
   rcases hfp x hx b e1' with ⟨x',hx',h3,h4⟩ | h3
   ·exact k.sep e he _ (hl x' hx') b (hne x' hx') e2 ((fp1 x' hx' b).1 h4)
   ·obtain ⟨ob,h5⟩:=(k1.ok x hx).blk e1'
    rw [(hb e he hne b e2).1] at h5; cases h5
  refine ⟨y,hy,⟨hF',⟨Heap.le_trans k.le0 l1,Heap.le_trans k1.le hl2,fun e he=>?_,fun e he b e1=>?_,fun e he e' he' b hne e1=>?_,k.fix,by rw [setAll_keys]; exact k.nd⟩,l1,.fz hres⟩,fun e he hne b e1=>(hb e he (fun x hx e2=>hne (List.mem_map.2 ⟨x,hx,e2.symm⟩)) b e1).2⟩
  ·rcases setAll_mem k.nd ndo e he with ⟨x,hx,rfl⟩ | ⟨he,hne⟩
   ·exact (renO_ok hγ x.1 x.2).2 ((k1.ok x hx).fr (Heap.le_refl _) (same1 x hx) rfl (fun _ _ _ _=>rfl))
   ·exact (k.ok e he).fr l1 (fun b e1=>(hb e he (oth e he hne) b e1).2) rfl (fun _ _ _ _=>rfl)
  ·rcases setAll_mem k.nd ndo e he with ⟨x,hx,rfl⟩ | ⟨he,hne⟩
   ·exact k1.out x hx b (by rw [hγ]; exact (renO_fp ids _ _ b).1 e1)
   ·exact hFn e he (oth e he hne) b e1
  ·rcases setAll_mem k.nd ndo e he with ⟨x,hx,rfl⟩ | ⟨he,hn1⟩ <;> rcases setAll_mem k.nd ndo e' he' with ⟨x',hx',rfl⟩ | ⟨he',hn2⟩
   ·refine fun e2=>k1.sep x hx x' hx' b (fun e3=>hne (by rw [e3])) ?_ ?_
    ·rw [hγ]; exact (renO_fp ids _ _ b).1 e1
    ·rw [hγ]; exact (renO_fp ids _ _ b).1 e2
   ·exact fpo x hx b e1 e' he' (oth e' he' hn2)
   ·exact fun e2=>fpo x' hx' b e2 e he (oth e he hn1) e1
   ·exact k.sep e he e' he' b hne e1
def targetG (oo:Operand → Option AV):List Operand → Option (List AV)
 | []=>some []
 | x :: r=>match oo x with
  | some .hid=>none
  | some v=>match targetG oo r with
   | some vs=>some (v :: vs)
   | none=>none
  | none=>none
def fname:K → Option (FuncId × List Operand)
 | .call f args _=>some (f,args)
 | _=>none
theorem targetG_ok {T:AT} {L:AL} {σ:AS} (s:Sem h0 β hF h Tc T L σ):∀ {l:List Operand} {xs:List AV},targetG (opd L T []) l = some xs → AReps β hF xs (l.map (ev Tc))
 | [],xs,e=>by cases e; exact ⟨rfl,fun j c v a=>by simp at a⟩
 | x :: l,xs,e=>by
  unfold targetG at e
  split at e
  ·cases e
  ·rename_i v hne hv
   split at e
   ·rename_i vs hvs
    cases e
    have h1:=opd_ok s (ch:=[]) (fun x hx=>by cases hx) hv
    have h2:=targetG_ok s hvs
    refine ⟨by simp [h2.1],fun j c u a b=>?_⟩
    cases j with
    | zero=>cases a; cases b; exact h1
    | succ j=>exact h2.2 j c u (by simpa using a) (by simpa using b)
   ·cases e
  ·cases e
def AConv (xs ys:List AV):Prop:=∀ (β:Nat → Value) (h:Heap) (vs:List Value),AReps β h xs vs → AReps β h ys vs
theorem AConv.refl {xs:List AV}:AConv xs xs:=fun _ _ _ r=>r
theorem AConv.cons {x y:AV} {xs ys:List AV} (a:∀ (β:Nat → Value) (h:Heap) (v:Value),ARep β h x v → ARep β h y v) (b:AConv xs ys):AConv (x :: xs) (y :: ys):=fun β h vs r=>by
 cases vs with
 | nil=>exact absurd r.1 (by simp)
 | cons v vs =>
  have h1:=b β h vs ⟨by simpa using r.1,fun j c u e1 e2=>r.2 (j + 1) c u (by simpa using e1) (by simpa using e2)⟩
  refine ⟨by simp [h1.1],fun j c u e1 e2=>?_⟩
  cases j with
  | zero=>cases e1; cases e2; exact a β h _ (r.2 0 _ _ rfl rfl)
  | succ j=>exact h1.2 j c u (by simpa using e1) (by simpa using e2)
def handed (ids:List Nat) (σ:AS):AS → Prop
 | []=>True
 | e :: r=>lookS σ (renN ids e.1) = some (renO ids e.2) ∧ handed ids σ r
theorem handed_mem {ids:List Nat} {σ:AS}:∀ {l:AS},handed ids σ l → ∀ e ∈ l,(renN ids e.1,renO ids e.2) ∈ σ
 | [],_,e,he=>by cases he
 | x :: r,h,e,he=>by
  rcases List.mem_cons.1 he with rfl | he
  ·exact lookS_mem h.1
  ·exact handed_mem h.2 e he
theorem reg_callG {d:Option Nat} {k:K} {q:Bool} {f:FuncId} {ops':List Operand} {xs args:List AV} {σi:AS} {Y:Type} {Pr:Y → Prop} {σo:Y → AS} {res:Y → FV} (ids:List Nat) (c:GCall P f args σi Y Pr σo res) (en:fname k = some (f,ops')) (e:targetG (opd s.L s.T []) ops' = some xs) (cv:AConv xs (renC ids args)) (hc:okCall P f = true)
  (hl:handed ids s.σ σi) (hnd:(σi.map fun e=>renN ids e.1).Nodup) (hq:(q && (σi.map fun e=>renN ids e.1).any fun i=>s.rs.contains i) = false)
  (r:∀ y,Pr y → Reg P N ops dr h0 Q az ⟨s.T,addL d none (.fz (res y)) s.L,setAll ids s.σ (σo y),if q = true then s.rs else []⟩):Reg P N ops dr h0 Q (⟨d,none,k,q⟩ :: az) s:=by
 have hk:isAct k.op = true:=by cases k <;> first | rfl | (simp only [fname,reduceCtorEq] at en)
 have main:∀ o,Fit P N ops o ⟨d,none,k,q⟩ → ∀ {β:Nat → Value} {hF h:Heap} {Tc:Tm},Sem h0 β hF h Tc s.T s.L s.σ → SOp P o (ev Tc) h (fun v h'=>∃ y,Pr y ∧ AcE h0 β hF (setAll ids s.σ (σo y)) (.fz (res y)) v h' ∧ ∀ e ∈ s.σ,e.1 ∉ (σi.map fun e=>renN ids e.1) → ∀ b,fpOf (β e.1) e.2 b → h' b = h b):=by
  intro o f' β hF h Tc sem
  obtain ⟨fn,h1,h2,h3⟩:=okCall_spec hc
  cases k <;> simp only [fname,reduceCtorEq] at en
  rename_i f0 args0 tys
  cases en
  exact s_call f'.op rfl h1 h2 h3 (by simp) (g_ac sem.ok (handed_mem hl) hnd (cv _ _ _ (targetG_ok sem e)) c)
 cases dr with
 | none=>exact RegN.acsE Pr _ (fun y=>.fz (res y)) hk rfl (fun o f' {β hF h Tc} sem=>(main o f' sem).mono fun v h' ⟨y,h1,h2,_⟩=>⟨y,h1,h2⟩) r
 | some l=>exact RegD.acsE Pr _ (fun y=>.fz (res y)) _ hk rfl hq main (fun y _ e he=>setAll_has he) r
def argG:Nat → List AV → AT
 | _,[]=>[]
 | i,x :: xs=>(i,x) :: argG (i + 1) xs
theorem argG_mem:∀ {xs:List AV} {i:Nat} {e:Nat × AV},e ∈ argG i xs → ∃ j x,xs[j]? = some x ∧ e = (i + j,x)
 | [],i,e,he=>by cases he
 | x :: xs,i,e,he=>by
  rcases List.mem_cons.1 he with rfl | he
  ·exact ⟨0,x,rfl,rfl⟩
  ·obtain ⟨j,y,h1,rfl⟩:=argG_mem he
   exact ⟨j + 1,y,by simpa using h1,by rw [Nat.add_assoc,Nat.add_comm 1 j]⟩
def GR (h0:Gd) (hb:Heap) (σi:AS) (Y:Type) (Pr:Y → Prop) (σo:Y → AS) (res:Y → FV):Value → Heap → Prop:=fun r h'=>∃ y,Pr y ∧ ∃ hF',h0.h.le hF' ∧ Ok ⟨h0.h,h0.fx⟩ h0.fx hF' h' (σo y) ∧ FRep hF' (res y) r
theorem g_enter {f:FuncId} {fn:Func} {c:Code} {args:List AV} {σi:AS} {Y:Type} {Pr:Y → Prop} {σo:Y → AS} {res:Y → FV} (hf:P.funcs[f]? = some fn) (hb:fn.body = some c) (hid:∀ x ∈ σi,1000 ≤ x.1) (hpl:∀ y,Pr y → ∀ e ∈ σo y,∃ e' ∈ σi,e'.1 = e.1 ∧ ∀ v b,fpOf v e.2 b → fpOf v e'.2 b) (hpl2:∀ y,Pr y → ∀ e' ∈ σi,∃ e ∈ σo y,e'.1 = e.1 ∧ ∀ v b,fpOf v e'.2 b → fpOf v e.2 b)
  (hkeys:∀ y,Pr y → (σo y).map (·.1) = σi.map (·.1)) (k:∀ h0,AC P fn.ntmps h0 [c] (retQ P fn (GR h0 h0.h σi Y Pr σo res)) (argG 0 args) σi) (hN:Nat.ble args.length fn.ntmps = true:=by kernel_rfl):GCall P f args σi Y Pr σo res:=fun γ hF h vs ok only r=>by
 refine (s_enter hf hb (by rw [List.size_toArray,r.1]; exact Nat.le_of_ble_eq_true hN) ((k ⟨hF,γ⟩ γ hF h _ ⟨ok,fun e he _=>?_,fun e he=>(by cases he),fun e he=>(by cases he)⟩).mono fun e T h q=>by cases e <;> exact q)).mono ?_
 ·obtain ⟨j,x,h1,rfl⟩:=argG_mem he
  have hj:j < vs.length:=by rw [r.1]; exact (List.getElem?_eq_some_iff.1 h1).1
  have:=r.2 j x _ h1 (List.getElem?_eq_getElem hj)
  simpa [T0,List.getElem?_eq_getElem hj] using this
 ·rintro v h' ⟨y,hy,hF',l,k1,hr⟩
  refine ⟨y,hy,hF',l,k1,hkeys y hy,fun e he b e1=>?_,fun e he b e1=>?_,hr⟩
  ·obtain ⟨e',he',h1,h2⟩:=hpl y hy e he
   exact .inl ⟨e',he',h1,by rw [h1]; exact h2 _ b e1⟩
  ·obtain ⟨e',he',h1,h2⟩:=hpl2 y hy e he
   obtain ⟨ob,h3⟩:=(k1.ok e' he').blk (by rw [← h1]; exact h2 _ b e1)
   rw [h3]; simp
theorem Ok.fx0 {σ:AS} (k:Ok h0 β hF h σ) (hid:∀ x ∈ σ,1000 ≤ x.1) (hc:∀ e ∈ σ,∀ c ∈ e.2.cells,∀ j,c.nm = some j → 1000 ≤ j):Ok ⟨h0.h,h0.fx⟩ h0.fx hF h σ:=by
 have e1:∀ j,1000 ≤ j → h0.fx j = β j:=fun j hj=>(k.fix j hj).symm
 refine ⟨k.le0,k.le,fun e he=>?_,fun e he b h1=>?_,fun e he e' he' b hne h1=>?_,fun _ _=>rfl,k.nd⟩
 ·exact (k.ok e he).fr (Heap.le_refl _) (fun _ _=>rfl) (e1 _ (hid e he)) (fun c hc' j hj=>e1 j (hc e he c hc' j hj))
 ·rw [e1 _ (hid e he)] at h1; exact k.out e he b h1
 ·rw [e1 _ (hid e he)] at h1
  rw [e1 _ (hid e' he')]
  exact k.sep e he e' he' b hne h1
variable {T : AT} {σ : AS} {QE : Exit → Tm → Heap → Prop}
def nm1000:AS → Bool
 | []=>true
 | e :: r=>decide (1000 ≤ e.1) && e.2.cells.all (fun c=>match c.nm with | some j=>decide (1000 ≤ j) | none=>true) && nm1000 r
theorem nm1000_spec:∀ {σ:AS},nm1000 σ = true → (∀ x ∈ σ,1000 ≤ x.1) ∧ ∀ e ∈ σ,∀ c ∈ e.2.cells,∀ j,c.nm = some j → 1000 ≤ j
 | [],_=>⟨fun x hx=>(by cases hx),fun x hx=>(by cases hx)⟩
 | e :: r,h=>by
  simp only [nm1000,Bool.and_eq_true,decide_eq_true_eq] at h
  obtain ⟨h1,h2⟩:=nm1000_spec h.2
  refine ⟨fun x hx=>?_,fun x hx c hc j hj=>?_⟩
  ·rcases List.mem_cons.1 hx with rfl | hx
   ·exact h.1.1
   ·exact h1 x hx
  ·rcases List.mem_cons.1 hx with rfl | hx
   ·have:=List.all_eq_true.1 h.1.2 c hc
    rw [hj] at this
    exact of_decide_eq_true this
   ·exact h2 x hx c hc j hj
def pickS (σ:AS):List Nat → Option AS
 | []=>some []
 | i :: r=>match lookS σ i with
  | some x=>match pickS σ r with
   | some y=>some ((i,x) :: y)
   | none=>none
  | none=>none
theorem pickS_sub {σ:AS}:∀ {l:List Nat} {y:AS},pickS σ l = some y → (∀ e ∈ y,e ∈ σ) ∧ y.map (·.1) = l
 | [],y,h=>by cases h; exact ⟨fun e he=>(by cases he),rfl⟩
 | i :: r,y,h=>by
  unfold pickS at h
  split at h
  ·rename_i x hx
   split at h
   ·rename_i z hz
    cases h
    obtain ⟨h1,h2⟩:=pickS_sub hz
    refine ⟨fun e he=>?_,by simp [h2]⟩
    rcases List.mem_cons.1 he with rfl | he
    ·exact lookS_mem hx
    ·exact h1 e he
   ·cases h
  ·cases h
theorem Ok.subset {σ σ':AS} (k:Ok h0 β hF h σ) (hs:∀ e ∈ σ',e ∈ σ) (nd:(σ'.map (·.1)).Nodup):Ok h0 β hF h σ' :=
 ⟨k.le0,k.le,fun e he=>k.ok e (hs e he),fun e he=>k.out e (hs e he),fun e he e' he'=>k.sep e (hs e he) e' (hs e' he'),k.fix,nd⟩
theorem x_retG {fn:Func} {hb:Heap} {σi:AS} {Y:Type} {Pr:Y → Prop} {σo:Y → AS} {res:Y → FV} {vs:List FV} {σ':AS} (e:Exit) (y:Y) (l:List (ResultVar × Option Nat)) (ks:List Nat) (hks:ks.Nodup) (hy:Pr y) (hq:QE e = retQ P fn (GR h0 hb σi Y Pr σo res) .ret) (hr:fn.results = (l.map (·.1)).toArray) (hl:l.length ≠ 1) (hok:l.all (okR P) = true) (ev:resVs T σ l = some vs)
  (es:pickS σ ks = some σ') (h1000:nm1000 σ' = true) (hσ:σ' = σo y) (hx:∀ h v,FRep h (.tup vs) v → FRep h (res y) v):AX h0 e QE T σ:=fun β hF h Tc sem=>by
 subst hσ
 rw [hq]
 obtain ⟨us,h1,h2⟩:=resVs_ok sem hok ev
 obtain ⟨h3,h4⟩:=pickS_sub es
 obtain ⟨h5,h6⟩:=nm1000_spec h1000
 exact ⟨_,res_many hr (by simpa using hl) h2,y,hy,hF,sem.ok.le0,(sem.ok.subset h3 (by rw [h4]; exact hks)).fx0 h5 h6,hx _ _ (.tup h1.1 h1.2)⟩
end
end Go.Proofs.YtihdpjinaafenaaGreatDoor.Ab

/- Rows of an array; calls with objects, worded with proofs as defaults. -/
namespace Go.Proofs.YtihdpjinaafenaaGreatDoor.Ab
open Go.Proofs.YtihdpjinaafenaaGreatDoor.Sl
structure Enc (α:Type) (sz:Nat) where
 f:α → List FV
 len:∀ x,(f x).length = sz
 one:∀ x,(f x).all FV.one = true
def rw {α:Type} {sz:Nat} (e:Enc α sz) (d:Array α):List (List FV):=d.toList.map e.f
section
variable {α : Type} [Inhabited α] {sz : Nat} {e : Enc α sz} {d : Array α}
omit [Inhabited α] in
theorem rw_length:(rw e d).length = d.size:=by simp [rw]
theorem rw_getD {i:Nat} (h:i < d.size):(rw e d).getD i [] = e.f d[i]!:=by
 simp [rw,List.getD_eq_getElem?_getD,h]
omit [Inhabited α] in
theorem rw_set {i:Nat} {x:α}:(rw e d).set i (e.f x) = rw e (d.setIfInBounds i x):=by
 simp [rw,List.map_set]
theorem rw_swp {i j:Nat} (hi:i < d.size) (hj:j < d.size):((rw e d).set i ((rw e d).getD j [])).set j ((rw e d).getD i []) = rw e (Go.Sort.swp d i j):=by
 rw [rw_getD hi,rw_getD hj,rw_set,rw_set]; rfl
theorem rw_len {i:Nat} (h:i < d.size):((rw e d).getD i []).length = sz:=by rw [rw_getD h]; exact e.len _
theorem rw_one {i:Nat} (h:i < d.size):((rw e d).getD i []).all FV.one = true:=by rw [rw_getD h]; exact e.one _
end
section
variable {P : Program} {N : Nat} {ops : Array Oper} {dr : Option (List Nat)} {h0 : Gd} {Q : Exit → Tm → Heap → Prop} {Qr : Tm → Heap → Prop} {T T' : AT} {σ σ' : AS} {s s' : St} {az rest : List AO} {QE : Exit → Tm → Heap → Prop}
theorem AConv.rfl' {xs:List AV}:AConv xs xs:=fun _ _ _ r=>r
theorem r_callG {d:Option Nat} {k:K} {q:Bool} {f:FuncId} {ops':List Operand} {xs args:List AV} {σi:AS} {Y:Type} {Pr:Y → Prop} {σo:Y → AS} {res:Y → FV} (ids:List Nat) (c:GCall P f args σi Y Pr σo res) {σn:Y → AS} (r:∀ y,Pr y → Reg P N ops dr h0 Qr az ⟨s.T,addL d none (.fz (res y)) s.L,σn y,if q = true then s.rs else []⟩)
  (en:fname k = some (f,ops'):=by rfl) (e:targetG (opd s.L s.T []) ops' = some xs:=by simp only [targetG,run,step1,isA,stepP,stepA,pv,pa,gob,opd,lookV,lookL,lookT,lookS,chain,inCh,addrd,hits,pgT,pgL,addL,pT,pL,pS,pO,pC,pA,ibin,sint,intBin,feq,fc_int,fc_bool,fc_str,fc_slice,fc_ptr,fc_map,fc_nif,fc_nfn,fc_agg,fc_of,fc_L,fc_sl,fc_fp,fc_ifc,fc_fn,fillF,ofzs,ofzp,unfz,rowsP,srcRows_of,srcRows_L,srcRows_os,srcRows_nil,asSl_of,asSl_L,asSl_sl,asSl_nil,setS,okNew,nmT,nmL,nmS,nmC,nmNe,OO.cells,absC,bnd,target,resV,resVs,List.set_cons_zero,List.set_cons_succ,↓reduceIte,reduceCtorEq,Nat.reduceEqDiff,Nat.reduceBEq,Nat.reduceAdd,Nat.reduceMul,Nat.reduceLT,Nat.reduceLeDiff,Nat.reduceSub,Option.map_some,List.map_cons,List.map_nil,List.drop_succ_cons,List.drop_zero,List.drop_nil,List.take_succ_cons,List.take_zero,List.take_nil,List.cons_append,List.nil_append,List.append_nil,List.any_cons,List.any_nil,List.contains_cons,List.contains_nil,List.getElem?_cons_zero,List.getElem?_cons_succ,List.length_cons,List.length_nil,cond_true,cond_false,decide_true,decide_false,Bool.not_true,Bool.not_false,Bool.true_and,Bool.false_and,Bool.and_true,Bool.and_false,Bool.or_true,Bool.true_or,Bool.or_false,Bool.false_or,beq_self_eq_true,Bool.false_eq_true,pick_and,pick_or,Int.toNat_natCast,Int.toNat_zero,true_and,and_true,forall_const,implies_true,Nat.zero_add,Nat.add_zero,and_self, *] <;> exact rfl) (cv:AConv xs (renC ids args):=by exact AConv.rfl') (hc:okCall P f = true:=by kernel_rfl)
  (hl:handed ids s.σ σi:=by simp only [handed,renN,renO,renC,renA,List.getD_cons_zero,List.getD_cons_succ,run,step1,isA,stepP,stepA,pv,pa,gob,opd,lookV,lookL,lookT,lookS,chain,inCh,addrd,hits,pgT,pgL,addL,pT,pL,pS,pO,pC,pA,ibin,sint,intBin,feq,fc_int,fc_bool,fc_str,fc_slice,fc_ptr,fc_map,fc_nif,fc_nfn,fc_agg,fc_of,fc_L,fc_sl,fc_fp,fc_ifc,fc_fn,fillF,ofzs,ofzp,unfz,rowsP,srcRows_of,srcRows_L,srcRows_os,srcRows_nil,asSl_of,asSl_L,asSl_sl,asSl_nil,setS,okNew,nmT,nmL,nmS,nmC,nmNe,OO.cells,absC,bnd,target,resV,resVs,List.set_cons_zero,List.set_cons_succ,↓reduceIte,reduceCtorEq,Nat.reduceEqDiff,Nat.reduceBEq,Nat.reduceAdd,Nat.reduceMul,Nat.reduceLT,Nat.reduceLeDiff,Nat.reduceSub,Option.map_some,List.map_cons,List.map_nil,List.drop_succ_cons,List.drop_zero,List.drop_nil,List.take_succ_cons,List.take_zero,List.take_nil,List.cons_append,List.nil_append,List.append_nil,List.any_cons,List.any_nil,List.contains_cons,List.contains_nil,List.getElem?_cons_zero,List.getElem?_cons_succ,List.length_cons,List.length_nil,cond_true,cond_false,decide_true,decide_false,Bool.not_true,Bool.not_false,Bool.true_and,Bool.false_and,Bool.and_true,Bool.and_false,Bool.or_true,Bool.true_or,Bool.or_false,Bool.false_or,beq_self_eq_true,Bool.false_eq_true,pick_and,pick_or,Int.toNat_natCast,Int.toNat_zero,true_and,and_true,forall_const,implies_true,Nat.zero_add,Nat.add_zero,and_self, *]) (hnd:(σi.map fun e=>renN ids e.1).Nodup:=by simp [renN]) (hq:(q && (σi.map fun e=>renN ids e.1).any fun i=>s.rs.contains i) = false:=by rfl)
  (hσ:∀ y,setAll ids s.σ (σo y) = σn y:=by intro y; simp only [setAll,renN,renO,renC,renA,List.getD_cons_zero,List.getD_cons_succ,run,step1,isA,stepP,stepA,pv,pa,gob,opd,lookV,lookL,lookT,lookS,chain,inCh,addrd,hits,pgT,pgL,addL,pT,pL,pS,pO,pC,pA,ibin,sint,intBin,feq,fc_int,fc_bool,fc_str,fc_slice,fc_ptr,fc_map,fc_nif,fc_nfn,fc_agg,fc_of,fc_L,fc_sl,fc_fp,fc_ifc,fc_fn,fillF,ofzs,ofzp,unfz,rowsP,srcRows_of,srcRows_L,srcRows_os,srcRows_nil,asSl_of,asSl_L,asSl_sl,asSl_nil,setS,okNew,nmT,nmL,nmS,nmC,nmNe,OO.cells,absC,bnd,target,resV,resVs,List.set_cons_zero,List.set_cons_succ,↓reduceIte,reduceCtorEq,Nat.reduceEqDiff,Nat.reduceBEq,Nat.reduceAdd,Nat.reduceMul,Nat.reduceLT,Nat.reduceLeDiff,Nat.reduceSub,Option.map_some,List.map_cons,List.map_nil,List.drop_succ_cons,List.drop_zero,List.drop_nil,List.take_succ_cons,List.take_zero,List.take_nil,List.cons_append,List.nil_append,List.append_nil,List.any_cons,List.any_nil,List.contains_cons,List.contains_nil,List.getElem?_cons_zero,List.getElem?_cons_succ,List.length_cons,List.length_nil,cond_true,cond_false,decide_true,decide_false,Bool.not_true,Bool.not_false,Bool.true_and,Bool.false_and,Bool.and_true,Bool.and_false,Bool.or_true,Bool.true_or,Bool.or_false,Bool.false_or,beq_self_eq_true,Bool.false_eq_true,pick_and,pick_or,Int.toNat_natCast,Int.toNat_zero,true_and,and_true,forall_const,implies_true,Nat.zero_add,Nat.add_zero,and_self, *] <;> exact rfl):Reg P N ops dr h0 Qr (⟨d,none,k,q⟩ :: az) s :=
 reg_callG ids c en e cv hc hl hnd hq fun y hy=>by rw [hσ y]; exact r y hy
theorem y_retG {fn:Func} {hb:Heap} {σi:AS} {Y:Type} {Pr:Y → Prop} {σo:Y → AS} {res:Y → FV} {vs:List FV} {σ':AS} {e:Exit} (l:List (ResultVar × Option Nat)) (y:Y) (ks:List Nat) (hy:Pr y) (hσ:σ' = σo y) (hx:∀ h v,FRep h (.tup vs) v → FRep h (res y) v) (hks:ks.Nodup:=by decide) (he:e = .ret ∨ e = .normal:=by first | exact .inl rfl | exact .inr rfl) (hq:QE e = retQ P fn (GR h0 hb σi Y Pr σo res) .ret:=by rfl) (hr:fn.results = (l.map (·.1)).toArray:=by rfl) (hl:l.length ≠ 1:=by decide) (hok:l.all (okR P) = true:=by kernel_rfl) (ev:resVs T σ l = some vs:=by simp only [run,step1,isA,stepP,stepA,pv,pa,gob,opd,lookV,lookL,lookT,lookS,chain,inCh,addrd,hits,pgT,pgL,addL,pT,pL,pS,pO,pC,pA,ibin,sint,intBin,feq,fc_int,fc_bool,fc_str,fc_slice,fc_ptr,fc_map,fc_nif,fc_nfn,fc_agg,fc_of,fc_L,fc_sl,fc_fp,fc_ifc,fc_fn,fillF,ofzs,ofzp,unfz,rowsP,srcRows_of,srcRows_L,srcRows_os,srcRows_nil,asSl_of,asSl_L,asSl_sl,asSl_nil,setS,okNew,nmT,nmL,nmS,nmC,nmNe,OO.cells,absC,bnd,target,resV,resVs,List.set_cons_zero,List.set_cons_succ,↓reduceIte,reduceCtorEq,Nat.reduceEqDiff,Nat.reduceBEq,Nat.reduceAdd,Nat.reduceMul,Nat.reduceLT,Nat.reduceLeDiff,Nat.reduceSub,Option.map_some,List.map_cons,List.map_nil,List.drop_succ_cons,List.drop_zero,List.drop_nil,List.take_succ_cons,List.take_zero,List.take_nil,List.cons_append,List.nil_append,List.append_nil,List.any_cons,List.any_nil,List.contains_cons,List.contains_nil,List.getElem?_cons_zero,List.getElem?_cons_succ,List.length_cons,List.length_nil,cond_true,cond_false,decide_true,decide_false,Bool.not_true,Bool.not_false,Bool.true_and,Bool.false_and,Bool.and_true,Bool.and_false,Bool.or_true,Bool.true_or,Bool.or_false,Bool.false_or,beq_self_eq_true,Bool.false_eq_true,pick_and,pick_or,Int.toNat_natCast,Int.toNat_zero,true_and,and_true,forall_const,implies_true,Nat.zero_add,Nat.add_zero,and_self, *] <;> exact rfl)
  (es:pickS σ ks = some σ':=by simp only [pickS,run,step1,isA,stepP,stepA,pv,pa,gob,opd,lookV,lookL,lookT,lookS,chain,inCh,addrd,hits,pgT,pgL,addL,pT,pL,pS,pO,pC,pA,ibin,sint,intBin,feq,fc_int,fc_bool,fc_str,fc_slice,fc_ptr,fc_map,fc_nif,fc_nfn,fc_agg,fc_of,fc_L,fc_sl,fc_fp,fc_ifc,fc_fn,fillF,ofzs,ofzp,unfz,rowsP,srcRows_of,srcRows_L,srcRows_os,srcRows_nil,asSl_of,asSl_L,asSl_sl,asSl_nil,setS,okNew,nmT,nmL,nmS,nmC,nmNe,OO.cells,absC,bnd,target,resV,resVs,List.set_cons_zero,List.set_cons_succ,↓reduceIte,reduceCtorEq,Nat.reduceEqDiff,Nat.reduceBEq,Nat.reduceAdd,Nat.reduceMul,Nat.reduceLT,Nat.reduceLeDiff,Nat.reduceSub,Option.map_some,List.map_cons,List.map_nil,List.drop_succ_cons,List.drop_zero,List.drop_nil,List.take_succ_cons,List.take_zero,List.take_nil,List.cons_append,List.nil_append,List.append_nil,List.any_cons,List.any_nil,List.contains_cons,List.contains_nil,List.getElem?_cons_zero,List.getElem?_cons_succ,List.length_cons,List.length_nil,cond_true,cond_false,decide_true,decide_false,Bool.not_true,Bool.not_false,Bool.true_and,Bool.false_and,Bool.and_true,Bool.and_false,Bool.or_true,Bool.true_or,Bool.or_false,Bool.false_or,beq_self_eq_true,Bool.false_eq_true,pick_and,pick_or,Int.toNat_natCast,Int.toNat_zero,true_and,and_true,forall_const,implies_true,Nat.zero_add,Nat.add_zero,and_self, *] <;> exact rfl) (h1000:nm1000 σ' = true:=by rfl):AX h0 e QE T σ:=x_retG e y l ks hks hy hq hr hl hok ev es h1000 hσ hx
theorem g_enter1 {f:FuncId} {fn:Func} {c:Code} {args:List AV} {t:TypeId} {sz:Nat} {rows:List (List FV)} {Y:Type} {Pr:Y → Prop} {ro:Y → List (List FV)} {res:Y → FV} (hf:P.funcs[f]? = some fn) (hb:fn.body = some c)
  (k:∀ h0,AC P fn.ntmps h0 [c] (retQ P fn (GR h0 h0.h [(1000,.rows t sz rows)] Y Pr (fun y=>[(1000,.rows t sz (ro y))]) res)) (argG 0 args) [(1000,.rows t sz rows)]) (hN:Nat.ble args.length fn.ntmps = true:=by kernel_rfl):GCall P f args [(1000,.rows t sz rows)] Y Pr (fun y=>[(1000,.rows t sz (ro y))]) res:=by
 refine g_enter hf hb (fun x hx=>?_) (fun y _ e he=>⟨_,List.mem_singleton.2 rfl,?_,fun v b h=>?_⟩) (fun y _ e he=>⟨_,List.mem_singleton.2 rfl,?_,fun v b h=>?_⟩) (fun _ _=>rfl) k hN
 ·rw [List.mem_singleton.1 hx]; exact Nat.le_refl _
 ·rw [List.mem_singleton.1 he]
 ·rw [List.mem_singleton.1 he] at h; exact h
 ·rw [List.mem_singleton.1 he]
 ·rw [List.mem_singleton.1 he] at h; exact h
end
structure CmpFn (P:Program) {α:Type} {sz:Nat} (e:Enc α sz) (cmp:α → α → Int) where
 f:FuncId
 a:List FV
 b:List FV
 ok:okCall P f = true
 call:∀ x y,PureCall P f (a ++ [.agg (e.f x),.agg (e.f y)] ++ b) (vI (cmp x y))
abbrev CmpFn.fv {P:Program} {α:Type} {sz:Nat} {e:Enc α sz} {cmp:α → α → Int} (c:CmpFn P e cmp):FV:=.fn c.f c.a c.b
theorem CmpFn.at {P:Program} {α:Type} [Inhabited α] {sz:Nat} {e:Enc α sz} {cmp:α → α → Int} (c:CmpFn P e cmp) {d:Array α} (i j:Nat) (hi:i < d.size) (hj:j < d.size):PureCall P c.f (c.a ++ [.agg ((rw e d).getD i []),.agg ((rw e d).getD j [])] ++ c.b) (vI (cmp d[i]! d[j]!)):=by
 rw [rw_getD hi,rw_getD hj]; exact c.call _ _
def ltOf {α:Type} (cmp:α → α → Int):α → α → Bool:=fun x y=>decide (cmp x y < 0)
end Go.Proofs.YtihdpjinaafenaaGreatDoor.Ab

/- The loops of Go.Sort, round by round. -/
namespace Go.Proofs.YtihdpjinaafenaaGreatDoor.Ab
open Go.Sort
section
variable {α : Type} [Inhabited α] {cmp : α → α → Int}
theorem insInner_go {a j:Nat} {d:Array α} (h1:(j:Int) > a) (h2:cmp d[j]! d[j - 1]! < 0):insInner (ltOf cmp) a (j - 1) (swp d j (j - 1)) = insInner (ltOf cmp) a j d:=by
 obtain ⟨k,rfl⟩:∃ k,j = k + 1:=⟨j - 1,by omega⟩
 rw [insInner]
 simp only [Nat.add_sub_cancel] at h2 ⊢
 rw [if_pos (by simp [ltOf,h2]; omega)]
theorem insInner_stop {a j:Nat} {d:Array α} (h:(j:Int) > a → 0 ≤ cmp d[j]! d[j - 1]!):insInner (ltOf cmp) a j d = d:=by
 cases j with
 | zero=>rfl
 | succ k =>
  rw [insInner,if_neg]
  simp only [Nat.add_sub_cancel] at h
  simp [ltOf]
  intro h1
  exact h (by omega)
theorem insOuter_go {a b i:Nat} {d:Array α} (h:i < b):insOuter (ltOf cmp) a b i d = insOuter (ltOf cmp) a b (i + 1) (insInner (ltOf cmp) a i d):=by
 rw [insOuter,if_pos h]
theorem insOuter_end {a b i:Nat} {d:Array α} (h:b ≤ i):insOuter (ltOf cmp) a b i d = d:=by
 rw [insOuter,if_neg (by omega)]
end
end Go.Proofs.YtihdpjinaafenaaGreatDoor.Ab
