import Derived.Test.YtihdpjinaafenaaGreatDoorNb22
import Derived.Test.YtihdpjinaafenaaGreatDoorProg
noncomputable section
/- The table gone through: rules; what else is known of the heap stays. -/
set_option linter.unusedVariables false
set_option linter.unusedSimpArgs false
namespace Go.Proofs.YtihdpjinaafenaaGreatDoor
open Sl Ab
def phX (X:Heap → Prop) (tl:List Value) (p:Nat) (ty:TypeId) (mv:Value) (l:List (Ey ThK)) (cl:Nat) (io:Option (Nat × List Nat)) (v:Value) (h:Heap):Prop :=
 v = .pointer (some ⟨p,0,none⟩) ∧ h p = some (.cells (mv :: tl).toArray ty (0,0)) ∧ MapV thV h mv l cl ∧ (∀ it seen,io = some (it,seen) → ItV h it mv cl seen) ∧ X h
section
variable {p cl : Nat} {ty : TypeId} {mv : Value} {l : List (Ey ThK)} {D : Nat → Prop} {X : Heap → Prop} {tl : List Value}
theorem phX.same {io:Option (Nat × List Nat)} {v:Value} {h h':Heap} (x:phX X tl p ty mv l cl io v h) (hp:h' p = h p) (hm:∀ b,mvB mv b → h' b = h b) (hi:∀ it seen,io = some (it,seen) → h' it = h it) (hx:X h → X h'):phX X tl p ty mv l cl io v h' :=
 ⟨x.1,by rw [hp]; exact x.2.1,x.2.2.1.same hm,fun it seen e=>(x.2.2.2.1 it seen e).same (hi it seen e),hx x.2.2.2.2⟩
variable {N : Nat} {ops : Array Oper} {h0 : Gd} {Qr : Tm → Heap → Prop} {s : St} {az : List AO} {d : Nat} {q : Bool}
theorem oe_base {β:Nat → Value} {hF:Heap} {v:Value} {id p:Nat} (r:ARep β hF (.oe id 1 0 0) v) (hb:β id = .pointer (some ⟨p,0,none⟩)):v = .pointer (some ⟨p,0,none⟩):=by
 cases r with
 | oe h=>rw [hb] at h; simp only [baseOf,Option.some.injEq] at h; rw [h]
theorem r_ldX {t:TypeId} {x:Operand} (hs:isOne Tryz.prog t = true) (hDp:D p) (hDm:∀ b,mvB mv b → D b) (hX:∀ h h':Heap,(∀ b,D b → h' b = h b) → X h → X h') (hσ:lookS s.σ 1000 = some (.ext D (phX X tl p ty mv l cl none))) (hx:opd s.L s.T [] x = some (.oe 1000 1 0 0))
  (r:Reg Tryz.prog N ops none h0 Qr az ⟨s.T,(d,none,.fz (.val mv)) :: s.L,setS s.σ 1000 (.ext D (phX X tl p ty mv l cl none)),if q = true then s.rs else []⟩):Reg Tryz.prog N ops none h0 Qr (⟨some d,none,.ld t x,q⟩ :: az) s:=by
 refine ext_act hσ (Y:=Unit) (fun _=>True) (fun _=>D) (fun _=>phX X tl p ty mv l cl none) (fun _=>.val mv) (fun o ho β hF h Tc sem hΦ dom=>?_) (fun _ _=>r)
 have hv:=oe_base (opd_ok sem (ch:=[]) (fun x hx=>by cases hx) hx) hΦ.1
 exact (r_ld1 ho hs hv hΦ.2.1 rfl).sop ⟨(),trivial,.val _,fun _ _ _ e=>e,fun _ e=>e,fun _ e=>.inl e,dom,fun h'' e=>hΦ.same (e p hDp) (fun b hb=>e b (hDm b hb)) (fun _ _ e=>by cases e) (hX _ _ e)⟩
theorem r_rangeX {t e kt:TypeId} {x:Operand} (ht:Tryz.prog.underlying t = some (.map kt e)) (hDp:D p) (hDm:∀ b,mvB mv b → D b) (hX:∀ h h':Heap,(∀ b,D b → h' b = h b) → X h → X h') (hσ:lookS s.σ 1000 = some (.ext D (phX X tl p ty mv l cl none))) (hx:opd s.L s.T [] x = some (.fz (.val mv)))
  (r:∀ it,¬ D it → Reg Tryz.prog N ops none h0 Qr az ⟨s.T,(d,none,.fz (.val (.pointer (some ⟨it,0,none⟩)))) :: s.L,setS s.σ 1000 (.ext (addB D it) (phX X tl p ty mv l cl (some (it,[])))),if q = true then s.rs else []⟩):Reg Tryz.prog N ops none h0 Qr (⟨some d,none,.other (.range t x),q⟩ :: az) s:=by
 refine ext_act hσ (Y:=Nat) (fun it=>¬ D it) (fun it=>addB D it) (fun it=>phX X tl p ty mv l cl (some (it,[]))) (fun it=>.val (.pointer (some ⟨it,0,none⟩))) (fun o ho β hF h Tc sem hΦ dom=>?_) (fun it hit=>r it hit)
 have hv:=fz_val (opd_ok sem (ch:=[]) (fun x hx=>by cases hx) hx)
 refine s_rangeV ho ht hv hΦ.2.2.1 fun it ob hit hI=>?_
 have hnD:¬ D it:=fun hd=>dom it hd hit
 have hoth:∀ b,D b → h.set it ob b = h b:=fun b hb=>Heap.set_other _ _ fun e=>hnD (by rw [← e]; exact hb)
 refine ⟨it,hnD,.val _,fun b o _ e=>Heap.le_set ob hit b o e,fun b hb=>.inl hb,fun b hb=>hb.imp id fun e=>by rw [e]; exact hit,fun b hb=>?_,fun h'' e=>?_⟩
 ·rcases hb with hb | rfl
  ·rw [hoth b hb]; exact dom b hb
  ·rw [Heap.set_same]; simp
 ·refine ⟨hΦ.1,by rw [e p (.inl hDp),hoth p hDp]; exact hΦ.2.1,hΦ.2.2.1.same fun b hb=>by rw [e b (.inl (hDm b hb)),hoth b (hDm b hb)],fun it' seen e1=>?_,hX _ _ (fun b hb=>by rw [e b (.inl hb),hoth b hb]) hΦ.2.2.2.2⟩
  cases e1
  exact hI.same (e it (.inr rfl))
theorem r_nextX {x:Operand} {it:Nat} {seen:List Nat} (K V:Ey ThK → FV) (hK:∀ e ∈ l,FRep h0.h (K e) (thV e.key) ∧ FRep h0.h (V e) e.val) (hDp:D p) (hDm:∀ b,mvB mv b → D b) (hX:∀ h h':Heap,(∀ b,D b → h' b = h b) → X h → X h') (hnD:¬ D it) (hσ:lookS s.σ 1000 = some (.ext (addB D it) (phX X tl p ty mv l cl (some (it,seen))))) (hx:opd s.L s.T [] x = some (.fz (.val (.pointer (some ⟨it,0,none⟩)))))
  (over:(∀ e ∈ l,e.born ∈ seen) → Reg Tryz.prog N ops none h0 Qr az ⟨s.T,(d,none,.fz (.tup [vB false])) :: s.L,setS s.σ 1000 (.ext (addB D it) (phX X tl p ty mv l cl (some (it,seen)))),if q = true then s.rs else []⟩)
  (step:∀ e ∈ l,e.born ∉ seen → Reg Tryz.prog N ops none h0 Qr az ⟨s.T,(d,none,.fz (.tup [vB true,K e,V e])) :: s.L,setS s.σ 1000 (.ext (addB D it) (phX X tl p ty mv l cl (some (it,seen ++ [e.born])))),if q = true then s.rs else []⟩):Reg Tryz.prog N ops none h0 Qr (⟨some d,none,.other (.next x false),q⟩ :: az) s:=by
 refine ext_act hσ (Y:=Option (Ey ThK)) (fun y=>match y with | none=>∀ e ∈ l,e.born ∈ seen | some e=>e ∈ l ∧ e.born ∉ seen) (fun _=>addB D it) (fun y=>match y with | none=>phX X tl p ty mv l cl (some (it,seen)) | some e=>phX X tl p ty mv l cl (some (it,seen ++ [e.born]))) (fun y=>match y with | none=>.tup [vB false] | some e=>.tup [vB true,K e,V e]) (fun o ho β hF h Tc sem hΦ dom=>?_) (fun y hy=>?_)
 ·have hv:=fz_val (opd_ok sem (ch:=[]) (fun x hx=>by cases hx) hx)
  refine s_nextV ho hv (hΦ.2.2.2.1 it seen rfl) hΦ.2.2.1 (fun hall=>?_) (fun e ob he hs hI=>?_)
  ·have h2:FReps h0.h [vB false] [.bool false]:=.cons (.val _) FReps.nil'
   exact ⟨none,hall,.tup h2.1 h2.2,fun _ _ _ e=>e,fun _ e=>e,fun _ e=>.inl e,dom,fun h'' e=>hΦ.same (e p (.inl hDp)) (fun b hb=>e b (.inl (hDm b hb))) (fun _ _ e1=>by cases e1; exact e it (.inr rfl)) (hX _ _ fun b hb=>e b (.inl hb))⟩
  ·have h2:FReps h0.h [vB true,K e,V e] [.bool true,thV e.key,e.val]:=.cons (.val _) (.cons (hK e he).1 (.cons (hK e he).2 FReps.nil'))
   have hoth:∀ b,b ≠ it → h.set it ob b = h b:=fun b hb=>Heap.set_other _ _ hb
   have hpit:p ≠ it:=fun e=>hnD (by rw [← e]; exact hDp)
   have hmit:∀ b,mvB mv b → b ≠ it:=fun b hb e=>hnD (by rw [← e]; exact hDm b hb)
   refine ⟨some e,⟨he,hs⟩,.tup h2.1 h2.2,fun b o hb e=>by rw [hoth b fun e1=>hb (.inr e1)]; exact e,fun _ e=>e,fun _ e=>.inl e,fun b hb=>?_,fun h'' e1=>?_⟩
   ·by_cases hbi:b = it
    ·rw [hbi,Heap.set_same]; simp
    ·rw [hoth b hbi]; exact dom b hb
   ·refine ⟨hΦ.1,by rw [e1 p (.inl hDp),hoth p hpit]; exact hΦ.2.1,hΦ.2.2.1.same fun b hb=>by rw [e1 b (.inl (hDm b hb)),hoth b (hmit b hb)],fun it' seen' e2=>?_,hX _ _ (fun b hb=>by rw [e1 b (.inl hb),hoth b fun e=>hnD (by rw [← e]; exact hb)]) hΦ.2.2.2.2⟩
    cases e2
    exact hI.same (e1 it (.inr rfl))
 ·cases y with
  | none=>exact over hy
  | some e=>exact step e hy.1 hy.2
theorem r_nextYX {x:Operand} {it:Nat} {seen:List Nat} (K V:Ey ThK → FV) (hK:∀ e ∈ l,FRep h0.h (K e) (thV e.key) ∧ FRep h0.h (V e) e.val) (hDp:D p) (hDm:∀ b,mvB mv b → D b) (hX:∀ h h':Heap,(∀ b,D b → h' b = h b) → X h → X h') (hnD:¬ D it) (hσ:lookS s.σ 1000 = some (.ext (addB D it) (phX X tl p ty mv l cl (some (it,seen))))) (hx:opd s.L s.T [] x = some (.fz (.val (.pointer (some ⟨it,0,none⟩)))))
  (r:∀ y:Option (Ey ThK),(y = none → ∀ e ∈ l,e.born ∈ seen) → (∀ e,y = some e → e ∈ l ∧ e.born ∉ seen) → Reg Tryz.prog N ops none h0 Qr az ⟨s.T,(d,none,.fz (.tup (vB y.isSome :: restOf K V y))) :: s.L,setS s.σ 1000 (.ext (addB D it) (phX X tl p ty mv l cl (some (it,seenOf seen y)))),if q = true then s.rs else []⟩):Reg Tryz.prog N ops none h0 Qr (⟨some d,none,.other (.next x false),q⟩ :: az) s :=
 r_nextX K V hK hDp hDm hX hnD hσ hx (fun h=>r none (fun _=>h) (fun _ e=>by cases e)) (fun e h1 h2=>r (some e) (fun e=>by cases e) (fun e' h=>by cases h; exact ⟨h1,h2⟩))
theorem r_entryX {x:Operand} {it β':Nat} {seen:List Nat} {e:Ey ThK} (K V:FV) (hK:FRep h0.h K (thV e.key)) (hV:FRep h0.h V e.val) (he:e ∈ l) (heb:e.born = β') (hDp:D p) (hDm:∀ b,mvB mv b → D b) (hX:∀ h h':Heap,(∀ b,D b → h' b = h b) → X h → X h') (hσ:lookS s.σ 1000 = some (.ext (addB D it) (phX X tl p ty mv l cl (some (it,seen ++ [β']))))) (hx:opd s.L s.T [] x = some (.fz (.val (.pointer (some ⟨it,0,none⟩)))))
  (r:Reg Tryz.prog N ops none h0 Qr az ⟨s.T,(d,none,.fz (.tup [K,V])) :: s.L,setS s.σ 1000 (.ext (addB D it) (phX X tl p ty mv l cl (some (it,seen ++ [β'])))),if q = true then s.rs else []⟩):Reg Tryz.prog N ops none h0 Qr (⟨some d,none,.other (.entry x),q⟩ :: az) s:=by
 refine ext_act hσ (Y:=Unit) (fun _=>True) (fun _=>addB D it) (fun _=>phX X tl p ty mv l cl (some (it,seen ++ [β']))) (fun _=>.tup [K,V]) (fun o ho β hF h Tc sem hΦ dom=>?_) (fun _ _=>r)
 have hv:=fz_val (opd_ok sem (ch:=[]) (fun x hx=>by cases hx) hx)
 have h2:FReps h0.h [K,V] [thV e.key,e.val]:=.cons hK (.cons hV FReps.nil')
 exact (r_entryV ho hv (hΦ.2.2.2.1 it _ rfl) hΦ.2.2.1 he heb).sop ⟨(),trivial,.tup h2.1 h2.2,fun _ _ _ e=>e,fun _ e=>e,fun _ e=>.inl e,dom,fun h'' e=>hΦ.same (e p (.inl hDp)) (fun b hb=>e b (.inl (hDm b hb))) (fun _ _ e1=>by cases e1; exact e it (.inr rfl)) (hX _ _ fun b hb=>e b (.inl hb))⟩
end
end Go.Proofs.YtihdpjinaafenaaGreatDoor

/- Sorting rivulet/age.Entry: the walks. -/
namespace Go.Proofs.YtihdpjinaafenaaGreatDoor.SortE
open Sl Ab Go.Sort
section
variable {α : Type} [Inhabited α] {e : Enc α 15} {cmp : α → α → Int}
theorem ins_ok (c:CmpFn Tryz.prog e cmp) (d:Array α) (a b:Nat) (hb:b ≤ d.size) (hs:d.size ≤ 1000000000) (ha:a ≤ d.size):GCall Tryz.prog 270 [.os 1000,.fz (vI a),.fz (vI b),.fz c.fv] [(1000,.rows 153 15 (rw e d))] (Array α) (fun d'=>d' = insertionSort (ltOf cmp) d a b) (fun d'=>[(1000,.rows 153 15 (rw e d'))]) (fun _=>.tup []):=by
 refine g_enter1 Tryz.func270 rfl (fun h0=>?_)
 simp only [argG]
 have hR:∀ d:Array α,(rw e d).length = d.size:=fun _=>rw_length
 have hw:IntKind.i64.wrap ((a:Int) + 1) = ((a + 1:Nat):Int):=wrap64_nat _ _ (by omega) (by omega)
 refine a_seq ?_
 refine a_reg [⟨some 10,none,.mv (tm 1),false⟩,⟨some 11,none,.bin .add 3 (tm 10) (ci 1) 3,false⟩,⟨some 8,none,.asg (tm 11),false⟩] kR kR ?_
 refine r_run ?_
 refine r_end [0,1,2,3,8,9,14,34] ?_
 refine a_block ?_
 refine c_weak [0,1,2,3,8] ?_
 refine a_loop (fun m T σ=>∃ (i:Nat) (d1:Array α),m = b - i ∧ a < i ∧ d1.size = d.size ∧ insOuter (ltOf cmp) a b i d1 = insertionSort (ltOf cmp) d a b ∧ T = [(0,.os 1000),(1,.fz (vI a)),(2,.fz (vI b)),(3,.fz c.fv),(8,.fz (vI i))] ∧ σ = [(1000,.rows 153 15 (rw e d1))]) (b - (a + 1)) (⟨a + 1,d,rfl,by omega,rfl,rfl,rfl,rfl⟩) ?_
 rintro m T σ ⟨i,d1,hmi,hi,hs1,heq,rfl,rfl⟩
 refine a_seq ?_
 refine a_seq ?_
 refine a_reg [⟨some 12,none,.mv (tm 8),false⟩,⟨some 13,none,.mv (tm 2),false⟩,⟨some 14,none,.bin .lss 3 (tm 12) (tm 13) 3,false⟩] kR kR ?_
 refine r_run ?_
 refine r_end [0,1,2,3,8,9,14,34] ?_
 refine c_cond (fun hb0=>?_) (fun hb0=>?_)
 ·have hb0':i < b:=by simpa using hb0
  have hwi:IntKind.i64.wrap ((i:Int) + 1) = ((i + 1:Nat):Int):=wrap64_nat _ _ (by omega) (by omega)
  refine a_skip ?_
  refine a_seq ?_
  refine a_block ?_
  refine a_seq ?_
  refine a_reg [⟨some 17,none,.mv (tm 8),false⟩,⟨some 9,none,.asg (tm 17),false⟩] kR kR ?_
  refine r_run ?_
  refine r_end [0,1,2,3,8,9,14,34] ?_
  refine a_block ?_
  refine c_weak [0,1,2,3,8,9] ?_
  refine a_loop (fun m T σ=>∃ (j:Nat) (d2:Array α),m = j ∧ a ≤ j ∧ j ≤ i ∧ d2.size = d.size ∧ insInner (ltOf cmp) a j d2 = insInner (ltOf cmp) a i d1 ∧ T = [(0,.os 1000),(1,.fz (vI a)),(2,.fz (vI b)),(3,.fz c.fv),(8,.fz (vI i)),(9,.fz (vI j))] ∧ σ = [(1000,.rows 153 15 (rw e d2))]) (i) (⟨i,d1,rfl,by omega,by omega,hs1,rfl,rfl,rfl⟩) ?_
  rintro m T σ ⟨j,d2,hmj,hj1,hj2,hs2,heq2,rfl,rfl⟩
  have hwj:IntKind.i64.wrap ((j:Int) - 1) = (j:Int) - 1  :=wrap64_in _ (by omega) (by omega)
  have htj:((j:Int) - 1).toNat = j - 1:=by omega
  refine a_seq ?_
  refine a_seq ?_
  refine a_regd [0,1,2,3,4,5,6,7,8,9,10,11,12,13,14,15,16] [14] [⟨some 18,none,.mv (tm 9),true⟩,⟨some 19,none,.mv (tm 1),true⟩,⟨some 20,none,.bin .gtr 3 (tm 18) (tm 19) 3,true⟩,⟨some 21,none,.mv (tm 20),true⟩,⟨some 22,some (21,true),.mv (tm 3),true⟩,⟨some 23,some (21,true),.mv (tm 0),true⟩,⟨some 24,some (21,true),.mv (tm 9),true⟩,⟨some 25,some (21,true),.ix 151 (tm 23) (tm 24) 153 15,true⟩,⟨some 26,some (21,true),.ldN 153 (tm 25) 15,true⟩,⟨some 27,some (21,true),.mv (tm 0),true⟩,⟨some 28,some (21,true),.mv (tm 9),true⟩,⟨some 29,some (21,true),.bin .sub 3 (tm 28) (ci 1) 3,true⟩,⟨some 30,some (21,true),.ix 151 (tm 27) (tm 29) 153 15,true⟩,⟨some 31,some (21,true),.ldN 153 (tm 30) 15,true⟩,⟨some 32,some (21,true),.callv (tm 22) [(tm 26),(tm 31)] [153,153],false⟩,⟨some 33,some (21,true),.bin .lss 3 (tm 32) (ci 0) 3,true⟩,⟨some 34,none,.pick 21 (tm 33) (.const (Value.bool false)),true⟩] kR kR kR kR kR ?_
  refine r_runO ?_ ?_
  ·(simp only [decide_eq_true_eq]; omega)
  refine r_callg (c.at (d:=d2) j (j - 1) (by omega) (by omega)) (hc:=c.ok) ?_
  refine r_run ?_
  refine r_end [0,1,2,3,8,9,14,34] ?_
  refine c_cond (fun hb1=>?_) (fun hb1=>?_)
  ·simp only [Bool.and_eq_true,decide_eq_true_eq] at hb1
   have hc1:(j:Int) - 1 = ((j - 1:Nat):Int):=by omega
   have hw1:IntKind.i64.wrap ((j - 1:Nat):Int) = ((j - 1:Nat):Int):=wrap64_nat _ _ rfl (by omega)
   refine a_skip ?_
   refine a_seq ?_
   refine a_block ?_
   refine a_regd [0,1,2,3,4,5,6,7,8,9,10,11,12,13,14,15,16,17] [15,17] [⟨some 37,none,.mv (tm 0),true⟩,⟨some 38,none,.mv (tm 9),true⟩,⟨some 39,none,.mv (tm 0),true⟩,⟨some 40,none,.mv (tm 9),true⟩,⟨some 41,none,.bin .sub 3 (tm 40) (ci 1) 3,true⟩,⟨some 42,none,.mv (tm 0),true⟩,⟨some 43,none,.mv (tm 9),true⟩,⟨some 44,none,.bin .sub 3 (tm 43) (ci 1) 3,true⟩,⟨some 45,none,.ix 151 (tm 42) (tm 44) 153 15,true⟩,⟨some 46,none,.ldN 153 (tm 45) 15,true⟩,⟨some 47,none,.mv (tm 0),true⟩,⟨some 48,none,.mv (tm 9),true⟩,⟨some 49,none,.ix 151 (tm 47) (tm 48) 153 15,true⟩,⟨some 50,none,.ldN 153 (tm 49) 15,true⟩,⟨some 51,none,.ix 151 (tm 37) (tm 38) 153 15,true⟩,⟨none,none,.stN 153 (tm 51) (tm 46) 15,false⟩,⟨some 52,none,.ix 151 (tm 39) (tm 41) 153 15,true⟩,⟨none,none,.stN 153 (tm 52) (tm 50) 15,false⟩] kR kR kR kR kR ?_
   refine r_runO ?_ ?_
   ·(repeat' (first | exact rw_len (by omega) | exact rw_one (by omega) | refine ⟨?_,?_⟩ | omega | trivial | (simp only [List.length_set,rw_length]; omega)))
   refine r_end [0,1,2,3,8,9,14,34] ?_
   refine a_nil ?_
   refine x_end ?_
   refine a_reg [⟨some 35,none,.mv (tm 9),false⟩,⟨some 36,none,.bin .sub 3 (tm 35) (ci 1) 3,false⟩,⟨some 9,none,.asg (tm 36),false⟩] kR kR ?_
   refine r_run ?_
   refine r_end [0,1,2,3,8,9,14,34] ?_
   refine a_nil ?_
   refine x_weak [0,1,2,3,8,9] ?_
   exact x_next (j - 1) (by omega) (⟨j - 1,swp d2 j (j - 1),rfl,by omega,by omega,(size_swp _ _ _).trans hs2,(insInner_go hb1.1 hb1.2).trans heq2,rfl,by rw [rw_swp (by omega) (by omega)]⟩)
  ·refine a_exit ?_
   refine x_then ?_
   refine x_here ?_
   refine a_nil ?_
   refine x_end ?_
   refine a_reg [⟨some 15,none,.mv (tm 8),false⟩,⟨some 16,none,.bin .add 3 (tm 15) (ci 1) 3,false⟩,⟨some 8,none,.asg (tm 16),false⟩] kR kR ?_
   refine r_run ?_
   refine r_end [0,1,2,3,8,9,14,34] ?_
   refine a_nil ?_
   refine x_weak [0,1,2,3,8] ?_
   exact x_next (b - (i + 1)) (by omega) (⟨i + 1,d2,rfl,by omega,hs2,by rw [← heq,insOuter_go hb0',← heq2,insInner_stop (by simpa using hb1)],rfl,rfl⟩)
 ·refine a_exit ?_
  refine x_then ?_
  refine x_here ?_
  refine a_nil ?_
  refine y_retG [] (insertionSort (ltOf cmp) d a b) [1000] ?_ ?_ ?_
  ·exact rfl
  ·exact by rw [← heq,insOuter_end (by simpa using hb0)]
  ·exact frep_of rfl
end
end Go.Proofs.YtihdpjinaafenaaGreatDoor.SortE

/- How many bits a number has. -/
namespace Go.Proofs.YtihdpjinaafenaaGreatDoor
open Sl Ab Go.Sort
theorem bitsLen_shift {x k:Nat} (h:2 ^ k ≤ x):bitsLen x = k + bitsLen (x / 2 ^ k):=by
 have e1:k ≤ bitsLen x:=by
  rcases Nat.lt_or_ge (bitsLen x) k with h1 | h1
  ·have h2:=(bitsLen_le_iff x (k - 1)).1 (by omega)
   have h3:2 ^ (k - 1) ≤ 2 ^ k:=Nat.pow_le_pow_right (by omega) (by omega)
   omega
  ·exact h1
 have h2:=lt_two_pow_bitsLen x
 have h3:=lt_two_pow_bitsLen (x / 2 ^ k)
 apply Nat.le_antisymm
 ·rw [bitsLen_le_iff,Nat.pow_add]
  rw [Nat.mul_comm]; exact (Nat.div_lt_iff_lt_mul (Nat.two_pow_pos k)).1 h3
 ·have:bitsLen (x / 2 ^ k) ≤ bitsLen x - k:=by
   rw [bitsLen_le_iff,Nat.div_lt_iff_lt_mul (Nat.two_pow_pos k),← Nat.pow_add,Nat.sub_add_cancel e1]
   exact h2
  omega
def len8:ByteArray:=⟨((List.range 256).map fun n=>UInt8.ofNat (bitsLen n)).toArray⟩
theorem len8_at {s:ByteArray} (hs:s = len8) {j:Nat} (h:j < 256):s[j]? = some (UInt8.ofNat (bitsLen j)):=by
 subst hs
 show len8.data[j]? = _
 simp [len8,h]
theorem bitsLen_le8 {j:Nat} (h:j < 256):bitsLen j ≤ 8:=(bitsLen_le_iff j 8).2 h
theorem len8_toNat {j:Nat} (h:j < 256):(UInt8.ofNat (bitsLen j)).toNat = bitsLen j:=by
 have:=bitsLen_le8 h
 rw [UInt8.toNat_ofNat']; omega
abbrev vQ (n:Int):FV:=.val (.int .u64 n)
theorem wrapU64 (n:Nat) (h:n < 18446744073709551616):IntKind.u64.wrap (n:Int) = (n:Int):=by
 simp [IntKind.wrap,IntKind.bits,IntKind.signed]; omega
theorem wrapU8 (n:Nat) (h:n < 256):IntKind.u8.wrap (n:Int) = (n:Int):=by
 simp [IntKind.wrap,IntKind.bits,IntKind.signed]; omega
theorem len64_ok (x:Nat) (hx:x < 4294967296):PureCall Tryz.prog 211 [vQ x] (vI (bitsLen x)):=by
 refine p_enter Tryz.func211 rfl (fun h0=>?_)
 simp only [argT]
 have h16:(x:Int).fdiv (2 ^ min (16:Int).toNat IntKind.u64.bits) = ((x / 65536:Nat):Int):=by rw [Int.fdiv_eq_ediv_of_nonneg _ (by decide)]; rfl
 refine a_seq ?_
 refine a_reg [⟨some 2,none,.asg (ci 0),false⟩] kR kR ?_
 refine r_run ?_
 refine r_end [0,2,4,8,14] ?_
 refine a_seq ?_
 refine a_seq ?_
 have hlt:¬ ((x:Int) ≥ 4294967296):=by omega
 have hz:((0:Nat):Int) = 0:=rfl
 refine a_reg [⟨some 3,none,.mv (tm 0),false⟩,⟨some 4,none,.bin .geq 320 (tm 3) (.const (Value.int IntKind.u64 4294967296)) 320,false⟩] kR kR ?_
 refine r_run ?_
 refine r_end [0,2,4,8,14] ?_
 refine c_false ?_
 refine a_skip ?_
 refine a_seq ?_
 refine a_seq ?_
 refine a_reg [⟨some 7,none,.mv (tm 0),false⟩,⟨some 8,none,.bin .geq 320 (tm 7) (.const (Value.int IntKind.u64 65536)) 320,false⟩] kR kR ?_
 refine r_run ?_
 refine r_end [0,2,4,8,14] ?_
 refine a_join (fun T σ=>∃ y n:Nat,y < 65536 ∧ n ≤ 16 ∧ n + bitsLen y = bitsLen x ∧ T = [(0,.fz (vQ y)),(2,.fz (vI n))] ∧ σ = []) ?_ ?_
 ·refine c_cond (fun hb1=>?_) (fun hb1=>?_)
  ·simp only [decide_eq_true_eq] at hb1
   have hw1:IntKind.u64.wrap ((x / 65536:Nat):Int) = ((x / 65536:Nat):Int):=wrapU64 _ (by omega)
   have hw2:IntKind.i64.wrap ((0:Int) + 16) = ((16:Nat):Int):=rfl
   refine a_seq ?_
   refine a_reg [⟨some 9,none,.mv (tm 0),false⟩,⟨some 10,none,.bin .shr 320 (tm 9) (.const (Value.int IntKind.u64 16)) 141,false⟩,⟨some 0,none,.asg (tm 10),false⟩] kR kR ?_
   refine r_run ?_
   refine r_end [0,2,4,8,14] ?_
   refine a_reg [⟨some 11,none,.mv (tm 2),false⟩,⟨some 12,none,.bin .add 3 (tm 11) (ci 16) 3,false⟩,⟨some 2,none,.asg (tm 12),false⟩] kR kR ?_
   refine r_run ?_
   refine r_end [0,2,4,8,14] ?_
   refine a_nil ?_
   refine x_weak [0,2] ?_
   exact x_join (⟨x / 65536,16,by omega,by omega,(bitsLen_shift (k:=16) (by omega)).symm,rfl,rfl⟩)
  ·simp only [decide_eq_false_iff_not] at hb1
   refine a_skip ?_
   refine a_nil ?_
   refine x_weak [0,2] ?_
   exact x_join (⟨x,0,by omega,by omega,by omega,rfl,rfl⟩)
 ·rintro T σ ⟨y,n,hy,hn,hb,rfl,rfl⟩
  refine a_seq ?_
  refine a_seq ?_
  refine a_reg [⟨some 13,none,.mv (tm 0),false⟩,⟨some 14,none,.bin .geq 320 (tm 13) (.const (Value.int IntKind.u64 256)) 320,false⟩] kR kR ?_
  refine r_run ?_
  refine r_end [0,2,4,8,14] ?_
  refine a_join (fun T σ=>∃ z p:Nat,z < 256 ∧ p ≤ 24 ∧ p + bitsLen z = bitsLen x ∧ T = [(0,.fz (vQ z)),(2,.fz (vI p))] ∧ σ = []) ?_ ?_
  ·refine c_cond (fun hb2=>?_) (fun hb2=>?_)
   ·simp only [decide_eq_true_eq] at hb2
    have h8:(y:Int).fdiv (2 ^ min (8:Int).toNat IntKind.u64.bits) = ((y / 256:Nat):Int):=by rw [Int.fdiv_eq_ediv_of_nonneg _ (by decide)]; rfl
    have hw1:IntKind.u64.wrap ((y / 256:Nat):Int) = ((y / 256:Nat):Int):=wrapU64 _ (by omega)
    have hw2:IntKind.i64.wrap ((n:Int) + 8) = ((n + 8:Nat):Int):=wrap64_nat _ _ (by omega) (by omega)
    refine a_seq ?_
    refine a_reg [⟨some 15,none,.mv (tm 0),false⟩,⟨some 16,none,.bin .shr 320 (tm 15) (.const (Value.int IntKind.u64 8)) 141,false⟩,⟨some 0,none,.asg (tm 16),false⟩] kR kR ?_
    refine r_run ?_
    refine r_end [0,2,4,8,14] ?_
    refine a_reg [⟨some 17,none,.mv (tm 2),false⟩,⟨some 18,none,.bin .add 3 (tm 17) (ci 8) 3,false⟩,⟨some 2,none,.asg (tm 18),false⟩] kR kR ?_
    refine r_run ?_
    refine r_end [0,2,4,8,14] ?_
    refine a_nil ?_
    refine x_weak [0,2] ?_
    exact x_join (⟨y / 256,n + 8,by omega,by omega,by rw [← hb,bitsLen_shift (x:=y) (k:=8) (by omega),Nat.add_assoc],rfl,rfl⟩)
   ·simp only [decide_eq_false_iff_not] at hb2
    refine a_skip ?_
    refine a_nil ?_
    refine x_weak [0,2] ?_
    exact x_join (⟨y,n,by omega,by omega,hb,rfl,rfl⟩)
  ·rintro T σ ⟨z,p,hz1,hp,hbz,rfl,rfl⟩
   refine a_seq ?_
   have hw1:IntKind.u8.wrap (z:Int) = (z:Int):=wrapU8 _ (by omega)
   have hl8:=bitsLen_le8 hz1
   have hw2:IntKind.i64.wrap (bitsLen z:Int) = (bitsLen z:Int):=wrap64_nat _ _ (by omega) (by omega)
   have hw3:IntKind.i64.wrap ((p:Int) + (bitsLen z:Int)) = (bitsLen x:Int):=wrap64_nat _ _ (by omega) (by omega)
   refine a_reg [⟨some 19,none,.mv (tm 2),false⟩,⟨some 20,none,.mv (tm 0),false⟩,⟨some 21,none,.conv 320 5 (tm 20) .u8,false⟩,⟨some 22,none,.other (Op.index 9 (Operand.const (Value.string len8)) (Operand.tmp 21)),false⟩,⟨some 23,none,.conv 5 3 (tm 22) .i64,false⟩,⟨some 24,none,.bin .add 3 (tm 19) (tm 23) 3,false⟩,⟨some 2,none,.asg (tm 24),false⟩] kR kR ?_
   refine r_run ?_
   refine r_ixs (j:=z) (UInt8.ofNat (bitsLen z)) (len8_at rfl hz1) ?_ Tryz.underlying9
   rw [len8_toNat hz1]
   refine r_run ?_
   refine r_end [0,2,4,8,14] ?_
   refine a_ret ?_
   refine y_ret1 (.tmp 2) (none) ?_
   exact frep_of rfl
theorem blen_ok (x:Nat) (hx:x < 4294967296):PureCall Tryz.prog 128 [vQ x] (vI (bitsLen x)):=by
 refine p_enter Tryz.func128 rfl (fun h0=>?_)
 simp only [argT]
 refine a_seq ?_
 refine a_reg [⟨some 2,none,.asg (ci 0),false⟩] kR kR ?_
 refine r_run ?_
 refine r_end [0,2] ?_
 refine a_seq ?_
 refine c_false ?_
 refine a_skip ?_
 refine a_seq ?_
 refine a_reg [⟨some 6,none,.mv (tm 0),false⟩,⟨some 7,none,.call 211 [(tm 6)] [320],false⟩,⟨some 2,none,.asg (tm 7),false⟩] kR kR ?_
 refine r_run ?_
 refine r_call (len64_ok x hx) ?_
 refine r_run ?_
 refine r_end [0,2] ?_
 refine a_ret ?_
 refine y_ret1 (.tmp 2) (none) ?_
 exact frep_of rfl
end Go.Proofs.YtihdpjinaafenaaGreatDoor

/- Sorting rivulet/age.Entry: few. -/
namespace Go.Proofs.YtihdpjinaafenaaGreatDoor.SortE
open Sl Ab Go.Sort
section
variable {α : Type} [Inhabited α] {e : Enc α 15} {cmp : α → α → Int}
theorem pdqs_ok (c:CmpFn Tryz.prog e cmp) (hS:SWO (ltOf cmp)) (d:Array α) (a b l0:Nat) (hn:b - a ≤ 12) (hab:a ≤ b) (hb:b ≤ d.size) (hs:d.size ≤ 1000000000) :
  GCall Tryz.prog 216 [.os 1000,.fz (vI a),.fz (vI b),.fz (vI l0),.fz c.fv] [(1000,.rows 153 15 (rw e d))] (Array α) (fun d'=>PermIn a b d d' ∧ SortedIn (ltOf cmp) a b d') (fun d'=>[(1000,.rows 153 15 (rw e d'))]) (fun _=>.tup []):=by
 refine g_enter1 Tryz.func216 rfl (fun h0=>?_)
 simp only [argG]
 have hR:∀ d:Array α,(rw e d).length = d.size:=fun _=>rw_length
 have hw1:IntKind.i64.wrap ((b:Int) - (a:Int)) = ((b - a:Nat):Int):=wrap64_nat _ _ (by omega) (by omega)
 refine a_seq ?_
 refine a_reg [⟨some 10,none,.asg (.const (Value.bool true)),false⟩] kR kR ?_
 refine r_run ?_
 refine r_end [0,1,2,3,4,10,11,12,13,14,15,16,17,18,19,20,25,32,39,56,75,80,97,125] ?_
 refine a_seq ?_
 refine a_reg [⟨some 11,none,.asg (.const (Value.bool true)),false⟩] kR kR ?_
 refine r_run ?_
 refine r_end [0,1,2,3,4,10,11,12,13,14,15,16,17,18,19,20,25,32,39,56,75,80,97,125] ?_
 refine a_block ?_
 refine c_weak [0,1,2,3,4,10,11] ?_
 refine a_loop (fun m T σ=>∃ (wb wp:Bool),T = [(0,.os 1000),(1,.fz (vI a)),(2,.fz (vI b)),(3,.fz (vI l0)),(4,.fz c.fv),(10,.fz (vB wb)),(11,.fz (vB wp))] ∧ σ = [(1000,.rows 153 15 (rw e d))]) (0) (⟨true,true,rfl,rfl⟩) ?_
 rintro m T σ ⟨wb,wp,rfl,rfl⟩
 refine a_block ?_
 refine a_seq ?_
 refine a_reg [⟨some 21,none,.mv (tm 2),false⟩,⟨some 22,none,.mv (tm 1),false⟩,⟨some 23,none,.bin .sub 3 (tm 21) (tm 22) 3,false⟩,⟨some 12,none,.asg (tm 23),false⟩] kR kR ?_
 refine r_run ?_
 refine r_end [0,1,2,3,4,10,11,12,13,14,15,16,17,18,19,20,25,32,39,56,75,80,97,125] ?_
 refine a_seq ?_
 refine a_seq ?_
 refine a_reg [⟨some 24,none,.mv (tm 12),false⟩,⟨some 25,none,.bin .leq 3 (tm 24) (ci 12) 3,false⟩] kR kR ?_
 refine r_run ?_
 refine r_end [0,1,2,3,4,10,11,12,13,14,15,16,17,18,19,20,25,32,39,56,75,80,97,125] ?_
 refine c_cond (fun hb0=>?_) (fun hb0=>?_)
 ·refine a_seq ?_
  refine a_reg [⟨some 26,none,.mv (tm 0),false⟩,⟨some 27,none,.mv (tm 1),false⟩,⟨some 28,none,.mv (tm 2),false⟩,⟨some 29,none,.mv (tm 4),false⟩,⟨some 30,none,.call 270 [(tm 26),(tm 27),(tm 28),(tm 29)] [151,3,3,239],false⟩] kR kR ?_
  refine r_run ?_
  refine r_callG [1000] (ins_ok c d a b (by omega) (by omega) (by omega)) (fun d2 hd2=>?_)
  have hI:=insertionSort_holds hS d a b (by omega) (by omega)
  rw [← hd2] at hI
  clear hd2
  refine r_run ?_
  refine r_end [0,1,2,3,4,10,11,12,13,14,15,16,17,18,19,20,25,32,39,56,75,80,97,125] ?_
  refine a_ret ?_
  refine y_retG [] (d2) [1000] ?_ ?_ ?_
  ·exact hI
  ·exact rfl
  ·exact frep_of rfl
 ·simp only [decide_eq_false_iff_not] at hb0; omega
theorem sorts_ok (c:CmpFn Tryz.prog e cmp) (hS:SWO (ltOf cmp)) (d:Array α) (hs:d.size ≤ 12) :
  GCall Tryz.prog 140 [.os 1000,.fz c.fv] [(1000,.rows 153 15 (rw e d))] (Array α) (fun d'=>PermIn 0 d.size d d' ∧ SortedIn (ltOf cmp) 0 d.size d') (fun d'=>[(1000,.rows 153 15 (rw e d'))]) (fun _=>.tup []):=by
 refine g_enter1 Tryz.func140 rfl (fun h0=>?_)
 simp only [argG]
 have hR:∀ d:Array α,(rw e d).length = d.size:=fun _=>rw_length
 have hw:IntKind.u64.wrap (d.size:Int) = (d.size:Int):=wrapU64 _ (by omega)
 refine a_seq ?_
 refine a_reg [⟨some 5,none,.mv (tm 0),false⟩,⟨some 6,none,.len 151 (tm 5) 153,false⟩,⟨some 4,none,.asg (tm 6),false⟩] kR kR ?_
 refine r_run ?_
 refine r_end [0,1,4] ?_
 refine a_reg [⟨some 7,none,.mv (tm 0),false⟩,⟨some 8,none,.mv (tm 4),false⟩,⟨some 9,none,.mv (tm 4),false⟩,⟨some 10,none,.conv 3 141 (tm 9) .u64,false⟩,⟨some 11,none,.call 128 [(tm 10)] [141],false⟩,⟨some 12,none,.mv (tm 1),false⟩,⟨some 13,none,.call 216 [(tm 7),(ci 0),(tm 8),(tm 11),(tm 12)] [151,3,3,3,239],false⟩] kR kR ?_
 refine r_run ?_
 refine r_call (blen_ok d.size (by omega)) ?_
 refine r_run ?_
 refine r_callG [1000] (pdqs_ok c hS d 0 d.size (bitsLen d.size) (by omega) (by omega) (by omega) (by omega)) (fun d2 hd2=>?_)
 refine r_run ?_
 refine r_end [0,1,4] ?_
 refine a_nil ?_
 refine y_retG [] (d2) [1000] ?_ ?_ ?_
 ·exact hd2
 ·exact rfl
 ·exact frep_of rfl
end
end Go.Proofs.YtihdpjinaafenaaGreatDoor.SortE

/- All, told outright: what is handed back is a new slice; messages have no lists. -/
namespace Go.Proofs.YtihdpjinaafenaaGreatDoor
open Sl Ab Go.Sort
def encEx (x:AT):List FV:=[vI x.key.1.1,vI x.key.1.2.1,vU x.key.1.2.2,vU x.key.2.1,vU x.key.2.2,vI x.age,vI x.msg.kind,vU x.msg.frm,vU x.msg.to,vU x.msg.src,vU x.msg.grp,vI x.msg.rank,vI x.msg.cost,vB x.msg.only,.val (.slice none 0 0)]
def encMx (m:MsgA):List FV:=[vI m.kind,vU m.frm,vU m.to,vU m.src,vU m.grp,vI m.rank,vI m.cost,vB m.only,.val (.slice none 0 0)]
def encX:Enc AT 15:=⟨encEx,fun _=>rfl,fun _=>rfl⟩
theorem allcmp_x (x y:AT):PureCall Tryz.prog 141 [.agg (encX.f x),.agg (encX.f y)] (vI (cmpA x y)):=by
 have hE:∀ x:AT,encX.f x = [vI x.key.1.1,vI x.key.1.2.1,vU x.key.1.2.2,vU x.key.2.1,vU x.key.2.2,vI x.age,vI x.msg.kind,vU x.msg.frm,vU x.msg.to,vU x.msg.src,vU x.msg.grp,vI x.msg.rank,vI x.msg.cost,vB x.msg.only,.val (.slice none 0 0)]:=fun _=>rfl
 rw [hE,hE]
 refine p_enter Tryz.func141 rfl (fun h0=>?_)
 simp only [argT]
 refine a_seq ?_
 refine a_reg [⟨some 2,none,.box 153 (tm 0) true,false⟩,⟨some 3,none,.box 153 (tm 1) true,false⟩,⟨some 4,none,.asg (ci 0),false⟩] kR kR ?_
 refine r_run ?_
 refine r_end [0,1,2,3,4] ?_
 refine a_seq ?_
 refine a_reg [⟨some 5,none,.fa 153 (tm 2) 0 0 5,false⟩,⟨some 6,none,.ldN 144 (tm 5) 5,false⟩,⟨some 7,none,.fa 153 (tm 3) 0 0 5,false⟩,⟨some 8,none,.ldN 144 (tm 7) 5,false⟩,⟨some 9,none,.call 142 [(tm 6),(tm 8)] [144,144],false⟩,⟨some 4,none,.asg (tm 9),false⟩] kR kR ?_
 refine r_run ?_
 refine r_call (compare_p x.key y.key) ?_
 refine r_run ?_
 refine r_end [0,1,2,3,4] ?_
 refine a_ret ?_
 refine y_ret1 (.tmp 4) (none) ?_
 exact frep_of rfl
def cmpFx:CmpFn Tryz.prog encX cmpA:=⟨141,[],[],by kernel_rfl,allcmp_x⟩
section
variable {P : Program} {h0 : Gd} {σ : AS} {T : Ab.AT} {QE : Exit → Tm → Heap → Prop}
theorem x_enter {f:FuncId} {fn:Func} {c:Code} {args:List AV} {σi:AS} (R:Gd → Value → Heap → Prop) (hf:P.funcs[f]? = some fn) (hb:fn.body = some c)
  (k:∀ h0,AC P fn.ntmps h0 [c] (retQ P fn (R h0)) (argG 0 args) σi) (hN:Nat.ble args.length fn.ntmps = true:=by kernel_rfl) (γ:Nat → Value) (hF h:Heap) (vs:List Value) (ok:Ok ⟨hF,γ⟩ γ hF h σi) (r:AReps γ hF args vs):SCalls P f vs.toArray h (R ⟨hF,γ⟩):=by
 refine s_enter hf hb (by rw [List.size_toArray,r.1]; exact Nat.le_of_ble_eq_true hN) ((k ⟨hF,γ⟩ γ hF h _ ⟨ok,fun e he _=>?_,fun e he=>(by cases he),fun e he=>(by cases he)⟩).mono fun e T h q=>by cases e <;> exact q)
 obtain ⟨j,x,h1,rfl⟩:=argG_mem he
 have hj:j < vs.length:=by rw [r.1]; exact (List.getElem?_eq_some_iff.1 h1).1
 have:=r.2 j x _ h1 (List.getElem?_eq_getElem hj)
 simpa [T0,List.getElem?_eq_getElem hj] using this
theorem y_retO {fn:Func} {R:Value → Heap → Prop} {t id:Nat} (k:∀ β hF h,Ok h0 β hF h σ → R (β id) h) (hq:QE .ret = retQ P fn R .ret:=by rfl) (hr:fn.results = #[.tmp t]:=by rfl) (ht:lookT T t = some (.os id):=by simp only [run,step1,isA,stepP,stepA,pv,pa,gob,opd,lookV,lookL,lookT,lookS,chain,inCh,addrd,hits,pgT,pgL,addL,pT,pL,pS,pO,pC,pA,ibin,sint,intBin,feq,fc_int,fc_bool,fc_str,fc_slice,fc_ptr,fc_map,fc_nif,fc_nfn,fc_agg,fc_of,fc_L,fc_sl,fc_fp,fc_ifc,fc_fn,fillF,ofzs,ofzp,unfz,rowsP,srcRows_of,srcRows_L,srcRows_os,srcRows_nil,asSl_of,asSl_L,asSl_sl,asSl_nil,setS,okNew,nmT,nmL,nmS,nmC,nmNe,OO.cells,absC,bnd,target,resV,resVs,List.set_cons_zero,List.set_cons_succ,↓reduceIte,reduceCtorEq,Nat.reduceEqDiff,Nat.reduceBEq,Nat.reduceAdd,Nat.reduceMul,Nat.reduceLT,Nat.reduceLeDiff,Nat.reduceSub,Option.map_some,List.map_cons,List.map_nil,List.drop_succ_cons,List.drop_zero,List.drop_nil,List.take_succ_cons,List.take_zero,List.take_nil,List.cons_append,List.nil_append,List.append_nil,List.any_cons,List.any_nil,List.contains_cons,List.contains_nil,List.getElem?_cons_zero,List.getElem?_cons_succ,List.length_cons,List.length_nil,cond_true,cond_false,decide_true,decide_false,Bool.not_true,Bool.not_false,Bool.true_and,Bool.false_and,Bool.and_true,Bool.and_false,Bool.or_true,Bool.true_or,Bool.or_false,Bool.false_or,beq_self_eq_true,Bool.false_eq_true,pick_and,pick_or,Int.toNat_natCast,Int.toNat_zero,true_and,and_true,forall_const,implies_true,Nat.zero_add,Nat.add_zero,and_self, *] <;> exact rfl):AX h0 .ret QE T σ:=fun β hF h Tc sem=>by
 rw [hq]
 have h1:ARep β hF (.os id) (Tc t):=sem.t _ (lookT_mem ht) (fun e he=>by cases he)
 have h2:Tc t = β id:=by
  generalize Tc t = u at h1
  generalize hm:AV.os id = z at h1
  cases h1 <;> cases hm
  rfl
 exact ⟨β id,res_one hr h2,k β hF h sem.ok⟩
end
def AllR (D:Nat → Prop) (Φ:Value → Heap → Prop) (ts:List AT) (kind:Int) (h0:Gd) (r:Value) (h':Heap):Prop:=∃ (l:List AT) (β:Nat → Value) (hF:Heap),AllAns ts kind l ∧ Ok h0 β hF h' [(5,.rows 153 15 (l.map encX.f)),(1000,.ext D Φ)] ∧ r = β 5
theorem encX_rep {h:Heap} (r:Rc) (e:r.sv = .slice none 0 0):FRep h (.agg (encX.f r.t)) (entV r.key r.age r.msg r.sv):=by
 rw [e]
 have h1:FReps h (encX.f r.t) [.int .i64 r.key.1.1,.int .i64 r.key.1.2.1,.int .u32 r.key.1.2.2,.int .u32 r.key.2.1,.int .u32 r.key.2.2,.int .i64 r.age,.int .i64 r.msg.kind,.int .u32 r.msg.frm,.int .u32 r.msg.to,.int .u32 r.msg.src,.int .u32 r.msg.grp,.int .i64 r.msg.rank,.int .i64 r.msg.cost,.bool r.msg.only,.slice none 0 0]:=.cons (.val _) (.cons (.val _) (.cons (.val _) (.cons (.val _) (.cons (.val _) (.cons (.val _) (.cons (.val _) (.cons (.val _) (.cons (.val _) (.cons (.val _) (.cons (.val _) (.cons (.val _) (.cons (.val _) (.cons (.val _) (.cons (.val _) FReps.nil'))))))))))))))
 exact .agg h1.1 h1.2
theorem all1_x (X:Heap → Prop) (tl:List Value) (p:Nat) (ty:TypeId) (mv:Value) (rs:List Rc) (cl:Nat) (D:Nat → Prop) (kind:Int) (hDp:D p) (hDm:∀ b,mvB mv b → D b) (hX:∀ h h':Heap,(∀ b,D b → h' b = h b) → X h → X h') (hno:∀ r ∈ rs,r.sv = .slice none 0 0) (hown:∀ m:MsgA,PureCall Tryz.prog 138 [.agg (encMx m)] (.agg (encMx m))) (nb:(rs.map Rc.born).Nodup) (few:rs.length ≤ 1000000) (few2:((rs.map Rc.t).filter (ofKind kind)).length ≤ 12) :
  ∀ (γ:Nat → Value) (hF h:Heap) (vs:List Value),Ok ⟨hF,γ⟩ γ hF h [(1000,.ext D (phX X tl p ty mv (rs.map Rc.ey) cl none))] → AReps γ hF [.oe 1000 1 0 0,.fz (vI kind)] vs → SCalls Tryz.prog 67 vs.toArray h (AllR D (phX X tl p ty mv (rs.map Rc.ey) cl none) (rs.map Rc.t) kind ⟨hF,γ⟩):=by
 refine x_enter _ Tryz.func67 rfl (fun h0=>?_)
 simp only [argG]
 have hK:∀ e ∈ rs.map Rc.ey,FRep h0.h (.agg (encTh e.key)) (thV e.key) ∧ FRep h0.h (.val e.val) e.val:=fun e he=>⟨by
  have h1:FReps h0.h (encTh e.key) [.int .i64 e.key.1.1,.int .i64 e.key.1.2.1,.int .u32 e.key.1.2.2,.int .u32 e.key.2.1,.int .u32 e.key.2.2]:=.cons (.val _) (.cons (.val _) (.cons (.val _) (.cons (.val _) (.cons (.val _) FReps.nil'))))
  exact .agg h1.1 h1.2,.val _⟩
 have hTh:∀ k:ThK,encTh k = [vI k.1.1,vI k.1.2.1,vU k.1.2.2,vU k.2.1,vU k.2.2]:=fun _=>rfl
 have hEx:∀ x:AT,encX.f x = [vI x.key.1.1,vI x.key.1.2.1,vU x.key.1.2.2,vU x.key.2.1,vU x.key.2.2,vI x.age,vI x.msg.kind,vU x.msg.frm,vU x.msg.to,vU x.msg.src,vU x.msg.grp,vI x.msg.rank,vI x.msg.cost,vB x.msg.only,.val (.slice none 0 0)]:=fun _=>rfl
 have hMx:∀ m:MsgA,encMx m = [vI m.kind,vU m.frm,vU m.to,vU m.src,vU m.grp,vI m.rank,vI m.cost,vB m.only,.val (.slice none 0 0)]:=fun _=>rfl
 have hnN:∀ r ∈ rs,∀ seen:List Nat,seen.Nodup → (∀ b ∈ seen,b ∈ rs.map Rc.born) → r.born ∉ seen → (seen ++ [r.born]).Nodup ∧ (∀ b ∈ seen ++ [r.born],b ∈ rs.map Rc.born) ∧ rs.length - (seen ++ [r.born]).length < rs.length - seen.length:=by
  intro r hr seen hsn hsub hs
  have h1:(seen ++ [r.born]).Nodup:=by
   rw [List.nodup_append]
   exact ⟨hsn,by simp,fun a ha b hb=>by rw [List.mem_singleton.1 hb]; exact fun e=>hs (by rw [← e]; exact ha)⟩
  have h2:∀ b ∈ seen ++ [r.born],b ∈ rs.map Rc.born:=fun b hb=>by
   rcases List.mem_append.1 hb with h | h
   ·exact hsub b h
   ·rw [List.mem_singleton.1 h]; exact List.mem_map.2 ⟨r,hr,rfl⟩
  refine ⟨h1,h2,?_⟩
  have h3:=List.Nodup.length_le_of_subset h1 (fun b hb=>h2 b hb)
  simp at h3 ⊢
  omega
 refine a_seq ?_
 refine a_reg [⟨some 4,none,.asg (.const (Value.slice none 0 0)),false⟩] kR kR ?_
 refine r_run ?_
 refine r_end [0,1,4,5,6,7,12,14,21] ?_
 refine a_seq ?_
 refine a_reg [⟨some 5,none,.asg (.const (Value.slice none 0 0)),false⟩] kR kR ?_
 refine r_run ?_
 refine r_end [0,1,4,5,6,7,12,14,21] ?_
 refine a_seq ?_
 refine a_seq ?_
 refine a_reg [⟨some 8,none,.mv (tm 0),false⟩,⟨some 9,none,.nilc (tm 8),false⟩,⟨some 10,none,.fa 138 (tm 9) 0 0 1,false⟩,⟨some 11,none,.ld 136 (tm 10),false⟩,⟨some 12,none,.other (Op.range 136 (Operand.tmp 11)),false⟩] kR kR ?_
 refine r_run ?_
 refine r_ldX kR hDp hDm hX rfl rfl ?_
 refine r_run ?_
 refine r_rangeX Tryz.underlying136 hDp hDm hX rfl rfl (fun it hit=>?_)
 refine r_run ?_
 refine r_end [0,1,4,5,6,7,12,14,21] ?_
 refine a_nilown 5 5 153 15 rfl rfl ?_
 refine a_block ?_
 refine c_weak [0,1,5,12] ?_
 refine a_loop (fun m T σ=>∃ (seen:List Nat) (out:List AT),m = rs.length - seen.length ∧ seen.Nodup ∧ (∀ b ∈ seen,b ∈ rs.map Rc.born) ∧ out.Perm ((selR kind seen rs).map Rc.t) ∧ T = [(0,.oe 1000 1 0 0),(1,.fz (vI kind)),(5,.os 5),(12,.fz (.val (.pointer (some ⟨it,0,none⟩))))] ∧ σ = [(5,.rows 153 15 (out.map encX.f)),(1000,.ext (addB D it) (phX X tl p ty mv (rs.map Rc.ey) cl (some (it,seen))))]) (rs.length) (⟨[],[],by simp,by simp,by simp,by simp [selR],rfl,rfl⟩) ?_
 rintro m T σ ⟨seen,out,hm,hsn,hsub,hperm,rfl,rfl⟩
 have hol:out.length ≤ 1000000:=by rw [hperm.length_eq,List.length_map]; exact Nat.le_trans (List.length_filter_le _ _) few
 refine a_seq ?_
 refine a_reg [⟨some 13,none,.other (Op.next (Operand.tmp 12) false),false⟩,⟨some 14,none,.ext (tm 13) 0,false⟩] kR kR ?_
 refine r_run ?_
 refine r_nextYX (fun e=>.agg (encTh e.key)) (fun e=>.val e.val) hK hDp hDm hX hit rfl rfl (fun y hy1 hy2=>?_)
 refine r_run ?_
 refine r_end [0,1,4,5,6,7,12,14,21] ?_
 refine a_seq ?_
 refine c_cond (fun hb0=>?_) (fun hb0=>?_)
 ·obtain ⟨e,rfl⟩:=Option.isSome_iff_exists.1 hb0
  obtain ⟨he,hes⟩:=hy2 e rfl
  obtain ⟨r,hr,rfl⟩:=List.mem_map.1 he
  have hent':FRep h0.h (.agg (encX.f r.t)) (entV r.key r.age r.msg r.sv):=encX_rep r (hno r hr)
  refine a_skip ?_
  refine a_block ?_
  refine a_seq ?_
  refine a_reg [⟨some 15,none,.other (Op.entry (Operand.tmp 12)),false⟩,⟨some 16,none,.ext (tm 15) 0,false⟩,⟨some 17,none,.ext (tm 15) 1,false⟩,⟨some 6,none,.alc 144 [.int .i64 0,.int .i64 0,.int .u32 0,.int .u32 0,.int .u32 0] false,false⟩,⟨some 7,none,.alc 153 [.int .i64 0,.int .i64 0,.int .u32 0,.int .u32 0,.int .u32 0,.int .i64 0,.int .i64 0,.int .u32 0,.int .u32 0,.int .u32 0,.int .u32 0,.int .i64 0,.int .i64 0,.bool false,.slice none 0 0] false,false⟩,⟨none,none,.stN 144 (tm 6) (tm 16) 5,false⟩,⟨none,none,.stN 153 (tm 7) (tm 17) 15,false⟩] kR kR ?_
  refine r_run ?_
  refine r_entryX (.agg (encTh r.key)) (.agg (encX.f r.t)) (hK _ he).1 hent' he rfl hDp hDm hX rfl rfl ?_
  refine r_run ?_
  refine r_end [0,1,4,5,6,7,12,14,21] ?_
  refine a_seq ?_
  refine a_reg [⟨some 18,none,.fa 144 (tm 6) 0 0 1,false⟩,⟨some 19,none,.ld 3 (tm 18),false⟩,⟨some 20,none,.mv (tm 1),false⟩,⟨some 21,none,.bin .eql 3 (tm 19) (tm 20) 3,false⟩] kR kR ?_
  refine r_run ?_
  refine r_end [0,1,4,5,6,7,12,14,21] ?_
  refine c_cond (fun hb1=>?_) (fun hb1=>?_)
  ·have hkr:ofKind kind r.t = true:=hb1
   refine a_seq ?_
   refine a_reg [⟨some 22,none,.fa 153 (tm 7) 2 6 9,false⟩,⟨some 23,none,.ldN 50 (tm 22) 9,false⟩,⟨some 24,none,.call 138 [(tm 23)] [50],false⟩,⟨some 25,none,.fa 153 (tm 7) 2 6 9,false⟩,⟨none,none,.stN 50 (tm 25) (tm 24) 9,false⟩] kR kR ?_
   refine r_run ?_
   refine r_call (hown r.msg) ?_
   refine r_run ?_
   refine r_end [0,1,4,5,6,7,12,14,21] ?_
   refine a_reg [⟨some 26,none,.mv (tm 5),false⟩,⟨some 27,none,.ldN 153 (tm 7) 15,false⟩,⟨some 28,none,.bsl 151 1 [(0,(tm 27))] 153 15 true,false⟩,⟨some 29,none,.app 151 151 (tm 26) (tm 28) 153 153 15,false⟩,⟨some 5,none,.asg (tm 29),false⟩] kR kR ?_
   refine r_runO ?_ ?_
   ·((repeat' (first | refine ⟨?_,?_⟩ | trivial)) <;> first | (intro x hx; rw [List.mem_singleton.1 hx]; rfl) | (simp; done) | (simp; omega))
   refine r_end [0,1,4,5,6,7,12,14,21] ?_
   refine a_nil ?_
   refine x_end ?_
   refine a_nil ?_
   refine x_weak [0,1,5,12] ?_
   exact x_next (rs.length - (seen ++ [r.born]).length) (by rw [hm]; exact (hnN r hr seen hsn hsub hes).2.2) (⟨seen ++ [r.born],out ++ [r.t],rfl,(hnN r hr seen hsn hsub hes).1,(hnN r hr seen hsn hsub hes).2.1,by refine .trans ?_ ((selR_step nb hr hes).symm.map Rc.t); rw [if_pos hkr,List.map_append]; exact hperm.append_right _,rfl,by simp only [List.map_append]; rfl⟩)
  ·have hkr:ofKind kind r.t = false:=hb1
   refine a_skip ?_
   refine a_nil ?_
   refine x_end ?_
   refine a_nil ?_
   refine x_weak [0,1,5,12] ?_
   exact x_next (rs.length - (seen ++ [r.born]).length) (by rw [hm]; exact (hnN r hr seen hsn hsub hes).2.2) (⟨seen ++ [r.born],out,rfl,(hnN r hr seen hsn hsub hes).1,(hnN r hr seen hsn hsub hes).2.1,by refine .trans ?_ ((selR_step nb hr hes).symm.map Rc.t); rw [if_neg (by rw [hkr]; decide)]; exact hperm,rfl,rfl⟩)
 ·have hyn:y = none:=by simpa using hb0
  subst hyn
  have hall:=hy1 rfl
  have hrwE:out.map encX.f = rw encX out.toArray:=rfl
  have hp2:out.Perm ((rs.map Rc.t).filter (ofKind kind)):=by rw [selR_all (fun r hr=>hall _ (List.mem_map.2 ⟨r,hr,rfl⟩))] at hperm; rw [List.filter_map]; exact hperm
  refine a_exit ?_
  refine x_then ?_
  refine x_here ?_
  refine a_seq ?_
  refine a_reg [⟨some 30,none,.mv (tm 5),false⟩,⟨some 31,none,.call 140 [(tm 30),(Operand.func 141)] [151,239],false⟩] kR kR ?_
  refine r_run ?_
  refine r_callG [5] (SortE.sorts_ok cmpFx swoA out.toArray (by simp; have:=hp2.length_eq; omega)) (fun d hd=>?_)
  refine r_run ?_
  refine r_end [0,1,4,5,6,7,12,14,21] ?_
  refine a_seq ?_
  refine a_reg [⟨some 32,none,.mv (tm 5),false⟩,⟨some 4,none,.asg (tm 32),false⟩] kR kR ?_
  refine r_run ?_
  refine r_end [0,1,4,5,6,7,12,14,21] ?_
  refine a_shrink (id:=1000) (D:=D) (Φ:=phX X tl p ty mv (rs.map Rc.ey) cl none) rfl (fun b h=>.inl h) (fun β h hp b hb=>by rw [hp.1] at hb; simp only [baseOf,Option.some.injEq] at hb; rw [← hb]; exact hDp) (fun v h hp=>⟨hp.1,hp.2.1,hp.2.2.1,fun _ _ e=>(by cases e),hp.2.2.2.2⟩) (fun v h h' hp e=>hp.same (e p hDp) (fun b hb=>e b (hDm b hb)) (fun _ _ e=>by cases e) (hX _ _ e)) ?_
  simp only [setT,pT,pA,delS,setS,↓reduceIte,Nat.reduceEqDiff,reduceCtorEq,Nat.reduceBEq]
  refine a_ret ?_
  exact y_retO (id:=5) (R:=AllR D (phX X tl p ty mv (rs.map Rc.ey) cl none) (rs.map Rc.t) kind h0) (fun β hF h ok=>⟨d.toList,β,hF,ans_of hp2 hd,ok,rfl⟩)
def rowV (x:AT):List Value:=[.int .i64 x.key.1.1,.int .i64 x.key.1.2.1,.int .u32 x.key.1.2.2,.int .u32 x.key.2.1,.int .u32 x.key.2.2,.int .i64 x.age,.int .i64 x.msg.kind,.int .u32 x.msg.frm,.int .u32 x.msg.to,.int .u32 x.msg.src,.int .u32 x.msg.grp,.int .i64 x.msg.rank,.int .i64 x.msg.cost,.bool x.msg.only,.slice none 0 0]
theorem freps_val {h:Heap}:∀ {us vs:List Value},FReps h (us.map .val) vs → vs = us
 | [],vs,r=>List.length_eq_zero_iff.1 r.1
 | u :: us,vs,r=>by
  obtain ⟨v,ws,rfl,r1,r2⟩:=r.uncons
  cases r1
  rw [freps_val r2]
theorem encX_flat (l:List AT):(l.map encX.f).flatten = ((l.map rowV).flatten).map .val:=by
 induction l with
 | nil=>rfl
 | cons x l ih=>simp only [List.map_cons,List.flatten_cons,List.map_append,ih]; rfl
theorem all_r {h:Heap} {tl:List Value} {p cl:Nat} {ty:TypeId} {mv:Value} {rs:List Rc} (kind:Int) (hp:h p = some (.cells (mv :: tl).toArray ty (0,0))) (hm:MapV thV h mv (rs.map Rc.ey) cl) (hno:∀ r ∈ rs,r.sv = .slice none 0 0) (hown:∀ m:MsgA,PureCall Tryz.prog 138 [.agg (encMx m)] (.agg (encMx m))) (nb:(rs.map Rc.born).Nodup) (few:rs.length ≤ 1000000) (few2:((rs.map Rc.t).filter (ofKind kind)).length ≤ 12) :
  SCalls Tryz.prog 67 #[.pointer (some ⟨p,0,none⟩),.int .i64 kind] h (fun r h'=>h.le h' ∧ ∃ l,AllAns (rs.map Rc.t) kind l ∧ ((l = [] ∧ ∃ a k,r = .slice a 0 k ∧ (a = none → k = 0)) ∨ ∃ b c full,h b = none ∧ h' b = some (.cells full 153 (0,0)) ∧ r = .slice (some ⟨b,0,none⟩) l.length c ∧ l.length ≤ c ∧ c * 15 ≤ full.size ∧ full.toList.take (l.length * 15) = (l.map rowV).flatten)):=by
 have hD:∀ b,mvB mv b → h b ≠ none:=fun b hb=>by
  rcases hm with ⟨rfl,_⟩ | ⟨mb,rfl,him⟩
  ·cases hb
  ·cases hb; rw [him.1]; simp
 have c:=all1_x (fun h'=>∀ b,h b ≠ none → h' b = h b) tl p ty mv rs cl (fun b=>h b ≠ none) kind (by rw [hp]; simp) hD (fun h1 h2 e x b hb=>by rw [e b hb]; exact x b hb) hno hown nb few few2 (fun _=>.pointer (some ⟨p,0,none⟩)) (fun _=>none) h [.pointer (some ⟨p,0,none⟩),.int .i64 kind] ?_ ?_
 ·refine c.mono ?_
  rintro r h' ⟨l,β,hF',ans,ok,rfl⟩
  obtain ⟨_,_,k3⟩:=ok.ok (1000,_) (List.mem_cons_of_mem _ (List.mem_singleton.2 rfl))
  have hX:=(k3 h' (fun _ _=>rfl)).2.2.2.2
  obtain ⟨vs,own,_,_,hvs⟩:=ok.ok (5,_) List.mem_cons_self
  rw [encX_flat] at hvs
  have hvs:=freps_val hvs
  subst hvs
  have hsep:∀ b,baseOf (β 5) = some b → h b = none:=fun b hb=>by
   have:=ok.sep (5,_) List.mem_cons_self (1000,_) (List.mem_cons_of_mem _ (List.mem_singleton.2 rfl)) b (by simp) hb
   exact Classical.byContradiction fun e=>this e
  refine ⟨fun b o e=>by rw [hX b (by rw [e]; simp)]; exact e,l,ans,?_⟩
  simp only [List.length_map] at own
  generalize hr:β 5 = r at own hsep
  generalize hn:l.length = n at own
  generalize hcs:(l.map rowV).flatten = cs at own
  cases own with
  | nil=>exact .inl ⟨List.length_eq_zero_iff.1 hn,none,0,rfl,fun _=>rfl⟩
  | at_ hb hl hnc hcap hc =>
   rename_i b c full
   exact .inr ⟨b,c,full,hsep b rfl,hb,rfl,hnc,hcap,hc⟩
 ·refine ⟨Heap.le_refl _,fun b o e=>(by cases e),fun e he=>?_,fun e he b _=>rfl,fun e he e' he' b hne=>?_,fun _ _=>rfl,by simp⟩
  ·rw [List.mem_singleton.1 he]
   refine ⟨fun b hb=>?_,fun b hb=>hb,fun h' e=>⟨rfl,?_,hm.same (fun b hb=>e b (hD b hb)),fun _ _ e=>(by cases e),fun b hb=>e b hb⟩⟩
   ·simp only [baseOf,Option.some.injEq] at hb
    rw [← hb,hp]; simp
   ·rw [e p (by show h p ≠ none; rw [hp]; simp)]; exact hp
  ·rw [List.mem_singleton.1 he,List.mem_singleton.1 he'] at hne; exact absurd rfl hne
 ·refine ⟨rfl,fun j c v e1 e2=>?_⟩
  match j with
  | 0=>cases e1; cases e2; exact .oe (sz:=1) (i:=0) (off:=0) (b:=p) rfl
  | 1=>cases e1; cases e2; exact .fz (.val _)
  | j + 2=>simp at e1
end Go.Proofs.YtihdpjinaafenaaGreatDoor
