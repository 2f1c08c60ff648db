import Derived.Test.YtihdpjinaafenaaGreatDoorFr21
import Derived.Test.YtihdpjinaafenaaGreatDoorFr22
import Derived.Test.YtihdpjinaafenaaGreatDoorFr23
import Derived.Test.YtihdpjinaafenaaGreatDoorFr24
import Derived.Test.YtihdpjinaafenaaGreatDoorRows
import Derived.Test.YtihdpjinaafenaaGreatDoorProg
import Derived.Stop.LaidErr
import Derived.Lib.LaidTab
import Derived.MakeChecks
import Derived.Test.YtihdpjinaafenaaGreatDoorCards
import Derived.Test.YtihdpjinaafenaaGreatDoorTie
import Derived.LaidMore
import Derived.OpenShut
import Derived.Stop.Joined
import Derived.SevenTiedAt
noncomputable section
/- FindRoots: from the cases to the walk. -/
set_option linter.unusedVariables false
set_option linter.unusedSimpArgs false
set_option maxRecDepth 1000000
namespace Go.Proofs.YtihdpjinaafenaaGreatDoor
open Sl Ce
theorem findRoots_mixed:Tryz.prog.follows .mixedOrders = true:=by kernel_rfl
theorem findRoots_first_ok:SCalls Tryz.prog 28 #[] (fun _=>none) (fun r _=>r = .bool true):=by
 have:=true_of findRoots_mixed (omL_ok (strN_ok)) (tab_fit fun _=>undef) findRoots_first_e (vs:=[]) .nil
 simpa [findRootsFir,pos_nat] using this
def findRootsX (a0:Int) (a1:Int) (g:Nat → Addr):Nat → Value:=fun j=>if j = 0 then .int .i64 a0 else if j = 1 then .int .i64 a1 else .pointer (some (g j))
def findRootsHp (τ:Nat → Nat) (g:Nat → Addr):Heap:=(Heap.set (fun _=>none:Heap) 10 (.cells ([.int .u64 1,.int .u64 10,.int .u64 100,.int .u64 1000,.int .u64 10000,.int .u64 100000,.int .u64 1000000,.int .u64 10000000,.int .u64 100000000,.int .u64 1000000000,.int .u64 10000000000,.int .u64 100000000000,.int .u64 1000000000000,.int .u64 10000000000000,.int .u64 100000000000000,.int .u64 1000000000000000,.int .u64 10000000000000000,.int .u64 100000000000000000,.int .u64 1000000000000000000,.int .u64 10000000000000000000]:List Value).toArray (τ 10) (0,0)))
theorem findRoots_gi (a0:Int) (a1:Int) (τ:Nat → Nat) (g:Nat → Addr):GI (findRootsX a0 a1 g) gs1 (let ξ:=findRootsX a0 a1 g; (Bk.put (⟨fun _=>none,ξ⟩:Bk) i0 ⟨10,20⟩)) (findRootsH τ) i0.succ (findRootsHp τ g) :=
 (GI.arr (vs:=[.int .u64 1,.int .u64 10,.int .u64 100,.int .u64 1000,.int .u64 10000,.int .u64 100000,.int .u64 1000000,.int .u64 10000000,.int .u64 100000000,.int .u64 1000000000,.int .u64 10000000000,.int .u64 100000000000,.int .u64 1000000000000,.int .u64 10000000000000,.int .u64 100000000000000,.int .u64 1000000000000000,.int .u64 10000000000000000,.int .u64 100000000000000000,.int .u64 1000000000000000000,.int .u64 10000000000000000000]) GI.nil (by simp [Heap.set]) rfl (.cons (.i _ _) (.cons (.i _ _) (.cons (.i _ _) (.cons (.i _ _) (.cons (.i _ _) (.cons (.i _ _) (.cons (.i _ _) (.cons (.i _ _) (.cons (.i _ _) (.cons (.i _ _) (.cons (.i _ _) (.cons (.i _ _) (.cons (.i _ _) (.cons (.i _ _) (.cons (.i _ _) (.cons (.i _ _) (.cons (.i _ _) (.cons (.i _ _) (.cons (.i _ _) (.cons (.i _ _) .nil)))))))))))))))))))))
theorem findRoots_of (all:∀ (τ:Nat → Nat) (r0:Nat) (r1:Nat) (r2:Bool),r0 < 4 → r1 < 5 → findRootsAt τ r0 r1 r2 = true) (a0:Int) (a1:Int) (a2:Bool) (τ:Nat → Nat) (g:Nat → Addr):SCalls Tryz.prog 6 #[.int .i64 a0,.int .i64 a1,.bool a2] (findRootsHp τ g) (fun r h'=>r = .bool true ∧ (findRootsHp τ g).le h'):=by
 obtain ⟨r0,h0,h0'⟩:∃ r0:Nat,a0 % ((4:Nat):Int) = r0 ∧ r0 < 4:=by
  have:=Int.emod_nonneg a0 (show ((4:Nat):Int) ≠ 0 by omega)
  have:=Int.emod_lt_of_pos a0 (show 0 < ((4:Nat):Int) by omega)
  exact ⟨(a0 % ((4:Nat):Int)).toNat,by omega,by omega⟩
 obtain ⟨r1,h1,h1'⟩:∃ r1:Nat,a1 % ((5:Nat):Int) = r1 ∧ r1 < 5:=by
  have:=Int.emod_nonneg a1 (show ((5:Nat):Int) ≠ 0 by omega)
  have:=Int.emod_lt_of_pos a1 (show 0 < ((5:Nat):Int) by omega)
  exact ⟨(a1 % ((5:Nat):Int)).toNat,by omega,by omega⟩
 let ai:Nat → Int:=fun j=>if j = 0 then a0 else a1
 have hω:OmOk (knG gl1 (findRootsX a0 a1 g)) (omX findRootsNum [findRootsFir] [(0,4,r0),(1,5,r1)] strN):=by
  refine omG_ok ai (fun j b r hm=>?_) (fun j b r hm=>?_) (by rw [show findRootsNum.nat - 1 = 13 from by simp [findRootsNum,pos_nat]]; kernel_rfl) (fun n b h hb hb'=>?_) (fun f hf=>?_) (strN_ok)
  ·simp only [List.mem_cons,Prod.mk.injEq,List.not_mem_nil,or_false] at hm
   rcases hm with ⟨rfl,rfl,rfl⟩ | ⟨rfl,rfl,rfl⟩ <;> rfl
  ·simp only [List.mem_cons,Prod.mk.injEq,List.not_mem_nil,or_false] at hm
   rcases hm with ⟨rfl,rfl,rfl⟩ | ⟨rfl,rfl,rfl⟩
   ·exact ⟨h0,by omega,by omega⟩
   ·exact ⟨h1,by omega,by omega⟩
  ·rw [show findRootsNum.nat - 1 = 13 from by simp [findRootsNum,pos_nat]]
   exact number_ok n b hb hb' h
  ·simp only [List.mem_singleton] at hf
   subst hf
   rw [show findRootsFir.nat - 1 = 28 from by simp [findRootsFir,pos_nat]]
   exact ⟨by kernel_rfl,findRoots_first_ok⟩
 have:=true_ofG findRoots_mixed hω (tabG_fit _) (findRoots_gi a0 a1 τ g) (all τ r0 r1 a2 h0' h1') gl1_eq (vs:=[.int .i64 a0,.int .i64 a1,.bool a2]) (.cons (.xi (β:=⟨fun _=>none,findRootsX a0 a1 g⟩) 0 rfl) (.cons (.xi (β:=⟨fun _=>none,findRootsX a0 a1 g⟩) 1 rfl) (.cons (.b a2) .nil)))
 simpa [pos_nat] using this
end Go.Proofs.YtihdpjinaafenaaGreatDoor

/- FindRoots: every case, evaluated. -/
namespace Go.Proofs.YtihdpjinaafenaaGreatDoor
open Sl Ce
theorem findRoots_all (τ:Nat → Nat):∀ (r0:Nat) (r1:Nat) (r2:Bool),r0 < 4 → r1 < 5 → findRootsAt τ r0 r1 r2 = true
 | 0,0,false,_,_=>(findRoots_band (cbFindRoots_0 τ)).1
 | 0,0,true,_,_=>(findRoots_band (findRoots_band (cbFindRoots_0 τ)).2).1
 | 0,1,false,_,_=>(findRoots_band (findRoots_band (findRoots_band (cbFindRoots_0 τ)).2).2).1
 | 0,1,true,_,_=>(findRoots_band (findRoots_band (findRoots_band (findRoots_band (cbFindRoots_0 τ)).2).2).2).1
 | 0,2,false,_,_=>(findRoots_band (findRoots_band (findRoots_band (findRoots_band (cbFindRoots_0 τ)).2).2).2).2
 | 0,2,true,_,_=>(findRoots_band (cbFindRoots_1 τ)).1
 | 0,3,false,_,_=>(findRoots_band (findRoots_band (cbFindRoots_1 τ)).2).1
 | 0,3,true,_,_=>(findRoots_band (findRoots_band (findRoots_band (cbFindRoots_1 τ)).2).2).1
 | 0,4,false,_,_=>(findRoots_band (findRoots_band (findRoots_band (findRoots_band (cbFindRoots_1 τ)).2).2).2).1
 | 0,4,true,_,_=>(findRoots_band (findRoots_band (findRoots_band (findRoots_band (cbFindRoots_1 τ)).2).2).2).2
 | 1,0,false,_,_=>(findRoots_band (cbFindRoots_2 τ)).1
 | 1,0,true,_,_=>(findRoots_band (findRoots_band (cbFindRoots_2 τ)).2).1
 | 1,1,false,_,_=>(findRoots_band (findRoots_band (findRoots_band (cbFindRoots_2 τ)).2).2).1
 | 1,1,true,_,_=>(findRoots_band (findRoots_band (findRoots_band (findRoots_band (cbFindRoots_2 τ)).2).2).2).1
 | 1,2,false,_,_=>(findRoots_band (findRoots_band (findRoots_band (findRoots_band (cbFindRoots_2 τ)).2).2).2).2
 | 1,2,true,_,_=>(findRoots_band (cbFindRoots_3 τ)).1
 | 1,3,false,_,_=>(findRoots_band (findRoots_band (cbFindRoots_3 τ)).2).1
 | 1,3,true,_,_=>(findRoots_band (findRoots_band (findRoots_band (cbFindRoots_3 τ)).2).2).1
 | 1,4,false,_,_=>(findRoots_band (findRoots_band (findRoots_band (findRoots_band (cbFindRoots_3 τ)).2).2).2).1
 | 1,4,true,_,_=>(findRoots_band (findRoots_band (findRoots_band (findRoots_band (cbFindRoots_3 τ)).2).2).2).2
 | 2,0,false,_,_=>(findRoots_band (cbFindRoots_4 τ)).1
 | 2,0,true,_,_=>(findRoots_band (findRoots_band (cbFindRoots_4 τ)).2).1
 | 2,1,false,_,_=>(findRoots_band (findRoots_band (findRoots_band (cbFindRoots_4 τ)).2).2).1
 | 2,1,true,_,_=>(findRoots_band (findRoots_band (findRoots_band (findRoots_band (cbFindRoots_4 τ)).2).2).2).1
 | 2,2,false,_,_=>(findRoots_band (findRoots_band (findRoots_band (findRoots_band (cbFindRoots_4 τ)).2).2).2).2
 | 2,2,true,_,_=>(findRoots_band (cbFindRoots_5 τ)).1
 | 2,3,false,_,_=>(findRoots_band (findRoots_band (cbFindRoots_5 τ)).2).1
 | 2,3,true,_,_=>(findRoots_band (findRoots_band (findRoots_band (cbFindRoots_5 τ)).2).2).1
 | 2,4,false,_,_=>(findRoots_band (findRoots_band (findRoots_band (findRoots_band (cbFindRoots_5 τ)).2).2).2).1
 | 2,4,true,_,_=>(findRoots_band (findRoots_band (findRoots_band (findRoots_band (cbFindRoots_5 τ)).2).2).2).2
 | 3,0,false,_,_=>(findRoots_band (cbFindRoots_6 τ)).1
 | 3,0,true,_,_=>(findRoots_band (findRoots_band (cbFindRoots_6 τ)).2).1
 | 3,1,false,_,_=>(findRoots_band (findRoots_band (findRoots_band (cbFindRoots_6 τ)).2).2).1
 | 3,1,true,_,_=>(findRoots_band (findRoots_band (findRoots_band (findRoots_band (cbFindRoots_6 τ)).2).2).2).1
 | 3,2,false,_,_=>(findRoots_band (findRoots_band (findRoots_band (findRoots_band (cbFindRoots_6 τ)).2).2).2).2
 | 3,2,true,_,_=>(findRoots_band (cbFindRoots_7 τ)).1
 | 3,3,false,_,_=>(findRoots_band (findRoots_band (cbFindRoots_7 τ)).2).1
 | 3,3,true,_,_=>(findRoots_band (findRoots_band (findRoots_band (cbFindRoots_7 τ)).2).2).1
 | 3,4,false,_,_=>(findRoots_band (findRoots_band (findRoots_band (findRoots_band (cbFindRoots_7 τ)).2).2).2).1
 | 3,4,true,_,_=>(findRoots_band (findRoots_band (findRoots_band (findRoots_band (cbFindRoots_7 τ)).2).2).2).2
 | _ + 4,_,_,h,_=>by omega
 | 0,_ + 5,_,_,h=>by omega
 | 1,_ + 5,_,_,h=>by omega
 | 2,_ + 5,_,_,h=>by omega
 | 3,_ + 5,_,_,h=>by omega
theorem findRoots_ok (a0:Int) (a1:Int) (a2:Bool) (τ:Nat → Nat) (g:Nat → Addr):SCalls Tryz.prog 6 #[.int .i64 a0,.int .i64 a1,.bool a2] (findRootsHp τ g) (fun r h'=>r = .bool true ∧ (findRootsHp τ g).le h'):=findRoots_of findRoots_all a0 a1 a2 τ g
end Go.Proofs.YtihdpjinaafenaaGreatDoor

/- Package variables: what a row's premise says of them: errors of errors.New; tables of numbers. -/
set_option maxRecDepth 100000
namespace Go.Proofs.YtihdpjinaafenaaGreatDoor
open Sl
open Go.ChangeShapes Go.RowKit
theorem rel_set {h:Heap} {W:World} {g:Nat} {o:Obj} (r:Rel h W) (e:W.heap[g]? = some o):Rel (h.set g o) W:=fun b o' e'=>by
 by_cases hb:b = g
 ·subst hb; rw [Heap.set_same] at e'; cases e'; exact e
 ·rw [Heap.set_other _ _ hb] at e'; exact r b o' e'
theorem tab_glob {nm:String} {k:IntKind} {zs:List Int} {r:List (String × DataW Unit)} {W:World} {g n:Nat} {t e:TypeId} (h:laidMet Tryz.prog ((nm,.agg (zs.map fun z=>.lit (.int k z))) :: r) W) (hg:Tryz.prog.globalNamed nm = some g) (ht:(Tryz.prog.globals[g]?).map (·.type) = some t)
  (hu:Tryz.prog.underlying t = some (.array n e)) (he:Tryz.prog.underlying e = some (.int k)) (hce:Tryz.prog.cellsOf e = 1) (hct:Tryz.prog.cellsOf t = n) (h0:zs ≠ []:=by decide) :
  ∃ t':Nat,W.heap[g]? = some (.cells (zs.map fun z=>Value.int k z).toArray t' (0,0)):=by
 obtain ⟨ps,⟨g0,t0,cs0,f0,p0,q0,hg0,ht0,hv0,hd0,_,e0⟩,_,hrows⟩:=h
 obtain rfl:=Option.some.inj (hg.symm.trans hg0)
 obtain rfl:=Option.some.inj (ht.symm.trans ht0)
 subst e0
 have hcs:=Go.Lib.cells_of_tab hu he hce hct hd0
 have hpos:0 < cs0.size:=by
  rw [← Array.length_toList,hcs,List.length_map]
  exact List.length_pos_iff.2 h0
 obtain ⟨⟨c,t',hb⟩,_⟩:=hrows g 0 (List.mem_append_left _ (List.mem_append_left _ (by simp only [MemPlace.row,List.mem_map,List.mem_range]; exact ⟨0,hpos,rfl⟩)))
 refine ⟨t',?_⟩
 unfold World.var? at hv0
 simp only [hg,Option.bind_some,hb,Option.some.injEq] at hv0
 rw [hb,hv0,← hcs]
end Go.Proofs.YtihdpjinaafenaaGreatDoor

/- FindRoots: what the row says of the package variables, as a heap. -/
set_option maxRecDepth 1000000
namespace Go.Proofs.YtihdpjinaafenaaGreatDoor
open Sl Ce
open Go.ChangeShapes Go.RowKit
theorem findRoots_rel {W:World} (h:laidMetH Tryz.prog Rows.findRootsRow.laid W):∃ (τ:Nat → Nat) (g:Nat → Addr),Rel (findRootsHp τ g) W:=by
 rw [MakeChecks.laidMetH_plain _ _ _ kR] at h
 obtain ⟨t0,e0⟩:=tab_glob (g:=10) (zs:=[1,10,100,1000,10000,100000,1000000,10000000,100000000,1000000000,10000000000,100000000000,1000000000000,10000000000000,100000000000000,1000000000000000,10000000000000000,100000000000000000,1000000000000000000,10000000000000000000]) (k:=.u64) (t:=419) (e:=320) h.tail.tail kR kR Tryz.underlying419 Tryz.underlying320 kR kR
 exact ⟨fun j=>t0,fun _=>⟨0,0,none⟩,(rel_set (fun b o e=>by cases e) e0)⟩
end Go.Proofs.YtihdpjinaafenaaGreatDoor

/- FindRoots: in each case the call says true; the tied card. The conditions: none beyond the card's own. -/
namespace Go.Proofs.YtihdpjinaafenaaGreatDoor.findRoots
open Go.ChangeShapes Go.WideShapes Go.ChangeAt Go.RowKit Go.Proofs.YtihdpjinaafenaaGreatDoor.Sl Go.Proofs.YtihdpjinaafenaaGreatDoor.Ce
theorem own:ownKnob Tryz.prog.godebug = none:=by kernel_rfl
set_option maxRecDepth 100000 in
theorem door_met (os:Os) (args:Array Value):laidMetH Tryz.prog Rows.findRootsRow.laid ((World.doorLaid Tryz.prog 214 os).forCall (fun _ _=>0) ⟨#[],args,[]⟩).memory :=
 laidMetH_of_parts3 (fuel:=8) (laidMet_of_run' 8 kR kR) kR kR
theorem walk (a0:Int) (a1:Int) (a2:Bool) {W:World} (h:laidMetH Tryz.prog Rows.findRootsRow.laid W):Calls Tryz.prog 6 #[.int .i64 a0,.int .i64 a1,.bool a2] W fun e w'=>e = .returned (.bool true) ∧ Below W.heap.size W w':=by
 obtain ⟨τ,g,rel⟩:=findRoots_rel h
 exact calls_trueG (findRoots_ok a0 a1 a2 τ g) W rel
set_option maxRecDepth 100000 in
theorem lifted (os:Os) (started:os.Started) (H:Type) (enc:TypeId × Value → H) :
  ReturnsInHanded {} Tryz.checked os 6 .any (fun w args=>(Rows.findRootsSpec.pre enc Tryz.prog Tryz.f6 [] false w args ∧ laidMetH Tryz.prog Rows.findRootsRow.laid w) ∧ sizedMet enc Tryz.prog Tryz.f6 (OpenSpec.ofChange Rows.findRootsSpec) false w args)
   (Rows.findRootsSpec.post enc Tryz.prog Tryz.f6 false true false false):=by
 refine returnsInHanded_of_change_and (C:=Tryz.checked) (X:=fun w _=>laidMetH Tryz.prog Rows.findRootsRow.laid w) (fun _ _ _ hh h=>h.of_heap hh) own started kR Tryz.func6
  (ChangeSpec.witness_shaped (enc:=enc) (C:=Tryz.checked) (os:=os) (X:=fun w _=>laidMetH Tryz.prog Rows.findRootsRow.laid w) false (World.doorLaid Tryz.prog 214 os) #[.int .i64 0,.int .i64 0,.bool false] 8 rfl (World.shaped_of_RefB kR kR) kR kR kR (door_met os _)) ?_
 intro W base args ds gs before hval0 hW _ _ hL _
 have hval:∀ (j:Nat) t v,Tryz.f6.params[j]? = some t → args[j]? = some v → Value.okWide Tryz.prog W .any base t v:=hval0
 have hW':=hW
 obtain ⟨p,q,hA0,hV,rfl,hfz,hnd⟩:=hW
 have hA:DataW.TrodAll enc Tryz.prog W 0 (fun _=>true) true Tryz.f6.params.toList args.toList ds p:=hA0
 rw [Tryz.params6] at hA hval
 obtain ⟨v0,vs0,d0,ds0,p0,q0,hargs,rfl,rfl,h0,r0⟩:=trodAll_cons hA
 obtain ⟨v1,vs1,d1,ds1,p1,q1,rfl,rfl,rfl,h1,r1⟩:=trodAll_cons r0
 obtain ⟨v2,vs2,d2,ds2,p2,q2,rfl,rfl,rfl,h2,r2⟩:=trodAll_cons r1
 obtain ⟨rfl,rfl,rfl⟩:=trodAll_nil r2
 obtain rfl:args = #[v0,v1,v2]:=by cases args; simp_all
 obtain ⟨rfl,rfl⟩:=trodVars_none hV
 obtain ⟨a0,rfl,rfl,rfl,w0⟩:=open_int Tryz.underlying3 (hval 0 3 v0 rfl rfl) h0
 obtain ⟨a1,rfl,rfl,rfl,w1⟩:=open_int Tryz.underlying3 (hval 1 3 v1 rfl rfl) h1
 obtain ⟨a2,rfl,rfl,rfl⟩:=open_bool Tryz.underlying4 (hval 2 4 v2 rfl rfl) h2
 clear hA0 hval0
 refine (walk a0 a1 a2 hL).mono fun e W2 ⟨he,hb⟩=>?_
 subst he
 exact ⟨_,rfl,law_post (tb:=4) kR kR rfl rfl Tryz.underlying4 rfl hW' hb⟩
set_option maxRecDepth 100000 in
theorem jf1:(Rows.findRootsRow.inPlace == Tryz.prog.inPlace 6) = true:=by kernel_rfl
set_option maxRecDepth 100000 in
theorem jf2:(Rows.findRootsRow.unfollowed == Tryz.prog.unfollowed 6) = true:=by kernel_rfl
set_option maxRecDepth 100000 in
theorem jf3:(Rows.findRootsRow.recurses == Tryz.prog.recurses 6) = true:=by kernel_rfl
set_option maxRecDepth 100000 in
theorem jf4:(Rows.findRootsRow.named == Tryz.prog.varsNamed 6) = true:=by kernel_rfl
set_option maxRecDepth 100000 in
theorem closed:joinedFacts Tryz.prog 6 Tryz.f6 Rows.findRootsSpec Rows.findRootsRow = true:=by
 unfold joinedFacts
 rw [jf1,jf2,jf3,jf4]
 kernel_rfl
set_option maxRecDepth 100000 in
theorem inst:Tryz.f6.isInstance Tryz.prog Rows.findRootsRow.origin Rows.findRootsRow.targs:=of_decide_eq_true kR
set_option maxRecDepth 100000 in
theorem wrap:Tryz.f6.isWrapper Tryz.prog Rows.findRootsRow.wrapper Rows.findRootsRow.mainSum:=by
 unfold Func.isWrapper
 first | (rw [if_pos (by decide +kernel)]; kernel_rfl) | (rw [if_neg (by decide +kernel)]; exact ⟨rfl,rfl⟩)
set_option maxRecDepth 100000 in
theorem over:Rows.FindRootsSaid :=
 OpenClaim.holds_of_wide 6 Tryz.f6 rfl rfl rfl rfl rfl rfl rfl ⟨rfl,rfl,rfl,rfl,rfl⟩ rfl rfl rfl rfl rfl kR Tryz.func6 closed inst wrap
  (fun os started H enc _=>lifted os started H enc)
set_option maxRecDepth 100000 in
theorem q_wf:(Rows.findRootsRow).wfByText (OpenSpec.ofChange Rows.findRootsSpec) = true:=by kernel_rfl
set_option maxRecDepth 100000 in
theorem q_main:Tryz.prog.mainIs = some (Rows.findRootsCard.stood.harness.fst,Rows.findRootsCard.stood.harness.snd.toList):=by kernel_rfl
set_option maxRecDepth 100000 in
theorem q_looks:false = Tryz.prog.looks []:=by kernel_rfl
set_option maxRecDepth 100000 in
theorem q_goes:false = Rows.findRootsRow.goesBy Tryz.prog:=by kernel_rfl
set_option maxRecDepth 100000 in
theorem q_named : Tryz.prog.funcNamed "rivulet/rivuletlaw22.FindRoots" = some 6 := by kernel_rfl
set_option maxRecDepth 100000 in
theorem proved:Rows.FindRootsCardSaid :=
 Claim7.holds_tied_plain_at .later [] Rows.findRootsCard.laidKinds true Rows.findRootsCard.stood.harness false
  over (fun _ h=>by cases h) q_wf (fun _ h=>by cases h) findRoots_row_tie rfl ⟨rfl,rfl⟩ q_main rfl
  (fun f fn hf hfn=>by
   obtain rfl:f = 6:=Option.some.inj (q_named.symm.trans hf) |>.symm
   obtain rfl:fn = Tryz.f6:=(Option.some.inj (Tryz.func6.symm.trans hfn)).symm
   exact ⟨q_looks,fun j t ht=>by
    rw [Tryz.params6] at ht
    have hm:t ∈ [3,4]:=by have:=Array.mem_of_getElem? ht; simpa using this
    have hall:([3,4].all fun u=>!Tryz.prog.wantsStandIn u) = true:=by kernel_rfl
    exact (show Tryz.prog.wantsStandIn t = false by simpa using List.all_eq_true.1 hall t hm)⟩)
  q_goes
end Go.Proofs.YtihdpjinaafenaaGreatDoor.findRoots
