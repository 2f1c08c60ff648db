import Derived.Test.YtihdpjinaafenaaGreatDoorNb34
import Derived.Test.YtihdpjinaafenaaGreatDoorNb35
import Derived.Test.YtihdpjinaafenaaGreatDoorNb36
import Derived.Test.YtihdpjinaafenaaGreatDoorNb37
import Derived.Test.YtihdpjinaafenaaGreatDoorNb38
import Derived.Test.YtihdpjinaafenaaGreatDoorNb39
import Derived.Test.YtihdpjinaafenaaGreatDoorNb40
import Derived.Test.YtihdpjinaafenaaGreatDoorNb41
import Derived.Test.YtihdpjinaafenaaGreatDoorNb42
import Derived.Test.YtihdpjinaafenaaGreatDoorNb43
import Derived.Test.YtihdpjinaafenaaGreatDoorNb44
import Derived.Test.YtihdpjinaafenaaGreatDoorRows
import Derived.Stop.LaidErr
import Derived.MakeChecks
import Derived.Test.YtihdpjinaafenaaGreatDoorCards
import Derived.Test.YtihdpjinaafenaaGreatDoorTie
import Derived.LaidMore
import Derived.OpenShut
import Derived.Stop.Joined
import Derived.SevenTiedAt
noncomputable section
/- A call in parts: what stands within. -/
set_option linter.unusedVariables false
set_option linter.unusedSimpArgs false
namespace Go.Proofs.YtihdpjinaafenaaGreatDoor.Ce
open Go.Proofs.YtihdpjinaafenaaGreatDoor.Sl
section
variable {P : Program} {N : Kn P} {M : Nat} {Q : Exit → Tm → Heap → Prop}
theorem Fits.split:∀ {pre l:List CC} {cs:List Code},Fits N M cs (pre ++ l) → ∃ c1 c2,cs = c1 ++ c2 ∧ Fits N M c1 pre ∧ Fits N M c2 l
 | [],l,cs,f=>⟨[],cs,rfl,.nil,f⟩
 | a :: pre,l,cs,f=>by
  obtain ⟨c,cs,rfl,f1,f2⟩:=f.uncons
  obtain ⟨c1,c2,rfl,f3,f4⟩:=Fits.split f2
  exact ⟨c :: c1,c2,rfl,.cons f1 f3,f4⟩
theorem Fits.app {pre l:List CC} {c1 c2:List Code} (f:Fits N M c1 pre) (g:Fits N M c2 l):Fits N M (c1 ++ c2) (pre ++ l):=by
 induction f with
 | nil=>exact g
 | cons f _ ih=>exact .cons f ih
theorem scodes_app:∀ (c1:List Code) {c2 c3:List Code} {T:Tm} {h:Heap},(∀ T h,SCodes P M Q c2 T h → SCodes P M Q c3 T h) → SCodes P M Q (c1 ++ c2) T h → SCodes P M Q (c1 ++ c3) T h
 | [],_,_,T,h,k,s=>k T h s
 | c :: c1,_,_,T,h,k,s=>SCode.mono s fun e T' h' q=>by
  cases e <;> first | exact q | exact scodes_app c1 k q
theorem scodes_seq {x y:Code} {cs:List Code} {T:Tm} {h:Heap} (s:SCodes P M Q (x :: y :: cs) T h):SCodes P M Q (.seq x y :: cs) T h:=by
 refine s_seq (SCode.mono s fun e T' h' q=>?_)
 cases e <;> first | exact q | (refine SCode.mono q fun e T h q=>?_; exact q)
theorem rl_at {a b:CC} {l:List CC} {s:St} (pre:List CC) (k:RL N M Q (pre ++ a :: b :: l) s):RL N M Q (pre ++ .seq a b :: l) s:=fun cs f β h T x=>by
 obtain ⟨c1,c2,rfl,f1,f2⟩:=f.split
 obtain ⟨c,c2,rfl,f3,f4⟩:=f2.uncons
 cases c <;> first | (exact absurd f3.sh Bool.false_ne_true) | skip
 obtain ⟨fa,fb⟩:=fit_seq f3
 exact scodes_app c1 (fun _ _=>scodes_seq) (k _ (f1.app (.cons fa (.cons fb f4))) β h T x)
end
end Go.Proofs.YtihdpjinaafenaaGreatDoor.Ce

/- rivuletlaw25.first says true: its parts joined. -/
set_option maxRecDepth 1000000
namespace Go.Proofs.YtihdpjinaafenaaGreatDoor
open Sl Ce
theorem nf_r:isTrue (at_ nflit10.st (denL 1000000 nf_cf (retF (CFn.res c38)) [nf_rest] (retF (CFn.res c38)))) = true:=by kernel_rfl
def nf_p (k:Nat):CC:=match dropR nf_pre k with
 | a :: _=>a
 | []=>.skip
theorem nf_eq:nf_cc = .seq (nf_p 0) (.seq (nf_p 1) (.seq (nf_p 2) (.seq (nf_p 3) (.seq (nf_p 4) (.seq (.seq (nf_p 5) (.block 0 (.loop nf_body))) nf_rest))))):=by kernel_rfl
theorem nf_pre_eq:nf_pre = [nf_p 0,nf_p 1,nf_p 2,nf_p 3,nf_p 4,nf_p 5]:=by kernel_rfl
theorem first_ok:SCalls Tryz.prog 38 #[] (fun _=>none) (fun r _=>r = .bool true):=by
 have hcf:CfOk (kn fun _=>undef) nf_cf:=evF_ok mixed_p (omL_ok (netN_ok _)) (tab_fit _) 1000000 1000
 have hg:FnFit (kn fun _=>undef) (pos 38) c38:=fit38 _
 have e0:(pos 38).nat - 1 = 38:=by simp [pos_nat]
 have e1:c38 = ⟨CFn.nt c38,.c nf_cc,CFn.res c38⟩:=by kernel_rfl
 rw [e1] at hg
 have hfn:Tryz.prog.funcs[(pos 38).nat - 1]? = some Tryz.f38:=by rw [e0]; exact Tryz.func38
 rw [← e0]
 refine call_parts hg hfn ?_
 rw [nf_eq]
 refine rl_at [] (rl_at [nf_p 0] (rl_at [nf_p 0,nf_p 1] (rl_at [nf_p 0,nf_p 1,nf_p 2] (rl_at [nf_p 0,nf_p 1,nf_p 2,nf_p 3] (rl_at [nf_p 0,nf_p 1,nf_p 2,nf_p 3,nf_p 4] (rl_at [nf_p 0,nf_p 1,nf_p 2,nf_p 3,nf_p 4] ?_))))))
 refine rl_pre (m:=1000000) mixed_p hcf (l:=nflit0) (olds:=nfold0) (rest:=[.block 0 (.loop nf_body),nf_rest]) ?_ [nf_p 0,nf_p 1,nf_p 2,nf_p 3,nf_p 4,nf_p 5] s00 (by rw [← nf_pre_eq]; exact nf_e0)
 refine rl_loop (m:=1000000) mixed_p hcf (l:=nflit10) (.step 3 nflit1 nfold1 nf_e1 (.step 3 nflit2 nfold2 nf_e2 (.step 3 nflit3 nfold3 nf_e3 (.step 3 nflit4 nfold4 nf_e4 (.step 3 nflit5 nfold5 nf_e5 (.step 3 nflit6 nfold6 nf_e6 (.step 3 nflit7 nfold7 nf_e7 (.step 3 nflit8 nfold8 nf_e8 (.step 3 nflit9 nfold9 nf_e9 (.last 5 nfold10 nf_e10)))))))))) ?_
 have hk:fnOk (kn fun _=>undef) (pos 38) c38 = true:=(fit38 _).ok
 exact rl_ret (m:=1000000) mixed_p hcf (fn:=Tryz.f38) (res:=CFn.res c38) kR kR rfl [nf_rest] nflit10.st nf_r
end Go.Proofs.YtihdpjinaafenaaGreatDoor

/- NetBad: from the cases to the walk. -/
namespace Go.Proofs.YtihdpjinaafenaaGreatDoor
open Sl Ce
theorem netBad_mixed:Tryz.prog.follows .mixedOrders = true:=by kernel_rfl
def netBadX (a0 a1:Int) (g:Nat → Addr):Nat → Value:=fun j=>if j = 0 then .int .i64 a0 else if j = 1 then .int .i64 a1 else .pointer (some (g j))
def netBadHp (τ:Nat → Nat) (g:Nat → Addr):Heap:=(Heap.set (Heap.set (Heap.set (Heap.set (Heap.set (Heap.set (fun _=>none:Heap) 8 (.cells #[.iface 443 (.pointer (some (g 10)))] (τ 10) (0,0))) 7 (.cells #[.iface 443 (.pointer (some (g 11)))] (τ 11) (0,0))) 9 (.cells #[.iface 443 (.pointer (some (g 12)))] (τ 12) (0,0))) 2 (.cells #[.iface 443 (.pointer (some (g 13)))] (τ 13) (0,0))) 3 (.cells #[.iface 443 (.pointer (some (g 14)))] (τ 14) (0,0))) 1 (.cells #[.iface 443 (.pointer (some (g 15)))] (τ 15) (0,0)))
theorem netBad_gi (a0 a1:Int) (τ:Nat → Nat) (g:Nat → Addr):GI (netBadX a0 a1 g) gs1 (let ξ:=netBadX a0 a1 g; (Bk.put (Bk.put (Bk.put (Bk.put (Bk.put (Bk.put (⟨fun _=>none,ξ⟩:Bk) i0 ⟨8,1⟩) i0.succ ⟨7,1⟩) i0.succ.succ ⟨9,1⟩) i0.succ.succ.succ ⟨2,1⟩) i0.succ.succ.succ.succ ⟨3,1⟩) i0.succ.succ.succ.succ.succ ⟨1,1⟩)) (netBadH τ) i0.succ.succ.succ.succ.succ.succ (netBadHp τ g) :=
 (GI.cons (GI.cons (GI.cons (GI.cons (GI.cons (GI.cons GI.nil (by simp [Heap.set]) rfl (.ifc 443 (.xi (β:=⟨fun _=>none,netBadX a0 a1 g⟩) 10 rfl))) (by simp [Heap.set]) rfl (.ifc 443 (.xi (β:=⟨fun _=>none,netBadX a0 a1 g⟩) 11 rfl))) (by simp [Heap.set]) rfl (.ifc 443 (.xi (β:=⟨fun _=>none,netBadX a0 a1 g⟩) 12 rfl))) (by simp [Heap.set]) rfl (.ifc 443 (.xi (β:=⟨fun _=>none,netBadX a0 a1 g⟩) 13 rfl))) (by simp [Heap.set]) rfl (.ifc 443 (.xi (β:=⟨fun _=>none,netBadX a0 a1 g⟩) 14 rfl))) (by simp [Heap.set]) rfl (.ifc 443 (.xi (β:=⟨fun _=>none,netBadX a0 a1 g⟩) 15 rfl)))
theorem netBad_of (all:∀ τ r0 r1,r0 < 4 → r1 < 80 → netBadAt τ r0 r1 = true) (lo:∀ τ r0,r0 < 4 → netBadLo τ r0 = true) (a0 a1:Int) (a2:Bool) (τ:Nat → Nat) (g:Nat → Addr):SCalls Tryz.prog 11 #[.int .i64 a0,.int .i64 a1,.bool a2] (netBadHp τ g) (fun r h'=>r = .bool true ∧ (netBadHp τ g).le h'):=by
 obtain ⟨r0,h0,h0'⟩:∃ r0:Nat,a0 % ((4:Nat):Int) = r0 ∧ r0 < 4:=by
  have:=Int.emod_nonneg a0 (show ((4:Nat):Int) ≠ 0 by omega)
  have:=Int.emod_lt_of_pos a0 (show 0 < ((4:Nat):Int) by omega)
  exact ⟨(a0 % ((4:Nat):Int)).toNat,by omega,by omega⟩
 obtain ⟨r1,h1,h1'⟩:∃ r1:Nat,a1 % ((80:Nat):Int) = r1 ∧ r1 < 80:=by
  have:=Int.emod_nonneg a1 (show ((80:Nat):Int) ≠ 0 by omega)
  have:=Int.emod_lt_of_pos a1 (show 0 < ((80:Nat):Int) by omega)
  exact ⟨(a1 % ((80:Nat):Int)).toNat,by omega,by omega⟩
 let ai:Nat → Int:=fun j=>if j = 0 then a0 else a1
 cases a2
 ·skip
  have hω:OmOk (knG gl1 (netBadX a0 a1 g)) (omX netBadNum [netBadFir] [(0,4,r0),(1,80,r1)] netN):=by
   refine omG_ok ai (fun j b r hm=>?_) (fun j b r hm=>?_) (by rw [show netBadNum.nat - 1 = 13 from by simp [netBadNum,pos_nat]]; kernel_rfl) (fun n b h hb hb'=>?_) (fun f hf=>?_) (netN_ok _)
   ·simp only [List.mem_cons,Prod.mk.injEq,List.not_mem_nil,or_false] at hm
    rcases hm with ⟨rfl,rfl,rfl⟩ | ⟨rfl,rfl,rfl⟩ <;> rfl
   ·simp only [List.mem_cons,Prod.mk.injEq,List.not_mem_nil,or_false] at hm
    rcases hm with ⟨rfl,rfl,rfl⟩ | ⟨rfl,rfl,rfl⟩
    ·exact ⟨h0,by omega,by omega⟩
    ·exact ⟨h1,by omega,by omega⟩
   ·rw [show netBadNum.nat - 1 = 13 from by simp [netBadNum,pos_nat]]
    exact number_ok n b hb hb' h
   ·simp only [List.mem_singleton] at hf
    subst hf
    rw [show netBadFir.nat - 1 = 38 from by simp [netBadFir,pos_nat]]
    exact ⟨by kernel_rfl,first_ok⟩
  have:=true_ofG netBad_mixed hω (tabG_fit _) (netBad_gi a0 a1 τ g) (all τ r0 r1 h0' h1') gl1_eq (vs:=[.int .i64 a0,.int .i64 a1,.bool false]) (.cons (.xi (β:=⟨fun _=>none,netBadX a0 a1 g⟩) 0 rfl) (.cons (.xi (β:=⟨fun _=>none,netBadX a0 a1 g⟩) 1 rfl) (.cons (.b false) .nil)))
  simpa [pos_nat] using this
 ·skip
  have hω:OmOk (knG gl1 (netBadX a0 a1 g)) (omX netBadNum [netBadFir] [(0,4,r0)] netN):=by
   refine omG_ok ai (fun j b r hm=>?_) (fun j b r hm=>?_) (by rw [show netBadNum.nat - 1 = 13 from by simp [netBadNum,pos_nat]]; kernel_rfl) (fun n b h hb hb'=>?_) (fun f hf=>?_) (netN_ok _)
   ·simp only [List.mem_cons,Prod.mk.injEq,List.not_mem_nil,or_false] at hm
    obtain ⟨rfl,rfl,rfl⟩:=hm; rfl
   ·simp only [List.mem_cons,Prod.mk.injEq,List.not_mem_nil,or_false] at hm
    obtain ⟨rfl,rfl,rfl⟩:=hm; exact ⟨h0,by omega,by omega⟩
   ·rw [show netBadNum.nat - 1 = 13 from by simp [netBadNum,pos_nat]]
    exact number_ok n b hb hb' h
   ·simp only [List.mem_singleton] at hf
    subst hf
    rw [show netBadFir.nat - 1 = 38 from by simp [netBadFir,pos_nat]]
    exact ⟨by kernel_rfl,first_ok⟩
  have:=true_ofG netBad_mixed hω (tabG_fit _) (netBad_gi a0 a1 τ g) (lo τ r0 h0') gl1_eq (vs:=[.int .i64 a0,.int .i64 a1,.bool true]) (.cons (.xi (β:=⟨fun _=>none,netBadX a0 a1 g⟩) 0 rfl) (.cons (.xi (β:=⟨fun _=>none,netBadX a0 a1 g⟩) 1 rfl) (.cons (.b true) .nil)))
  simpa [pos_nat] using this
end Go.Proofs.YtihdpjinaafenaaGreatDoor

/- NetBad: every case, evaluated. -/
namespace Go.Proofs.YtihdpjinaafenaaGreatDoor
open Sl Ce
theorem netBad_five (τ:Nat → Nat):∀ (r0 k:Nat),r0 < 4 → k < 8 → netBadAll τ r0 (List.range' (10 * k) 10) = true
 | 0,0,_,_=>atNetBad_0_0 τ
 | 0,1,_,_=>atNetBad_0_1 τ
 | 0,2,_,_=>atNetBad_0_2 τ
 | 0,3,_,_=>atNetBad_0_3 τ
 | 0,4,_,_=>atNetBad_0_4 τ
 | 0,5,_,_=>atNetBad_0_5 τ
 | 0,6,_,_=>atNetBad_0_6 τ
 | 0,7,_,_=>atNetBad_0_7 τ
 | 1,0,_,_=>atNetBad_1_0 τ
 | 1,1,_,_=>atNetBad_1_1 τ
 | 1,2,_,_=>atNetBad_1_2 τ
 | 1,3,_,_=>atNetBad_1_3 τ
 | 1,4,_,_=>atNetBad_1_4 τ
 | 1,5,_,_=>atNetBad_1_5 τ
 | 1,6,_,_=>atNetBad_1_6 τ
 | 1,7,_,_=>atNetBad_1_7 τ
 | 2,0,_,_=>atNetBad_2_0 τ
 | 2,1,_,_=>atNetBad_2_1 τ
 | 2,2,_,_=>atNetBad_2_2 τ
 | 2,3,_,_=>atNetBad_2_3 τ
 | 2,4,_,_=>atNetBad_2_4 τ
 | 2,5,_,_=>atNetBad_2_5 τ
 | 2,6,_,_=>atNetBad_2_6 τ
 | 2,7,_,_=>atNetBad_2_7 τ
 | 3,0,_,_=>atNetBad_3_0 τ
 | 3,1,_,_=>atNetBad_3_1 τ
 | 3,2,_,_=>atNetBad_3_2 τ
 | 3,3,_,_=>atNetBad_3_3 τ
 | 3,4,_,_=>atNetBad_3_4 τ
 | 3,5,_,_=>atNetBad_3_5 τ
 | 3,6,_,_=>atNetBad_3_6 τ
 | 3,7,_,_=>atNetBad_3_7 τ
 | _ + 4,_,h,_=>by omega
 | 0,_ + 8,_,h=>by omega
 | 1,_ + 8,_,h=>by omega
 | 2,_ + 8,_,h=>by omega
 | 3,_ + 8,_,h=>by omega
theorem netBad_all (τ:Nat → Nat) (r0 r1:Nat) (h0:r0 < 4) (h1:r1 < 80):netBadAt τ r0 r1 = true :=
 netBadAll_at (netBad_five τ r0 (r1 / 10) h0 (by omega)) (List.mem_range'_1.2 ⟨by omega,by omega⟩)
theorem netBad_lo (τ:Nat → Nat):∀ (r0:Nat),r0 < 4 → netBadLo τ r0 = true
 | 0,_=>loNetBad_0 τ
 | 1,_=>loNetBad_1 τ
 | 2,_=>loNetBad_2 τ
 | 3,_=>loNetBad_3 τ
 | _ + 4,h=>by omega
theorem netBad_ok (a0 a1:Int) (a2:Bool) (τ:Nat → Nat) (g:Nat → Addr):SCalls Tryz.prog 11 #[.int .i64 a0,.int .i64 a1,.bool a2] (netBadHp τ g) (fun r h'=>r = .bool true ∧ (netBadHp τ g).le h'):=netBad_of netBad_all netBad_lo a0 a1 a2 τ g
end Go.Proofs.YtihdpjinaafenaaGreatDoor

/- NetBad: what the row says of the package variables, as a heap. -/
set_option maxRecDepth 100000
namespace Go.Proofs.YtihdpjinaafenaaGreatDoor
open Sl Ce
open Go.ChangeShapes Go.RowKit
theorem laid_globA {P:Program} {n nm:String} {text:List UInt8} {r:List (String × DataW Unit)} {W:World} {g:Nat} {ti tp te ts:TypeId} {ms:Array (String × TypeId)} {f:Field}
  (h:laidMet P ((n,.iface nm (.ptr (.agg [.lit (.string text)]))) :: r) W)
  (hg:P.globalNamed n = some g) (ht:(P.globals[g]?).map (·.type) = some ti) (hi:P.underlying ti = some (.interface ms)) (hrow:∀ u,P.typeName? 3 u = some nm → u = tp)
  (hp:P.underlying tp = some (.pointer te)) (he:P.underlying te = some (.struct #[f])) (hft:f.type = ts) (hfo:f.offset = 0) (hs:P.underlying ts = some .string) (hc:P.cellsOf te = 1) (hcs:P.cellsOf ts = 1) :
  ∃ (a:Addr) (t:Nat),W.heap[g]? = some (.cells #[.iface tp (.pointer (some a))] t (0,0)):=by
 obtain ⟨a,s,hv,_,_,_⟩:=laid_sentinel h hg ht hi hrow hp he hft hfo hs hc hcs
 obtain ⟨ps,⟨g0,t0,cs0,f0,p0,q0,hg0,ht0,hv0,hd0,_,e0⟩,_,hrows⟩:=h
 obtain rfl:=Option.some.inj (hg.symm.trans hg0)
 subst e0
 obtain rfl:=Option.some.inj (hv.symm.trans hv0)
 obtain ⟨⟨c,t,hb⟩,_⟩:=hrows g 0 (by simp [MemPlace.row])
 refine ⟨a,t,?_⟩
 unfold World.var? at hv
 simp only [hg,Option.bind_some,hb,Option.some.injEq] at hv
 rw [hb,hv]
theorem rel_set {h:Heap} {W:World} {g:Nat} {o:Obj} (r:Rel h W) (e:W.heap[g]? = some o):Rel (h.set g o) W:=fun b o' e'=>by
 by_cases hb:b = g
 ·subst hb; rw [Heap.set_same] at e'; cases e'; exact e
 ·rw [Heap.set_other _ _ hb] at e'; exact r b o' e'
theorem err_row (u : TypeId) (h : Tryz.prog.typeName? 3 u = some "*errors.errorString") : u = 443 :=
 typeName_ptr_named (nm := "errors.errorString") (by rw [show "*" ++ "errors.errorString" = "*errors.errorString" from by decide]; kernel_rfl) kR (by decide) u (by rw [show "*" ++ "errors.errorString" = "*errors.errorString" from by decide]; exact h)
theorem err_glob {n : String} {text : List UInt8} {r : List (String × DataW Unit)} {W : World} {g : Nat} (h : laidMet Tryz.prog ((n, .iface "*errors.errorString" (.ptr (.agg [.lit (.string text)]))) :: r) W) (hg : Tryz.prog.globalNamed n = some g) (ht : (Tryz.prog.globals[g]?).map (·.type) = some 28) :
  ∃ (a:Addr) (t:Nat),W.heap[g]? = some (.cells #[.iface 443 (.pointer (some a))] t (0,0)) :=
 laid_globA h hg ht Tryz.underlying28 err_row Tryz.underlying443 Tryz.underlying458 rfl rfl Tryz.underlying9 kR kR
theorem netBad_rel {W:World} (h:laidMetH Tryz.prog Rows.netBadRow.laid W):∃ (τ:Nat → Nat) (g:Nat → Addr),Rel (netBadHp τ g) W:=by
 rw [MakeChecks.laidMetH_plain _ _ _ kR] at h
 obtain ⟨a7,t7,e7⟩:=err_glob (g:=7) h kR kR
 obtain ⟨a9,t9,e9⟩:=err_glob (g:=9) h.tail kR kR
 obtain ⟨a3,t3,e3⟩:=err_glob (g:=3) h.tail.tail kR kR
 obtain ⟨a1,t1,e1⟩:=err_glob (g:=1) h.tail.tail.tail kR kR
 obtain ⟨a8,t8,e8⟩:=err_glob (g:=8) h.tail.tail.tail.tail kR kR
 obtain ⟨a2,t2,e2⟩:=err_glob (g:=2) h.tail.tail.tail.tail.tail.tail.tail.tail.tail kR kR
 exact ⟨fun j=>if j = 10 then t8 else if j = 11 then t7 else if j = 12 then t9 else if j = 13 then t2 else if j = 14 then t3 else t1,fun j=>if j = 10 then a8 else if j = 11 then a7 else if j = 12 then a9 else if j = 13 then a2 else if j = 14 then a3 else a1,(rel_set (rel_set (rel_set (rel_set (rel_set (rel_set (fun b o e=>by cases e) e8) e7) e9) e2) e3) e1)⟩
end Go.Proofs.YtihdpjinaafenaaGreatDoor

/- NetBad: in each case the call says true; the tied card. The conditions: none beyond the card's own. -/
namespace Go.Proofs.YtihdpjinaafenaaGreatDoor.netBad
open Go.ChangeShapes Go.WideShapes Go.ChangeAt Go.RowKit Go.Proofs.YtihdpjinaafenaaGreatDoor.Sl Go.Proofs.YtihdpjinaafenaaGreatDoor.Ce
theorem own:ownKnob Tryz.prog.godebug = none:=by kernel_rfl
set_option maxRecDepth 100000 in
theorem door_met (os:Os) (args:Array Value):laidMetH Tryz.prog Rows.netBadRow.laid ((World.doorLaid Tryz.prog 214 os).forCall (fun _ _=>0) ⟨#[],args,[]⟩).memory :=
 laidMetH_of_parts3 (fuel:=8) (laidMet_of_run' 8 kR kR) kR kR
theorem walk (a0:Int) (a1:Int) (a2:Bool) {W:World} (h:laidMetH Tryz.prog Rows.netBadRow.laid W):Calls Tryz.prog 11 #[.int .i64 a0,.int .i64 a1,.bool a2] W fun e w'=>e = .returned (.bool true) ∧ Below W.heap.size W w':=by
 obtain ⟨τ,g,rel⟩:=netBad_rel h
 exact calls_trueG (netBad_ok a0 a1 a2 τ g) W rel
set_option maxRecDepth 100000 in
theorem lifted (os:Os) (started:os.Started) (H:Type) (enc:TypeId × Value → H) :
  ReturnsInHanded {} Tryz.checked os 11 .any (fun w args=>(Rows.netBadSpec.pre enc Tryz.prog Tryz.f11 [] false w args ∧ laidMetH Tryz.prog Rows.netBadRow.laid w) ∧ sizedMet enc Tryz.prog Tryz.f11 (OpenSpec.ofChange Rows.netBadSpec) false w args)
   (Rows.netBadSpec.post enc Tryz.prog Tryz.f11 false true false false):=by
 refine returnsInHanded_of_change_and (C:=Tryz.checked) (X:=fun w _=>laidMetH Tryz.prog Rows.netBadRow.laid w) (fun _ _ _ hh h=>h.of_heap hh) own started kR Tryz.func11
  (ChangeSpec.witness_shaped (enc:=enc) (C:=Tryz.checked) (os:=os) (X:=fun w _=>laidMetH Tryz.prog Rows.netBadRow.laid w) false (World.doorLaid Tryz.prog 214 os) #[.int .i64 0,.int .i64 0,.bool false] 8 rfl (World.shaped_of_RefB kR kR) kR kR kR (door_met os _)) ?_
 intro W base args ds gs before hval0 hW _ _ hL _
 have hval:∀ (j:Nat) t v,Tryz.f11.params[j]? = some t → args[j]? = some v → Value.okWide Tryz.prog W .any base t v:=hval0
 have hW':=hW
 obtain ⟨p,q,hA0,hV,rfl,hfz,hnd⟩:=hW
 have hA:DataW.TrodAll enc Tryz.prog W 0 (fun _=>true) true Tryz.f11.params.toList args.toList ds p:=hA0
 rw [Tryz.params11] at hA hval
 obtain ⟨v0,vs0,d0,ds0,p0,q0,hargs,rfl,rfl,h0,r0⟩:=trodAll_cons hA
 obtain ⟨v1,vs1,d1,ds1,p1,q1,rfl,rfl,rfl,h1,r1⟩:=trodAll_cons r0
 obtain ⟨v2,vs2,d2,ds2,p2,q2,rfl,rfl,rfl,h2,r2⟩:=trodAll_cons r1
 obtain ⟨rfl,rfl,rfl⟩:=trodAll_nil r2
 obtain rfl:args = #[v0,v1,v2]:=by cases args; simp_all
 obtain ⟨rfl,rfl⟩:=trodVars_none hV
 obtain ⟨a0,rfl,rfl,rfl,w0⟩:=open_int Tryz.underlying3 (hval 0 3 v0 rfl rfl) h0
 obtain ⟨a1,rfl,rfl,rfl,w1⟩:=open_int Tryz.underlying3 (hval 1 3 v1 rfl rfl) h1
 obtain ⟨a2,rfl,rfl,rfl⟩:=open_bool Tryz.underlying4 (hval 2 4 v2 rfl rfl) h2
 clear hA0 hval0
 refine (walk a0 a1 a2 hL).mono fun e W2 ⟨he,hb⟩=>?_
 subst he
 exact ⟨_,rfl,law_post (tb:=4) kR kR rfl rfl Tryz.underlying4 rfl hW' hb⟩
set_option maxRecDepth 100000 in
theorem jf1:(Rows.netBadRow.inPlace == Tryz.prog.inPlace 11) = true:=by kernel_rfl
set_option maxRecDepth 100000 in
theorem jf2:(Rows.netBadRow.unfollowed == Tryz.prog.unfollowed 11) = true:=by kernel_rfl
set_option maxRecDepth 100000 in
theorem jf3:(Rows.netBadRow.recurses == Tryz.prog.recurses 11) = true:=by kernel_rfl
set_option maxRecDepth 100000 in
theorem jf4:(Rows.netBadRow.named == Tryz.prog.varsNamed 11) = true:=by kernel_rfl
set_option maxRecDepth 100000 in
theorem closed:joinedFacts Tryz.prog 11 Tryz.f11 Rows.netBadSpec Rows.netBadRow = true:=by
 unfold joinedFacts
 rw [jf1,jf2,jf3,jf4]
 kernel_rfl
set_option maxRecDepth 100000 in
theorem inst:Tryz.f11.isInstance Tryz.prog Rows.netBadRow.origin Rows.netBadRow.targs:=of_decide_eq_true kR
set_option maxRecDepth 100000 in
theorem wrap:Tryz.f11.isWrapper Tryz.prog Rows.netBadRow.wrapper Rows.netBadRow.mainSum:=by
 unfold Func.isWrapper
 first | (rw [if_pos (by decide +kernel)]; kernel_rfl) | (rw [if_neg (by decide +kernel)]; exact ⟨rfl,rfl⟩)
set_option maxRecDepth 100000 in
theorem over:Rows.NetBadSaid :=
 OpenClaim.holds_of_wide 11 Tryz.f11 rfl rfl rfl rfl rfl rfl rfl ⟨rfl,rfl,rfl,rfl,rfl⟩ rfl rfl rfl rfl rfl kR Tryz.func11 closed inst wrap
  (fun os started H enc _=>lifted os started H enc)
set_option maxRecDepth 100000 in
theorem q_wf:(Rows.netBadRow).wfByText (OpenSpec.ofChange Rows.netBadSpec) = true:=by kernel_rfl
set_option maxRecDepth 100000 in
theorem q_main:Tryz.prog.mainIs = some (Rows.netBadCard.stood.harness.fst,Rows.netBadCard.stood.harness.snd.toList):=by kernel_rfl
set_option maxRecDepth 100000 in
theorem q_looks:false = Tryz.prog.looks []:=by kernel_rfl
set_option maxRecDepth 100000 in
theorem q_goes:false = Rows.netBadRow.goesBy Tryz.prog:=by kernel_rfl
set_option maxRecDepth 100000 in
theorem q_named : Tryz.prog.funcNamed "rivulet/rivuletlaw25.NetBad" = some 11 := by kernel_rfl
set_option maxRecDepth 100000 in
theorem proved:Rows.NetBadCardSaid :=
 Claim7.holds_tied_plain_at .later [] Rows.netBadCard.laidKinds true Rows.netBadCard.stood.harness false
  over (fun _ h=>by cases h) q_wf (fun _ h=>by cases h) netBad_row_tie rfl ⟨rfl,rfl⟩ q_main rfl
  (fun f fn hf hfn=>by
   obtain rfl:f = 11:=Option.some.inj (q_named.symm.trans hf) |>.symm
   obtain rfl:fn = Tryz.f11:=(Option.some.inj (Tryz.func11.symm.trans hfn)).symm
   exact ⟨q_looks,fun j t ht=>by
    rw [Tryz.params11] at ht
    have hm:t ∈ [3,4]:=by have:=Array.mem_of_getElem? ht; simpa using this
    have hall:([3,4].all fun u=>!Tryz.prog.wantsStandIn u) = true:=by kernel_rfl
    exact (show Tryz.prog.wantsStandIn t = false by simpa using List.all_eq_true.1 hall t hm)⟩)
  q_goes
end Go.Proofs.YtihdpjinaafenaaGreatDoor.netBad
