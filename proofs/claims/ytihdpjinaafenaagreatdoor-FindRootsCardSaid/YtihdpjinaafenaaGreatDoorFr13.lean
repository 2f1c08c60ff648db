import Derived.Test.YtihdpjinaafenaaGreatDoorFr12
noncomputable section
/- The evaluator: a region that draws its order. -/
set_option linter.unusedVariables false
set_option linter.unusedSimpArgs false
namespace Go.Proofs.YtihdpjinaafenaaGreatDoor.Ce
open Go.Proofs.YtihdpjinaafenaaGreatDoor.Sl
open Ab (isOne isMany isSl isArr isIntT isStr zeroIs okCall)
variable {P : Program}
def RsOk (β:Bk) (s:St):Prop:=∀ e ∈ s.rs,(hget e.1 s.H).live = true ∧ (hget e.1 s.H).st = e.2 ∧ ∃ x,β e.1 = some x
def FOk (F:List RdA) (β:Bk) (s:St) (h:Heap):Prop:=∀ A ∈ F,∀ g:Heap,(∀ e ∈ s.rs,∀ x,β e.1 = some x → g x.b = h x.b) → A.on g
def EOk (N:Kn P) (E:Env) (β:Bk) (s:St):Prop:=∀ i y,lookE i s.E = some y → ∃ len,y.o.st = 0 ∧ ∀ (β':Bk) (n:Id) (b:Nat) (h:Heap),β.le (β'.put n ⟨b,len⟩) → ORp N.toKy (β'.put n ⟨b,len⟩) (h.set b (E i).1) ⟨b,len⟩ y.o ∧ VR (β'.put n ⟨b,len⟩) (y.v n) ((E i).2 b)
def EN.qOk (loud:List Nat) (i:Nat):EN → Bool
 | .r _ _ q=>q
 | .a _ _ q | .cl _ _ _ _ q | .cv _ _ _ _ q=>loud.contains i == !q
 | _=>false
def dside (N:Kn P) (pp loud:List Nat):Nat × EN → Bool
 | (i,.pre j d k)=>Nat.beq i j && k.side N
 | (i,.bnd j d k)=>Nat.beq i j && pp.contains i
 | (i,.gd p b y)=>!pp.contains i && y.plain && y.side N && y.qOk loud i && decide (p.nat - 1 < 1000000000)
 | (i,y)=>!pp.contains i && y.side N && y.qOk loud i
def ent:Nat × EN → Ent
 | (i,.pre _ _ _)=>(i,false)
 | (i,_)=>(i,true)
theorem ent_plain {i:Nat} {y:EN} (h:y.plain = true):ent (i,y) = (i,true):=by cases y <;> first | rfl | cases h
theorem dside_plain {N:Kn P} {pp loud:List Nat} {i:Nat} {y:EN} (h:y.plain = true) (hd:dside N pp loud (i,y) = true):i ∉ pp ∧ y.side N = true ∧ y.qOk loud i = true:=by
 cases y <;> first | (cases h; done) | (simp only [dside,Bool.and_eq_true,Bool.not_eq_true',List.contains_eq_mem,decide_eq_false_iff_not] at hd; exact ⟨hd.1.1,hd.1.2,hd.2⟩)
section
variable {N : Kn P} {β β' : Bk} {s s' s1 : St} {h h' h1 : Heap} {Tc Tc' : Tm} {o : Oper} {cf : CF} {M : Nat} {ops : Array Oper} {pp loud : List Nat} {Q : Tm → Heap → Prop} {F : List RdA} {E : Env}
theorem EOk.le (x:EOk N E β s) (l:β.le β') (e:s'.E = s.E):EOk N E β' s':=fun i y hy=>by
 rw [e] at hy
 obtain ⟨len,h0,h1⟩:=x i y hy
 exact ⟨len,h0,fun β2 n b h le=>h1 β2 n b h (Bk.le_trans l le)⟩
theorem lookE_cons (i j:Nat) (y:Al) (l:List (Nat × Al)):lookE i ((j,y) :: l) = if i = j then some y else lookE i l:=by
 show (bif Nat.beq i j then some y else lookE i l) = _
 by_cases e:i = j
 ·subst e; rw [Nat.beq_refl]; simp
 ·rw [if_neg e]
  cases hb:Nat.beq i j with
  | true=>exact absurd (Nat.eq_of_beq_eq_true hb) e
  | false=>rfl
theorem draw_plain (hc:CfOk N cf) {i:Nat} {y:EN} {r:List Ent} (hpl:y.plain = true) (hpp:i ∉ pp) (hs:y.side N = true) (hq:y.qOk loud i = true) (hop:(opAt ops i).op = y.op) (hdst:(opAt ops i).dst = dn y.d) (hw:want ops Tc (opAt ops i) = true)
  (x:Sem N β s h Tc) (rs:RsOk β s) (fo:FOk F β s h) (eo:EOk N E β s) (e:y.go cf s = some s1)
  (next:∀ (β1:Bk) (h1:Heap) (v:Value) (F1:List RdA),β.le β1 → Sem N β1 s1 h1 (put Tc (dn y.d) v) → RsOk β1 s1 → FOk F1 β1 s1 h1 → EOk N E β1 s1 → Keep β s.H s1.H h h1 → (∀ p,(hget p s.H).st ≤ (hget p s1.H).st) → sdraw P M ops pp loud Q r (put Tc (dn y.d) v) h1 F1 E) :
  sdraw P M ops pp loud Q ((i,true) :: r) Tc h F E:=by
 simp only [sdraw,hpp,if_false,hw,if_true,hdst]
 by_cases hr:∃ d k q,y = .r d k q
 ·obtain ⟨d,k,q,rfl⟩:=hr
  have hq:q = true:=hq
  subst hq
  obtain ⟨hact,c,rs',v,hs1,hv,hp⟩:=rd_sop x hs hop e
  have sem1:Sem N β s1 h (put Tc (dn (some d)) v):=by rw [hs1]; exact ⟨put_dn x.1 (some d) hv,x.2⟩
  have kp:Keep β s.H s1.H h h:=by rw [hs1]; exact Keep.refl _ _ _
  have mo:∀ p,(hget p s.H).st ≤ (hget p s1.H).st:=by rw [hs1]; exact fun p=>Nat.le_refl _
  have eo1:EOk N E β s1:=eo.le (Bk.le_refl _) (by rw [hs1])
  simp only [hact,Bool.false_eq_true,if_false]
  rcases hp with ⟨hrs,hp⟩ | ⟨id,z,hrs,hz,hlive,hisr,hp⟩
  ·have rs1:RsOk β s1:=by rw [hs1,hrs]; exact rs
   split
   ·refine ⟨v,rdNone,trivial,fun g _=>hp.read g,next β h v _ (Bk.le_refl _) sem1 rs1 (fun A hA g hg=>?_) eo1 kp mo⟩
    rcases List.mem_cons.1 hA with rfl | hA
    ·trivial
    ·exact fo A hA g (by rw [hs1,hrs] at hg; exact hg)
   ·refine ⟨v,hp,next β h v F (Bk.le_refl _) sem1 rs1 (fun A hA g hg=>fo A hA g (by rw [hs1,hrs] at hg; exact hg)) eo1 kp mo⟩
  ·simp only [if_true] at hrs
   rw [hisr]
   simp only [if_true]
   have hsome:=x.2.at_ id z hz hlive
   obtain ⟨ob,hob⟩:∃ ob,h z.b = some ob:=by
    cases e1:h z.b with
    | none=>exact absurd e1 hsome
    | some ob=>exact ⟨ob,rfl⟩
   refine ⟨v,rdAt [z.b] h,fun b hb y' e1=>e1,fun g hg=>hp g ?_,next β h v _ (Bk.le_refl _) sem1 ?_ (fun A hA g hg=>?_) eo1 kp mo⟩
   ·rw [hob]; exact hg z.b (by simp) ob hob
   ·rw [hs1,hrs]
    intro e1 he1
    rcases List.mem_cons.1 he1 with rfl | he1
    ·exact ⟨hlive,rfl,z,hz⟩
    ·exact rs e1 he1
   ·rw [hs1,hrs] at hg
    rcases List.mem_cons.1 hA with rfl | hA
    ·intro b hb y' e1
     have hb:b = z.b:=by simpa using hb
     subst hb
     rw [hg _ List.mem_cons_self z hz]; exact e1
    ·exact fo A hA g fun e1 he1=>hg e1 (List.mem_cons_of_mem _ he1)
 ·obtain ⟨d,q,v,H,n,ck,hd,ea,hact,sop,hqq⟩:=act_sop hc x (fun d k q e=>hr ⟨d,k,q,e⟩) hpl hs hop e
  have hloud:loud.contains i = !q:=by
   cases y <;> first | (cases hpl; done) | (exact absurd ⟨_,_,_,rfl⟩ hr) | (simp only [EN.qOk,beq_iff_eq] at hq; simp only at hqq; subst hqq; exact hq)
  simp only [hact,if_true]
  cases q with
  | false =>
   have hin:i ∈ loud:=by simpa using hloud
   rw [if_pos hin]
   refine sop.mono fun u h2 a=>?_
   obtain ⟨⟨⟨β2,l2,x2⟩,k2,m2⟩,eH,eE,_,er⟩:=aft_after x ea a
   rw [← hd]
   rw [← hd] at next
   exact next β2 h2 u [] l2 x2 (fun e1 he1=>by rw [er rfl] at he1; cases he1) (fun A hA=>by cases hA) (eo.le l2 eE) k2 m2
  | true =>
   have hin:i ∉ loud:=by simpa using hloud
   rw [if_neg hin]
   refine sop.mono fun u h2 a=>?_
   obtain ⟨⟨⟨β2,l2,x2⟩,k2,m2⟩,eH,eE,eq,_⟩:=aft_after x ea a
   obtain ⟨eq1,eq2⟩:=eq rfl
   have st:∀ e1 ∈ s.rs,hget e1.1 s1.H = hget e1.1 s.H ∧ ∀ z,β e1.1 = some z → h2 z.b = h z.b:=fun e1 he1=>by
    obtain ⟨r1,r2,z,r3⟩:=rs e1 he1
    rw [quietOk_eq] at eq1
    have q1:=List.all_eq_true.1 eq1 e1 he1
    have q1:=Nat.eq_of_beq_eq_true q1
    rw [← eH] at q1
    obtain ⟨k3,k4⟩:=(k2 e1.1 z r3 r1).2 (by rw [q1,r2])
    exact ⟨k3,fun z' hz'=>by rw [r3] at hz'; cases hz'; exact k4⟩
   refine ⟨fun A hA _=>fo A hA h2 fun e1 he1 z hz=>(st e1 he1).2 z hz,?_⟩
   rw [← hd]
   rw [← hd] at next
   refine next β2 h2 u F l2 x2 (fun e1 he1=>?_) (fun A hA g hg=>?_) (eo.le l2 eE) k2 m2
   ·rw [eq2] at he1
    obtain ⟨r1,r2,z,r3⟩:=rs e1 he1
    rw [(st e1 he1).1]
    exact ⟨r1,r2,z,l2 _ _ r3⟩
   ·refine fo A hA g fun e1 he1 z hz=>?_
    rw [hg e1 (by rw [eq2]; exact he1) z (l2 _ _ hz),(st e1 he1).2 z hz]
theorem gos_sdraw (hc:CfOk N cf):∀ (l:List (Nat × EN)) {s s':St} {β:Bk} {h:Heap} {Tc:Tm} {F:List RdA} {E:Env},(∀ e ∈ l,strip3 ops (opAt ops e.1) = e.2.strip) → l.all (dside N pp loud) = true →
  Sem N β s h Tc → RsOk β s → FOk F β s h → EOk N E β s → gos cf (l.map (·.2)) s = some s' → (∀ T' h',After N β s h s' T' h' → Q T' h') → sdraw P M ops pp loud Q (l.map ent) Tc h F E
 | [],s,s',β,h,Tc,F,E,_,_,x,_,_,_,e,hq=>by cases e; exact hq _ _ (.here x)
 | (i,y) :: l,s,s',β,h,Tc,F,E,hm,hl,x,rs,fo,eo,e,hq=>by
  simp only [List.all_cons,Bool.and_eq_true] at hl
  have hstrip:=hm _ List.mem_cons_self
  have hm':∀ e ∈ l,strip3 ops (opAt ops e.1) = e.2.strip:=fun e he=>hm e (List.mem_cons_of_mem _ he)
  simp only [List.map_cons] at e
  rw [gos_cons] at e
  cases hgo:y.go cf s with
  | none=>rw [hgo] at e; cases e
  | some s1 =>
   rw [hgo] at e
   simp only at e
   have ih:∀ {β1:Bk} {h1:Heap} {T1:Tm} {F1:List RdA} {E1:Env},β.le β1 → Sem N β1 s1 h1 T1 → RsOk β1 s1 → FOk F1 β1 s1 h1 → EOk N E1 β1 s1 → Keep β s.H s1.H h h1 → (∀ p,(hget p s.H).st ≤ (hget p s1.H).st) → sdraw P M ops pp loud Q (l.map ent) T1 h1 F1 E1 :=
    fun l1 x1 r1 f1 e1 k1 m1=>gos_sdraw hc l hm' hl.2 x1 r1 f1 e1 e fun T' h' b=>hq T' h' (b.trans l1 k1 m1)
   by_cases hpl:y.plain = true
   ·obtain ⟨g1,g2,g3⟩:=dside_plain hpl hl.1
    have hgn:y.gu = none:=by cases y <;> first | rfl | cases hpl
    obtain ⟨f1,f2,f3,f4⟩:=strip_spec hstrip (by rw [hgn])
    simp only [List.map_cons]
    rw [ent_plain hpl]
    exact draw_plain hc hpl g1 g2 g3 f2 f1 (Sl.want_none (f3 hgn)) x rs fo eo hgo fun β1 h1 v F1 l1 x1 r1 fo1 eo1 k1 m1=>ih l1 x1 r1 fo1 eo1 k1 m1
   ·cases y with
    | r _ _ _=>exact absurd rfl hpl
    | a _ _ _=>exact absurd rfl hpl
    | cl _ _ _ _ _=>exact absurd rfl hpl
    | cv _ _ _ _ _=>exact absurd rfl hpl
    | gd p b y =>
     have hd:=hl.1
     simp only [dside,Bool.and_eq_true,Bool.not_eq_true',List.contains_eq_mem,decide_eq_false_iff_not] at hd
     obtain ⟨⟨⟨⟨d1,d2⟩,d3⟩,d4⟩,d5⟩:=hd
     obtain ⟨f1,f2,f3,f4⟩:=strip_spec hstrip d5
     obtain ⟨w1,w2⟩:=want_gd (Tc:=Tc) (f4 _ _ rfl)
     show sdraw P M ops pp loud Q ((i,true) :: l.map ent) Tc h F E
     rcases gd_go x hgo with ⟨h1,h2⟩ | ⟨h1,h2⟩
     ·exact draw_plain hc d2 d1 d3 d4 f2 f1 (w1 h1) x rs fo eo h2 fun β1 h1 v F1 l1 x1 r1 fo1 eo1 k1 m1=>ih l1 x1 r1 fo1 eo1 k1 m1
     ·simp only [sdraw,d1,if_false,w2 h1,Bool.false_eq_true]
      have f1':(opAt ops i).dst = dn y.d:=f1
      rw [f1']
      have sk:=skip_after x y.d
      rw [← h2] at sk
      exact ih (Bk.le_refl _) sk (by rw [h2]; exact rs) (fun A hA g hg=>fo A hA g (by rw [h2] at hg; exact hg)) (eo.le (Bk.le_refl _) (by rw [h2])) (by rw [h2]; exact Keep.refl _ _ _) (by rw [h2]; exact fun p=>Nat.le_refl _)
    | pre j d k =>
     have hd:=hl.1
     simp only [dside,Bool.and_eq_true] at hd
     have hij:=Nat.eq_of_beq_eq_true hd.1
     subst hij
     obtain ⟨f1,f2,f3,f4⟩:=strip_spec (o:=opAt ops i) hstrip rfl
     have e0:stPre i d k cf s = some s1:=hgo
     rw [stPre_eq] at e0
     have ok:=al_ok (N:=N) (ck:=0) x.1 hd.2 f2
     split at e0
     ·rename_i z hz
      rw [hz] at ok
      cases e0
      obtain ⟨obj,vf,len,al,hst,hk⟩:=ok
      show sdraw P M ops pp loud Q ((i,false) :: l.map ent) Tc h F E
      refine ⟨obj,vf,al,ih (Bk.le_refl _) x rs fo (fun i' y' hy'=>?_) (Keep.refl _ _ _) (fun p=>Nat.le_refl _)⟩
      rw [lookE_cons] at hy'
      by_cases hii:i' = i
      ·rw [if_pos hii] at hy'
       cases hy'
       refine ⟨len,hst,?_⟩
       simp only [Env.put,hii,if_true]
       exact hk
      ·rw [if_neg hii] at hy'
       simp only [Env.put,hii,if_false]
       exact eo i' y' hy'
     ·cases e0
    | bnd j d k =>
     have hd:=hl.1
     simp only [dside,Bool.and_eq_true,List.contains_eq_mem,decide_eq_true_eq] at hd
     have hij:=Nat.eq_of_beq_eq_true hd.1
     subst hij
     obtain ⟨f1,f2,f3,f4⟩:=strip_spec (o:=opAt ops i) hstrip rfl
     have e0:stBnd i d k cf s = some s1:=hgo
     rw [stBnd_eq] at e0
     split at e0
     ·rename_i z hz
      cases e0
      obtain ⟨len,hst,hk⟩:=eo i z hz
      show sdraw P M ops pp loud Q ((i,true) :: l.map ent) Tc h F E
      simp only [sdraw,hd.2,if_true]
      intro b hb
      obtain ⟨o1,o2⟩:=hk β s.n b h (x.2.put_le _)
      have hr:=x.2.alloc hb o1 (by rw [hst]; exact Nat.zero_le _)
      have f1':(opAt ops i).dst = dn (some d):=f1
      rw [f1']
      have ne:∀ e1 ∈ s.rs,e1.1 ≠ s.n:=fun e1 he1 e2=>by
       obtain ⟨_,_,z',hz'⟩:=rs e1 he1
       rw [e2,x.2.nn] at hz'; cases hz'
      refine ih (x.2.put_le _) ⟨(x.1.le (x.2.put_le _)).put d o2,hr⟩ (fun e1 he1=>?_) (fun A hA g hg=>fo A hA g fun e1 he1 z' hz'=>?_) (eo.le (x.2.put_le _) rfl) (x.2.alloc_keep _ hb) (st_new x.2 _)
      ·obtain ⟨r1,r2,z',r3⟩:=rs e1 he1
       show (hget e1.1 (hset s.n z.o s.H)).live = true ∧ _
       rw [hget_ne (ne e1 he1)]
       exact ⟨r1,r2,z',x.2.put_le _ _ _ r3⟩
      ·rw [hg e1 he1 z' (x.2.put_le _ _ _ hz')]
       obtain ⟨r1,_⟩:=rs e1 he1
       exact Heap.set_other _ _ fun e2=>x.2.at_ e1.1 z' hz' r1 (by rw [e2]; exact hb)
     ·cases e0
end
end Go.Proofs.YtihdpjinaafenaaGreatDoor.Ce

/- The evaluator: code, functions. -/
namespace Go.Proofs.YtihdpjinaafenaaGreatDoor.Ce
open Go.Proofs.YtihdpjinaafenaaGreatDoor.Sl
open Ab (isOne isMany isSl isArr isIntT isStr zeroIs okCall)
abbrev RG:=CF → K4 → K4
inductive CC where
 | skip | reg (id:Nat) (dr:Bool) (ix:List Nat) (ens:List EN) (g:Option RG) | seq (a b:CC) | cond (c:CP) (a b:CC) | block (id:Nat) (a:CC) | loop (a:CC) | exit (id:Nat) | ret
abbrev CC.rg (id:Nat) (ens:List EN):CC:=.reg id false [] ens none
def condK (c:CV) (x y:Ao):Ao:=CV.onB .no (fun t=>Bool.rec y x t) c
def no4:K4:=fun _ _ _ _=>.no
def denF (m:Nat) (c:CC):Bx (CF → K4 → (Nat → K4) → K4 → K4) :=
 CC.rec (motive:=fun _=>Bx (CF → K4 → (Nat → K4) → K4 → K4)) (.mk fun _ κ _ _=>κ)
  (fun _ _ _ ens g=>Option.rec (Bx.rec (fun f=>.mk fun cf κ _ _ T H n ck=>f cf (fun T H n ck _ _=>κ T H n ck) T H n ck [] []) (gosF ens)) (fun g=>.mk fun cf κ _ _=>g cf κ) g)
  (fun _ _ a b=>Bx.rec (fun fa=>Bx.rec (fun fb=>.mk fun cf κ η ρ=>fa cf (fb cf κ η ρ) η ρ) b) a)
  (fun c _ _ a b=>Bx.rec (fun fc=>Bx.rec (fun fa=>Bx.rec (fun fb=>.mk fun cf κ η ρ T H n ck=>condK (fc T) (fa cf κ η ρ T H n ck) (fb cf κ η ρ T H n ck)) b) a) c.gf)
  (fun id _ a=>Bx.rec (fun fa=>.mk fun cf κ η ρ=>fa cf κ (fun j=>Bool.rec (η j) κ (Nat.beq j id)) ρ) a)
  (fun _ a=>Bx.rec (fun fa=>.mk fun cf _ η ρ=>Nat.rec no4 (fun _ ih=>fa cf ih η ρ) m) a) (fun id=>.mk fun _ _ η _=>η id) (.mk fun _ _ _ ρ=>ρ) c
def den (m:Nat) (cf:CF) (c:CC):K4 → (Nat → K4) → K4 → K4:=(denF m c).f cf
section
variable {m : Nat} {cf : CF} {κ ρ : K4} {η : Nat → K4} {T : SL CV} {H : CH} {n : Id} {ck : Nat}
def regF (ens:List EN):RG:=fun cf κ T H n ck=>(gosF ens).f cf (fun T H n ck _ _=>κ T H n ck) T H n ck [] []
theorem den_reg (id:Nat) (dr:Bool) (ix:List Nat) (ens:List EN) (g:Option RG) (hg:ens.all EN.gok = true) (h:∀ f,g = some f → f = regF ens):den m cf (.reg id dr ix ens g) κ η ρ T H n ck = match gos cf ens ⟨T,H,n,ck,[],[]⟩ with | some s=>κ s.T s.H s.n s.ck | none=>.no:=by
 have key:regF ens cf κ T H n ck = match gos cf ens ⟨T,H,n,ck,[],[]⟩ with | some s=>κ s.T s.H s.n s.ck | none=>.no:=by
  unfold regF
  rw [gosF_eq _ _ _ _ _ _ _ hg]; rfl
 cases g with
 | some f =>
  rw [← key,← h f rfl]; rfl
 | none =>
  rw [← key]
  obtain ⟨f,h1,h2⟩:=(gosF ens).out
  show (Bx.rec (motive:=fun _=>Bx (CF → K4 → (Nat → K4) → K4 → K4)) (fun f=>.mk fun cf κ _ _ T H n ck=>f cf (fun T H n ck _ _=>κ T H n ck) T H n ck [] []) (gosF ens)).f cf κ η ρ T H n ck = _
  unfold regF
  rw [h1]; rfl
theorem den_seq (a b:CC):den m cf (.seq a b) κ η ρ = den m cf a (den m cf b κ η ρ) η ρ:=by
 unfold den
 show (Bx.rec (motive:=fun _=>Bx (CF → K4 → (Nat → K4) → K4 → K4)) (fun fa=>Bx.rec (motive:=fun _=>Bx (CF → K4 → (Nat → K4) → K4 → K4)) (fun fb=>.mk fun cf κ η ρ=>fa cf (fb cf κ η ρ) η ρ) (denF m b)) (denF m a)).f cf κ η ρ = _
 cases denF m a; cases denF m b; rfl
theorem den_cond (c:CP) (a b:CC):den m cf (.cond c a b) κ η ρ T H n ck = condK (c.get T) (den m cf a κ η ρ T H n ck) (den m cf b κ η ρ T H n ck):=by
 unfold den CP.get
 show (Bx.rec (motive:=fun _=>Bx (CF → K4 → (Nat → K4) → K4 → K4)) (fun fc=>Bx.rec (motive:=fun _=>Bx (CF → K4 → (Nat → K4) → K4 → K4)) (fun fa=>Bx.rec (motive:=fun _=>Bx (CF → K4 → (Nat → K4) → K4 → K4)) (fun fb=>.mk fun cf κ η ρ T H n ck=>condK (fc T) (fa cf κ η ρ T H n ck) (fb cf κ η ρ T H n ck)) (denF m b)) (denF m a)) c.gf).f cf κ η ρ T H n ck = _
 cases denF m a; cases denF m b; cases c.gf; rfl
theorem den_block (id:Nat) (a:CC):den m cf (.block id a) κ η ρ = den m cf a κ (fun j=>Bool.rec (η j) κ (Nat.beq j id)) ρ:=by
 unfold den
 show (Bx.rec (motive:=fun _=>Bx (CF → K4 → (Nat → K4) → K4 → K4)) (fun fa=>.mk fun cf κ η ρ=>fa cf κ (fun j=>Bool.rec (η j) κ (Nat.beq j id)) ρ) (denF m a)).f cf κ η ρ = _
 cases denF m a; rfl
theorem den_loop (a:CC):den m cf (.loop a) κ η ρ = Nat.rec no4 (fun _ ih=>den m cf a ih η ρ) m:=by
 unfold den
 show (Bx.rec (motive:=fun _=>Bx (CF → K4 → (Nat → K4) → K4 → K4)) (fun fa=>.mk fun cf _ η ρ=>Nat.rec no4 (fun _ ih=>fa cf ih η ρ) m) (denF m a)).f cf κ η ρ = _
 cases denF m a; rfl
end
inductive CR where
 | t (p:Sp) | c1 (p:Sp) (ty:Nat) | cN (p:Sp) (ty n:Nat)
inductive SP where
 | c (a:CC) | seq (a b:SP) | block (id:Nat) (a:SP) | rf (g:CP) (ps:List Sp) (A B:CC)
def SP.rfI:SP → Option (List Sp × CC × CC)
 | .c _=>none
 | .seq a b=>match a.rfI with
  | some r=>some r
  | none=>b.rfI
 | .block _ a=>a.rfI
 | .rf _ ps A B=>some (ps,A,B)
structure CFn where
 nt:Nat
 code:SP
 res:List CR
abbrev CG:=Tr (Option CFn)
def argT (p:Sp) (l:List CV) (T:SL CV):SL CV:=List.rec (motive:=fun _=>Sp → SL CV → SL CV) (fun _ T=>T) (fun c _ ih p T=>ih p.succ (sset p c T)) l p T
def resC (T:SL CV) (H:CH):CR → Option CV
 | .t p=>some (sget p T)
 | .c1 p _=>match sget p T with
  | .p id off=>match hget id H with
   | .cells _ _ cs=>nth cs off
   | _=>none
  | _=>none
 | .cN p _ n=>match sget p T with
  | .p id off=>match hget id H with
   | .cells _ _ cs=>bif leR (off + n) cs then some (.agg (takeR (dropR cs off) n)) else none
   | _=>none
  | _=>none
def resCs (T:SL CV) (H:CH):List CR → Option (List CV)
 | []=>some []
 | r :: rs=>match resC T H r with
  | some v=>match resCs T H rs with
   | some vs=>some (v :: vs)
   | none=>none
  | none=>none
def resF (T:SL CV) (H:CH) (l:List CR):Option CV:=match l with
 | [r]=>resC T H r
 | l=>match resCs T H l with
  | some vs=>some (.tup vs)
  | none=>none
def retF (l:List CR):K4:=fun T H n ck=>Option.rec .no (fun v=>.ok v H n ck) (resF T H l)
theorem retF_eq (l:List CR) (T:SL CV) (H:CH) (n:Id) (ck:Nat):retF l T H n ck = match resF T H l with
 | some v=>.ok v H n ck
 | none=>.no:=by
 show Option.rec (motive:=fun _=>Ao) .no (fun v=>.ok v H n ck) (resF T H l) = _
 cases resF T H l <;> rfl
abbrev NF:=List CV → CH → Id → Nat → Option Ao
abbrev Om:=Pos → NF
def setPT (l:List Sp):List CV → SL CV → SL CV:=List.rec (motive:=fun _=>List CV → SL CV → SL CV) (fun _ T=>T) (fun p _ ih vs T=>List.rec T (fun v vs _=>ih vs (sset p v T)) vs) l
def rangeK (cf:CF1) (f:Pos) (g:CV) (κ:K4) (T:SL CV) (H:CH) (n:Id) (ck:Nat):Ao:=match g with
 | .fn g' xs ys=>match cf g' (xs ++ (.yl n :: ys)) (hset n (.lp ck false f T) H) n.succ ck with
  | .ok _ H n1 ck=>match hget n H with
   | .lp _ false _ _=>κ T (hset n (.dead (ck + 1)) H) n1 (ck + 1)
   | _=>.no
  | .no=>.no
 | _=>.no
def evS (m:Nat) (cf:CF) (f:Pos) (x:SP):K4 → (Nat → K4) → K4 → K4:=SP.rec (motive:=fun _=>K4 → (Nat → K4) → K4 → K4) (fun a=>den m cf a)
 (fun _ _ a b κ η ρ=>a (b κ η ρ) η ρ)
 (fun id _ a κ η ρ=>a κ (fun j=>Bool.rec (η j) κ (Nat.beq j id)) ρ)
 (fun g _ _ _ κ _ _ T H n ck=>rangeK cf.c f (g.get T) κ T H n ck) x
def callF1 (cf:CF) (m:Nat) (ω:Om) (G:CG):CF1:=fun f args H n ck=>Bool.rec .no (Option.rec (Option.rec .no (fun fn=>Bool.rec .no (evS m cf f fn.code (retF fn.res) (fun _=>no4) (retF fn.res) (argT ⟨.d0,.d0⟩ args sl0) H n ck) (Nat.ble (lenR args) fn.nt)) (Tr.get none f G)) (fun a=>a) (ω f args H n ck)) (Nat.ble ck 1000000000000)
theorem callF1_eq (cf:CF) (m:Nat) (ω:Om) (G:CG) (f:Pos) (args:List CV) (H:CH) (n:Id) (ck:Nat)  (hc:Nat.ble ck 1000000000000 = true):callF1 cf m ω G f args H n ck = match ω f args H n ck with
 | some a=>a
 | none=>match Tr.get none f G with
  | some fn=>bif Nat.ble args.length fn.nt then evS m cf f fn.code (retF fn.res) (fun _=>no4) (retF fn.res) (argT ⟨.d0,.d0⟩ args sl0) H n ck else .no
  | none=>.no:=by
 show Bool.rec (motive:=fun _=>Ao) .no (Option.rec (motive:=fun _=>Ao) (Option.rec (motive:=fun _=>Ao) .no (fun fn=>Bool.rec .no (evS m cf f fn.code (retF fn.res) (fun _=>no4) (retF fn.res) (argT ⟨.d0,.d0⟩ args sl0) H n ck) (Nat.ble (lenR args) fn.nt)) (Tr.get none f G)) (fun a=>a) (ω f args H n ck)) (Nat.ble ck 1000000000000) = _
 rw [hc]
 cases ω f args H n ck with
 | some v=>rfl
 | none =>
  cases Tr.get none f G with
  | none=>rfl
  | some fn =>
   show Bool.rec (motive:=fun _=>Ao) .no (evS m cf f fn.code (retF fn.res) (fun _=>no4) (retF fn.res) (argT ⟨.d0,.d0⟩ args sl0) H n ck) (Nat.ble (lenR args) fn.nt) = (bif Nat.ble args.length fn.nt then _ else Ao.no)
   rw [lenR_eq]
   cases Nat.ble args.length fn.nt <;> rfl
def round2 (id:Id):K4:=fun _ H n ck=>match hget id H with
 | .lp _ _ f2 T2=>.ok (.b true) (hset id (.lp (ck + 1) false f2 T2) H) n (ck + 1)
 | _=>.no
def round1 (m:Nat) (cf:CF) (id:Id) (B:CC):K4:=fun T H n ck=>match hget id H with
 | .lp _ false f1 T1=>den m cf B (round2 id) (fun _=>no4) no4 T (hset id (.lp (ck + 1) true f1 T1) H) n (ck + 1)
 | _=>.no
def yieldF (m:Nat) (cf:CF) (G:CG):YF:=fun id args H n ck=>match hget id H with
 | .lp _ false f T=>match (match Tr.get none f G with
   | some fn=>fn.code.rfI
   | none=>none) with
  | some r=>bif Nat.beq r.1.length args.length then den m cf r.2.1 (round1 m cf id r.2.2) (fun _=>no4) no4 (setPT r.1 args T) H n ck else .no
  | none=>.no
 | _=>.no
def evF (m:Nat) (ω:Om) (G:CG) (n:Nat):CF:=Nat.rec ⟨fun _ _ _ _ _=>.no,fun _ _ _ _ _=>.no⟩ (fun _ ih=>⟨callF1 ih m ω G,yieldF m ih G⟩) n
abbrev T3:=Option Nat × Op × Option (Nat × Bool)
variable {P : Program}
def EN.actQ:EN → Option Bool
 | .a _ _ q | .cl _ _ _ _ q | .cv _ _ _ _ q=>some q
 | .gd _ _ y=>y.actQ
 | _=>none
def EN.isPre:EN → Bool
 | .pre _ _ _=>true
 | _=>false
def loudOf (l:List (Nat × EN)):List Nat:=l.filterMap fun e=>match e.2.actQ with
 | some false=>some e.1
 | _=>none
def ppOf (l:List (Nat × EN)):List Nat:=l.filterMap fun e=>if e.2.isPre then some e.1 else none
def shape (N:Kn P) (M:Nat):Code → CC → Bool
 | .skip,.skip=>true
 | .region id ops dr,.reg id' dr' ix ens _=>Nat.beq id id' && dr == dr' && ens.all EN.gok && (match dr with
  | false=>Nat.beq ops.size ens.length && ens.all fun y=>y.side N && y.okN M && (y.plain || (match y with | .gd _ _ _=>true | _=>false))
  | true=>let l:=ix.zip ens
   Nat.beq ix.length ens.length && l.all (dside N (ppOf l) (loudOf l)) && drawOk ops (l.map ent) (ppOf l) (loudOf l) && (List.range ops.size).all (fun i=>match (opAt ops i).dst with | some t=>decide (t < M) | none=>true))
 | .seq a b,.seq a' b'=>shape N M a a' && shape N M b b'
 | .cond c a b,.cond c' a' b'=>c'.ok && shape N M a a' && shape N M b b'
 | .block id a,.block id' a'=>Nat.beq id id' && shape N M a a'
 | .loop a,.loop a'=>shape N M a a'
 | .exit id,.exit id'=>Nat.beq id id'
 | .ret,.ret=>true
 | _,_=>false
def lhs:Code → CC → List T3
 | .region _ ops _,.reg _ dr ix ens _=>match dr with
  | false=>ops.toList.map (strip3 ops)
  | true=>(ix.zip ens).map fun e=>strip3 ops (opAt ops e.1)
 | .seq a b,.seq a' b'=>lhs a a' ++ lhs b b'
 | .cond c a b,.cond _ a' b'=>(none,.move c,none) :: (lhs a a' ++ lhs b b')
 | .block _ a,.block _ a'=>lhs a a'
 | .loop a,.loop a'=>lhs a a'
 | _,_=>[]
def rhs:CC → List T3
 | .reg _ dr ix ens _=>match dr with
  | false=>ens.map EN.strip
  | true=>(ix.zip ens).map fun e=>e.2.strip
 | .seq a b=>rhs a ++ rhs b
 | .cond c a b=>(none,.move c.op,none) :: (rhs a ++ rhs b)
 | .block _ a=>rhs a
 | .loop a=>rhs a
 | _=>[]
theorem lhs_len {N:Kn P} {M:Nat}:∀ {c:Code} {c':CC},shape N M c c' = true → (lhs c c').length = (rhs c').length:=by
 intro c
 induction c with
 | region id ops dr =>
  intro c' h
  cases c' with
  | reg id' dr' ix ens g =>
   simp only [shape,Bool.and_eq_true] at h
   obtain ⟨⟨⟨_,h1⟩,_⟩,h2⟩:=h
   have h1:dr = dr':=by simpa using h1
   subst h1
   cases dr with
   | false =>
    simp only [Bool.and_eq_true] at h2
    have:=Nat.eq_of_beq_eq_true h2.1
    simp [lhs,rhs,this]
   | true=>simp [lhs,rhs]
  | _=>cases h
 | seq a b iha ihb =>
  intro c' h
  cases c' with
  | seq a' b' =>
   simp only [shape,Bool.and_eq_true] at h
   simp [lhs,rhs,iha h.1,ihb h.2]
  | _=>cases h
 | cond c a b iha ihb =>
  intro c' h
  cases c' with
  | cond d a' b' =>
   simp only [shape,Bool.and_eq_true] at h
   simp [lhs,rhs,iha h.1.2,ihb h.2]
  | _=>cases h
 | block id a iha =>
  intro c' h
  cases c' with
  | block id' a'=>simp only [shape,Bool.and_eq_true] at h; simp [lhs,rhs,iha h.2]
  | _=>cases h
 | loop a iha =>
  intro c' h
  cases c' with
  | loop a'=>simp only [shape] at h; simp [lhs,rhs,iha h]
  | _=>cases h
 | skip=>intro c' h; cases c' <;> first | rfl | cases h
 | exit id=>intro c' h; cases c' <;> first | rfl | cases h
 | ret=>intro c' h; cases c' <;> first | rfl | cases h
 | _=>intro c' h; cases c' <;> cases h
def gl:CC → List RG
 | .reg _ _ _ _ g=>g.toList
 | .seq a b=>gl a ++ gl b
 | .cond _ a b=>gl a ++ gl b
 | .block _ a=>gl a
 | .loop a=>gl a
 | _=>[]
def hl:CC → List RG
 | .reg _ _ _ ens g=>match g with
  | some _=>[regF ens]
  | none=>[]
 | .seq a b=>hl a ++ hl b
 | .cond _ a b=>hl a ++ hl b
 | .block _ a=>hl a
 | .loop a=>hl a
 | _=>[]
theorem gl_len:∀ c:CC,(gl c).length = (hl c).length:=by
 intro c
 induction c with
 | reg _ _ _ _ g=>cases g <;> rfl
 | seq a b iha ihb=>simp [gl,hl,iha,ihb]
 | cond _ a b iha ihb=>simp [gl,hl,iha,ihb]
 | block _ a iha=>simpa [gl,hl] using iha
 | loop a iha=>simpa [gl,hl] using iha
 | _=>rfl
structure Fit (N:Kn P) (M:Nat) (c:Code) (c':CC):Prop where
 sh:shape N M c c' = true
 eq:lhs c c' = rhs c'
 gs:gl c' = hl c'
def CR.rv:CR → ResultVar
 | .t p=>.tmp (p.nat - 1)
 | .c1 p ty=>.cell (p.nat - 1) ty
 | .cN p ty _=>.cell (p.nat - 1) ty
def CR.side (P:Program):CR → Bool
 | .t _=>true
 | .c1 _ ty=>isOne P ty
 | .cN _ ty n=>isMany P ty && P.cellsOf ty == n
def shapeS (N:Kn P) (M:Nat):Code → SP → Bool
 | .seq x y,.seq a b=>shapeS N M x a && shapeS N M y b && (a.rfI.isNone || b.rfI.isNone)
 | .block id x,.block id' a=>Nat.beq id id' && shapeS N M x a
 | .rangeFunc _ ps A B,.rf g' ps' A' B'=>g'.ok && shape N M A A' && shape N M B B' && Nat.beq ps.size ps'.length && ps'.all fun p=>decide (p.nat - 1 < M)
 | c,.c a=>shape N M c a
 | _,_=>false
def lhsS:Code → SP → List T3
 | .seq x y,.seq a b=>lhsS x a ++ lhsS y b
 | .block _ x,.block _ a=>lhsS x a
 | .rangeFunc g ps A B,.rf _ _ A' B'=>(none,.move g,none) :: (ps.toList.map (fun t=>(some t,.move (.tmp t),none)) ++ (lhs A A' ++ lhs B B'))
 | c,.c a=>lhs c a
 | _,_=>[]
def rhsS:SP → List T3
 | .seq a b=>rhsS a ++ rhsS b
 | .block _ a=>rhsS a
 | .rf g ps A B=>(none,.move g.op,none) :: (ps.map (fun p=>(some (p.nat - 1),.move (.tmp (p.nat - 1)),none)) ++ (rhs A ++ rhs B))
 | .c a=>rhs a
theorem shapeS_c {N:Kn P} {M:Nat} (c:Code) (a:CC):shapeS N M c (.c a) = shape N M c a:=by
 cases c <;> rfl
theorem lhsS_c (c:Code) (a:CC):lhsS c (.c a) = lhs c a:=by
 cases c <;> rfl
theorem lhsS_len {N:Kn P} {M:Nat}:∀ {c:Code} {x:SP},shapeS N M c x = true → (lhsS c x).length = (rhsS x).length:=by
 intro c x
 induction x generalizing c with
 | c a=>intro h; rw [shapeS_c] at h; rw [lhsS_c]; exact lhs_len h
 | seq a b iha ihb =>
  intro h
  cases c <;> first | (cases h; done) | skip
  simp only [shapeS,Bool.and_eq_true] at h
  simp [lhsS,rhsS,iha h.1.1,ihb h.1.2]
 | block id a iha =>
  intro h
  cases c <;> first | (cases h; done) | skip
  simp only [shapeS,Bool.and_eq_true] at h
  simp [lhsS,rhsS,iha h.2]
 | rf g ps A B =>
  intro h
  cases c <;> first | (cases h; done) | skip
  simp only [shapeS,Bool.and_eq_true] at h
  have:=Nat.eq_of_beq_eq_true h.1.2
  simp [lhsS,rhsS,lhs_len h.1.1.1.2,lhs_len h.1.1.2,this]
theorem rfC_none {N:Kn P} {M:Nat}:∀ {c:Code} {a:CC},shape N M c a = true → rfC c = none:=by
 intro c
 induction c with
 | seq x y ihx ihy =>
  intro a h
  cases a <;> first | (cases h; done) | skip
  simp only [shape,Bool.and_eq_true] at h
  simp [rfC,ihx h.1,ihy h.2]
 | block id x ihx =>
  intro a h
  cases a <;> first | (cases h; done) | skip
  simp only [shape,Bool.and_eq_true] at h
  simp [rfC,ihx h.2]
 | rangeFunc g ps A B=>intro a h; cases a <;> cases h
 | _=>intro a h; rfl
def glS:SP → List RG
 | .c a=>gl a
 | .seq a b=>glS a ++ glS b
 | .block _ a=>glS a
 | .rf _ _ A B=>gl A ++ gl B
def hlS:SP → List RG
 | .c a=>hl a
 | .seq a b=>hlS a ++ hlS b
 | .block _ a=>hlS a
 | .rf _ _ A B=>hl A ++ hl B
theorem glS_len:∀ c:SP,(glS c).length = (hlS c).length:=by
 intro c
 induction c with
 | c a=>exact gl_len a
 | seq a b iha ihb=>simp [glS,hlS,iha,ihb]
 | block _ a iha=>simpa [glS,hlS] using iha
 | rf _ _ A B=>simp [glS,hlS,gl_len]
structure FitS (N:Kn P) (M:Nat) (c:Code) (x:SP):Prop where
 sh:shapeS N M c x = true
 eq:lhsS c x = rhsS x
 gs:glS x = hlS x
theorem fitS_seq {N:Kn P} {M:Nat} {x y:Code} {a b:SP} (f:FitS N M (.seq x y) (.seq a b)):FitS N M x a ∧ FitS N M y b ∧ (a.rfI = none ∨ b.rfI = none):=by
 obtain ⟨sh,eq,gs⟩:=f
 simp only [shapeS,Bool.and_eq_true,Bool.or_eq_true,Option.isNone_iff_eq_none] at sh
 simp only [lhsS,rhsS] at eq
 simp only [glS,hlS] at gs
 obtain ⟨e1,e2⟩:=List.append_inj eq (lhsS_len sh.1.1)
 obtain ⟨g1,g2⟩:=List.append_inj gs (glS_len _)
 exact ⟨⟨sh.1.1,e1,g1⟩,⟨sh.1.2,e2,g2⟩,sh.2⟩
def fnOk (N:Kn P) (f:Pos) (g:CFn):Bool:=match P.funcs[f.nat - 1]? with
 | some fn=>match fn.body with
  | some c=>shapeS N fn.ntmps c g.code && okCall P (f.nat - 1) && g.res.all (CR.side P) && Nat.ble g.nt fn.ntmps && Nat.ble g.nt 256
  | none=>false
 | none=>false
structure FnFit (N:Kn P) (f:Pos) (g:CFn):Prop where
 ok:fnOk N f g = true
 eq:((P.funcs[f.nat - 1]?).bind (·.body)).map (fun c=>lhsS c g.code) = some (rhsS g.code)
 res:(P.funcs[f.nat - 1]?).map (·.results) = some (g.res.map CR.rv).toArray
 gs:glS g.code = hlS g.code
def GFit (N:Kn P) (G:CG):Prop:=∀ f g,Tr.get none f G = some g → FnFit N f g
inductive AllF (N:Kn P):(Pos → Pos) → CG → Prop where
 | e {k:Pos → Pos}:AllF N k .e
 | n {k:Pos → Pos} {v:Option CFn} {l r:CG} (hv:∀ g,v = some g → FnFit N (k .h) g) (hl:AllF N (fun p=>k (.o p)) l) (hr:AllF N (fun p=>k (.i p)) r):AllF N k (.n v l r)
theorem AllF.no {N:Kn P} {f:Pos}:∀ g,(none:Option CFn) = some g → FnFit N f g:=fun g e=>by cases e
theorem AllF.v {N:Kn P} {f:Pos} {c:CFn} (h:FnFit N f c):∀ g,some c = some g → FnFit N f g:=fun g e=>by cases e; exact h
theorem allF_get {N:Kn P} {k:Pos → Pos} {G:CG} (a:AllF N k G):∀ f g,Tr.get none f G = some g → FnFit N (k f) g:=by
 induction a with
 | e=>intro f g h; rw [Tr.get_e] at h; cases h
 | n hv hl hr ihl ihr =>
  intro f g h
  cases f with
  | h=>exact hv g h
  | o p=>exact ihl p g h
  | i p=>exact ihr p g h
theorem allF_fit {N:Kn P} {G:CG} (a:AllF N (fun p=>p) G):GFit N G:=allF_get a
end Go.Proofs.YtihdpjinaafenaaGreatDoor.Ce

/- The evaluator: what it says of code holds of the program. -/
namespace Go.Proofs.YtihdpjinaafenaaGreatDoor.Ce
open Go.Proofs.YtihdpjinaafenaaGreatDoor.Sl
open Ab (isOne isMany isSl isArr isIntT isStr zeroIs okCall)
variable {P : Program}
def Got (N:Kn P) (β:Bk) (s:St) (h:Heap) (κ:K4) (η:Nat → K4) (ρ:K4) (a:Ao):Exit → Tm → Heap → Prop:=fun e T' h'=>match e with
 | .normal=>∃ s',After N β s h s' T' h' ∧ κ s'.T s'.H s'.n s'.ck = a
 | .exit id=>∃ s',After N β s h s' T' h' ∧ η id s'.T s'.H s'.n s'.ck = a
 | .ret=>∃ s',After N β s h s' T' h' ∧ ρ s'.T s'.H s'.n s'.ck = a
 | _=>False
section
variable {N : Kn P} {β β' : Bk} {s s' s1 : St} {h h' h1 : Heap} {Tc Tc' : Tm} {cf : CF} {M : Nat} {G : CG} {κ ρ : K4} {η : Nat → K4} {a : Ao}
theorem Got.trans (l:β.le β') (k:Keep β s.H s1.H h h1) (m:∀ p,(hget p s.H).st ≤ (hget p s1.H).st) {e:Exit} {T':Tm} {h':Heap} (b:Got N β' s1 h1 κ η ρ a e T' h'):Got N β s h κ η ρ a e T' h':=by
 cases e <;> simp only [Got] at b ⊢
 all_goals first | exact b.elim | (obtain ⟨s2,b1,b2⟩:=b; exact ⟨s2,b1.trans l k m,b2⟩)
theorem reg_ok {m:Nat} (hcf:CfOk N cf) (hm:P.follows .mixedOrders = true) {id id':Nat} {ops:Array Oper} {dr dr':Bool} {ix:List Nat} {ens:List EN} {g:Option RG} (fit:Fit N M (.region id ops dr) (.reg id' dr' ix ens g)) (x:Sem N β s h Tc) (e:den m cf (.reg id' dr' ix ens g) κ η ρ s.T s.H s.n s.ck = a) (hne:a ≠ .no) :
  SCode P M (.region id ops dr) (Got N β s h κ η ρ a) Tc h:=by
 obtain ⟨sh,eq,gs⟩:=fit
 simp only [shape,Bool.and_eq_true] at sh
 obtain ⟨⟨⟨_,h1⟩,hg⟩,h2⟩:=sh
 have h1:dr = dr':=by simpa using h1
 subst h1
 rw [den_reg _ _ _ _ _ hg (fun f hf=>by subst hf; simpa [gl,hl] using gs)] at e
 split at e
 case h_2=>exact absurd e.symm hne
 rename_i s' e1
 have x0:Sem N β ⟨s.T,s.H,s.n,s.ck,[],[]⟩ h Tc:=x
 have fin:∀ T' h',After N β ⟨s.T,s.H,s.n,s.ck,[],[]⟩ h s' T' h' → Got N β s h κ η ρ a .normal T' h':=fun T' h' a=>⟨s',⟨a.out,a.keep,a.mono⟩,e⟩
 cases dr with
 | false =>
  simp only [Bool.and_eq_true] at h2
  simp only [lhs,rhs] at eq
  exact s_region (gos_sops hcf ens ops.toList eq h2.2 x0 e1 fin)
 | true =>
  simp only [Bool.and_eq_true] at h2
  obtain ⟨⟨⟨h3,h4⟩,h5⟩,h6⟩:=h2
  simp only [lhs,rhs] at eq
  have hlen:=Nat.eq_of_beq_eq_true h3
  have hsnd:(ix.zip ens).map (·.2) = ens:=by
   rw [List.map_snd_zip]; omega
  refine s_draw ((ix.zip ens).map ent) (ppOf (ix.zip ens)) (loudOf (ix.zip ens)) hm h5 h6 ?_
  refine gos_sdraw hcf (ix.zip ens) (fun e he=>?_) h4 x0 (fun e he=>by cases he) (fun A hA=>by cases hA) (fun i y hy=>by cases hy) (by rw [hsnd]; exact e1) fin
  obtain ⟨j,hj,rfl⟩:=List.mem_iff_getElem.1 he
  have:=congrArg (·[j]?) eq
  simp only [List.getElem?_map,List.getElem?_eq_getElem hj,Option.map_some,Option.some.injEq] at this
  exact this
theorem fit_seq {a b:Code} {a' b':CC} (f:Fit N M (.seq a b) (.seq a' b')):Fit N M a a' ∧ Fit N M b b':=by
 obtain ⟨sh,eq,gs⟩:=f
 simp only [shape,Bool.and_eq_true] at sh
 simp only [lhs,rhs] at eq
 simp only [gl,hl] at gs
 obtain ⟨e1,e2⟩:=List.append_inj eq (lhs_len sh.1)
 obtain ⟨g1,g2⟩:=List.append_inj gs (gl_len _)
 exact ⟨⟨sh.1,e1,g1⟩,⟨sh.2,e2,g2⟩⟩
theorem fit_cond {c:Operand} {d:CP} {a b:Code} {a' b':CC} (f:Fit N M (.cond c a b) (.cond d a' b')):c = d.op ∧ d.ok = true ∧ Fit N M a a' ∧ Fit N M b b':=by
 obtain ⟨sh,eq,gs⟩:=f
 simp only [shape,Bool.and_eq_true] at sh
 simp only [lhs,rhs,List.cons.injEq,Prod.mk.injEq,Op.move.injEq] at eq
 simp only [gl,hl] at gs
 obtain ⟨e1,e2⟩:=List.append_inj eq.2 (lhs_len sh.1.2)
 obtain ⟨g1,g2⟩:=List.append_inj gs (gl_len _)
 exact ⟨eq.1.2.1,sh.1.1,⟨sh.1.2,e1,g1⟩,⟨sh.2,e2,g2⟩⟩
theorem den_ok (hm:P.follows .mixedOrders = true) (hcf:CfOk N cf) (m:Nat):∀ (c':CC) (c:Code) (M:Nat) (β:Bk) (s:St) (h:Heap) (Tc:Tm) (κ:K4) (η:Nat → K4) (ρ:K4) (a:Ao),Fit N M c c' → Sem N β s h Tc → den m cf c' κ η ρ s.T s.H s.n s.ck = a → a ≠ .no → SCode P M c (Got N β s h κ η ρ a) Tc h:=by
 intro c'
 induction c' with
 | skip =>
  intro c M β s h Tc κ η ρ a fit x e hne
  cases c <;> first | (exact absurd fit.sh Bool.false_ne_true) | skip
  exact s_skip (Q:=Got N β s h κ η ρ a) ⟨s,.here x,e⟩
 | ret =>
  intro c M β s h Tc κ η ρ a fit x e hne
  cases c <;> first | (exact absurd fit.sh Bool.false_ne_true) | skip
  exact s_ret (Q:=Got N β s h κ η ρ a) ⟨s,.here x,e⟩
 | exit id' =>
  intro c M β s h Tc κ η ρ a fit x e hne
  cases c <;> first | (exact absurd fit.sh Bool.false_ne_true) | skip
  rename_i id
  have:=Nat.eq_of_beq_eq_true fit.sh
  subst this
  exact s_exit (Q:=Got N β s h κ η ρ a) ⟨s,.here x,e⟩
 | reg id' dr' ix ens g =>
  intro c M β s h Tc κ η ρ a fit x e hne
  cases c <;> first | (exact absurd fit.sh Bool.false_ne_true) | skip
  exact reg_ok hcf hm fit x e hne
 | seq a' b' iha ihb =>
  intro c M β s h Tc κ η ρ r fit x e hne
  cases c <;> first | (exact absurd fit.sh Bool.false_ne_true) | skip
  rename_i a b
  obtain ⟨fa,fb⟩:=fit_seq fit
  rw [den_seq] at e
  refine s_seq ((iha a M β s h Tc (den m cf b' κ η ρ) η ρ r fa x e hne).mono fun ex T1 h1 q=>?_)
  cases ex <;> simp only [Got] at q
  ·obtain ⟨s1,⟨⟨β1,l1,x1⟩,k1,m1⟩,e1⟩:=q
   exact (ihb b M β1 s1 h1 T1 κ η ρ r fb x1 e1 hne).mono fun ex T2 h2 q=>q.trans l1 k1 m1
  all_goals exact q
 | cond d a' b' iha ihb =>
  intro c M β s h Tc κ η ρ r fit x e hne
  cases c <;> first | (exact absurd fit.sh Bool.false_ne_true) | skip
  rename_i c a b
  obtain ⟨hc,hd,fa,fb⟩:=fit_cond fit
  rw [den_cond] at e
  unfold condK at e
  rw [CV.onB_eq] at e
  split at e
  ·rename_i t ht
   have hv:=g_b x.1 hd ht
   cases t with
   | true=>exact s_cond (t:=true) (by rw [hc]; exact hv) (iha a M β s h Tc κ η ρ r fa x e hne)
   | false=>exact s_cond (t:=false) (by rw [hc]; exact hv) (ihb b M β s h Tc κ η ρ r fb x e hne)
  ·exact absurd e.symm hne
 | block id' a' iha =>
  intro c M β s h Tc κ η ρ r fit x e hne
  cases c <;> first | (exact absurd fit.sh Bool.false_ne_true) | skip
  rename_i id a
  have sh:=fit.sh
  simp only [shape,Bool.and_eq_true] at sh
  have hid:=Nat.eq_of_beq_eq_true sh.1
  subst hid
  have fa:Fit N M a a':=⟨sh.2,fit.eq,fit.gs⟩
  rw [den_block] at e
  refine s_block ((iha a M β s h Tc κ (fun j=>Bool.rec (η j) κ (Nat.beq j id)) ρ r fa x e hne).mono fun ex T1 h1 q=>?_)
  cases ex <;> simp only [Got] at q
  ·exact q
  ·rename_i j
   obtain ⟨s1,a1,e1⟩:=q
   simp only [blockS]
   cases hk:Nat.beq j id with
   | true =>
    rw [if_pos (Nat.eq_of_beq_eq_true hk)]
    rw [hk] at e1
    exact ⟨s1,a1,e1⟩
   | false =>
    rw [if_neg (fun e=>by rw [e,Nat.beq_refl] at hk; cases hk)]
    rw [hk] at e1
    exact ⟨s1,a1,e1⟩
  ·exact q
 | loop a' iha =>
  intro c M β s h Tc κ η ρ r fit x e hne
  cases c <;> first | (exact absurd fit.sh Bool.false_ne_true) | skip
  rename_i c
  have fa:Fit N M c a':=⟨fit.sh,fit.eq,fit.gs⟩
  rw [den_loop] at e
  generalize hL:(fun k:Nat=>(Nat.rec no4 (fun _ ih=>den m cf a' ih η ρ) k:K4)) = L
  have h0:L 0 = no4:=by subst hL; rfl
  have hS:∀ k,L (k + 1) = den m cf a' (L k) η ρ:=fun k=>by subst hL; rfl
  replace e:L m s.T s.H s.n s.ck = r:=by subst hL; exact e
  refine s_loop (fun k T1 h1=>∃ β1 s1,β.le β1 ∧ Sem N β1 s1 h1 T1 ∧ Keep β s.H s1.H h h1 ∧ (∀ p,(hget p s.H).st ≤ (hget p s1.H).st) ∧ L k s1.T s1.H s1.n s1.ck = r) (n0:=m) ⟨β,s,Bk.le_refl _,x,Keep.refl _ _ _,fun p=>Nat.le_refl _,e⟩ ?_
  rintro k T1 h1 ⟨β1,s1,l1,x1,k1,m1,e1⟩
  cases k with
  | zero=>rw [h0] at e1; exact absurd e1.symm hne
  | succ k =>
   rw [hS] at e1
   refine (iha c M β1 s1 h1 T1 (L k) η ρ r fa x1 e1 hne).mono fun ex T2 h2 q=>?_
   cases ex <;> simp only [Got] at q
   ·obtain ⟨s2,⟨⟨β2,l2,x2⟩,k2,m2⟩,e2⟩:=q
    exact ⟨k,Nat.lt_succ_self k,β2,s2,Bk.le_trans l1 l2,x2,Keep.trans k1 l1 k2 m2,fun p=>Nat.le_trans (m1 p) (m2 p),e2⟩
   all_goals
    obtain ⟨s2,a2,e2⟩:=q
    exact ⟨s2,a2.trans l1 k1 m1,e2⟩
end
end Go.Proofs.YtihdpjinaafenaaGreatDoor.Ce
