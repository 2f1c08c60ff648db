import Derived.Test.YtihdpjinaafenaaGreatDoorNb4
noncomputable section
/- Loops over functions: the statement, a round, a call of yield, a function that holds such a loop. -/
set_option linter.unusedVariables false
set_option linter.unusedSimpArgs false
namespace Go.Proofs.YtihdpjinaafenaaGreatDoor.Sl
section
variable {P : Program} {N : Nat} {Q : Exit → Tm → Heap → Prop} {T : Tm} {h : Heap} {w : World}
theorem rel_alloc (r:Rel h w) (o:Obj):Rel (h.set w.heap.size o) (w.alloc o):=fun b o' e=>by
 by_cases hb:b = w.heap.size
 ·subst hb; rw [Heap.set_same] at e; cases e; exact heap_alloc_new w o
 ·rw [Heap.set_other _ _ hb] at e; rw [heap_alloc w o b (r.lt e)]; exact r b o' e
theorem rel_alloc_same (r:Rel h w) (o:Obj):Rel h (w.alloc o):=fun b o' e=>by
 rw [heap_alloc w o b (r.lt e)]; exact r b o' e
def Mk (B:Nat) (h:Heap) (w:World) (m:Bool) (D:List Deferred):Prop:=match m with
 | false=>D = []
 | true=>∃ r,D = [{ target:=.collected r,args:=#[] }] ∧ B ≤ r ∧ r < w.heap.size ∧ h r = none ∧ w.heap[r]? = some (.deferred (some []))
theorem Mk.step {B:Nat} {h':Heap} {w':World} {m:Bool} {D:List Deferred} (k:Mk B h w m D) (st:Step h h' w w'):Mk B h' w' m D:=by
 cases m with
 | false=>exact k
 | true =>
  obtain ⟨r,e,h1,h2,h3,h4⟩:=k
  refine ⟨r,e,h1,Nat.lt_of_lt_of_le h2 st.size,?_,(st.keep r h2 h3).trans h4⟩
  cases e1:h' r with
  | none=>rfl
  | some o=>have:=st.fresh r h3 (by rw [e1]; simp); omega
def PostM (N B:Nat) (h:Heap) (w:World) (Q:Exit → Bool → Tm → Heap → Prop) (e:Exit) (a':Act) (w':World):Prop :=
 ∃ m' T' h' D',Q e m' T' h' ∧ Rel h' w' ∧ Step h h' w w' ∧ Reads N T' a' D' ∧ Mk B h' w' m' D'
def SCodeM (P:Program) (N:Nat) (c:Code) (m:Bool) (Q:Exit → Bool → Tm → Heap → Prop) (T:Tm) (h:Heap):Prop :=
 ∀ (B:Nat) (D:List Deferred) (w:World) (a:Act),B ≤ w.heap.size → Rel h w → Reads N T a D → Mk B h w m D → c.wpIn (wideR none) 0 P (PostM N B h w Q) a w
theorem SCodeM.mono {c:Code} {m:Bool} {Q Q':Exit → Bool → Tm → Heap → Prop} (s:SCodeM P N c m Q T h) (i:∀ e m T h,Q e m T h → Q' e m T h):SCodeM P N c m Q' T h :=
 fun B D w a hB r ra k=>wpIn_mono (s B D w a hB r ra k) fun e a' w' ⟨m',T',h',D',q,x⟩=>⟨m',T',h',D',i _ _ _ _ q,x⟩
theorem m_plain {c:Code} {m:Bool} (s:SCode P N c Q T h):SCodeM P N c m (fun e m' T' h'=>m' = m ∧ Q e T' h') T h :=
 fun B D w a hB r ra k=>wpIn_mono (s none D w a r ra) fun e a' w' ⟨T',h',q,r',st,ra'⟩=>⟨m,T',h',D,⟨rfl,q⟩,r',st,ra',k.step st⟩
def thenM (next:Bool → Tm → Heap → Prop) (Q:Exit → Bool → Tm → Heap → Prop):Exit → Bool → Tm → Heap → Prop
 | .normal=>next
 | e=>Q e
def blockM (id:Nat) (Q:Exit → Bool → Tm → Heap → Prop):Exit → Bool → Tm → Heap → Prop
 | .exit i=>if i = id then Q .normal else Q (.exit i)
 | e=>Q e
theorem m_seq {x y:Code} {m:Bool} {Q:Exit → Bool → Tm → Heap → Prop} (s:SCodeM P N x m (thenM (fun m T h=>SCodeM P N y m Q T h) Q) T h):SCodeM P N (.seq x y) m Q T h:=fun B D w a hB r ra k=>by
 refine wpIn_seq (wpIn_mono (s B D w a hB r ra k) ?_)
 rintro e a' w' ⟨m',T',h',D',q,r',st,ra',k'⟩
 cases e with
 | normal=>exact wpIn_mono (q B D' w' a' (Nat.le_trans hB st.size) r' ra' k') fun e a'' w'' ⟨m2,T2,h2,D2,q2,r2,st2,ra2,k2⟩=>⟨m2,T2,h2,D2,q2,r2,st.trans st2,ra2,k2⟩
 | _=>exact ⟨m',T',h',D',q,r',st,ra',k'⟩
theorem m_block {id:Nat} {c:Code} {m:Bool} {Q:Exit → Bool → Tm → Heap → Prop} (s:SCodeM P N c m (blockM id Q) T h):SCodeM P N (.block id c) m Q T h:=fun B D w a hB r ra k=>by
 refine wpIn_block (wpIn_mono (s B D w a hB r ra k) ?_)
 rintro e a' w' ⟨m',T',h',D',q,x⟩
 cases e with
 | exit i =>
  by_cases hi:i = id
  ·simp only [blockM,hi,if_true] at q; simp only [Exit.inBlock,hi,if_true]; exact ⟨m',T',h',D',q,x⟩
  ·simp only [blockM,hi,if_false] at q; simp only [Exit.inBlock,hi,if_false]; exact ⟨m',T',h',D',q,x⟩
 | _=>exact ⟨m',T',h',D',q,x⟩
abbrev loop0 (fn:FuncId) (tmps:Array Value) (ps:Array Tmp) (A Bd:Code) (D:Nat):Loop:={ state:=.ready,pending:=none,fn,tmps,params:=ps,assign:=A,body:=Bd,defers:=D }
theorem m_range {g : Operand} {ps : Array Tmp} {A Bd : Code} {Q : Exit → Bool → Tm → Heap → Prop} {f : FuncId} {fn : Func} {va vb : Array Value} (hg : ev T g = .func (.func f) va vb) (hf : P.funcs[f]? = some fn) (hn : (fn.name == "runtime.NumGoroutine") = false) (hb : fn.body.isNone = false)
  (s:∀ (l k:Nat) (tmps:Array Value) (D:Nat),h l = none → Reads N T { tmps:=tmps,defers:=[] } [] →
   SCalls P f (va ++ #[.func (.yield l) #[] #[]] ++ vb) (h.set l (.loop (loop0 k tmps ps A Bd D))) (fun _ h'=>∃ r:Loop,h' l = some (.loop r) ∧ r.state ≠ .busy ∧ r.pending = none ∧ Q .normal true T (h'.set l (.loop { r with state:=.exhausted })))) :
  SCodeM P N (.rangeFunc g ps A Bd) false Q T h:=by
 intro B D w a hB rl ra hD
 have hD:D = []:=hD
 subst hD
 refine wpIn_rangeFunc fun k _=>?_
 have hdef:a.defers = []:=ra.defers
 obtain ⟨w1,hw1⟩:∃ w1,w.alloc (.deferred (some [])) = w1:=⟨_,rfl⟩
 have hs1:w1.heap.size = w.heap.size + 1:=by rw [← hw1,size_alloc]
 have r1:Rel h w1:=by rw [← hw1]; exact rel_alloc_same rl _
 have hl:h (w.heap.size + 1) = none:=by
  cases e:h (w.heap.size + 1) with
  | none=>rfl
  | some o=>have:=rl.lt e; omega
 have hk:h w.heap.size = none:=by
  cases e:h w.heap.size with
  | none=>rfl
  | some o=>have:=rl.lt e; omega
 obtain ⟨w2,hw2⟩:∃ w2,w1.alloc (.loop (loop0 k a.tmps ps A Bd w.heap.size)) = w2:=⟨_,rfl⟩
 have hs2:w2.heap.size = w.heap.size + 2:=by rw [← hw2,size_alloc,hs1]
 have r2:Rel (h.set (w.heap.size + 1) (.loop (loop0 k a.tmps ps A Bd w.heap.size))) w2:=by
  have:=rel_alloc r1 (.loop (loop0 k a.tmps ps A Bd w.heap.size))
  rw [hs1,hw2] at this; exact this
 have old:∀ b,b < w1.heap.size → w2.heap[b]? = w1.heap[b]?:=fun b hb=>by rw [← hw2]; exact heap_alloc w1 _ b hb
 have old1:∀ b,b < w.heap.size → w1.heap[b]? = w.heap[b]?:=fun b hb=>by rw [← hw1]; exact heap_alloc w _ b hb
 have hmk:w2.heap[w.heap.size]? = some (.deferred (some [])):=(old _ (by omega)).trans (by rw [← hw1]; exact heap_alloc_new w _)
 have st1:Step h (h.set (w.heap.size + 1) (.loop (loop0 k a.tmps ps A Bd w.heap.size))) w w2:=by
  refine ⟨by rw [← hw2,← hw1]; rfl,by rw [← hw2,← hw1]; rfl,by rw [← hw2,← hw1]; rfl,by omega,fun b hb _=>(old b (by omega)).trans (old1 b hb),fun b h1 h2=>?_⟩
  by_cases e:b = w.heap.size + 1
  ·omega
  ·rw [Heap.set_other _ _ e] at h2; exact absurd h1 h2
 have hn' : fn.name ≠ "runtime.NumGoroutine" := by simpa using hn
 have hb':fn.body ≠ none:=by intro e; rw [e] at hb; cases hb
 refine ⟨w.heap.size + 1,[{ target:=.collected w.heap.size,args:=#[] }],w2,{ target:=.fn (.func f) vb,args:=va ++ #[.func (.yield (w.heap.size + 1)) #[] #[]] },w2,f,va ++ #[.func (.yield (w.heap.size + 1)) #[] #[]] ++ vb,w2,?_,?_,fun _ _=>trivial,?_,fun hd=>by simp [wideR] at hd,?_⟩
 ·rw [← hw2,← hw1]; exact run_enterLoop_outer k a.tmps ps A Bd
 ·have hev:a.eval = ev T:=ra.eval
  show (Deferred.ofValue (a.eval g) (#[Operand.const (.func (.yield (w.heap.size + 1)) #[] #[])].map a.eval)).run P w2 = _
  rw [hev,hg]
  simp [Deferred.ofValue,ev]
 ·simp [invoke,callFunc,program,Sem.run,hf,hn',hb']
 ·refine Calls.inR ((s (w.heap.size + 1) k a.tmps w.heap.size hl ⟨ra.size,ra.at_,ra.out,rfl⟩ w2 r2).mono ?_)
  rintro e w3 ⟨v,h3,rfl,⟨r,e3,hst,hpd,hq⟩,r3,st3⟩
  refine ⟨none,w3.putObj (w.heap.size + 1) (.loop { r with state:=.exhausted }),?_,?_⟩
  ·rw [run_endLoop (r3 _ _ e3) hst,hpd]
  ·refine ⟨true,T,_,[{ target:=.collected w.heap.size,args:=#[] }],hq,r3.setObj e3,(st1.trans st3).trans (Step.setObj e3),⟨ra.size,ra.at_,ra.out,by simp [hdef]⟩,?_⟩
   refine Mk.step (w:=w3) (h:=h3) (m:=true) ?_ (Step.setObj e3)
   refine Mk.step (w:=w2) (h:=h.set (w.heap.size + 1) (.loop (loop0 k a.tmps ps A Bd w.heap.size))) (m:=true) ?_ st3
   exact ⟨w.heap.size,rfl,hB,by omega,by rw [Heap.set_other _ _ (by omega)]; exact hk,hmk⟩
theorem s_round {l:Nat} {f:FuncId} {tmps:Array Value} {A Bd:Code} {R:Value → Heap → Prop} (hT:Reads N T { tmps:=tmps,defers:=[] } [])
  (sA:SCode P N A (fun e T1 h1=>e = .normal ∧ ∃ r1:Loop,h1 l = some (.loop r1) ∧ r1.state = .ready ∧
   SCode P N Bd (fun e T2 h2=>e = .normal ∧ ∃ r2:Loop,h2 l = some (.loop r2) ∧ R (.bool true) (h2.set l (.loop { r2 with state:=.ready,pending:=none }))) T1 (h1.set l (.loop { r1 with state:=.busy }))) T h) :
  SRound P l f tmps A Bd h R:=by
 intro w rl
 refine roundIn_of_wpIn (F:=wideR none) trivial (wpIn_mono (sA (some l) [] w _ rl hT) ?_)
 rintro e a1 w1 ⟨T1,h1,⟨rfl,r1,e1,hs,sB⟩,rel1,st1,ra1⟩
 refine ⟨_,run_beginRound (rel1 _ _ e1) hs,wpIn_mono (sB (some l) [] _ _ (rel1.setObj e1) ra1) ?_⟩
 rintro e a2 w2 ⟨T2,h2,⟨rfl,r2,e2,hR⟩,rel2,st2,ra2⟩
 exact ⟨_,_,run_endRound none (rel2 _ _ e2),.bool true,_,rfl,hR,rel2.setObj e2,(st1.trans ((Step.setObj e1).trans st2)).trans (Step.setObj e2)⟩
def setPs (ps:Array Tmp) (vs tmps:Array Value):Array Value:=(ps.zip vs).foldl (fun tmps (t,a)=>tmps.setIfInBounds t a) tmps
def setTs:List (Tmp × Value) → Tm → Tm
 | [],T=>T
 | p :: l,T=>setTs l (upd T p.1 p.2)
theorem reads_setPs {ps:Array Tmp} {vs tmps:Array Value} (hp:∀ t ∈ ps.toList,t < N) (r:Reads N T { tmps:=tmps,defers:=[] } []):Reads N (setTs (ps.toList.zip vs.toList) T) { tmps:=setPs ps vs tmps,defers:=[] } []:=by
 have e:setPs ps vs tmps = (ps.toList.zip vs.toList).foldl (fun tmps p=>tmps.setIfInBounds p.1 p.2) tmps:=by
  unfold setPs
  rw [← Array.foldl_toList,Array.toList_zip]
 rw [e]
 have hz:∀ p ∈ ps.toList.zip vs.toList,p.1 < N:=fun p hpz=>hp _ (List.of_mem_zip hpz).1
 clear e
 generalize ps.toList.zip vs.toList = l at hz
 induction l generalizing T tmps with
 | nil=>exact r
 | cons p l ih =>
  refine ih ?_ fun q hq=>hz q (List.mem_cons_of_mem _ hq)
  have:=r.put (some p.1) (fun t ht=>by cases ht; exact hz p List.mem_cons_self) p.2
  exact this
theorem s_yield {o:Oper} {ρ:Operand → Value} {K:Value → Heap → Prop} {l:Nat} {r:Loop} {x:Operand} {args:Array Operand} {vs:Array Value} {tys:Array TypeId} (ho:o.op = .call ⟨.value x,args,tys⟩) (hr:ρ x = .func (.yield l) #[] #[]) (hl:h l = some (.loop r)) (ha:args.map ρ = vs) (hs:vs.size = r.params.size)
  (c:SRound P l r.fn (setPs r.params vs r.tmps) r.assign r.body h K):SOp P o ρ h K:=by
 intro w rl
 refine .inr ⟨.round l r.fn (setPs r.params vs r.tmps) r.assign r.body,w,?_,rfl,rfl,rfl,rfl,c⟩
 have hy:(Instr.yield l vs).run P w = .ok (.round l r.fn (setPs r.params vs r.tmps) r.assign r.body) w:=run_yield (P:=P) (args:=vs) (rl _ _ hl) hs
 simp [execOp,ho,resolve,hr,Deferred.ofValue,invoke,ha,hy]
def retM (P:Program) (fn:Func) (R:Value → Heap → Prop):Exit → Bool → Tm → Heap → Prop
 | .normal,_,T,h | .ret,_,T,h=>∃ v,Res P fn T h v ∧ R v h
 | _,_,_,_=>False
theorem s_enterM {f:FuncId} {fn:Func} {c:Code} {args:Array Value} {R:Value → Heap → Prop} (hf:P.funcs[f]? = some fn) (hb:fn.body = some c) (hN:args.size ≤ fn.ntmps)
  (s:SCodeM P fn.ntmps c false (retM P fn R) (T0 args) h):SCalls P f args h R:=by
 intro w r
 refine (callsIn_wide (n:=0)).1 (callsIn_of_wp_marks hf hb trivial (wpIn_mono (s w.heap.size [] w _ (Nat.le_refl _) r (reads0 hN) rfl) ?_))
 rintro e a' w' ⟨m',T',h',D',q,r',st,ra',k'⟩
 have fin:∀ v,Res P fn T' h' v → R v h' → LeavesInM Fence.wide 0 P fn a'.tmps (fun e w'=>∃ v h',e = .returned v ∧ R v h' ∧ Rel h' w' ∧ Step h h' w w') a'.defers .returning w':=by
  intro v hr hR
  rw [ra'.defers]
  cases m' with
  | false =>
   have hD:D' = []:=k'
   subst hD
   exact ⟨v,hr [] w' a' r' ra',v,h',rfl,hR,r',st⟩
  | true =>
   obtain ⟨b,rfl,h1,h2,h3,h4⟩:=k'
   have r2:Rel h' (w'.putObj b (.deferred none)):=fun c o e=>by
    rw [World.putObj_heap_other (fun e'=>by rw [e',h3] at e; cases e)]; exact r' c o e
   refine ⟨by simp,.inl ⟨b,_,rfl,run_takeDeferred h4,?_⟩⟩
   refine ⟨v,hr _ _ a' r2 ra',v,h',rfl,hR,r2,⟨st.os,st.tape,st.output,by rw [World.putObj_size]; exact st.size,fun c hc hn=>?_,st.fresh⟩⟩
   rw [World.putObj_heap_other (by omega)]; exact st.keep c hc hn
 cases e with
 | normal=>obtain ⟨v,hr,hR⟩:=q; exact fin v hr hR
 | ret=>obtain ⟨v,hr,hR⟩:=q; exact fin v hr hR
 | _=>exact q.elim
end
end Go.Proofs.YtihdpjinaafenaaGreatDoor.Sl

/- The evaluator's blocks; how they stand to the heap; what turns them. -/
namespace Go.Proofs.YtihdpjinaafenaaGreatDoor.Ce
open Go.Proofs.YtihdpjinaafenaaGreatDoor.Sl
inductive CO where
 | dead (st:Nat)
 | cells (st:Nat) (t:Nat) (cs:List CV)
 | map (st:Nat) (t:Nat) (fl:Bool) (cl:Nat) (es:List (List Int × CV))
 | it (st:Nat) (m:Id) (cl:Nat) (seen:List Nat)
 | it0 (st:Nat)
 | lp (st:Nat) (busy:Bool) (f:Pos) (T:SL CV)
abbrev CH:=Ht CO
def dead3:Pg (Pg (Pg CO)):=Pg.all (Pg.all (Pg.all (.dead 0)))
abbrev ch0:CH:=.e
def CO.st:CO → Nat
 | .dead s | .cells s _ _ | .map s _ _ _ _ | .lp s _ _ _ | .it s _ _ _ | .it0 s=>s
def CO.live:CO → Bool
 | .dead _=>false
 | _=>true
def hget (p:Id) (H:CH):CO:=iget dead3 p H
def hset (p:Id) (o:CO) (H:CH):CH:=iset dead3 p o H
theorem hget_nil (p:Id):hget p ch0 = .dead 0:=by
 obtain ⟨pg,c,b,a⟩:=p
 show Pg.get a (Pg.get b (Pg.get c (Tr.get dead3 pg .e))) = _
 rw [Tr.get_e]
 show Pg.get a (Pg.get b (Pg.get c (Pg.all (Pg.all (Pg.all (CO.dead 0)))))) = _
 rw [Pg.get_all,Pg.get_all,Pg.get_all]
theorem hget_set (p q:Id) (o:CO) (H:CH):hget q (hset p o H) = if q = p then o else hget q H:=iget_iset _ _ _ _ _
theorem hget_same (p:Id) (o:CO) (H:CH):hget p (hset p o H) = o:=by rw [hget_set,if_pos rfl]
theorem hget_ne {p q:Id} (h:q ≠ p) (o:CO) (H:CH):hget q (hset p o H) = hget q H:=by rw [hget_set,if_neg h]
inductive Sh where
 | int (k:IntKind)
 | agg (ks:List IntKind)
def Sh.n:Sh → Nat
 | .int _=>1
 | .agg ks=>ks.length
def zipK:List IntKind → List Int → List Value
 | k :: ks,n :: ns=>.int k n :: zipK ks ns
 | _,_=>[]
def zipC:List IntKind → List Int → List CV
 | k :: ks,n :: ns=>.i k n :: zipC ks ns
 | _,_=>[]
abbrev Sh.key (s:Sh):Type:={ l:List Int // l.length = s.n }
def Sh.enc (s:Sh) (l:s.key):Value:=match s with
 | .int k=>.int k (l.1.headD 0)
 | .agg ks=>.agg (zipK ks l.1).toArray
structure Ky (P:Program) where
 ξ:Nat → Value
 sh:TypeId → Option Sh
 law:∀ t s,sh t = some s → ∃ kt et d,P.underlying t = some (.map kt et) ∧ P.underlying kt = some d ∧ KeyLaw P kt s.enc
 /-- By which names package variables go. -/
 gl:Nat → Option Id:=fun _=>none
variable {P : Program}
def MB {κ:Type} (enc:κ → Value) (l:List (κ × Value)):List MapEntry:=l.zipIdx.map fun p=>{ key:=enc p.1.1,val:=p.1.2,born:=p.2 }
def MBn {κ:Type} (enc:κ → Value) (l:List (κ × Value)) (bs:List Nat):List MapEntry:=(l.zip bs).map fun p=>{ key:=enc p.1.1,val:=p.1.2,born:=p.2 }
structure Bs (bs:List Nat) (cl n:Nat):Prop where
 len:bs.length = n
 nd:bs.Nodup
 lt:∀ b ∈ bs,b < cl
theorem MBn_range {κ:Type} (enc:κ → Value) (l:List (κ × Value)):MBn enc l (List.range l.length) = MB enc l:=by
 unfold MBn MB
 rw [List.zipIdx_eq_zip_range',List.range_eq_range']
theorem Bs.range (n:Nat):Bs (List.range n) n n:=⟨List.length_range,List.nodup_range,fun b hb=>List.mem_range.1 hb⟩
def rfC:Code → Option (Array Tmp × Code × Code)
 | .rangeFunc _ ps a b=>some (ps,a,b)
 | .seq x y=>match rfC x with
  | some r=>some r
  | none=>rfC y
 | .block _ x=>rfC x
 | _=>none
def rfP (P:Program) (f:FuncId):Option (Array Tmp × Code × Code):=((P.funcs[f]?).bind (·.body)).bind rfC
def ntP (P:Program) (f:FuncId):Nat:=((P.funcs[f]?).map (·.ntmps)).getD 0
inductive ORp (K:Ky P) (β:Bk) (h:Heap) (x:Blk):CO → Prop where
 | dead (st:Nat):ORp K β h x (.dead st)
 | cells {st t:Nat} {cs:List CV} {vs tl:List Value} (hb:h x.b = some (.cells (vs ++ tl).toArray t (0,0))) (hl:(vs ++ tl).length = x.len) (hr:VRs β cs vs) (h1:cs.all CV.one = true):ORp K β h x (.cells st t cs)
 | map {st t:Nat} {fl:Bool} {cl:Nat} {es:List (List Int × CV)} (s:Sh) (hs:K.sh t = some s) (l:List (s.key × Value)) (bs:List Nat) (hb:h x.b = some (.map (MBn s.enc l bs).toArray cl)) (hbs:Bs bs cl l.length) (hfl:fl = false → bs = List.range l.length ∧ cl = l.length) (n1:Keys1 l) (hk:l.map (fun p=>p.1.1) = es.map (·.1)) (hr:VRs β (es.map (·.2)) (l.map (·.2))):ORp K β h x (.map st t fl cl es)
 | it {st:Nat} {m:Id} {cl:Nat} {seen:List Nat} {y:Blk} (hm:β m = some y) (hb:h x.b = some (.mapIter (some y.b) cl seen.toArray cl)):ORp K β h x (.it st m cl seen)
 | it0 {st:Nat} (hb:h x.b = some (.mapIter none 0 #[] 0)):ORp K β h x (.it0 st)
 | lp {st:Nat} {busy:Bool} {f:Pos} {T:SL CV} {r:Loop} {Tc:Tm} (hb:h x.b = some (.loop r)) (hs:r.state = bif busy then .busy else .ready) (hp:r.pending = none) (hr:rfP P (f.nat - 1) = some (r.params,r.assign,r.body)) (hT:TR β T Tc) (ht:Reads (ntP P (f.nat - 1)) Tc { tmps:=r.tmps,defers:=[] } []):ORp K β h x (.lp st busy f T)
structure HR (K:Ky P) (β:Bk) (H:CH) (n:Id) (ck:Nat) (h:Heap):Prop where
 has:∀ p,(hget p H).live = true → ∃ x,β p = some x
 obj:∀ p x,β p = some x → ORp K β h x (hget p H)
 inj:∀ p q x y,(hget p H).live = true → (hget q H).live = true → β p = some x → β q = some y → x.b = y.b → p = q
 new:∀ p,n.nat ≤ p.nat → β p = none
 ck:∀ p,(hget p H).st ≤ ck
 new0:∀ p,n.nat ≤ p.nat → (hget p H).st = 0
 xs:β.x = K.ξ
 gl:∀ g p,K.gl g = some p → ∃ x,β p = some x ∧ x.b = g
def Keep (β:Bk) (H H':CH) (h h':Heap):Prop:=∀ p x,β p = some x → (hget p H).live = true → (hget p H).st ≤ (hget p H').st ∧ ((hget p H').st = (hget p H).st → hget p H' = hget p H ∧ h' x.b = h x.b)
theorem Keep.refl (β:Bk) (H:CH) (h:Heap):Keep β H H h h:=fun _ _ _ _=>⟨Nat.le_refl _,fun _=>⟨rfl,rfl⟩⟩
theorem Keep.trans {β β':Bk} {H H1 H2:CH} {h h1 h2:Heap} (a:Keep β H H1 h h1) (l:β.le β') (b:Keep β' H1 H2 h1 h2) (m:∀ p,(hget p H1).st ≤ (hget p H2).st):Keep β H H2 h h2:=fun p x e hl=>by
 have ha:=a p x e hl
 refine ⟨Nat.le_trans ha.1 (m p),fun e1=>?_⟩
 have h2:=m p
 obtain ⟨h3,h4⟩:=ha.2 (by omega)
 obtain ⟨h5,h6⟩:=(b p x (l _ _ e) (by rw [h3]; exact hl)).2 (by omega)
 exact ⟨h5.trans h3,h6.trans h4⟩
section
variable {K : Ky P} {β β' : Bk} {H : CH} {n : Id} {ck st : Nat} {h h' : Heap} {x : Blk}
theorem ORp.le (l:β.le β') {o:CO} (r:ORp K β h x o) (e:h' x.b = h x.b):ORp K β' h' x o:=by
 cases r with
 | dead st=>exact .dead st
 | cells hb hl hr h1=>exact .cells (by rw [e]; exact hb) hl (hr.le l) h1
 | map s hs l' bs hb hbs hfl n1 hk hr=>exact .map s hs l' bs (by rw [e]; exact hb) hbs hfl n1 hk (hr.le l)
 | it hm hb=>exact .it (l _ _ hm) (by rw [e]; exact hb)
 | it0 hb=>exact .it0 (by rw [e]; exact hb)
 | lp hb hs hp hr hT ht=>exact .lp (by rw [e]; exact hb) hs hp hr (hT.le l) ht
def Bk.put (β:Bk) (p:Id) (x:Blk):Bk:=⟨fun q=>if q = p then some x else β q,β.x⟩
theorem HR.nn (r:HR K β H n ck h):β n = none:=r.new n (Nat.le_refl _)
theorem HR.put_le (r:HR K β H n ck h) (x:Blk):β.le (β.put n x):=⟨fun p y e=>by
 show (if p = n then some x else β p) = some y
 by_cases hp:p = n
 ·rw [hp,r.nn] at e; cases e
 ·rw [if_neg hp]; exact e,rfl⟩
theorem Bk.put_same (β:Bk) (p:Id) (x:Blk):β.put p x p = some x:=by simp [Bk.put]
theorem ORp.some {o:CO} (r:ORp K β h x o) (hl:o.live = true):h x.b ≠ none:=by
 cases r with
 | dead st=>cases hl
 | cells hb hl hr h1=>rw [hb]; simp
 | map s hs l' bs hb hbs hfl n1 hk hr=>rw [hb]; simp
 | it hm hb=>rw [hb]; simp
 | it0 hb=>rw [hb]; simp
 | lp hb hs hp hr hT ht=>rw [hb]; simp
theorem HR.at_ (r:HR K β H n ck h) (p:Id) (x:Blk) (e:β p = some x) (hl:(hget p H).live = true):h x.b ≠ none:=(r.obj p x e).some hl
theorem ORp.dead_of {o:CO} (hl:o.live = false):ORp K β h x o:=by
 cases o with
 | dead st=>exact .dead st
 | cells _ _ _=>cases hl
 | map _ _ _ _ _=>cases hl
 | it _ _ _ _=>cases hl
 | it0 _=>cases hl
 | lp _ _ _ _=>cases hl
theorem HR.same (r:HR K β H n ck h) (e:∀ p x,β p = some x → (hget p H).live = true → h' x.b = h x.b):HR K β H n ck h' :=
 ⟨r.has,fun p x hx=>by
  cases hl:(hget p H).live with
  | true=>exact (r.obj p x hx).le (Bk.le_refl _) (e p x hx hl)
  | false=>exact .dead_of hl,r.inj,r.new,r.ck,r.new0,r.xs,r.gl⟩
theorem HR.fresh (r:HR K β H n ck h) {b:Nat} (hb:h b = none) (ob:Obj):HR K β H n ck (h.set b ob) ∧ Keep β H H h (h.set b ob):=by
 have e:∀ p x,β p = some x → (hget p H).live = true → (h.set b ob) x.b = h x.b:=fun p x hx hl=>Heap.set_other _ _ fun e1=>r.at_ p x hx hl (by rw [e1]; exact hb)
 exact ⟨r.same e,fun p x hx hl=>⟨Nat.le_refl _,fun _=>⟨rfl,e p x hx hl⟩⟩⟩
theorem HR.alloc (r:HR K β H n ck h) {b:Nat} {ob:Obj} {o:CO} {len:Nat} (hb:h b = none) (ho:ORp K (β.put n ⟨b,len⟩) (h.set b ob) ⟨b,len⟩ o) (hst:o.st ≤ ck):HR K (β.put n ⟨b,len⟩) (hset n o H) n.succ ck (h.set b ob):=by
 have old:∀ p x,β p = some x → p ≠ n ∧ ((hget p H).live = true → x.b ≠ b):=fun p x e=>⟨fun e1=>(by rw [e1,r.nn] at e; cases e),fun hl e1=>r.at_ p x e hl (by rw [e1]; exact hb)⟩
 have inv:∀ p y,β.put n ⟨b,len⟩ p = some y → (p = n ∧ y = ⟨b,len⟩) ∨ (p ≠ n ∧ β p = some y):=fun p y e=>by
  replace e:(if p = n then some ⟨b,len⟩ else β p) = some y:=e
  split at e
  ·rename_i hp; cases e; exact .inl ⟨hp,rfl⟩
  ·rename_i hp; exact .inr ⟨hp,e⟩
 refine ⟨fun p hp=>?_,fun p y e=>?_,fun p q y z hp hq e1 e2 e3=>?_,fun p hp=>?_,fun p=>?_,fun p hp=>?_,r.xs,fun g p e=>(r.gl g p e).imp fun y hy=>⟨r.put_le _ _ _ hy.1,hy.2⟩⟩
 ·by_cases e:p = n
  ·subst e; exact ⟨_,Bk.put_same _ _ _⟩
  ·rw [hget_ne e] at hp
   obtain ⟨y,hy⟩:=r.has p hp
   exact ⟨y,r.put_le _ _ _ hy⟩
 ·rcases inv p y e with ⟨rfl,rfl⟩ | ⟨hne,e⟩
  ·rw [hget_same]; exact ho
  ·rw [hget_ne hne]
   cases hl:(hget p H).live with
   | true=>exact (r.obj p y e).le (r.put_le _) (Heap.set_other _ _ ((old p y e).2 hl))
   | false=>exact .dead_of hl
 ·rcases inv p y e1 with ⟨a1,a2⟩ | ⟨a1,a2⟩ <;> rcases inv q z e2 with ⟨b1,b2⟩ | ⟨b1,b2⟩
  ·rw [a1,b1]
  ·rw [a2] at e3; rw [hget_ne b1] at hq; exact absurd e3.symm ((old q z b2).2 hq)
  ·rw [b2] at e3; rw [hget_ne a1] at hp; exact absurd e3 ((old p y a2).2 hp)
  ·rw [hget_ne a1] at hp; rw [hget_ne b1] at hq; exact r.inj p q y z hp hq a2 b2 e3
 ·rw [Id.nat_succ] at hp
  have hne:p ≠ n:=fun e=>by rw [e] at hp; omega
  show (if p = n then some ⟨b,len⟩ else β p) = none
  rw [if_neg hne]; exact r.new p (by omega)
 ·by_cases e:p = n
  ·subst e; rw [hget_same]; exact hst
  ·rw [hget_ne e]; exact r.ck p
 ·rw [Id.nat_succ] at hp
  have hne:p ≠ n:=fun e=>by rw [e] at hp; omega
  rw [hget_ne hne]; exact r.new0 p (by omega)
theorem HR.alloc_keep (r:HR K β H n ck h) {b:Nat} {ob:Obj} (o:CO) (hb:h b = none):Keep β H (hset n o H) h (h.set b ob):=fun p x e hl=>by
 have hne:p ≠ n:=fun e1=>by rw [e1,r.nn] at e; cases e
 rw [hget_ne hne]
 exact ⟨Nat.le_refl _,fun _=>⟨rfl,Heap.set_other _ _ fun e1=>r.at_ p x e hl (by rw [e1]; exact hb)⟩⟩
theorem Keep.set {p:Id} (hp:(hget p H).st < st) {o:CO} (ho:o.st = st) (e:∀ q y,q ≠ p → β q = some y → (hget q H).live = true → h' y.b = h y.b):Keep β H (hset p o H) h h':=fun q y hy hl=>by
 by_cases hq:q = p
 ·subst hq; rw [hget_same]; exact ⟨by omega,fun e1=>by omega⟩
 ·rw [hget_ne hq]; exact ⟨Nat.le_refl _,fun _=>⟨rfl,e q y hq hy hl⟩⟩
theorem HR.oth (r:HR K β H n ck h) {p:Id} (hx:β p = some x) (hp:(hget p H).live = true):∀ q y,q ≠ p → β q = some y → (hget q H).live = true → y.b ≠ x.b:=fun q y hne e hq e1=>hne (r.inj q p y x hq hp e hx e1)
theorem HR.turn (r:HR K β H n ck h) {p:Id} (hx:β p = some x) (hp:(hget p H).live = true) {ob:Obj} {o:CO} (ho:ORp K β (h.set x.b ob) x o) (hst:o.st = ck + 1):HR K β (hset p o H) n (ck + 1) (h.set x.b ob) ∧ Keep β H (hset p o H) h (h.set x.b ob):=by
 have oth:=r.oth hx hp
 refine ⟨⟨fun q hq=>?_,fun q y e=>?_,fun a c y z ha hc e1 e2 e3=>?_,r.new,fun q=>?_,fun q hq=>?_,r.xs,r.gl⟩,Keep.set (st:=ck + 1) (by have:=r.ck p; omega) hst fun q y hne e hl=>Heap.set_other _ _ (oth q y hne e hl)⟩
 ·by_cases e:q = p
  ·subst e; exact ⟨_,hx⟩
  ·rw [hget_ne e] at hq; exact r.has q hq
 ·by_cases e1:q = p
  ·subst e1; rw [hx] at e; cases e; rw [hget_same]; exact ho
  ·rw [hget_ne e1]
   cases hl:(hget q H).live with
   | true=>exact (r.obj q y e).le (Bk.le_refl _) (Heap.set_other _ _ (oth q y e1 e hl))
   | false=>exact .dead_of hl
 ·have hl:∀ q,(hget q (hset p o H)).live = true → (hget q H).live = true:=fun q hq=>by
   by_cases e:q = p
   ·subst e; exact hp
   ·rw [hget_ne e] at hq; exact hq
  exact r.inj a c y z (hl a ha) (hl c hc) e1 e2 e3
 ·by_cases e:q = p
  ·subst e; rw [hget_same]; omega
  ·rw [hget_ne e]; exact Nat.le_succ_of_le (r.ck q)
 ·have hne:q ≠ p:=fun e=>by rw [e] at hq; rw [r.new p hq] at hx; cases hx
  rw [hget_ne hne]; exact r.new0 q hq
theorem HR.moved (r:HR K β H n ck h) {p:Id} (hx:β p = some x) (hp:(hget p H).live = true) {y:Blk} (hy:y.b = x.b ∨ h y.b = none) {o:CO} (hst:o.st = ck + 1) (ho:ORp K (β.put n y) h' y o) (same:∀ b ob,h b = some ob → b ≠ x.b → h' b = some ob) :
  HR K (β.put n y) (hset n o (hset p (.dead (ck + 1)) H)) n.succ (ck + 1) h' ∧ Keep β H (hset n o (hset p (.dead (ck + 1)) H)) h h':=by
 have oth:=r.oth hx hp
 have hpn:p ≠ n:=fun e1=>by rw [e1,r.nn] at hx; cases hx
 have kp:∀ q z,q ≠ p → β q = some z → (hget q H).live = true → h' z.b = h z.b:=fun q z hne e hl=>by
  cases e1:h z.b with
  | none=>exact absurd e1 (r.at_ q z e hl)
  | some ob=>exact same _ _ e1 (oth q z hne e hl)
 have inv:∀ q z,β.put n y q = some z → (q = n ∧ z = y) ∨ (q ≠ n ∧ β q = some z):=fun q z e=>by
  replace e:(if q = n then some y else β q) = some z:=e
  split at e
  ·rename_i hq; cases e; exact .inl ⟨hq,rfl⟩
  ·rename_i hq; exact .inr ⟨hq,e⟩
 have lv:∀ q,q ≠ n → (hget q (hset n o (hset p (.dead (ck + 1)) H))).live = true → q ≠ p ∧ (hget q H).live = true:=fun q hq hl=>by
  rw [hget_ne hq] at hl
  by_cases e:q = p
  ·subst e; rw [hget_same] at hl; cases hl
  ·rw [hget_ne e] at hl; exact ⟨e,hl⟩
 have yne:∀ q z,q ≠ p → β q = some z → (hget q H).live = true → z.b ≠ y.b:=fun q z hne e hl e1=>by
  rcases hy with hy | hy
  ·exact oth q z hne e hl (e1.trans hy)
  ·exact r.at_ q z e hl (by rw [e1]; exact hy)
 refine ⟨⟨fun q hq=>?_,fun q z e=>?_,fun a c z w ha hc e1 e2 e3=>?_,fun q hq=>?_,fun q=>?_,fun q hq=>?_,r.xs,fun g p e=>(r.gl g p e).imp fun w hw=>⟨r.put_le _ _ _ hw.1,hw.2⟩⟩,fun q z e hl=>?_⟩
 ·by_cases e:q = n
  ·subst e; exact ⟨_,Bk.put_same _ _ _⟩
  ·obtain ⟨z,hz⟩:=r.has q (lv q e hq).2
   exact ⟨z,r.put_le _ _ _ hz⟩
 ·rcases inv q z e with ⟨rfl,rfl⟩ | ⟨hne,e⟩
  ·rw [hget_same]; exact ho
  ·rw [hget_ne hne]
   by_cases e1:q = p
   ·subst e1; rw [hget_same]; exact .dead _
   ·rw [hget_ne e1]
    cases hl:(hget q H).live with
    | true=>exact (r.obj q z e).le (r.put_le _) (kp q z e1 e hl)
    | false=>exact .dead_of hl
 ·rcases inv a z e1 with ⟨a1,a2⟩ | ⟨a1,a2⟩ <;> rcases inv c w e2 with ⟨b1,b2⟩ | ⟨b1,b2⟩
  ·rw [a1,b1]
  ·obtain ⟨h1,h2⟩:=lv c b1 hc
   rw [a2] at e3; exact absurd e3.symm (yne c w h1 b2 h2)
  ·obtain ⟨h1,h2⟩:=lv a a1 ha
   rw [b2] at e3; exact absurd e3 (yne a z h1 a2 h2)
  ·exact r.inj a c z w (lv a a1 ha).2 (lv c b1 hc).2 a2 b2 e3
 ·rw [Id.nat_succ] at hq
  have hne:q ≠ n:=fun e=>by rw [e] at hq; omega
  show (if q = n then some y else β q) = none
  rw [if_neg hne]; exact r.new q (by omega)
 ·by_cases e:q = n
  ·subst e; rw [hget_same]; omega
  ·rw [hget_ne e]
   by_cases e1:q = p
   ·subst e1; rw [hget_same]; exact Nat.le_refl _
   ·rw [hget_ne e1]; exact Nat.le_succ_of_le (r.ck q)
 ·rw [Id.nat_succ] at hq
  have hne:q ≠ n:=fun e=>by rw [e] at hq; omega
  have hne2:q ≠ p:=fun e=>by
   rw [e] at hq
   rw [r.new p (by omega)] at hx; cases hx
  rw [hget_ne hne,hget_ne hne2]; exact r.new0 q (by omega)
 ·have hne:q ≠ n:=fun e1=>by rw [e1,r.nn] at e; cases e
  rw [hget_ne hne]
  by_cases e1:q = p
  ·subst e1; rw [hget_same]
   have:=r.ck q
   exact ⟨by show _ ≤ ck + 1; omega,fun e2=>by change ck + 1 = _ at e2; omega⟩
  ·rw [hget_ne e1]; exact ⟨Nat.le_refl _,fun _=>⟨rfl,kp q z e1 e hl⟩⟩
end
end Go.Proofs.YtihdpjinaafenaaGreatDoor.Ce

/- Values told without memory: frozen values (what they point to stays), objects of the function's own by their names; how these stand to slots and heap. -/
namespace Go.Proofs.YtihdpjinaafenaaGreatDoor.Ab
open Go.Proofs.YtihdpjinaafenaaGreatDoor.Sl
inductive FV where
 | val (v:Value)
 | agg (cs:List FV)
 | sl (n:Nat) (f:Nat → List FV)
 | fp (cs:List FV)
 | tup (cs:List FV)
 | ifc (t:TypeId) (x:FV)
 | fn (f:FuncId) (first cap:List FV)
def FV.one:FV → Bool
 | .val v=>v.oneCell'
 | .agg _ | .tup _=>false
 | _=>true
inductive FRep (h:Heap):FV → Value → Prop where
 | val (v:Value):FRep h (.val v) v
 | agg {cs:List FV} {vs:List Value} (hl:vs.length = cs.length) (hr:∀ (j:Nat) (c:FV) (v:Value),cs[j]? = some c → vs[j]? = some v → FRep h c v):FRep h (.agg cs) (.agg vs.toArray)
 | sl0 (f:Nat → List FV) (a:Option Addr) (c:Nat):FRep h (.sl 0 f) (.slice a 0 c)
 | sl {n:Nat} {f:Nat → List FV} {b off c sz:Nat} {full:Array Value} {e:TypeId} {fz:Nat × Nat} (hb:h b = some (.cells full e fz)) (hnc:n ≤ c) (hsz:∀ i,i < n → (f i).length = sz) (h1:∀ i,i < n → (f i).all FV.one = true) (hs:off + n * sz ≤ full.size)
   (hr:∀ (i j:Nat) (c:FV) (v:Value),i < n → (f i)[j]? = some c → full[off + i * sz + j]? = some v → FRep h c v):FRep h (.sl n f) (.slice (some ⟨b,off,none⟩) n c)
 | fp {cs:List FV} {b off:Nat} {full:Array Value} {e:TypeId} {fz:Nat × Nat} (hb:h b = some (.cells full e fz)) (hs:off + cs.length ≤ full.size)
   (hr:∀ (j:Nat) (c:FV) (v:Value),cs[j]? = some c → full[off + j]? = some v → FRep h c v):FRep h (.fp cs) (.pointer (some ⟨b,off,none⟩))
 | tup {cs:List FV} {vs:List Value} (hl:vs.length = cs.length) (hr:∀ (j:Nat) (c:FV) (v:Value),cs[j]? = some c → vs[j]? = some v → FRep h c v):FRep h (.tup cs) (.tuple vs.toArray)
 | ifc {t:TypeId} {x:FV} {v:Value} (hx:FRep h x v):FRep h (.ifc t x) (.iface t v)
 | fn {f:FuncId} {a b:List FV} {va vb:List Value} (hl:va.length = a.length) (hl2:vb.length = b.length) (hr:∀ (j:Nat) (c:FV) (v:Value),a[j]? = some c → va[j]? = some v → FRep h c v) (hr2:∀ (j:Nat) (c:FV) (v:Value),b[j]? = some c → vb[j]? = some v → FRep h c v) :
   FRep h (.fn f a b) (.func (.func f) va.toArray vb.toArray)
theorem FRep.le {h h':Heap} (l:h.le h') {x:FV} {v:Value} (r:FRep h x v):FRep h' x v:=by
 induction r with
 | val v=>exact .val v
 | agg hl _ ih=>exact .agg hl ih
 | sl0 f a c=>exact .sl0 f a c
 | sl hb hnc hsz h1 hs _ ih=>exact .sl (l _ _ hb) hnc hsz h1 hs ih
 | fp hb hs _ ih=>exact .fp (l _ _ hb) hs ih
 | tup hl _ ih=>exact .tup hl ih
 | ifc _ ih=>exact .ifc ih
 | fn hl hl2 _ _ ih ih2=>exact .fn hl hl2 ih ih2
theorem FRep.one {h:Heap} {x:FV} {v:Value} (r:FRep h x v) (h1:x.one = true):v.oneCell' = true:=by
 cases r <;> first | exact h1 | rfl | cases h1
def slOf {α:Type} [Inhabited α] (enc:α → List FV) (xs:List α):FV:=.sl xs.length fun i=>enc (xs.getD i default)
def slL (rows:List (List FV)):FV:=.sl rows.length fun i=>rows.getD i []
def asSl:FV → Option (Nat × (Nat → List FV))
 | .sl n f=>some (n,f)
 | .val (.slice none 0 0)=>some (0,fun _=>[])
 | _=>none
theorem asSl_of {α:Type} [Inhabited α] (enc:α → List FV) (xs:List α):asSl (slOf enc xs) = some (xs.length,fun i=>enc (xs.getD i default)):=rfl
theorem asSl_sl (n:Nat) (f:Nat → List FV):asSl (.sl n f) = some (n,f):=rfl
theorem asSl_nil:asSl (.val (.slice none 0 0)) = some (0,fun _=>[]):=rfl
theorem asSl_L (rows:List (List FV)):asSl (slL rows) = some (rows.length,fun i=>rows.getD i []):=rfl
def FReps (h:Heap) (cs:List FV) (vs:List Value):Prop:=vs.length = cs.length ∧ ∀ (j:Nat) (c:FV) (v:Value),cs[j]? = some c → vs[j]? = some v → FRep h c v
theorem FReps.le {h h':Heap} (l:h.le h') {cs:List FV} {vs:List Value} (r:FReps h cs vs):FReps h' cs vs:=⟨r.1,fun j c v a b=>(r.2 j c v a b).le l⟩
theorem FReps.nil (h:Heap):FReps h [] []:=⟨rfl,fun j c v a=>by simp at a⟩
theorem FReps.cons {h:Heap} {c:FV} {v:Value} {cs:List FV} {vs:List Value} (a:FRep h c v) (b:FReps h cs vs):FReps h (c :: cs) (v :: vs) :=
 ⟨by simp [b.1],fun j x y e1 e2=>by
  cases j with
  | zero=>simp only [List.getElem?_cons_zero,Option.some.injEq] at e1 e2; subst e1; subst e2; exact a
  | succ j=>exact b.2 j x y (by simpa using e1) (by simpa using e2)⟩
theorem FReps.uncons {h:Heap} {c:FV} {cs:List FV} {vs:List Value} (r:FReps h (c :: cs) vs):∃ v ws,vs = v :: ws ∧ FRep h c v ∧ FReps h cs ws:=by
 cases vs with
 | nil=>simp [FReps] at r
 | cons v ws=>exact ⟨v,ws,rfl,r.2 0 c v rfl rfl,by simpa using r.1,fun j x y e1 e2=>r.2 (j + 1) x y (by simpa using e1) (by simpa using e2)⟩
inductive AV where
 | hid
 | fz (x:FV)
 | os (id:Nat)
 | oe (id sz i off:Nat)
def baseOf:Value → Option Nat
 | .pointer (some ⟨b,0,none⟩)=>some b
 | .slice (some ⟨b,0,none⟩) _ _=>some b
 | .map (some b)=>some b
 | _=>none
inductive ARep (β:Nat → Value) (h:Heap):AV → Value → Prop where
 | hid (v:Value):ARep β h .hid v
 | fz {x:FV} {v:Value} (r:FRep h x v):ARep β h (.fz x) v
 | os (id:Nat):ARep β h (.os id) (β id)
 | oe {id sz i off b:Nat} (hb:baseOf (β id) = some b):ARep β h (.oe id sz i off) (.pointer (some ⟨b,i * sz + off,none⟩))
def AV.nm:AV → Option Nat
 | .hid | .fz _=>none
 | .os id=>some id
 | .oe id _ _ _=>some id
theorem ARep.to {β β':Nat → Value} {h h':Heap} {x:AV} {v:Value} (r:ARep β h x v) (l:h.le h') (e:∀ id,x.nm = some id → β' id = β id):ARep β' h' x v:=by
 cases r with
 | hid v=>exact .hid v
 | fz r=>exact .fz (r.le l)
 | os id=>rw [← e id rfl]; exact .os id
 | oe hb=>exact .oe (by rw [e _ rfl]; exact hb)
def AReps (β:Nat → Value) (h:Heap) (cs:List AV) (vs:List Value):Prop:=vs.length = cs.length ∧ ∀ (j:Nat) (c:AV) (v:Value),cs[j]? = some c → vs[j]? = some v → ARep β h c v
theorem AReps.to {β β':Nat → Value} {h h':Heap} {cs:List AV} {vs:List Value} (r:AReps β h cs vs) (l:h.le h') (e:∀ c ∈ cs,∀ id,c.nm = some id → β' id = β id):AReps β' h' cs vs :=
 ⟨r.1,fun j c v a b=>(r.2 j c v a b).to l (e c (List.mem_of_getElem? a))⟩
theorem AReps.fz {β:Nat → Value} {h:Heap} {cs:List FV} {vs:List Value} (r:FReps h cs vs):AReps β h (cs.map .fz) vs :=
 ⟨by rw [List.length_map]; exact r.1,fun j c v a b=>by
  rw [List.getElem?_map] at a
  cases e:cs[j]? with
  | none=>rw [e] at a; cases a
  | some x=>rw [e] at a; cases a; exact .fz (r.2 j x v e b)⟩
theorem AReps.unfz {β:Nat → Value} {h:Heap} {cs:List FV} {vs:List Value} (r:AReps β h (cs.map .fz) vs):FReps h cs vs :=
 ⟨by have:=r.1; rwa [List.length_map] at this,fun j c v a b=>by
  have:=r.2 j (.fz c) v (by rw [List.getElem?_map,a]; rfl) b
  cases this with
  | fz r=>exact r⟩
inductive OO where
 | box (t:TypeId) (cells:List AV)
 | ext (D:Nat → Prop) (Φ:Value → Heap → Prop)
 | rows (t:TypeId) (sz:Nat) (rows:List (List FV))
def OO.cells:OO → List AV
 | .box _ cs=>cs
 | _=>[]
def fpOf (v:Value):OO → Nat → Prop
 | .ext D _,b=>D b
 | _,b=>baseOf v = some b
structure Gd where
 h:Heap
 fx:Nat → Value
abbrev AS:=List (Nat × OO)
abbrev AT:=List (Nat × AV)
abbrev AL:=List (Nat × Option (Nat × Bool) × AV)
def OOk (β:Nat → Value) (hF h:Heap) (id:Nat):OO → Prop
 | .box t cells=>∃ b vs,β id = .pointer (some ⟨b,0,none⟩) ∧ h b = some (.cells (List.toArray vs) t (0,0)) ∧ AReps β hF cells vs
 | .ext D Φ=>(∀ b,baseOf (β id) = some b → D b) ∧ (∀ b,D b → h b ≠ none) ∧ ∀ h',(∀ b,D b → h' b = h b) → Φ (β id) h'
 | .rows t sz rows=>∃ vs,Own h t sz (β id) rows.length vs ∧ (∀ r ∈ rows,r.length = sz) ∧ (∀ r ∈ rows,r.all FV.one = true) ∧ FReps hF rows.flatten vs
structure Ok (h0:Gd) (β:Nat → Value) (hF h:Heap) (σ:AS):Prop where
 le0:h0.h.le hF
 le:hF.le h
 ok:∀ e ∈ σ,OOk β hF h e.1 e.2
 out:∀ e ∈ σ,∀ b,fpOf (β e.1) e.2 b → hF b = none
 sep:∀ e ∈ σ,∀ e' ∈ σ,∀ b,e.1 ≠ e'.1 → fpOf (β e.1) e.2 b → ¬ fpOf (β e'.1) e'.2 b
 fix:∀ id,1000 ≤ id → β id = h0.fx id
 nd:(σ.map (·.1)).Nodup
def GOk (Tc:Tm) (g:Option (Nat × Bool)) (A:Prop) (v:Value):Prop:=match g with
 | none=>A
 | some (s,p)=>(Tc s = .bool p → A) ∧ (Tc s ≠ .bool p → v = undef)
structure Sem (h0:Gd) (β:Nat → Value) (hF h:Heap) (Tc:Tm) (T:AT) (L:AL) (σ:AS):Prop where
 ok:Ok h0 β hF h σ
 t:∀ e ∈ T,(∀ e' ∈ L,e'.1 ≠ e.1) → ARep β hF e.2 (Tc e.1)
 l:∀ e ∈ L,GOk Tc e.2.1 (ARep β hF e.2.2 (Tc e.1)) (Tc e.1)
 g:∀ e ∈ L,∀ s p,e.2.1 = some (s,p) → ∃ e' ∈ L,e'.1 = s
def lookL:AL → Nat → Option (Option (Nat × Bool) × AV)
 | [],_=>none
 | e :: r,t=>if e.1 = t then some e.2 else lookL r t
def lookT:AT → Nat → Option AV
 | [],_=>none
 | e :: r,t=>if e.1 = t then some e.2 else lookT r t
def lookV (L:AL) (T:AT) (t:Nat):Option (Option (Nat × Bool) × AV):=match lookL L t with
 | some x=>some x
 | none=>match lookT T t with
  | some av=>some (none,av)
  | none=>none
def lookS:AS → Nat → Option OO
 | [],_=>none
 | e :: r,t=>if e.1 = t then some e.2 else lookS r t
theorem lookL_mem {t:Nat} {x:Option (Nat × Bool) × AV}:∀ {L:AL},lookL L t = some x → (t,x) ∈ L
 | [],h=>by cases h
 | (a,y) :: r,h=>by
  unfold lookL at h
  split at h
  ·rename_i e; cases h; cases e; exact List.mem_cons_self
  ·exact List.mem_cons_of_mem _ (lookL_mem h)
theorem lookL_none {t:Nat}:∀ {L:AL},lookL L t = none → ∀ e ∈ L,e.1 ≠ t
 | [],_,e,he=>by cases he
 | (a,y) :: r,h,e,he=>by
  unfold lookL at h
  split at h
  ·cases h
  ·rename_i hne
   rcases List.mem_cons.1 he with rfl | he
   ·exact hne
   ·exact lookL_none h e he
theorem lookT_mem {t:Nat} {x:AV}:∀ {T:AT},lookT T t = some x → (t,x) ∈ T
 | [],h=>by cases h
 | (a,y) :: r,h=>by
  unfold lookT at h
  split at h
  ·rename_i e; cases h; cases e; exact List.mem_cons_self
  ·exact List.mem_cons_of_mem _ (lookT_mem h)
theorem lookS_mem {t:Nat} {x:OO}:∀ {σ:AS},lookS σ t = some x → (t,x) ∈ σ
 | [],h=>by cases h
 | (a,y) :: r,h=>by
  unfold lookS at h
  split at h
  ·rename_i e; cases h; cases e; exact List.mem_cons_self
  ·exact List.mem_cons_of_mem _ (lookS_mem h)
section
variable {h0 : Gd} {β : Nat → Value} {hF h : Heap} {Tc : Tm} {T : AT} {L : AL} {σ : AS}
theorem Sem.lk (s:Sem h0 β hF h Tc T L σ) {t:Nat} {g:Option (Nat × Bool)} {x:AV} (e:lookV L T t = some (g,x)):GOk Tc g (ARep β hF x (Tc t)) (Tc t):=by
 unfold lookV at e
 split at e
 ·rename_i y hy
  cases e
  exact s.l _ (lookL_mem hy)
 ·rename_i hn
  split at e
  ·rename_i av hav
   cases e
   exact s.t _ (lookT_mem hav) (fun e' he'=>lookL_none hn e' he')
  ·cases e
theorem Sem.put (s:Sem h0 β hF h Tc T L σ) {d:Nat} {g:Option (Nat × Bool)} {x:AV} {v:Value} (hd:∀ e ∈ L,e.1 ≠ d) (hg:∀ a p,g = some (a,p) → ∃ e ∈ L,e.1 = a) (hv:GOk Tc g (ARep β hF x v) v):Sem h0 β hF h (upd Tc d v) T ((d,g,x) :: L) σ where
 ok:=s.ok
 t:=fun e he hne=>by
  have h1:e.1 ≠ d:=fun e1=>hne _ List.mem_cons_self e1.symm
  simp only [upd,if_neg h1]
  exact s.t e he fun e' he'=>hne e' (List.mem_cons_of_mem _ he')
 l:=fun e he=>by
  rcases List.mem_cons.1 he with rfl | he
  ·simp only [upd,if_true]
   cases g with
   | none=>exact hv
   | some a =>
    obtain ⟨a,p⟩:=a
    obtain ⟨e',he',h1⟩:=hg a p rfl
    have:a ≠ d:=fun e2=>hd e' he' (h1.trans e2)
    simp only [GOk,upd,if_neg this] at hv ⊢
    exact hv
  ·have h1:e.1 ≠ d:=hd e he
   have:=s.l e he
   simp only [upd,if_neg h1]
   cases hge:e.2.1 with
   | none=>rw [hge] at this; exact this
   | some a =>
    obtain ⟨a,p⟩:=a
    rw [hge] at this
    obtain ⟨e',he',h2⟩:=s.g e he a p hge
    have hne:a ≠ d:=fun e2=>hd e' he' (h2.trans e2)
    have hu:upd Tc d v a = Tc a:=by simp [upd,hne]
    simp only [GOk,hu]
    exact this
 g:=fun e he a p hga=>by
  rcases List.mem_cons.1 he with rfl | he
  ·obtain ⟨e',he',h1⟩:=hg a p hga
   exact ⟨e',List.mem_cons_of_mem _ he',h1⟩
  ·obtain ⟨e',he',h1⟩:=s.g e he a p hga
   exact ⟨e',List.mem_cons_of_mem _ he',h1⟩
end
def absC:Value → FV
 | .agg cs=>.agg (cs.toList.map .val)
 | v=>.val v
theorem absC_rep (h:Heap) (v:Value):FRep h (absC v) v:=by
 cases v with
 | agg cs =>
  have:FRep h (.agg (cs.toList.map .val)) (.agg cs.toList.toArray):=.agg (by simp) (fun j c v a b=>by
   rw [List.getElem?_map] at a
   rw [b] at a; cases a; exact .val v)
  simpa [absC] using this
 | _=>exact .val _
def chain (L:AL):Nat → Option (Nat × Bool) → List (Nat × Bool)
 | _,none=>[]
 | 0,some g=>[g]
 | k + 1,some g=>g :: (match lookL L g.1 with
  | some x=>chain L k x.1
  | none=>[])
theorem chain_ok {h0:Gd} {β:Nat → Value} {hF h:Heap} {Tc:Tm} {T:AT} {L:AL} {σ:AS} (s:Sem h0 β hF h Tc T L σ):∀ (k:Nat) (g:Option (Nat × Bool)),(∀ a p,g = some (a,p) → Tc a = .bool p) → ∀ x ∈ chain L k g,Tc x.1 = .bool x.2
 | k,none,_,x,hx=>by cases k <;> simp [chain] at hx
 | 0,some (a,p),hg,x,hx=>by simp only [chain,List.mem_singleton] at hx; subst hx; exact hg a p rfl
 | k + 1,some (a,p),hg,x,hx=>by
  simp only [chain,List.mem_cons] at hx
  rcases hx with rfl | hx
  ·exact hg a p rfl
  ·split at hx
   ·rename_i y hy
    refine chain_ok s k _ (fun a' p' e=>?_) x hx
    have h1:=s.l _ (lookL_mem hy)
    simp only [e,GOk] at h1
    rcases Classical.em (Tc a' = .bool p') with h2 | h2
    ·exact h2
    ·have:=h1.2 h2
     rw [hg a p rfl] at this; cases this
   ·cases hx
def inCh (g:Option (Nat × Bool)) (ch:List (Nat × Bool)):Bool:=match g with
 | none=>true
 | some g=>ch.any fun x=>x.1 == g.1 && x.2 == g.2
def opd (L:AL) (T:AT) (ch:List (Nat × Bool)):Operand → Option AV
 | .tmp t=>match lookV L T t with
  | some (g,x)=>if inCh g ch then some x else none
  | none=>none
 | .const v=>some (.fz (absC v))
 | .global g=>some (.fz (.val (.pointer (some ⟨g,0,none⟩))))
 | .func f=>some (.fz (.fn f [] []))
theorem opd_ok {h0:Gd} {β:Nat → Value} {hF h:Heap} {Tc:Tm} {T:AT} {L:AL} {σ:AS} (s:Sem h0 β hF h Tc T L σ) {ch:List (Nat × Bool)} (hch:∀ x ∈ ch,Tc x.1 = .bool x.2) {x:Operand} {av:AV} (e:opd L T ch x = some av):ARep β hF av (ev Tc x):=by
 cases x with
 | tmp t =>
  simp only [opd] at e
  split at e
  ·rename_i g y hy
   split at e
   ·rename_i hin
    cases e
    have h1:=s.lk hy
    cases g with
    | none=>exact h1
    | some g =>
     obtain ⟨a,p⟩:=g
     simp only [inCh,List.any_eq_true,Bool.and_eq_true,beq_iff_eq] at hin
     obtain ⟨z,hz,h2,h3⟩:=hin
     have:=hch z hz
     rw [h2,h3] at this
     exact h1.1 this
   ·cases e
  ·cases e
 | const v=>cases e; exact .fz (absC_rep _ v)
 | global g=>cases e; exact .fz (.val _)
 | func f=>cases e; exact .fz (.fn (va:=[]) (vb:=[]) rfl rfl (fun j c v a=>by simp at a) (fun j c v a=>by simp at a))
end Go.Proofs.YtihdpjinaafenaaGreatDoor.Ab

/- Operations told short; what is reckoned or read of frozen values and of objects. -/
namespace Go.Proofs.YtihdpjinaafenaaGreatDoor.Ab
open Go.Proofs.YtihdpjinaafenaaGreatDoor.Sl
inductive K where
 | mv (x:Operand) | asg (x:Operand) | pick (c:Nat) (a b:Operand)
 | bin (op:BinOp) (t:TypeId) (x y:Operand) (ty:TypeId)
 | eqs (t:TypeId) (x y:Operand) (ty:TypeId) | nes (t:TypeId) (x y:Operand) (ty:TypeId)
 | eqb (c:Nat) (t:TypeId) (x y:Operand) (ty:TypeId) | neb (c:Nat) (t:TypeId) (x y:Operand) (ty:TypeId)
 | not (t:TypeId) (x:Operand) | bnot (t:TypeId) (x:Operand)
 | conv (s d:TypeId) (x:Operand) (k:IntKind) | nilc (x:Operand)
 | fa (t:TypeId) (x:Operand) (f off n:Nat) | fd1 (t:TypeId) (x:Operand) (f off:Nat) | fdN (t:TypeId) (x:Operand) (f off n:Nat)
 | ix (t:TypeId) (x i:Operand) (e sz:Nat) | ixa (t:TypeId) (x i:Operand) (e sz n:Nat)
 | ld (t:TypeId) (x:Operand) | ldN (t:TypeId) (x:Operand) (n:Nat)
 | len (t:TypeId) (x:Operand) (e:TypeId) | lens (t:TypeId) (x:Operand) | cmin (x y:Operand) (t:TypeId) | cmax (x y:Operand) (t:TypeId)
 | bld (t:TypeId) (parts:List (Nat × Operand)) (pl:List (Nat × Nat)) (z:List Value)
 | ext (x:Operand) (i:Nat) | mkf (f:FuncId) (a b:List Operand) | mki (t:TypeId) (x:Operand)
 | sli (t:TypeId) (x:Operand) (lo hi:Option Operand) (e sz:Nat)
 | box (t:TypeId) (x:Operand) (z:Bool) | alc (t:TypeId) (zs:List Value) (z:Bool)
 | st (t:TypeId) (x y:Operand) | stN (t:TypeId) (x y:Operand) (n:Nat)
 | app (t tx:TypeId) (x y:Operand) (e e' sz:Nat)
 | bsl (t:TypeId) (n:Nat) (parts:List (Nat × Operand)) (e sz:Nat) (z:Bool) | mks (t:TypeId) (x y:Operand) (e sz:Nat) (zs:List Value)
 | call (f:FuncId) (args:List Operand) (tys:List TypeId) | callv (x:Operand) (args:List Operand) (tys:List TypeId)
 | other (op:Op)
def K.op:K → Op
 | .mv x=>.move x | .asg x=>.assign x | .pick c a b=>.pick (.tmp c) a b
 | .bin op t x y ty=>.binOp op t x y ty
 | .eqs t x y ty=>.binOp .eql t x y ty | .nes t x y ty=>.binOp .neq t x y ty
 | .eqb _ t x y ty=>.binOp .eql t x y ty | .neb _ t x y ty=>.binOp .neq t x y ty
 | .not t x=>.unOp .not t x | .bnot t x=>.unOp .xor t x
 | .conv s d x _=>.convert s d x | .nilc x=>.nilCheck x
 | .fa t x f _ _=>.fieldAddr t x f | .fd1 t x f _=>.field t x f | .fdN t x f _ _=>.field t x f
 | .ix t x i _ _=>.indexAddr t x i | .ixa t x i _ _ _=>.indexAddr t x i
 | .ld t x=>.load t x | .ldN t x _=>.load t x
 | .len t x _=>.call ⟨.builtin .len,#[x],#[t]⟩ | .lens t x=>.call ⟨.builtin .len,#[x],#[t]⟩
 | .cmin x y t=>.call ⟨.builtin .min,#[x,y],#[t,t]⟩ | .cmax x y t=>.call ⟨.builtin .max,#[x,y],#[t,t]⟩
 | .bld t parts _ _=>.build t parts.toArray
 | .ext x i=>.extract x i | .mkf f a b=>.makeFunc (.func f) a.toArray b.toArray | .mki t x=>.makeInterface t x
 | .sli t x lo hi _ _=>.slice t x lo hi none
 | .box t x _=>.box t x | .alc t _ _=>.alloc t
 | .st t x y=>.store t x y | .stN t x y _=>.store t x y
 | .app t tx x y _ _ _=>.call ⟨.builtin .append,#[x,y],#[t,tx]⟩
 | .bsl t n parts _ _ _=>.buildSlice t n parts.toArray | .mks t x y _ _ _=>.makeSlice t x y
 | .call f args tys=>.call ⟨.value (.func f),args.toArray,tys.toArray⟩ | .callv x args tys=>.call ⟨.value x,args.toArray,tys.toArray⟩
 | .other op=>op
def isEq (P:Program) (c:Nat) (t:TypeId) (y:Operand):Bool:=match c,P.underlying t with
 | 0,some .bool=>true
 | 1,some (.pointer _)=>true
 | 2,some (.interface _)=>isLit y
 | _,_=>false
def isOne (P:Program) (t:TypeId):Bool:=match P.underlying t with
 | some (.struct _) | some (.array _ _) | none=>false
 | _=>true
def isMany (P:Program) (t:TypeId):Bool:=match P.underlying t with
 | some (.struct _) | some (.array _ _)=>true
 | _=>false
def isSl (P:Program) (t e:TypeId):Bool:=match P.underlying t with
 | some (.slice e')=>e' == e
 | _=>false
def isArr (P:Program) (t n e:TypeId):Bool:=match P.underlying t with
 | some (.array n' e')=>e' == e && n' == n
 | _=>false
def isIntT (P:Program) (t:TypeId):Bool:=match P.underlying t with
 | some (.int _)=>true
 | _=>false
def isStr (P:Program) (t:TypeId):Bool:=match P.underlying t with
 | some .string=>true
 | _=>false
def sameZ:Value → Value → Bool
 | .int k n,.int k' n'=>decide (k = k') && decide (n = n')
 | .bool a,.bool b=>a == b
 | .string a,.string b=>a.size == 0 && b.size == 0
 | .pointer none,.pointer none=>true
 | .slice none 0 0,.slice none 0 0=>true
 | .map none,.map none=>true
 | .nilFunc,.nilFunc=>true
 | .nilIface,.nilIface=>true
 | _,_=>false
theorem ba_empty {a:ByteArray} (h:(a.size == 0) = true):a = ByteArray.empty:=by
 cases a with
 | mk d =>
  simp only [beq_iff_eq,ByteArray.size] at h
  have:d = #[]:=Array.size_eq_zero_iff.1 h
  subst this; rfl
theorem sameZ_eq {a b:Value} (h:sameZ a b = true):a = b:=by
 unfold sameZ at h
 split at h
 ·simp only [Bool.and_eq_true,decide_eq_true_eq] at h; rw [h.1,h.2]
 ·simp only [beq_iff_eq] at h; rw [h]
 ·simp only [Bool.and_eq_true] at h; rw [ba_empty h.1,ba_empty h.2]
 all_goals first | rfl | cases h
def sameZs:List Value → List Value → Bool
 | [],[]=>true
 | a :: x,b :: y=>sameZ a b && sameZs x y
 | _,_=>false
theorem sameZs_eq:∀ {a b:List Value},sameZs a b = true → a = b
 | [],[],_=>rfl
 | a :: x,b :: y,h=>by
  simp only [sameZs,Bool.and_eq_true] at h
  rw [sameZ_eq h.1,sameZs_eq h.2]
 | [],_ :: _,h=>by cases h
 | _ :: _,[],h=>by cases h
def zeroIs (P:Program) (t:TypeId) (z:List Value):Bool:=match zeroOf P t with
 | some zs=>sameZs zs.toList z
 | none=>false
theorem zeroIs_eq {P:Program} {t:TypeId} {z:List Value} (h:zeroIs P t z = true):zeroOf P t = some z.toArray:=by
 unfold zeroIs at h
 split at h
 ·rename_i zs e; rw [e,← sameZs_eq h]
 ·cases h
def okCall (P:Program) (f:FuncId):Bool:=match P.funcs[f]? with
 | some fn => !(fn.name == "runtime.NumGoroutine") && !fn.body.isNone
 | none=>false
def K.side (P:Program):K → Bool
 | .fa t _ f off n=>fieldOff P t f == some off
 | .fd1 t _ f off=>fieldPart P t f == some (off,1,false)
 | .fdN t _ f off n=>fieldPart P t f == some (off,n,true)
 | .ix t _ _ e sz=>isSl P t e && P.cellsOf e == sz && (P.info? e).isSome
 | .ixa t _ _ e sz n=>isArr P t n e && P.cellsOf e == sz && (P.info? e).isSome
 | .ld t _=>isOne P t
 | .ldN t _ n=>isMany P t && P.cellsOf t == n
 | .conv s d _ k=>isIntT P s && (match P.underlying d with | some (.int k')=>k' == k | _=>false)
 | .len t _ e=>isSl P t e
 | .eqb c t _ y _ | .neb c t _ y _=>isEq P c t y
 | .lens t _=>isStr P t
 | .mki t _=>match P.underlying t with
  | some (.interface _) | none=>false
  | _=>true
 | .bld t _ pl z=>placesOf P t == some pl && zeroIs P t z
 | .alc t zs _=>zeroIs P t zs && !zs.isEmpty
 | .st t _ _=>P.cellsOf t == 1 && (P.info? t).isSome
 | .stN t _ _ n=>P.cellsOf t == n && (P.info? t).isSome
 | .app t tx _ _ e e' sz=>isSl P t e && isSl P tx e' && infoOk P e sz
 | .bsl t n parts e sz _=>isSl P t e && infoOk P e sz && decide (n = parts.length) && decide (parts.map (·.1) = List.range n) && decide (0 < sz) && decide (n * sz ≤ 65536)
 | .call f _ _=>okCall P f
 | .mks t _ _ e sz zs=>isSl P t e && infoOk P e sz && zeroIs P e zs && zs.all (·.oneCell')
 | .sli t _ _ _ e sz=>isSl P t e && P.cellsOf e == sz && (P.info? e).isSome
 | _=>true
structure AO where
 dst:Option Nat
 g:Option (Nat × Bool)
 k:K
 q:Bool
def sint (op:BinOp) (k:IntKind) (a b:Int):Option (Prop × Value):=match op with
 | .quo=>some (b ≠ 0,.int k (k.wrap (a.tdiv b)))
 | .rem=>some (b ≠ 0,.int k (a.tmod b))
 | op=>(intBin op k a b).map fun v=>(True,v)
def ibin (op:BinOp) (k k':IntKind) (a b:Int):Option (Prop × Value):=match op with
 | .shl=>some (0 ≤ b,.int k (k.wrap (a * 2 ^ (min b.toNat k.bits))))
 | .shr=>some (0 ≤ b,.int k (a.fdiv (2 ^ (min b.toNat k.bits))))
 | op=>if k = k' then sint op k a b else none
def feq:Nat → AV → AV → Option Bool
 | 0,.fz (.val (.bool a)),.fz (.val (.bool b))=>some (a == b)
 | 1,.fz (.val (.pointer none)),.fz (.val (.pointer none))=>some true
 | 1,.fz (.fp _),.fz (.val (.pointer none))=>some false
 | 1,.oe _ _ _ _,.fz (.val (.pointer none))=>some false
 | 2,.fz (.val .nilIface),.fz (.val .nilIface)=>some true
 | 2,.fz (.ifc _ _),.fz (.val .nilIface)=>some false
 | _,_,_=>none
def FV.cells:FV → List FV
 | .agg cs=>cs
 | .val v=>v.cells.toList.map .val
 | x=>[x]
def fillF (places:List (Nat × Nat)):List FV → List (Nat × FV) → Option (List FV)
 | cs,[]=>some cs
 | cs,(i,x) :: r=>match places[i]? with
  | none=>none
  | some (off,size)=>if x.cells.length = size ∧ off + size ≤ cs.length then fillF places (cs.take off ++ x.cells ++ cs.drop (off + size)) r else none
def ofzs (o:Operand → Option AV):List Operand → Option (List FV)
 | []=>some []
 | x :: r=>match o x with
  | some (.fz y)=>match ofzs o r with
   | some ys=>some (y :: ys)
   | none=>none
  | _=>none
def ofzp (o:Operand → Option AV):List (Nat × Operand) → Option (List (Nat × FV))
 | []=>some []
 | (i,x) :: r=>match o x with
  | some (.fz y)=>match ofzp o r with
   | some ys=>some ((i,y) :: ys)
   | none=>none
  | _=>none
def bnd (o:Operand → Option AV) (n:Int):Option Operand → Option Int
 | none=>some n
 | some x=>match o x with
  | some (.fz (.val (.int _ j)))=>some j
  | _=>none
def unfz:List AV → Option (List FV)
 | []=>some []
 | .fz x :: r=>match unfz r with
  | some xs=>some (x :: xs)
  | none=>none
 | _ :: _=>none
theorem unfz_eq:∀ {l:List AV} {xs:List FV},unfz l = some xs → l = xs.map .fz
 | [],xs,h=>by cases h; rfl
 | .fz x :: r,xs,h=>by
  unfold unfz at h
  split at h
  ·rename_i ys hy; cases h; rw [unfz_eq hy]; rfl
  ·cases h
 | .hid :: _,_,h=>by cases h
 | .os _ :: _,_,h=>by cases h
 | .oe _ _ _ _ :: _,_,h=>by cases h
structure R where
 ob:Prop
 v:AV
 rd:Option Nat
def pv (σ:AS) (o:List (Nat × Bool) → Operand → Option AV):K → Option R
 | .mv x=>match o [] x with
  | some v=>some ⟨True,v,none⟩
  | none=>none
 | .asg x=>match o [] x with
  | some v=>some ⟨True,v,none⟩
  | none=>none
 | .pick c a b=>match o [] (.tmp c),o [(c,true)] a,o [(c,false)] b with
  | some (.fz (.val (.bool t))),some (.fz (.val (.bool x))),some (.fz (.val (.bool y)))=>some ⟨True,.fz (.val (.bool (bif t then x else y))),none⟩
  | _,_,_=>none
 | .bin op _ x y _=>match o [] x,o [] y with
  | some (.fz (.val (.int k a))),some (.fz (.val (.int k' b)))=>match ibin op k k' a b with
   | some r=>some ⟨r.1,.fz (.val r.2),none⟩
   | none=>none
  | _,_=>none
 | .eqs _ x y _=>match o [] x,o [] y with
  | some (.fz (.val (.string a))),some (.fz (.val (.string b)))=>some ⟨True,.fz (.val (.bool (a.toList == b.toList))),none⟩
  | _,_=>none
 | .nes _ x y _=>match o [] x,o [] y with
  | some (.fz (.val (.string a))),some (.fz (.val (.string b)))=>some ⟨True,.fz (.val (.bool (!(a.toList == b.toList)))),none⟩
  | _,_=>none
 | .not _ x=>match o [] x with
  | some (.fz (.val (.bool b)))=>some ⟨True,.fz (.val (.bool (!b))),none⟩
  | _=>none
 | .bnot _ x=>match o [] x with
  | some (.fz (.val (.int k a)))=>some ⟨True,.fz (.val (.int k (k.wrap (BitVec.ofInt k.bits (if k.signed then -1 else k.max) ^^^ BitVec.ofInt k.bits a).toNat))),none⟩
  | _=>none
 | .conv _ _ x k=>match o [] x with
  | some (.fz (.val (.int _ a)))=>some ⟨True,.fz (.val (.int k (k.wrap a))),none⟩
  | _=>none
 | .nilc x=>match o [] x with
  | some (.fz (.fp cs))=>some ⟨True,.fz (.fp cs),none⟩
  | some (.oe id sz i off)=>some ⟨True,.oe id sz i off,none⟩
  | some (.fz (.fn f a b))=>some ⟨True,.fz (.fn f a b),none⟩
  | _=>none
 | .fa _ x _ off n=>match o [] x with
  | some (.fz (.fp cs))=>some ⟨off + n ≤ cs.length,.fz (.fp ((cs.drop off).take n)),none⟩
  | some (.oe id sz i p)=>some ⟨True,.oe id sz i (p + off),none⟩
  | _=>none
 | .fd1 _ x _ off=>match o [] x with
  | some (.fz (.agg cs))=>match cs.drop off with
   | c :: _=>some ⟨True,.fz c,none⟩
   | []=>none
  | _=>none
 | .fdN _ x _ off n=>match o [] x with
  | some (.fz (.agg cs))=>some ⟨off + n ≤ cs.length,.fz (.agg ((cs.drop off).take n)),none⟩
  | _=>none
 | .ix _ x i _ sz=>match o [] x,o [] i with
  | some (.fz y),some (.fz (.val (.int _ j)))=>match asSl y with
   | some (n,f)=>some ⟨(0 ≤ j ∧ j < n) ∧ (f j.toNat).length = sz,.fz (.fp (f j.toNat)),none⟩
   | none=>none
  | some (.os id),some (.fz (.val (.int _ j)))=>match lookS σ id with
   | some (.rows _ sz' rows)=>if sz' = sz then some ⟨0 ≤ j ∧ j < rows.length,.oe id sz j.toNat 0,none⟩ else none
   | _=>none
  | _,_=>none
 | .ixa _ x i _ sz n=>match o [] x,o [] i with
  | some (.fz (.fp cs)),some (.fz (.val (.int _ j)))=>some ⟨(0 ≤ j ∧ j < n) ∧ n * sz ≤ cs.length,.fz (.fp ((cs.drop (j.toNat * sz)).take sz)),none⟩
  | some (.oe id sz' i' p),some (.fz (.val (.int _ j)))=>some ⟨0 ≤ j ∧ j < n,.oe id sz' i' (p + j.toNat * sz),none⟩
  | _,_=>none
 | .ld _ x=>match o [] x with
  | some (.fz (.fp cs))=>match cs with
   | c :: _=>some ⟨True,.fz c,none⟩
   | []=>none
  | some (.oe id sz i p)=>match lookS σ id with
   | some (.box _ cells)=>if i = 0 then match cells.drop p with
     | c :: _=>some ⟨True,c,some id⟩
     | []=>none
    else none
   | some (.rows _ sz' rows)=>if sz' = sz then some ⟨i < rows.length ∧ p < sz,.fz ((rows.getD i []).getD p (.val undef)),some id⟩ else none
   | _=>none
  | _=>none
 | .ldN _ x n=>match o [] x with
  | some (.fz (.fp cs))=>some ⟨n ≤ cs.length,.fz (.agg (cs.take n)),none⟩
  | some (.oe id sz i p)=>match lookS σ id with
   | some (.box _ cells)=>if i = 0 then match unfz ((cells.drop p).take n) with
     | some cs=>some ⟨p + n ≤ cells.length,.fz (.agg cs),some id⟩
     | none=>none
    else none
   | some (.rows _ sz' rows)=>if sz' = sz ∧ p = 0 ∧ n = sz then some ⟨i < rows.length,.fz (.agg (rows.getD i [])),some id⟩ else none
   | _=>none
  | _=>none
 | .len _ x _=>match o [] x with
  | some (.fz y)=>match asSl y with
   | some (n,_)=>some ⟨True,.fz (.val (.int .i64 n)),none⟩
   | none=>none
  | some (.os id)=>match lookS σ id with
   | some (.rows _ _ rows)=>some ⟨True,.fz (.val (.int .i64 rows.length)),none⟩
   | _=>none
  | _=>none
 | .lens _ x=>match o [] x with
  | some (.fz (.val (.string s)))=>some ⟨True,.fz (.val (.int .i64 s.size)),none⟩
  | _=>none
 | .cmin x y _=>match o [] x,o [] y with
  | some (.fz (.val (.int k a))),some (.fz (.val (.int k' b)))=>if k = k' then some ⟨True,.fz (.val (.int k (if b < a then b else a))),none⟩ else none
  | _,_=>none
 | .cmax x y _=>match o [] x,o [] y with
  | some (.fz (.val (.int k a))),some (.fz (.val (.int k' b)))=>if k = k' then some ⟨True,.fz (.val (.int k (if b > a then b else a))),none⟩ else none
  | _,_=>none
 | .bld _ parts pl z=>match ofzp (o []) parts with
  | some ps=>match fillF pl (z.map .val) ps with
   | some cs=>some ⟨True,.fz (.agg cs),none⟩
   | none=>none
  | none=>none
 | .ext x i=>match o [] x with
  | some (.fz (.tup cs))=>match cs.drop i with
   | c :: _=>some ⟨True,.fz c,none⟩
   | []=>none
  | _=>none
 | .mkf f a b=>match ofzs (o []) a,ofzs (o []) b with
  | some xs,some ys=>some ⟨True,.fz (.fn f xs ys),none⟩
  | _,_=>none
 | .mki t x=>match o [] x with
  | some (.fz y)=>some ⟨True,.fz (.ifc t y),none⟩
  | _=>none
 | .sli _ x lo hi _ sz=>match o [] x with
  | some (.fz y)=>match asSl y with
   | some (n,f)=>match bnd (o []) 0 lo,bnd (o []) n hi with
    | some l,some k=>some ⟨(0 ≤ l ∧ l ≤ k ∧ k ≤ n) ∧ ∀ i,i < n → (f i).length = sz,.fz (.sl (k - l).toNat fun i=>f (l.toNat + i)),none⟩
    | _,_=>none
   | none=>none
  | _=>none
 | .eqb c _ x y _=>match o [] x,o [] y with
  | some a,some b=>match feq c a b with
   | some r=>some ⟨True,.fz (.val (.bool r)),none⟩
   | none=>none
  | _,_=>none
 | .neb c _ x y _=>match o [] x,o [] y with
  | some a,some b=>match feq c a b with
   | some r=>some ⟨True,.fz (.val (.bool (!r))),none⟩
   | none=>none
  | _,_=>none
 | _=>none
end Go.Proofs.YtihdpjinaafenaaGreatDoor.Ab
