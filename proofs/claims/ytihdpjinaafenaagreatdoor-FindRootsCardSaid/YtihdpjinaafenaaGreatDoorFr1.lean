import Derived.WalkKit
import Derived.Orders
import Derived.OrdersIn
import Derived.RangeFuncRecord
noncomputable section
/- A program logic over partial heaps: what is known of the heap is a partial map from blocks to objects; blocks that it does not name stay as they are. The rules for code: sequence, test, block, loop, region. -/
set_option linter.unusedVariables false
set_option linter.unusedSimpArgs false
namespace Go.Proofs.YtihdpjinaafenaaGreatDoor.Sl

abbrev Heap:=Nat → Option Obj
def Rel (h:Heap) (w:World):Prop:=∀ b o,h b = some o → w.heap[b]? = some o
structure Step (h h':Heap) (w w':World):Prop where
 os:w'.os = w.os
 tape:w'.tape = w.tape
 output:w'.output = w.output
 size:w.heap.size ≤ w'.heap.size
 keep:∀ b,b < w.heap.size → h b = none → w'.heap[b]? = w.heap[b]?
 fresh:∀ b,h b = none → h' b ≠ none → w.heap.size ≤ b
theorem Step.refl (h:Heap) (w:World):Step h h w w:=⟨rfl,rfl,rfl,Nat.le_refl _,fun _ _ _=>rfl,fun b h1 h2=>absurd h1 h2⟩
theorem Step.trans {h h1 h2:Heap} {w w1 w2:World} (a:Step h h1 w w1) (b:Step h1 h2 w1 w2):Step h h2 w w2 where
 os:=b.os.trans a.os
 tape:=b.tape.trans a.tape
 output:=b.output.trans a.output
 size:=Nat.le_trans a.size b.size
 keep:=fun k hk hn=>by
  have h1n:h1 k = none:=by
   cases e:h1 k with
   | none=>rfl
   | some o=>have:=a.fresh k hn (by rw [e]; simp); omega
  exact (b.keep k (Nat.lt_of_lt_of_le hk a.size) h1n).trans (a.keep k hk hn)
 fresh:=fun k hn hs=>by
  cases e:h1 k with
  | none=>exact Nat.le_trans a.size (b.fresh k e hs)
  | some o=>exact a.fresh k hn (by rw [e]; simp)
theorem Step.drew {h h':Heap} {w w':World} (a:Step h h' w.drew w'):Step h h' w w':=⟨a.os,a.tape,a.output,a.size,a.keep,a.fresh⟩
theorem Rel.drew {h:Heap} {w:World} (a:Rel h w):Rel h w.drew:=a
def Heap.le (h h':Heap):Prop:=∀ b o,h b = some o → h' b = some o
theorem Heap.le_refl (h:Heap):h.le h:=fun _ _ e=>e
theorem Heap.le_trans {h h1 h2:Heap} (a:h.le h1) (b:h1.le h2):h.le h2:=fun k o e=>b k o (a k o e)
theorem Rel.le {h h':Heap} {w:World} (r:Rel h' w) (l:h.le h'):Rel h w:=fun b o e=>r b o (l b o e)
theorem Rel.lt {h:Heap} {w:World} (r:Rel h w) {b:Nat} {o:Obj} (e:h b = some o):b < w.heap.size:=by
 have:=r b o e
 exact (Array.getElem?_eq_some_iff.1 this).1
def Heap.set (h:Heap) (b:Nat) (o:Obj):Heap:=fun k=>if k = b then some o else h k
theorem Heap.set_same (h:Heap) (b:Nat) (o:Obj):h.set b o b = some o:=by simp [Heap.set]
theorem Heap.set_other (h:Heap) {b k:Nat} (o:Obj) (hk:k ≠ b):h.set b o k = h k:=by simp [Heap.set,hk]
theorem Heap.le_set {h:Heap} {b:Nat} (o:Obj) (hb:h b = none):h.le (h.set b o):=fun k o' e=>by
 have:k ≠ b:=fun e'=>by rw [e',hb] at e; cases e
 rw [Heap.set_other _ _ this]; exact e

theorem heap_alloc (w:World) (o:Obj) (k:Nat) (h:k < w.heap.size):(w.alloc o).heap[k]? = w.heap[k]?:=by
 show (w.heap.push o)[k]? = _
 rw [Array.getElem?_push,if_neg (by omega)]
theorem heap_alloc_new (w:World) (o:Obj):(w.alloc o).heap[w.heap.size]? = some o:=by
 show (w.heap.push o)[w.heap.size]? = _
 rw [Array.getElem?_push,if_pos rfl]
theorem size_alloc (w:World) (o:Obj):(w.alloc o).heap.size = w.heap.size + 1:=by
 show (w.heap.push o).size = _
 rw [Array.size_push]

abbrev Tm:=Nat → Value
def upd (T:Tm) (d:Nat) (v:Value):Tm:=fun t=>if t = d then v else T t
def put (T:Tm) (d:Option Nat) (v:Value):Tm:=match d with | some d=>upd T d v | none=>T
def ev (T:Tm):Operand → Value
 | .tmp t=>T t
 | .const v=>v
 | .global g=>.pointer (some ⟨g,0,none⟩)
 | .func f=>.func (.func f) #[] #[]
structure Reads (N:Nat) (T:Tm) (a:Act) (D:List Deferred:=[]):Prop where
 size:a.tmps.size = N
 at_:∀ t,t < N → a.tmps[t]? = some (T t)
 out:∀ t,N ≤ t → T t = undef
 defers:a.defers = D
theorem Reads.eval {N:Nat} {T:Tm} {a:Act} {D:List Deferred} (r:Reads N T a D):a.eval = ev T:=by
 funext x
 cases x with
 | tmp t =>
  simp only [Act.eval,ev]
  by_cases h:t < N
  ·rw [Array.getD_eq_getD_getElem?,r.at_ t h]; rfl
  ·have h':N ≤ t:=Nat.le_of_not_lt h
   rw [Array.getD_eq_getD_getElem?,Array.getElem?_eq_none (r.size ▸ h'),r.out t h']; rfl
 | _=>rfl
theorem Reads.put {N:Nat} {T:Tm} {a:Act} {D:List Deferred} (r:Reads N T a D) (d:Option Nat) (hd:∀ t,d = some t → t < N) (v:Value):Reads N (put T d v) (a.put d v) D:=by
 cases d with
 | none=>exact r
 | some d =>
  have hdN:=hd d rfl
  refine ⟨by simpa [Act.put] using r.size,fun t ht=>?_,fun t ht=>?_,r.defers⟩
  ·simp only [Act.put,Sl.put,upd]
   by_cases e:t = d
   ·subst e; simp [Array.getElem?_setIfInBounds,r.size,hdN]
   ·rw [Array.getElem?_setIfInBounds_ne (fun e'=>e e'.symm),if_neg e]; exact r.at_ t ht
  ·simp only [Sl.put,upd]
   rw [if_neg (by omega)]; exact r.out t ht
def want (ops:Array Oper) (T:Tm) (o:Oper):Bool :=
 match o.guard with
 | none=>true
 | some (j,b)=>match ((ops[j]?).bind (·.dst)) with
  | some t=>match T t with
   | .bool x=>x == b
   | _=>false
  | none=>false
theorem Reads.want {N:Nat} {T:Tm} {a:Act} {D:List Deferred} (r:Reads N T a D) (ops:Array Oper) (o:Oper):Region.wanted o (yielded ops a.tmps) = want ops T o:=by
 unfold Region.wanted Sl.want
 cases o.guard with
 | none=>rfl
 | some g =>
  obtain ⟨j,b⟩:=g
  simp only [yielded]
  cases h:(ops[j]?).bind (·.dst) with
  | none=>simp
  | some t =>
   simp only [Option.bind_some]
   by_cases ht:t < N
   ·rw [r.at_ t ht]
    cases T t <;> simp
   ·have h':N ≤ t:=Nat.le_of_not_lt ht
    rw [Array.getElem?_eq_none (r.size ▸ h'),r.out t h']; simp [undef]

def SCalls (P:Program) (f:FuncId) (args:Array Value) (h:Heap) (R:Value → Heap → Prop):Prop :=
 ∀ w,Rel h w → Calls P f args w fun e w'=>∃ v h',e = .returned v ∧ R v h' ∧ Rel h' w' ∧ Step h h' w w'
theorem SCalls.mono {P:Program} {f:FuncId} {args:Array Value} {h:Heap} {R R':Value → Heap → Prop} (c:SCalls P f args h R) (i:∀ v h',R v h' → R' v h'):SCalls P f args h R' :=
 fun w r=>(c w r).mono fun e w' ⟨v,h',a,b,c⟩=>⟨v,h',a,i _ _ b,c⟩
def wideR (ro:Option Nat):Fence:={ fn:=fun _=>True,depth:=none,alive:=false,round:=ro }
def SRound (P:Program) (l:Nat) (f:FuncId) (tmps:Array Value) (assign body:Code) (h:Heap) (R:Value → Heap → Prop):Prop :=
 ∀ w,Rel h w → RoundIn (wideR none) 0 P l f tmps assign body w fun e w'=>∃ v h',e = .returned v ∧ R v h' ∧ Rel h' w' ∧ Step h h' w w'
theorem SRound.mono {P:Program} {l:Nat} {f:FuncId} {tmps:Array Value} {assign body:Code} {h:Heap} {R R':Value → Heap → Prop} (c:SRound P l f tmps assign body h R) (i:∀ v h',R v h' → R' v h'):SRound P l f tmps assign body h R' :=
 fun w r=>(c w r).mono fun e w' ⟨v,h',a,b,c⟩=>⟨v,h',a,i _ _ b,c⟩
def SNext (P:Program) (h:Heap) (K:Value → Heap → Prop):Next → Prop
 | .enter f args=>SCalls P f args h K
 | .round l f tmps assign body=>SRound P l f tmps assign body h K
 | _=>False
theorem SNext.mono {P:Program} {h:Heap} {K K':Value → Heap → Prop} {x:Next} (c:SNext P h K x) (i:∀ v h',K v h' → K' v h'):SNext P h K' x:=by
 cases x <;> first | exact SCalls.mono c i | exact SRound.mono c i | exact c
def SOp (P:Program) (o:Oper) (ρ:Operand → Value) (h:Heap) (K:Value → Heap → Prop):Prop :=
 ∀ w,Rel h w →
  (∃ v w' h',((execOp ρ o).run P w = .ok (.value v) w' ∨ (v = undef ∧ (execOp ρ o).run P w = .ok .skip w')) ∧ K v h' ∧ Rel h' w' ∧ Step h h' w w') ∨
  (∃ x w',(execOp ρ o).run P w = .ok x w' ∧ w'.heap = w.heap ∧ w'.os = w.os ∧ w'.tape = w.tape ∧ w'.output = w.output ∧ SNext P h K x)
theorem SOp.mono {P:Program} {o:Oper} {ρ:Operand → Value} {h:Heap} {K K':Value → Heap → Prop} (s:SOp P o ρ h K) (i:∀ v h',K v h' → K' v h'):SOp P o ρ h K':=fun w r=>by
 rcases s w r with ⟨v,w',h',a,b,c⟩ | ⟨x,w',a,b,c1,c2,c3,d⟩
 ·exact .inl ⟨v,w',h',a,i _ _ b,c⟩
 ·exact .inr ⟨x,w',a,b,c1,c2,c3,d.mono i⟩
theorem semAt_of_run {P:Program} {ro:Option Nat} {ρ:Operand → Value} {o:Oper} {w w':World} {x:Next} (e:(execOp ρ o).run P w = .ok x w') (hn:∀ d,x ≠ .defer d):(o.semAt ro ρ).run P w = .ok x w':=by
 rw [Oper.semAt_eq ro ρ o (fun c hc=>?_)]
 ·exact e
 ·unfold execOp at e
  rw [hc] at e
  simp only [Sem.run_bind] at e
  cases hr:(resolve ρ c o.type).run P w with
  | ok d w1=>rw [hr] at e; simp only [Result.andThen_ok,Sem.run_pure,Result.ok.injEq] at e; exact hn d e.1.symm
  | halt y w1=>rw [hr] at e; cases e
theorem Calls.inR {P:Program} {ro:Option Nat} {n:Nat} {f:FuncId} {args:Array Value} {w:World} {R:Ending → World → Prop} (c:Calls P f args w R):CallsIn (wideR ro) n P f args w R:=callsIn_wide (n:=n).2 c
theorem SOp.res {P:Program} {o:Oper} {N:Nat} {ρ:Operand → Value} {h:Heap} {K:Value → Heap → Prop} (s:SOp P o ρ h K) {ro:Option Nat} {a:Act} {w:World} (ra:a.eval = ρ) (rw_:Rel h w)
  {next:Act → World → Prop} {Q:Exit → Act → World → Prop}
  (hn:∀ v h' w',K v h' → Rel h' w' → Step h h' w w' → next (a.put o.dst v) w'):o.wpIn (wideR ro) 0 P a w next Q:=by
 unfold Oper.wpIn
 refine ⟨fun _ _=>trivial,?_⟩
 rw [ra]
 rcases s w rw_ with ⟨v,w',h',e | ⟨rfl,e⟩,k,r,st⟩ | ⟨x,w',e,hh,ho,ht,hu,c⟩
 ·rw [semAt_of_run e (by simp)]; exact hn v h' w' k r st
 ·rw [semAt_of_run e (by simp)]; exact hn _ h' w' k r st
 ·have fin:∀ v h' w'',K v h' → Rel h' w'' → Step h h' w' w'' → next (a.put o.dst v) w'':=fun v h' w'' k r st=>by
   refine hn v h' w'' k r ⟨st.os.trans ho,st.tape.trans ht,st.output.trans hu,by rw [← hh]; exact st.size,fun b hb hn=>?_,fun b h1 h2=>by rw [← hh]; exact st.fresh b h1 h2⟩
   rw [← hh] at hb ⊢
   exact st.keep b hb hn
  have r':Rel h w':=fun b o eb=>by rw [hh]; exact rw_ b o eb
  cases x with
  | enter f args =>
   rw [semAt_of_run e (by simp),Oper.uponIn_enter]
   refine ⟨fun hd=>by simp [wideR] at hd,Calls.inR ((c w' r').mono ?_)⟩
   rintro e w'' ⟨v,h',rfl,k,r,st⟩
   exact fin v h' w'' k r st
  | round l f tmps assign body =>
   rw [semAt_of_run e (by simp),Oper.uponIn_round]
   refine ⟨fun hd=>by simp [wideR] at hd,?_⟩
   have c2:RoundIn (wideR ro) (0 - 1) P l f tmps assign body w' fun e w'=>∃ v h',e = .returned v ∧ K v h' ∧ Rel h' w' ∧ Step h h' _ w':=c w' r'
   refine c2.mono ?_
   rintro e w'' ⟨v,h',rfl,k,r,st⟩
   exact fin v h' w'' k r st
  | _=>exact c.elim
theorem SOp.wp {P:Program} {o:Oper} {N:Nat} {T:Tm} {h:Heap} {K:Value → Heap → Prop} (s:SOp P o (ev T) h K) {ro:Option Nat} {D:List Deferred} {a:Act} {w:World} (ra:Reads N T a D) (rw_:Rel h w)
  (hd:∀ t,o.dst = some t → t < N) {next:Act → World → Prop} {Q:Exit → Act → World → Prop}
  (hn:∀ v h' w' a',K v h' → Rel h' w' → Step h h' w w' → Reads N (put T o.dst v) a' D → next a' w'):o.wpIn (wideR ro) 0 P a w next Q :=
 s.res (N:=N) ra.eval rw_ fun v h' w' k r st=>hn v h' w' _ k r st (ra.put _ hd v)

def Post (N:Nat) (h:Heap) (w:World) (D:List Deferred) (Q:Exit → Tm → Heap → Prop) (e:Exit) (a':Act) (w':World):Prop :=
 ∃ T' h',Q e T' h' ∧ Rel h' w' ∧ Step h h' w w' ∧ Reads N T' a' D
def SCode (P:Program) (N:Nat) (c:Code) (Q:Exit → Tm → Heap → Prop) (T:Tm) (h:Heap):Prop :=
 ∀ (ro:Option Nat) (D:List Deferred) (w:World) (a:Act),Rel h w → Reads N T a D → c.wpIn (wideR ro) 0 P (Post N h w D Q) a w
def thenS (next:Tm → Heap → Prop) (Q:Exit → Tm → Heap → Prop):Exit → Tm → Heap → Prop
 | .normal=>next
 | e=>Q e
def blockS (id:Nat) (Q:Exit → Tm → Heap → Prop):Exit → Tm → Heap → Prop
 | .exit i=>if i = id then Q .normal else Q (.exit i)
 | e=>Q e
section
variable {P : Program} {N : Nat} {Q : Exit → Tm → Heap → Prop} {T : Tm} {h : Heap}
theorem SCode.mono {c:Code} {Q':Exit → Tm → Heap → Prop} (s:SCode P N c Q T h) (i:∀ e T h,Q e T h → Q' e T h):SCode P N c Q' T h :=
 fun ro D w a r ra=>wpIn_mono (s ro D w a r ra) fun e a' w' ⟨T',h',q,x⟩=>⟨T',h',i _ _ _ q,x⟩
theorem s_skip (q:Q .normal T h):SCode P N .skip Q T h:=fun ro D w a r ra=>wpIn_skip ⟨T,h,q,r,Step.refl _ _,ra⟩
theorem s_ret (q:Q .ret T h):SCode P N .ret Q T h:=fun ro D w a r ra=>wpIn_ret ⟨T,h,q,r,Step.refl _ _,ra⟩
theorem s_exit {id:Nat} (q:Q (.exit id) T h):SCode P N (.exit id) Q T h:=fun ro D w a r ra=>wpIn_exit ⟨T,h,q,r,Step.refl _ _,ra⟩
theorem s_seq {x y:Code} (s:SCode P N x (thenS (fun T h=>SCode P N y Q T h) Q) T h):SCode P N (.seq x y) Q T h:=fun ro D w a r ra=>by
 refine wpIn_seq (wpIn_mono (s ro D w a r ra) ?_)
 rintro e a' w' ⟨T',h',q,r',st,ra'⟩
 cases e with
 | normal=>exact wpIn_mono (q ro D w' a' r' ra') fun e a'' w'' ⟨T'',h'',q'',r'',st'',ra''⟩=>⟨T'',h'',q'',r'',st.trans st'',ra''⟩
 | _=>exact ⟨T',h',q,r',st,ra'⟩
theorem s_cond {c:Operand} {x y:Code} {t:Bool} (hc:ev T c = .bool t) (s:SCode P N (if t then x else y) Q T h):SCode P N (.cond c x y) Q T h:=fun ro D w a r ra =>
 wpIn_cond (t:=t) (by rw [ra.eval]; exact hc) (s ro D w a r ra)
theorem s_block {id:Nat} {c:Code} (s:SCode P N c (blockS id Q) T h):SCode P N (.block id c) Q T h:=fun ro D w a r ra=>by
 refine wpIn_block (wpIn_mono (s ro D w a r ra) ?_)
 rintro e a' w' ⟨T',h',q,x⟩
 cases e with
 | exit i =>
  by_cases hi:i = id
  ·simp only [blockS,hi,if_true] at q; simp only [Exit.inBlock,hi,if_true]; exact ⟨T',h',q,x⟩
  ·simp only [blockS,hi,if_false] at q; simp only [Exit.inBlock,hi,if_false]; exact ⟨T',h',q,x⟩
 | _=>exact ⟨T',h',q,x⟩
theorem s_loop {c:Code} (I:Nat → Tm → Heap → Prop) {n0:Nat} (h0:I n0 T h)
  (round:∀ n T h,I n T h → SCode P N c (thenS (fun T' h'=>∃ m,m < n ∧ I m T' h') Q) T h):SCode P N (.loop c) Q T h:=by
 intro ro D w a r ra b k cs hro hb hr
 have key:∀ n T1 h1 a1 w1,I n T1 h1 → Rel h1 w1 → Step h h1 w w1 → Reads N T1 a1 D →
   ∃ e a' w',Post N h w D Q e a' w' ∧ ArrivesIn (Machine.fenced P (wideR ro)) P (lone (b.atR a1 (.code c :: .inLoop c :: k)) cs w1) b k cs e a' w':=by
  intro n
  induction n using Nat.strongRecOn with
  | _ n ih =>
   intro T1 h1 a1 w1 hI r1 st1 ra1
   obtain ⟨e,a2,w2,⟨T2,h2,q2,r2,st2,ra2⟩,harr⟩:=round n T1 h1 hI ro D w1 a1 r1 ra1 b (.inLoop c :: k) cs hro hb hr
   cases e with
   | normal =>
    obtain ⟨m,hm,hI2⟩:=q2
    obtain ⟨e,a3,w3,p3,harr3⟩:=ih m hm T2 h2 a2 w2 hI2 r2 (st1.trans st2) ra2
    exact ⟨e,a3,w3,p3,.of_steps (StepsIn.trans harr (.one (fenced_calm (n:=0) hb hr rfl) stepR_inLoop)) harr3⟩
   | exit id=>exact ⟨_,a2,w2,⟨T2,h2,q2,r2,st1.trans st2,ra2⟩,.pass (x:=.inLoop c) rfl (fun _ _=>.inl (by simp)) harr⟩
   | goto l=>exact ⟨_,a2,w2,⟨T2,h2,q2,r2,st1.trans st2,ra2⟩,.pass (x:=.inLoop c) rfl (fun _ _=>.inl (by simp)) harr⟩
   | ret=>exact ⟨_,a2,w2,⟨T2,h2,q2,r2,st1.trans st2,ra2⟩,.pass (x:=.inLoop c) rfl (fun _ _=>.inl (by simp)) harr⟩
   | panic ch=>exact ⟨_,a2,w2,⟨T2,h2,q2,r2,st1.trans st2,ra2⟩,.pass (x:=.inLoop c) rfl (fun _ _=>.inl (by simp)) harr⟩
   | outgrown=>exact ⟨_,a2,w2,⟨T2,h2,q2,r2,st1.trans st2,ra2⟩,.pass (x:=.inLoop c) rfl (fun _ _=>.inl (by simp)) harr⟩
 obtain ⟨e,a',w',p,harr⟩:=key n0 T h a w h0 r (Step.refl _ _) ra
 exact ⟨e,a',w',p,.of_steps (.one (fenced_calm (n:=0) hb hr rfl) stepR_loop) harr⟩
end

def sops (P:Program) (N:Nat) (ops:Array Oper) (Q:Tm → Heap → Prop):List Oper → Tm → Heap → Prop
 | [],T,h=>Q T h
 | o :: r,T,h=>(∀ t,o.dst = some t → t < N) ∧
  if want ops T o then SOp P o (ev T) h (fun v h'=>sops P N ops Q r (put T o.dst v) h') else sops P N ops Q r (put T o.dst undef) h
theorem sops_wp {P:Program} {N:Nat} {ops:Array Oper} {Q:Tm → Heap → Prop} {Q':Exit → Act → World → Prop} {ro:Option Nat} {D:List Deferred} (l:List Nat) :
  ∀ (os:List Oper),l.map (ops[·]?) = os.map some → ∀ T h a w,sops P N ops Q os T h → Rel h w → Reads N T a D →
   (∀ T' h' a' w',Q T' h' → Rel h' w' → Step h h' w w' → Reads N T' a' D → Q' .normal a' w') → wpOpsIn (wideR ro) 0 P ops Q' l a w:=by
 induction l with
 | nil =>
  intro os hm T h a w s r ra hq
  cases os with
  | nil=>exact hq T h a w s r (Step.refl _ _) ra
  | cons o os=>simp at hm
 | cons i l ih =>
  intro os hm T h a w s r ra hq
  cases os with
  | nil=>simp at hm
  | cons o os =>
   simp only [List.map_cons,List.cons.injEq] at hm
   obtain ⟨hi,hm⟩:=hm
   rw [wpOpsIn_cons]
   unfold wpOpIn
   simp only [hi]
   simp only [sops] at s
   obtain ⟨hd,s⟩:=s
   rw [ra.want]
   cases hw:want ops T o with
   | true =>
    simp only [hw,if_true] at s ⊢
    exact (s.wp ra r hd fun v h' w' a' k r' st ra'=>ih os hm _ h' a' w' k r' ra' fun T2 h2 a2 w2 q2 r2 st2 ra2=>hq T2 h2 a2 w2 q2 r2 (st.trans st2) ra2)
   | false =>
    simp only [hw,Bool.false_eq_true,if_false] at s ⊢
    exact ⟨fun _ _=>trivial,ih os hm _ h _ w s r (ra.put _ hd _) hq⟩
theorem s_region {P:Program} {N id:Nat} {ops:Array Oper} {Q:Exit → Tm → Heap → Prop} {T:Tm} {h:Heap}
  (s:sops P N ops (Q .normal) ops.toList T h):SCode P N (.region id ops false) Q T h:=fun ro D w a r ra=>by
 refine wpIn_region (sops_wp (Q:=Q .normal) _ ops.toList ?_ T h a w s r ra fun T' h' a' w' q r' st ra'=>⟨T',h',q,r',st,ra'⟩)
 apply List.ext_getElem
 ·simp
 ·intro n h1 h2
  simp at h1
  simp [h1]
end Go.Proofs.YtihdpjinaafenaaGreatDoor.Sl

/- A region that draws its order: whatever order its edges allow, it comes to what ONE order gives, if all that acts (allocates, writes, calls) is ordered among itself, and what only reads is read as early as may be. -/
namespace Go.Proofs.YtihdpjinaafenaaGreatDoor.Sl

def preds (ops:Array Oper) (i:Nat):List Nat:=match ops[i]? with
 | some o=>(o.after.toList.filter (Region.binds .any)).map (·.on)
 | none=>[]
inductive Anc (ops:Array Oper):Nat → Nat → Prop where
 | one {i j:Nat}:j ∈ preds ops i → Anc ops i j
 | step {i k j:Nat}:k ∈ preds ops i → Anc ops k j → Anc ops i j
theorem Anc.closed {ops:Array Oper} {L:Nat → Prop} (hc:∀ i j,L i → j ∈ preds ops i → L j) {i j:Nat} (h:Anc ops i j) (hi:L i):L j:=by
 induction h with
 | one h=>exact hc _ _ hi h
 | step h _ ih=>exact ih (hc _ _ hi h)
theorem Anc.ready {ops:Array Oper} {L:Nat → Prop} (hc:∀ i j,L i → j ∈ preds ops i → L j) {i j:Nat} (h:Anc ops i j) (hp:∀ k,k ∈ preds ops i → L k):L j:=by
 cases h with
 | one h=>exact hp _ h
 | step h h2=>exact h2.closed hc (hp _ h)
def maskStep (acc:Array Nat) (s:Nat) (e:Edge):Nat:=if Region.binds .any e then s ||| 2 ^ e.on ||| acc.getD e.on 0 else s
theorem before_eq (ops:Array Oper):Region.before ops = ops.toList.foldl (fun acc o=>acc.push (o.after.toList.foldl (maskStep acc) 0)) #[]:=by
 unfold Region.before
 rw [← Array.foldl_toList]
 congr 1
 funext acc o
 rw [← Array.foldl_toList]
 rfl
theorem mask_fold (acc:Array Nat) (l:List Edge):∀ (s j:Nat),(l.foldl (maskStep acc) s).testBit j = true →
  s.testBit j = true ∨ ∃ e,e ∈ l ∧ Region.binds .any e = true ∧ (e.on = j ∨ (acc.getD e.on 0).testBit j = true):=by
 induction l with
 | nil=>intro s j h; exact .inl h
 | cons e l ih =>
  intro s j h
  simp only [List.foldl_cons] at h
  rcases ih _ _ h with h1 | ⟨e',he',h2⟩
  ·unfold maskStep at h1
   cases hb:Region.binds .any e with
   | false=>simp only [hb,Bool.false_eq_true,if_false] at h1; exact .inl h1
   | true =>
    simp only [hb,if_true,Nat.testBit_or,Bool.or_eq_true,Nat.testBit_two_pow,decide_eq_true_eq] at h1
    rcases h1 with (h1 | h1) | h1
    ·exact .inl h1
    ·exact .inr ⟨e,List.mem_cons_self,hb,.inl h1⟩
    ·exact .inr ⟨e,List.mem_cons_self,hb,.inr h1⟩
  ·exact .inr ⟨e',List.mem_cons_of_mem _ he',h2⟩
theorem before_anc (ops:Array Oper) (i j:Nat) (h:((Region.before ops).getD i 0).testBit j = true):Anc ops i j:=by
 rw [before_eq] at h
 have key:∀ (l pre:List Oper) (acc:Array Nat),ops.toList = pre ++ l → acc.size = pre.length →
   (∀ i j,(acc.getD i 0).testBit j = true → Anc ops i j) → ∀ i j,((l.foldl (fun acc o=>acc.push (o.after.toList.foldl (maskStep acc) 0)) acc).getD i 0).testBit j = true → Anc ops i j:=by
  intro l
  induction l with
  | nil=>intro pre acc _ _ ha i j h; exact ha i j h
  | cons o l ih =>
   intro pre acc hp hs ha
   simp only [List.foldl_cons]
   refine ih (pre ++ [o]) _ (by rw [hp]; simp) (by simp [hs]) ?_
   intro i j h
   by_cases hi:i = acc.size
   ·subst hi
    have ho:ops[acc.size]? = some o:=by
     rw [← Array.getElem?_toList,hp,hs]; simp
    have hx:(acc.push (o.after.toList.foldl (maskStep acc) 0)).getD acc.size 0 = o.after.toList.foldl (maskStep acc) 0:=by simp [Array.getD_eq_getD_getElem?]
    rw [hx] at h
    rcases mask_fold acc _ _ _ h with h1 | ⟨e,he,hb,h2⟩
    ·simp at h1
    ·have hm:e.on ∈ preds ops acc.size:=by
      simp only [preds,ho]
      exact List.mem_map.2 ⟨e,List.mem_filter.2 ⟨he,hb⟩,rfl⟩
     rcases h2 with rfl | h2
     ·exact .one hm
     ·exact .step hm (ha _ _ h2)
   ·refine ha i j ?_
    have hx:(acc.push (o.after.toList.foldl (maskStep acc) 0)).getD i 0 = acc.getD i 0:=by
     simp only [Array.getD_eq_getD_getElem?,Array.getElem?_push,hi,if_false]
    rw [hx] at h
    exact h
 exact key ops.toList [] #[] (by simp) rfl (fun i j h=>by simp at h) i j h

def isAct:Op → Bool
 | .move _ | .assign _ | .pick .. | .load .. | .nilCheck _ | .binOp .. | .unOp .. | .convert .. | .makeInterface .. | .makeFunc .. | .slice .. | .fieldAddr .. | .field ..
 | .indexAddr .. | .index .. | .lookup .. | .typeAssert .. | .extract .. | .build .. | .waits _ | .sliceToArrayPointer ..=>false
 | .call { callee:=.builtin b,.. }=>match b with
  | .len | .cap | .min | .max=>false
  | _=>true
 | _=>true
def isRead:Op → Bool
 | .load .. | .lookup .. | .convert .. | .call .. | .waits _ | .nilCheck _=>true
 | _=>false
def PureOp (P:Program) (o:Oper) (ρ:Operand → Value) (v:Value):Prop:=∀ w,(execOp ρ o).run P w = .ok (.value v) w
def ReadOp (P:Program) (o:Oper) (ρ:Operand → Value) (h:Heap) (v:Value):Prop:=∀ w,Rel h w → (execOp ρ o).run P w = .ok (.value v) w
theorem PureOp.read {P:Program} {o:Oper} {ρ:Operand → Value} {v:Value} (p:PureOp P o ρ v) (h:Heap):ReadOp P o ρ h v:=fun w _=>p w
theorem ReadOp.le {P:Program} {o:Oper} {ρ:Operand → Value} {h h':Heap} {v:Value} (p:ReadOp P o ρ h v) (l:h.le h'):ReadOp P o ρ h' v:=fun w r=>p w (r.le l)
theorem ReadOp.sop {P:Program} {o:Oper} {ρ:Operand → Value} {h:Heap} {v:Value} {K:Value → Heap → Prop} (p:ReadOp P o ρ h v) (k:K v h):SOp P o ρ h K :=
 fun w r=>.inl ⟨v,w,h,.inl (p w r),k,r,Step.refl _ _⟩
def opAt (ops:Array Oper) (i:Nat):Oper:=ops.getD i default
def AllocOp (P:Program) (o:Oper) (ρ:Operand → Value) (obj:Obj) (vf:Nat → Value):Prop:=∀ w,(execOp ρ o).run P w = .ok (.value (vf w.heap.size)) (w.alloc obj)
abbrev Ent:=Nat × Bool
abbrev Env:=Nat → Obj × (Nat → Value)
def Env.put (E:Env) (i:Nat) (x:Obj × (Nat → Value)):Env:=fun j=>if j = i then x else E j
structure RdA where
 on:Heap → Prop
 mono:∀ g g':Heap,g.le g' → on g → on g'
def sdraw (P:Program) (N:Nat) (ops:Array Oper) (pp loud:List Nat) (Q:Tm → Heap → Prop):List Ent → Tm → Heap → List RdA → Env → Prop
 | [],T,h,_,_=>Q T h
 | (i,false) :: r,T,h,F,E=>∃ obj vf,AllocOp P (opAt ops i) (ev T) obj vf ∧ sdraw P N ops pp loud Q r T h F (E.put i (obj,vf))
 | (i,true) :: r,T,h,F,E =>
  if i ∈ pp then ∀ b,h b = none → sdraw P N ops pp loud Q r (put T (opAt ops i).dst ((E i).2 b)) (h.set b (E i).1) F E
  else if want ops T (opAt ops i) then
   if isAct (opAt ops i).op then
    if i ∈ loud then SOp P (opAt ops i) (ev T) h (fun v h'=>sdraw P N ops pp loud Q r (put T (opAt ops i).dst v) h' [] E)
    else SOp P (opAt ops i) (ev T) h (fun v h'=>(∀ A ∈ F,A.on h → A.on h') ∧ sdraw P N ops pp loud Q r (put T (opAt ops i).dst v) h' F E)
   else if isRead (opAt ops i).op then ∃ v A,A.on h ∧ (∀ g,A.on g → ReadOp P (opAt ops i) (ev T) g v) ∧ sdraw P N ops pp loud Q r (put T (opAt ops i).dst v) h (A :: F) E
   else ∃ v,PureOp P (opAt ops i) (ev T) v ∧ sdraw P N ops pp loud Q r (put T (opAt ops i).dst v) h F E
  else sdraw P N ops pp loud Q r (put T (opAt ops i).dst undef) h F E

def pairs {α:Type} (p:α → α → Bool):List α → Bool
 | []=>true
 | a :: r=>r.all (p a) && pairs p r
theorem pairs_spec {α:Type} {p:α → α → Bool}:∀ {l:List α},pairs p l = true → ∀ (x y:List α) (b:α),l = x ++ b :: y → ∀ a ∈ x,p a b = true:=by
 intro l
 induction l with
 | nil=>intro _ x y b h a ha; simp at h
 | cons c r ih =>
  intro h x y b e a ha
  simp only [pairs,Bool.and_eq_true,List.all_eq_true] at h
  cases x with
  | nil=>cases ha
  | cons d x =>
   simp only [List.cons_append,List.cons.injEq] at e
   obtain ⟨rfl,e⟩:=e
   rcases List.mem_cons.1 ha with rfl | ha
   ·exact h.1 b (by rw [e]; simp)
   ·exact ih h.2 x y b e a ha
def looksDst (ops:Array Oper) (i j:Nat):Bool:=match (opAt ops j).dst with
 | some t=>((opAt ops i).looksAt ops).contains t
 | none=>false
def looksHere (pp:List Nat) (x:Ent):Bool:=x.2 != pp.contains x.1
def drawOk (ops:Array Oper) (τ:List Ent) (pp loud:List Nat):Bool :=
 let b:=Region.before ops
 τ.all (fun x=>x.1 < ops.size && (x.2 || pp.contains x.1)) && (List.range ops.size).all (fun i=>τ.contains (i,true)) && Region.noSelect ops &&
 pp.all (fun i=>τ.contains (i,false) && isAct (opAt ops i).op && (opAt ops i).guard.isNone) &&
 (List.range ops.size).all (fun i=>(preds ops i).all (· < i)) &&
 pairs (fun j i=>(opAt ops i).dst != (opAt ops j).dst || (opAt ops i).dst == none) (List.range ops.size) &&
 pairs (fun x y=>x != y && !(x.1 == y.1 && x.2)) τ &&
 pairs (fun x y=>!(x.2 && isAct (opAt ops x.1).op) || (y.2 && pp.contains y.1) || (b.getD y.1 0).testBit x.1) τ &&
 pairs (fun x y=>!(x.2 && looksHere pp y && looksDst ops y.1 x.1) || (b.getD y.1 0).testBit x.1) τ &&
 pairs (fun x y=>!(looksHere pp x && y.2 && looksDst ops x.1 y.1 && x.1 != y.1) || (b.getD y.1 0).testBit x.1) τ &&
 pairs (fun x y=>!(x.2 && isRead (opAt ops x.1).op && !isAct (opAt ops x.1).op && y.2 && loud.contains y.1) || (b.getD y.1 0).testBit x.1) τ

def writer (ops:Array Oper) (t:Nat):Option Nat:=(List.range ops.size).find? fun i=>(opAt ops i).dst == some t
def view (ops:Array Oper) (T0:Tm) (V:Nat → Value) (S:Nat → Bool):Tm:=fun t=>match writer ops t with
 | some i=>if S i then V i else T0 t
 | none=>T0 t
theorem writer_spec {ops:Array Oper} {t i:Nat} (h:writer ops t = some i):i < ops.size ∧ (opAt ops i).dst = some t:=by
 have h1:=List.find?_some h
 have h2:=List.mem_of_find?_eq_some h
 exact ⟨List.mem_range.1 h2,by simpa using h1⟩
theorem writer_none {ops:Array Oper} {t i:Nat} (h:writer ops t = none) (hi:i < ops.size):(opAt ops i).dst ≠ some t:=by
 have:=List.find?_eq_none.1 h i (List.mem_range.2 hi)
 simpa using this
theorem view_congr {ops:Array Oper} {T0:Tm} {V V':Nat → Value} {S S':Nat → Bool} (hS:∀ i,i < ops.size → S i = S' i) (hV:∀ i,S i = true → V i = V' i):view ops T0 V S = view ops T0 V' S':=by
 funext t
 unfold view
 cases h:writer ops t with
 | none=>rfl
 | some i =>
  have:=(writer_spec h).1
  simp only [← hS i this]
  cases hs:S i with
  | false=>rfl
  | true=>simp [hV i hs]
theorem view_put {ops:Array Oper} {T0:Tm} {V:Nat → Value} {S S':Nat → Bool} {i:Nat} (hi:i < ops.size) (hu:∀ j,j < ops.size → j ≠ i → (opAt ops j).dst ≠ (opAt ops i).dst ∨ (opAt ops i).dst = none)
  (h1:S' i = true) (h2:∀ j,j < ops.size → j ≠ i → S' j = S j):view ops T0 V S' = put (view ops T0 V S) (opAt ops i).dst (V i):=by
 funext t
 cases hd:(opAt ops i).dst with
 | none =>
  simp only [put]
  unfold view
  cases h:writer ops t with
  | none=>rfl
  | some j =>
   have hj:=writer_spec h
   have hne:j ≠ i:=fun e=>by subst e; rw [hd] at hj; exact absurd hj.2 (by simp)
   simp only [h2 j hj.1 hne]
 | some d =>
  simp only [put,upd]
  by_cases ht:t = d
  ·subst ht
   rw [if_pos rfl]
   unfold view
   cases h:writer ops t with
   | none=>exact absurd hd (writer_none h hi)
   | some j =>
    have hj:=writer_spec h
    by_cases hji:j = i
    ·subst hji; simp [h1]
    ·rcases hu j hj.1 hji with h3 | h3
     ·exact absurd (hj.2.trans hd.symm) h3
     ·rw [hd] at h3; cases h3
  ·rw [if_neg ht]
   unfold view
   cases h:writer ops t with
   | none=>rfl
   | some j =>
    have hj:=writer_spec h
    have hne:j ≠ i:=fun e=>by subst e; rw [hd] at hj; have:=hj.2; simp at this; exact ht this.symm
    simp only [h2 j hj.1 hne]
theorem ev_congr {ops:Array Oper} {T T':Tm} {o:Oper} (hs:∀ cs b,o.op ≠ .select cs b) (h:∀ t ∈ o.looksAt ops,T t = T' t):execOp (ev T) o = execOp (ev T') o :=
 execOp_congr o hs fun x hx=>by
  cases x with
  | tmp t=>exact h t (List.mem_append_left _ (List.mem_filterMap.2 ⟨.tmp t,by simpa using hx,rfl⟩))
  | _=>rfl
theorem want_congr {ops:Array Oper} {T T':Tm} {o:Oper} (h:∀ t ∈ o.looksAt ops,T t = T' t):want ops T o = want ops T' o:=by
 unfold want
 cases hg:o.guard with
 | none=>rfl
 | some g =>
  obtain ⟨j,b⟩:=g
  simp only
  cases hj:(ops[j]?).bind (·.dst) with
  | none=>rfl
  | some t=>simp only [h t (by simp [Oper.looksAt,hg,hj])]
end Go.Proofs.YtihdpjinaafenaaGreatDoor.Sl

/- A region that draws its order (second part): the theorem. -/
namespace Go.Proofs.YtihdpjinaafenaaGreatDoor.Sl
section
variable {P : Program} {N : Nat} {ops : Array Oper} {pp loud : List Nat} {Q : Tm → Heap → Prop} {τ : List Ent} {T0 : Tm}

structure DOk (ops:Array Oper) (τ:List Ent) (pp loud:List Nat):Prop where
 lt:∀ x ∈ τ,x.1 < ops.size
 pre:∀ x ∈ τ,x.2 = true ∨ x.1 ∈ pp
 all:∀ i,i < ops.size → (i,true) ∈ τ
 sel:Region.noSelect ops = true
 ppm:∀ i ∈ pp,(i,false) ∈ τ ∧ isAct (opAt ops i).op = true ∧ (opAt ops i).guard = none
 edge:∀ i j,j ∈ preds ops i → j < i
 dst:∀ i j,i < ops.size → j < ops.size → j ≠ i → (opAt ops j).dst ≠ (opAt ops i).dst ∨ (opAt ops i).dst = none
 ne:∀ (x y:List Ent) (e:Ent),τ = x ++ e :: y → ∀ d ∈ x,d ≠ e ∧ ¬ (d.1 = e.1 ∧ d.2 = true)
 ext:∀ (x y:List Ent) (e:Ent),τ = x ++ e :: y → ∀ d ∈ x,d.2 = true → isAct (opAt ops d.1).op = true → ¬ (e.2 = true ∧ e.1 ∈ pp) → Anc ops e.1 d.1
 nam1:∀ (x y:List Ent) (e:Ent),τ = x ++ e :: y → ∀ d ∈ x,d.2 = true → looksHere pp e = true → looksDst ops e.1 d.1 = true → Anc ops e.1 d.1
 nam2:∀ (x y:List Ent) (e:Ent),τ = x ++ e :: y → ∀ d ∈ x,looksHere pp d = true → e.2 = true → looksDst ops d.1 e.1 = true → d.1 ≠ e.1 → Anc ops e.1 d.1
 rd:∀ (x y:List Ent) (e:Ent),τ = x ++ e :: y → ∀ d ∈ x,d.2 = true → isRead (opAt ops d.1).op = true → isAct (opAt ops d.1).op = false → e.2 = true → e.1 ∈ loud → Anc ops e.1 d.1
theorem range_split {n i j:Nat} (hj:j < i) (hi:i < n):∃ x y,List.range n = x ++ i :: y ∧ j ∈ x:=by
 refine ⟨List.range i,List.range' (i + 1) (n - i - 1),?_,List.mem_range.2 hj⟩
 have:n = i + (1 + (n - i - 1)):=by omega
 conv=>lhs; rw [this]
 rw [List.range_eq_range',List.range_eq_range',← List.range'_append_1,← List.range'_append_1]
 simp
theorem drawOk_spec (h:drawOk ops τ pp loud = true):DOk ops τ pp loud:=by
 unfold drawOk at h
 simp only [Bool.and_eq_true] at h
 obtain ⟨⟨⟨⟨⟨⟨⟨⟨⟨⟨h1,h2⟩,h3⟩,h4⟩,h5⟩,h6⟩,h7⟩,h8⟩,h9⟩,h10⟩,h11⟩:=h
 refine ⟨?_,?_,?_,h3,?_,?_,?_,?_,?_,?_,?_,?_⟩
 ·intro x hx; have:=List.all_eq_true.1 h1 x hx; simp only [Bool.and_eq_true,decide_eq_true_eq] at this; exact this.1
 ·intro x hx; have:=List.all_eq_true.1 h1 x hx; simp only [Bool.and_eq_true,Bool.or_eq_true,List.contains_eq_mem,decide_eq_true_eq] at this; exact this.2
 ·intro i hi; simpa using List.all_eq_true.1 h2 i (List.mem_range.2 hi)
 ·intro i hi
  have:=List.all_eq_true.1 h4 i hi
  simp only [Bool.and_eq_true,List.contains_eq_mem,decide_eq_true_eq,Option.isNone_iff_eq_none] at this
  exact ⟨this.1.1,this.1.2,this.2⟩
 ·intro i j hj
  have hi:i < ops.size:=by
   unfold preds at hj
   cases ho:ops[i]? with
   | none=>rw [ho] at hj; cases hj
   | some o=>exact (Array.getElem?_eq_some_iff.1 ho).1
  have:=List.all_eq_true.1 h5 i (List.mem_range.2 hi)
  simpa using List.all_eq_true.1 this j hj
 ·have key:∀ i j,i < ops.size → j < i → (opAt ops i).dst ≠ (opAt ops j).dst ∨ (opAt ops i).dst = none:=by
   intro i j hi hj
   obtain ⟨x,y,e,hm⟩:=range_split hj hi
   have:=pairs_spec h6 x y i e j hm
   simp only [Bool.or_eq_true,bne_iff_ne,ne_eq,beq_iff_eq] at this
   exact this
  intro i j hi hj hne
  rcases Nat.lt_or_gt_of_ne hne with h | h
  ·rcases key i j hi h with h1 | h1
   ·exact .inl (fun e=>h1 e.symm)
   ·exact .inr h1
  ·rcases key j i hj h with h1 | h1
   ·exact .inl h1
   ·by_cases h2:(opAt ops i).dst = none
    ·exact .inr h2
    ·exact .inl (fun e=>h2 (e ▸ h1))
 ·intro x y e he d hd
  have:=pairs_spec h7 x y e he d hd
  simp only [Bool.and_eq_true,bne_iff_ne,ne_eq,Bool.not_eq_true',Bool.and_eq_false_iff,beq_eq_false_iff_ne] at this
  refine ⟨this.1,fun hc=>?_⟩
  rcases this.2 with h | h
  ·exact h hc.1
  ·rw [hc.2] at h; cases h
 ·intro x y e he d hd h1 h2 h3
  have:=pairs_spec h8 x y e he d hd
  have hb:(e.2 && pp.contains e.1) = false:=by
   cases hx:(e.2 && pp.contains e.1) with
   | false=>rfl
   | true=>simp only [Bool.and_eq_true,List.contains_eq_mem,decide_eq_true_eq] at hx; exact absurd hx h3
  simp only [h1,h2,hb,Bool.and_true,Bool.not_true,Bool.false_or] at this
  exact before_anc _ _ _ this
 ·intro x y e he d hd h1 h2 h3
  have:=pairs_spec h9 x y e he d hd
  simp only [h1,h2,h3,Bool.and_true,Bool.not_true,Bool.false_or] at this
  exact before_anc _ _ _ this
 ·intro x y e he d hd h1 h2 h3 h4
  have:=pairs_spec h10 x y e he d hd
  have hb:(d.1 != e.1) = true:=by simpa using h4
  simp only [h1,h2,h3,hb,Bool.and_true,Bool.not_true,Bool.false_or] at this
  exact before_anc _ _ _ this
 ·intro x y e he d hd h1 h2 h3 h4 h5
  have:=pairs_spec h11 x y e he d hd
  have hc:loud.contains e.1 = true:=by simpa using h5
  simp only [h1,h2,h3,h4,hc,Bool.not_false,Bool.and_true,Bool.not_true,Bool.false_or] at this
  exact before_anc _ _ _ this
theorem DOk.notin (k:DOk ops τ pp loud) {x y:List Ent} {e:Ent} (h:τ = x ++ e :: y):e ∉ x:=fun hi=>(k.ne x y e h e hi).1 rfl
theorem DOk.notin2 (k:DOk ops τ pp loud) {x y:List Ent} {e d:Ent} (h:τ = x ++ e :: y) (hd:d ∈ y):d ∉ x:=fun hi=>by
 obtain ⟨y1,y2,rfl⟩:=List.append_of_mem hd
 exact (k.ne (x ++ e :: y1) y2 d (by rw [h]; simp) d (by simp [hi])).1 rfl
def mn (l:List Ent):Nat → Bool:=fun i=>l.contains (i,true)
theorem mn_iff {l:List Ent} {i:Nat}:mn l i = true ↔ (i,true) ∈ l:=by simp [mn]
theorem mn_false {l:List Ent} {i:Nat}:mn l i = false ↔ (i,true) ∉ l:=by simp [mn]
def Hole (P:Program) (ops:Array Oper) (pp:List Nat) (T0:Tm) (V:Nat → Value) (E:Env) (F:List RdA) (pre:List Ent) (e:Ent):Prop :=
 match e.2 with
 | false=>AllocOp P (opAt ops e.1) (ev (view ops T0 V (mn pre))) (E e.1).1 (E e.1).2
 | true=>e.1 ∉ pp → isAct (opAt ops e.1).op = false →
  if want ops (view ops T0 V (mn pre)) (opAt ops e.1) then
   (if isRead (opAt ops e.1).op then ∃ A ∈ F,∀ g,RdA.on A g → ReadOp P (opAt ops e.1) (ev (view ops T0 V (mn pre))) g (V e.1)
   else PureOp P (opAt ops e.1) (ev (view ops T0 V (mn pre))) (V e.1))
  else V e.1 = undef
theorem Hole.congr {V V':Nat → Value} {E E':Env} {F F':List RdA} {pre:List Ent} {e:Ent} (hv:∀ i,(i,true) ∈ pre → V i = V' i) (hj:e.2 = true → V e.1 = V' e.1) (hE:e.2 = false → E e.1 = E' e.1)
  (hF:∀ b,b ∈ F → b ∈ F') (x:Hole P ops pp T0 V E F pre e):Hole P ops pp T0 V' E' F' pre e:=by
 have ee:view ops T0 V (mn pre) = view ops T0 V' (mn pre):=view_congr (fun _ _=>rfl) (fun i hi=>hv i (mn_iff.1 hi))
 unfold Hole at *
 rw [← ee]
 cases h2:e.2 with
 | false=>simp only [h2] at x ⊢; rw [← hE h2]; exact x
 | true =>
  simp only [h2] at x ⊢
  rw [← hj h2]
  intro hp ha
  have y:=x hp ha
  split
  ·rename_i hw
   simp only [hw,if_true] at y
   split
   ·rename_i hr
    simp only [hr,if_true] at y
    obtain ⟨g,p,q⟩:=y
    exact ⟨g,hF g p,q⟩
   ·rename_i hr
    simpa [hr] using y
  ·rename_i hw
   simpa [hw] using y

structure Early (V:Nat → Value) (E:Env) (B:Nat → Nat) (h:Heap) (w w0:World) (i:Nat):Prop where
 val:V i = (E i).2 (B i)
 off:h (B i) = none
 obj:w.heap[B i]? = some (E i).1
 new:w0.heap.size ≤ B i
theorem Early.lt {V:Nat → Value} {E:Env} {B:Nat → Nat} {h:Heap} {w w0:World} {i:Nat} (e:Early V E B h w w0 i):B i < w.heap.size:=(Array.getElem?_eq_some_iff.1 e.obj).1
structure St (P:Program) (N:Nat) (ops:Array Oper) (pp loud:List Nat) (Q:Tm → Heap → Prop) (τ:List Ent) (T0:Tm) (w0:World) (L:Nat → Bool) (w:World) (B:Nat → Nat)
  (V:Nat → Value) (E:Env) (F:List RdA) (π r:List Ent) (h:Heap):Prop where
 e:τ = π ++ r
 s:sdraw P N ops pp loud Q r (view ops T0 V (mn π)) h F E
 rel:Rel h w
 lp:∀ i,i < ops.size → L i = true → (i,true) ∈ π ∨ (i ∈ pp ∧ (i,false) ∈ π)
 early:∀ i,i ∈ pp → L i = true → (i,true) ∉ π → Early V E B h w w0 i
 inj:∀ i j,i ∈ pp → j ∈ pp → L i = true → L j = true → (i,true) ∉ π → (j,true) ∉ π → B i = B j → i = j
 act:∀ i,(i,true) ∈ π → isAct (opAt ops i).op = true → L i = true
 hole:∀ x e y,π = x ++ e :: y → L e.1 = false → Hole P ops pp T0 V E F x e
 f:∀ A ∈ F,A.on h
def Stuck (ops:Array Oper) (pp:List Nat) (L:Nat → Bool) (r:List Ent):Prop:=r = [] ∨ ∃ i s,r = (i,true) :: s ∧ isAct (opAt ops i).op = true ∧ (i ∈ pp → L i = false)

theorem split_last {α:Type} {π:List α} {a e:α} {x y:List α} (h:π ++ [a] = x ++ e :: y):(y = [] ∧ x = π ∧ e = a) ∨ ∃ y',y = y' ++ [a] ∧ π = x ++ e :: y':=by
 rcases List.eq_nil_or_concat y with rfl | ⟨y',z,rfl⟩
 ·left
  have h1:=List.append_inj_left' h rfl
  have h2:=List.append_inj_right' h rfl
  simp at h2
  exact ⟨rfl,h1.symm,h2.symm⟩
 ·right
  have h3:π ++ [a] = (x ++ e :: y') ++ [z]:=by rw [h]; simp
  have h1:=List.append_inj_left' h3 rfl
  have h2:=List.append_inj_right' h3 rfl
  simp at h2
  exact ⟨y',by rw [h2,List.concat_eq_append],h1⟩
theorem advance (k:DOk ops τ pp loud) {w0 w:World} {L:Nat → Bool} {B:Nat → Nat}:∀ (r π:List Ent) (V:Nat → Value) (E:Env) (F:List RdA) (h:Heap),St P N ops pp loud Q τ T0 w0 L w B V E F π r h →
  ∃ V' E' F' π' r' h',St P N ops pp loud Q τ T0 w0 L w B V' E' F' π' r' h' ∧ Stuck ops pp L r' ∧ (∀ j,j < ops.size → L j = true → V' j = V j) ∧ (∀ b,h b = none → h' b ≠ none → w0.heap.size ≤ b):=by
 intro r
 induction r with
 | nil=>intro π V E F h st; exact ⟨V,E,F,π,[],h,st,.inl rfl,fun _ _ _=>rfl,fun b h1 h2=>absurd h1 h2⟩
 | cons d r ih =>
  intro π V E F h st
  obtain ⟨i,ph⟩:=d
  have hi:i < ops.size:=k.lt (i,ph) (by rw [st.e]; simp)
  have hnp:(i,ph) ∉ π:=k.notin st.e
  have fin:∀ (V1:Nat → Value) (E1:Env) (F1:List RdA) (h1:Heap),St P N ops pp loud Q τ T0 w0 L w B V1 E1 F1 (π ++ [(i,ph)]) r h1 → (∀ j,j < ops.size → L j = true → V1 j = V j) → (∀ b,h b = none → h1 b ≠ none → w0.heap.size ≤ b) →
    ∃ V' E' F' π' r' h',St P N ops pp loud Q τ T0 w0 L w B V' E' F' π' r' h' ∧ Stuck ops pp L r' ∧ (∀ j,j < ops.size → L j = true → V' j = V j) ∧ (∀ b,h b = none → h' b ≠ none → w0.heap.size ≤ b):=by
   intro V1 E1 F1 h1 st1 hV hf
   obtain ⟨V',E',F',π',r',h',st',sk,hV',hf'⟩:=ih _ V1 E1 F1 h1 st1
   refine ⟨V',E',F',π',r',h',st',sk,fun j hj hl=>(hV' j hj hl).trans (hV j hj hl),fun b e1 e2=>?_⟩
   by_cases e3:h1 b = none
   ·exact hf' b e3 e2
   ·exact hf b e1 e3
  cases ph with
  | false =>
   -- its operands are looked at
   have hnt:(i,true) ∉ π:=fun hm=>(k.ne π r (i,false) st.e (i,true) hm).2 ⟨rfl,rfl⟩
   have hL:L i = false:=by
    cases hl:L i with
    | false=>rfl
    | true =>
     rcases st.lp i hi hl with h1 | h1
     ·exact absurd h1 hnt
     ·exact absurd h1.2 hnp
   have s:=st.s
   simp only [sdraw] at s
   obtain ⟨obj,vf,al,s⟩:=s
   have hEo:∀ j,j ≠ i → (E.put i (obj,vf)) j = E j:=fun j hj=>by simp [Env.put,hj]
   have hmn:mn (π ++ [(i,false)]) = mn π:=by funext j; simp [mn]
   refine fin V (E.put i (obj,vf)) F h ⟨by rw [st.e]; simp,by rw [hmn]; exact s,st.rel,?_,?_,?_,?_,?_,st.f⟩ (fun _ _ _=>rfl) (fun b h1 h2=>absurd h1 h2)
   ·intro j hj hl
    rcases st.lp j hj hl with h1 | h1
    ·exact .inl (by simp [h1])
    ·exact .inr ⟨h1.1,by simp [h1.2]⟩
   ·intro j hj hl hn
    have hji:j ≠ i:=fun e=>by rw [e,hL] at hl; cases hl
    have x:=st.early j hj hl (fun h1=>hn (by simp [h1]))
    exact ⟨by rw [hEo j hji]; exact x.val,x.off,by rw [hEo j hji]; exact x.obj,x.new⟩
   ·intro j1 j2 a b c d e1 e2
    exact st.inj j1 j2 a b c d (fun h1=>e1 (by simp [h1])) (fun h1=>e2 (by simp [h1]))
   ·intro j hj ha
    exact st.act j (by simpa using hj) ha
   ·intro x e y hx hl
    rcases split_last hx with ⟨_,rfl,rfl⟩ | ⟨y',_,hπ⟩
    ·unfold Hole
     simp only [Env.put,if_true]
     exact al
    ·refine Hole.congr (fun _ _=>rfl) (fun _=>rfl) (fun h2=>?_) (fun _ h=>h) (st.hole x e y' hπ hl)
     have hei:e.1 ≠ i:=fun e1=>hnp (by rw [hπ]; have:e = (i,false):=Prod.ext e1 h2; simp [this])
     exact (hEo _ hei).symm
  | true =>
   by_cases hpp:i ∈ pp
   ·-- an allocation's place has come
    cases hl:L i with
    | false=>exact ⟨V,E,F,π,(i,true) :: r,h,st,.inr ⟨i,r,rfl,(k.ppm i hpp).2.1,fun _=>hl⟩,fun _ _ _=>rfl,fun b h1 h2=>absurd h1 h2⟩
    | true =>
     have ea:=st.early i hpp hl hnp
     have s:=st.s
     simp only [sdraw,hpp,if_true] at s
     have s:=s (B i) ea.off
     have hview:view ops T0 V (mn (π ++ [(i,true)])) = put (view ops T0 V (mn π)) (opAt ops i).dst (V i) :=
      view_put hi (fun j hj hne=>k.dst i j hi hj hne) (by simp [mn]) (fun j hj hne=>by simp [mn,hne])
     rw [← ea.val,← hview] at s
     have hle:h.le (h.set (B i) (E i).1):=Heap.le_set _ ea.off
     refine fin V E F (h.set (B i) (E i).1) ⟨by rw [st.e]; simp,s,?_,?_,?_,?_,?_,?_,fun A hA=>A.mono _ _ hle (st.f A hA)⟩ (fun _ _ _=>rfl) ?_
     ·intro b o e
      by_cases hb:b = B i
      ·subst hb; rw [Heap.set_same] at e; rw [ea.obj]; exact e
      ·rw [Heap.set_other _ _ hb] at e; exact st.rel b o e
     ·intro j hj hl2
      rcases st.lp j hj hl2 with h1 | h1
      ·exact .inl (by simp [h1])
      ·exact .inr ⟨h1.1,by simp [h1.2]⟩
     ·intro j hj hl2 hn
      have hn1:(j,true) ∉ π:=fun h1=>hn (by simp [h1])
      have hji:j ≠ i:=fun e=>hn (by simp [e])
      have x:=st.early j hj hl2 hn1
      refine ⟨x.val,?_,x.obj,x.new⟩
      rw [Heap.set_other _ _ (fun e=>hji (st.inj j i hj hpp hl2 hl hn1 hnp e))]
      exact x.off
     ·intro j1 j2 a b c d e1 e2
      exact st.inj j1 j2 a b c d (fun h1=>e1 (by simp [h1])) (fun h1=>e2 (by simp [h1]))
     ·intro j hj ha
      simp only [List.mem_append,List.mem_singleton,Prod.mk.injEq,and_true] at hj
      rcases hj with h1 | h1
      ·exact st.act j h1 ha
      ·rw [h1]; exact hl
     ·intro x e y hx hl2
      rcases split_last hx with ⟨_,rfl,rfl⟩ | ⟨y',_,hπ⟩
      ·rw [hl] at hl2; cases hl2
      ·exact Hole.congr (fun _ _=>rfl) (fun _=>rfl) (fun _=>rfl) (fun _ h=>h) (st.hole x e y' hπ hl2)
     ·intro b h1 h2
      by_cases hb:b = B i
      ·rw [hb]; exact ea.new
      ·rw [Heap.set_other _ _ hb] at h2; exact absurd h1 h2
   ·cases ha:isAct (opAt ops i).op with
    | true=>exact ⟨V,E,F,π,(i,true) :: r,h,st,.inr ⟨i,r,rfl,ha,fun h1=>absurd h1 hpp⟩,fun _ _ _=>rfl,fun b h1 h2=>absurd h1 h2⟩
    | false =>
     have hL:L i = false:=by
      cases hl:L i with
      | false=>rfl
      | true =>
       rcases st.lp i hi hl with h1 | h1
       ·exact absurd h1 hnp
       ·exact absurd h1.1 hpp
     have hval:∃ v F1,(∀ b,b ∈ F → b ∈ F1) ∧ (∀ A ∈ F1,RdA.on A h) ∧ sdraw P N ops pp loud Q r (put (view ops T0 V (mn π)) (opAt ops i).dst v) h F1 E ∧
       (if want ops (view ops T0 V (mn π)) (opAt ops i) then
        (if isRead (opAt ops i).op then ∃ A ∈ F1,∀ g,RdA.on A g → ReadOp P (opAt ops i) (ev (view ops T0 V (mn π))) g v
        else PureOp P (opAt ops i) (ev (view ops T0 V (mn π))) v)
       else v = undef):=by
      have s:=st.s
      simp only [sdraw,hpp,if_false] at s
      cases hw:want ops (view ops T0 V (mn π)) (opAt ops i) with
      | false=>simp only [hw,Bool.false_eq_true,if_false] at s ⊢; exact ⟨undef,F,fun _ h=>h,st.f,s,rfl⟩
      | true =>
       simp only [hw,if_true,ha,Bool.false_eq_true,if_false] at s ⊢
       cases hr:isRead (opAt ops i).op with
       | true =>
        simp only [hr,if_true] at s ⊢
        obtain ⟨v,A,hA,p,s⟩:=s
        refine ⟨v,A :: F,fun b hb=>by simp [hb],fun B hB=>?_,s,A,by simp,p⟩
        rcases List.mem_cons.1 hB with rfl | hB
        ·exact hA
        ·exact st.f B hB
       | false=>simp only [hr,Bool.false_eq_true,if_false] at s ⊢; obtain ⟨v,p,s⟩:=s; exact ⟨v,F,fun _ h=>h,st.f,s,p⟩
     obtain ⟨v,F1,hF,hF1,s1,hv⟩:=hval
     let V1:Nat → Value:=fun j=>if j = i then v else V j
     have hVi:V1 i = v:=by simp [V1]
     have hV1:∀ j,j ≠ i → V1 j = V j:=fun j hj=>by simp [V1,hj]
     have evw:view ops T0 V (mn π) = view ops T0 V1 (mn π):=view_congr (fun _ _=>rfl) (fun j hj=>(hV1 j (fun e=>hnp (e ▸ mn_iff.1 hj))).symm)
     have hput:view ops T0 V1 (mn (π ++ [(i,true)])) = put (view ops T0 V (mn π)) (opAt ops i).dst v:=by
      rw [evw,← hVi]
      exact view_put hi (fun j hj hne=>k.dst i j hi hj hne) (by simp [mn]) (fun j hj hne=>by simp [mn,hne])
     rw [← hput] at s1
     refine fin V1 E F1 h ⟨by rw [st.e]; simp,s1,st.rel,?_,?_,?_,?_,?_,hF1⟩ (fun j _ hl=>hV1 j (fun e=>by rw [e,hL] at hl; cases hl)) (fun b h1 h2=>absurd h1 h2)
     ·intro j hj hl
      rcases st.lp j hj hl with h1 | h1
      ·exact .inl (by simp [h1])
      ·exact .inr ⟨h1.1,by simp [h1.2]⟩
     ·intro j hj hl hn
      have hji:j ≠ i:=fun e=>hn (by simp [e])
      have x:=st.early j hj hl (fun h1=>hn (by simp [h1]))
      exact ⟨by rw [hV1 j hji]; exact x.val,x.off,x.obj,x.new⟩
     ·intro j1 j2 a b c d e1 e2
      exact st.inj j1 j2 a b c d (fun h1=>e1 (by simp [h1])) (fun h1=>e2 (by simp [h1]))
     ·intro j hj ha2
      simp only [List.mem_append,List.mem_singleton,Prod.mk.injEq,and_true] at hj
      rcases hj with h1 | h1
      ·exact st.act j h1 ha2
      ·rw [h1,ha] at ha2; cases ha2
     ·intro x e y hx hl
      rcases split_last hx with ⟨_,rfl,rfl⟩ | ⟨y',_,hπ⟩
      ·refine Hole.congr (V:=V1) (E:=E) (F:=F1) (fun _ _=>rfl) (fun _=>rfl) (fun _=>rfl) (fun _ h=>h) ?_
       unfold Hole
       intro _ _
       rw [← evw,hVi]
       exact hv
      ·refine Hole.congr (fun j hj=>(hV1 j (fun e1=>hnp (by rw [hπ]; simp [← e1,hj]))).symm) (fun h2=>(hV1 _ (fun e1=>hnp (by rw [hπ]; have:e = (i,true):=Prod.ext e1 h2; simp [this]))).symm) (fun _=>rfl) hF (st.hole x e y' hπ hl)

structure DInv (P:Program) (N:Nat) (D:List Deferred) (ops:Array Oper) (pp loud:List Nat) (Q:Tm → Heap → Prop) (τ:List Ent) (T0:Tm) (h0:Heap) (w0:World) (L:Nat → Bool) (a:Act) (w:World):Prop where
 mk :: (out:∃ B V E F π r h,St P N ops pp loud Q τ T0 w0 L w B V E F π r h ∧ Stuck ops pp L r ∧ Step h0 h w0 w ∧ Reads N (view ops T0 V L) a D ∧ (∀ i j,L i = true → j ∈ preds ops i → L j = true))

theorem looks_of {i j t:Nat} (ht:t ∈ (opAt ops i).looksAt ops) (hd:(opAt ops j).dst = some t):looksDst ops i j = true:=by
 simp only [looksDst,hd]; simpa using ht
theorem same_looks (k:DOk ops τ pp loud) {V:Nat → Value} {L:Nat → Bool} (hc:∀ i j,L i = true → j ∈ preds ops i → L j = true) {x y:List Ent} {e:Ent} (he:τ = x ++ e :: y) (hlk:looksHere pp e = true)
  (hi:L e.1 = false) (hp:∀ j ∈ preds ops e.1,L j = true):∀ t ∈ (opAt ops e.1).looksAt ops,view ops T0 V (mn x) t = view ops T0 V L t:=by
 intro t ht
 unfold view
 cases hw:writer ops t with
 | none=>rfl
 | some j =>
  obtain ⟨hj,hd⟩:=writer_spec hw
  have hl:=looks_of (i:=e.1) (j:=j) ht hd
  have hjm:=k.all j hj
  rw [he] at hjm
  rcases List.mem_append.1 hjm with h | h
  ·have:=(k.nam1 x y e he (j,true) h rfl hlk hl).ready (L:=fun n=>L n = true) hc hp
   simp only [mn_iff.2 h,if_true,this]
  ·have hnx:(j,true) ∉ x:=by
    rcases List.mem_cons.1 h with h1 | h1
    ·rw [h1]; exact k.notin he
    ·exact k.notin2 he h1
   have hL:L j = false:=by
    rcases List.mem_cons.1 h with h1 | h1
    ·rw [show j = e.1 from by rw [← h1]]; exact hi
    ·by_cases hje:j = e.1
     ·rw [hje]; exact hi
     ·obtain ⟨y1,y2,rfl⟩:=List.append_of_mem h1
      have ha:=k.nam2 (x ++ e :: y1) y2 (j,true) (by rw [he]; simp) e (by simp) hlk rfl hl (fun e1=>hje e1.symm)
      cases hLj:L j with
      | false=>rfl
      | true =>
       have:=ha.closed (L:=fun n=>L n = true) hc hLj
       rw [hi] at this; cases this
   simp [mn_false.2 hnx,hL]
theorem nosel (k:DOk ops τ pp loud) {i:Nat} (hi:i < ops.size):∀ cs b,(opAt ops i).op ≠ .select cs b:=fun cs b =>
 Region.noSelect_spec k.sel i (opAt ops i) cs b (by simp [opAt,hi])
theorem getD_eq {listed:Array Bool} {n i:Nat} (hs:listed.size = n) (hi:i < n):listed.getD i true = listed.getD i false:=by
 simp [Array.getD_eq_getD_getElem?,hs,hi]
end
end Go.Proofs.YtihdpjinaafenaaGreatDoor.Sl
