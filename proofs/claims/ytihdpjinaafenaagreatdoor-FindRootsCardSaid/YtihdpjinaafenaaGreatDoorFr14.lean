import Derived.Test.YtihdpjinaafenaaGreatDoorFr13
import Derived.ProofKit
import Derived.OpenShut
import Derived.Carry
import Derived.Test.YtihdpjinaafenaaGreatDoorProg
noncomputable section
/- The evaluator: the whole; a call from outside. -/
set_option linter.unusedVariables false
set_option linter.unusedSimpArgs false
namespace Go.Proofs.YtihdpjinaafenaaGreatDoor.Ce
open Go.Proofs.YtihdpjinaafenaaGreatDoor.Sl
open Ab (isOne isMany isSl isArr isIntT isStr zeroIs okCall)
variable {P : Program} {N : Kn P} {G : CG} {ω : Om}
def NFOk (N:Kn P) (f:Pos) (F:NF):Prop:=∀ (args:List CV) (H:CH) (n:Id) (ck:Nat) (v:CV) (H':CH) (n':Id) (ck':Nat),F args H n ck = some (.ok v H' n' ck') → ∀ (β:Bk) (h:Heap) (vs:List Value),HR N.toKy β H n ck h → VRs β args vs →
 okCall P (f.nat - 1) = true ∧ SCalls P (f.nat - 1) vs.toArray h (Aft N β H ck h v H' n' ck')
def OmOk (N:Kn P) (ω:Om):Prop:=∀ f,NFOk N f (ω f)
theorem aft_le {β:Bk} {H:CH} {n:Id} {ck:Nat} {h h':Heap} (hr:HR N.toKy β H n ck h) (hle:h.le h') {v:CV} {r:Value} (hv:VR β v r):Aft N β H ck h v H n ck r h':=by
 have es:∀ p x,β p = some x → (hget p H).live = true → h' x.b = h x.b:=fun p x hx hl=>by
  cases e1:h x.b with
  | none=>exact absurd e1 (hr.at_ p x hx hl)
  | some ob=>exact hle _ _ e1
 exact ⟨⟨β,Bk.le_refl _,hr.same es,hv⟩,fun p x hx hl=>⟨Nat.le_refl _,fun _=>⟨rfl,es p x hx hl⟩⟩,fun _=>Nat.le_refl _⟩
theorem argT_ok {β:Bk}:∀ {args:List CV} {vs pre:List Value} {T:SL CV} {p:Sp},VRs β args vs → p = sp pre.length → pre.length + args.length ≤ 256 → TR β T (T0 pre.toArray) → TR β (argT p args T) (T0 (pre ++ vs).toArray)
 | [],_,pre,T,p,.nil,_,_,r=>by simpa [argT] using r
 | c :: args,_,pre,T,p,.cons (v:=v) (vs:=vs) h rs,hp,hlen,r=>by
  simp only [List.length_cons] at hlen
  have e:T0 (pre ++ [v]).toArray = upd (T0 pre.toArray) (p.nat - 1) v:=by
   have hp1:p.nat - 1 = pre.length:=by rw [hp,sp_nat _ (by omega)]; rfl
   funext t
   unfold T0 upd
   rw [hp1]
   by_cases ht:t = pre.length
   ·subst ht; rw [if_pos rfl]; simp
   ·rw [if_neg ht]
    simp only [Array.getD_eq_getD_getElem?,List.getElem?_toArray]
    rcases Nat.lt_or_ge t pre.length with h1 | h1
    ·rw [List.getElem?_append_left h1]
    ·rw [List.getElem?_eq_none (by simp; omega),List.getElem?_eq_none h1]
  have:=argT_ok (pre:=pre ++ [v]) (T:=sset p c T) (p:=p.succ) rs (by rw [hp]; simp [sp]) (by simp; omega) (by rw [e]; exact r.put p h)
  simpa [argT] using this
theorem resC_ok {β:Bk} {s:St} {h:Heap} {Tc:Tm} (x:Sem N β s h Tc) {r:CR} (hs:r.side P = true) {c:CV} (e:resC s.T s.H r = some c):∃ v,VR β c v ∧ ResOne P Tc h r.rv v:=by
 cases r with
 | t p =>
  cases e
  exact ⟨_,x.1.at p,rfl⟩
 | c1 p ty =>
  simp only [resC,takeR_eq,dropR_eq,leR_eq] at e
  have hp:=x.1.at p
  split at e
  ·rename_i id off hv
   rw [hv] at hp
   generalize hT:Tc (p.nat - 1) = u at hp
   cases hp with
   | p off hy =>
    split at e
    ·rename_i st t cs hc
     obtain ⟨vs,tl,hb,hl,rv,_⟩:=x.2.cells hc hy
     obtain ⟨v,h1,h2⟩:=rv.get (nth_some e)
     refine ⟨v,h2,{ (default:Oper) with op:=.load ty (.tmp (p.nat - 1)) },.tmp (p.nat - 1),rfl,?_,_,hT⟩
     refine Ab.r_ld1 rfl hs hT hb ?_
     have hlt:off < vs.length:=(List.getElem?_eq_some_iff.1 h1).1
     simp only [List.getElem?_toArray]
     rw [List.getElem?_append_left hlt]; exact h1
    ·cases e
  ·cases e
 | cN p ty n =>
  simp only [resC,takeR_eq,dropR_eq,leR_eq] at e
  simp only [CR.side,Bool.and_eq_true,beq_iff_eq] at hs
  have hp:=x.1.at p
  split at e
  ·rename_i id off hv
   rw [hv] at hp
   generalize hT:Tc (p.nat - 1) = u at hp
   cases hp with
   | p off hy =>
    split at e
    ·rename_i st t cs hc
     cases hb:Nat.ble (off + n) cs.length with
     | false=>rw [hb] at e; cases e
     | true =>
      rw [hb] at e
      cases e
      have hle:=Nat.le_of_ble_eq_true hb
      obtain ⟨vs,tl,hb,hl,rv,h1⟩:=x.2.cells hc hy
      have hlen:=rv.len
      refine ⟨_,.agg (all_sub h1) ((rv.drop off).take n),{ (default:Oper) with op:=.load ty (.tmp (p.nat - 1)) },.tmp (p.nat - 1),rfl,?_,_,hT⟩
      have:=Ab.r_ldN (P:=P) (o:={ (default:Oper) with op:=.load ty (.tmp (p.nat - 1)) }) (ρ:=fun _=>Tc (p.nat - 1)) rfl hs.1 hT hb hs.2 (by simp; omega)
      have h6:(vs ++ tl).toArray.extract off (off + n) = ((vs.drop off).take n).toArray:=by
       simp only [List.extract_toArray,List.extract_eq_take_drop]
       congr 1
       rw [Nat.add_sub_cancel_left,List.drop_append_of_le_length (by omega),List.take_append_of_le_length (by simp; omega)]
      rwa [h6] at this
    ·cases e
  ·cases e
theorem resCs_ok {β:Bk} {s:St} {h:Heap} {Tc:Tm} (x:Sem N β s h Tc):∀ {l:List CR} {cs:List CV},l.all (CR.side P) = true → resCs s.T s.H l = some cs → ∃ vs,VRs β cs vs ∧ ResAll P Tc h (l.map CR.rv) vs
 | [],cs,_,e=>by cases e; exact ⟨[],.nil,.nil⟩
 | r :: l,cs,hs,e=>by
  simp only [List.all_cons,Bool.and_eq_true] at hs
  unfold resCs at e
  split at e
  ·rename_i v hv
   split at e
   ·rename_i vs hvs
    cases e
    obtain ⟨u,h1,h2⟩:=resC_ok x hs.1 hv
    obtain ⟨us,h3,h4⟩:=resCs_ok x hs.2 hvs
    exact ⟨u :: us,.cons h1 h3,.cons h2 h4⟩
   ·cases e
  ·cases e
theorem resF_ok {β:Bk} {s:St} {h:Heap} {Tc:Tm} {fn:Func} (x:Sem N β s h Tc) {l:List CR} (hs:l.all (CR.side P) = true) (hr:fn.results = (l.map CR.rv).toArray) {c:CV} (e:resF s.T s.H l = some c):∃ v,VR β c v ∧ Res P fn Tc h v:=by
 unfold resF at e
 split at e
 ·rename_i r
  simp only [List.all_cons,List.all_nil,Bool.and_true] at hs
  obtain ⟨v,h1,h2⟩:=resC_ok x hs e
  exact ⟨v,h1,res_one (by simpa using hr) h2⟩
 ·rename_i l hne
  split at e
  ·rename_i vs hvs
   cases e
   obtain ⟨us,h1,h2⟩:=resCs_ok x hs hvs
   refine ⟨_,.tup h1,res_many hr ?_ h2⟩
   rw [List.length_map]
   intro e1
   obtain ⟨r,rfl⟩:=List.length_eq_one_iff.1 e1
   exact hne r rfl
  ·cases e
theorem retF_ok {β:Bk} {s s':St} {h h':Heap} {Tc:Tm} {fn:Func} {l:List CR} (hs:l.all (CR.side P) = true) (hr:fn.results = (l.map CR.rv).toArray) (a:After N β s h s' Tc h') {c:CV} {H':CH} {n':Id} {ck':Nat} (e:retF l s'.T s'.H s'.n s'.ck = .ok c H' n' ck'):∃ v,Res P fn Tc h' v ∧ Aft N β s.H s.ck h c H' n' ck' v h':=by
 rw [retF_eq] at e
 split at e
 ·rename_i v hv
  cases e
  obtain ⟨⟨β',l',x⟩,k,m⟩:=a
  obtain ⟨u,h1,h2⟩:=resF_ok x hs hr hv
  exact ⟨u,h2,⟨⟨β',l',x.2,h1⟩,k,m⟩⟩
 ·cases e
theorem rangeK_ok {cf:CF1} (hcf:CfOk1 N cf) {f:Pos} {g:CP} {x:Operand} {ps:Array Tmp} {A Bd:Code} {β:Bk} {s:St} {h:Heap} {Tc:Tm} {κ ρ:K4} {η:Nat → K4} {a:Ao} (hgo:g.ok = true) (hx:x = g.op) (hrf:rfP P (f.nat - 1) = some (ps,A,Bd)) (xs:Sem N β s h Tc) (hex:rangeK cf f (g.get s.T) κ s.T s.H s.n s.ck = a) (hne:a ≠ .no) :
  SCodeM P (ntP P (f.nat - 1)) (.rangeFunc x ps A Bd) false (fun e m T' h'=>Got N β s h κ η ρ a e T' h') Tc h:=by
 unfold rangeK at hex
 split at hex
 ·rename_i g' xa ya hg
  split at hex
  ·rename_i v H n ck hcall
   split at hex
   ·rename_i st1 f1 T1 hlp
    have hv:=CP.get_ok xs.1 g hgo
    rw [hg] at hv
    generalize hu:ev Tc g.op = u at hv
    cases hv with
    | @fn _ _ _ va vb ra rb =>
    have key:∀ (l k:Nat) (tmps:Array Value) (D:Nat),h l = none → Reads (ntP P (f.nat - 1)) Tc { tmps:=tmps,defers:=[] } [] →
      HR N.toKy (β.put s.n ⟨l,0⟩) (hset s.n (.lp s.ck false f s.T) s.H) s.n.succ s.ck (h.set l (.loop (loop0 k tmps ps A Bd D))):=fun l k tmps D hl hrd =>
     xs.2.alloc hl (.lp (r:=loop0 k tmps ps A Bd D) (Heap.set_same _ _ _) rfl rfl hrf (xs.1.le (xs.2.put_le _)) hrd) (Nat.le_refl _)
    have vrs:∀ l,VRs (β.put s.n ⟨l,0⟩) (xa ++ (.yl s.n :: ya)) (va ++ (.func (.yield l) #[] #[] :: vb)):=fun l =>
     (ra.le (xs.2.put_le ⟨l,0⟩)).append (.cons (.yl (x:=⟨l,0⟩) (Bk.put_same _ _ _)) (rb.le (xs.2.put_le ⟨l,0⟩)))
    by_cases hsome:∃ (l k:Nat) (tmps:Array Value) (D:Nat),h l = none ∧ Reads (ntP P (f.nat - 1)) Tc { tmps:=tmps,defers:=[] } []
    ·obtain ⟨l0,k0,tm0,D0,hl0,hrd0⟩:=hsome
     have ho:=(hcf g' _ _ _ _ _ _ _ _ _ _ _ hcall (key l0 k0 tm0 D0 hl0 hrd0) (vrs l0)).1
     obtain ⟨fn,h1,h2,h3⟩:=okCall_spec ho
     refine m_range (by rw [hx]; exact hu) h1 h2 h3 fun l k tmps D hl hrd=>?_
     have hr1:=key l k tmps D hl hrd
     have c:=(hcf g' _ _ _ _ _ _ _ _ _ _ _ hcall hr1 (vrs l)).2
     have ea:va.toArray ++ #[.func (.yield l) #[] #[]] ++ vb.toArray = (va ++ (.func (.yield l) #[] #[] :: vb)).toArray:=by simp
     rw [ea]
     refine c.mono fun u h2 a=>?_
     obtain ⟨⟨β2,l2,hr2,_⟩,k2,m2⟩:=a
     have hb2:β2 s.n = some ⟨l,0⟩:=l2 _ _ (Bk.put_same _ _ _)
     have ob:=hr2.obj _ _ hb2
     have hlive:(hget s.n H).live = true:=by rw [hlp]; rfl
     have tn:=fun (r:Loop)=>hr2.turn (ob:=.loop { r with state:=.exhausted }) (o:=.dead (ck + 1)) hb2 hlive (.dead _) rfl
     rw [hlp] at ob
     cases ob with
     | @lp _ _ _ _ r Tc' hb hs hp hr' hT ht =>
     refine ⟨r,hb,by rw [hs]; simp,hp,?_⟩
     obtain ⟨hr3,k3⟩:=tn r
     have lle:β.le β2:=Bk.le_trans (xs.2.put_le _) l2
     have m1:∀ p,(hget p s.H).st ≤ (hget p (hset s.n (.lp s.ck false f s.T) s.H)).st:=fun p=>by
      by_cases hpn:p = s.n
      ·subst hpn; rw [hget_same]; exact xs.2.ck _
      ·rw [hget_ne hpn]; exact Nat.le_refl _
     have m3:∀ p,(hget p H).st ≤ (hget p (hset s.n (.dead (ck + 1)) H)).st:=fun p=>by
      by_cases hpn:p = s.n
      ·subst hpn; rw [hget_same]; have:=hr2.ck s.n; show _ ≤ ck + 1; omega
      ·rw [hget_ne hpn]; exact Nat.le_refl _
     exact ⟨⟨s.T,hset s.n (.dead (ck + 1)) H,n,ck + 1,[],[]⟩,⟨⟨β2,lle,xs.1.le lle,hr3⟩,Keep.trans (Keep.trans (xs.2.alloc_keep _ hl) (xs.2.put_le ⟨l,0⟩) k2 m2) lle k3 m3,fun p=>Nat.le_trans (m1 p) (Nat.le_trans (m2 p) (m3 p))⟩,hex⟩
    ·intro B D w a hB rl ra' hD
     exfalso
     refine hsome ⟨w.heap.size,0,a.tmps,0,?_,ra'.size,ra'.at_,ra'.out,rfl⟩
     cases e:h w.heap.size with
     | none=>rfl
     | some o=>have:=rl.lt e; omega
   ·exact absurd hex.symm hne
  ·exact absurd hex.symm hne
 ·exact absurd hex.symm hne
theorem rfI_none {M:Nat}:∀ {c:Code} {x:SP},shapeS N M c x = true → x.rfI = none → rfC c = none:=by
 intro c x
 induction x generalizing c with
 | c a=>intro h _; rw [shapeS_c] at h; exact rfC_none h
 | seq a b iha ihb =>
  intro h hn
  cases c <;> first | (cases h; done) | skip
  simp only [shapeS,Bool.and_eq_true] at h
  simp only [SP.rfI] at hn
  split at hn
  ·cases hn
  ·rename_i ha; simp [rfC,iha h.1.1 ha,ihb h.1.2 hn]
 | block id a iha =>
  intro h hn
  cases c <;> first | (cases h; done) | skip
  simp only [shapeS,Bool.and_eq_true] at h
  have:=iha h.2 hn
  simpa [rfC] using this
 | rf g ps A B=>intro h hn; cases hn
theorem evS_ok (hm0:P.follows .mixedOrders = true) {cf:CF} (hcf:CfOk N cf) (m0:Nat) {f:Pos}:∀ (x:SP) (c:Code) (m:Bool) (β:Bk) (s:St) (h:Heap) (Tc:Tm) (κ:K4) (η:Nat → K4) (ρ:K4) (a:Ao),FitS N (ntP P (f.nat - 1)) c x → (∀ r,rfC c = some r → rfP P (f.nat - 1) = some r) → (m = true → x.rfI = none) → Sem N β s h Tc → evS m0 cf f x κ η ρ s.T s.H s.n s.ck = a → a ≠ .no →
  SCodeM P (ntP P (f.nat - 1)) c m (fun e m' T' h'=>(x.rfI = none → m' = m) ∧ Got N β s h κ η ρ a e T' h') Tc h:=by
 intro x
 induction x with
 | c a =>
  intro c m β s h Tc κ η ρ r fit _ _ x e hne
  have fc:Fit N (ntP P (f.nat - 1)) c a:=⟨by have:=fit.sh; rwa [shapeS_c] at this,by have:=fit.eq; rwa [lhsS_c] at this,fit.gs⟩
  exact (m_plain (den_ok hm0 hcf m0 a c _ β s h Tc κ η ρ r fc x e hne)).mono fun e m' T' h' q=>⟨fun _=>q.1,q.2⟩
 | seq a b iha ihb =>
  intro c m β s h Tc κ η ρ r fit hrf hm x e hne
  cases c <;> first | (exact absurd fit.sh Bool.false_ne_true) | skip
  rename_i c1 c2
  obtain ⟨fa,fb,hor⟩:=fitS_seq fit
  have hrf1:∀ r,rfC c1 = some r → rfP P (f.nat - 1) = some r:=fun r e=>hrf r (by simp [rfC,e])
  have hrf2:∀ r,rfC c2 = some r → rfP P (f.nat - 1) = some r:=fun r e=>by
   rcases hor with h1 | h1
   ·exact hrf r (by simp [rfC,rfI_none fa.sh h1,e])
   ·rw [rfI_none fb.sh h1] at e; cases e
  have hnone:(SP.seq a b).rfI = none ↔ a.rfI = none ∧ b.rfI = none:=by
   simp only [SP.rfI]
   cases a.rfI <;> simp
  have hma:m = true → a.rfI = none:=fun e=>(hnone.1 (hm e)).1
  refine m_seq ((iha c1 m β s h Tc (evS m0 cf f b κ η ρ) η ρ r fa hrf1 hma x e hne).mono fun ex m1 T1 h1 q=>?_)
  obtain ⟨qm,q⟩:=q
  cases ex <;> simp only [Got] at q
  ·obtain ⟨s1,⟨⟨β1,l1,x1⟩,k1,mo1⟩,e1⟩:=q
   have hmb:m1 = true → b.rfI = none:=fun e1=>by
    rcases hor with h2 | h2
    ·exact (hnone.1 (hm ((qm h2).symm.trans e1))).2
    ·exact h2
   exact (ihb c2 m1 β1 s1 h1 T1 κ η ρ r fb hrf2 hmb x1 e1 hne).mono fun e m2 T2 h2 q=>⟨fun hn=>(q.1 (hnone.1 hn).2).trans (qm (hnone.1 hn).1),q.2.trans l1 k1 mo1⟩
  all_goals exact ⟨fun hn=>qm (hnone.1 hn).1,q⟩
 | block id a iha =>
  intro c m β s h Tc κ η ρ r fit hrf hm x e hne
  cases c <;> first | (exact absurd fit.sh Bool.false_ne_true) | skip
  rename_i id' c1
  have sh:=fit.sh
  simp only [shapeS,Bool.and_eq_true] at sh
  have hid:=Nat.eq_of_beq_eq_true sh.1
  subst hid
  have fa:FitS N (ntP P (f.nat - 1)) c1 a:=⟨sh.2,fit.eq,fit.gs⟩
  refine m_block ((iha c1 m β s h Tc κ (fun j=>Bool.rec (motive:=fun _=>K4) (η j) κ (Nat.beq j id')) ρ r fa hrf hm x e hne).mono fun ex m1 T1 h1 q=>?_)
  obtain ⟨qm,q⟩:=q
  cases ex <;> simp only [Got] at q
  ·exact ⟨qm,q⟩
  ·rename_i j
   obtain ⟨s1,a1,e1⟩:=q
   simp only [blockM]
   cases hk:Nat.beq j id' with
   | true =>
    rw [if_pos (Nat.eq_of_beq_eq_true hk)]
    rw [hk] at e1
    exact ⟨qm,s1,a1,e1⟩
   | false =>
    rw [if_neg (fun e=>by rw [e,Nat.beq_refl] at hk; cases hk)]
    rw [hk] at e1
    exact ⟨qm,s1,a1,e1⟩
  ·exact ⟨qm,q⟩
 | rf g ps A B =>
  intro c m β s h Tc κ η ρ r fit hrf hm x e hne
  cases c <;> first | (exact absurd fit.sh Bool.false_ne_true) | skip
  rename_i g' ps' A' B'
  have hmf:m = false:=by
   cases m with
   | false=>rfl
   | true=>exact absurd (hm rfl) (by simp [SP.rfI])
  subst hmf
  have sh:=fit.sh
  simp only [shapeS,Bool.and_eq_true] at sh
  have eq:=fit.eq
  simp only [lhsS,rhsS,List.cons.injEq,Prod.mk.injEq,Op.move.injEq] at eq
  exact (rangeK_ok hcf.1 sh.1.1.1.1 eq.1.2.1 (hrf _ rfl) x e hne).mono fun e m' T' h' q=>⟨fun hn=>(by cases hn),q⟩
theorem callF1_ok (hm0:P.follows .mixedOrders = true) {cf:CF} (hcf:CfOk N cf) (m0:Nat) (hω:OmOk N ω) (hG:GFit N G):CfOk1 N (callF1 cf m0 ω G):=by
 intro f args vs H n ck β h v H' n' ck' e hr rv
 cases hck:Nat.ble ck 1000000000000 with
 | false=>unfold callF1 at e; rw [hck] at e; cases e
 | true =>
 rw [callF1_eq _ _ _ _ _ _ _ _ _ hck] at e
 cases ho:ω f args H n ck with
 | some a =>
  rw [ho] at e
  replace e:a = .ok v H' n' ck':=e
  subst e
  exact hω f args H n ck _ _ _ _ ho β h vs hr rv
 | none =>
 rw [ho] at e
 simp only at e
 split at e
 ·rename_i g hg
  cases hle:Nat.ble args.length g.nt with
  | false=>rw [hle] at e; cases e
  | true =>
  rw [hle] at e
  simp only [cond_true] at e
  obtain ⟨hok,heq1,heq2,heq3⟩:=hG f g hg
  unfold fnOk at hok
  split at hok
  ·rename_i fn hfn
   split at hok
   ·rename_i c hc
    simp only [Bool.and_eq_true] at hok
    obtain ⟨⟨⟨⟨hsh,hcall⟩,hres⟩,hnt⟩,hnt2⟩:=hok
    rw [hfn] at heq1 heq2
    simp only [Option.bind_some,hc,Option.map_some,Option.some.injEq] at heq1 heq2
    have hlr:=heq1
    have hrs:=heq2
    refine ⟨hcall,?_⟩
    have hntp:ntP P (f.nat - 1) = fn.ntmps:=by simp [ntP,hfn]
    have hrfp:∀ r,rfC c = some r → rfP P (f.nat - 1) = some r:=fun r e=>by simp [rfP,hfn,hc,e]
    have hal:args.length ≤ 256:=Nat.le_trans (Nat.le_of_ble_eq_true hle) (Nat.le_of_ble_eq_true hnt2)
    have x:Sem N β ⟨argT ⟨.d0,.d0⟩ args sl0,H,n,ck,[],[]⟩ h (T0 vs.toArray):=⟨by
     have:=argT_ok (pre:=[]) (T:=sl0) (p:=⟨.d0,.d0⟩) rv rfl (by simpa using hal) (by
      have:T0 ([]:List Value).toArray = fun _=>undef:=by funext t; simp [T0]
      rw [this]; exact TR.nil)
     simpa using this,hr⟩
    have ka:=evS_ok hm0 hcf m0 (f:=f) g.code c false β _ h _ (retF g.res) (fun _=>no4) (retF g.res) _ ⟨by rw [hntp]; exact hsh,hlr,heq3⟩ hrfp (fun e=>by cases e) x e (by simp)
    rw [hntp] at ka
    have hN:vs.toArray.size ≤ fn.ntmps:=by
     rw [List.size_toArray,rv.len]
     exact Nat.le_trans (Nat.le_of_ble_eq_true hle) (Nat.le_of_ble_eq_true hnt)
    refine s_enterM hfn hc hN (ka.mono fun ex m' T' h' q=>?_)
    have q:=q.2
    cases ex <;> simp only [Got] at q
    ·obtain ⟨s',a',e'⟩:=q
     exact retF_ok hres hrs a' e'
    ·obtain ⟨s',a',e'⟩:=q
     cases e'
    ·obtain ⟨s',a',e'⟩:=q
     exact retF_ok hres hrs a' e'
   ·cases hok
  ·cases hok
 ·cases e
theorem rfI_some {M:Nat}:∀ {c:Code} {x:SP} {r:List Sp × CC × CC},FitS N M c x → x.rfI = some r → ∃ ps A B,rfC c = some (ps,A,B) ∧ Fit N M A r.2.1 ∧ Fit N M B r.2.2 ∧ ps.toList = r.1.map (fun p=>p.nat - 1) ∧ ∀ t ∈ ps.toList,t < M:=by
 intro c x
 induction x generalizing c with
 | c a=>intro r fit e; cases e
 | seq a b iha ihb =>
  intro r fit e
  cases c <;> first | (exact absurd fit.sh Bool.false_ne_true) | skip
  obtain ⟨fa,fb,hor⟩:=fitS_seq fit
  simp only [SP.rfI] at e
  split at e
  ·rename_i r' ha
   cases e
   obtain ⟨ps,A,B,h1,h2⟩:=iha fa ha
   exact ⟨ps,A,B,by simp [rfC,h1],h2⟩
  ·rename_i ha
   obtain ⟨ps,A,B,h1,h2⟩:=ihb fb e
   exact ⟨ps,A,B,by simp [rfC,rfI_none fa.sh ha,h1],h2⟩
 | block id a iha =>
  intro r fit e
  cases c <;> first | (exact absurd fit.sh Bool.false_ne_true) | skip
  have sh:=fit.sh
  simp only [shapeS,Bool.and_eq_true] at sh
  obtain ⟨ps,A,B,h1,h2⟩:=iha ⟨sh.2,fit.eq,fit.gs⟩ e
  exact ⟨ps,A,B,by simp [rfC,h1],h2⟩
 | rf g ps A B =>
  intro r fit e
  cases e
  cases c <;> first | (exact absurd fit.sh Bool.false_ne_true) | skip
  rename_i g' ps' A' B'
  have sh:=fit.sh
  simp only [shapeS,Bool.and_eq_true] at sh
  obtain ⟨⟨⟨⟨_,sA⟩,sB⟩,sl⟩,sp⟩:=sh
  have sl:=Nat.eq_of_beq_eq_true sl
  have eq:=fit.eq
  simp only [lhsS,rhsS,List.cons.injEq] at eq
  obtain ⟨e1,e2⟩:=List.append_inj eq.2 (by simp [sl])
  obtain ⟨e3,e4⟩:=List.append_inj e2 (lhs_len sA)
  have ep:ps'.toList = ps.map (fun p=>p.nat - 1):=by
   have:=congrArg (List.map (fun z:T3=>z.1.getD 0)) e1
   simpa [Function.comp_def] using this
  have gs:=fit.gs
  simp only [glS,hlS] at gs
  obtain ⟨g1,g2⟩:=List.append_inj gs (gl_len _)
  refine ⟨ps',A',B',rfl,⟨sA,e3,g1⟩,⟨sB,e4,g2⟩,ep,fun t ht=>?_⟩
  rw [ep] at ht
  obtain ⟨p,hp,rfl⟩:=List.mem_map.1 ht
  have:=List.all_eq_true.1 sp p hp
  simpa using this
theorem setPT_ok {β:Bk}:∀ {ps:List Sp} {args:List CV} {vs:List Value} {T:SL CV} {Tc:Tm},VRs β args vs → TR β T Tc → TR β (setPT ps args T) (setTs ((ps.map (fun p=>p.nat - 1)).zip vs) Tc)
 | [],_,_,_,_,_,r=>by simpa [setPT,setTs] using r
 | p :: ps,_,_,_,_,.nil,r=>by simpa [setPT,setTs] using r
 | p :: ps,_,_,_,_,.cons h rs,r=>by
  have:=setPT_ok (ps:=ps) rs (r.put p h)
  simpa [setPT,setTs] using this
theorem yieldF_ok (hm0:P.follows .mixedOrders = true) {cf:CF} (hcf:CfOk N cf) (m0:Nat) (hG:GFit N G):YfOk N (yieldF m0 cf G):=by
 intro id args vs H n ck β h v H' n' ck' x e hr rv hx
 unfold yieldF at e
 split at e
 ·rename_i st f T hlp
  split at e
  ·rename_i r hrr
   cases hlen:Nat.beq r.1.length args.length with
   | false=>rw [hlen] at e; cases e
   | true =>
   rw [hlen] at e
   simp only [cond_true] at e
   have hlen:=Nat.eq_of_beq_eq_true hlen
   split at hrr
   ·rename_i g hg
    obtain ⟨hok,heq1,heq2,heq3⟩:=hG f g hg
    unfold fnOk at hok
    split at hok
    ·rename_i fn hfn
     split at hok
     ·rename_i c hc
      simp only [Bool.and_eq_true] at hok
      obtain ⟨⟨⟨⟨hsh,hcall⟩,hres⟩,hnt⟩,hnt2⟩:=hok
      rw [hfn] at heq1
      simp only [Option.bind_some,hc,Option.map_some,Option.some.injEq] at heq1
      obtain ⟨ps,A,B,h1,fA,fB,hps,hpM⟩:=rfI_some ⟨hsh,heq1,heq3⟩ hrr
      have hrfp:rfP P (f.nat - 1) = some (ps,A,B):=by simp [rfP,hfn,hc,h1]
      have hntp:ntP P (f.nat - 1) = fn.ntmps:=by simp [ntP,hfn]
      have ob:=hr.obj _ _ hx
      rw [hlp] at ob
      cases ob with
      | @lp _ _ _ _ r0 Tc hb hs hp hr' hT ht =>
      rw [hrfp] at hr'
      simp only [Option.some.injEq,Prod.mk.injEq] at hr'
      obtain ⟨e1,e2,e3⟩:=hr'
      rw [hntp] at ht
      have hvl:vs.length = r0.params.size:=by
       have:r0.params.toList.length = r.1.length:=by rw [← e1,hps,List.length_map]
       rw [rv.len,← hlen,← this]; simp
      refine ⟨r0,hb,hvl,?_⟩
      have rd:=reads_setPs (ps:=r0.params) (vs:=vs.toArray) (by rw [← e1]; exact hpM) ht
      have hT2:TR β (setPT r.1 args T) (setTs (r0.params.toList.zip vs.toArray.toList) Tc):=by
       have:=setPT_ok (ps:=r.1) rv hT
       rw [← e1,hps]; simpa using this
      have ka:=den_ok hm0 hcf m0 r.2.1 A fn.ntmps β ⟨setPT r.1 args T,H,n,ck,[],[]⟩ h _ (round1 m0 cf id r.2.2) (fun _=>no4) no4 _ fA ⟨hT2,hr⟩ e (by simp)
      refine s_round rd (by
       rw [← e2]
       refine ka.mono fun ex Ta ha q=>?_
       cases ex <;> simp only [Got] at q
       case exit=>obtain ⟨_,_,q⟩:=q; cases q
       case ret=>obtain ⟨_,_,q⟩:=q; cases q
       refine ⟨rfl,?_⟩
       obtain ⟨s1,⟨⟨β1,l1,x1⟩,k1,m1⟩,q⟩:=q
       unfold round1 at q
       split at q
       case h_2=>cases q
       rename_i st1 f1 T1 hl1
       have hx1:=l1 _ _ hx
       have ob1:=x1.2.obj _ _ hx1
       have hlive1:(hget id s1.H).live = true:=by rw [hl1]; rfl
       have tn1:=fun (ob:Obj) (o:CO)=>x1.2.turn (ob:=ob) (o:=o) hx1 hlive1
       rw [hl1] at ob1
       cases ob1 with
       | @lp _ _ _ _ r1 Tc1 hb1 hs1' hp1 hr1 hTT1 ht1 =>
       refine ⟨r1,hb1,hs1',?_⟩
       obtain ⟨hr3,k3⟩:=tn1 (.loop { r1 with state:=.busy }) (.lp (s1.ck + 1) true f1 T1) (.lp (r:={ r1 with state:=.busy }) (Heap.set_same _ _ _) rfl hp1 hr1 hTT1 ht1) rfl
       have m3:∀ p,(hget p s1.H).st ≤ (hget p (hset id (.lp (s1.ck + 1) true f1 T1) s1.H)).st:=fun p=>by
        by_cases hpn:p = id
        ·subst hpn; rw [hget_same]; have:=x1.2.ck p; show _ ≤ s1.ck + 1; omega
        ·rw [hget_ne hpn]; exact Nat.le_refl _
       have kb:=den_ok hm0 hcf m0 r.2.2 B fn.ntmps β1 ⟨s1.T,hset id (.lp (s1.ck + 1) true f1 T1) s1.H,s1.n,s1.ck + 1,[],[]⟩ _ Ta (round2 id) (fun _=>no4) no4 _ fB ⟨x1.1,hr3⟩ q (by simp)
       rw [← e3]
       refine kb.mono fun ex Tb hb' q=>?_
       cases ex <;> simp only [Got] at q
       case exit=>obtain ⟨_,_,q⟩:=q; cases q
       case ret=>obtain ⟨_,_,q⟩:=q; cases q
       refine ⟨rfl,?_⟩
       obtain ⟨s2,⟨⟨β2,l2,x2⟩,k2,m2⟩,q⟩:=q
       unfold round2 at q
       split at q
       case h_2=>cases q
       rename_i st2 bz f2 T2 hl2
       cases q
       have hx2:=l2 _ _ hx1
       have ob2:=x2.2.obj _ _ hx2
       have hlive2:(hget id s2.H).live = true:=by rw [hl2]; rfl
       have tn2:=fun (ob:Obj) (o:CO)=>x2.2.turn (ob:=ob) (o:=o) hx2 hlive2
       rw [hl2] at ob2
       cases ob2 with
       | @lp _ _ _ _ r2 Tc2 hb2 hs2' hp2 hr2 hTT2 ht2 =>
       refine ⟨r2,hb2,?_⟩
       obtain ⟨hr4,k4⟩:=tn2 (.loop { r2 with state:=.ready,pending:=none }) (.lp (s2.ck + 1) false f2 T2) (.lp (r:={ r2 with state:=.ready,pending:=none }) (Heap.set_same _ _ _) rfl rfl hr2 hTT2 ht2) rfl
       have m4:∀ p,(hget p s2.H).st ≤ (hget p (hset id (.lp (s2.ck + 1) false f2 T2) s2.H)).st:=fun p=>by
        by_cases hpn:p = id
        ·subst hpn; rw [hget_same]; have:=x2.2.ck p; show _ ≤ s2.ck + 1; omega
        ·rw [hget_ne hpn]; exact Nat.le_refl _
       have l12:=Bk.le_trans l1 l2
       exact ⟨⟨β2,l12,hr4,.b true⟩,Keep.trans (Keep.trans (Keep.trans k1 l1 k3 m3) l1 k2 m2) l12 k4 m4,fun p=>Nat.le_trans (m1 p) (Nat.le_trans (m3 p) (Nat.le_trans (m2 p) (m4 p)))⟩)
     ·cases hok
    ·cases hok
   ·cases hrr
  ·cases e
 ·cases e
theorem evF_ok (hm0:P.follows .mixedOrders = true) (hω:OmOk N ω) (hG:GFit N G) (m:Nat):∀ n,CfOk N (evF m ω G n)
 | 0=>⟨fun _ _ _ _ _ _ _ _ _ _ _ _ e=>(by cases e),fun _ _ _ _ _ _ _ _ _ _ _ _ _ e=>(by cases e)⟩
 | n + 1=>⟨callF1_ok hm0 (evF_ok hm0 hω hG m n) m hω hG,yieldF_ok hm0 (evF_ok hm0 hω hG m n) m hG⟩
theorem HR.empty [NoG N] (h:Heap):HR N.toKy ⟨fun _=>none,N.ξ⟩ ch0 i0 0 h :=
 ⟨fun p hp=>(by rw [hget_nil] at hp; cases hp),fun p x hx=>(by cases hx),fun p q x y hp=>(by rw [hget_nil] at hp; cases hp),fun p hp=>rfl,fun p=>(by rw [hget_nil]; exact Nat.le_refl _),fun p _=>(by rw [hget_nil]; rfl),rfl,fun g p e=>by rw [NoG.no g] at e; cases e⟩
theorem call_of [NoG N] (hm:P.follows .mixedOrders = true) (hω:OmOk N ω) (hG:GFit N G) {m n:Nat} {f:Pos} {args:List CV} {v:CV} {H:CH} {k:Id} {ck:Nat} (e:(evF m ω G n).c f args ch0 i0 0 = .ok v H k ck) {vs:List Value} (rv:VRs ⟨fun _=>none,N.ξ⟩ args vs) (h:Heap) :
  SCalls P (f.nat - 1) vs.toArray h (fun r h'=>∃ β:Bk,VR β v r) :=
 (((evF_ok hm hω hG m n).1 f args vs _ _ _ _ h v H k ck e (HR.empty h) rv).2).mono fun r h' a=>by
  obtain ⟨⟨β,_,_,hv⟩,_,_⟩:=a
  exact ⟨β,hv⟩
section
variable {K : Ky P} {β : Bk} {H : CH} {n0 : Id} {h : Heap} {x : Blk}
def Ky.bare (K:Ky P):Ky P:={ K with gl:=fun _=>none }
theorem ORp.bare {o:CO} (r:ORp K.bare β h x o):ORp K β h x o:=by
 cases r with
 | dead st=>exact .dead st
 | cells hb hl hr h1=>exact .cells hb hl hr h1
 | map s hs l' bs hb hbs hfl n1 hk hr=>exact .map s hs l' bs hb hbs hfl n1 hk hr
 | it hm hb=>exact .it hm hb
 | it0 hb=>exact .it0 hb
 | lp hb hs hp hr hT ht=>exact .lp hb hs hp hr hT ht
theorem HR.named {ck:Nat} (r:HR K.bare β H n0 ck h) (hg:∀ g p,K.gl g = some p → ∃ x,β p = some x ∧ x.b = g):HR K β H n0 ck h :=
 ⟨r.has,fun p x e=>(r.obj p x e).bare,r.inj,r.new,r.ck,r.new0,r.xs,hg⟩
theorem HR.bare0 (K:Ky P) (h:Heap):HR K.bare ⟨fun _=>none,K.ξ⟩ ch0 i0 0 h :=
 ⟨fun p hp=>(by rw [hget_nil] at hp; cases hp),fun p x hx=>(by cases hx),fun p q x y hp=>(by rw [hget_nil] at hp; cases hp),fun p hp=>rfl,fun p=>(by rw [hget_nil]; exact Nat.le_refl _),fun p _=>(by rw [hget_nil]; rfl),rfl,fun g p e=>by cases e⟩
theorem HR.glob (r:HR K β H n0 0 h) {g t:Nat} {c:CV} {v:Value} (hb:h g = none) (hv:VR β c v) (h1:c.one = true):HR K (β.put n0 ⟨g,1⟩) (hset n0 (.cells 0 t [c]) H) n0.succ 0 (h.set g (.cells #[v] t (0,0))) :=
 r.alloc hb (.cells (vs:=[v]) (tl:=[]) (Heap.set_same _ _ _) rfl (.cons (hv.le (r.put_le _)) .nil) (by simp [h1])) (Nat.zero_le _)
theorem HR.globs (r:HR K β H n0 0 h) {g t:Nat} {cs:List CV} {vs:List Value} (hb:h g = none) (hv:VRs β cs vs) (h1:cs.all CV.one = true):HR K (β.put n0 ⟨g,vs.length⟩) (hset n0 (.cells 0 t cs) H) n0.succ 0 (h.set g (.cells vs.toArray t (0,0))) :=
 r.alloc hb (.cells (vs:=vs) (tl:=[]) (by rw [List.append_nil]; exact Heap.set_same _ _ _) (by rw [List.append_nil]) (VRs.le (r.put_le _) hv) h1) (Nat.zero_le _)
end
theorem call_ofG (hm:P.follows .mixedOrders = true) (hω:OmOk N ω) (hG:GFit N G) {m n:Nat} {f:Pos} {args:List CV} {v:CV} {H0 H:CH} {k0 k:Id} {ck:Nat} (e:(evF m ω G n).c f args H0 k0 0 = .ok v H k ck) {β:Bk} {h:Heap} (hr:HR N.toKy β H0 k0 0 h) {vs:List Value} (rv:VRs β args vs) :
  SCalls P (f.nat - 1) vs.toArray h (fun r h'=>(∃ β:Bk,VR β v r) ∧ ∀ p x,β p = some x → (hget p H0).live = true → (hget p H).st = (hget p H0).st → h' x.b = h x.b) :=
 (((evF_ok hm hω hG m n).1 f args vs _ _ _ _ h v H k ck e hr rv).2).mono fun r h' a=>by
  obtain ⟨⟨β,_,_,hv⟩,kp,_⟩:=a
  exact ⟨⟨β,hv⟩,fun p x hx hl hs=>((kp p x hx hl).2 hs).2⟩
end Go.Proofs.YtihdpjinaafenaaGreatDoor.Ce

/- The evaluator: which keys are which; from a call to what a row asks. -/
namespace Go.Proofs.YtihdpjinaafenaaGreatDoor.Ce
open Go.Proofs.YtihdpjinaafenaaGreatDoor.Sl Go.RowKit
variable {P : Program}
mutual
def ckv (P:Program):Nat → TypeId → Value → Bool
 | 0,_,_=>false
 | n + 1,t,v=>match P.underlying t,v with
  | some (.struct fs),.agg cs=>ckvF P n cs fs.toList
  | some (.int _),_=>true
  | _,_=>false
def ckvF (P:Program):Nat → Array Value → List Field → Bool
 | _,_,[]=>true
 | n, cs, f :: r => (if f.name = "_" then true else match partV P f.type cs f.offset with | some a => ckv P n f.type a | none => false) && ckvF P n cs r
end
theorem run_ckv:∀ (n:Nat) (t:TypeId) (v:Value) (emp:Bool) (w:World),ckv P n t v = true → (Instr.checkKey emp n t v).run P w = .ok () w:=by
 intro n
 induction n with
 | zero=>intro t v emp w h; simp [ckv] at h
 | succ n ih =>
  have ihF : ∀ (fs : List Field) (cs : Array Value) (emp : Bool) (w : World), ckvF P n cs fs = true → (forIn (m := Go.Sem) fs PUnit.unit fun f __s => if f.name = "_" then pure (ForInStep.yield PUnit.unit) else do
    let x ← part f.type cs f.offset
    (fun a=>ForInStep.yield PUnit.unit) <$> Instr.checkKey emp n f.type x).run P w = .ok PUnit.unit w:=by
   intro fs
   induction fs with
   | nil=>intro cs emp w h; rfl
   | cons f r ihr =>
    intro cs emp w h
    simp only [ckvF,Bool.and_eq_true] at h
    obtain ⟨h1,h2⟩:=h
    have ih2:=ihr cs emp w h2
    simp only [List.forIn_cons,Sem.run_bind]
    by_cases hf : f.name = "_"
    ·simp only [hf,if_true,Sem.run_pure,Result.andThen_ok]; exact ih2
    ·simp only [hf,if_false] at h1
     cases hp:partV P f.type cs f.offset with
     | none=>rw [hp] at h1; cases h1
     | some a =>
      rw [hp] at h1
      simp only [hf,if_false,Sem.run_bind,run_partV hp,Result.andThen_ok,Sem.run_map,ih f.type a emp w h1,Sem.run_pure]
      exact ih2
  intro t v emp w h
  unfold ckv at h
  split at h
  ·rename_i fs cs hu
   simp only [Instr.checkKey,Sem.run_bind,run_underlying hu,Result.andThen_ok]
   have:=ihF fs.toList cs emp w h
   rw [Array.forIn_toList] at this
   simp [this]
  ·rename_i hu; simp [Instr.checkKey,run_underlying hu]
  ·cases h
theorem law_int {kt:TypeId} {k:IntKind} (hu:P.underlying kt = some (.int k)):KeyLaw P kt (Sh.int k).enc where
 now:=by
  intro d hd
  rw [hu] at hd
  cases hd
  refine .inl fun a b=>?_
  obtain ⟨a,ha⟩:=a
  obtain ⟨b,hb⟩:=b
  obtain ⟨a,rfl⟩:=List.length_eq_one_iff.1 ha
  obtain ⟨b,rfl⟩:=List.length_eq_one_iff.1 hb
  simp only [Sh.enc,Instr.sameNow,if_true,List.headD_cons]
  congr 1
  rw [Bool.eq_iff_iff,beq_iff_eq,decide_eq_true_eq]
  exact ⟨fun e=>by subst e; rfl,fun e=>by have:=congrArg Subtype.val e; simpa using this⟩
 eq:=by
  intro a b w
  obtain ⟨a,ha⟩:=a
  obtain ⟨b,hb⟩:=b
  obtain ⟨a,rfl⟩:=List.length_eq_one_iff.1 ha
  obtain ⟨b,rfl⟩:=List.length_eq_one_iff.1 hb
  refine run_eqv 10000 _ _ _ _ w ?_
  have:eqv P 10000 kt (.int k a) (.int k b) = some (a == b):=by unfold eqv; simp [hu]
  show eqv P 10000 kt (.int k a) (.int k b) = _
  rw [this]
  congr 1
  rw [Bool.eq_iff_iff,beq_iff_eq,decide_eq_true_eq]
  exact ⟨fun e=>by subst e; rfl,fun e=>by have:=congrArg Subtype.val e; simpa using this⟩
 check:=fun emp a w=>run_ckv 10000 _ _ emp w (by unfold ckv; simp [hu])
 bits:=fun a=>by simp [Sh.enc,Instr.sameBits]
theorem zipK_bits:∀ (n:Nat) (ks:List IntKind) (l:List Int),((zipK ks l).zip (zipK ks l)).all (fun (x,y)=>Instr.sameBits n x y) = true
 | n,[],l=>by simp [zipK]
 | n,k :: ks,[]=>by simp [zipK]
 | n,k :: ks,a :: l=>by
  simp only [zipK,List.zip_cons_cons,List.all_cons,zipK_bits n ks l,Bool.and_true]
  cases n <;> simp [Instr.sameBits]
theorem law_agg {kt:TypeId} {ks:List IntKind} {fs:Array Field} (hu:P.underlying kt = some (.struct fs)) (heq:∀ a b:List Int,a.length = ks.length → b.length = ks.length → eqv P 10000 kt (.agg (zipK ks a).toArray) (.agg (zipK ks b).toArray) = some (decide (a = b)))
  (hck:∀ a:List Int,a.length = ks.length → ckv P 10000 kt (.agg (zipK ks a).toArray) = true):KeyLaw P kt (Sh.agg ks).enc where
 now:=by
  intro d hd
  rw [hu] at hd
  cases hd
  exact .inr fun _ _=>rfl
 eq:=by
  intro a b w
  refine run_eqv 10000 _ _ _ _ w ?_
  show eqv P 10000 kt (.agg (zipK ks a.1).toArray) (.agg (zipK ks b.1).toArray) = _
  rw [heq a.1 b.1 a.2 b.2]
  congr 1
  rw [Bool.eq_iff_iff,decide_eq_true_eq,decide_eq_true_eq]
  exact ⟨fun e=>Subtype.ext e,fun e=>congrArg Subtype.val e⟩
 check:=fun emp a w=>run_ckv 10000 _ _ emp w (hck a.1 a.2)
 bits:=fun a=>by
  have:=zipK_bits 9999 ks a.1
  show Instr.sameBits 10000 (.agg (zipK ks a.1).toArray) (.agg (zipK ks a.1).toArray) = true
  simpa [Instr.sameBits] using this
theorem KeyLaw.ex {t kt et:TypeId} {s:Sh} {d:TypeDesc} (h1:P.underlying t = some (.map kt et)) (h2:P.underlying kt = some d) (l:KeyLaw P kt s.enc):∃ kt et d,P.underlying t = some (.map kt et) ∧ P.underlying kt = some d ∧ KeyLaw P kt s.enc:=⟨kt,et,d,h1,h2,l⟩
def isTrue:Ao → Bool
 | .ok (.b true) _ _ _=>true
 | _=>false
theorem calls_trueG {f:FuncId} {args:Array Value} {h:Heap} (c:SCalls P f args h (fun r h'=>r = .bool true ∧ h.le h')) (w:World) (rel:Rel h w):Calls P f args w fun e w'=>e = .returned (.bool true) ∧ Below w.heap.size w w':=by
 refine (c w rel).mono ?_
 rintro e w' ⟨v,h',rfl,⟨rfl,le⟩,r,st⟩
 refine ⟨rfl,st.os,st.tape,st.output,st.size,fun k hk=>?_⟩
 cases e:h k with
 | none=>exact st.keep k hk e
 | some ob=>exact (r k ob (le k ob e)).trans (rel k ob e).symm
def isTrueG (gs:List (Id × Nat)):Ao → Bool
 | .ok (.b true) H _ _=>gs.all fun p=>Nat.beq (hget p.1 H).st 0
 | _=>false
inductive GI (ξ:Nat → Value):List (Id × Nat) → Bk → CH → Id → Heap → Prop where
 | nil:GI ξ [] ⟨fun _=>none,ξ⟩ ch0 i0 (fun _=>none)
 | cons {gs:List (Id × Nat)} {β:Bk} {H:CH} {n:Id} {h:Heap} {g t:Nat} {c:CV} {v:Value} (r:GI ξ gs β H n h) (hb:h g = none) (h1:c.one = true) (hv:VR ⟨fun _=>none,ξ⟩ c v):GI ξ ((n,g) :: gs) (β.put n ⟨g,1⟩) (hset n (.cells 0 t [c]) H) n.succ (h.set g (.cells #[v] t (0,0)))
 | arr {gs:List (Id × Nat)} {β:Bk} {H:CH} {n:Id} {h:Heap} {g t:Nat} {cs:List CV} {vs:List Value} (r:GI ξ gs β H n h) (hb:h g = none) (h1:cs.all CV.one = true) (hv:VRs ⟨fun _=>none,ξ⟩ cs vs):GI ξ ((n,g) :: gs) (β.put n ⟨g,vs.length⟩) (hset n (.cells 0 t cs) H) n.succ (h.set g (.cells vs.toArray t (0,0)))
theorem GI.step {K:Ky P} {gs:List (Id × Nat)} {β:Bk} {H:CH} {n:Id} {h:Heap} {g k:Nat} {ob:Obj} {co:CO} (hl:co.live = true) (hst:co.st = 0) (h2:HR K β H n 0 h) (h2':HR K (β.put n ⟨g,k⟩) (hset n co H) n.succ 0 (h.set g ob)) (h3:Bk.le ⟨fun _=>none,K.ξ⟩ β) (h4:∀ p ∈ gs,(∃ k,β p.1 = some ⟨p.2,k⟩) ∧ (hget p.1 H).live = true ∧ (hget p.1 H).st = 0) (h5:∀ b o,h b = some o → ∃ p ∈ gs,p.2 = b) :
  HR K (β.put n ⟨g,k⟩) (hset n co H) n.succ 0 (h.set g ob) ∧ Bk.le ⟨fun _=>none,K.ξ⟩ (β.put n ⟨g,k⟩) ∧ (∀ p ∈ (n,g) :: gs,(∃ k',(β.put n ⟨g,k⟩) p.1 = some ⟨p.2,k'⟩) ∧ (hget p.1 (hset n co H)).live = true ∧ (hget p.1 (hset n co H)).st = 0) ∧ (∀ b o,(h.set g ob) b = some o → ∃ p ∈ (n,g) :: gs,p.2 = b):=by
 refine ⟨h2',Bk.le_trans h3 (h2.put_le _),fun p hp=>?_,fun b o e=>?_⟩
 ·rcases List.mem_cons.1 hp with rfl | hp
  ·exact ⟨⟨_,Bk.put_same _ _ _⟩,by rw [hget_same]; exact hl,by rw [hget_same]; exact hst⟩
  ·obtain ⟨⟨k',a⟩,b,d⟩:=h4 p hp
   have hne:p.1 ≠ n:=fun e=>by rw [e,h2.nn] at a; cases a
   exact ⟨⟨k',h2.put_le _ _ _ a⟩,by rw [hget_ne hne]; exact b,by rw [hget_ne hne]; exact d⟩
 ·by_cases hbg:b = g
  ·exact ⟨_,List.mem_cons_self ..,hbg.symm⟩
  ·rw [Heap.set_other _ _ hbg] at e
   obtain ⟨p,hp,e2⟩:=h5 b o e
   exact ⟨p,List.mem_cons_of_mem _ hp,e2⟩
theorem GI.hr {K:Ky P} {gs:List (Id × Nat)} {β:Bk} {H:CH} {n:Id} {h:Heap} (r:GI K.ξ gs β H n h):HR K.bare β H n 0 h ∧ Bk.le ⟨fun _=>none,K.ξ⟩ β ∧ (∀ p ∈ gs,(∃ k,β p.1 = some ⟨p.2,k⟩) ∧ (hget p.1 H).live = true ∧ (hget p.1 H).st = 0) ∧ (∀ b o,h b = some o → ∃ p ∈ gs,p.2 = b):=by
 induction r with
 | nil=>exact ⟨HR.bare0 _ _,Bk.le_refl _,fun p hp=>(by cases hp),fun b o e=>by cases e⟩
 | cons r hb h1 hv ih =>
  obtain ⟨h2,h3,h4,h5⟩:=ih
  exact GI.step rfl rfl h2 (h2.glob hb (hv.le h3) h1) h3 h4 h5
 | arr r hb h1 hv ih =>
  obtain ⟨h2,h3,h4,h5⟩:=ih
  exact GI.step rfl rfl h2 (h2.globs hb (VRs.le h3 hv) h1) h3 h4 h5
theorem true_ofG {N:Kn P} {G:CG} {ω:Om} (hm:P.follows .mixedOrders = true) (hω:OmOk N ω) (hG:GFit N G) {m n:Nat} {f:Pos} {args:List CV} {gs:List (Id × Nat)} {β:Bk} {H0:CH} {k0:Id} {h:Heap} (gi:GI N.ξ gs β H0 k0 h) (e:isTrueG gs ((evF m ω G n).c f args H0 k0 0) = true) (hgl:∀ g p,N.gl g = some p → (p,g) ∈ gs) {vs:List Value} (rv:VRs ⟨fun _=>none,N.ξ⟩ args vs) :
  SCalls P (f.nat - 1) vs.toArray h (fun r h'=>r = .bool true ∧ h.le h'):=by
 obtain ⟨h2,h3,h4,h5⟩:=gi.hr (K:=N.toKy)
 have r2:HR N.toKy β H0 k0 0 h:=h2.named fun g p e=>⟨_,(h4 _ (hgl g p e)).1.choose_spec,rfl⟩
 generalize hc:(evF m ω G n).c f args H0 k0 0 = a at e
 unfold isTrueG at e
 split at e
 ·refine (call_ofG hm hω hG hc r2 (VRs.le h3 rv)).mono fun r h' ⟨⟨β,hv⟩,kp⟩=>⟨by cases hv; rfl,fun b ob hb=>?_⟩
  obtain ⟨p,hp,rfl⟩:=h5 b ob hb
  obtain ⟨⟨k,a1⟩,a2,a3⟩:=h4 p hp
  have:=List.all_eq_true.1 e p hp
  exact (kp p.1 _ a1 a2 (by rw [a3]; exact Nat.eq_of_beq_eq_true this)).trans hb
 ·cases e
theorem true_of {N:Kn P} [NoG N] {G:CG} {ω:Om} (hm:P.follows .mixedOrders = true) (hω:OmOk N ω) (hG:GFit N G) {m n:Nat} {f:Pos} {args:List CV} (e:isTrue ((evF m ω G n).c f args ch0 i0 0) = true) {vs:List Value} (rv:VRs ⟨fun _=>none,N.ξ⟩ args vs) :
  SCalls P (f.nat - 1) vs.toArray (fun _=>none) (fun r _=>r = .bool true):=by
 generalize hc:(evF m ω G n).c f args ch0 i0 0 = a at e
 unfold isTrue at e
 split at e
 ·refine (call_of hm hω hG hc rv _).mono fun r h' ⟨β,hv⟩=>?_
  cases hv; rfl
 ·cases e
end Go.Proofs.YtihdpjinaafenaaGreatDoor.Ce

/- Slots, by name. -/
set_option maxRecDepth 100000
namespace Go.Proofs.YtihdpjinaafenaaGreatDoor
open Sl Ce
def q0:Sp:=⟨.d0,.d0⟩
def t0:CP:=.t q0
def q1:Sp:=⟨.d0,.d1⟩
def t1:CP:=.t q1
def q2:Sp:=⟨.d0,.d2⟩
def t2:CP:=.t q2
def q3:Sp:=⟨.d0,.d3⟩
def t3:CP:=.t q3
def q4:Sp:=⟨.d0,.d4⟩
def t4:CP:=.t q4
def q5:Sp:=⟨.d0,.d5⟩
def t5:CP:=.t q5
def q6:Sp:=⟨.d0,.d6⟩
def t6:CP:=.t q6
def q7:Sp:=⟨.d0,.d7⟩
def t7:CP:=.t q7
def q8:Sp:=⟨.d0,.d8⟩
def t8:CP:=.t q8
def q9:Sp:=⟨.d0,.d9⟩
def t9:CP:=.t q9
def q10:Sp:=⟨.d0,.d10⟩
def t10:CP:=.t q10
def q11:Sp:=⟨.d0,.d11⟩
def t11:CP:=.t q11
def q12:Sp:=⟨.d0,.d12⟩
def t12:CP:=.t q12
def q13:Sp:=⟨.d0,.d13⟩
def t13:CP:=.t q13
def q14:Sp:=⟨.d0,.d14⟩
def t14:CP:=.t q14
def q15:Sp:=⟨.d0,.d15⟩
def t15:CP:=.t q15
def q16:Sp:=⟨.d1,.d0⟩
def t16:CP:=.t q16
def q17:Sp:=⟨.d1,.d1⟩
def t17:CP:=.t q17
def q18:Sp:=⟨.d1,.d2⟩
def t18:CP:=.t q18
def q19:Sp:=⟨.d1,.d3⟩
def t19:CP:=.t q19
def q20:Sp:=⟨.d1,.d4⟩
def t20:CP:=.t q20
def q21:Sp:=⟨.d1,.d5⟩
def t21:CP:=.t q21
def q22:Sp:=⟨.d1,.d6⟩
def t22:CP:=.t q22
def q23:Sp:=⟨.d1,.d7⟩
def t23:CP:=.t q23
def q24:Sp:=⟨.d1,.d8⟩
def t24:CP:=.t q24
def q25:Sp:=⟨.d1,.d9⟩
def t25:CP:=.t q25
def q26:Sp:=⟨.d1,.d10⟩
def t26:CP:=.t q26
def q27:Sp:=⟨.d1,.d11⟩
def t27:CP:=.t q27
def q28:Sp:=⟨.d1,.d12⟩
def t28:CP:=.t q28
def q29:Sp:=⟨.d1,.d13⟩
def t29:CP:=.t q29
def q30:Sp:=⟨.d1,.d14⟩
def t30:CP:=.t q30
def q31:Sp:=⟨.d1,.d15⟩
def t31:CP:=.t q31
def q32:Sp:=⟨.d2,.d0⟩
def t32:CP:=.t q32
def q33:Sp:=⟨.d2,.d1⟩
def t33:CP:=.t q33
def q34:Sp:=⟨.d2,.d2⟩
def t34:CP:=.t q34
def q35:Sp:=⟨.d2,.d3⟩
def t35:CP:=.t q35
def q36:Sp:=⟨.d2,.d4⟩
def t36:CP:=.t q36
def q37:Sp:=⟨.d2,.d5⟩
def t37:CP:=.t q37
def q38:Sp:=⟨.d2,.d6⟩
def t38:CP:=.t q38
def q39:Sp:=⟨.d2,.d7⟩
def t39:CP:=.t q39
def q40:Sp:=⟨.d2,.d8⟩
def t40:CP:=.t q40
def q41:Sp:=⟨.d2,.d9⟩
def t41:CP:=.t q41
def q42:Sp:=⟨.d2,.d10⟩
def t42:CP:=.t q42
def q43:Sp:=⟨.d2,.d11⟩
def t43:CP:=.t q43
def q44:Sp:=⟨.d2,.d12⟩
def t44:CP:=.t q44
def q45:Sp:=⟨.d2,.d13⟩
def t45:CP:=.t q45
def q46:Sp:=⟨.d2,.d14⟩
def t46:CP:=.t q46
def q47:Sp:=⟨.d2,.d15⟩
def t47:CP:=.t q47
def q48:Sp:=⟨.d3,.d0⟩
def t48:CP:=.t q48
def q49:Sp:=⟨.d3,.d1⟩
def t49:CP:=.t q49
def q50:Sp:=⟨.d3,.d2⟩
def t50:CP:=.t q50
def q51:Sp:=⟨.d3,.d3⟩
def t51:CP:=.t q51
def q52:Sp:=⟨.d3,.d4⟩
def t52:CP:=.t q52
def q53:Sp:=⟨.d3,.d5⟩
def t53:CP:=.t q53
def q54:Sp:=⟨.d3,.d6⟩
def t54:CP:=.t q54
def q55:Sp:=⟨.d3,.d7⟩
def t55:CP:=.t q55
def q56:Sp:=⟨.d3,.d8⟩
def t56:CP:=.t q56
def q57:Sp:=⟨.d3,.d9⟩
def t57:CP:=.t q57
def q58:Sp:=⟨.d3,.d10⟩
def t58:CP:=.t q58
def q59:Sp:=⟨.d3,.d11⟩
def t59:CP:=.t q59
def q60:Sp:=⟨.d3,.d12⟩
def t60:CP:=.t q60
def q61:Sp:=⟨.d3,.d13⟩
def t61:CP:=.t q61
def q62:Sp:=⟨.d3,.d14⟩
def t62:CP:=.t q62
def q63:Sp:=⟨.d3,.d15⟩
def t63:CP:=.t q63
def q64:Sp:=⟨.d4,.d0⟩
def t64:CP:=.t q64
def q65:Sp:=⟨.d4,.d1⟩
def t65:CP:=.t q65
def q66:Sp:=⟨.d4,.d2⟩
def t66:CP:=.t q66
def q67:Sp:=⟨.d4,.d3⟩
def t67:CP:=.t q67
def q68:Sp:=⟨.d4,.d4⟩
def t68:CP:=.t q68
def q69:Sp:=⟨.d4,.d5⟩
def t69:CP:=.t q69
def q70:Sp:=⟨.d4,.d6⟩
def t70:CP:=.t q70
def q71:Sp:=⟨.d4,.d7⟩
def t71:CP:=.t q71
def q72:Sp:=⟨.d4,.d8⟩
def t72:CP:=.t q72
def q73:Sp:=⟨.d4,.d9⟩
def t73:CP:=.t q73
def q74:Sp:=⟨.d4,.d10⟩
def t74:CP:=.t q74
def q75:Sp:=⟨.d4,.d11⟩
def t75:CP:=.t q75
def q76:Sp:=⟨.d4,.d12⟩
def t76:CP:=.t q76
def q77:Sp:=⟨.d4,.d13⟩
def t77:CP:=.t q77
def q78:Sp:=⟨.d4,.d14⟩
def t78:CP:=.t q78
def q79:Sp:=⟨.d4,.d15⟩
def t79:CP:=.t q79
def q80:Sp:=⟨.d5,.d0⟩
def t80:CP:=.t q80
def q81:Sp:=⟨.d5,.d1⟩
def t81:CP:=.t q81
def q82:Sp:=⟨.d5,.d2⟩
def t82:CP:=.t q82
def q83:Sp:=⟨.d5,.d3⟩
def t83:CP:=.t q83
def q84:Sp:=⟨.d5,.d4⟩
def t84:CP:=.t q84
def q85:Sp:=⟨.d5,.d5⟩
def t85:CP:=.t q85
def q86:Sp:=⟨.d5,.d6⟩
def t86:CP:=.t q86
def q87:Sp:=⟨.d5,.d7⟩
def t87:CP:=.t q87
def q88:Sp:=⟨.d5,.d8⟩
def t88:CP:=.t q88
def q89:Sp:=⟨.d5,.d9⟩
def t89:CP:=.t q89
def q90:Sp:=⟨.d5,.d10⟩
def t90:CP:=.t q90
def q91:Sp:=⟨.d5,.d11⟩
def t91:CP:=.t q91
def q92:Sp:=⟨.d5,.d12⟩
def t92:CP:=.t q92
def q93:Sp:=⟨.d5,.d13⟩
def t93:CP:=.t q93
def q94:Sp:=⟨.d5,.d14⟩
def t94:CP:=.t q94
def q95:Sp:=⟨.d5,.d15⟩
def t95:CP:=.t q95
def q96:Sp:=⟨.d6,.d0⟩
def t96:CP:=.t q96
def q97:Sp:=⟨.d6,.d1⟩
def t97:CP:=.t q97
def q98:Sp:=⟨.d6,.d2⟩
def t98:CP:=.t q98
def q99:Sp:=⟨.d6,.d3⟩
def t99:CP:=.t q99
def q100:Sp:=⟨.d6,.d4⟩
def t100:CP:=.t q100
def q101:Sp:=⟨.d6,.d5⟩
def t101:CP:=.t q101
def q102:Sp:=⟨.d6,.d6⟩
def t102:CP:=.t q102
def q103:Sp:=⟨.d6,.d7⟩
def t103:CP:=.t q103
def q104:Sp:=⟨.d6,.d8⟩
def t104:CP:=.t q104
def q105:Sp:=⟨.d6,.d9⟩
def t105:CP:=.t q105
def q106:Sp:=⟨.d6,.d10⟩
def t106:CP:=.t q106
def q107:Sp:=⟨.d6,.d11⟩
def t107:CP:=.t q107
def q108:Sp:=⟨.d6,.d12⟩
def t108:CP:=.t q108
def q109:Sp:=⟨.d6,.d13⟩
def t109:CP:=.t q109
def q110:Sp:=⟨.d6,.d14⟩
def t110:CP:=.t q110
def q111:Sp:=⟨.d6,.d15⟩
def t111:CP:=.t q111
def q112:Sp:=⟨.d7,.d0⟩
def t112:CP:=.t q112
def q113:Sp:=⟨.d7,.d1⟩
def t113:CP:=.t q113
def q114:Sp:=⟨.d7,.d2⟩
def t114:CP:=.t q114
def q115:Sp:=⟨.d7,.d3⟩
def t115:CP:=.t q115
def q116:Sp:=⟨.d7,.d4⟩
def t116:CP:=.t q116
def q117:Sp:=⟨.d7,.d5⟩
def t117:CP:=.t q117
def q118:Sp:=⟨.d7,.d6⟩
def t118:CP:=.t q118
def q119:Sp:=⟨.d7,.d7⟩
def t119:CP:=.t q119
def q120:Sp:=⟨.d7,.d8⟩
def t120:CP:=.t q120
def q121:Sp:=⟨.d7,.d9⟩
def t121:CP:=.t q121
def q122:Sp:=⟨.d7,.d10⟩
def t122:CP:=.t q122
def q123:Sp:=⟨.d7,.d11⟩
def t123:CP:=.t q123
def q124:Sp:=⟨.d7,.d12⟩
def t124:CP:=.t q124
def q125:Sp:=⟨.d7,.d13⟩
def t125:CP:=.t q125
def q126:Sp:=⟨.d7,.d14⟩
def t126:CP:=.t q126
def q127:Sp:=⟨.d7,.d15⟩
def t127:CP:=.t q127
def q128:Sp:=⟨.d8,.d0⟩
def t128:CP:=.t q128
def q129:Sp:=⟨.d8,.d1⟩
def t129:CP:=.t q129
def q130:Sp:=⟨.d8,.d2⟩
def t130:CP:=.t q130
def q131:Sp:=⟨.d8,.d3⟩
def t131:CP:=.t q131
def q132:Sp:=⟨.d8,.d4⟩
def t132:CP:=.t q132
def q133:Sp:=⟨.d8,.d5⟩
def t133:CP:=.t q133
def q134:Sp:=⟨.d8,.d6⟩
def t134:CP:=.t q134
def q135:Sp:=⟨.d8,.d7⟩
def t135:CP:=.t q135
def q136:Sp:=⟨.d8,.d8⟩
def t136:CP:=.t q136
def q137:Sp:=⟨.d8,.d9⟩
def t137:CP:=.t q137
def q138:Sp:=⟨.d8,.d10⟩
def t138:CP:=.t q138
def q139:Sp:=⟨.d8,.d11⟩
def t139:CP:=.t q139
def q140:Sp:=⟨.d8,.d12⟩
def t140:CP:=.t q140
def q141:Sp:=⟨.d8,.d13⟩
def t141:CP:=.t q141
def q142:Sp:=⟨.d8,.d14⟩
def t142:CP:=.t q142
def q143:Sp:=⟨.d8,.d15⟩
def t143:CP:=.t q143
def q144:Sp:=⟨.d9,.d0⟩
def t144:CP:=.t q144
def q145:Sp:=⟨.d9,.d1⟩
def t145:CP:=.t q145
def q146:Sp:=⟨.d9,.d2⟩
def t146:CP:=.t q146
def q147:Sp:=⟨.d9,.d3⟩
def t147:CP:=.t q147
def q148:Sp:=⟨.d9,.d4⟩
def t148:CP:=.t q148
def q149:Sp:=⟨.d9,.d5⟩
def t149:CP:=.t q149
def q150:Sp:=⟨.d9,.d6⟩
def t150:CP:=.t q150
def q151:Sp:=⟨.d9,.d7⟩
def t151:CP:=.t q151
def q152:Sp:=⟨.d9,.d8⟩
def t152:CP:=.t q152
def q153:Sp:=⟨.d9,.d9⟩
def t153:CP:=.t q153
def q154:Sp:=⟨.d9,.d10⟩
def t154:CP:=.t q154
def q155:Sp:=⟨.d9,.d11⟩
def t155:CP:=.t q155
def q156:Sp:=⟨.d9,.d12⟩
def t156:CP:=.t q156
def q157:Sp:=⟨.d9,.d13⟩
def t157:CP:=.t q157
def q158:Sp:=⟨.d9,.d14⟩
def t158:CP:=.t q158
def q159:Sp:=⟨.d9,.d15⟩
def t159:CP:=.t q159
def q160:Sp:=⟨.d10,.d0⟩
def t160:CP:=.t q160
def q161:Sp:=⟨.d10,.d1⟩
def t161:CP:=.t q161
def q162:Sp:=⟨.d10,.d2⟩
def t162:CP:=.t q162
def q163:Sp:=⟨.d10,.d3⟩
def t163:CP:=.t q163
def q164:Sp:=⟨.d10,.d4⟩
def t164:CP:=.t q164
def q165:Sp:=⟨.d10,.d5⟩
def t165:CP:=.t q165
def q166:Sp:=⟨.d10,.d6⟩
def t166:CP:=.t q166
def k0:CP:=.c (.i .i64 (.ofNat 0))
def k1:CP:=.c (.i .i64 (.ofNat 1))
def k2:CP:=.c (.i .i64 (.ofNat 2))
def k3:CP:=.c (.i .i64 (.ofNat 3))
def k4:CP:=.c (.i .i64 (.ofNat 4))
def k5:CP:=.c (.i .i64 (.ofNat 5))
def k6:CP:=.c (.i .i64 (.ofNat 6))
def k7:CP:=.c (.i .i64 (.ofNat 7))
def k8:CP:=.c (.i .i64 (.ofNat 8))
def j2:Pos:=.o .h
def j3:Pos:=.i .h
def j4:Pos:=.o j2
def j5:Pos:=.i j2
def j6:Pos:=.o j3
def j7:Pos:=.i j3
def j8:Pos:=.o j4
def j9:Pos:=.i j4
def j10:Pos:=.o j5
def j11:Pos:=.i j5
def j12:Pos:=.o j6
def j13:Pos:=.i j6
def j14:Pos:=.o j7
def j15:Pos:=.i j7
def j16:Pos:=.o j8
def j17:Pos:=.i j8
def j18:Pos:=.o j9
def j19:Pos:=.i j9
def j20:Pos:=.o j10
def j21:Pos:=.i j10
def j22:Pos:=.o j11
def j23:Pos:=.i j11
def j24:Pos:=.o j12
def j25:Pos:=.i j12
def j26:Pos:=.o j13
def j27:Pos:=.i j13
def j28:Pos:=.o j14
def j29:Pos:=.i j14
def j30:Pos:=.o j15
def j31:Pos:=.i j15
def j32:Pos:=.o j16
def j33:Pos:=.i j16
def j34:Pos:=.o j17
def j35:Pos:=.i j17
def j36:Pos:=.o j18
def j37:Pos:=.i j18
def j38:Pos:=.o j19
def j39:Pos:=.i j19
def j40:Pos:=.o j20
def j41:Pos:=.i j20
def j42:Pos:=.o j21
def j43:Pos:=.i j21
def j44:Pos:=.o j22
def j45:Pos:=.i j22
def j46:Pos:=.o j23
def j47:Pos:=.i j23
def j48:Pos:=.o j24
def j49:Pos:=.i j24
def j50:Pos:=.o j25
def j51:Pos:=.i j25
def j52:Pos:=.o j26
def j53:Pos:=.i j26
def j54:Pos:=.o j27
def j55:Pos:=.i j27
def j56:Pos:=.o j28
def j57:Pos:=.i j28
def j58:Pos:=.o j29
def j59:Pos:=.i j29
def j60:Pos:=.o j30
def j61:Pos:=.i j30
def j62:Pos:=.o j31
def j63:Pos:=.i j31
def j64:Pos:=.o j32
def j65:Pos:=.i j32
def j66:Pos:=.o j33
def j67:Pos:=.i j33
def j68:Pos:=.o j34
def j69:Pos:=.i j34
def j70:Pos:=.o j35
def j71:Pos:=.i j35
def j72:Pos:=.o j36
def j73:Pos:=.i j36
def j74:Pos:=.o j37
def j75:Pos:=.i j37
def j76:Pos:=.o j38
def j77:Pos:=.i j38
def j78:Pos:=.o j39
def j79:Pos:=.i j39
def j80:Pos:=.o j40
def j81:Pos:=.i j40
def j82:Pos:=.o j41
def j83:Pos:=.i j41
def j84:Pos:=.o j42
def j85:Pos:=.i j42
def j86:Pos:=.o j43
def j87:Pos:=.i j43
def j88:Pos:=.o j44
def j89:Pos:=.i j44
def j90:Pos:=.o j45
def j91:Pos:=.i j45
def j92:Pos:=.o j46
def j93:Pos:=.i j46
def j94:Pos:=.o j47
def j95:Pos:=.i j47
def j96:Pos:=.o j48
def j97:Pos:=.i j48
def j98:Pos:=.o j49
def j99:Pos:=.i j49
def j100:Pos:=.o j50
def j101:Pos:=.i j50
def j102:Pos:=.o j51
def j103:Pos:=.i j51
def j104:Pos:=.o j52
def j105:Pos:=.i j52
def j106:Pos:=.o j53
def j107:Pos:=.i j53
def j108:Pos:=.o j54
def j109:Pos:=.i j54
def j110:Pos:=.o j55
def j111:Pos:=.i j55
def j112:Pos:=.o j56
def j113:Pos:=.i j56
def j114:Pos:=.o j57
def j115:Pos:=.i j57
def j116:Pos:=.o j58
def j117:Pos:=.i j58
def j118:Pos:=.o j59
def j119:Pos:=.i j59
def j120:Pos:=.o j60
def j121:Pos:=.i j60
def j122:Pos:=.o j61
def j123:Pos:=.i j61
def j124:Pos:=.o j62
def j125:Pos:=.i j62
def j126:Pos:=.o j63
def j127:Pos:=.i j63
def j128:Pos:=.o j64
def j129:Pos:=.i j64
def j130:Pos:=.o j65
def j131:Pos:=.i j65
def j132:Pos:=.o j66
def j133:Pos:=.i j66
def j135:Pos:=.i j67
def j137:Pos:=.i j68
def j139:Pos:=.i j69
def j140:Pos:=.o j70
def j141:Pos:=.i j70
def j143:Pos:=.i j71
def j144:Pos:=.o j72
def j145:Pos:=.i j72
def j146:Pos:=.o j73
def j147:Pos:=.i j73
def j148:Pos:=.o j74
def j149:Pos:=.i j74
def j150:Pos:=.o j75
def j151:Pos:=.i j75
def j152:Pos:=.o j76
def j153:Pos:=.i j76
def j154:Pos:=.o j77
def j155:Pos:=.i j77
def j156:Pos:=.o j78
def j157:Pos:=.i j78
def j158:Pos:=.o j79
def j159:Pos:=.i j79
def j160:Pos:=.o j80
def j161:Pos:=.i j80
def j162:Pos:=.o j81
def j163:Pos:=.i j81
def j168:Pos:=.o j84
def j169:Pos:=.i j84
def j170:Pos:=.o j85
def j171:Pos:=.i j85
def j172:Pos:=.o j86
def j173:Pos:=.i j86
def j174:Pos:=.o j87
def j175:Pos:=.i j87
def j176:Pos:=.o j88
def j177:Pos:=.i j88
def j178:Pos:=.o j89
def j179:Pos:=.i j89
def j180:Pos:=.o j90
def j181:Pos:=.i j90
def j182:Pos:=.o j91
def j183:Pos:=.i j91
def j184:Pos:=.o j92
def j185:Pos:=.i j92
def j186:Pos:=.o j93
def j187:Pos:=.i j93
def j188:Pos:=.o j94
def j189:Pos:=.i j94
def j190:Pos:=.o j95
def j191:Pos:=.i j95
def j192:Pos:=.o j96
def j193:Pos:=.i j96
def j194:Pos:=.o j97
def j195:Pos:=.i j97
def j196:Pos:=.o j98
def j197:Pos:=.i j98
def j198:Pos:=.o j99
def j199:Pos:=.i j99
def j200:Pos:=.o j100
def j201:Pos:=.i j100
def j202:Pos:=.o j101
def j203:Pos:=.i j101
def j204:Pos:=.o j102
def j205:Pos:=.i j102
def j206:Pos:=.o j103
def j207:Pos:=.i j103
def j208:Pos:=.o j104
def j209:Pos:=.i j104
def j210:Pos:=.o j105
def j211:Pos:=.i j105
def j212:Pos:=.o j106
def j213:Pos:=.i j106
def j214:Pos:=.o j107
def j215:Pos:=.i j107
def j216:Pos:=.o j108
def j218:Pos:=.o j109
def j219:Pos:=.i j109
def j220:Pos:=.o j110
def j221:Pos:=.i j110
def j222:Pos:=.o j111
def j223:Pos:=.i j111
def j224:Pos:=.o j112
def j225:Pos:=.i j112
def j229:Pos:=.i j114
def j230:Pos:=.o j115
def j231:Pos:=.i j115
def j249:Pos:=.i j124
def j250:Pos:=.o j125
def j251:Pos:=.i j125
def j252:Pos:=.o j126
def j253:Pos:=.i j126
def j254:Pos:=.o j127
def j255:Pos:=.i j127
def j257:Pos:=.i j128
def j258:Pos:=.o j129
def j259:Pos:=.i j129
def j260:Pos:=.o j130
def j261:Pos:=.i j130
def j262:Pos:=.o j131
def j263:Pos:=.i j131
def j264:Pos:=.o j132
def j270:Pos:=.o j135
def j279:Pos:=.i j139
def j280:Pos:=.o j140
def j281:Pos:=.i j140
def j282:Pos:=.o j141
def j286:Pos:=.o j143
def j287:Pos:=.i j143
def j288:Pos:=.o j144
def j289:Pos:=.i j144
def j290:Pos:=.o j145
def j300:Pos:=.o j150
def j301:Pos:=.i j150
def j302:Pos:=.o j151
def j304:Pos:=.o j152
def j305:Pos:=.i j152
def j306:Pos:=.o j153
def j307:Pos:=.i j153
def j308:Pos:=.o j154
def j309:Pos:=.i j154
def j310:Pos:=.o j155
def j311:Pos:=.i j155
def j315:Pos:=.i j157
def j316:Pos:=.o j158
def j319:Pos:=.i j159
def j320:Pos:=.o j160
def j336:Pos:=.o j168
def j337:Pos:=.i j168
def j338:Pos:=.o j169
def j339:Pos:=.i j169
def j340:Pos:=.o j170
def j341:Pos:=.i j170
def j342:Pos:=.o j171
def j343:Pos:=.i j171
def j344:Pos:=.o j172
end Go.Proofs.YtihdpjinaafenaaGreatDoor

/- Keys, structs of numbers. -/
namespace Go.Proofs.YtihdpjinaafenaaGreatDoor
open Sl Ce
def shOf (t:Nat):Option Sh:=bif Nat.beq t 110 then some (.int .u32) else bif Nat.beq t 174 then some (.int .i64) else bif Nat.beq t 175 then some (.int .i64) else bif Nat.beq t 182 then some (.agg [.i64,.u32,.u32]) else bif Nat.beq t 252 then some (.agg [.u32,.u32]) else none
def eqOf (t:Nat):Option (List IntKind):=bif Nat.beq t 47 then some [.u32,.u32] else none
theorem eqlaw165:∀ a b:List Int,a.length = [IntKind.i64,IntKind.u32,IntKind.u32].length → b.length = ([.i64,.u32,.u32]:List IntKind).length → eqv Tryz.prog 10000 165 (.agg (zipK [.i64,.u32,.u32] a).toArray) (.agg (zipK [.i64,.u32,.u32] b).toArray) = some (decide (a = b))
 | [a0,a1,a2],[b0,b1,b2],_,_=>by
  have h47:Tryz.prog.cellsOf 47 = 2:=by kernel_rfl
  simp [eqv,eqvFields,partV,zipK,h47]
  try (rw [Bool.eq_iff_iff]; simp; try omega)
theorem ckeq165:∀ a:List Int,a.length = ([.i64,.u32,.u32]:List IntKind).length → ckv Tryz.prog 10000 165 (.agg (zipK [.i64,.u32,.u32] a).toArray) = true
 | [a0,a1,a2],_=>by
  have h47:Tryz.prog.cellsOf 47 = 2:=by kernel_rfl
  simp [ckv,ckvF,partV,zipK,h47]
theorem eqlaw47:∀ a b:List Int,a.length = [IntKind.u32,IntKind.u32].length → b.length = ([.u32,.u32]:List IntKind).length → eqv Tryz.prog 10000 47 (.agg (zipK [.u32,.u32] a).toArray) (.agg (zipK [.u32,.u32] b).toArray) = some (decide (a = b))
 | [a0,a1],[b0,b1],_,_=>by
  simp [eqv,eqvFields,partV,zipK]
  try (rw [Bool.eq_iff_iff]; simp; try omega)
theorem ckeq47:∀ a:List Int,a.length = ([.u32,.u32]:List IntKind).length → ckv Tryz.prog 10000 47 (.agg (zipK [.u32,.u32] a).toArray) = true
 | [a0,a1],_=>by
  simp [ckv,ckvF,partV,zipK]
theorem shLaw:∀ t s,shOf t = some s → ∃ kt et d,Tryz.prog.underlying t = some (.map kt et) ∧ Tryz.prog.underlying kt = some d ∧ KeyLaw Tryz.prog kt s.enc:=by
 intro t s h
 by_cases h110:t = 110
 ·subst h110
  cases (show some (.int .u32) = some s from h)
  exact KeyLaw.ex Tryz.underlying110 Tryz.underlying23 (law_int Tryz.underlying23)
 by_cases h174:t = 174
 ·subst h174
  cases (show some (.int .i64) = some s from h)
  exact KeyLaw.ex Tryz.underlying174 Tryz.underlying3 (law_int Tryz.underlying3)
 by_cases h175:t = 175
 ·subst h175
  cases (show some (.int .i64) = some s from h)
  exact KeyLaw.ex Tryz.underlying175 Tryz.underlying3 (law_int Tryz.underlying3)
 by_cases h182:t = 182
 ·subst h182
  cases (show some (.agg [.i64,.u32,.u32]) = some s from h)
  exact KeyLaw.ex Tryz.underlying182 Tryz.underlying165 (law_agg Tryz.underlying165 eqlaw165 ckeq165)
 by_cases h252:t = 252
 ·subst h252
  cases (show some (.agg [.u32,.u32]) = some s from h)
  exact KeyLaw.ex Tryz.underlying252 Tryz.underlying47 (law_agg Tryz.underlying47 eqlaw47 ckeq47)
 exfalso
 unfold shOf at h
 rw [show Nat.beq t 110 = false from by cases e:Nat.beq t 110 with | false=>rfl | true=>exact absurd (Nat.eq_of_beq_eq_true e) h110] at h
 simp only [cond_false] at h
 rw [show Nat.beq t 174 = false from by cases e:Nat.beq t 174 with | false=>rfl | true=>exact absurd (Nat.eq_of_beq_eq_true e) h174] at h
 simp only [cond_false] at h
 rw [show Nat.beq t 175 = false from by cases e:Nat.beq t 175 with | false=>rfl | true=>exact absurd (Nat.eq_of_beq_eq_true e) h175] at h
 simp only [cond_false] at h
 rw [show Nat.beq t 182 = false from by cases e:Nat.beq t 182 with | false=>rfl | true=>exact absurd (Nat.eq_of_beq_eq_true e) h182] at h
 simp only [cond_false] at h
 rw [show Nat.beq t 252 = false from by cases e:Nat.beq t 252 with | false=>rfl | true=>exact absurd (Nat.eq_of_beq_eq_true e) h252] at h
 simp only [cond_false] at h
 cases h
theorem eqLaw:∀ t ks,eqOf t = some ks → Tryz.prog.eqGuardType Tryz.prog.depth t = false ∧ ∀ a b:List Int,a.length = ks.length → b.length = ks.length → eqv Tryz.prog 10000 t (.agg (zipK ks a).toArray) (.agg (zipK ks b).toArray) = some (decide (a = b)):=by
 intro t ks h
 by_cases h47:t = 47
 ·subst h47
  cases (show some [IntKind.u32,IntKind.u32] = some ks from h)
  exact ⟨by kernel_rfl,eqlaw47⟩
 exfalso
 unfold eqOf at h
 rw [show Nat.beq t 47 = false from by cases e:Nat.beq t 47 with | false=>rfl | true=>exact absurd (Nat.eq_of_beq_eq_true e) h47] at h
 simp only [cond_false] at h
 cases h
def knG (gl:Nat → Option Ce.Id) (ξ:Nat → Value):Kn Tryz.prog:={ ξ:=ξ,sh:=shOf,law:=shLaw,eqs:=eqOf,eqlaw:=eqLaw,gl:=gl }
abbrev kn (ξ:Nat → Value):=knG (fun _=>none) ξ
def gl1 (g:Nat):Option Ce.Id:=bif Nat.beq g 10 then some ⟨.h,.d0,.d0,.d0⟩ else none
def gs1:List (Ce.Id × Nat):=[(⟨.h,.d0,.d0,.d0⟩,10)]
theorem gl1_eq:∀ g p,gl1 g = some p → (p,g) ∈ gs1:=fun g p e=>by
 unfold gl1 at e
 cases h10:Nat.beq g 10 with
 | true=>rw [h10] at e; simp only [cond_true,Option.some.injEq] at e; subst e; cases Nat.eq_of_beq_eq_true h10; simp [gs1]
 | false =>
 rw [h10] at e; simp only [cond_false] at e
 cases e
instance (ξ:Nat → Value):NoG (kn ξ):=⟨fun _=>rfl⟩
end Go.Proofs.YtihdpjinaafenaaGreatDoor
