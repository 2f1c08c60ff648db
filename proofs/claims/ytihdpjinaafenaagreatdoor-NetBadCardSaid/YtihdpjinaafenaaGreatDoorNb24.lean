import Derived.Test.YtihdpjinaafenaaGreatDoorNb23
import Derived.Test.YtihdpjinaafenaaGreatDoorProg
noncomputable section
/- A native: (*age.Table).All, where no message has a list. -/
set_option linter.unusedVariables false
set_option linter.unusedSimpArgs false
namespace Go.Proofs.YtihdpjinaafenaaGreatDoor
open Sl Ce
def row1 (k:List Int) (c:CV):Option (List CV):=match c with
 | .agg cs=>match nums entKs (takeR cs 13),dropR cs 13 with
  | some [k0,k1,k2,k3,k4,_,_,_,_,_,_,_,_],[.b _,.ns]=>bif keqR k [k0,k1,k2,k3,k4] then some cs else none
  | _,_=>none
 | _=>none
def headIs (kind:Int):List Int → Bool
 | k :: _=>ieqb k kind
 | []=>false
def rowsE (kind:Int) (es:List (List Int × CV)):Option (List (List Int × List CV)):=List.rec (some []) (fun e _ ih=>Option.rec none (fun cs=>Option.rec none (fun l=>Bool.rec (some l) (some ((e.1,cs) :: l)) (headIs kind e.1)) ih) (row1 e.1 e.2)) es
def ltK (a b:List Int):Bool:=match a,b with
 | [a0,a1,a2,a3,a4],[b0,b1,b2,b3,b4]=>iltb a0 b0 || (ieqb a0 b0 && (iltb a1 b1 || (ieqb a1 b1 && (iltb a4 b4 || (ieqb a4 b4 && (iltb a3 b3 || (ieqb a3 b3 && iltb a2 b2)))))))
 | _,_=>false
def insK (x:List Int × List CV) (l:List (List Int × List CV)):List (List Int × List CV):=List.rec [x] (fun y r ih=>Bool.rec (y :: ih) (x :: y :: r) (ltK x.1 y.1)) l
def sortK (l:List (List Int × List CV)):List (List Int × List CV):=List.rec [] (fun x _ ih=>insK x ih) l
def flatK (l:List (List Int × List CV)):List CV:=List.rec [] (fun x _ ih=>appR x.2 ih) l
def allF (mt et:Nat):NF:=fun args H n ck=>match args with
 | [.p id 0,.i .i64 kind]=>match hget id H with
  | .cells _ _ [.nm]=>some (.ok (.z none) H n ck)
  | .cells _ _ [.m mid]=>match hget mid H with
   | .map _ t _ cl es=>bif Nat.beq t mt && !leR 1000 es then (match rowsE kind es with
     | some l=>bif leR 13 l then none else (match sortK l with
      | []=>some (.ok (.z none) H n ck)
      | x :: r=>some (.ok (.sl n 0 (lenR (x :: r)) 15 none) (hset n (.cells ck et (flatK (x :: r))) H) n.succ ck))
     | none=>none) else none
   | _=>none
  | _=>none
 | _=>none
def keyL (x:AT):List Int:=[x.key.1.1,x.key.1.2.1,x.key.1.2.2,x.key.2.1,x.key.2.2]
def rowC (x:AT):List CV:=[.i .i64 x.key.1.1,.i .i64 x.key.1.2.1,.i .u32 x.key.1.2.2,.i .u32 x.key.2.1,.i .u32 x.key.2.2,.i .i64 x.age,.i .i64 x.msg.kind,.i .u32 x.msg.frm,.i .u32 x.msg.to,.i .u32 x.msg.src,.i .u32 x.msg.grp,.i .i64 x.msg.rank,.i .i64 x.msg.cost,.b x.msg.only,.ns]
def fK (x:AT):List Int × List CV:=(keyL x,rowC x)
theorem ltK_eq (x y:AT):ltK (keyL x) (keyL y) = decide (cmpA x y < 0):=by
 unfold keyL ltK
 simp only [iltb_eq,ieqb_eq]
 rw [Bool.eq_iff_iff,decide_eq_true_eq,cmpA,cmpT_lt]
 simp only [Bool.or_eq_true,Bool.and_eq_true,decide_eq_true_eq,beq_iff_eq]
def insA (x:AT):List AT → List AT
 | []=>[x]
 | y :: r=>if cmpA x y < 0 then x :: y :: r else y :: insA x r
def sortA:List AT → List AT
 | []=>[]
 | x :: r=>insA x (sortA r)
theorem insK_map (x:AT):∀ l:List AT,insK (fK x) (l.map fK) = (insA x l).map fK
 | []=>rfl
 | y :: r=>by
  show (Bool.rec (fK y :: insK (fK x) (r.map fK)) (fK x :: fK y :: r.map fK) (ltK (keyL x) (keyL y)):List (List Int × List CV)) = _
  rw [insK_map x r,ltK_eq]
  by_cases h:cmpA x y < 0
  ·rw [show insA x (y :: r) = x :: y :: r from if_pos h,decide_eq_true h]; rfl
  ·rw [show insA x (y :: r) = y :: insA x r from if_neg h,decide_eq_false h]; rfl
theorem sortK_map:∀ l:List AT,sortK (l.map fK) = (sortA l).map fK
 | []=>rfl
 | x :: r=>by
  show insK (fK x) (sortK (r.map fK)) = _
  rw [sortK_map r,insK_map]; rfl
theorem insA_perm (x:AT):∀ l,(insA x l).Perm (x :: l)
 | []=>.refl _
 | y :: r=>by
  unfold insA
  split
  ·exact .refl _
  ·exact ((insA_perm x r).cons y).trans (.swap x y r)
theorem sortA_perm:∀ l,(sortA l).Perm l
 | []=>.refl _
 | x :: r=>(insA_perm x _).trans ((sortA_perm r).cons x)
def leA (x y:AT):Prop:=¬ cmpA y x < 0
theorem leA_trans {x y z:AT} (a:leA x y) (b:leA y z):leA x z:=by
 unfold leA at *
 rw [cmpA,cmpT_lt] at *
 omega
theorem insA_pair (x:AT):∀ {l:List AT},l.Pairwise leA → (insA x l).Pairwise leA
 | [],_=>List.pairwise_singleton _ _
 | y :: r,h=>by
  rw [List.pairwise_cons] at h
  unfold insA
  split
  ·rename_i hlt
   have hxy:leA x y:=by
    unfold leA
    rw [cmpA,cmpT_lt] at *
    omega
   refine List.pairwise_cons.2 ⟨fun z hz=>?_,List.pairwise_cons.2 h⟩
   rcases List.mem_cons.1 hz with rfl | hz
   ·exact hxy
   ·exact leA_trans hxy (h.1 z hz)
  ·rename_i hge
   refine List.pairwise_cons.2 ⟨fun z hz=>?_,insA_pair x h.2⟩
   rcases List.mem_cons.1 ((insA_perm x r).subset hz) with rfl | hz
   ·exact hge
   ·exact h.1 z hz
theorem sortA_pair:∀ l,(sortA l).Pairwise leA
 | []=>.nil
 | x :: r=>insA_pair x (sortA_pair r)
theorem ans_pair {ts l:List AT} {kind:Int} (a:AllAns ts kind l):l.Pairwise leA:=by
 rw [List.pairwise_iff_getElem]
 intro i j hi hj hij
 have:=a.2 i j hij hj
 rw [List.getD_eq_getElem?_getD,List.getD_eq_getElem?_getD,List.getElem?_eq_getElem hi,List.getElem?_eq_getElem hj] at this
 exact this
theorem key_inj:∀ {ts:List AT},(ts.map AT.key).Nodup → ∀ {a b:AT},a ∈ ts → b ∈ ts → a.key = b.key → a = b
 | [],_,_,_,h,_,_=>by cases h
 | x :: r,nd,a,b,ha,hb,e=>by
  simp only [List.map_cons,List.nodup_cons] at nd
  rcases List.mem_cons.1 ha with h1 | h1 <;> rcases List.mem_cons.1 hb with h2 | h2
  ·rw [h1,h2]
  ·exact absurd (by rw [← h1,e]; exact List.mem_map.2 ⟨b,h2,rfl⟩) nd.1
  ·exact absurd (by rw [← h2,← e]; exact List.mem_map.2 ⟨a,h1,rfl⟩) nd.1
  ·exact key_inj nd.2 h1 h2 e
theorem ans_sort {ts l:List AT} {kind:Int} (nd:(ts.map AT.key).Nodup) (a:AllAns ts kind l):l = sortA (ts.filter (ofKind kind)):=by
 have p1:l.Perm (sortA (ts.filter (ofKind kind))):=a.1.trans (sortA_perm _).symm
 refine List.Perm.eq_of_pairwise (le:=leA) (fun x y hx hy h1 h2=>?_) (ans_pair a) (sortA_pair _) p1
 have hx':x ∈ ts:=(List.mem_filter.1 (a.1.subset hx)).1
 have hy':y ∈ ts:=(List.mem_filter.1 ((sortA_perm _).subset hy)).1
 refine key_inj nd hx' hy' ?_
 unfold leA at h1 h2
 rw [cmpA,cmpT_lt] at h1 h2
 have e1:x.key.1.1 = y.key.1.1:=by omega
 have e2:x.key.1.2.1 = y.key.1.2.1:=by omega
 have e3:x.key.1.2.2 = y.key.1.2.2:=by omega
 have e4:x.key.2.1 = y.key.2.1:=by omega
 have e5:x.key.2.2 = y.key.2.2:=by omega
 exact Prod.ext (Prod.ext e1 (Prod.ext e2 e3)) (Prod.ext e4 e5)
def zipC:List IntKind → List Int → List CV
 | k :: ks,n :: ns=>.i k n :: zipC ks ns
 | _,_=>[]
theorem nums_cv:∀ {ks:List IntKind} {cs:List CV} {l:List Int},nums ks cs = some l → cs = zipC ks l
 | [],[],l,e=>by cases e; rfl
 | [],c :: cs,l,e=>by simp [nums] at e
 | k :: ks,[],l,e=>by simp [nums] at e
 | k :: ks,c :: cs,l,e=>by
  unfold nums at e
  split at e
  ·rename_i h _; cases h
  ·rename_i k2 ks2 k' n r2 hks hc
   cases hks; cases hc
   cases hk:ikb k k' with
   | false=>rw [hk] at e; cases e
   | true =>
    rw [hk] at e
    have:=ikb_eq hk
    subst this
    simp only [cond_true] at e
    split at e
    ·rename_i l' hl'
     cases e
     rw [nums_cv hl']; rfl
    ·cases e
  ·cases e
theorem row1_ok {β:Bk} {k:List Int} {c:CV} {v:Value} {cs:List CV} (e:row1 k c = some cs) (r:VR β c v) :
  ∃ x:AT,k = keyL x ∧ v = entV x.key x.age x.msg (.slice none 0 0) ∧ cs = rowC x:=by
 cases r <;> try (cases e; done)
 rename_i cs' vs hall hr
 simp only [row1,takeR_eq,dropR_eq,keqR_eq] at e
 split at e
 case h_2=>cases e
 rename_i k0 k1 k2 k3 k4 a m0 m1 m2 m3 m4 m5 m6 o hn hd
 cases hb:keq k [k0,k1,k2,k3,k4] with
 | false=>rw [hb] at e; cases e
 | true =>
  rw [hb] at e
  cases e
  rw [keq_eq,decide_eq_true_eq] at hb
  have hcs:cs = cs.take 13 ++ cs.drop 13:=(List.take_append_drop 13 cs).symm
  rw [hcs,hd] at hr
  obtain ⟨va,vb,rfl,ra,rb⟩:=hr.split
  obtain ⟨hl,rfl⟩:=nums_ok hn ra
  have hcv:=nums_cv hn
  cases rb with
  | cons rb1 rb =>
   cases rb with
   | cons rb2 rb =>
    cases rb
    cases rb1
    cases rb2
    refine ⟨⟨((k0,k1,k2),(k3,k4)),a,⟨m0,m1,m2,m3,m4,m5,m6,o,[]⟩⟩,hb,rfl,?_⟩
    rw [hcs,hd,hcv]; rfl
theorem rowsE_ok {β:Bk} (kind:Int):∀ {es:List (List Int × CV)} {L:List (List Int × List CV)} {l:List ((Sh.agg thKs).key × Value)} {bs:List Nat},rowsE kind es = some L → bs.length = l.length → l.map (fun p=>p.1.1) = es.map (·.1) → VRs β (es.map (·.2)) (l.map (·.2)) →
  ∃ rs:List Rc,rs.map (fun r=>mkE thV r.ey) = MBn (Sh.agg thKs).enc l bs ∧ rs.map (·.born) = bs ∧ (∀ r ∈ rs,r.sv = .slice none 0 0) ∧ L = ((rs.map Rc.t).filter (ofKind kind)).map fK
 | [],L,[],[],e,_,_,_=>by
  cases e
  exact ⟨[],rfl,rfl,fun r h=>(by cases h),rfl⟩
 | [],_,[],_ :: _,_,h,_,_=>by simp at h
 | [],_,_ :: _,_,_,_,h,_=>by simp at h
 | _ :: _,_,[],_,_,_,h,_=>by simp at h
 | _ :: _,_,_ :: _,[],_,h,_,_=>by simp at h
 | e :: es,L,(kk,v) :: l,b :: bs,he,hlen,hkeys,hvr=>by
  simp only [List.map_cons,List.cons.injEq] at hkeys
  simp only [List.map_cons] at hvr
  cases hvr with
  | cons r1 r2 =>
  replace he:(Option.rec none (fun cs=>Option.rec none (fun l=>Bool.rec (some l) (some ((e.1,cs) :: l)) (headIs kind e.1)) (rowsE kind es)) (row1 e.1 e.2):Option (List (List Int × List CV))) = some L:=he
  cases h1:row1 e.1 e.2 with
  | none=>rw [h1] at he; cases he
  | some cs =>
  rw [h1] at he
  cases h2:rowsE kind es with
  | none=>rw [h2] at he; cases he
  | some L' =>
  rw [h2] at he
  replace he:(Bool.rec (some L') (some ((e.1,cs) :: L')) (headIs kind e.1):Option (List (List Int × List CV))) = some L:=he
  obtain ⟨rs,a1,a2,a3,a4⟩:=rowsE_ok kind (bs:=bs) h2 (by simpa using hlen) hkeys.2 r2
  obtain ⟨x,c1,c2,c3⟩:=row1_ok h1 r1
  have hk:kk.1 = keyL x:=hkeys.1.trans c1
  have henc:(Sh.agg thKs).enc kk = thV x.key:=by simp only [Sh.enc,hk,thKs,zipK,thV,keyL]
  refine ⟨⟨x.key,x.age,x.msg,.slice none 0 0,b⟩ :: rs,?_,by simp [a2],fun r hr=>?_,?_⟩
  ·simp only [List.map_cons,a1]
   simp [MBn,mkE,Rc.ey,henc,c2]
  ·rcases List.mem_cons.1 hr with rfl | hr
   ·rfl
   ·exact a3 r hr
  ·have hx:(⟨x.key,x.age,x.msg,.slice none 0 0,b⟩:Rc).t = x:=rfl
   have hh:headIs kind e.1 = ofKind kind x:=by
    rw [c1]
    show ieqb x.key.1.1 kind = (x.key.1.1 == kind)
    exact ieqb_eq _ _
   rw [hh] at he
   rw [List.map_cons,hx,List.filter_cons]
   cases ho:ofKind kind x with
   | true =>
    rw [ho] at he
    cases he
    simp only [if_true,List.map_cons,← a4]
    rw [c1,c3]; rfl
   | false =>
    rw [ho] at he
    cases he
    simp only [Bool.false_eq_true,if_false,← a4]
theorem flatK_map:∀ l:List AT,flatK (l.map fK) = (l.map rowC).flatten
 | []=>rfl
 | x :: r=>by
  show appR (rowC x) (flatK (r.map fK)) = _
  rw [appR_eq,flatK_map r,List.map_cons,List.flatten_cons]
theorem rowC_ok {β:Bk} (x:AT):VRs β (rowC x) (rowV x):=.cons (.i _ _) (.cons (.i _ _) (.cons (.i _ _) (.cons (.i _ _) (.cons (.i _ _) (.cons (.i _ _) (.cons (.i _ _) (.cons (.i _ _) (.cons (.i _ _) (.cons (.i _ _) (.cons (.i _ _) (.cons (.i _ _) (.cons (.i _ _) (.cons (.b _) (.cons .ns .nil))))))))))))))
theorem rowsC_ok {β:Bk}:∀ l:List AT,VRs β (l.map rowC).flatten (l.map rowV).flatten
 | []=>.nil
 | x :: r=>by
  rw [List.map_cons,List.flatten_cons,List.map_cons,List.flatten_cons]
  exact (rowC_ok x).append (rowsC_ok r)
theorem rowsC_one:∀ l:List AT,((l.map rowC).flatten).all CV.one = true
 | []=>rfl
 | x :: r=>by
  rw [List.map_cons,List.flatten_cons,List.all_append,rowsC_one r]; rfl
theorem allF_ok {N:Kn Tryz.prog} {mt:Nat} {f:Pos} (hf:f.nat - 1 = 67) (hs:N.sh mt = some (.agg thKs)) (hok:Ab.okCall Tryz.prog 67 = true) (hown:∀ m:MsgA,Ab.PureCall Tryz.prog 138 [.agg (encMx m)] (.agg (encMx m))):NFOk N f (allF mt 153):=by
 intro args H n ck v H' n' ck' e β h vs hr rv
 rw [hf]
 refine ⟨hok,?_⟩
 unfold allF at e
 split at e
 case h_2=>cases e
 rename_i id kind
 cases rv with
 | cons r1 rv =>
 cases rv with
 | cons r2 rv =>
 cases rv
 cases r2
 cases r1 with
 | p off hy =>
 rename_i y
 -- nothing is there
 have nothing:∀ (l:List AT) (r:Value) (h':Heap),l = [] → ((l = [] ∧ ∃ a k,r = .slice a 0 k ∧ (a = none → k = 0)) ∨ ∃ b c full,h b = none ∧ h' b = some (.cells full 153 (0,0)) ∧ r = .slice (some ⟨b,0,none⟩) l.length c ∧ l.length ≤ c ∧ c * 15 ≤ full.size ∧ full.toList.take (l.length * 15) = (l.map rowV).flatten) → VR β (.z none) r:=by
  rintro l r h' rfl (⟨_,a,k,rfl,hk⟩ | ⟨b,c,full,_,_,rfl,_⟩)
  ·exact .z (.inl rfl) (fun e=>⟨hk e,rfl⟩)
  ·exact .z (.inl rfl) (fun e=>by cases e)
 split at e
 ·rename_i st t hc
  cases e
  obtain ⟨us,tl,hb,hl,hv,h1⟩:=hr.cells hc hy
  cases hv with
  | cons c1 c2 =>
  cases c2
  cases c1
  refine (all_r (tl:=tl) (rs:=[]) (cl:=0) kind hb (.inl ⟨rfl,rfl⟩) (fun r hr=>by cases hr) hown List.nodup_nil (Nat.zero_le _) (Nat.zero_le _)).mono fun u h' ⟨e1,l,ans,e2⟩=>?_
  have hl0:l = []:=by simpa using ans.1
  exact aft_le hr e1 (nothing l u h' hl0 e2)
 ·rename_i st t mid hc
  split at e
  case h_2=>cases e
  rename_i st' t' fl cl es hc2
  cases htt:(Nat.beq t' mt && !leR 1000 es) with
  | false=>rw [htt] at e; cases e
  | true =>
  rw [htt] at e
  simp only [cond_true] at e
  simp only [Bool.and_eq_true,Bool.not_eq_true'] at htt
  obtain ⟨htt,hlr⟩:=htt
  split at e
  case h_2=>cases e
  rename_i L hL
  cases h13:leR 13 L with
  | true=>rw [h13] at e; cases e
  | false =>
  rw [h13] at e
  simp only [cond_false] at e
  have:=Nat.eq_of_beq_eq_true htt
  subst this
  obtain ⟨us,tl,hb,hl,hv,h1⟩:=hr.cells hc hy
  cases hv with
  | cons c1 c2 =>
  cases c2
  cases c1 with
  | m hx =>
  rename_i x
  obtain ⟨s',l,bs,hs',hb2,hbs,hfl,n1,hkk,hvv⟩:=hr.map hc2 hx
  rw [hs] at hs'
  cases hs'
  obtain ⟨rs,a1,a2,a3,a4⟩:=rowsE_ok kind hL hbs.len hkk hvv
  have him:=isMapN_of hb2 hbs n1 a1 a2
  have hlen:rs.length ≤ 1000000:=by
   have e1:rs.length = bs.length:=by rw [← a2,List.length_map]
   have e2:l.length = es.length:=by have:=congrArg List.length hkk; simpa using this
   have e3:¬ 1000 ≤ es.length:=fun h4=>by rw [leR_eq,Nat.ble_eq_true_of_le h4] at hlr; cases hlr
   rw [e1,hbs.len]; omega
  have nk:((rs.map Rc.t).map AT.key).Nodup:=by
   have:=him.2.2.2
   rw [List.map_map] at this ⊢
   exact this
  have h12:((rs.map Rc.t).filter (ofKind kind)).length ≤ 12:=by
   have e3:¬ 13 ≤ L.length:=fun h4=>by rw [leR_eq,Nat.ble_eq_true_of_le h4] at h13; cases h13
   rw [a4,List.length_map] at e3
   omega
  have hsort:=sortK_map ((rs.map Rc.t).filter (ofKind kind))
  rw [← a4] at hsort
  rw [hsort] at e
  refine (all_r (tl:=tl) (rs:=rs) (cl:=cl) kind hb (.inr ⟨_,rfl,him⟩) a3 hown (by rw [a2]; exact hbs.nd) hlen h12).mono fun u h' ⟨e1,l2,ans,e2⟩=>?_
  have hl2:=ans_sort nk ans
  rw [← hl2] at e
  split at e
  ·rename_i hnil
   cases e
   exact aft_le hr e1 (nothing l2 u h' (List.map_eq_nil_iff.1 hnil) e2)
  ·rename_i x0 r0 hcons
   cases e
   rw [← hcons,flatK_map,lenR_eq,List.length_map]
   rcases e2 with ⟨e3,_⟩ | ⟨b,c,full,f1,f2,rfl,f3,f4,f5⟩
   ·rw [e3] at hcons; cases hcons
   ·have hfull:full = ((l2.map rowV).flatten ++ full.toList.drop (l2.length * 15)).toArray:=by
     have:full.toList = (l2.map rowV).flatten ++ full.toList.drop (l2.length * 15):=by
      rw [← f5]; exact (List.take_append_drop _ _).symm
     rw [← this]
    refine Ce.Aft.le hr (aft_new hr (ob:=.cells full 153 (0,0)) (len:=full.size) f1 (Nat.le_refl _) (.cells (tl:=full.toList.drop (l2.length * 15)) ?_ ?_ (rowsC_ok l2) (rowsC_one l2)) (.sl (Bk.put_same _ _ _) f3 (by show 0 + c * 15 ≤ full.size; omega) (.inl rfl))) fun q o e6=>?_
    ·rw [Heap.set_same,← hfull]
    ·show ((l2.map rowV).flatten ++ full.toList.drop (l2.length * 15)).length = full.size
     have:=congrArg Array.size hfull
     simpa using this.symm
    ·by_cases hq:q = b
     ·subst hq; rw [Heap.set_same] at e6; cases e6; exact f2
     ·rw [Heap.set_other _ _ hq] at e6; exact e1 q o e6
 ·cases e
end Go.Proofs.YtihdpjinaafenaaGreatDoor

/- The natives of the table of what was heard: Tick, All. -/
set_option maxRecDepth 100000
namespace Go.Proofs.YtihdpjinaafenaaGreatDoor
open Sl Ce
def ownP:Pos:=pos 138
def isOwn:Ao → Bool
 | .ok (.agg [.xi 0,.xi 1,.xi 2,.xi 3,.xi 4,.xi 5,.xi 6,.xi 7,.ns]) _ _ _=>true
 | _=>false
theorem own_e:isOwn ((evF 1000 om0 tab 20).c ownP [.agg [.xi 0,.xi 1,.xi 2,.xi 3,.xi 4,.xi 5,.xi 6,.xi 7,.ns]] ch0 i0 0) = true:=by kernel_rfl
theorem mixed_p:Tryz.prog.follows .mixedOrders = true:=by kernel_rfl
theorem own_n (m:MsgA):Ab.PureCall Tryz.prog 138 [.agg (encMx m)] (.agg (encMx m)):=by
 intro h vs r
 obtain ⟨v,vs,rfl,r1,r⟩:=r.uncons
 have:vs = []:=List.length_eq_zero_iff.1 r.1
 subst this
 obtain ⟨us,rfl,r2⟩:=Ab.frep_agg r1
 have e1:encMx m = [Value.int .i64 m.kind,.int .u32 m.frm,.int .u32 m.to,.int .u32 m.src,.int .u32 m.grp,.int .i64 m.rank,.int .i64 m.cost,.bool m.only,.slice none 0 0].map .val:=rfl
 have hus:=freps_val (e1 ▸ r2)
 subst hus
 generalize hc:(evF 1000 om0 tab 20).c ownP [.agg [.xi 0,.xi 1,.xi 2,.xi 3,.xi 4,.xi 5,.xi 6,.xi 7,.ns]] ch0 i0 0 = a
 have e:=own_e
 rw [hc] at e
 unfold isOwn at e
 split at e
 case h_2=>cases e
 rename_i H k ck
 let ξ:Nat → Value:=fun j=>[Value.int .i64 m.kind,.int .u32 m.frm,.int .u32 m.to,.int .u32 m.src,.int .u32 m.grp,.int .i64 m.rank,.int .i64 m.cost,.bool m.only].getD j undef
 have rv:VRs ⟨fun _=>none,(kn ξ).ξ⟩ [.agg [.xi 0,.xi 1,.xi 2,.xi 3,.xi 4,.xi 5,.xi 6,.xi 7,.ns]] [.agg [Value.int .i64 m.kind,.int .u32 m.frm,.int .u32 m.to,.int .u32 m.src,.int .u32 m.grp,.int .i64 m.rank,.int .i64 m.cost,.bool m.only,.slice none 0 0].toArray] :=
  .cons (.agg rfl (.cons (.xi (β:=⟨fun _=>none,ξ⟩) 0 rfl) (.cons (.xi (β:=⟨fun _=>none,ξ⟩) 1 rfl) (.cons (.xi (β:=⟨fun _=>none,ξ⟩) 2 rfl) (.cons (.xi (β:=⟨fun _=>none,ξ⟩) 3 rfl) (.cons (.xi (β:=⟨fun _=>none,ξ⟩) 4 rfl) (.cons (.xi (β:=⟨fun _=>none,ξ⟩) 5 rfl) (.cons (.xi (β:=⟨fun _=>none,ξ⟩) 6 rfl) (.cons (.xi (β:=⟨fun _=>none,ξ⟩) 7 rfl) (.cons .ns .nil)))))))))) .nil
 have c:=((evF_ok mixed_p om0_ok (tab_fit ξ) 1000 20).1 _ _ _ _ _ _ _ (fun _=>none) _ _ _ _ hc (HR.empty _) rv).2
 rw [show ownP.nat - 1 = 138 from by simp [ownP,pos_nat]] at c
 refine (calls_pure c h).mono ?_
 rintro r h' ⟨hle,h1,⟨⟨β,_,hr,hv⟩,_,_⟩⟩
 refine ⟨hle,?_⟩
 have hx:β.x = ξ:=hr.xs
 cases hv with
 | agg h1' hv =>
 rename_i us
 have:us = [Value.int .i64 m.kind,.int .u32 m.frm,.int .u32 m.to,.int .u32 m.src,.int .u32 m.grp,.int .i64 m.rank,.int .i64 m.cost,.bool m.only,.slice none 0 0]:=by
  cases hv with | cons a hv =>
  cases hv with | cons b hv =>
  cases hv with | cons c hv =>
  cases hv with | cons d hv =>
  cases hv with | cons e hv =>
  cases hv with | cons f hv =>
  cases hv with | cons g hv =>
  cases hv with | cons i hv =>
  cases hv with | cons j hv =>
  cases hv
  cases a; cases b; cases c; cases d; cases e; cases f; cases g; cases i; cases j
  rw [hx]; rfl
 subst this
 rw [e1]
 exact .agg (by simp) (fun j c v a b=>by
  rw [List.getElem?_map,b] at a
  cases a; exact .val v)
def ageN:List (Pos × NF):=[(pos 70,tickF 136),(pos 67,allF 136 153)]
theorem ageN_ok (ξ:Nat → Value) {gl:Nat → Option Ce.Id}:∀ e ∈ ageN,NFOk (knG gl ξ) e.1 e.2:=by
 intro e he
 simp only [ageN,List.mem_cons,List.not_mem_nil,or_false] at he
 rcases he with rfl | rfl
 ·exact tickF_ok (by simp [pos_nat]) rfl kR
 ·exact allF_ok (by simp [pos_nat]) rfl kR own_n
end Go.Proofs.YtihdpjinaafenaaGreatDoor

/- slices.Delete of a queue's items. -/
namespace Go.Proofs.YtihdpjinaafenaaGreatDoor
open Sl
section
variable {P : Program} {o : Oper} {ρ : Operand → Value} {h : Heap} {K : Value → Heap → Prop}
theorem s_append_room {t tx e e':TypeId} {x y:Operand} {sz n m c b:Nat} {u:Value} {news:List Value} {full:Array Value}
  (ho:o.op = .call ⟨.builtin .append,#[x,y],#[t,tx]⟩) (ht:P.underlying t = some (.slice e)) (htx:P.underlying tx = some (.slice e')) (hi:infoOk P e sz = true)
  (hx:ρ x = .slice (some ⟨b,0,none⟩) n c) (hy:ρ y = u) (hb:h b = some (.cells full e (0,0))) (src:Cells h sz u m news) (h1:∀ u ∈ news,u.oneCell' = true) (hroom:n + m ≤ c) (hcap:c * sz ≤ full.size)
  (k:K (.slice (some ⟨b,0,none⟩) (n + m) c) (h.set b (.cells (full.toList.take (n * sz) ++ news ++ full.toList.drop (n * sz + news.length)).toArray e (0,0)))):SOp P o ρ h K:=by
 intro w r
 obtain ⟨i,z,hii,hz,hsz,hz1,hby⟩:=infoOk_spec hi
 subst hsz
 have hsrc:=src.src r h1 htx
 have hnl:=src.len
 have hle:(n + m) * i.size ≤ c * i.size:=Nat.mul_le_mul_right _ hroom
 by_cases hm:m = 0
 ·subst hm
  have hn0:news = []:=List.eq_nil_of_length_eq_zero (by rw [hnl]; simp)
  subst hn0
  have hrun:=run_append_nothing w t tx o.type e i ht hii (some ⟨b,0,none⟩) n c hroom u hsrc
  have hexec:(execOp ρ o).run P w = .ok (.value (.slice (some ⟨b,0,none⟩) n c)) w:=by
   simp only [execOp,ho,resolve,Sem.run_bind,Sem.run_pure,Result.andThen_ok,invoke,builtin]
   simp [hx,hy,hrun]
  have hfull:(full.toList.take (n * i.size) ++ [] ++ full.toList.drop (n * i.size + ([]:List Value).length)).toArray = full:=by simp
  rw [hfull] at k
  refine .inl ⟨_,_,_,.inl hexec,k,fun q o' e1=>?_,⟨rfl,rfl,rfl,Nat.le_refl _,fun _ _ _=>rfl,fun q e1 e2=>?_⟩⟩
  ·by_cases hq:q = b
   ·subst hq; rw [Heap.set_same] at e1; cases e1; exact r _ _ hb
   ·rw [Heap.set_other _ _ hq] at e1; exact r _ _ e1
  ·by_cases hq:q = b
   ·rw [hq,hb] at e1; cases e1
   ·rw [Heap.set_other _ _ hq] at e2; exact absurd e1 e2
 rw [Nat.add_mul] at hle
 have hst:=run_storeCells_at (P:=P) b (0 + n * i.size) e news 0 full w (r b _ hb) (by rw [hnl]; omega) hsrc.one
 have ha:(Addr.mk b 0 none).add (n * i.size) = ⟨b,0 + n * i.size,none⟩:=by unfold Addr.add; split <;> simp_all
 simp only [Nat.add_zero,Nat.zero_add] at hst ha
 have hrun:(Builtin.append_ #[t,tx] o.type #[.slice (some ⟨b,0,none⟩) n c,u]).run P w = .ok (.slice (some ⟨b,0,none⟩) (n + m) c) (w.setRow b (full.toList.take (n * i.size) ++ news ++ full.toList.drop (n * i.size + news.length)).toArray):=by
  simp [Builtin.append_,run_underlying ht,run_underlying htx,sizeOf,typeInfo,hii,hsrc.len,hsrc.cells,hroom,ha,hst]
 have hexec:(execOp ρ o).run P w = .ok (.value (.slice (some ⟨b,0,none⟩) (n + m) c)) (w.setRow b (full.toList.take (n * i.size) ++ news ++ full.toList.drop (n * i.size + news.length)).toArray):=by
  simp only [execOp,ho,resolve,Sem.run_bind,Sem.run_pure,Result.andThen_ok,invoke,builtin]
  simp [hx,hy,hrun]
 exact .inl ⟨_,_,_,.inl hexec,k,r.setRow hb,Step.setRow r hb⟩
theorem p_slice3 {t e:TypeId} {x lo hi mx:Operand} {a:Addr} {n c l k m sz:Nat} {kl kh km:IntKind} (hop:o.op = .slice t x (some lo) (some hi) (some mx)) (hu:P.underlying t = some (.slice e)) (he:(P.info? e).isSome = true) (hs:P.cellsOf e = sz) (hx:ρ x = .slice (some a) n c)
  (hl:ρ lo = .int kl l) (hh:ρ hi = .int kh k) (hm:ρ mx = .int km m) (h1:l ≤ k) (h2:k ≤ m) (h3:m ≤ c):PureOp P o ρ (.slice (if m = l then some a else some (a.add (l * sz))) (k - l) (m - l)):=by
 intro w
 subst hs
 have hb:∀ y:Nat,∀ kk:IntKind,∀ m:Nat,∀ bc:BoundsCode,y ≤ m → (Instr.sliceBound (.int kk (y:Int)) m bc).run P w = .ok y w:=fun y kk m bc hm=>by
  have:(0:Int) ≤ (y:Int) ∧ (y:Int) ≤ (m:Int):=by omega
  simp [Instr.sliceBound,asIntOf,this] <;> omega
 have hbs:(Instr.sliceBounds true n c (some (ρ lo)) (some (ρ hi)) (some (ρ mx))).run P w = .ok (l,k,m) w:=by
  simp [Instr.sliceBounds,hl,hh,hm,hb m km c _ h3,hb k kh m _ h2,hb l kl k _ h1]
 simp only [execOp,hop,Instr.sliceAt,Sem.run_bind,run_underlying hu,Result.andThen_ok,Instr.slice,hx,Option.map_some,hbs,run_cellsOf _ _ he,Sem.run_pure]
theorem p_slice2 {t e:TypeId} {x lo hi:Operand} {b n c l k sz:Nat} {kl kh:IntKind} (hop:o.op = .slice t x (some lo) (some hi) none) (hu:P.underlying t = some (.slice e)) (he:(P.info? e).isSome = true) (hs:P.cellsOf e = sz) (hx:ρ x = .slice (some ⟨b,0,none⟩) n c)
  (hl:ρ lo = .int kl l) (hh:ρ hi = .int kh k) (h1:l < k) (h2:k ≤ c):PureOp P o ρ (.slice (some ⟨b,l * sz,none⟩) (k - l) (c - l)):=by
 intro w
 subst hs
 have hb:∀ y:Nat,∀ kk:IntKind,∀ m:Nat,∀ bc:BoundsCode,y ≤ m → (Instr.sliceBound (.int kk (y:Int)) m bc).run P w = .ok y w:=fun y kk m bc hm=>by
  have:(0:Int) ≤ (y:Int) ∧ (y:Int) ≤ (m:Int):=by omega
  simp [Instr.sliceBound,asIntOf,this] <;> omega
 have hbs:(Instr.sliceBounds true n c (some (ρ lo)) (some (ρ hi)) none).run P w = .ok (l,k,c) w:=by
  simp [Instr.sliceBounds,hl,hh,hb k kh c _ h2,hb l kl k _ (Nat.le_of_lt h1)]
 have hne:¬ c = l:=by omega
 have ha:(Addr.mk b 0 none).add (l * P.cellsOf e) = ⟨b,l * P.cellsOf e,none⟩:=by unfold Addr.add; split <;> simp_all
 simp only [execOp,hop,Instr.sliceAt,Sem.run_bind,run_underlying hu,Result.andThen_ok,Instr.slice,hx,Option.map_some,Option.map_none,hbs,run_cellsOf _ _ he,Sem.run_pure,if_neg hne,ha]
theorem s_clear {t e e':TypeId} {x:Operand} {sz m k b off:Nat} {full:Array Value} (ho:o.op = .call ⟨.builtin .clear,#[x],#[t]⟩) (ht:P.underlying t = some (.slice e)) (hi:infoOk P e sz = true) (hz1:∀ i z,P.info? e = some i → i.zero = some z → ∀ u ∈ z.cells.toList,u.oneCell' = true)
  (hx:ρ x = .slice (some ⟨b,off,none⟩) m k) (hb:h b = some (.cells full e' (0,0))) (hfit:off + m * sz ≤ full.size) (hm:m ≠ 0)
  (kk:∀ zs:List Value,zs.length = m * sz → K (.tuple #[]) (h.set b (.cells (full.toList.take off ++ zs ++ full.toList.drop (off + m * sz)).toArray e' (0,0)))):SOp P o ρ h K:=by
 intro w r
 obtain ⟨i,z,hii,hz,hsz,hzs,hby⟩:=infoOk_spec hi
 subst hsz
 have hzl:(Builtin.zeroCells z.cells m).toList.length = m * i.size:=by rw [Array.length_toList,size_zeroCells,hzs]
 have hone:∀ u ∈ (Builtin.zeroCells z.cells m).toList,u.oneCell' = true:=by
  intro u hu
  have h1:=hz1 i z hii hz
  rw [Builtin.zeroCells,Array.toList_map,List.mem_map] at hu
  obtain ⟨j,hj,rfl⟩:=hu
  have hpos:0 < z.cells.size:=by
   rcases Nat.eq_zero_or_pos z.cells.size with h0 | h0
   ·rw [h0,Nat.mul_zero] at hj; simp at hj
   ·exact h0
  have hlt:j % z.cells.size < z.cells.size:=Nat.mod_lt _ hpos
  refine h1 _ ?_
  rw [getElem!_pos z.cells _ hlt]
  exact Array.getElem_mem_toList hlt
 have hst:=run_storeCells_at (P:=P) b off e' (Builtin.zeroCells z.cells m).toList 0 full w (r b _ hb) (by rw [hzl]; exact hfit) hone
 simp only [Nat.add_zero] at hst
 rw [hzl] at hst
 have hrun:(Builtin.clear_ #[t] o.type #[.slice (some ⟨b,off,none⟩) m k]).run P w = .ok (.tuple #[]) (w.setRow b (full.toList.take off ++ (Builtin.zeroCells z.cells m).toList ++ full.toList.drop (off + m * i.size)).toArray):=by
  obtain ⟨m',rfl⟩:∃ m',m = m' + 1:=⟨m - 1,by omega⟩
  simp [Builtin.clear_,run_underlying ht,zeroValue,typeInfo,program,Sem.run,hii,hz,hst]
 have hexec:(execOp ρ o).run P w = .ok (.value (.tuple #[])) (w.setRow b (full.toList.take off ++ (Builtin.zeroCells z.cells m).toList ++ full.toList.drop (off + m * i.size)).toArray):=by
  simp only [execOp,ho,resolve,Sem.run_bind,Sem.run_pure,Result.andThen_ok,invoke,builtin]
  simp [hx,hrun]
 exact .inl ⟨_,_,_,.inl hexec,kk _ hzl,r.setRow hb,Step.setRow r hb⟩
end
theorem del_ok {h:Heap} {b n c i j:Nat} {full:Array Value} (hb:h b = some (.cells full 278 (0,0))) (hnc:n ≤ c) (hcap:c * 2 ≤ full.size) (hij:i < j) (hjn:j ≤ n) (few:n ≤ 1000000) (h1:∀ u ∈ full.toList.take (n * 2),u.oneCell' = true) :
  SCalls Tryz.prog 238 #[.slice (some ⟨b,0,none⟩) n c,.int .i64 i,.int .i64 j] h (fun v h'=>v = .slice (some ⟨b,0,none⟩) (n - (j - i)) c ∧ (∀ k o,k ≠ b → h k = some o → h' k = some o) ∧ ∃ full',h' b = some (.cells full' 278 (0,0)) ∧ full'.size = full.size ∧ full'.toList.take ((n - (j - i)) * 2) = full.toList.take (i * 2) ++ (full.toList.take (n * 2)).drop (j * 2)):=by
 refine s_enter Tryz.func238 rfl (by rw [Tryz.ntmps238]; simp) ?_
 rw [Tryz.ntmps238]
 generalize hT:T0 #[.slice (some ⟨b,0,none⟩) n c,.int .i64 i,.int .i64 j] = T
 have h0:T 0 = .slice (some ⟨b,0,none⟩) n c:=by rw [← hT]; rfl
 have hi:T 1 = .int .i64 i:=by rw [← hT]; rfl
 have hj:T 2 = .int .i64 j:=by rw [← hT]; rfl
 clear hT
 have hne:((i:Int) == (j:Int)) = false:=by rw [beq_eq_false_iff_ne]; omega
 have hi0:(i:Int) = ((i:Nat):Int):=rfl
 repeat refine s_seq ?_
 refine s_region ?_
 refine w_pv rfl dC (want_none rfl) (p_val evA) ?_
 refine w_nil ?_
 repeat refine s_seq ?_
 refine s_region ?_
 refine w_pv rfl dC (want_none rfl) (p_val evA) ?_
 refine w_pv rfl dC (want_none rfl) (p_val evA) ?_
 refine w_pv rfl dC (want_none rfl) (p_val evA) ?_
 refine w_pv rfl dC (want_none rfl) (p_val evA) ?_
 refine w_rd rfl dC (want_none rfl) (r_len_slice rfl Tryz.underlying193 evA) ?_
 refine w_pv rfl dC (want_none rfl) (p_slice3 (l:=i) (k:=j) (m:=n) (sz:=2) rfl Tryz.underlying193 kR kR evA evA evA evA (by omega) hjn hnc) ?_
 refine w_nil ?_
 repeat refine s_seq ?_
 refine s_region ?_
 refine w_pv rfl dC (want_none rfl) (p_val evA) ?_
 refine w_pv rfl dC (want_none rfl) (p_val evA) ?_
 refine w_pv rfl dC (want_none rfl) (p_val evA) ?_
 refine w_nil ?_
 repeat refine s_seq ?_
 refine s_cond (t:=false) slA ?_
 repeat refine s_seq ?_
 refine s_skip ?_
 repeat refine s_seq ?_
 refine s_region ?_
 refine w_pv rfl dC (want_none rfl) (p_val evA) ?_
 refine w_rd rfl dC (want_none rfl) (r_len_slice rfl Tryz.underlying193 evA) ?_
 refine w_pv rfl dC (want_none rfl) (p_val evA) ?_
 refine w_nil ?_
 have hm2:n - j + (i + 0) ≤ n:=by omega
 obtain ⟨a2,hsl⟩:∃ a2:Nat,(if c = j then 0 else 0 + j * 2) = a2 ∧ Cells h 2 (.slice (some ⟨b,a2,none⟩) (n - j) (c - j)) (n - j) ((full.toList.take (n * 2)).drop (j * 2)):=by
  by_cases hj0:j = n
  ·subst hj0
   refine ⟨_,rfl,?_⟩
   have:(full.toList.take (j * 2)).drop (j * 2) = []:=by rw [List.drop_eq_nil_iff]; simp; omega
   rw [this,Nat.sub_self]
   exact .zero _ _
  ·have hcj:¬ c = j:=by omega
   refine ⟨j * 2,by rw [if_neg hcj]; omega,.at_ hb ?_ (by omega) ?_⟩
   ·simp only [List.length_drop,List.length_take,Array.length_toList]; omega
   ·rw [List.drop_take]
    congr 1; omega
 obtain ⟨ha2,hsrc⟩:=hsl
 have hnews1:∀ u ∈ (full.toList.take (n * 2)).drop (j * 2),u.oneCell' = true:=fun u hu=>h1 u (List.mem_of_mem_drop hu)
 have hnl:=hsrc.len
 generalize (full.toList.take (n * 2)).drop (j * 2) = news at hsrc hnews1 hnl ⊢
 repeat refine s_seq ?_
 refine s_draw [(0,true),(1,true),(2,true),(3,true),(4,true),(5,true),(6,true),(7,true)] [] [6] rfl kR kR ?_
 refine d_pv rfl rfl dC rfl rfl (want_none rfl) (p_val evA) ?_
 refine d_pv rfl rfl dC rfl rfl (want_none rfl) (p_val evA) ?_
 refine d_pv rfl rfl dC rfl rfl (want_none rfl) (p_slice_hi (j:=i) rfl Tryz.underlying193 kR evA evA (by omega)) ?_
 refine d_pv rfl rfl dC rfl rfl (want_none rfl) (p_val evA) ?_
 refine d_pv rfl rfl dC rfl rfl (want_none rfl) (p_val evA) ?_
 refine d_pv rfl rfl dC rfl rfl (want_none rfl) (p_slice_lo (j:=j) (sz:=2) rfl Tryz.underlying193 kR kR evA evA hjn) ?_
 refine d_lac rfl rfl dC (by decide) rfl (want_none rfl) (s_append_room (sz:=2) (n:=i) (m:=n - j) rfl Tryz.underlying193 Tryz.underlying193 kR evA evA hb hsrc hnews1 (by omega) hcap ?_)
 refine d_pv rfl rfl dC rfl rfl (want_none rfl) (p_val evA) ?_
 refine d_nil ?_
 have hlen2:(i:Nat) + (n - j) = n - (j - i):=by omega
 rw [hlen2]
 have hwl:((n - (j - i):Nat):Int) = ((n - (j - i):Nat):Int):=rfl
 refine genH fun h2 hh=>?_
 have hb2:h2 b = some (.cells (full.toList.take (i * 2) ++ news ++ full.toList.drop (i * 2 + news.length)).toArray 278 (0,0)):=by rw [hh]; exact Heap.set_same _ _ _
 have hk2:∀ k o,k ≠ b → h k = some o → h2 k = some o:=fun k o hk e=>by rw [hh,Heap.set_other _ _ hk]; exact e
 clear hh
 have hsz:(full.toList.take (i * 2) ++ news ++ full.toList.drop (i * 2 + news.length)).length = full.size:=by
  simp only [List.length_append,List.length_take,List.length_drop,Array.length_toList,hnl]; omega
 have hpre:(full.toList.take (i * 2) ++ news ++ full.toList.drop (i * 2 + news.length)).take ((n - (j - i)) * 2) = full.toList.take (i * 2) ++ news:=by
  have:(full.toList.take (i * 2) ++ news).length = (n - (j - i)) * 2:=by
   simp only [List.length_append,List.length_take,Array.length_toList,hnl]; omega
  rw [← this]
  exact List.take_left
 generalize full.toList.take (i * 2) ++ news ++ full.toList.drop (i * 2 + news.length) = L at hb2 hsz hpre
 have hz1:∀ i z,Tryz.prog.info? 278 = some i → i.zero = some z → ∀ u ∈ z.cells.toList,u.oneCell' = true:=fun i z h1 h2=>by
  have hzz:(Tryz.prog.info? 278).bind (·.zero) = some (.agg #[.int .i64 0,.slice none 0 0]):=by kernel_rfl
  rw [h1] at hzz
  simp only [Option.bind_some,h2,Option.some.injEq] at hzz
  subst hzz
  intro u hu
  simp only [Value.cells,List.mem_cons,List.not_mem_nil,or_false] at hu
  rcases hu with rfl | rfl <;> rfl
 repeat refine s_seq ?_
 refine s_region ?_
 refine w_pv rfl dC (want_none rfl) (p_val evA) ?_
 refine w_pv rfl dC (want_none rfl) (p_val evA) ?_
 refine w_rd rfl dC (want_none rfl) (r_len_slice rfl Tryz.underlying193 evA) ?_
 refine w_pv rfl dC (want_none rfl) (p_val evA) ?_
 refine w_pv rfl dC (want_none rfl) (p_slice2 (l:=n - (j - i)) (k:=n) (sz:=2) rfl Tryz.underlying193 kR kR evA evA evA (by omega) hnc) ?_
 refine w_st rfl (want_none rfl) (s_clear (sz:=2) (m:=n - (n - (j - i))) rfl Tryz.underlying193 kR hz1 evA hb2 (by simp only [List.size_toArray,hsz]; omega) (by omega) ?_); intro zs hzs
 refine w_nil ?_
 repeat refine s_seq ?_
 refine s_region ?_
 refine w_pv rfl dC (want_none rfl) (p_val evA) ?_
 refine w_pv rfl dC (want_none rfl) (p_val evA) ?_
 refine w_nil ?_
 have htk:∀ zs:List Value,(L.take ((n - (j - i)) * 2) ++ zs).take ((n - (j - i)) * 2) = L.take ((n - (j - i)) * 2):=fun zs=>by
  have:(L.take ((n - (j - i)) * 2)).length = (n - (j - i)) * 2:=by rw [List.length_take]; omega
  exact List.take_left' this
 refine s_ret ⟨_,res_one rfl rfl,slA,fun k o hk e=>?_,_,Heap.set_same _ _ _,?_,?_⟩
 ·rw [Heap.set_other _ _ hk]; exact hk2 k o hk e
 ·simp only [List.size_toArray,List.length_append,List.length_take,List.length_drop,hzs]; omega
 ·show ((L.take ((n - (j - i)) * 2) ++ zs ++ L.drop ((n - (j - i)) * 2 + (n - (n - (j - i))) * 2)).take ((n - (j - i)) * 2)) = _
  rw [List.append_assoc,htk,hpre]
end Go.Proofs.YtihdpjinaafenaaGreatDoor

/- A native: slices.Delete of a queue's items. -/
namespace Go.Proofs.YtihdpjinaafenaaGreatDoor
open Sl Ce
def delF (et:Nat):NF:=fun args H n ck=>match args with
 | [.sl id 0 m 2 c,.i .i64 (.ofNat i),.i .i64 (.ofNat j)]=>match hget id H with
  | .cells _ t cs=>bif Nat.beq t et && (leR (m * 2) cs && (Nat.blt i j && (Nat.ble j m && Nat.ble m 1000000))) then some (.ok (.sl id 0 (m - (j - i)) 2 c) (hset id (.cells (ck + 1) t (appR (takeR cs (i * 2)) (dropR (takeR cs (m * 2)) (j * 2)))) H) n (ck + 1)) else none
  | _=>none
 | _=>none
theorem delF_ok {N:Kn Tryz.prog} {f:Pos} (hf:f.nat - 1 = 238) (hok:Ab.okCall Tryz.prog 238 = true):NFOk N f (delF 278):=by
 intro args H n ck v H' n' ck' e β h vs hr rv
 rw [hf]
 refine ⟨hok,?_⟩
 unfold delF at e
 split at e
 case h_2=>cases e
 rename_i id m c i j
 split at e
 case h_2=>cases e
 rename_i st t cs hc
 simp only [leR_eq,takeR_eq,dropR_eq,appR_eq] at e
 cases hb:(Nat.beq t 278 && (Nat.ble (m * 2) cs.length && (Nat.blt i j && (Nat.ble j m && Nat.ble m 1000000)))) with
 | false=>rw [hb] at e; cases e
 | true =>
 rw [hb] at e
 simp only [cond_true,Option.some.injEq,Ao.ok.injEq] at e
 obtain ⟨e1,e2,e3,e4⟩:=e
 subst e1; subst e2; subst e3; subst e4
 simp only [Bool.and_eq_true,Nat.beq_eq,Nat.ble_eq] at hb
 obtain ⟨ht,hle,hij,hjm,hm⟩:=hb
 have hij:i < j:=Nat.le_of_ble_eq_true hij
 subst ht
 cases rv with
 | cons r1 rv =>
 cases rv with
 | cons r2 rv =>
 cases rv with
 | cons r3 rv =>
 cases rv
 cases r2
 cases r3
 cases r1 with
 | sl hy hn hcc he =>
 rename_i y k
 obtain ⟨us,tl,hb,hl,hv,h1⟩:=hr.cells hc hy
 have hvl:=hv.len
 have hone:=hv.one h1
 have htake:((us ++ tl).toArray).toList.take (m * 2) = us.take (m * 2):=by
  show (us ++ tl).take (m * 2) = _
  exact List.take_append_of_le_length (by omega)
 refine (del_ok (full:=(us ++ tl).toArray) hb hn (by simp only [List.size_toArray,hl]; omega) hij hjm hm (fun u hu=>?_)).mono fun u h' ⟨e1,e2,full',e3,e4,e5⟩=>?_
 ·rw [htake] at hu
  exact hone u (List.mem_of_mem_take hu)
 ·rw [htake] at e5
  have htake2:((us ++ tl).toArray).toList.take (i * 2) = us.take (i * 2):=by
   show (us ++ tl).take (i * 2) = _
   exact List.take_append_of_le_length (by omega)
  rw [htake2] at e5
  have hfull:full' = ((us.take (i * 2) ++ (us.take (m * 2)).drop (j * 2)) ++ full'.toList.drop ((m - (j - i)) * 2)).toArray:=by
   rw [← e5,List.take_append_drop]
  have hva:VR β (.sl id 0 (m - (j - i)) 2 c) u:=by
   rw [e1]
   exact .sl hy (by omega) hcc he
  have ha:=all_sub (l:=cs) (a:=0) (b:=i * 2) h1
  rw [List.drop_zero] at ha
  have hb':((cs.take (m * 2)).drop (j * 2)).all CV.one = true:=by
   rw [List.all_eq_true] at h1 ⊢
   exact fun x hx=>h1 x (List.mem_of_mem_take (List.mem_of_mem_drop hx))
  refine Ce.Aft.le hr (aft_turn (ob:=.cells full' 278 (0,0)) hr hy (live_cells hc) rfl (.cells (tl:=full'.toList.drop ((m - (j - i)) * 2)) ?_ ?_ ((hv.take (i * 2)).append ((hv.take (m * 2)).drop (j * 2))) (by rw [List.all_append,ha,hb']; rfl)) hva) fun q o e6=>?_
  ·rw [Heap.set_same,← hfull]
  ·have:=congrArg Array.size hfull
   rw [e4] at this
   simp only [List.size_toArray] at this
   rw [← this,hl]
  ·by_cases hq:q = y.b
   ·subst hq; rw [Heap.set_same] at e6; cases e6; exact e3
   ·rw [Heap.set_other _ _ hq] at e6; exact e2 q o hq e6
end Go.Proofs.YtihdpjinaafenaaGreatDoor

/- The natives of networks: Tick, All, Delete of a queue. -/
namespace Go.Proofs.YtihdpjinaafenaaGreatDoor
open Sl Ce
def netN:List (Pos × NF):=(pos 238,delF 278) :: ageN
theorem netN_ok (ξ:Nat → Value) {gl:Nat → Option Ce.Id}:∀ e ∈ netN,NFOk (knG gl ξ) e.1 e.2:=by
 intro e he
 rcases List.mem_cons.1 he with rfl | he
 ·exact delF_ok (by simp [pos_nat]) kR
 ·exact ageN_ok ξ e he
end Go.Proofs.YtihdpjinaafenaaGreatDoor

/- NetBad: the evaluation of one case. -/
set_option maxRecDepth 1000000
namespace Go.Proofs.YtihdpjinaafenaaGreatDoor
open Sl Ce
def netBadNum:Pos:=pos 13
def netBadFir:Pos:=pos 38
def netBadH (τ:Nat → Nat):CH:=(hset i0.succ.succ.succ.succ.succ (.cells 0 (τ 15) [.ifc 443 (.xi 15)]) (hset i0.succ.succ.succ.succ (.cells 0 (τ 14) [.ifc 443 (.xi 14)]) (hset i0.succ.succ.succ (.cells 0 (τ 13) [.ifc 443 (.xi 13)]) (hset i0.succ.succ (.cells 0 (τ 12) [.ifc 443 (.xi 12)]) (hset i0.succ (.cells 0 (τ 11) [.ifc 443 (.xi 11)]) (hset i0 (.cells 0 (τ 10) [.ifc 443 (.xi 10)]) ch0))))))
def netBadAt (τ:Nat → Nat) (r0:Nat) (r1:Nat):Bool:=isTrueG gs1 ((evF 1000000 (omX netBadNum [netBadFir] [(0,4,r0),(1,80,r1)] netN) tabG 1000).c (pos 11) [.xi 0,.xi 1,.b false] (netBadH τ) i0.succ.succ.succ.succ.succ.succ 0)
def netBadAll (τ:Nat → Nat) (r0:Nat) (l:List Nat):Bool:=List.rec true (fun r1 _ ih=>Bool.rec false ih (netBadAt τ r0 r1)) l
theorem netBadAll_at {τ:Nat → Nat} {r0 r1:Nat}:∀ {l:List Nat},netBadAll τ r0 l = true → r1 ∈ l → netBadAt τ r0 r1 = true
 | a :: l,h,hm=>by
  replace h:(Bool.rec false (netBadAll τ r0 l) (netBadAt τ r0 a):Bool) = true:=h
  cases ha:netBadAt τ r0 a with
  | false=>rw [ha] at h; cases h
  | true =>
   rw [ha] at h
   rcases List.mem_cons.1 hm with rfl | hm
   ·exact ha
   ·exact netBadAll_at h hm
def netBadLo (τ:Nat → Nat) (r0:Nat):Bool:=isTrueG gs1 ((evF 1000000 (omX netBadNum [netBadFir] [(0,4,r0)] netN) tabG 1000).c (pos 11) [.xi 0,.xi 1,.b true] (netBadH τ) i0.succ.succ.succ.succ.succ.succ 0)
end Go.Proofs.YtihdpjinaafenaaGreatDoor
