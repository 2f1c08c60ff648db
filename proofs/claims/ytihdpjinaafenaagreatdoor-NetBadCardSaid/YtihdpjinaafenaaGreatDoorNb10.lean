import Derived.Test.YtihdpjinaafenaaGreatDoorNb9
noncomputable section
/- What acts: what it comes to. -/
set_option linter.unusedVariables false
set_option linter.unusedSimpArgs false
namespace Go.Proofs.YtihdpjinaafenaaGreatDoor.Ce
open Go.Proofs.YtihdpjinaafenaaGreatDoor.Sl
open Ab (isOne isMany isSl isArr isIntT isStr zeroIs okCall)
inductive Ao where
 | no | ok (v:CV) (H:CH) (n:Id) (ck:Nat)
structure Al where
 o:CO
 v:Id → CV
def eBox (t:Nat) (x:CV) (ck:Nat):Option Al:=match x.cells with
 | cs=>bif cs.all CV.one then some ⟨.cells ck t cs,fun n=>.p n 0⟩ else none
def lBox (t:Nat) (x:CP) (T:SL CV) (ck:Nat):Option Al:=eBox t (x.get T) ck
def eAlc (t:Nat) (zs:List CV) (ck:Nat):Option Al:=some ⟨.cells ck t zs,fun n=>.p n 0⟩
def lAlc (t:Nat) (zs:List CV) (_:SL CV) (ck:Nat):Option Al:=eAlc t zs ck
def flatV (sz:Nat):List CV → Option (List CV):=fun l=>List.rec (some []) (fun x _ ih=>bif Nat.beq (lenR x.cells) sz && x.cells.all CV.one then (match ih with
    | some l=>some (appR x.cells l)
    | none=>none)
   else none) l
def flatC (sz:Nat) (l:List CP) (T:SL CV):Option (List CV):=flatV sz (gets l T)
theorem flatC_cons (sz:Nat) (x:CP) (r:List CP) (T:SL CV):flatC sz (x :: r) T = match (x.get T).cells with
  | cs=>bif Nat.beq cs.length sz && cs.all CV.one then match flatC sz r T with
    | some l=>some (cs ++ l)
    | none=>none
   else none:=by
 show (bif Nat.beq (lenR (x.get T).cells) sz && (x.get T).cells.all CV.one then (match flatC sz r T with | some l=>some (appR (x.get T).cells l) | none=>none) else none) = _
 rw [lenR_eq]
 cases flatC sz r T with
 | none=>rfl
 | some l=>simp only [appR_eq]
def eBsl (m:Nat) (parts:List CV) (e sz:Nat) (ck:Nat):Option Al:=match flatV sz parts with
 | some cs=>some ⟨.cells ck e cs,fun n=>.sl n 0 m sz (some m)⟩
 | none=>none
def lBsl (_ m:Nat) (parts:List CP) (e sz:Nat) (T:SL CV) (ck:Nat):Option Al:=eBsl m (gets parts T) e sz ck
def repC (zs:List CV):Nat → List CV
 | 0=>[]
 | l + 1=>zs ++ repC zs l
def eMks (x:CV) (y:CV) (e:Nat) (sz:Nat) (zs:List CV) (ck:Nat):Option Al:=match x,y with
 | .i _ (.ofNat l),.i _ (.ofNat c)=>bif Nat.ble l c && Nat.ble c 1000000 then some ⟨.cells ck e (repC zs l),fun n=>.sl n 0 l sz (some c)⟩ else none
 | _,_=>none
def lMks (_:Nat) (x:CP) (y:CP) (e:Nat) (sz:Nat) (zs:List CV) (T:SL CV) (ck:Nat):Option Al:=eMks (x.get T) (y.get T) e sz zs ck
def eMkm (t:Nat) (ck:Nat):Option Al:=some ⟨.map ck t false 0 [],fun n=>.m n⟩
def lMkm (t:Nat) (_:Sh) (_:SL CV) (ck:Nat):Option Al:=eMkm t ck
def aAl (a:Option Al) (H:CH) (n:Id) (ck:Nat):Ao:=match a with
 | some y=>.ok (y.v n) (hset n y.o H) n.succ ck
 | none=>.no
def sSt (x:CV) (y:CV) (H:CH) (n:Id) (ck:Nat):Ao:=match x with
 | .p id off=>match hget id H with
  | .cells _ t cs=>bif leR (off + 1) cs && y.one then .ok .u (hset id (.cells (ck + 1) t (setR y cs off)) H) n (ck + 1) else .no
  | _=>.no
 | _=>.no
def eSt (x:CV) (y:CV) (H:CH) (n:Id) (ck:Nat):Ao:=CV.onP .no (fun id off=>CO.onC .no (fun _ t cs=>Bool.rec .no (Bool.rec .no (.ok .u (hset id (.cells (Nat.add ck 1) t (setR y cs off)) H) n (Nat.add ck 1)) y.oneR) (leR (Nat.add off 1) cs)) (hget id H)) x
theorem eSt_eq (x:CV) (y:CV) (H:CH) (n:Id) (ck:Nat):eSt x y H n ck = sSt x y H n ck:=by
 cases x <;> first | rfl | skip
 rename_i id off
 show CO.onC Ao.no (fun _ t cs=>Bool.rec .no (Bool.rec .no (.ok .u (hset id (.cells (ck + 1) t (setR y cs off)) H) n (ck + 1)) y.oneR) (leR (off + 1) cs)) (hget id H) = match hget id H with
  | .cells _ t cs=>bif leR (off + 1) cs && y.one then .ok .u (hset id (.cells (ck + 1) t (setR y cs off)) H) n (ck + 1) else .no
  | _=>.no
 cases hget id H with
 | cells st t cs =>
  show (Bool.rec .no (Bool.rec .no (.ok .u (hset id (.cells (ck + 1) t (setR y cs off)) H) n (ck + 1)) y.oneR) (leR (off + 1) cs):Ao) = bif leR (off + 1) cs && y.one then .ok .u (hset id (.cells (ck + 1) t (setR y cs off)) H) n (ck + 1) else .no
  rw [CV.oneR_eq]
  cases leR (off + 1) cs <;> cases y.one <;> rfl
 | _=>rfl
def aSt (_:Nat) (x:CP) (y:CP) (T:SL CV) (H:CH) (n:Id) (ck:Nat):Ao:=eSt (x.get T) (y.get T) H n ck
def sStN (x:CV) (y:CV) (m:Nat) (H:CH) (n:Id) (ck:Nat):Ao:=match x,y with
 | .p id off,.agg ys=>match hget id H with
  | .cells _ t cs=>bif leR (off + m) cs && Nat.beq (lenR ys) m then .ok .u (hset id (.cells (ck + 1) t (appR (takeR cs off) (appR ys (dropR cs (off + m))))) H) n (ck + 1) else .no
  | _=>.no
 | _,_=>.no
def eStN (x:CV) (y:CV) (m:Nat) (H:CH) (n:Id) (ck:Nat):Ao:=CV.onP .no (fun id off=>CV.onAgg .no (fun ys=>CO.onC .no (fun _ t cs=>Bool.rec .no (Bool.rec .no (.ok .u (hset id (.cells (Nat.add ck 1) t (appR (takeR cs off) (appR ys (dropR cs (Nat.add off m))))) H) n (Nat.add ck 1)) (Nat.beq (lenR ys) m)) (leR (Nat.add off m) cs)) (hget id H)) y) x
theorem eStN_eq (x:CV) (y:CV) (m:Nat) (H:CH) (n:Id) (ck:Nat):eStN x y m H n ck = sStN x y m H n ck:=by
 cases x <;> first | rfl | skip
 cases y <;> first | rfl | skip
 rename_i id off ys
 show CO.onC Ao.no (fun _ t cs=>Bool.rec .no (Bool.rec .no (.ok .u (hset id (.cells (ck + 1) t (appR (takeR cs off) (appR ys (dropR cs (off + m))))) H) n (ck + 1)) (Nat.beq (lenR ys) m)) (leR (off + m) cs)) (hget id H) = match hget id H with
  | .cells _ t cs=>bif leR (off + m) cs && Nat.beq (lenR ys) m then .ok .u (hset id (.cells (ck + 1) t (appR (takeR cs off) (appR ys (dropR cs (off + m))))) H) n (ck + 1) else .no
  | _=>.no
 cases hget id H with
 | cells st t cs =>
  show (Bool.rec .no (Bool.rec .no (.ok .u (hset id (.cells (ck + 1) t (appR (takeR cs off) (appR ys (dropR cs (off + m))))) H) n (ck + 1)) (Nat.beq (lenR ys) m)) (leR (off + m) cs):Ao) = bif leR (off + m) cs && Nat.beq (lenR ys) m then .ok .u (hset id (.cells (ck + 1) t (appR (takeR cs off) (appR ys (dropR cs (off + m))))) H) n (ck + 1) else .no
  cases leR (off + m) cs <;> cases Nat.beq (lenR ys) m <;> rfl
 | _=>rfl
def aStN (_:Nat) (x:CP) (y:CP) (m:Nat) (T:SL CV) (H:CH) (n:Id) (ck:Nat):Ao:=eStN (x.get T) (y.get T) m H n ck
def srcC (sz:Nat) (y:CV) (H:CH):Option (Nat × List CV):=match y with
 | .sl id off m sz' _=>match hget id H with
  | .cells _ _ cs=>bif Nat.beq sz sz' && leR (off + m * sz) cs then some (m,takeR (dropR cs off) (m * sz)) else none
  | _=>none
 | .z _=>some (0,[])
 | .ns=>some (0,[])
 | _=>none
def newS (e sz m:Nat) (cs:List CV) (H:CH) (n:Id) (ck:Nat):Ao:=.ok (.sl n 0 m sz none) (hset n (.cells ck e cs) H) n.succ ck
def shortC (c:Option Nat) (k:Nat):Bool:=match c with
 | some j=>Nat.blt j k
 | none=>false
def eApp (x:CV) (y:CV) (e:Nat) (sz:Nat) (H:CH) (n:Id) (ck:Nat):Ao:=match srcC sz y H with
 | some (m,news)=>match m with
  | 0=>match x with
   | .sl id off k sz' c=>.ok (.sl id off k sz' c) H n ck
   | .z c=>.ok (.z c) H n ck
   | .ns=>.ok .ns H n ck
   | _=>.no
  | _=>bif Nat.blt m 1000000 then match x with
   | .ns=>newS e sz m news H n ck
   | .z (some 0)=>newS e sz m news H n ck
   | .sl id off k sz' c=>match hget id H with
    | .cells _ t cs=>bif Nat.beq sz sz' && Nat.beq t e && leR (off + k * sz) cs && Nat.blt k 1000000 then
      (bif shortC c (k + m) then newS e sz (k + m) (appR (takeR (dropR cs off) (k * sz)) news) H n ck
      else bif Nat.beq off 0 then .ok (.sl n 0 (k + m) sz none) (hset n (.cells (ck + 1) e (appR (takeR cs (k * sz)) news)) (hset id (.dead (ck + 1)) H)) n.succ (ck + 1) else .no)
     else .no
    | _=>.no
   | _=>.no
   else .no
 | none=>.no
def aApp (_:Nat) (_:Nat) (x:CP) (y:CP) (e:Nat) (_:Nat) (sz:Nat) (T:SL CV) (H:CH) (n:Id) (ck:Nat):Ao:=eApp (x.get T) (y.get T) e sz H n ck
def eBs0 (H:CH) (n:Id) (ck:Nat):Ao:=.ok (.z (some 0)) H n ck
def aBs0 (_ _:Nat) (_:SL CV) (H:CH) (n:Id) (ck:Nat):Ao:=eBs0 H n ck
def putE (k:List Int) (v:CV):List (List Int × CV) → List (List Int × CV)
 | []=>[(k,v)]
 | e :: r=>bif keq k e.1 then (e.1,v) :: r else e :: putE k v r
def putER (k:List Int) (v:CV) (l:List (List Int × CV)):List (List Int × CV):=List.rec (motive:=fun _=>List (List Int × CV)) [(k,v)] (fun e r ih=>Bool.rec (e :: ih) ((e.1,v) :: r) (keqR k e.1)) l
theorem putER_eq (k:List Int) (v:CV):∀ l,putER k v l = putE k v l:=by
 intro l
 induction l with
 | nil=>rfl
 | cons e r ih =>
  show Bool.rec (e :: putER k v r) ((e.1,v) :: r) (keqR k e.1) = (bif keq k e.1 then (e.1,v) :: r else e :: putE k v r)
  rw [ih,keqR_eq]
  cases keq k e.1 <;> rfl
def eMup (t:Nat) (s:Sh) (m:CV) (k:CV) (v:CV) (H:CH) (n:Id) (ck:Nat):Ao:=match m,keyOf s k with
 | .m id,some l=>match hget id H with
  | .map _ t' fl cl es=>bif Nat.beq t t' then .ok .u (hset id (.map (ck + 1) t' fl (cl + ((putER l v es).length - es.length)) (putER l v es)) H) n (ck + 1) else .no
  | _=>.no
 | _,_=>.no
def aMup (t:Nat) (s:Sh) (m:CP) (k:CP) (v:CP) (T:SL CV) (H:CH) (n:Id) (ck:Nat):Ao:=eMup t s (m.get T) (k.get T) (v.get T) H n ck
def idxE (k:List Int):List (List Int × CV) → Nat → Option (Nat × CV)
 | [],_=>none
 | e :: r,j=>bif keq k e.1 then some (j,e.2) else idxE k r (j + 1)
def idxER (k:List Int) (l:List (List Int × CV)):Nat → Option (Nat × CV):=List.rec (motive:=fun _=>Nat → Option (Nat × CV)) (fun _=>none) (fun e _ ih j=>Bool.rec (ih (Nat.add j 1)) (some (j,e.2)) (keqR k e.1)) l
theorem idxER_eq (k:List Int):∀ l j,idxER k l j = idxE k l j:=by
 intro l
 induction l with
 | nil=>intro j; rfl
 | cons e r ih =>
  intro j
  show Bool.rec (idxER k r (j + 1)) (some (j,e.2)) (keqR k e.1) = (bif keq k e.1 then some (j,e.2) else idxE k r (j + 1))
  rw [ih,keqR_eq]
  cases keq k e.1 <;> rfl
def eMen (t:Nat) (s:Sh) (m:CV) (k:CV) (z:CV) (H:CH) (n:Id) (ck:Nat):Ao:=match m,keyOf s k with
 | .m id,some l=>match hget id H with
  | .map _ t' false cl es=>bif Nat.beq t t' then (match idxER l es 0 with
    | some (j,v)=>.ok (.tup [v,.i .i64 (.ofNat j)]) (hset id (.map (ck + 1) t' false cl es) H) n (ck + 1)
    | none=>.ok (.tup [z,.i .i64 (.ofNat es.length)]) (hset id (.map (ck + 1) t' false (cl + 1) (es ++ [(l,z)])) H) n (ck + 1)) else .no
  | _=>.no
 | _,_=>.no
def aMen (t:Nat) (s:Sh) (m:CP) (k:CP) (_:Nat) (z:CV) (T:SL CV) (H:CH) (n:Id) (ck:Nat):Ao:=eMen t s (m.get T) (k.get T) z H n ck
def setE (v:CV):List (List Int × CV) → Nat → Option (List (List Int × CV))
 | [],_=>none
 | e :: r,0=>some ((e.1,v) :: r)
 | e :: r,j + 1=>match setE v r j with
  | some l=>some (e :: l)
  | none=>none
def setER (v:CV) (l:List (List Int × CV)):Nat → Option (List (List Int × CV)):=List.rec (motive:=fun _=>Nat → Option (List (List Int × CV))) (fun _=>none) (fun e r ih j=>Nat.rec (some ((e.1,v) :: r)) (fun j _=>Option.rec none (fun l=>some (e :: l)) (ih j)) j) l
theorem setER_eq (v:CV):∀ l j,setER v l j = setE v l j:=by
 intro l
 induction l with
 | nil=>intro j; cases j <;> rfl
 | cons e r ih =>
  intro j
  cases j with
  | zero=>rfl
  | succ j =>
   show Option.rec (motive:=fun _=>Option (List (List Int × CV))) none (fun l=>some (e :: l)) (setER v r j) = (match setE v r j with | some l=>some (e :: l) | none=>none)
   rw [ih]
   cases setE v r j <;> rfl
def eMst (m:CV) (k:CV) (v:CV) (H:CH) (n:Id) (ck:Nat):Ao:=match m,k with
 | .m id,.i .i64 (.ofNat j)=>match hget id H with
  | .map _ t' false cl es=>match setER v es j with
   | some l=>.ok .u (hset id (.map (ck + 1) t' false cl l) H) n (ck + 1)
   | none=>.no
  | _=>.no
 | _,_=>.no
def aMst (_:Nat) (m:CP) (k:CP) (v:CP) (T:SL CV) (H:CH) (n:Id) (ck:Nat):Ao:=eMst (m.get T) (k.get T) (v.get T) H n ck
def eClr (x:CV) (sz:Nat) (zs:List CV) (H:CH) (n:Id) (ck:Nat):Ao:=match x with
 | .ns=>.ok (.tup []) H n ck
 | .z _=>.ok (.tup []) H n ck
 | .sl id off m sz' _=>bif Nat.beq m 0 then .ok (.tup []) H n ck else match hget id H with
  | .cells _ t cs=>bif Nat.beq sz sz' && Nat.ble (off + m * sz) cs.length then .ok (.tup []) (hset id (.cells (ck + 1) t (cs.take off ++ (repC zs m ++ cs.drop (off + m * sz)))) H) n (ck + 1) else .no
  | _=>.no
 | _=>.no
def aClr (_:Nat) (x:CP) (_:Nat) (sz:Nat) (zs:List CV) (T:SL CV) (H:CH) (n:Id) (ck:Nat):Ao:=eClr (x.get T) sz zs H n ck
section
variable {P : Program} {N : Kn P} {β : Bk} {H : CH} {n0 : Id} {ck : Nat} {h : Heap} {T : SL CV} {Tc : Tm} {o : Oper}
structure Aft (N:Kn P) (β:Bk) (H:CH) (ck:Nat) (h:Heap) (c:CV) (H':CH) (n':Id) (ck':Nat) (v:Value) (h':Heap):Prop where
 out:∃ β',β.le β' ∧ HR N.toKy β' H' n' ck' h' ∧ VR β' c v
 keep:Keep β H H' h h'
 mono:∀ p,(hget p H).st ≤ (hget p H').st
def AoOk (N:Kn P) (β:Bk) (H:CH) (ck:Nat) (h:Heap) (Tc:Tm) (o:Oper):Ao → Prop
 | .no=>True
 | .ok c H' n' ck'=>SOp P o (ev Tc) h (Aft N β H ck h c H' n' ck')
theorem st_new (r:HR N.toKy β H n0 ck h) (o:CO) (p:Id):(hget p H).st ≤ (hget p (hset n0 o H)).st:=by
 rw [hget_set]
 split
 ·rename_i e; rw [e,r.new0 n0 (Nat.le_refl _)]; exact Nat.zero_le _
 ·exact Nat.le_refl _
theorem aft_new (r:HR N.toKy β H n0 ck h) {b:Nat} {ob:Obj} {o:CO} {len:Nat} {c:CV} {v:Value} (hb:h b = none) (hst:o.st ≤ ck) (ho:ORp N.toKy (β.put n0 ⟨b,len⟩) (h.set b ob) ⟨b,len⟩ o) (hv:VR (β.put n0 ⟨b,len⟩) c v):Aft N β H ck h c (hset n0 o H) n0.succ ck v (h.set b ob) :=
 ⟨⟨_,r.put_le _,r.alloc hb ho hst,hv⟩,r.alloc_keep o hb,st_new r o⟩
theorem cells_new {t:Nat} {cs:List CV} {vs:List Value} {b:Nat} {x:Blk} (hx:x = ⟨b,vs.length⟩) (hr:VRs β cs vs) (h1:cs.all CV.one = true) {st:Nat}:ORp N.toKy β (h.set b (.cells vs.toArray t (0,0))) x (.cells st t cs):=by
 subst hx
 exact .cells (tl:=[]) (by rw [List.append_nil]; exact Heap.set_same _ _ _) (by simp) hr h1
def AlOk (N:Kn P) (β:Bk) (Tc:Tm) (o:Oper) (ck:Nat):Option Al → Prop
 | none=>True
 | some y=>∃ obj vf len,AllocOp P o (ev Tc) obj vf ∧ y.o.st = ck ∧ ∀ (β':Bk) (n:Id) (b:Nat) (h:Heap),β.le (β'.put n ⟨b,len⟩) → ORp N.toKy (β'.put n ⟨b,len⟩) (h.set b obj) ⟨b,len⟩ y.o ∧ VR (β'.put n ⟨b,len⟩) (y.v n) (vf b)
theorem aAl_ok (hr:HR N.toKy β H n0 ck h) {a:Option Al} (k:AlOk N β Tc o ck a):AoOk N β H ck h Tc o (aAl a H n0 ck):=by
 cases a with
 | none=>trivial
 | some y =>
  obtain ⟨obj,vf,len,al,hst,hk⟩:=k
  refine al.sop fun b hb=>?_
  obtain ⟨h1,h2⟩:=hk β n0 b h (hr.put_le _)
  exact aft_new hr hb (Nat.le_of_eq hst) h1 h2
theorem lBox_ok (r:TR β T Tc) {t:Nat} {x:CP} (hx:x.ok = true) (hop:o.op = .box t x.op):AlOk N β Tc o ck (lBox t x T ck):=by
 unfold lBox eBox
 simp only
 cases h1:(x.get T).cells.all CV.one with
 | false=>trivial
 | true =>
  have hc:=(CP.get_ok r x hx).cells
  have e:(ev Tc x.op).cells = ((ev Tc x.op).cells.toList).toArray:=by simp
  refine ⟨_,_,(ev Tc x.op).cells.toList.length,a_box hop,rfl,fun β' n b h l=>⟨?_,.p (x:=⟨b,_⟩) 0 (Bk.put_same _ _ _)⟩⟩
  rw [e]
  exact cells_new (vs:=(ev Tc x.op).cells.toList) rfl (hc.le l) h1
theorem lAlc_ok {t:Nat} {zs:List CV} (hz:zeroIs P t (CV.vals zs) = true) (hs:CV.shuts zs = true) (h1:zs.all CV.one = true) (hop:o.op = .alloc t):AlOk N β Tc o ck (lAlc t zs T ck):=by
 obtain ⟨z,hzv,hzc⟩:=Ab.zeroIs_V hz
 exact ⟨_,_,(CV.vals zs).length,a_allocZ hop hzv hzc,rfl,fun β' n b h l=>⟨cells_new (vs:=CV.vals zs) rfl (shuts_ok _ zs hs) h1,.p (x:=⟨b,_⟩) 0 (Bk.put_same _ _ _)⟩⟩
theorem aft_turn (r:HR N.toKy β H n0 ck h) {id:Id} {x:Blk} (hx:β id = some x) (hl:(hget id H).live = true) {ob:Obj} {o:CO} {c:CV} {v:Value} (hst:o.st = ck + 1) (ho:ORp N.toKy β (h.set x.b ob) x o) (hv:VR β c v):Aft N β H ck h c (hset id o H) n0 (ck + 1) v (h.set x.b ob):=by
 obtain ⟨h1,h2⟩:=r.turn hx hl ho hst
 refine ⟨⟨β,Bk.le_refl _,h1,hv⟩,h2,fun p=>?_⟩
 rw [hget_set]
 split
 ·rw [hst]; exact Nat.le_succ_of_le (r.ck p)
 ·exact Nat.le_refl _
theorem live_cells {id:Id} {st t:Nat} {cs:List CV} (e:hget id H = .cells st t cs):(hget id H).live = true:=by rw [e]; rfl
theorem live_map {id:Id} {st t:Nat} {fl:Bool} {cl:Nat} {es:List (List Int × CV)} (e:hget id H = .map st t fl cl es):(hget id H).live = true:=by rw [e]; rfl
theorem VRs.set:∀ {cs:List CV} {vs:List Value} (j:Nat) {c:CV} {v:Value},VRs β cs vs → VR β c v → VRs β (cs.set j c) (vs.set j v)
 | _,_,_,_,_,.nil,_=>by simp; exact .nil
 | _,_,0,_,_,.cons _ r,h=>.cons h r
 | _,_,j + 1,_,_,.cons h0 r,h=>.cons h0 (r.set j h)
theorem all_set {l:List CV} {j:Nat} {c:CV} (h:l.all CV.one = true) (hc:c.one = true):(l.set j c).all CV.one = true:=by
 rw [List.all_eq_true] at h ⊢
 intro x hx
 rcases List.mem_or_eq_of_mem_set hx with h1 | h1
 ·exact h x h1
 ·rw [h1]; exact hc
theorem aSt_ok (r:TR β T Tc) (hr:HR N.toKy β H n0 ck h) {t:Nat} {x y:CP} (hx:x.ok = true) (hy:y.ok = true) (h1:P.cellsOf t = 1) (hi:(P.info? t).isSome = true) (hop:o.op = .store t x.op y.op):AoOk N β H ck h Tc o (aSt t x y T H n0 ck):=by
 unfold aSt; rw [eSt_eq]; unfold sSt
 simp only [leR_lt,setR_eq]
 split
 ·rename_i id off e
  split
  ·rename_i st t' cs hc
   cases hb:(Nat.blt off cs.length && (y.get T).one) with
   | false=>trivial
   | true =>
    simp only [Bool.and_eq_true] at hb
    have hlt:=Nat.le_of_ble_eq_true hb.1
    obtain ⟨b,hbb,hv⟩:=g_p r hx e
    obtain ⟨vs,tl,hh,hl,rv,ho⟩:=hr.cells hc hbb
    have hlen:=rv.len
    have vy:=CP.get_ok r y hy
    refine s_store1 hop hv rfl (vy.one hb.2) h1 hi hh (by simp; omega) ?_
    have e1:(vs ++ tl).toArray.setIfInBounds off (ev Tc y.op) = (vs.set off (ev Tc y.op) ++ tl).toArray:=by
     rw [List.setIfInBounds_toArray,List.set_append_left _ _ (by omega)]
    rw [e1]
    exact aft_turn hr hbb (live_cells hc) rfl (.cells (Heap.set_same _ _ _) (by simpa using hl) (rv.set off vy) (all_set ho hb.2)) .u
  ·trivial
 ·trivial
theorem splice_app {vs tl us:List Value} {off m:Nat} (h:off + m ≤ vs.length) (hm:us.length = m):splice (vs ++ tl).toArray off us = ((vs.take off ++ (us ++ vs.drop (off + m))) ++ tl).toArray:=by
 subst hm
 unfold splice
 simp only [List.append_assoc]
 rw [List.take_append_of_le_length (by omega),List.drop_append_of_le_length (by omega)]
theorem aStN_ok (r:TR β T Tc) (hr:HR N.toKy β H n0 ck h) {t m:Nat} {x y:CP} (hx:x.ok = true) (hy:y.ok = true) (h1:P.cellsOf t = m) (hi:(P.info? t).isSome = true) (hop:o.op = .store t x.op y.op):AoOk N β H ck h Tc o (aStN t x y m T H n0 ck):=by
 unfold aStN; rw [eStN_eq]; unfold sStN
 simp only [takeR_eq,dropR_eq,leR_eq,lenR_eq,appR_eq]
 split
 ·rename_i id off ys e e2
  split
  ·rename_i st t' cs hc
   cases hb:(Nat.ble (off + m) cs.length && Nat.beq ys.length m) with
   | false=>trivial
   | true =>
    simp only [Bool.and_eq_true,Nat.ble_eq,Nat.beq_eq] at hb
    obtain ⟨b,hbb,hv⟩:=g_p r hx e
    obtain ⟨us,hu,ru,hou⟩:=g_agg r hy e2
    obtain ⟨vs,tl,hh,hl,rv,ho⟩:=hr.cells hc hbb
    have hlen:=rv.len
    have hul:=ru.len
    refine s_storeN hop hv hu (by rw [Array.all_eq_true_iff_forall_mem]; exact fun v hv=>ru.one hou v (by simpa using hv)) h1 (by simp; omega) hi hh (by simp; omega) ?_
    rw [show us.toArray.toList = us from rfl,splice_app (m:=m) (by omega) (by omega)]
    have ha:=all_sub (l:=cs) (a:=0) (b:=off) ho
    have hb':=all_sub (l:=cs) (a:=off + m) (b:=cs.length) ho
    rw [List.drop_zero] at ha
    rw [List.take_of_length_le (by simp)] at hb'
    refine aft_turn hr hbb (live_cells hc) rfl (.cells (Heap.set_same _ _ _) ?_ ((rv.take off).append (ru.append (rv.drop (off + m)))) (by rw [List.all_append,List.all_append,hou,ha,hb']; rfl)) .u
    rw [← hl]; simp; omega
  ·trivial
 ·trivial
end
end Go.Proofs.YtihdpjinaafenaaGreatDoor.Ce

/- What acts: appends, lists, maps. -/
namespace Go.Proofs.YtihdpjinaafenaaGreatDoor.Ce
open Go.Proofs.YtihdpjinaafenaaGreatDoor.Sl
open Ab (isOne isMany isSl isArr isIntT isStr zeroIs okCall)
section
variable {P : Program} {N : Kn P} {β : Bk} {H : CH} {n0 : Id} {ck : Nat} {h : Heap} {T : SL CV} {Tc : Tm} {o : Oper}
theorem s_append_new {ρ:Operand → Value} {K:Value → Heap → Prop} {t tx e e':TypeId} {x y:Operand} {u:Value} {a:Option Addr} {sz n m c:Nat} {cs news:List Value} (ho:o.op = .call ⟨.builtin .append,#[x,y],#[t,tx]⟩) (ht:P.underlying t = some (.slice e)) (htx:P.underlying tx = some (.slice e')) (hi:infoOk P e sz = true)
  (hx:ρ x = .slice a n c) (hy:ρ y = u) (old:Cells h sz (.slice a n c) n cs) (src:Cells h sz u m news) (h1:∀ u ∈ news,u.oneCell' = true) (hm:m ≠ 0) (hc:c < n + m) (hfit:n + m ≤ 34359738368)
  (k:∀ (b:Nat) (full:List Value) (c':Nat),h b = none → n + m ≤ c' → c' * sz ≤ full.length → full.take ((n + m) * sz) = cs ++ news → K (.slice (some ⟨b,0,none⟩) (n + m) c') (h.set b (.cells full.toArray e (0,0)))):SOp P o ρ h K:=by
 obtain ⟨i,z,hii,hz,hs,hz1,hb⟩:=infoOk_spec hi
 clear hi
 subst hs
 intro w r
 have hsrc:=src.src r h1 htx
 have hnl:=src.len
 have hcl:=old.len
 have hold:(Builtin.firstCells i.size n (.slice a n c)).run P w.drew = .ok cs.toArray w.drew:=old.first (w:=w.drew) r
 have hbb:(n + m) * i.bytes ≤ 140737488355328:=Nat.le_trans (Nat.mul_le_mul hfit hb) (by decide)
 have hrun:=run_append_grow_src (P:=P) w t tx o.type e i z ht hii hz a n c cs hold u m news hsrc hc (by omega) (growslice_fits hc hbb)
 have hcapge:n + m ≤ grownCap w (n + m) c e:=by unfold grownCap Question.cut; simp
 have hexec:(execOp ρ o).run P w = .ok (.value (.slice (some ⟨w.heap.size,0,none⟩) (n + m) (grownCap w (n + m) c e))) (w.drew.alloc (.cells ((cs ++ news).toArray ++ Builtin.zeroCells z.cells (grownCap w (n + m) c e - (n + m))) e (0,0))):=by
  simp only [execOp,ho,resolve,Sem.run_bind,Sem.run_pure,Result.andThen_ok,invoke,builtin]
  simp [hx,hy,hrun]
  try rfl
 have hn:h w.heap.size = none:=by
  cases e1:h w.heap.size with
  | none=>rfl
  | some o=>have:=r.lt e1; omega
 have hfull:(cs ++ news).toArray ++ Builtin.zeroCells z.cells (grownCap w (n + m) c e - (n + m)) = ((cs ++ news) ++ (Builtin.zeroCells z.cells (grownCap w (n + m) c e - (n + m))).toList).toArray:=by
  apply Array.ext'; simp
 rw [hfull] at hexec
 obtain ⟨full,hfu⟩:∃ full:List Value,full = cs ++ news ++ (Builtin.zeroCells z.cells (grownCap w (n + m) c e - (n + m))).toList:=⟨_,rfl⟩
 rw [← hfu] at hexec
 refine .inl ⟨_,_,h.set w.heap.size (.cells full.toArray e (0,0)),.inl hexec,k _ full _ hn hcapge ?_ ?_,?_,?_⟩
 ·rw [hfu]
  have h2:(Builtin.zeroCells z.cells (grownCap w (n + m) c e - (n + m))).toList.length = (grownCap w (n + m) c e - (n + m)) * i.size:=by rw [Array.length_toList,size_zeroCells,hz1]
  rw [List.length_append,h2,List.length_append,hcl,hnl,← Nat.add_mul,← Nat.add_mul]
  exact Nat.le_of_eq (by congr 1; omega)
 ·have:(cs ++ news).length = (n + m) * i.size:=by simp [hcl,hnl,Nat.add_mul]
  rw [← this,hfu]; exact List.take_left
 ·intro b o' e1
  by_cases hb:b = w.heap.size
  ·subst hb; rw [Heap.set_same] at e1; cases e1; exact heap_alloc_new w.drew _
  ·rw [Heap.set_other _ _ hb] at e1
   exact (heap_alloc w.drew _ b (r.lt e1)).trans (r b o' e1)
 ·refine ⟨rfl,rfl,rfl,by rw [size_alloc]; show w.heap.size ≤ w.heap.size + 1; omega,fun b hb _=>heap_alloc w.drew _ b hb,fun b e1 e2=>?_⟩
  by_cases hb:b = w.heap.size
  ·omega
  ·rw [Heap.set_other _ _ hb] at e2; exact absurd e1 e2
theorem srcC_ok (r:TR β T Tc) (hr:HR N.toKy β H n0 ck h) {sz m:Nat} {y:CP} {news:List CV} (hy:y.ok = true) (e:srcC sz (y.get T) H = some (m,news)):∃ vs,Cells h sz (ev Tc y.op) m vs ∧ VRs β news vs ∧ news.all CV.one = true:=by
 unfold srcC at e
 simp only [takeR_eq,dropR_eq,leR_eq] at e
 split at e
 ·rename_i id off m' sz' c e0
  split at e
  ·rename_i st t cs hc
   cases hb:(Nat.beq sz sz' && Nat.ble (off + m' * sz) cs.length) with
   | false=>rw [hb] at e; cases e
   | true =>
    rw [hb] at e
    cases e
    simp only [Bool.and_eq_true,Nat.beq_eq,Nat.ble_eq] at hb
    obtain ⟨b,k,hbb,hv,hn,hcc,_⟩:=g_sl r hy e0
    obtain ⟨vs,tl,hh,hl,rv,ho⟩:=hr.cells hc hbb
    have hlen:=rv.len
    refine ⟨(vs.drop off).take (m * sz),?_,(rv.drop off).take _,all_sub ho⟩
    rw [hv]
    refine .at_ hh (by rw [List.length_take,List.length_drop]; omega) hn ?_
    show ((vs ++ tl).drop off).take (m * sz) = _
    rw [List.drop_append_of_le_length (by omega),List.take_append_of_le_length (by simp; omega)]
  ·cases e
 ·rename_i c e0
  cases e
  obtain ⟨a,k,hv,_⟩:=g_z r hy e0
  rw [hv]
  exact ⟨[],.zero _ _,.nil,rfl⟩
 ·rename_i e0
  cases e
  rw [g_ns r hy e0]
  exact ⟨[],.zero _ _,.nil,rfl⟩
 ·cases e
theorem newS_ok (hr:HR N.toKy β H n0 ck h) {t tx e e':TypeId} {x y:Operand} {u:Value} {a:Option Addr} {sz n m c:Nat} {cs news:List CV} {vs us:List Value} (ho:o.op = .call ⟨.builtin .append,#[x,y],#[t,tx]⟩) (ht:P.underlying t = some (.slice e)) (htx:P.underlying tx = some (.slice e')) (hi:infoOk P e sz = true)
  (hx:ev Tc x = .slice a n c) (hy:ev Tc y = u) (old:Cells h sz (.slice a n c) n vs) (src:Cells h sz u m us) (rv:VRs β cs vs) (ru:VRs β news us) (h1:cs.all CV.one = true) (h2:news.all CV.one = true) (hm:m ≠ 0) (hc:c < n + m) (hfit:n + m ≤ 34359738368) :
  AoOk N β H ck h Tc o (newS e sz (n + m) (cs ++ news) H n0 ck):=by
 refine s_append_new ho ht htx hi hx hy old src (ru.one h2) hm hc hfit fun b full c' hb hcap hfl htk=>?_
 have hf:full = (vs ++ us) ++ full.drop ((n + m) * sz):=by rw [← htk,List.take_append_drop]
 refine aft_new (len:=full.length) hr hb (Nat.le_refl _) (.cells (vs:=vs ++ us) (tl:=full.drop ((n + m) * sz)) ?_ (by rw [← hf]) ((rv.append ru).le (hr.put_le _)) (by rw [List.all_append,h1,h2]; rfl)) (.sl (x:=⟨b,full.length⟩) (Bk.put_same _ _ _) hcap (by simpa using hfl) (.inl rfl))
 rw [← hf]; exact Heap.set_same _ _ _
theorem aApp_ok (r:TR β T Tc) (hr:HR N.toKy β H n0 ck h) {t tx e e' sz:Nat} {x y:CP} (hx:x.ok = true) (hy:y.ok = true) (ht:isSl P t e = true) (htx:isSl P tx e' = true) (hi:infoOk P e sz = true) (hs0:0 < sz) (hop:o.op = .call ⟨.builtin .append,#[x.op,y.op],#[t,tx]⟩):AoOk N β H ck h Tc o (aApp t tx x y e e' sz T H n0 ck):=by
 have hut:=Ab.isSl_spec ht
 have hux:=Ab.isSl_spec htx
 unfold aApp eApp
 simp only [takeR_eq,dropR_eq,leR_eq,appR_eq]
 split
 case h_2=>trivial
 rename_i m news hsrc
 obtain ⟨us,src,ru,ho2⟩:=srcC_ok r hr hy hsrc
 split
 ·-- nothing is appended
  have hn0:us = []:=List.eq_nil_of_length_eq_zero (by rw [src.len]; simp)
  subst hn0
  have same:∀ {a:Option Addr} {n c:Nat},ev Tc x.op = .slice a n c → n ≤ c → ∀ cv,VR β cv (.slice a n c) → SOp P o (ev Tc) h (Aft N β H ck h cv H n0 ck):=by
   intro a n c hv hnc cv hcv
   intro w rw_
   obtain ⟨i,z,hii,hz,hsz,hz1,hb⟩:=infoOk_spec hi
   have hsrc':=src.src rw_ (fun u hu=>by cases hu) hux
   subst hsz
   have hrun:=run_append_nothing w t tx o.type e i hut hii a n c hnc _ hsrc'
   have hexec:(execOp (ev Tc) o).run P w = .ok (.value (.slice a n c)) w:=by
    simp only [execOp,hop,resolve,Sem.run_bind,Sem.run_pure,Result.andThen_ok,invoke,builtin]
    simp [hv,hrun]
    try rfl
   exact .inl ⟨_,w,h,.inl hexec,⟨⟨β,Bk.le_refl _,hr,hcv⟩,Keep.refl _ _ _,fun _=>Nat.le_refl _⟩,rw_,Step.refl _ _⟩
  split
  ·rename_i id off k sz' c e0
   obtain ⟨b,kk,hbb,hv,hn,hcc,hc⟩:=g_sl r hx e0
   exact same hv hn _ (.sl hbb hn hcc hc)
  ·rename_i c e0
   obtain ⟨a,kk,hv,hc,hn⟩:=g_z r hx e0
   exact same hv (Nat.zero_le _) _ (.z hc hn)
  ·rename_i e0
   exact same (g_ns r hx e0) (Nat.le_refl _) _ .ns
  ·trivial
 ·rename_i _ hm
  have hm0:m ≠ 0:=fun e=>hm e
  cases hml:Nat.blt m 1000000 with
  | false=>trivial
  | true =>
   have hml:=Nat.le_of_ble_eq_true hml
   simp only [cond_true]
   split
   ·rename_i e0
    have:=newS_ok (cs:=[]) (vs:=[]) (n:=0) hr hop hut hux hi (g_ns r hx e0) rfl (.zero none 0) src .nil ru rfl ho2 hm0 (by omega) (by omega)
    simpa using this
   ·rename_i e0
    obtain ⟨a,kk,hv,hc,_⟩:=g_z r hx e0
    have hk:kk = 0:=by rcases hc with hc | hc <;> cases hc; rfl
    subst hk
    have:=newS_ok (cs:=[]) (vs:=[]) (n:=0) hr hop hut hux hi hv rfl (.zero a 0) src .nil ru rfl ho2 hm0 (by omega) (by omega)
    simpa using this
   ·rename_i id off k sz' c e0
    obtain ⟨b,kk,hbb,hv,hn,hcc,hc⟩:=g_sl r hx e0
    split
    case h_2=>trivial
    rename_i st t' cs hcl
    cases hb:(Nat.beq sz sz' && Nat.beq t' e && Nat.ble (off + k * sz) cs.length && Nat.blt k 1000000) with
    | false=>trivial
    | true =>
     simp only [Bool.and_eq_true,Nat.beq_eq,Nat.ble_eq] at hb
     obtain ⟨⟨⟨c1,c2⟩,c3⟩,c4⟩:=hb
     have c4:=Nat.le_of_ble_eq_true c4
     subst c1
     subst c2
     obtain ⟨vs,tl,hh,hl,rv,ho⟩:=hr.cells hcl hbb
     have hlen:=rv.len
     simp only [cond_true]
     cases hsh:shortC c (k + m) with
     | true =>
      have hck:kk < k + m:=by
       rcases hc with rfl | rfl
       ·cases hsh
       ·exact Nat.le_of_ble_eq_true hsh
      refine newS_ok hr hop hut hux hi hv rfl (.at_ hh (cs:=(vs.drop off).take (k * sz)) (by rw [List.length_take,List.length_drop]; omega) hn ?_) src ((rv.drop off).take _) ru (all_sub ho) ho2 hm0 hck (by omega)
      show ((vs ++ tl).drop off).take (k * sz) = _
      rw [List.drop_append_of_le_length (by omega),List.take_append_of_le_length (by simp; omega)]
     | false =>
      simp only [cond_false]
      cases ho0:Nat.beq off 0 with
      | false=>trivial
      | true =>
       have:=Nat.eq_of_beq_eq_true ho0
       subst this
       simp only [cond_true]
       have hcapL:kk * sz ≤ (vs ++ tl).length:=by rw [hl]; omega
       have own:Own h t' sz (.slice (some ⟨b.b,0,none⟩) k kk) k (vs.take (k * sz)):=.at_ hh (by rw [List.length_take]; omega) hn (by simpa using hcapL) (by
        show (vs ++ tl).take (k * sz) = _
        rw [List.take_append_of_le_length (by omega)])
       refine s_append hop hut hux hi hv rfl own src (ru.one ho2) (by omega) fun v' h' own' g=>?_
       have hkm:k + m ≠ 0:=by omega
       generalize hkm':k + m = km at own' hkm
       generalize hcat:vs.take (k * sz) ++ us = cat at own'
       cases own' with
       | nil=>exact absurd rfl hkm
       | @at_ b' n' c' full cs' hb' hl' hnc' hcap' hc' =>
        have hfl:full.toList = (vs.take (k * sz) ++ us) ++ full.toList.drop (km * sz):=by
         rw [hcat,← hc',List.take_append_drop]
        have hy':b' = b.b ∨ h b' = none:=by
         rcases g.blk with h1 | ⟨b2,h1,h2⟩
         ·simp only [blockOf,Option.some.injEq] at h1; exact .inl h1
         ·simp only [blockOf,Option.some.injEq] at h1; exact .inr (by rw [h1]; exact h2)
        have hone:(cs.take (k * sz) ++ news).all CV.one = true:=by
         have:=all_sub (l:=cs) (a:=0) (b:=k * sz) ho
         rw [List.drop_zero] at this
         rw [List.all_append,this,ho2]; rfl
        have hmv:=hr.moved (y:=⟨b',full.size⟩) (h':=h') (o:=.cells (ck + 1) t' (cs.take (k * sz) ++ news)) hbb (live_cells hcl) hy' rfl (.cells (vs:=vs.take (k * sz) ++ us) (tl:=full.toList.drop (km * sz)) (by rw [← hfl]; simpa using hb') (by rw [← hfl]; simp) (((rv.take _).append ru).le (hr.put_le _)) hone)
         (fun q ob e1 hne=>g.same q ob e1 (fun e2=>hne (by simpa [blockOf] using e2)))
        refine ⟨⟨_,hr.put_le ⟨b',full.size⟩,hmv.1,.sl (x:=⟨b',full.size⟩) (Bk.put_same _ _ _) hnc' (by simpa using hcap') (.inl rfl)⟩,hmv.2,fun p=>?_⟩
        rw [hget_set]
        split
        ·exact Nat.le_succ_of_le (hr.ck p)
        ·rw [hget_set]
         split
         ·exact Nat.le_succ_of_le (hr.ck p)
         ·exact Nat.le_refl _
   ·trivial
theorem flatC_ok (r:TR β T Tc) {sz:Nat}:∀ {l:List CP} {cs:List CV},CPs l = true → flatC sz l T = some cs → ∃ vs:List Value,vs = (l.map fun x=>ev Tc x.op) ∧ (∀ v ∈ vs,v.cells.size = sz) ∧ VRs β cs (vs.flatMap (·.cells.toList)) ∧ cs.all CV.one = true
 | [],cs,_,e=>by cases e; exact ⟨[],rfl,fun v hv=>(by cases hv),.nil,rfl⟩
 | x :: l,cs,hl,e=>by
  simp only [CPs,List.all_cons,Bool.and_eq_true] at hl
  rw [flatC_cons] at e
  simp only at e
  cases hb:(Nat.beq (x.get T).cells.length sz && (x.get T).cells.all CV.one) with
  | false=>rw [hb] at e; cases e
  | true =>
   rw [hb] at e
   simp only [cond_true] at e
   simp only [Bool.and_eq_true,Nat.beq_eq] at hb
   split at e
   ·rename_i l' hl'
    cases e
    obtain ⟨vs,rfl,h1,h2,h3⟩:=flatC_ok r hl.2 hl'
    have hc:=(CP.get_ok r x hl.1).cells
    refine ⟨_,rfl,fun v hv=>?_,?_,?_⟩
    ·rcases List.mem_cons.1 hv with rfl | hv
     ·rw [← Array.length_toList,hc.len,hb.1]
     ·exact h1 v hv
    ·simp only [List.map_cons,List.flatMap_cons]; exact hc.append h2
    ·rw [List.all_append,hb.2,h3]; rfl
   ·cases e
theorem ixd_zip (f:Operand → Value):∀ (l:List CP) (k:Nat),(ixd k l).map (fun p=>(p.1,f p.2)) = ((l.map fun x=>f x.op).zipIdx k).map fun x=>(x.2,x.1)
 | [],k=>rfl
 | x :: l,k=>by simp only [ixd,List.map_cons,List.zipIdx_cons,ixd_zip f l (k + 1)]
theorem lBsl_ok (r:TR β T Tc) {t m e sz:Nat} {parts:List CP} (hp:CPs parts = true) (ht:isSl P t e = true) (hi:infoOk P e sz = true) (hm:m = parts.length) (hs0:0 < sz) (hm0:0 < m) (hms:m * sz ≤ 65536) (hop:o.op = .buildSlice t m (ixd 0 parts).toArray):AlOk N β Tc o ck (lBsl t m parts e sz T ck):=by
 unfold lBsl eBsl
 split
 ·rename_i cs e0
  obtain ⟨vs,hvs,h1,h2,h3⟩:=flatC_ok r hp e0
  have hlen:vs.length = m:=by rw [hvs,hm]; simp
  have hfl:(vs.flatMap (·.cells.toList)).length = m * sz:=by
   rw [← hlen]
   clear hvs hlen h2
   induction vs with
   | nil=>simp
   | cons v vs ih=>rw [List.flatMap_cons,List.length_append,ih (fun u hu=>h1 u (List.mem_cons_of_mem _ hu)),Array.length_toList,h1 v List.mem_cons_self,List.length_cons,Nat.succ_mul]; omega
  refine ⟨_,_,(vs.flatMap (·.cells.toList)).length,Ab.a_buildSliceG (vs:=vs) (sz:=sz) hop (Ab.isSl_spec ht) hi (by rw [hvs]; simpa using ixd_zip (ev Tc) parts 0) hlen h1 hm0 hs0 hms,rfl,fun β' n b h l=>⟨cells_new (vs:=vs.flatMap (·.cells.toList)) rfl (h2.le l) h3,.sl (x:=⟨b,_⟩) (Bk.put_same _ _ _) (Nat.le_refl _) (by show 0 + m * sz ≤ (vs.flatMap (·.cells.toList)).length; rw [hfl]; omega) (.inr rfl)⟩⟩
 ·trivial
theorem aft_same (hr:HR N.toKy β H n0 ck h) {h':Heap} (k:HR N.toKy β H n0 ck h' ∧ Keep β H H h h') {c:CV} {v:Value} (hv:VR β c v):Aft N β H ck h c H n0 ck v h':=⟨⟨β,Bk.le_refl _,k.1,hv⟩,k.2,fun _=>Nat.le_refl _⟩
theorem aBs0_ok (hr:HR N.toKy β H n0 ck h) {t e:Nat} (ht:isSl P t e = true) (he:(P.info? e).isSome = true) (hop:o.op = .buildSlice t 0 #[]):AoOk N β H ck h Tc o (aBs0 t e T H n0 ck) :=
 (a_buildSlice0 hop (Ab.isSl_spec ht) he).sop fun b hb=>aft_same hr (hr.fresh hb _) (.z (.inr rfl) (fun e=>by cases e))
theorem repC_ok {zs:List CV} {β:Bk} (hs:CV.shuts zs = true):∀ l,VRs β (repC zs l) (List.replicate l (CV.vals zs)).flatten
 | 0=>.nil
 | l + 1=>by rw [repC,List.replicate_succ,List.flatten_cons]; exact (shuts_ok β zs hs).append (repC_ok hs l)
theorem repC_one {zs:List CV} (h1:zs.all CV.one = true):∀ l,(repC zs l).all CV.one = true
 | 0=>rfl
 | l + 1=>by rw [repC,List.all_append,h1,repC_one h1 l]; rfl
theorem lMks_ok (r:TR β T Tc) {t e sz:Nat} {x y:CP} {zs:List CV} (hx:x.ok = true) (hy:y.ok = true) (ht:isSl P t e = true) (hi:infoOk P e sz = true) (hz:zeroIs P e (CV.vals zs) = true) (hs:CV.shuts zs = true) (h1:zs.all CV.one = true) (hop:o.op = .makeSlice t x.op y.op):AlOk N β Tc o ck (lMks t x y e sz zs T ck):=by
 unfold lMks eMks
 have hut:=Ab.isSl_spec ht
 obtain ⟨i,z,hii,hzz,hsz,hzs,hb⟩:=infoOk_spec hi
 have hzc:z.cells.toList = CV.vals zs:=by
  have h1:=Ab.zeroIs_eq hz
  unfold zeroOf at h1
  rw [hii] at h1
  simp only [Option.bind_some,hzz,Option.map_some,Option.some.injEq] at h1
  rw [h1]
 split
 ·rename_i k1 l k2 c e1 e2
  cases hbb:(Nat.ble l c && Nat.ble c 1000000) with
  | false=>trivial
  | true =>
   simp only [Bool.and_eq_true,Nat.ble_eq] at hbb
   obtain ⟨hlc,hc⟩:=hbb
   have hvx:=g_i r hx e1
   have hvy:=g_i r hy e2
   have hm:i.bytes * c ≤ 4096 * 1000000:=Nat.mul_le_mul hb (by omega)
   have hm':(i.bytes:Int) * (c:Int) ≤ 281474976710656:=by
    have:((i.bytes * c:Nat):Int) ≤ ((4096 * 1000000:Nat):Int):=Int.ofNat_le.2 hm
    rw [Int.natCast_mul] at this
    omega
   have hp:AllocOp P o (ev Tc) (.cells (madeCells z.cells (c * sz)) e) (fun b=>.slice (some ⟨b,0,none⟩) l c):=fun w=>by
    have:=run_make (P:=P) w t e i z hut hii hzz k1 k2 (l:Int) (c:Int) (by omega) (by omega) hm' (by omega)
    simp only [Int.ofNat_eq_natCast] at hvx hvy
    simp only [execOp,hop,hvx,hvy,this,Sem.run_bind,Sem.run_map,Result.andThen_ok,Sem.run_pure,Int.toNat_natCast,hsz]
   have htk:=Ab.made_take z.cells sz hzs l c hlc
   rw [hzc] at htk
   have hfl:(madeCells z.cells (c * sz)).toList = (List.replicate l (CV.vals zs)).flatten ++ (madeCells z.cells (c * sz)).toList.drop (l * sz):=by rw [← htk,List.take_append_drop]
   have hsize:(madeCells z.cells (c * sz)).size = c * sz:=by rw [size_madeCells]
   refine ⟨_,_,c * sz,hp,rfl,fun β' n b h le=>⟨.cells (vs:=(List.replicate l (CV.vals zs)).flatten) (tl:=(madeCells z.cells (c * sz)).toList.drop (l * sz)) ?_ ?_ (repC_ok hs l) (repC_one h1 l),.sl (x:=⟨b,_⟩) (Bk.put_same _ _ _) hlc (by simp) (.inr rfl)⟩⟩
   ·rw [← hfl]; simp [Heap.set_same]
   ·rw [← hfl,Array.length_toList,hsize]
 ·trivial
theorem lMkm_ok {t:Nat} {s:Sh} (hs:shOk N.sh t s = true) (hop:o.op = .makeMap t none):AlOk N β Tc o ck (lMkm t s T ck) :=
 ⟨_,_,0,a_makeMap hop,rfl,fun β' n b h l=>⟨.map s (shOk_spec hs) [] [] (by simp [MBn,Heap.set_same]) (Bs.range 0) (fun _=>⟨rfl,rfl⟩) (by simp [Keys1]) rfl .nil,.m (x:=⟨b,0⟩) (Bk.put_same _ _ _)⟩⟩
theorem aClr_ok (r:TR β T Tc) (hr:HR N.toKy β H n0 ck h) {t e sz:Nat} {x:CP} {zs:List CV} (hx:x.ok = true) (ht:isSl P t e = true) (hi:infoOk P e sz = true) (hz:zeroIs P e (CV.vals zs) = true) (hs:CV.shuts zs = true) (h1:zs.all CV.one = true) (hs0:0 < sz) (hop:o.op = .call ⟨.builtin .clear,#[x.op],#[t]⟩):AoOk N β H ck h Tc o (aClr t x e sz zs T H n0 ck):=by
 have hut:=Ab.isSl_spec ht
 have hexec:∀ w r',(Builtin.clear_ #[t] o.type #[ev Tc x.op]).run P w = r' → (execOp (ev Tc) o).run P w = r'.andThen fun a w'=>.ok (.value a) w':=by
  intro w r' e
  simp only [execOp,hop,resolve,Sem.run_bind,Sem.run_pure,Result.andThen_ok,invoke,builtin]
  simp [e]
 have noop:∀ a k,ev Tc x.op = .slice a 0 k → SOp P o (ev Tc) h (Aft N β H ck h (.tup []) H n0 ck):=by
  intro a k hv w rw_
  have hrun:(Builtin.clear_ #[t] o.type #[ev Tc x.op]).run P w = .ok (.tuple #[]) w:=by
   rw [hv]
   cases a <;> simp [Builtin.clear_,run_underlying hut]
  exact .inl ⟨_,w,h,.inl (by rw [hexec w _ hrun]; rfl),aft_same hr ⟨hr,Keep.refl _ _ _⟩ (.tup .nil),rw_,Step.refl _ _⟩
 unfold aClr eClr
 split
 ·rename_i e0; exact noop _ _ (g_ns r hx e0)
 ·rename_i c e0
  obtain ⟨a,k,hv,_⟩:=g_z r hx e0
  exact noop _ _ hv
 ·rename_i id off m sz' c e0
  obtain ⟨b,k,hbb,hv,hn,hcc,_⟩:=g_sl r hx e0
  cases hm0:Nat.beq m 0 with
  | true =>
   have:=Nat.eq_of_beq_eq_true hm0
   subst this
   exact noop _ _ hv
  | false =>
   have hm:m ≠ 0:=fun e=>by rw [e] at hm0; cases hm0
   simp only [cond_false]
   split
   ·rename_i st t' cs hc
    cases hb:(Nat.beq sz sz' && Nat.ble (off + m * sz) cs.length) with
    | false=>trivial
    | true =>
     simp only [Bool.and_eq_true,Nat.beq_eq,Nat.ble_eq] at hb
     obtain ⟨vs,tl,hh,hl,rv,ho⟩:=hr.cells hc hbb
     have hlen:=rv.len
     simp only [cond_true]
     obtain ⟨i,z,hii,hzz,hsz,hzs,hby⟩:=infoOk_spec hi
     have hzc:z.cells.toList = CV.vals zs:=by
      have h1:=Ab.zeroIs_eq hz
      unfold zeroOf at h1
      rw [hii] at h1
      simp only [Option.bind_some,hzz,Option.map_some,Option.some.injEq] at h1
      rw [h1]
     have hzl:(Builtin.zeroCells z.cells m).toList = (List.replicate m (CV.vals zs)).flatten:=by
      have h2:=Ab.made_take z.cells sz hzs m m (Nat.le_refl _)
      rw [hzc] at h2
      rw [← h2,List.take_of_length_le (by rw [Array.length_toList,size_madeCells]; exact Nat.le_refl _)]
      unfold Builtin.zeroCells madeCells
      rw [hzs]
     have hrl:(List.replicate m (CV.vals zs)).flatten.length = m * sz:=by rw [← hzl,Array.length_toList,size_zeroCells,hzs]
     have hreps:=repC_ok (β:=β) hs m
     refine fun w rw_=>?_
     have hw:=rw_ _ _ hh
     have hst:=run_storeCells_at (P:=P) b.b off t' (List.replicate m (CV.vals zs)).flatten 0 (vs ++ tl).toArray w hw (by simp only [hrl,List.size_toArray,List.length_append]; omega) (hreps.one (repC_one h1 m))
     simp only [Nat.add_zero] at hst
     have hrun:(Builtin.clear_ #[t] o.type #[ev Tc x.op]).run P w = .ok (.tuple #[]) (w.setRow b.b ((vs ++ tl).toArray.toList.take off ++ (List.replicate m (CV.vals zs)).flatten ++ (vs ++ tl).toArray.toList.drop (off + (List.replicate m (CV.vals zs)).flatten.length)).toArray):=by
      rw [hv]
      obtain ⟨m',rfl⟩:∃ m',m = m' + 1:=⟨m - 1,by omega⟩
      simp [Builtin.clear_,run_underlying hut,zeroValue,typeInfo,program,Sem.run,hii,hzz,hzl,hst]
     have hsp:=splice_app (vs:=vs) (tl:=tl) (us:=(List.replicate m (CV.vals zs)).flatten) (off:=off) (m:=m * sz) (by omega) hrl
     unfold splice at hsp
     rw [hsp] at hrun
     refine .inl ⟨_,_,_,.inl (by rw [hexec w _ hrun]; rfl),?_,rw_.setRow hh,Step.setRow rw_ hh⟩
     have ha:=all_sub (l:=cs) (a:=0) (b:=off) ho
     have hb':=all_sub (l:=cs) (a:=off + m * sz) (b:=cs.length) ho
     rw [List.drop_zero] at ha
     rw [List.take_of_length_le (by simp)] at hb'
     refine aft_turn hr hbb (live_cells hc) rfl (.cells (Heap.set_same _ _ _) ?_ ((rv.take off).append (hreps.append (rv.drop (off + m * sz)))) (by rw [List.all_append,List.all_append,repC_one h1,ha,hb']; rfl)) (.tup .nil)
     rw [← hl]; simp only [List.length_append,List.length_take,List.length_drop,hrl]; omega
   ·trivial
 ·trivial
theorem putE_ok {s:Sh} {k:List Int} (hk:k.length = s.n) {c:CV} {v:Value} (hc:VR β c v):∀ {es:List (List Int × CV)} {l:List (s.key × Value)},l.map (fun p=>p.1.1) = es.map (·.1) → VRs β (es.map (·.2)) (l.map (·.2)) → Keys1 l →
  (putK l ⟨k,hk⟩ v).map (fun p=>p.1.1) = (putE k c es).map (·.1) ∧ VRs β ((putE k c es).map (·.2)) ((putK l ⟨k,hk⟩ v).map (·.2))
 | [],[],_,_,_=>⟨rfl,.cons hc .nil⟩
 | [],_ :: _,e,_,_=>by simp at e
 | _ :: _,[],e,_,_=>by simp at e
 | e :: es,p :: l,h1,h2,n1=>by
  simp only [List.map_cons,List.cons.injEq] at h1
  simp only [List.map_cons] at h2
  have n2:Keys1 l:=(List.nodup_cons.1 n1).2
  have n3:p.1 ∉ l.map (·.1):=(List.nodup_cons.1 n1).1
  cases h2 with
  | cons r1 r2 =>
   obtain ⟨i1,i2⟩:=putE_ok hk hc h1.2 r2 n2
   have hd:keq k e.1 = decide ((⟨k,hk⟩:s.key) = p.1):=by
    rw [keq_eq,← h1.1,Bool.eq_iff_iff,decide_eq_true_eq,decide_eq_true_eq]
    exact ⟨fun e=>Subtype.ext e,fun e=>congrArg Subtype.val e⟩
   unfold putE
   rw [hd]
   by_cases hkp:(⟨k,hk⟩:s.key) = p.1
   ·have hh:hasK (p :: l) (⟨k,hk⟩:s.key) = true:=by simp [hasK,hkp]
    have hrest:l.map (fun q=>if (⟨k,hk⟩:s.key) = q.1 then (q.1,v) else q) = l:=by
     conv=>rhs; rw [← List.map_id l]
     refine List.map_congr_left fun q hq=>?_
     have:¬ (⟨k,hk⟩:s.key) = q.1:=fun e=>n3 (by rw [← hkp,e]; exact List.mem_map.2 ⟨q,hq,rfl⟩)
     rw [if_neg this]; rfl
    simp only [hkp,decide_true,cond_true,List.map_cons]
    rw [← hkp]
    unfold putK
    rw [hh]
    simp only [if_true,List.map_cons,hkp]
    rw [← hkp,hrest]
    exact ⟨by rw [← h1.1,h1.2,← hkp],.cons hc r2⟩
   ·have hpk:putK (p :: l) (⟨k,hk⟩:s.key) v = p :: putK l (⟨k,hk⟩:s.key) v:=by
     unfold putK hasK
     simp only [List.any_cons,hkp,decide_false,Bool.false_or,List.map_cons,if_false]
     split <;> rfl
    simp only [hkp,decide_false,cond_false,List.map_cons,hpk]
    exact ⟨by rw [i1,h1.1],.cons r1 i2⟩
end
end Go.Proofs.YtihdpjinaafenaaGreatDoor.Ce
