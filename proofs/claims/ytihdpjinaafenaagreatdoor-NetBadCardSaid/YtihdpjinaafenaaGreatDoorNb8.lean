import Derived.Test.YtihdpjinaafenaaGreatDoorNb7
import Derived.Laws.MakeOwn
noncomputable section
/- What is reckoned, what is read: the rest; all of it. -/
set_option linter.unusedVariables false
set_option linter.unusedSimpArgs false
namespace Go.Proofs.YtihdpjinaafenaaGreatDoor.Ce
open Go.Proofs.YtihdpjinaafenaaGreatDoor.Sl
open Ab (isOne isMany isSl isArr isIntT isStr zeroIs okCall)
section
variable {P : Program} {N : Kn P} {β : Bk} {H : CH} {n0 : Id} {ck : Nat} {h : Heap} {T : SL CV} {Tc : Tm} {o : Oper}
theorem rLd_ok (r:TR β T Tc) (hr:HR N.toKy β H n0 ck h) {t:Nat} {x:CP} (hx:x.ok = true) (hs:isOne P t = true) (hop:o.op = .load t x.op):RoOk P β H h Tc o (rLd t x T H):=by
 unfold rLd; rw [fLd_eq]; unfold sLd
 split
 ·rename_i id off e
  split
  ·rename_i st t' cs hc
   split
   ·rename_i c hn
    obtain ⟨y,hy,hv⟩:=g_p r hx e
    obtain ⟨vs,tl,hb,hl,rv,_⟩:=hr.cells hc hy
    obtain ⟨v,h1,h2⟩:=rv.get (nth_some hn)
    refine ⟨v,h2,by rw [hop]; rfl,y,hy,by rw [hc]; rfl,fun g hg=>?_⟩
    refine Ab.r_ld1 hop hs hv (hg.trans hb) ?_
    have hlt:off < vs.length:=(List.getElem?_eq_some_iff.1 h1).1
    simp only [List.getElem?_toArray]
    rw [List.getElem?_append_left hlt]; exact h1
   ·trivial
  ·trivial
 ·trivial
theorem rLdg_ok (r:TR β T Tc) (hr:HR N.toKy β H n0 ck h) {t g:Nat} {id:Id} (hs:isOne P t = true) (hg:(match N.gl g with | some i=>decide (i = id) | none=>false) = true) (hop:o.op = .load t (.global g)):RoOk P β H h Tc o (rLdg t g id T H):=by
 have hg':N.gl g = some id:=by
  cases e:N.gl g with
  | none=>rw [e] at hg; cases hg
  | some i=>rw [e] at hg; rw [of_decide_eq_true hg]
 obtain ⟨y,hy,hyb⟩:=hr.gl g id hg'
 unfold rLdg; rw [fLd_eq]; unfold sLd
 simp only
 split
 ·rename_i st t' cs hc
  split
  ·rename_i c hn
   obtain ⟨vs,tl,hb,hl,rv,_⟩:=hr.cells hc hy
   obtain ⟨v,h1,h2⟩:=rv.get (nth_some hn)
   refine ⟨v,h2,by rw [hop]; rfl,y,hy,by rw [hc]; rfl,fun g' hg=>?_⟩
   refine Ab.r_ld1 hop hs (show ev Tc (.global g) = .pointer (some ⟨y.b,0,none⟩) by rw [hyb]; rfl) (hg.trans hb) ?_
   have hlt:0 < vs.length:=(List.getElem?_eq_some_iff.1 h1).1
   simp only [List.getElem?_toArray]
   rw [List.getElem?_append_left hlt]; exact h1
  ·trivial
 ·trivial
theorem rIxg_ok (r:TR β T Tc) (hr:HR N.toKy β H n0 ck h) {t g e sz n:Nat} {id:Id} {i:CP} (hi:i.ok = true) (hs:isArr P t n e = true) (hz:P.cellsOf e = sz) (he:(P.info? e).isSome = true) (hg:(match N.gl g with | some i=>decide (i = id) | none=>false) = true) (hop:o.op = .indexAddr t (.global g) i.op):RoOk P β H h Tc o (rIxg t g id i e sz n T H):=by
 have hg':N.gl g = some id:=by
  cases e:N.gl g with
  | none=>rw [e] at hg; cases hg
  | some i=>rw [e] at hg; rw [of_decide_eq_true hg]
 obtain ⟨y,hy,hyb⟩:=hr.gl g id hg'
 unfold rIxg; rw [fIxa_eq]; unfold sIxa
 split
 ·rename_i id' off k j e1 e2
  cases e1
  cases hj:Nat.blt j n with
  | false=>trivial
  | true =>
   have hj:=Nat.le_of_ble_eq_true hj
   refine ⟨_,.p _ hy,?_⟩
   have:=p_indexAddrA (P:=P) hop (Ab.isArr_spec hs) hz he (show ev Tc (.global g) = .pointer (some ⟨y.b,0,none⟩) by rw [hyb]; rfl) (g_i r hi e2) (by simp) (by simp; omega)
   simpa using this
 ·trivial
theorem rLdN_ok (r:TR β T Tc) (hr:HR N.toKy β H n0 ck h) {t n:Nat} {x:CP} (hx:x.ok = true) (hs:isMany P t = true) (hn:P.cellsOf t = n) (hop:o.op = .load t x.op):RoOk P β H h Tc o (rLdN t x n T H):=by
 unfold rLdN; rw [fLdN_eq]; unfold sLdN
 simp only [takeR_eq,dropR_eq,leR_eq]
 split
 ·rename_i id off e
  split
  ·rename_i st t' cs hc
   cases hb:Nat.ble (off + n) cs.length with
   | false=>trivial
   | true =>
    have hle:=Nat.le_of_ble_eq_true hb
    obtain ⟨y,hy,hv⟩:=g_p r hx e
    obtain ⟨vs,tl,hb,hl,rv,h1⟩:=hr.cells hc hy
    have hlen:=rv.len
    refine ⟨_,.agg (all_sub h1) ((rv.drop off).take n),by rw [hop]; rfl,y,hy,by rw [hc]; rfl,fun g hg=>?_⟩
    have:=Ab.r_ldN (P:=P) hop hs hv (hg.trans hb) hn (by simp; omega)
    have h6:(vs ++ tl).toArray.extract off (off + n) = ((vs.drop off).take n).toArray:=by
     simp only [List.extract_toArray,List.extract_eq_take_drop]
     congr 1
     rw [Nat.add_sub_cancel_left,List.drop_append_of_le_length (by omega),List.take_append_of_le_length (by simp; omega)]
    rwa [h6] at this
  ·trivial
 ·trivial
theorem rLen_ok (r:TR β T Tc) {t e:Nat} {x:CP} (hx:x.ok = true) (hs:isSl P t e = true) (hop:o.op = .call ⟨.builtin .len,#[x.op],#[t]⟩):RoOk P β H h Tc o (rLen t x e T H):=by
 unfold rLen fLen
 have hu:=Ab.isSl_spec hs
 split
 ·rename_i id off n sz c e
  obtain ⟨y,k,hy,hv,_⟩:=g_sl r hx e
  exact ⟨_,.i _ _,(r_len_slice (h:=fun _=>none) hop hu hv).pure0⟩
 ·rename_i c e
  obtain ⟨a,k,hv,_⟩:=g_z r hx e
  exact ⟨_,.i _ _,(r_len_slice (h:=fun _=>none) hop hu hv).pure0⟩
 ·rename_i e
  exact ⟨_,.i _ _,(r_len_slice (h:=fun _=>none) hop hu (g_ns r hx e)).pure0⟩
 ·trivial
theorem rLens_ok (r:TR β T Tc) {t:Nat} {x:CP} (hx:x.ok = true) (hs:isStr P t = true) (hop:o.op = .call ⟨.builtin .len,#[x.op],#[t]⟩):RoOk P β H h Tc o (rLens t x T H):=by
 unfold rLens fLens
 split
 ·rename_i l e
  obtain ⟨hv,_⟩:=g_s r hx e
  refine ⟨_,.i _ _,?_⟩
  have:=(r_len_string (P:=P) (h:=fun _=>none) hop (Ab.isStr_spec hs) hv).pure0
  have h1:(byt l).size = l.length:=by simp [byt,ByteArray.size]
  rw [h1] at this
  exact this
 ·trivial
theorem HR.map (r:HR N.toKy β H n0 ck h) {id:Id} {st t:Nat} {fl:Bool} {cl:Nat} {es:List (List Int × CV)} (e:hget id H = .map st t fl cl es) {x:Blk} (hx:β id = some x):∃ (s:Sh) (l:List (s.key × Value)) (bs:List Nat),N.sh t = some s ∧ h x.b = some (.map (MBn s.enc l bs).toArray cl) ∧ Bs bs cl l.length ∧ (fl = false → bs = List.range l.length ∧ cl = l.length) ∧ Keys1 l ∧ l.map (fun p=>p.1.1) = es.map (·.1) ∧ VRs β (es.map (·.2)) (l.map (·.2)):=by
 have:=r.obj id x hx
 rw [e] at this
 cases this with
 | map s hs l bs hb hbs hfl n1 hk hr=>exact ⟨s,l,bs,hs,hb,hbs,hfl,n1,hk,hr⟩
theorem MBn_len {κ:Type} (enc:κ → Value) (l:List (κ × Value)) (bs:List Nat) (h:bs.length = l.length):(MBn enc l bs).length = l.length:=by simp [MBn,h]
theorem MBn_born {κ:Type} (enc:κ → Value):∀ (l:List (κ × Value)) (bs:List Nat),bs.length = l.length → (MBn enc l bs).map (·.born) = bs
 | [],[],_=>rfl
 | [],_ :: _,h=>by simp at h
 | _ :: _,[],h=>by simp at h
 | p :: l,b :: bs,h=>by
  have:=MBn_born enc l bs (by simpa using h)
  simpa [MBn] using this
theorem MBn_rep {κ:Type} (enc:κ → Value):∀ (l:List (κ × Value)) (bs:List Nat),bs.length = l.length → EsRep enc (MBn enc l bs) l
 | [],[],_=>rfl
 | [],_ :: _,h=>by simp at h
 | _ :: _,[],h=>by simp at h
 | p :: l,b :: bs,h=>by
  have:=MBn_rep enc l bs (by simpa using h)
  simpa [MBn,EsRep] using this
theorem MBn_isMap {κ:Type} {enc:κ → Value} {l:List (κ × Value)} {bs:List Nat} {cl:Nat} {b:Nat} {g:Heap} (hb:g b = some (.map (MBn enc l bs).toArray cl)) (hbs:Bs bs cl l.length):IsMap g b enc l:=by
 refine ⟨_,_,hb,MBn_rep enc l bs hbs.len,?_,fun e he=>?_⟩
 ·simp only [MBn_born enc l bs hbs.len]; exact hbs.nd
 ·have:e.born ∈ (MBn enc l bs).map (·.born):=List.mem_map.2 ⟨e,he,rfl⟩
  rw [MBn_born enc l bs hbs.len] at this
  exact hbs.lt _ this
theorem MB_len {κ:Type} (enc:κ → Value) (l:List (κ × Value)):(MB enc l).length = l.length:=by simp [MB]
theorem MB_rep {κ:Type} (enc:κ → Value) (l:List (κ × Value)):EsRep enc (MB enc l) l:=by
 unfold EsRep MB
 rw [List.map_map]
 have h1:((fun e:MapEntry=>(e.key,e.val)) ∘ fun p:(κ × Value) × Nat=>({ key:=enc p.1.1,val:=p.1.2,born:=p.2 }:MapEntry)) = (fun p:κ × Value=>(enc p.1,p.2)) ∘ Prod.fst:=rfl
 rw [h1,← List.map_map,List.zipIdx_map_fst]
theorem rLenm_ok (r:TR β T Tc) (hr:HR N.toKy β H n0 ck h) {t:Nat} {x:CP} (hx:x.ok = true) (hs:(match P.underlying t with | some (.map _ _)=>true | _=>false) = true) (hop:o.op = .call ⟨.builtin .len,#[x.op],#[t]⟩):RoOk P β H h Tc o (rLenm t x T H):=by
 unfold rLenm fLenm
 split at hs
 case h_2=>cases hs
 rename_i kt et hu
 split
 ·rename_i id e
  split
  ·rename_i st t' fl cl es hc
   obtain ⟨y,hy,hv⟩:=g_m r hx e
   obtain ⟨s,l,bs,_,hb,hbs,_,_,hk,_⟩:=hr.map hc hy
   refine ⟨_,.i _ _,by rw [hop]; rfl,y,hy,by rw [hc]; rfl,fun g hg=>?_⟩
   have:=r_len_map (P:=P) hop hu hv (hg.trans hb)
   have h1:(MBn s.enc l bs).toArray.size = es.length:=by
    rw [List.size_toArray,MBn_len _ _ _ hbs.len]
    have:=congrArg List.length hk
    simpa using this
   rw [h1] at this
   exact this
  ·trivial
 ·rename_i e
  exact ⟨_,.i _ _,(r_len_map_nil (h:=fun _=>none) hop hu (g_nm r hx e)).pure0⟩
 ·trivial
theorem rMin_ok (r:TR β T Tc) {t:Nat} {x y:CP} (hx:x.ok = true) (hy:y.ok = true) (hop:o.op = .call ⟨.builtin .min,#[x.op,y.op],#[t,t]⟩):RoOk P β H h Tc o (rMin x y t T H):=by
 unfold rMin fMin
 split
 ·rename_i k n k' m e1 e2
  cases hk:ikb k k' with
  | false=>trivial
  | true =>
   have:=ikb_eq hk
   subst this
   refine ⟨_,.i _ _,?_⟩
   have:=(r_min2 (P:=P) (h:=fun _=>none) hop (g_i r hx e1) (g_i r hy e2)).pure0
   rw [iltb_eq]
   by_cases hm:m < n <;> simpa [hm] using this
 ·trivial
theorem rMax_ok (r:TR β T Tc) {t:Nat} {x y:CP} (hx:x.ok = true) (hy:y.ok = true) (hop:o.op = .call ⟨.builtin .max,#[x.op,y.op],#[t,t]⟩):RoOk P β H h Tc o (rMax x y t T H):=by
 unfold rMax fMax
 split
 ·rename_i k n k' m e1 e2
  cases hk:ikb k k' with
  | false=>trivial
  | true =>
   have:=ikb_eq hk
   subst this
   refine ⟨_,.i _ _,?_⟩
   have:=(r_max2 (P:=P) (h:=fun _=>none) hop (g_i r hx e1) (g_i r hy e2)).pure0
   rw [iltb_eq]
   by_cases hm:n < m <;> simpa [hm] using this
 ·trivial
theorem getp_ok (r:TR β T Tc):∀ {l:List (Nat × CP)},l.all (fun p=>p.2.ok) = true → (getp l T).map (·.1) = l.map (·.1) ∧ VRs β ((getp l T).map (·.2)) (l.map fun p=>ev Tc p.2.op)
 | [],_=>⟨rfl,.nil⟩
 | (i,x) :: l,hl=>by
  simp only [List.all_cons,Bool.and_eq_true] at hl
  obtain ⟨h1,h2⟩:=getp_ok r hl.2
  exact ⟨by simp only [getp,List.map_cons] at h1 ⊢; rw [← h1],.cons (CP.get_ok r x hl.1) h2⟩
theorem gets_ok (r:TR β T Tc):∀ {l:List CP},CPs l = true → VRs β (gets l T) (l.map fun p=>ev Tc p.op)
 | [],_=>.nil
 | x :: l,hl=>by
  simp only [CPs,List.all_cons,Bool.and_eq_true] at hl
  exact .cons (CP.get_ok r x hl.1) (gets_ok r hl.2)
theorem fillC_ok {pl:List (Nat × Nat)}:∀ {ps:List (Nat × CV)} {vs:List (Nat × Value)} {cs:List CV} {us:List Value} {cs':List CV},VRs β cs us → cs.all CV.one = true → ps.map (·.1) = vs.map (·.1) → VRs β (ps.map (·.2)) (vs.map (·.2)) → fillC pl cs ps = some cs' →
  ∃ us',fillL pl us vs = some us' ∧ VRs β cs' us' ∧ cs'.all CV.one = true
 | [],vs,cs,us,cs',r,h1,e1,r2,e=>by
  cases vs with
  | nil=>cases e; exact ⟨us,rfl,r,h1⟩
  | cons p vs=>simp at e1
 | (i,x) :: ps,vs,cs,us,cs',r,h1,e1,r2,e=>by
  cases vs with
  | nil=>simp at e1
  | cons p vs =>
   obtain ⟨i',v⟩:=p
   simp only [List.map_cons,List.cons.injEq] at e1
   obtain ⟨rfl,e1⟩:=e1
   cases r2 with
   | cons rx rs =>
    unfold fillC at e
    unfold fillL
    split at e
    ·cases e
    ·rename_i off size hp
     have rc:=rx.cells
     cases hc:(Nat.beq x.cells.length size && Nat.ble (off + size) cs.length && x.cells.all CV.one) with
     | false=>rw [hc] at e; cases e
     | true =>
      rw [hc] at e
      simp only [Bool.and_eq_true,Nat.beq_eq,Nat.ble_eq] at hc
      obtain ⟨⟨c1,c2⟩,c3⟩:=hc
      simp only [hp]
      have hlen:=rc.len
      rw [if_pos ⟨by rw [← c1,← hlen,Array.length_toList],by rw [r.len]; exact c2⟩]
      have hsz:v.cells.size = size:=by rw [← c1,← hlen,Array.length_toList]
      have h3:=(r.take off).append (rc.append (r.drop (off + size)))
      rw [← List.append_assoc (us.take off)] at h3
      refine fillC_ok (by simpa [hsz] using h3) ?_ e1 rs e
      rw [List.all_append,List.all_append,c3]
      have ha:=all_sub (l:=cs) (a:=0) (b:=off) h1
      have hb:=all_sub (l:=cs) (a:=off + size) (b:=cs.length) h1
      rw [List.drop_zero] at ha
      rw [List.take_of_length_le (by simp)] at hb
      rw [ha,hb]; rfl
theorem fill_mono {f g:Nat → Option (Nat × Nat)} (k:∀ i x,f i = some x → g i = some x):∀ {vs:List (Nat × Value)} {cs c:Array Value},Instr.fill f cs vs = some c → Instr.fill g cs vs = some c
 | [],cs,c,e=>e
 | (i,v) :: vs,cs,c,e=>by
  unfold Instr.fill at e ⊢
  cases hf:f i with
  | none=>rw [hf] at e; cases e
  | some x =>
   obtain ⟨off,size⟩:=x
   rw [hf] at e
   rw [k i _ hf]
   simp only at e ⊢
   split at e
   ·cases e
   ·rename_i hc
    rw [if_neg hc]
    exact fill_mono k e
theorem built_A {t:Nat} {pl:List (Nat × Nat)} {z:Array Value} {vs:List (Nat × Value)} {cells:Array Value} (hp:placesA P t = some pl) (hz:zeroOf P t = some z) (hc:Instr.fill (pl.toArray[·]?) z vs = some cells):P.built t vs = some cells:=by
 unfold placesA at hp
 split at hp
 ·rename_i n e hu
  unfold zeroOf at hz
  unfold Program.built
  cases hi:P.info? t with
  | none=>simp [hi] at hz
  | some it =>
   cases hzz:it.zero with
   | none=>simp [hi,hzz] at hz
   | some zz =>
    simp only [hi,hzz,Option.bind_some,Option.map_some,Option.some.injEq] at hz
    subst hz
    cases hie:P.info? e with
    | none=>simp [hie] at hp
    | some ie =>
     simp only [hie,Option.map_some,Option.some.injEq] at hp
     subst hp
     simp only [hu,hzz,hie]
     refine fill_mono (fun i x hx=>?_) hc
     simp only [List.getElem?_toArray,List.getElem?_map] at hx
     cases hr:(List.range n)[i]? with
     | none=>rw [hr] at hx; cases hx
     | some j =>
      rw [hr] at hx
      have:i = j:=by
       have:=(List.getElem?_eq_some_iff.1 hr).2
       simpa using this
      subst this
      simpa using hx
 ·cases hp
theorem rBld_ok (r:TR β T Tc) {t:Nat} {parts:List (Nat × CP)} {pl:List (Nat × Nat)} {z:List CV} (hx:parts.all (fun p=>p.2.ok) = true) (hp:placesOf P t = some pl ∨ placesA P t = some pl) (hz:zeroIs P t (CV.vals z) = true) (hzs:CV.shuts z = true) (hz1:z.all CV.one = true)
  (hop:o.op = .build t (parts.map fun p=>(p.1,p.2.op)).toArray):RoOk P β H h Tc o (rBld t parts pl z T H):=by
 unfold rBld fBld
 split
 ·rename_i cs e
  obtain ⟨h1,h2⟩:=getp_ok r hx
  obtain ⟨us,h3,h4,h5⟩:=fillC_ok (vs:=parts.map fun p=>(p.1,ev Tc p.2.op)) (shuts_ok β z hzs) hz1 (by rw [h1,List.map_map]; rfl) (by rw [List.map_map]; exact h2) e
  rcases hp with hp | hp
  ·exact ⟨_,.agg h5 h4,p_buildL hop (by simp) hp (Ab.zeroIs_eq hz) h3⟩
  ·refine ⟨_,.agg h5 h4,p_build (vs:=parts.map fun p=>(p.1,ev Tc p.2.op)) hop (by simp) (built_A hp (Ab.zeroIs_eq hz) (fill_fillL h3))⟩
 ·trivial
theorem rExt_ok (r:TR β T Tc) {i:Nat} {x:CP} (hx:x.ok = true) (hop:o.op = .extract x.op i):RoOk P β H h Tc o (rExt x i T H):=by
 unfold rExt; rw [fExt_eq]; unfold sExt
 split
 ·rename_i cs e
  split
  ·rename_i c hc
   obtain ⟨vs,hv,rv⟩:=g_tup r hx e
   obtain ⟨v,h1,h2⟩:=rv.get (nth_some hc)
   exact ⟨_,h2,p_val (by rw [hop]; simp only [pval,hv]; simpa using h1)⟩
  ·trivial
 ·trivial
theorem rMkf_ok (r:TR β T Tc) {f:Pos} {xs ys:List CP} (hx:CPs xs = true) (hy:CPs ys = true) (hop:o.op = .makeFunc (.func (f.nat - 1)) (xs.map CP.op).toArray (ys.map CP.op).toArray):RoOk P β H h Tc o (rMkf f xs ys T H):=by
 refine ⟨_,.fn f (gets_ok r hx) (gets_ok r hy),p_val ?_⟩
 rw [hop]
 simp [pval,Function.comp_def]
theorem rMki_ok (r:TR β T Tc) {t:Nat} {x:CP} (hx:x.ok = true) (hs:(match P.underlying t with | some (.interface _) | none=>false | _=>true) = true) (hop:o.op = .makeInterface t x.op):RoOk P β H h Tc o (rMki t x T H):=by
 refine ⟨_,.ifc t (CP.get_ok r x hx),p_val ?_⟩
 rw [hop]
 simp only [pval]
 split at hs
 ·cases hs
 ·cases hs
 ·rename_i h1 h2
  cases hu:P.underlying t with
  | none=>exact absurd hu h2
  | some d=>cases d <;> first | rfl | exact absurd hu (h1 _)
theorem bdF_ok (r:TR β T Tc) {d:Nat} {x:Option CP} {j:Nat} (hx:opC x = true) (e:bdF d x T = some j):((x.map CP.op = none) ∧ (j:Int) = d) ∨ ∃ y k,x.map CP.op = some y ∧ ev Tc y = .int k j:=by
 cases x with
 | none=>cases e; exact .inl ⟨rfl,rfl⟩
 | some y =>
  simp only [bdF,opG,bdV] at e
  split at e
  ·rename_i k j' hy; cases e; exact .inr ⟨_,k,rfl,g_i r hx hy⟩
  ·cases e
theorem rSli_ok (r:TR β T Tc) {t e sz:Nat} {x:CP} {lo hi:Option CP} (hx:x.ok = true) (hlo:opC lo = true) (hhi:opC hi = true) (hs:isSl P t e = true) (hz:P.cellsOf e = sz) (he:(P.info? e).isSome = true)
  (hop:o.op = .slice t x.op (lo.map CP.op) (hi.map CP.op) none):RoOk P β H h Tc o (rSli t x lo hi e sz T H):=by
 unfold rSli fSli
 have hu:=Ab.isSl_spec hs
 split
 ·rename_i id off n sz' c e0
  obtain ⟨y,kk,hy,hv,hn,hcc,hc⟩:=g_sl r hx e0
  split
  ·rename_i l k h1 h2
   have b1:=bdF_ok r hlo h1
   have b2:=bdF_ok r hhi h2
   cases hb:(Nat.beq sz sz' && Nat.ble l k && Nat.ble k n) with
   | false=>trivial
   | true =>
    simp only [Bool.and_eq_true,Nat.beq_eq,Nat.ble_eq] at hb
    obtain ⟨⟨c1,c2⟩,c3⟩:=hb
    subst c1
    have hps:=Ab.p_slice (P:=P) hop hu he hz hv hn b1 b2 c2 c3
    have hsub:subC c l = none ∨ subC c l = some (kk - l):=by
     rcases hc with rfl | rfl
     ·exact .inl rfl
     ·exact .inr rfl
    simp only [cond_true]
    cases hlk:Nat.beq l k with
    | true =>
     have:l = k:=Nat.eq_of_beq_eq_true hlk
     subst this
     rw [Nat.sub_self] at hps
     by_cases hkl:kk = l
     ·rw [if_pos hkl] at hps; exact ⟨_,.z hsub (fun e=>by cases e),hps⟩
     ·rw [if_neg hkl] at hps; exact ⟨_,.z hsub (fun e=>by cases e),hps⟩
    | false =>
     have hne:l ≠ k:=fun e=>by rw [e,Nat.beq_refl] at hlk; cases hlk
     have hkl:kk ≠ l:=by omega
     rw [if_neg hkl] at hps
     have ha:(Addr.mk y.b off none).add (l * sz) = ⟨y.b,off + l * sz,none⟩:=by unfold Addr.add; split <;> simp_all
     simp only [Option.map_some,ha] at hps
     refine ⟨_,.sl hy (by omega) ?_ hsub,hps⟩
     have:(l + (kk - l)) * sz = kk * sz:=by congr 1; omega
     rw [Nat.add_mul] at this
     omega
  ·trivial
 ·rename_i c e0
  obtain ⟨a,kk,hv,hc,hn⟩:=g_z r hx e0
  split
  ·rename_i h1 h2
   have b1:=bdF_ok r hlo h1
   have b2:=bdF_ok r hhi h2
   have hps:=Ab.p_slice (P:=P) (l:=0) (k:=0) hop hu he hz hv (Nat.zero_le _) b1 b2 (Nat.le_refl _) (Nat.le_refl _)
   have ha:Option.map (fun x:Addr=>x.add (0 * sz)) a = a:=by cases a <;> simp [Addr.add]
   rw [ha,ite_self] at hps
   exact ⟨_,.z hc hn,hps⟩
  ·trivial
 ·rename_i e0
  split
  ·rename_i h1 h2
   have b1:=bdF_ok r hlo h1
   have b2:=bdF_ok r hhi h2
   have hps:=Ab.p_slice (P:=P) (l:=0) (k:=0) hop hu he hz (g_ns r hx e0) (Nat.le_refl _) b1 b2 (Nat.le_refl _) (Nat.le_refl _)
   rw [Option.map_none,ite_self] at hps
   exact ⟨_,.ns,hps⟩
  ·trivial
 ·trivial
theorem rSl0_ok (r:TR β T Tc) {t e:Nat} {x hi mx:CP} (hx:x.ok = true) (hhi:hi.ok = true) (hmx:mx.ok = true) (hs:isSl P t e = true) (he:(P.info? e).isSome = true)
  (hop:o.op = .slice t x.op none (some hi.op) (some mx.op)):RoOk P β H h Tc o (rSl0 t x hi mx e T H):=by
 unfold rSl0 fSl0
 have hu:=Ab.isSl_spec hs
 split
 ·rename_i k1 k2 e1 e2
  split
  ·rename_i id off n sz c e0
   obtain ⟨y,kk,hy,hv,_⟩:=g_sl r hx e0
   exact ⟨_,.z (.inr rfl) (fun e=>by cases e),p_slice_000 hop hu he hv (g_i r hhi e1) (g_i r hmx e2)⟩
  ·rename_i e0
   obtain ⟨a,kk,hv,_,hn⟩:=g_z r hx e0
   exact ⟨_,.z (.inl rfl) (fun _=>⟨rfl,rfl⟩),p_slice_000 hop hu he hv (g_i r hhi e1) (g_i r hmx e2)⟩
  ·rename_i c e0
   obtain ⟨a,kk,hv,_,hn⟩:=g_z r hx e0
   exact ⟨_,.z (.inr rfl) (fun e=>by cases (hn e).2),p_slice_000 hop hu he hv (g_i r hhi e1) (g_i r hmx e2)⟩
  ·rename_i e0
   exact ⟨_,.ns,p_slice_000 hop hu he (g_ns r hx e0) (g_i r hhi e1) (g_i r hmx e2)⟩
  ·trivial
 ·trivial
theorem keyOf_ok {s:Sh} {c:CV} {l:List Int} (e:keyOf s c = some l) {v:Value} (hv:VR β c v):∃ hl:l.length = s.n,v = s.enc ⟨l,hl⟩:=by
 unfold keyOf at e
 split at e
 ·rename_i k k' n
  cases hk:ikb k k' with
  | false=>rw [hk] at e; cases e
  | true =>
   rw [hk] at e
   have:=ikb_eq hk
   subst this
   cases e
   cases hv
   exact ⟨rfl,rfl⟩
 ·rename_i ks cs
  cases hv with
  | agg h1 rv =>
   obtain ⟨h2,h3⟩:=nums_ok e rv
   exact ⟨h2,by rw [h3]; rfl⟩
 ·cases e
theorem zIs_ok {t:Nat} {z:CV} (h:zIs P t z = true):zeroV P t = some z.val:=by
 unfold zIs at h
 split at h
 ·rename_i v hv
  rw [hv]
  simp only [Bool.and_eq_true] at h
  have h1:=Ab.sameZs_eq h.1
  have h2:=h.2
  generalize z.val = w at h1 h2
  have h1:v.cells = w.cells:=Array.ext' h1
  congr 1
  clear hv
  cases v <;> cases w <;> first | (simp at h2; done) | rfl | (simp [Value.cells] at h1; done) | (simp [Value.cells] at h1; simp [h1])
 ·cases h
theorem findE_ok {s:Sh} {k:List Int} (hk:k.length = s.n):∀ {es:List (List Int × CV)} {l:List (s.key × Value)},l.map (fun p=>p.1.1) = es.map (·.1) → VRs β (es.map (·.2)) (l.map (·.2)) →
  (∀ c,findE k es = some c → hasK l ⟨k,hk⟩ = true ∧ ∃ v,getK l ⟨k,hk⟩ = some v ∧ VR β c v) ∧ (findE k es = none → hasK l ⟨k,hk⟩ = false ∧ getK l ⟨k,hk⟩ = none)
 | [],[],_,_=>⟨fun c e=>(by cases e),fun _=>⟨rfl,rfl⟩⟩
 | [],_ :: _,e,_=>by simp at e
 | _ :: _,[],e,_=>by simp at e
 | e :: es,p :: l,h1,h2=>by
  simp only [List.map_cons,List.cons.injEq] at h1
  simp only [List.map_cons] at h2
  cases h2 with
  | cons r1 r2 =>
   obtain ⟨i1,i2⟩:=findE_ok hk h1.2 r2
   have hd:keq k e.1 = decide ((⟨k,hk⟩:s.key) = p.1):=by
    rw [keq_eq,← h1.1]
    rw [Bool.eq_iff_iff,decide_eq_true_eq,decide_eq_true_eq]
    exact ⟨fun e=>Subtype.ext e,fun e=>congrArg Subtype.val e⟩
   unfold findE hasK getK
   rw [hd]
   cases hdd:decide ((⟨k,hk⟩:s.key) = p.1) with
   | true =>
    simp only [cond_true,List.any_cons,hdd,Bool.true_or,List.find?_cons,Option.map_some]
    exact ⟨fun c e=>by cases e; exact ⟨trivial,_,rfl,r1⟩,fun e=>by cases e⟩
   | false =>
    simp only [cond_false,List.any_cons,hdd,Bool.false_or,List.find?_cons]
    exact ⟨i1,i2⟩
theorem rLku_ok (r:TR β T Tc) (hr:HR N.toKy β H n0 ck h) {t et:Nat} {s:Sh} {x k:CP} {ok:Bool} {z:CV} (hx:x.ok = true) (hk:k.ok = true) (hs:shOk N.sh t s = true) (hz:z.shut = true) (hzi:zIs P et z = true) (het:(match P.underlying t with | some (.map _ et')=>et' == et | _=>false) = true)
  (hop:o.op = .lookup t x.op k.op ok):RoOk P β H h Tc o (rLku t s x k ok et z T H):=by
 unfold rLku fLku
 simp only [findER_eq]
 have hsh:=shOk_spec hs
 obtain ⟨kt,et',d,hu,hd,law⟩:=N.law t s hsh
 rw [hu] at het
 have het:et' = et:=by simpa using het
 subst het
 have hzv:=zIs_ok hzi
 split
 ·rename_i l e
  obtain ⟨hl,hkv⟩:=keyOf_ok e (CP.get_ok r k hk)
  split
  ·rename_i id e0
   split
   ·rename_i st t' fl cl es hc
    obtain ⟨y,hy,hv⟩:=g_m r hx e0
    obtain ⟨s',l',bs,hs',hb,hbs,hfl,n1,hkk,hvv⟩:=hr.map hc hy
    cases htt:Nat.beq t t' with
    | false=>trivial
    | true =>
     have:=Nat.eq_of_beq_eq_true htt
     subst this
     rw [hsh] at hs'
     cases hs'
     obtain ⟨i1,i2⟩:=findE_ok hl hkk hvv
     have rd:∀ g:Heap,g y.b = h y.b → ReadOp P o (ev Tc) g (if ok then .tuple #[(getK l' ⟨l,hl⟩).getD z.val,.bool (hasK l' ⟨l,hl⟩)] else (getK l' ⟨l,hl⟩).getD z.val):=fun g hg =>
      r_lookupZ law hop hu hd hzv hv hkv (MBn_isMap (hg.trans hb) hbs)
     simp only [cond_true]
     split
     ·rename_i v hf
      obtain ⟨h1,v',h2,h3⟩:=i1 v hf
      rw [h1,h2] at rd
      cases ok with
      | true=>exact ⟨_,.tup (.cons h3 (.cons (.b true) .nil)),by rw [hop]; rfl,y,hy,by rw [hc]; rfl,fun g hg=>rd g hg⟩
      | false=>exact ⟨_,h3,by rw [hop]; rfl,y,hy,by rw [hc]; rfl,fun g hg=>rd g hg⟩
     ·rename_i hf
      obtain ⟨h1,h2⟩:=i2 hf
      rw [h1,h2] at rd
      cases ok with
      | true=>exact ⟨_,.tup (.cons (shut_ok β z hz) (.cons (.b false) .nil)),by rw [hop]; rfl,y,hy,by rw [hc]; rfl,fun g hg=>rd g hg⟩
      | false=>exact ⟨_,shut_ok β z hz,by rw [hop]; rfl,y,hy,by rw [hc]; rfl,fun g hg=>rd g hg⟩
   ·trivial
  ·rename_i e0
   have:=(r_lookup_nilZ (P:=P) (h:=fun _=>none) law hop hu hd hzv (g_nm r hx e0) hkv).pure0
   cases ok with
   | true=>exact ⟨_,.tup (.cons (shut_ok β z hz) (.cons (.b false) .nil)),this⟩
   | false=>exact ⟨_,shut_ok β z hz,this⟩
  ·trivial
 ·trivial
theorem r_neg {ρ:Operand → Value} {t:TypeId} {x:Operand} {k:IntKind} {a:Int} (ho:o.op = .unOp .neg t x) (hx:ρ x = .int k a):ReadOp P o ρ h (.int k (k.wrap (0 - a))):=by
 intro w r
 simp [execOp,ho,hx,Op.unary,Op.intArith]
theorem rNeg_ok (r:TR β T Tc) {t:Nat} {x:CP} (hx:x.ok = true) (hop:o.op = .unOp .neg t x.op):RoOk P β H h Tc o (rNeg t x T H):=by
 unfold rNeg fNeg
 rw [CV.onI_eq]
 split
 ·rename_i k n e
  rw [subF_eq]
  refine ⟨_,.i _ _,?_⟩
  rw [wrF_eq]
  exact (r_neg (h:=fun _=>none) hop (g_i r hx e)).pure0
 ·trivial
theorem byt_part (l:List Nat) (a b:Nat) (h:b ≤ l.length):(byt l).extract a b = byt ((l.drop a).take (b - a)):=by
 apply ByteArray.ext
 rw [ByteArray.data_extract]
 apply Array.ext'
 simp [byt,List.extract_eq_take_drop,List.map_take,List.map_drop]
theorem p_slice_str {ρ:Operand → Value} {t:TypeId} {x:Operand} {lo hi:Option Operand} {s:ByteArray} {l k:Nat} (ho:o.op = .slice t x lo hi none) (hu:P.underlying t = some .string) (hx:ρ x = .string s)
  (hl:(lo = none ∧ (l:Int) = 0) ∨ ∃ y kk,lo = some y ∧ ρ y = .int kk l) (hh:(hi = none ∧ (k:Int) = s.size) ∨ ∃ y kk,hi = some y ∧ ρ y = .int kk k) (c1:l ≤ k) (c2:k ≤ s.size):PureOp P o ρ (.string (s.extract l k)):=by
 intro w
 rcases hl with ⟨rfl,hl⟩ | ⟨y,kk,rfl,hl⟩ <;> rcases hh with ⟨rfl,hh⟩ | ⟨z,kz,rfl,hh⟩
 ·have:l = 0:=by omega
  have:k = s.size:=by omega
  subst_vars
  simp [execOp,ho,Instr.sliceAt,Instr.slice,run_underlying hu,hx,Instr.sliceBounds]
 ·have:l = 0:=by omega
  subst_vars
  simp [execOp,ho,Instr.sliceAt,Instr.slice,run_underlying hu,hx,Instr.sliceBounds,Instr.sliceBound,asIntOf,hh,c2]
 ·have:k = s.size:=by omega
  subst_vars
  simp [execOp,ho,Instr.sliceAt,Instr.slice,run_underlying hu,hx,Instr.sliceBounds,Instr.sliceBound,asIntOf,hl,c1]
 ·simp [execOp,ho,Instr.sliceAt,Instr.slice,run_underlying hu,hx,Instr.sliceBounds,Instr.sliceBound,asIntOf,hl,hh,c1,c2]
theorem rSlis_ok (r:TR β T Tc) {t:Nat} {x:CP} {lo hi:Option CP} (hx:x.ok = true) (hlo:opC lo = true) (hhi:opC hi = true) (hs:isStr P t = true)
  (hop:o.op = .slice t x.op (lo.map CP.op) (hi.map CP.op) none):RoOk P β H h Tc o (rSlis t x lo hi T H):=by
 unfold rSlis
 rw [fSlis_eq]
 split
 ·rename_i l e0
  obtain ⟨hv,hb⟩:=g_s r hx e0
  split
  ·rename_i a b h1 h2
   have b1:=bdF_ok r hlo h1
   have b2:=bdF_ok r hhi h2
   cases hc:(Nat.ble a b && Nat.ble b l.length) with
   | false=>trivial
   | true =>
    simp only [Bool.and_eq_true,Nat.ble_eq] at hc
    have hsz:(byt l).size = l.length:=by simp [byt,ByteArray.size]
    have hp:=p_slice_str (P:=P) hop (Ab.isStr_spec hs) hv b1 (by rw [hsz]; exact b2) hc.1 (by rw [hsz]; exact hc.2)
    rw [byt_part l a b hc.2] at hp
    refine ⟨_,.s _ ?_,hp⟩
    rw [List.all_eq_true] at hb ⊢
    exact fun y hy=>hb y (List.mem_of_mem_drop (List.mem_of_mem_take hy))
  ·trivial
 ·trivial
theorem p_slice_arr {t e:TypeId} {x:Operand} {lo hi:Option Operand} {a:Addr} {n l k sz:Nat} (hop:o.op = .slice t x lo hi none) (hu:P.underlying t = some (.array n e)) (he:(P.info? e).isSome = true) (hs:P.cellsOf e = sz) (hx:ev Tc x = .pointer (some a))
  (hl:(lo = none ∧ (l:Int) = 0) ∨ ∃ y kk,lo = some y ∧ ev Tc y = .int kk l) (hk:(hi = none ∧ (k:Int) = n) ∨ ∃ y kk,hi = some y ∧ ev Tc y = .int kk k) (hlk:l ≤ k) (hkn:k ≤ n) :
  PureOp P o (ev Tc) (.slice (some (if n = l then a else a.add (l * sz))) (k - l) (n - l)):=by
 intro w
 subst hs
 have h1:∀ y:Nat,∀ kk:IntKind,∀ m:Nat,∀ bc:BoundsCode,y ≤ m → (Instr.sliceBound (.int kk (y:Int)) m bc).run P w = .ok y w:=fun y kk m bc hm=>by
  have:(0:Int) ≤ (y:Int) ∧ (y:Int) ≤ (m:Int):=by omega
  simp [Instr.sliceBound,asIntOf,this] <;> omega
 have hb:(Instr.sliceBounds false n n (lo.map (ev Tc)) (hi.map (ev Tc)) none).run P w = .ok (l,k,n) w:=by
  rcases hl with ⟨rfl,h2⟩ | ⟨y,kk,rfl,h2⟩ <;> rcases hk with ⟨rfl,h3⟩ | ⟨z,kz,rfl,h3⟩
  ·have:l = 0:=by omega
   have:k = n:=by omega
   subst_vars; simp [Instr.sliceBounds]
  ·have:l = 0:=by omega
   subst this
   simp [Instr.sliceBounds,h3,h1 k kz n _ hkn]
  ·have:k = n:=by omega
   subst this
   simp [Instr.sliceBounds,h2,h1 l kk k _ hlk]
  ·simp [Instr.sliceBounds,h2,h3,h1 l kk k _ hlk,h1 k kz n _ hkn]
 simp only [execOp,hop,Instr.sliceAt,Sem.run_bind,run_underlying hu,Result.andThen_ok,Instr.sureAddr,hx,Option.map_none,hb,run_cellsOf _ _ he,Sem.run_pure]
theorem rSlia_ok (r:TR β T Tc) (hr:HR N.toKy β H n0 ck h) {t e sz n:Nat} {x:CP} {lo hi:Option CP} (hx:x.ok = true) (hlo:opC lo = true) (hhi:opC hi = true) (hs:isArr P t n e = true) (hz:P.cellsOf e = sz) (he:(P.info? e).isSome = true)
  (hop:o.op = .slice t x.op (lo.map CP.op) (hi.map CP.op) none):RoOk P β H h Tc o (rSlia t x lo hi e sz n T H):=by
 unfold rSlia
 rw [fSlia_eq]
 unfold sSlia
 simp only [leR_eq]
 split
 ·rename_i id off e0
  obtain ⟨y,hy,hv⟩:=g_p r hx e0
  split
  ·rename_i l k h1 h2
   have b1:=bdF_ok r hlo h1
   have b2:=bdF_ok r hhi h2
   split
   ·rename_i st t' cs hc
    cases hb:(Nat.ble l k && Nat.ble k n && Nat.ble (off + n * sz) cs.length) with
    | false=>trivial
    | true =>
     simp only [Bool.and_eq_true,Nat.ble_eq] at hb
     obtain ⟨⟨c1,c2⟩,c3⟩:=hb
     obtain ⟨vs,tl,hh,hl,rv,ho⟩:=hr.cells hc hy
     have hlen:=rv.len
     have hps:=p_slice_arr (P:=P) hop (Ab.isArr_spec hs) he hz hv b1 b2 c1 c2
     simp only [cond_true]
     cases hlk:Nat.beq l k with
     | true =>
      have:l = k:=Nat.eq_of_beq_eq_true hlk
      subst this
      rw [Nat.sub_self] at hps
      exact ⟨_,.z (.inr rfl) (fun e=>by cases e),hps⟩
     | false =>
      have hne:l ≠ k:=fun e=>by rw [e,Nat.beq_refl] at hlk; cases hlk
      have hkl:n ≠ l:=by omega
      rw [if_neg hkl] at hps
      have ha:(Addr.mk y.b off none).add (l * sz) = ⟨y.b,off + l * sz,none⟩:=by unfold Addr.add; split <;> simp_all
      rw [ha] at hps
      refine ⟨_,.sl hy (by omega) ?_ (.inr rfl),hps⟩
      have h3:(l + (n - l)) * sz = n * sz:=by congr 1; omega
      rw [Nat.add_mul] at h3
      have:(vs ++ tl).length = vs.length + tl.length:=List.length_append
      omega
   ·trivial
  ·trivial
 ·trivial
theorem rS2a_ok (r:TR β T Tc) {t n:Nat} {x:CP} (hx:x.ok = true) (hs:arrN P t n = true) (hop:o.op = .sliceToArrayPointer t x.op):RoOk P β H h Tc o (rS2a t x n T H):=by
 unfold rS2a
 rw [fS2a_eq]
 unfold sS2a
 split
 ·rename_i id off m sz c e0
  obtain ⟨y,k,hy,hv,hn,hcc,_⟩:=g_sl r hx e0
  obtain ⟨e,hu⟩:=arrN_spec hs
  cases hb:Nat.ble n m with
  | false=>trivial
  | true =>
   have hle:=Nat.le_of_ble_eq_true hb
   refine ⟨_,.p off hy,?_⟩
   intro w
   have hlt:¬ m < n:=by omega
   simp [execOp,hop,Instr.arrayAt,run_underlying hu,hv,hlt]
 ·trivial
end
end Go.Proofs.YtihdpjinaafenaaGreatDoor.Ce

/- Literals of lists of several. -/
namespace Go.Proofs.YtihdpjinaafenaaGreatDoor.Sl
theorem fill_seq:∀ (vs pre post:List Value),post.length = vs.length → (∀ v ∈ vs,v.cells = #[v]) → Instr.fill (fun j=>some (j * 1,1)) (pre ++ post).toArray ((vs.zipIdx pre.length).map fun x=>(x.2,x.1)) = some (pre ++ vs).toArray
 | [],pre,post,hl,_=>by
  have:post = []:=List.eq_nil_of_length_eq_zero hl
  subst this
  simp [Instr.fill]
 | v :: vs,pre,[],hl,_=>by simp at hl
 | v :: vs,pre,p :: post,hl,hv=>by
  have hv0:=hv v (by simp)
  rw [List.zipIdx_cons,List.map_cons]
  unfold Instr.fill
  simp only
  have h2:(decide (v.cells.size ≠ 1) || decide (pre.length * 1 + v.cells.size > (pre ++ p :: post).toArray.size)) = false:=by
   rw [hv0]; simp only [Bool.or_eq_false_iff,decide_eq_false_iff_not,List.size_toArray,List.length_append,List.length_cons]
   refine ⟨by simp,?_⟩
   show ¬ (pre.length * 1 + 1 > _); omega
  rw [h2]
  simp only [Bool.false_eq_true,if_false]
  rw [fill_at (by rw [hv0]; simp),hv0]
  have h3:((pre ++ p :: post).toArray.toList.take (pre.length * 1) ++ (#[v]:Array Value).toList ++ (pre ++ p :: post).toArray.toList.drop (pre.length * 1 + (#[v]:Array Value).size)) = (pre ++ [v]) ++ post:=by
   rw [Nat.mul_one]
   have h4:(pre ++ p :: post).drop (pre.length + 1) = post:=by
    rw [← List.drop_drop,List.drop_left]; rfl
   show (pre ++ p :: post).take pre.length ++ [v] ++ (pre ++ p :: post).drop (pre.length + 1) = _
   rw [List.take_left,h4]
  rw [h3]
  have ih:=fill_seq vs (pre ++ [v]) post (by simpa using hl) (fun u hu=>hv u (by simp [hu]))
  simp only [List.length_append,List.length_cons,List.length_nil,Nat.zero_add] at ih
  rw [ih]; simp
theorem a_buildSliceN {P:Program} {o:Oper} {ρ:Operand → Value} {t e n:Nat} {parts:Array (Nat × Operand)} {vs:List Value} (ho:o.op = .buildSlice t n parts) (hu:P.underlying t = some (.slice e)) (hi:infoOk P e 1 = true)
  (hv:(parts.map fun (i,x)=>(i,ρ x)).toList = (vs.zipIdx 0).map fun x=>(x.2,x.1)) (hn:vs.length = n) (hone:∀ v ∈ vs,v.cells = #[v]) (h0:0 < n) (h1:n ≤ 1000):AllocOp P o ρ (.cells vs.toArray e) (fun b=>.slice (some ⟨b,0,none⟩) n n):=by
 obtain ⟨i,z,hi,hz,hs,hz1,hb⟩:=infoOk_spec hi
 have hcell:P.cellsOf e = 1:=by simp [Program.cellsOf,hi,hs]
 refine a_buildSlice (cells:=vs.toArray) ho hu ?_ (by rw [hcell]; omega) (by rw [hcell]; omega)
 unfold sliceLit
 simp only [hi,hz,hs]
 rw [hv]
 have:=fill_seq vs [] ((Array.range (n * 1)).map (fun j=>z.cells[j % z.cells.size]!)).toList (by simp [hn]) hone
 simp only [List.nil_append,Array.toArray_toList,List.length_nil] at this
 exact this
end Go.Proofs.YtihdpjinaafenaaGreatDoor.Sl

/- What acts: new cells, stores, appends, slices made: how the objects turn. -/
namespace Go.Proofs.YtihdpjinaafenaaGreatDoor.Ab
open Go.Proofs.YtihdpjinaafenaaGreatDoor.Sl
def nmNe (d:Nat):AV → Bool
 | .os id=>!(id == d)
 | .oe id _ _ _=>!(id == d)
 | _=>true
theorem nmNe_spec {d:Nat} {a:AV} (h:nmNe d a = true):a.nm ≠ some d:=by
 cases a <;> simp [nmNe,AV.nm] at h ⊢ <;> exact h
def nmT (d:Nat):AT → Bool
 | []=>true
 | e :: r=>nmNe d e.2 && nmT d r
def nmL (d:Nat):AL → Bool
 | []=>true
 | e :: r=>nmNe d e.2.2 && nmL d r
def nmC (d:Nat):List AV → Bool
 | []=>true
 | e :: r=>nmNe d e && nmC d r
def nmS (d:Nat):AS → Bool
 | []=>true
 | e :: r=>!(e.1 == d) && nmC d e.2.cells && nmS d r
theorem nmT_spec {d:Nat}:∀ {T:AT},nmT d T = true → ∀ e ∈ T,e.2.nm ≠ some d
 | [],_,e,he=>by cases he
 | x :: r,h,e,he=>by
  simp only [nmT,Bool.and_eq_true] at h
  rcases List.mem_cons.1 he with rfl | he
  ·exact nmNe_spec h.1
  ·exact nmT_spec h.2 e he
theorem nmL_spec {d:Nat}:∀ {T:AL},nmL d T = true → ∀ e ∈ T,e.2.2.nm ≠ some d
 | [],_,e,he=>by cases he
 | x :: r,h,e,he=>by
  simp only [nmL,Bool.and_eq_true] at h
  rcases List.mem_cons.1 he with rfl | he
  ·exact nmNe_spec h.1
  ·exact nmL_spec h.2 e he
theorem nmC_spec {d:Nat}:∀ {T:List AV},nmC d T = true → ∀ e ∈ T,e.nm ≠ some d
 | [],_,e,he=>by cases he
 | x :: r,h,e,he=>by
  simp only [nmC,Bool.and_eq_true] at h
  rcases List.mem_cons.1 he with rfl | he
  ·exact nmNe_spec h.1
  ·exact nmC_spec h.2 e he
theorem nmS_spec {d:Nat}:∀ {T:AS},nmS d T = true → ∀ e ∈ T,e.1 ≠ d ∧ ∀ c ∈ e.2.cells,c.nm ≠ some d
 | [],_,e,he=>by cases he
 | x :: r,h,e,he=>by
  simp only [nmS,Bool.and_eq_true] at h
  rcases List.mem_cons.1 he with rfl | he
  ·exact ⟨by simpa using h.1.1,nmC_spec h.1.2⟩
  ·exact nmS_spec h.2 e he
def okNew (d:Nat) (T:AT) (L:AL) (σ:AS):Bool:=nmT d T && nmL d L && nmS d σ && decide (d < 1000)
def setS:AS → Nat → OO → AS
 | [],_,_=>[]
 | e :: r,id,x=>if e.1 = id then (id,x) :: r else e :: setS r id x
def pA (id:Nat):AV → AV
 | .os j=>if j = id then .hid else .os j
 | .oe j sz i p=>if j = id then .hid else .oe j sz i p
 | a=>a
def pT (id:Nat):AT → AT
 | []=>[]
 | e :: r=>(e.1,pA id e.2) :: pT id r
def pL (id:Nat):AL → AL
 | []=>[]
 | e :: r=>(e.1,e.2.1,pA id e.2.2) :: pL id r
def pC (id:Nat):List AV → List AV
 | []=>[]
 | a :: r=>pA id a :: pC id r
def pO (id:Nat):OO → OO
 | .box t cs=>.box t (pC id cs)
 | x=>x
def pS (id:Nat):AS → AS
 | []=>[]
 | e :: r=>(e.1,pO id e.2) :: pS id r
def rowsOf (n:Nat) (f:Nat → List FV):List (List FV):=(List.range n).map f
def srcRows (σ:AS) (sz:Nat):Option AV → Option (Prop × List (List FV))
 | some (.fz y)=>match asSl y with
  | some (n,f)=>some (∀ i,i < n → (f i).length = sz,rowsOf n f)
  | none=>none
 | some (.os id)=>match lookS σ id with
  | some (.rows _ sz' rows)=>if sz' = sz then some (True,rows) else none
  | _=>none
 | _=>none
def row1:AV → Option (List FV)
 | .fz y=>some y.cells
 | _=>none
def rowsP (o:Operand → Option AV):List (Nat × Operand) → Option (List (List FV))
 | []=>some []
 | (_,x) :: r=>match o x with
  | some (.fz y)=>match rowsP o r with
   | some ys=>some (y.cells :: ys)
   | none=>none
  | _=>none
structure RA where
 ob:Prop
 v:AV
 σ:AS
 md:Option Nat
 nw:Option Nat
 pg:Option Nat
def pa (T:AT) (L:AL) (σ:AS) (o:Operand → Option AV) (d:Option Nat):K → Option RA
 | .box t x z=>match o x,d with
  | some (.fz y),some d=>if z then some ⟨True,.fz (.fp y.cells),σ,none,none,none⟩
   else if okNew d T L σ then some ⟨True,.oe d y.cells.length 0 0,(d,.box t (y.cells.map .fz)) :: σ,none,some d,none⟩ else none
  | some (.os id),some d=>match lookS σ id with
   | some (.rows _ _ _)=>if okNew d T L σ then some ⟨True,.oe d 1 0 0,(d,.box t [.os id]) :: σ,none,some d,none⟩ else none
   | _=>none
  | some (.oe id sz i p),some d=>if okNew d T L σ then some ⟨True,.oe d 1 0 0,(d,.box t [.oe id sz i p]) :: σ,none,some d,none⟩ else none
  | _,_=>none
 | .alc t zs z=>match d with
  | some d=>if z then some ⟨True,.fz (.fp (zs.map .val)),σ,none,none,none⟩
   else if okNew d T L σ then some ⟨True,.oe d zs.length 0 0,(d,.box t (zs.map fun v=>.fz (.val v))) :: σ,none,some d,none⟩ else none
  | none=>none
 | .st _ x y=>match o x,o y with
  | some (.oe id sz i p),some a=>match lookS σ id with
   | some (.box t cells)=>match a with
    | .fz y=>if i = 0 then some ⟨p < cells.length ∧ y.one = true,.hid,setS σ id (.box t (cells.set p (.fz y))),some id,none,none⟩ else none
    | .hid=>none
    | .os j=>match lookS σ j with
     | some (.rows _ _ _)=>if i = 0 then some ⟨p < cells.length,.hid,setS σ id (.box t (cells.set p (.os j))),some id,none,none⟩ else none
     | _=>none
    | .oe a b c e=>if i = 0 then some ⟨p < cells.length,.hid,setS σ id (.box t (cells.set p (.oe a b c e))),some id,none,none⟩ else none
   | some (.rows t sz' rows)=>match a with
    | .fz y=>if sz' = sz then some ⟨(i < rows.length ∧ p < sz) ∧ y.one = true,.hid,setS σ id (.rows t sz (rows.set i ((rows.getD i []).set p y))),some id,none,none⟩ else none
    | _=>none
   | _=>none
  | _,_=>none
 | .stN _ x y n=>match o x,o y with
  | some (.oe id sz i p),some (.fz (.agg cs))=>match lookS σ id with
   | some (.box t cells)=>if i = 0 then some ⟨(p + n ≤ cells.length ∧ cs.length = n) ∧ cs.all FV.one = true,.hid,setS σ id (.box t (cells.take p ++ cs.map .fz ++ cells.drop (p + n))),some id,none,none⟩ else none
   | some (.rows t sz' rows)=>if sz' = sz ∧ p = 0 ∧ n = sz then some ⟨(i < rows.length ∧ cs.length = n) ∧ cs.all FV.one = true,.hid,setS σ id (.rows t sz (rows.set i cs)),some id,none,none⟩ else none
   | _=>none
  | _,_=>none
 | .app _ _ x y e _ sz=>match o x,srcRows σ sz (o y),d with
  | some (.fz (.val (.slice none 0 0))),some (q,news),some d=>if okNew d T L σ then some ⟨(q ∧ news.length ≤ 34359738368) ∧ ∀ r ∈ news,r.all FV.one = true,.os d,(d,.rows e sz news) :: σ,none,some d,none⟩ else none
  | some (.os id),some (q,news),some _=>match lookS σ id with
   | some (.rows t sz' rows)=>if (t = e ∧ sz' = sz) ∧ id < 1000 then some ⟨(q ∧ rows.length + news.length ≤ 34359738368) ∧ ∀ r ∈ news,r.all FV.one = true,.os id,setS (pS id σ) id (.rows e sz (rows ++ news)),some id,none,some id⟩ else none
   | _=>none
  | _,_,_=>none
 | .bsl _ n parts e sz z=>match rowsP o parts,d with
  | some rows,some d=>if z then some ⟨(∀ r ∈ rows,r.length = sz) ∧ ∀ r ∈ rows,r.all FV.one = true,.fz (slL rows),σ,none,none,none⟩
   else if okNew d T L σ then some ⟨(∀ r ∈ rows,r.length = sz) ∧ ∀ r ∈ rows,r.all FV.one = true,.os d,(d,.rows e sz rows) :: σ,none,some d,none⟩ else none
  | _,_=>none
 | .mks _ x y e sz zs=>match o x,o y,d with
  | some (.fz (.val (.int _ l))),some (.fz (.val (.int _ c))),some d=>if okNew d T L σ then some ⟨0 ≤ l ∧ l ≤ c ∧ c ≤ 1000000,.os d,(d,.rows e sz (List.replicate l.toNat (zs.map .val))) :: σ,none,some d,none⟩ else none
  | _,_,_=>none
 | _=>none
end Go.Proofs.YtihdpjinaafenaaGreatDoor.Ab

/- What acts: that the operations turn the objects just so. -/
namespace Go.Proofs.YtihdpjinaafenaaGreatDoor.Ab
open Go.Proofs.YtihdpjinaafenaaGreatDoor.Sl
section
variable {P : Program} {h0 : Gd} {β β' : Nat → Value} {hF hF' h h' : Heap} {Tc : Tm} {T : AT} {L : AL} {σ : AS} {o : Oper}
theorem OOk.fr {id:Nat} {x:OO} (k:OOk β hF h id x) (l:hF.le hF') (e:∀ b,fpOf (β id) x b → h' b = h b) (e1:β' id = β id) (e2:∀ c ∈ x.cells,∀ j,c.nm = some j → β' j = β j):OOk β' hF' h' id x:=by
 cases x with
 | box t cells =>
  obtain ⟨b,vs,h1,h2,h3⟩:=k
  exact ⟨b,vs,by rw [e1,h1],by rw [e b (by rw [h1]; rfl)]; exact h2,h3.to l e2⟩
 | ext D Φ =>
  obtain ⟨h1,h2,h3⟩:=k
  exact ⟨fun b hb=>h1 b (by rw [← e1]; exact hb),fun b hb=>by rw [e b hb]; exact h2 b hb,fun h'' he=>by rw [e1]; exact h3 h'' fun b hb=>(he b hb).trans (e b hb)⟩
 | rows t sz rows =>
  obtain ⟨vs,own,h2,h3,h4⟩:=k
  refine ⟨vs,?_,h2,h3,h4.le l⟩
  rw [e1]
  generalize rows.length = n at own
  simp only [fpOf] at e
  generalize β id = v at own e
  cases own with
  | nil=>exact .nil
  | at_ hb hl hnc hcap hc=>exact .at_ (by rw [e _ rfl]; exact hb) hl hnc hcap hc
theorem OOk.blk {id:Nat} {x:OO} (k:OOk β hF h id x) {b:Nat} (e:fpOf (β id) x b):∃ ob,h b = some ob:=by
 cases x with
 | ext D Φ =>
  cases e1:h b with
  | none=>exact absurd e1 (k.2.1 b e)
  | some ob=>exact ⟨ob,rfl⟩
 | box t cells =>
  obtain ⟨b',vs,h1,h2,h3⟩:=k
  simp only [fpOf] at e
  rw [h1] at e; cases e; exact ⟨_,h2⟩
 | rows t sz rows =>
  obtain ⟨vs,own,_⟩:=k
  simp only [fpOf] at e
  generalize rows.length = n at own
  generalize β id = v at own e
  cases own with
  | nil=>cases e
  | at_ hb=>cases e; exact ⟨_,hb⟩
theorem OOk.fp {id:Nat} {x:OO} (k:OOk β hF h id x) {b:Nat} (e:baseOf (β id) = some b):fpOf (β id) x b:=by
 cases x with
 | ext D Φ=>exact k.1 b e
 | _=>exact e
theorem Ok.fnone (k:Ok h0 β hF h σ) {b:Nat} (hb:h b = none):hF b = none:=by
 cases e:hF b with
 | none=>rfl
 | some ob=>rw [k.le b ob e] at hb; cases hb
theorem Ok.ne (k:Ok h0 β hF h σ) {b b':Nat} (hb:h b = none) {e:Nat × OO} (he:e ∈ σ) (e1:fpOf (β e.1) e.2 b'):b' ≠ b:=fun e2=>by
 obtain ⟨ob,h1⟩:=(k.ok e he).blk e1
 rw [e2,hb] at h1; cases h1
theorem Ok.newF (k:Ok h0 β hF h σ) {b:Nat} (hb:h b = none) (ob:Obj):Ok h0 β (hF.set b ob) (h.set b ob) σ ∧ hF.le (hF.set b ob):=by
 have hn:=k.fnone hb
 have l:=Heap.le_set ob hn
 refine ⟨⟨Heap.le_trans k.le0 l,?_,fun e he=>?_,fun e he b' e1=>?_,k.sep,k.fix,k.nd⟩,l⟩
 ·intro q ob' e
  by_cases hq:q = b
  ·subst hq; rw [Heap.set_same] at e ⊢; exact e
  ·rw [Heap.set_other _ _ hq] at e ⊢; exact k.le q ob' e
 ·exact (k.ok e he).fr l (fun b' e1=>Heap.set_other _ _ (k.ne hb he e1)) rfl (fun _ _ _ _=>rfl)
 ·rw [Heap.set_other _ _ (k.ne hb he e1)]; exact k.out e he b' e1
theorem Ok.newO (k:Ok h0 β hF h σ) {d:Nat} (hd:nmS d σ = true) {v:Value} {x:OO} (same:∀ b ob,h b = some ob → h' b = some ob) (hv:∀ b,fpOf v x b → h b = none) (h1000:d < 1000) (hx:OOk (upd β d v) hF h' d x):Ok h0 (upd β d v) hF h' ((d,x) :: σ):=by
 have hd:=nmS_spec hd
 have hu:∀ j,j ≠ d → upd β d v j = β j:=fun j e=>by simp [upd,e]
 have hud:upd β d v d = v:=by simp [upd]
 refine ⟨k.le0,fun q ob e=>same q ob (k.le q ob e),fun e he=>?_,fun e he b e1=>?_,fun e he e' he' b hne e1=>?_,fun id hid=>by rw [hu id (by omega)]; exact k.fix id hid,?_⟩
 ·rcases List.mem_cons.1 he with rfl | he
  ·exact hx
  ·refine (k.ok e he).fr (Heap.le_refl _) (fun b e1=>?_) (hu _ (hd e he).1) (fun c hc j hj=>hu _ fun e2=>(hd e he).2 c hc (by rw [← e2]; exact hj))
   obtain ⟨ob,h1⟩:=(k.ok e he).blk e1
   rw [h1,same b ob h1]
 ·rcases List.mem_cons.1 he with rfl | he
  ·simp only [hud] at e1; exact k.fnone (hv b e1)
  ·rw [hu _ (hd e he).1] at e1; exact k.out e he b e1
 ·rcases List.mem_cons.1 he with rfl | he <;> rcases List.mem_cons.1 he' with rfl | he'
  ·exact absurd rfl hne
  ·simp only [hud] at e1
   rw [hu _ (hd e' he').1]
   intro e2
   exact k.ne (hv b e1) he' e2 rfl
  ·rw [hu _ (hd e he).1] at e1
   simp only [hud]
   intro e2
   exact k.ne (hv b e2) he e1 rfl
  ·rw [hu _ (hd e he).1] at e1
   rw [hu _ (hd e' he').1]
   exact k.sep e he e' he' b hne e1
 ·simp only [List.map_cons,List.nodup_cons]
  refine ⟨fun hm=>?_,k.nd⟩
  obtain ⟨e,he,e1⟩:=List.mem_map.1 hm
  exact (hd e he).1 e1
theorem setS_mem {id:Nat} {x:OO}:∀ {σ:AS},(σ.map (·.1)).Nodup → ∀ e ∈ setS σ id x,e = (id,x) ∨ (e ∈ σ ∧ e.1 ≠ id)
 | [],_,e,he=>by cases he
 | a :: r,nd,e,he=>by
  simp only [List.map_cons,List.nodup_cons] at nd
  unfold setS at he
  split at he
  ·rename_i h1
   rcases List.mem_cons.1 he with rfl | he
   ·exact .inl rfl
   ·exact .inr ⟨List.mem_cons_of_mem _ he,fun e2=>nd.1 (by rw [h1,← e2]; exact List.mem_map.2 ⟨e,he,rfl⟩)⟩
  ·rename_i h1
   rcases List.mem_cons.1 he with rfl | he
   ·exact .inr ⟨List.mem_cons_self,h1⟩
   ·rcases setS_mem nd.2 e he with h2 | ⟨h2,h3⟩
    ·exact .inl h2
    ·exact .inr ⟨List.mem_cons_of_mem _ h2,h3⟩
theorem setS_keys {id:Nat} {x:OO}:∀ (σ:AS),(setS σ id x).map (·.1) = σ.map (·.1)
 | []=>rfl
 | a :: r=>by
  unfold setS
  split
  ·rename_i h1; simp [h1]
  ·simp [setS_keys r]
def plain:OO → Bool
 | .ext _ _=>false
 | _=>true
theorem plain_fp {x:OO} (h:plain x = true) (v:Value) (b:Nat):fpOf v x b ↔ baseOf v = some b:=by
 cases x with
 | ext D Φ=>cases h
 | _=>exact Iff.rfl
theorem Ok.put (k:Ok h0 β hF h σ) {id:Nat} {x:OO} (hl:lookS σ id = some x) (px:plain x = true) {b:Nat} (hb:baseOf (β id) = some b) {ob:Obj} {x':OO} (px':plain x' = true) (hx:OOk β hF (h.set b ob) id x'):Ok h0 β hF (h.set b ob) (setS σ id x'):=by
 have hm:=lookS_mem hl
 have hbf:=(plain_fp px (β id) b).2 hb
 have conv:∀ b',fpOf (β id) x' b' → fpOf (β id) x b':=fun b' h=>(plain_fp px _ _).2 ((plain_fp px' _ _).1 h)
 refine ⟨k.le0,fun q ob' e=>?_,fun e he=>?_,fun e he b' e1=>?_,fun e he e' he' b' hne e1=>?_,k.fix,by rw [setS_keys]; exact k.nd⟩
 ·have:q ≠ b:=fun e2=>by rw [e2,k.out _ hm b hbf] at e; cases e
  rw [Heap.set_other _ _ this]; exact k.le q ob' e
 ·rcases setS_mem k.nd e he with rfl | ⟨he,hne⟩
  ·exact hx
  ·exact (k.ok e he).fr (Heap.le_refl _) (fun b' e1=>Heap.set_other _ _ fun e2=>k.sep e he _ hm b' hne e1 (by rw [e2]; exact hbf)) rfl (fun _ _ _ _=>rfl)
 ·rcases setS_mem k.nd e he with rfl | ⟨he,hne⟩
  ·exact k.out _ hm b' (conv _ e1)
  ·exact k.out e he b' e1
 ·rcases setS_mem k.nd e he with rfl | ⟨he,hn1⟩ <;> rcases setS_mem k.nd e' he' with rfl | ⟨he',hn2⟩
  ·exact absurd rfl hne
  ·exact k.sep _ hm e' he' b' (Ne.symm hn2) (conv _ e1)
  ·exact fun h2=>k.sep e he _ hm b' hn1 e1 (conv _ h2)
  ·exact k.sep e he e' he' b' hne e1
theorem pA_nm {id:Nat} {a:AV} {j:Nat} (h:(pA id a).nm = some j):a.nm = some j ∧ j ≠ id:=by
 cases a with
 | hid=>cases h
 | fz x=>cases h
 | os i =>
  simp only [pA] at h
  split at h
  ·cases h
  ·rename_i hne; simp only [AV.nm,Option.some.injEq] at h ⊢; subst h; exact ⟨rfl,hne⟩
 | oe i s a b =>
  simp only [pA] at h
  split at h
  ·cases h
  ·rename_i hne; simp only [AV.nm,Option.some.injEq] at h ⊢; subst h; exact ⟨rfl,hne⟩
theorem pA_rep {id:Nat} {a:AV} {v:Value} (r:ARep β hF a v):ARep β hF (pA id a) v:=by
 cases r with
 | hid v=>exact .hid v
 | fz r=>exact .fz r
 | os j =>
  simp only [pA]; split
  ·exact .hid _
  ·exact .os j
 | oe hb =>
  simp only [pA]; split
  ·exact .hid _
  ·exact .oe hb
theorem pC_eq (id:Nat):∀ cs:List AV,pC id cs = cs.map (pA id)
 | []=>rfl
 | a :: r=>by simp [pC,pC_eq id r]
theorem pS_eq (id:Nat):∀ σ:AS,pS id σ = σ.map fun e=>(e.1,pO id e.2)
 | []=>rfl
 | a :: r=>by simp [pS,pS_eq id r]
theorem pT_eq (id:Nat):∀ σ:AT,pT id σ = σ.map fun e=>(e.1,pA id e.2)
 | []=>rfl
 | a :: r=>by simp [pT,pT_eq id r]
theorem pL_eq (id:Nat):∀ σ:AL,pL id σ = σ.map fun e=>(e.1,e.2.1,pA id e.2.2)
 | []=>rfl
 | a :: r=>by simp [pL,pL_eq id r]
theorem AReps.pC {id:Nat} {cs:List AV} {vs:List Value} (r:AReps β hF cs vs):AReps β hF (pC id cs) vs:=by
 rw [pC_eq]
 refine ⟨by simp [r.1],fun j c v a b=>?_⟩
 rw [List.getElem?_map] at a
 cases e:cs[j]? with
 | none=>rw [e] at a; cases a
 | some x=>rw [e] at a; cases a; exact pA_rep (r.2 j x v e b)
theorem OOk.pO {id j:Nat} {x:OO} (k:OOk β hF h j x):OOk β hF h j (pO id x):=by
 cases x with
 | box t cells=>obtain ⟨b,vs,h1,h2,h3⟩:=k; exact ⟨b,vs,h1,h2,h3.pC⟩
 | ext D Φ=>exact k
 | rows t sz rows=>exact k
theorem pO_nm {id:Nat} {x:OO} {c:AV} (hc:c ∈ (pO id x).cells) {j:Nat} (hj:c.nm = some j):j ≠ id:=by
 cases x with
 | box t cells =>
  simp only [Ab.pO,OO.cells,pC_eq,List.mem_map] at hc
  obtain ⟨a,_,rfl⟩:=hc
  exact (pA_nm hj).2
 | ext D Φ=>cases hc
 | rows t sz rows=>cases hc
theorem pO_fp (id:Nat) (x:OO) (v:Value) (b:Nat):fpOf v (pO id x) b ↔ fpOf v x b:=by cases x <;> exact Iff.rfl
theorem Ok.app (k:Ok h0 β hF h σ) {id:Nat} {x:OO} (hl:lookS σ id = some x) (px:plain x = true) (h1000:id < 1000) {v':Value} (same:∀ b ob,h b = some ob → baseOf (β id) ≠ some b → h' b = some ob) (hv:∀ b,baseOf v' = some b → baseOf (β id) = some b ∨ h b = none) {x':OO} (px':plain x' = true) (hx:OOk (upd β id v') hF h' id x') :
  Ok h0 (upd β id v') hF h' (setS (pS id σ) id x'):=by
 have hm:=lookS_mem hl
 have hu:∀ j,j ≠ id → upd β id v' j = β j:=fun j e=>by simp [upd,e]
 have hud:upd β id v' id = v':=by simp [upd]
 have hkeys:(pS id σ).map (·.1) = σ.map (·.1):=by rw [pS_eq,List.map_map]; rfl
 have hin:∀ e ∈ setS (pS id σ) id x',e = (id,x') ∨ ∃ y,(e.1,y) ∈ σ ∧ e.2 = pO id y ∧ e.1 ≠ id:=fun e he=>by
  rcases setS_mem (by rw [hkeys]; exact k.nd) e he with h1 | ⟨h1,h2⟩
  ·exact .inl h1
  ·rw [pS_eq] at h1
   obtain ⟨y,hy,rfl⟩:=List.mem_map.1 h1
   exact .inr ⟨y.2,hy,rfl,h2⟩
 have fx:∀ b,baseOf (β id) = some b → fpOf (β id) x b:=fun b h=>(plain_fp px _ _).2 h
 have fx':∀ b,fpOf v' x' b → baseOf v' = some b:=fun b h=>(plain_fp px' _ _).1 h
 refine ⟨k.le0,fun q ob e=>same q ob (k.le q ob e) (fun e1=>by rw [k.out _ hm q (fx q e1)] at e; cases e),fun e he=>?_,fun e he b e1=>?_,fun e he e' he' b hne e1=>?_,fun j hj=>by rw [hu j (by omega)]; exact k.fix j hj,by rw [setS_keys,hkeys]; exact k.nd⟩
 ·rcases hin e he with rfl | ⟨y,hy,h2,hne⟩
  ·exact hx
  ·rw [h2]
   refine (OOk.pO (k.ok _ hy)).fr (Heap.le_refl _) (fun b e1=>?_) (hu _ hne) (fun c hc j hj=>hu _ (pO_nm hc hj))
   have e1:=(pO_fp id y _ b).1 e1
   obtain ⟨ob,h1⟩:=(k.ok _ hy).blk e1
   rw [h1,same b ob h1 fun e2=>k.sep _ hy _ hm b hne e1 (fx b e2)]
 ·rcases hin e he with rfl | ⟨y,hy,h2,hne⟩
  ·simp only [hud] at e1
   rcases hv b (fx' b e1) with h3 | h3
   ·exact k.out _ hm b (fx b h3)
   ·exact k.fnone h3
  ·rw [hu _ hne,h2] at e1; exact k.out _ hy b ((pO_fp id y _ b).1 e1)
 ·rcases hin e he with rfl | ⟨y,hy,h2,hn1⟩ <;> rcases hin e' he' with rfl | ⟨y',hy',h2',hn2⟩
  ·exact absurd rfl hne
  ·simp only [hud] at e1
   rw [hu _ hn2,h2']
   intro e2
   have e2:=(pO_fp id y' _ b).1 e2
   rcases hv b (fx' b e1) with h3 | h3
   ·exact k.sep _ hm _ hy' b (Ne.symm hn2) (fx b h3) e2
   ·exact k.ne h3 hy' e2 rfl
  ·rw [hu _ hn1,h2] at e1
   have e1:=(pO_fp id y _ b).1 e1
   simp only [hud]
   intro e2
   rcases hv b (fx' b e2) with h3 | h3
   ·exact k.sep _ hy _ hm b hn1 e1 (fx b h3)
   ·exact k.ne h3 hy e1 rfl
  ·rw [hu _ hn1,h2] at e1
   have e1:=(pO_fp id y _ b).1 e1
   rw [hu _ hn2,h2']
   exact fun e2=>k.sep _ hy _ hy' b hne e1 ((pO_fp id y' _ b).1 e2)
end
end Go.Proofs.YtihdpjinaafenaaGreatDoor.Ab
