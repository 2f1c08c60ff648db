import Derived.Test.YtihdpjinaafenaaGreatDoorFr10
noncomputable section
/- What acts: appends, lists, maps. -/
set_option linter.unusedVariables false
set_option linter.unusedSimpArgs false
namespace Go.Proofs.YtihdpjinaafenaaGreatDoor.Ce
open Go.Proofs.YtihdpjinaafenaaGreatDoor.Sl
open Ab (isOne isMany isSl isArr isIntT isStr zeroIs okCall)
section
variable {P : Program} {N : Kn P} {β : Bk} {H : CH} {n0 : Id} {ck : Nat} {h : Heap} {T : SL CV} {Tc : Tm} {o : Oper}
theorem s_append_new {ρ:Operand → Value} {K:Value → Heap → Prop} {t tx e e':TypeId} {x y:Operand} {u:Value} {a:Option Addr} {sz n m c:Nat} {cs news:List Value} (ho:o.op = .call ⟨.builtin .append,#[x,y],#[t,tx]⟩) (ht:P.underlying t = some (.slice e)) (htx:P.underlying tx = some (.slice e')) (hi:infoOk P e sz = true)
  (hx:ρ x = .slice a n c) (hy:ρ y = u) (old:Cells h sz (.slice a n c) n cs) (src:Cells h sz u m news) (h1:∀ u ∈ news,u.oneCell' = true) (hm:m ≠ 0) (hc:c < n + m) (hfit:n + m ≤ 34359738368)
  (k:∀ (b:Nat) (full:List Value) (c':Nat),h b = none → n + m ≤ c' → c' * sz ≤ full.length → full.take ((n + m) * sz) = cs ++ news → K (.slice (some ⟨b,0,none⟩) (n + m) c') (h.set b (.cells full.toArray e (0,0)))):SOp P o ρ h K:=by
 obtain ⟨i,z,hii,hz,hs,hz1,hb⟩:=infoOk_spec hi
 clear hi
 subst hs
 intro w r
 have hsrc:=src.src r h1 htx
 have hnl:=src.len
 have hcl:=old.len
 have hold:(Builtin.firstCells i.size n (.slice a n c)).run P w.drew = .ok cs.toArray w.drew:=old.first (w:=w.drew) r
 have hbb:(n + m) * i.bytes ≤ 140737488355328:=Nat.le_trans (Nat.mul_le_mul hfit hb) (by decide)
 have hrun:=run_append_grow_src (P:=P) w t tx o.type e i z ht hii hz a n c cs hold u m news hsrc hc (by omega) (growslice_fits hc hbb)
 have hcapge:n + m ≤ grownCap w (n + m) c e:=by unfold grownCap Question.cut; simp
 have hexec:(execOp ρ o).run P w = .ok (.value (.slice (some ⟨w.heap.size,0,none⟩) (n + m) (grownCap w (n + m) c e))) (w.drew.alloc (.cells ((cs ++ news).toArray ++ Builtin.zeroCells z.cells (grownCap w (n + m) c e - (n + m))) e (0,0))):=by
  simp only [execOp,ho,resolve,Sem.run_bind,Sem.run_pure,Result.andThen_ok,invoke,builtin]
  simp [hx,hy,hrun]
  try rfl
 have hn:h w.heap.size = none:=by
  cases e1:h w.heap.size with
  | none=>rfl
  | some o=>have:=r.lt e1; omega
 have hfull:(cs ++ news).toArray ++ Builtin.zeroCells z.cells (grownCap w (n + m) c e - (n + m)) = ((cs ++ news) ++ (Builtin.zeroCells z.cells (grownCap w (n + m) c e - (n + m))).toList).toArray:=by
  apply Array.ext'; simp
 rw [hfull] at hexec
 obtain ⟨full,hfu⟩:∃ full:List Value,full = cs ++ news ++ (Builtin.zeroCells z.cells (grownCap w (n + m) c e - (n + m))).toList:=⟨_,rfl⟩
 rw [← hfu] at hexec
 refine .inl ⟨_,_,h.set w.heap.size (.cells full.toArray e (0,0)),.inl hexec,k _ full _ hn hcapge ?_ ?_,?_,?_⟩
 ·rw [hfu]
  have h2:(Builtin.zeroCells z.cells (grownCap w (n + m) c e - (n + m))).toList.length = (grownCap w (n + m) c e - (n + m)) * i.size:=by rw [Array.length_toList,size_zeroCells,hz1]
  rw [List.length_append,h2,List.length_append,hcl,hnl,← Nat.add_mul,← Nat.add_mul]
  exact Nat.le_of_eq (by congr 1; omega)
 ·have:(cs ++ news).length = (n + m) * i.size:=by simp [hcl,hnl,Nat.add_mul]
  rw [← this,hfu]; exact List.take_left
 ·intro b o' e1
  by_cases hb:b = w.heap.size
  ·subst hb; rw [Heap.set_same] at e1; cases e1; exact heap_alloc_new w.drew _
  ·rw [Heap.set_other _ _ hb] at e1
   exact (heap_alloc w.drew _ b (r.lt e1)).trans (r b o' e1)
 ·refine ⟨rfl,rfl,rfl,by rw [size_alloc]; show w.heap.size ≤ w.heap.size + 1; omega,fun b hb _=>heap_alloc w.drew _ b hb,fun b e1 e2=>?_⟩
  by_cases hb:b = w.heap.size
  ·omega
  ·rw [Heap.set_other _ _ hb] at e2; exact absurd e1 e2
theorem srcC_ok (r:TR β T Tc) (hr:HR N.toKy β H n0 ck h) {sz m:Nat} {y:CP} {news:List CV} (hy:y.ok = true) (e:srcC sz (y.get T) H = some (m,news)):∃ vs,Cells h sz (ev Tc y.op) m vs ∧ VRs β news vs ∧ news.all CV.one = true:=by
 unfold srcC at e
 simp only [takeR_eq,dropR_eq,leR_eq] at e
 split at e
 ·rename_i id off m' sz' c e0
  split at e
  ·rename_i st t cs hc
   cases hb:(Nat.beq sz sz' && Nat.ble (off + m' * sz) cs.length) with
   | false=>rw [hb] at e; cases e
   | true =>
    rw [hb] at e
    cases e
    simp only [Bool.and_eq_true,Nat.beq_eq,Nat.ble_eq] at hb
    obtain ⟨b,k,hbb,hv,hn,hcc,_⟩:=g_sl r hy e0
    obtain ⟨vs,tl,hh,hl,rv,ho⟩:=hr.cells hc hbb
    have hlen:=rv.len
    refine ⟨(vs.drop off).take (m * sz),?_,(rv.drop off).take _,all_sub ho⟩
    rw [hv]
    refine .at_ hh (by rw [List.length_take,List.length_drop]; omega) hn ?_
    show ((vs ++ tl).drop off).take (m * sz) = _
    rw [List.drop_append_of_le_length (by omega),List.take_append_of_le_length (by simp; omega)]
  ·cases e
 ·rename_i c e0
  cases e
  obtain ⟨a,k,hv,_⟩:=g_z r hy e0
  rw [hv]
  exact ⟨[],.zero _ _,.nil,rfl⟩
 ·rename_i e0
  cases e
  rw [g_ns r hy e0]
  exact ⟨[],.zero _ _,.nil,rfl⟩
 ·cases e
theorem newS_ok (hr:HR N.toKy β H n0 ck h) {t tx e e':TypeId} {x y:Operand} {u:Value} {a:Option Addr} {sz n m c:Nat} {cs news:List CV} {vs us:List Value} (ho:o.op = .call ⟨.builtin .append,#[x,y],#[t,tx]⟩) (ht:P.underlying t = some (.slice e)) (htx:P.underlying tx = some (.slice e')) (hi:infoOk P e sz = true)
  (hx:ev Tc x = .slice a n c) (hy:ev Tc y = u) (old:Cells h sz (.slice a n c) n vs) (src:Cells h sz u m us) (rv:VRs β cs vs) (ru:VRs β news us) (h1:cs.all CV.one = true) (h2:news.all CV.one = true) (hm:m ≠ 0) (hc:c < n + m) (hfit:n + m ≤ 34359738368) :
  AoOk N β H ck h Tc o (newS e sz (n + m) (cs ++ news) H n0 ck):=by
 refine s_append_new ho ht htx hi hx hy old src (ru.one h2) hm hc hfit fun b full c' hb hcap hfl htk=>?_
 have hf:full = (vs ++ us) ++ full.drop ((n + m) * sz):=by rw [← htk,List.take_append_drop]
 refine aft_new (len:=full.length) hr hb (Nat.le_refl _) (.cells (vs:=vs ++ us) (tl:=full.drop ((n + m) * sz)) ?_ (by rw [← hf]) ((rv.append ru).le (hr.put_le _)) (by rw [List.all_append,h1,h2]; rfl)) (.sl (x:=⟨b,full.length⟩) (Bk.put_same _ _ _) hcap (by simpa using hfl) (.inl rfl))
 rw [← hf]; exact Heap.set_same _ _ _
theorem aApp_ok (r:TR β T Tc) (hr:HR N.toKy β H n0 ck h) {t tx e e' sz:Nat} {x y:CP} (hx:x.ok = true) (hy:y.ok = true) (ht:isSl P t e = true) (htx:isSl P tx e' = true) (hi:infoOk P e sz = true) (hs0:0 < sz) (hop:o.op = .call ⟨.builtin .append,#[x.op,y.op],#[t,tx]⟩):AoOk N β H ck h Tc o (aApp t tx x y e e' sz T H n0 ck):=by
 have hut:=Ab.isSl_spec ht
 have hux:=Ab.isSl_spec htx
 unfold aApp eApp
 simp only [takeR_eq,dropR_eq,leR_eq,appR_eq]
 split
 case h_2=>trivial
 rename_i m news hsrc
 obtain ⟨us,src,ru,ho2⟩:=srcC_ok r hr hy hsrc
 split
 ·-- nothing is appended
  have hn0:us = []:=List.eq_nil_of_length_eq_zero (by rw [src.len]; simp)
  subst hn0
  have same:∀ {a:Option Addr} {n c:Nat},ev Tc x.op = .slice a n c → n ≤ c → ∀ cv,VR β cv (.slice a n c) → SOp P o (ev Tc) h (Aft N β H ck h cv H n0 ck):=by
   intro a n c hv hnc cv hcv
   intro w rw_
   obtain ⟨i,z,hii,hz,hsz,hz1,hb⟩:=infoOk_spec hi
   have hsrc':=src.src rw_ (fun u hu=>by cases hu) hux
   subst hsz
   have hrun:=run_append_nothing w t tx o.type e i hut hii a n c hnc _ hsrc'
   have hexec:(execOp (ev Tc) o).run P w = .ok (.value (.slice a n c)) w:=by
    simp only [execOp,hop,resolve,Sem.run_bind,Sem.run_pure,Result.andThen_ok,invoke,builtin]
    simp [hv,hrun]
    try rfl
   exact .inl ⟨_,w,h,.inl hexec,⟨⟨β,Bk.le_refl _,hr,hcv⟩,Keep.refl _ _ _,fun _=>Nat.le_refl _⟩,rw_,Step.refl _ _⟩
  split
  ·rename_i id off k sz' c e0
   obtain ⟨b,kk,hbb,hv,hn,hcc,hc⟩:=g_sl r hx e0
   exact same hv hn _ (.sl hbb hn hcc hc)
  ·rename_i c e0
   obtain ⟨a,kk,hv,hc,hn⟩:=g_z r hx e0
   exact same hv (Nat.zero_le _) _ (.z hc hn)
  ·rename_i e0
   exact same (g_ns r hx e0) (Nat.le_refl _) _ .ns
  ·trivial
 ·rename_i _ hm
  have hm0:m ≠ 0:=fun e=>hm e
  cases hml:Nat.blt m 1000000 with
  | false=>trivial
  | true =>
   have hml:=Nat.le_of_ble_eq_true hml
   simp only [cond_true]
   split
   ·rename_i e0
    have:=newS_ok (cs:=[]) (vs:=[]) (n:=0) hr hop hut hux hi (g_ns r hx e0) rfl (.zero none 0) src .nil ru rfl ho2 hm0 (by omega) (by omega)
    simpa using this
   ·rename_i e0
    obtain ⟨a,kk,hv,hc,_⟩:=g_z r hx e0
    have hk:kk = 0:=by rcases hc with hc | hc <;> cases hc; rfl
    subst hk
    have:=newS_ok (cs:=[]) (vs:=[]) (n:=0) hr hop hut hux hi hv rfl (.zero a 0) src .nil ru rfl ho2 hm0 (by omega) (by omega)
    simpa using this
   ·rename_i id off k sz' c e0
    obtain ⟨b,kk,hbb,hv,hn,hcc,hc⟩:=g_sl r hx e0
    split
    case h_2=>trivial
    rename_i st t' cs hcl
    cases hb:(Nat.beq sz sz' && Nat.beq t' e && Nat.ble (off + k * sz) cs.length && Nat.blt k 1000000) with
    | false=>trivial
    | true =>
     simp only [Bool.and_eq_true,Nat.beq_eq,Nat.ble_eq] at hb
     obtain ⟨⟨⟨c1,c2⟩,c3⟩,c4⟩:=hb
     have c4:=Nat.le_of_ble_eq_true c4
     subst c1
     subst c2
     obtain ⟨vs,tl,hh,hl,rv,ho⟩:=hr.cells hcl hbb
     have hlen:=rv.len
     simp only [cond_true]
     cases hsh:shortC c (k + m) with
     | true =>
      have hck:kk < k + m:=by
       rcases hc with rfl | rfl
       ·cases hsh
       ·exact Nat.le_of_ble_eq_true hsh
      refine newS_ok hr hop hut hux hi hv rfl (.at_ hh (cs:=(vs.drop off).take (k * sz)) (by rw [List.length_take,List.length_drop]; omega) hn ?_) src ((rv.drop off).take _) ru (all_sub ho) ho2 hm0 hck (by omega)
      show ((vs ++ tl).drop off).take (k * sz) = _
      rw [List.drop_append_of_le_length (by omega),List.take_append_of_le_length (by simp; omega)]
     | false =>
      simp only [cond_false]
      cases ho0:Nat.beq off 0 with
      | false=>trivial
      | true =>
       have:=Nat.eq_of_beq_eq_true ho0
       subst this
       simp only [cond_true]
       have hcapL:kk * sz ≤ (vs ++ tl).length:=by rw [hl]; omega
       have own:Own h t' sz (.slice (some ⟨b.b,0,none⟩) k kk) k (vs.take (k * sz)):=.at_ hh (by rw [List.length_take]; omega) hn (by simpa using hcapL) (by
        show (vs ++ tl).take (k * sz) = _
        rw [List.take_append_of_le_length (by omega)])
       refine s_append hop hut hux hi hv rfl own src (ru.one ho2) (by omega) fun v' h' own' g=>?_
       have hkm:k + m ≠ 0:=by omega
       generalize hkm':k + m = km at own' hkm
       generalize hcat:vs.take (k * sz) ++ us = cat at own'
       cases own' with
       | nil=>exact absurd rfl hkm
       | @at_ b' n' c' full cs' hb' hl' hnc' hcap' hc' =>
        have hfl:full.toList = (vs.take (k * sz) ++ us) ++ full.toList.drop (km * sz):=by
         rw [hcat,← hc',List.take_append_drop]
        have hy':b' = b.b ∨ h b' = none:=by
         rcases g.blk with h1 | ⟨b2,h1,h2⟩
         ·simp only [blockOf,Option.some.injEq] at h1; exact .inl h1
         ·simp only [blockOf,Option.some.injEq] at h1; exact .inr (by rw [h1]; exact h2)
        have hone:(cs.take (k * sz) ++ news).all CV.one = true:=by
         have:=all_sub (l:=cs) (a:=0) (b:=k * sz) ho
         rw [List.drop_zero] at this
         rw [List.all_append,this,ho2]; rfl
        have hmv:=hr.moved (y:=⟨b',full.size⟩) (h':=h') (o:=.cells (ck + 1) t' (cs.take (k * sz) ++ news)) hbb (live_cells hcl) hy' rfl (.cells (vs:=vs.take (k * sz) ++ us) (tl:=full.toList.drop (km * sz)) (by rw [← hfl]; simpa using hb') (by rw [← hfl]; simp) (((rv.take _).append ru).le (hr.put_le _)) hone)
         (fun q ob e1 hne=>g.same q ob e1 (fun e2=>hne (by simpa [blockOf] using e2)))
        refine ⟨⟨_,hr.put_le ⟨b',full.size⟩,hmv.1,.sl (x:=⟨b',full.size⟩) (Bk.put_same _ _ _) hnc' (by simpa using hcap') (.inl rfl)⟩,hmv.2,fun p=>?_⟩
        rw [hget_set]
        split
        ·exact Nat.le_succ_of_le (hr.ck p)
        ·rw [hget_set]
         split
         ·exact Nat.le_succ_of_le (hr.ck p)
         ·exact Nat.le_refl _
   ·trivial
theorem flatC_ok (r:TR β T Tc) {sz:Nat}:∀ {l:List CP} {cs:List CV},CPs l = true → flatC sz l T = some cs → ∃ vs:List Value,vs = (l.map fun x=>ev Tc x.op) ∧ (∀ v ∈ vs,v.cells.size = sz) ∧ VRs β cs (vs.flatMap (·.cells.toList)) ∧ cs.all CV.one = true
 | [],cs,_,e=>by cases e; exact ⟨[],rfl,fun v hv=>(by cases hv),.nil,rfl⟩
 | x :: l,cs,hl,e=>by
  simp only [CPs,List.all_cons,Bool.and_eq_true] at hl
  rw [flatC_cons] at e
  simp only at e
  cases hb:(Nat.beq (x.get T).cells.length sz && (x.get T).cells.all CV.one) with
  | false=>rw [hb] at e; cases e
  | true =>
   rw [hb] at e
   simp only [cond_true] at e
   simp only [Bool.and_eq_true,Nat.beq_eq] at hb
   split at e
   ·rename_i l' hl'
    cases e
    obtain ⟨vs,rfl,h1,h2,h3⟩:=flatC_ok r hl.2 hl'
    have hc:=(CP.get_ok r x hl.1).cells
    refine ⟨_,rfl,fun v hv=>?_,?_,?_⟩
    ·rcases List.mem_cons.1 hv with rfl | hv
     ·rw [← Array.length_toList,hc.len,hb.1]
     ·exact h1 v hv
    ·simp only [List.map_cons,List.flatMap_cons]; exact hc.append h2
    ·rw [List.all_append,hb.2,h3]; rfl
   ·cases e
theorem ixd_zip (f:Operand → Value):∀ (l:List CP) (k:Nat),(ixd k l).map (fun p=>(p.1,f p.2)) = ((l.map fun x=>f x.op).zipIdx k).map fun x=>(x.2,x.1)
 | [],k=>rfl
 | x :: l,k=>by simp only [ixd,List.map_cons,List.zipIdx_cons,ixd_zip f l (k + 1)]
theorem lBsl_ok (r:TR β T Tc) {t m e sz:Nat} {parts:List CP} (hp:CPs parts = true) (ht:isSl P t e = true) (hi:infoOk P e sz = true) (hm:m = parts.length) (hs0:0 < sz) (hm0:0 < m) (hms:m * sz ≤ 65536) (hop:o.op = .buildSlice t m (ixd 0 parts).toArray):AlOk N β Tc o ck (lBsl t m parts e sz T ck):=by
 unfold lBsl eBsl
 split
 ·rename_i cs e0
  obtain ⟨vs,hvs,h1,h2,h3⟩:=flatC_ok r hp e0
  have hlen:vs.length = m:=by rw [hvs,hm]; simp
  have hfl:(vs.flatMap (·.cells.toList)).length = m * sz:=by
   rw [← hlen]
   clear hvs hlen h2
   induction vs with
   | nil=>simp
   | cons v vs ih=>rw [List.flatMap_cons,List.length_append,ih (fun u hu=>h1 u (List.mem_cons_of_mem _ hu)),Array.length_toList,h1 v List.mem_cons_self,List.length_cons,Nat.succ_mul]; omega
  refine ⟨_,_,(vs.flatMap (·.cells.toList)).length,Ab.a_buildSliceG (vs:=vs) (sz:=sz) hop (Ab.isSl_spec ht) hi (by rw [hvs]; simpa using ixd_zip (ev Tc) parts 0) hlen h1 hm0 hs0 hms,rfl,fun β' n b h l=>⟨cells_new (vs:=vs.flatMap (·.cells.toList)) rfl (h2.le l) h3,.sl (x:=⟨b,_⟩) (Bk.put_same _ _ _) (Nat.le_refl _) (by show 0 + m * sz ≤ (vs.flatMap (·.cells.toList)).length; rw [hfl]; omega) (.inr rfl)⟩⟩
 ·trivial
theorem aft_same (hr:HR N.toKy β H n0 ck h) {h':Heap} (k:HR N.toKy β H n0 ck h' ∧ Keep β H H h h') {c:CV} {v:Value} (hv:VR β c v):Aft N β H ck h c H n0 ck v h':=⟨⟨β,Bk.le_refl _,k.1,hv⟩,k.2,fun _=>Nat.le_refl _⟩
theorem aBs0_ok (hr:HR N.toKy β H n0 ck h) {t e:Nat} (ht:isSl P t e = true) (he:(P.info? e).isSome = true) (hop:o.op = .buildSlice t 0 #[]):AoOk N β H ck h Tc o (aBs0 t e T H n0 ck) :=
 (a_buildSlice0 hop (Ab.isSl_spec ht) he).sop fun b hb=>aft_same hr (hr.fresh hb _) (.z (.inr rfl) (fun e=>by cases e))
theorem repC_ok {zs:List CV} {β:Bk} (hs:CV.shuts zs = true):∀ l,VRs β (repC zs l) (List.replicate l (CV.vals zs)).flatten
 | 0=>.nil
 | l + 1=>by rw [repC,List.replicate_succ,List.flatten_cons]; exact (shuts_ok β zs hs).append (repC_ok hs l)
theorem repC_one {zs:List CV} (h1:zs.all CV.one = true):∀ l,(repC zs l).all CV.one = true
 | 0=>rfl
 | l + 1=>by rw [repC,List.all_append,h1,repC_one h1 l]; rfl
theorem lMks_ok (r:TR β T Tc) {t e sz:Nat} {x y:CP} {zs:List CV} (hx:x.ok = true) (hy:y.ok = true) (ht:isSl P t e = true) (hi:infoOk P e sz = true) (hz:zeroIs P e (CV.vals zs) = true) (hs:CV.shuts zs = true) (h1:zs.all CV.one = true) (hop:o.op = .makeSlice t x.op y.op):AlOk N β Tc o ck (lMks t x y e sz zs T ck):=by
 unfold lMks eMks
 have hut:=Ab.isSl_spec ht
 obtain ⟨i,z,hii,hzz,hsz,hzs,hb⟩:=infoOk_spec hi
 have hzc:z.cells.toList = CV.vals zs:=by
  have h1:=Ab.zeroIs_eq hz
  unfold zeroOf at h1
  rw [hii] at h1
  simp only [Option.bind_some,hzz,Option.map_some,Option.some.injEq] at h1
  rw [h1]
 split
 ·rename_i k1 l k2 c e1 e2
  cases hbb:(Nat.ble l c && Nat.ble c 1000000) with
  | false=>trivial
  | true =>
   simp only [Bool.and_eq_true,Nat.ble_eq] at hbb
   obtain ⟨hlc,hc⟩:=hbb
   have hvx:=g_i r hx e1
   have hvy:=g_i r hy e2
   have hm:i.bytes * c ≤ 4096 * 1000000:=Nat.mul_le_mul hb (by omega)
   have hm':(i.bytes:Int) * (c:Int) ≤ 281474976710656:=by
    have:((i.bytes * c:Nat):Int) ≤ ((4096 * 1000000:Nat):Int):=Int.ofNat_le.2 hm
    rw [Int.natCast_mul] at this
    omega
   have hp:AllocOp P o (ev Tc) (.cells (madeCells z.cells (c * sz)) e) (fun b=>.slice (some ⟨b,0,none⟩) l c):=fun w=>by
    have:=run_make (P:=P) w t e i z hut hii hzz k1 k2 (l:Int) (c:Int) (by omega) (by omega) hm' (by omega)
    simp only [Int.ofNat_eq_natCast] at hvx hvy
    simp only [execOp,hop,hvx,hvy,this,Sem.run_bind,Sem.run_map,Result.andThen_ok,Sem.run_pure,Int.toNat_natCast,hsz]
   have htk:=Ab.made_take z.cells sz hzs l c hlc
   rw [hzc] at htk
   have hfl:(madeCells z.cells (c * sz)).toList = (List.replicate l (CV.vals zs)).flatten ++ (madeCells z.cells (c * sz)).toList.drop (l * sz):=by rw [← htk,List.take_append_drop]
   have hsize:(madeCells z.cells (c * sz)).size = c * sz:=by rw [size_madeCells]
   refine ⟨_,_,c * sz,hp,rfl,fun β' n b h le=>⟨.cells (vs:=(List.replicate l (CV.vals zs)).flatten) (tl:=(madeCells z.cells (c * sz)).toList.drop (l * sz)) ?_ ?_ (repC_ok hs l) (repC_one h1 l),.sl (x:=⟨b,_⟩) (Bk.put_same _ _ _) hlc (by simp) (.inr rfl)⟩⟩
   ·rw [← hfl]; simp [Heap.set_same]
   ·rw [← hfl,Array.length_toList,hsize]
 ·trivial
theorem lMkm_ok {t:Nat} {s:Sh} (hs:shOk N.sh t s = true) (hop:o.op = .makeMap t none):AlOk N β Tc o ck (lMkm t s T ck) :=
 ⟨_,_,0,a_makeMap hop,rfl,fun β' n b h l=>⟨.map s (shOk_spec hs) [] [] (by simp [MBn,Heap.set_same]) (Bs.range 0) (fun _=>⟨rfl,rfl⟩) (by simp [Keys1]) rfl .nil,.m (x:=⟨b,0⟩) (Bk.put_same _ _ _)⟩⟩
theorem aClr_ok (r:TR β T Tc) (hr:HR N.toKy β H n0 ck h) {t e sz:Nat} {x:CP} {zs:List CV} (hx:x.ok = true) (ht:isSl P t e = true) (hi:infoOk P e sz = true) (hz:zeroIs P e (CV.vals zs) = true) (hs:CV.shuts zs = true) (h1:zs.all CV.one = true) (hs0:0 < sz) (hop:o.op = .call ⟨.builtin .clear,#[x.op],#[t]⟩):AoOk N β H ck h Tc o (aClr t x e sz zs T H n0 ck):=by
 have hut:=Ab.isSl_spec ht
 have hexec:∀ w r',(Builtin.clear_ #[t] o.type #[ev Tc x.op]).run P w = r' → (execOp (ev Tc) o).run P w = r'.andThen fun a w'=>.ok (.value a) w':=by
  intro w r' e
  simp only [execOp,hop,resolve,Sem.run_bind,Sem.run_pure,Result.andThen_ok,invoke,builtin]
  simp [e]
 have noop:∀ a k,ev Tc x.op = .slice a 0 k → SOp P o (ev Tc) h (Aft N β H ck h (.tup []) H n0 ck):=by
  intro a k hv w rw_
  have hrun:(Builtin.clear_ #[t] o.type #[ev Tc x.op]).run P w = .ok (.tuple #[]) w:=by
   rw [hv]
   cases a <;> simp [Builtin.clear_,run_underlying hut]
  exact .inl ⟨_,w,h,.inl (by rw [hexec w _ hrun]; rfl),aft_same hr ⟨hr,Keep.refl _ _ _⟩ (.tup .nil),rw_,Step.refl _ _⟩
 unfold aClr eClr
 split
 ·rename_i e0; exact noop _ _ (g_ns r hx e0)
 ·rename_i c e0
  obtain ⟨a,k,hv,_⟩:=g_z r hx e0
  exact noop _ _ hv
 ·rename_i id off m sz' c e0
  obtain ⟨b,k,hbb,hv,hn,hcc,_⟩:=g_sl r hx e0
  cases hm0:Nat.beq m 0 with
  | true =>
   have:=Nat.eq_of_beq_eq_true hm0
   subst this
   exact noop _ _ hv
  | false =>
   have hm:m ≠ 0:=fun e=>by rw [e] at hm0; cases hm0
   simp only [cond_false]
   split
   ·rename_i st t' cs hc
    cases hb:(Nat.beq sz sz' && Nat.ble (off + m * sz) cs.length) with
    | false=>trivial
    | true =>
     simp only [Bool.and_eq_true,Nat.beq_eq,Nat.ble_eq] at hb
     obtain ⟨vs,tl,hh,hl,rv,ho⟩:=hr.cells hc hbb
     have hlen:=rv.len
     simp only [cond_true]
     obtain ⟨i,z,hii,hzz,hsz,hzs,hby⟩:=infoOk_spec hi
     have hzc:z.cells.toList = CV.vals zs:=by
      have h1:=Ab.zeroIs_eq hz
      unfold zeroOf at h1
      rw [hii] at h1
      simp only [Option.bind_some,hzz,Option.map_some,Option.some.injEq] at h1
      rw [h1]
     have hzl:(Builtin.zeroCells z.cells m).toList = (List.replicate m (CV.vals zs)).flatten:=by
      have h2:=Ab.made_take z.cells sz hzs m m (Nat.le_refl _)
      rw [hzc] at h2
      rw [← h2,List.take_of_length_le (by rw [Array.length_toList,size_madeCells]; exact Nat.le_refl _)]
      unfold Builtin.zeroCells madeCells
      rw [hzs]
     have hrl:(List.replicate m (CV.vals zs)).flatten.length = m * sz:=by rw [← hzl,Array.length_toList,size_zeroCells,hzs]
     have hreps:=repC_ok (β:=β) hs m
     refine fun w rw_=>?_
     have hw:=rw_ _ _ hh
     have hst:=run_storeCells_at (P:=P) b.b off t' (List.replicate m (CV.vals zs)).flatten 0 (vs ++ tl).toArray w hw (by simp only [hrl,List.size_toArray,List.length_append]; omega) (hreps.one (repC_one h1 m))
     simp only [Nat.add_zero] at hst
     have hrun:(Builtin.clear_ #[t] o.type #[ev Tc x.op]).run P w = .ok (.tuple #[]) (w.setRow b.b ((vs ++ tl).toArray.toList.take off ++ (List.replicate m (CV.vals zs)).flatten ++ (vs ++ tl).toArray.toList.drop (off + (List.replicate m (CV.vals zs)).flatten.length)).toArray):=by
      rw [hv]
      obtain ⟨m',rfl⟩:∃ m',m = m' + 1:=⟨m - 1,by omega⟩
      simp [Builtin.clear_,run_underlying hut,zeroValue,typeInfo,program,Sem.run,hii,hzz,hzl,hst]
     have hsp:=splice_app (vs:=vs) (tl:=tl) (us:=(List.replicate m (CV.vals zs)).flatten) (off:=off) (m:=m * sz) (by omega) hrl
     unfold splice at hsp
     rw [hsp] at hrun
     refine .inl ⟨_,_,_,.inl (by rw [hexec w _ hrun]; rfl),?_,rw_.setRow hh,Step.setRow rw_ hh⟩
     have ha:=all_sub (l:=cs) (a:=0) (b:=off) ho
     have hb':=all_sub (l:=cs) (a:=off + m * sz) (b:=cs.length) ho
     rw [List.drop_zero] at ha
     rw [List.take_of_length_le (by simp)] at hb'
     refine aft_turn hr hbb (live_cells hc) rfl (.cells (Heap.set_same _ _ _) ?_ ((rv.take off).append (hreps.append (rv.drop (off + m * sz)))) (by rw [List.all_append,List.all_append,repC_one h1,ha,hb']; rfl)) (.tup .nil)
     rw [← hl]; simp only [List.length_append,List.length_take,List.length_drop,hrl]; omega
   ·trivial
 ·trivial
theorem putE_ok {s:Sh} {k:List Int} (hk:k.length = s.n) {c:CV} {v:Value} (hc:VR β c v):∀ {es:List (List Int × CV)} {l:List (s.key × Value)},l.map (fun p=>p.1.1) = es.map (·.1) → VRs β (es.map (·.2)) (l.map (·.2)) → Keys1 l →
  (putK l ⟨k,hk⟩ v).map (fun p=>p.1.1) = (putE k c es).map (·.1) ∧ VRs β ((putE k c es).map (·.2)) ((putK l ⟨k,hk⟩ v).map (·.2))
 | [],[],_,_,_=>⟨rfl,.cons hc .nil⟩
 | [],_ :: _,e,_,_=>by simp at e
 | _ :: _,[],e,_,_=>by simp at e
 | e :: es,p :: l,h1,h2,n1=>by
  simp only [List.map_cons,List.cons.injEq] at h1
  simp only [List.map_cons] at h2
  have n2:Keys1 l:=(List.nodup_cons.1 n1).2
  have n3:p.1 ∉ l.map (·.1):=(List.nodup_cons.1 n1).1
  cases h2 with
  | cons r1 r2 =>
   obtain ⟨i1,i2⟩:=putE_ok hk hc h1.2 r2 n2
   have hd:keq k e.1 = decide ((⟨k,hk⟩:s.key) = p.1):=by
    rw [keq_eq,← h1.1,Bool.eq_iff_iff,decide_eq_true_eq,decide_eq_true_eq]
    exact ⟨fun e=>Subtype.ext e,fun e=>congrArg Subtype.val e⟩
   unfold putE
   rw [hd]
   by_cases hkp:(⟨k,hk⟩:s.key) = p.1
   ·have hh:hasK (p :: l) (⟨k,hk⟩:s.key) = true:=by simp [hasK,hkp]
    have hrest:l.map (fun q=>if (⟨k,hk⟩:s.key) = q.1 then (q.1,v) else q) = l:=by
     conv=>rhs; rw [← List.map_id l]
     refine List.map_congr_left fun q hq=>?_
     have:¬ (⟨k,hk⟩:s.key) = q.1:=fun e=>n3 (by rw [← hkp,e]; exact List.mem_map.2 ⟨q,hq,rfl⟩)
     rw [if_neg this]; rfl
    simp only [hkp,decide_true,cond_true,List.map_cons]
    rw [← hkp]
    unfold putK
    rw [hh]
    simp only [if_true,List.map_cons,hkp]
    rw [← hkp,hrest]
    exact ⟨by rw [← h1.1,h1.2,← hkp],.cons hc r2⟩
   ·have hpk:putK (p :: l) (⟨k,hk⟩:s.key) v = p :: putK l (⟨k,hk⟩:s.key) v:=by
     unfold putK hasK
     simp only [List.any_cons,hkp,decide_false,Bool.false_or,List.map_cons,if_false]
     split <;> rfl
    simp only [hkp,decide_false,cond_false,List.map_cons,hpk]
    exact ⟨by rw [i1,h1.1],.cons r1 i2⟩
end
end Go.Proofs.YtihdpjinaafenaaGreatDoor.Ce

/- What acts: maps; all acts. -/
namespace Go.Proofs.YtihdpjinaafenaaGreatDoor.Ce
open Go.Proofs.YtihdpjinaafenaaGreatDoor.Sl
open Ab (isOne isMany isSl isArr isIntT isStr zeroIs okCall)
section
variable {κ : Type} {enc : κ → Value}
theorem MB_get (l:List (κ × Value)) (m:Nat):(MB enc l)[m]? = (l[m]?).map fun p=>{ key:=enc p.1,val:=p.2,born:=m }:=by
 unfold MB
 rw [List.getElem?_map,List.getElem?_zipIdx]
 cases l[m]? <;> simp
theorem MB_push (l:List (κ × Value)) (k:κ) (v:Value):(MB enc l).toArray.push { key:=enc k,val:=v,born:=l.length } = (MB enc (l ++ [(k,v)])).toArray:=by
 apply Array.ext'
 apply List.ext_getElem?
 intro m
 rw [Array.toList_push,MB_get]
 show (MB enc l ++ [_])[m]? = _
 rcases Nat.lt_trichotomy m l.length with h | h | h
 ·rw [List.getElem?_append_left (by rw [MB_len]; exact h),List.getElem?_append_left h,MB_get]
 ·subst h
  rw [List.getElem?_append_right (by rw [MB_len]; exact Nat.le_refl _),List.getElem?_append_right (Nat.le_refl _),MB_len,Nat.sub_self]; rfl
 ·rw [List.getElem?_eq_none (by simp [MB_len]; omega),List.getElem?_eq_none (by simp; omega)]; rfl
theorem MB_set (l:List (κ × Value)) (j:Nat) (k:κ) (v v0:Value) (hj:l[j]? = some (k,v0)) (f:MapEntry → MapEntry) (hf:∀ e:MapEntry,e.key = enc k → f e = { key:=enc k,val:=v,born:=e.born }):(MB enc l).toArray.modify j f = (MB enc (l.set j (k,v))).toArray:=by
 apply Array.ext'
 apply List.ext_getElem?
 intro m
 rw [Array.toList_modify,List.getElem?_modify,MB_get]
 show _ = (MB enc (l.set j (k,v)))[m]?
 rw [MB_get,List.getElem?_set]
 have hlt:=(List.getElem?_eq_some_iff.1 hj).1
 by_cases hjm:j = m
 ·subst hjm
  rw [hj,if_pos rfl,if_pos hlt]
  simp [hf]
 ·rw [if_neg hjm]
  cases l[m]? <;> simp [hjm]
end
section
variable {P : Program} {kt : TypeId} {κ : Type} [DecidableEq κ] {enc : κ → Value} {o : Oper} {ρ : Operand → Value} {h : Heap} {K' : Value → Heap → Prop}
theorem putK_at {l:List (κ × Value)} {k:κ} {v v0:Value} {j:Nat} (n1:Keys1 l) (hj:l[j]? = some (k,v0)):putK l k v = l.set j (k,v):=by
 have hh:hasK l k = true:=hasK_mem.2 (List.mem_map.2 ⟨_,List.mem_of_getElem? hj,rfl⟩)
 unfold putK
 rw [hh]
 simp only [if_true]
 apply List.ext_getElem?
 intro m
 rw [List.getElem?_map,List.getElem?_set]
 have hlt:=(List.getElem?_eq_some_iff.1 hj).1
 by_cases hjm:j = m
 ·subst hjm; rw [hj,if_pos rfl,if_pos hlt]; simp
 ·rw [if_neg hjm]
  cases hl:l[m]? with
  | none=>rfl
  | some p =>
   have hne:k ≠ p.1:=by
    intro e1
    have hml:=(List.getElem?_eq_some_iff.1 hl).1
    have hnd:=List.pairwise_iff_getElem.1 n1
    have e2:(l.map (·.1))[j]'(by simpa using hlt) = k:=by
     have:l[j] = (k,v0):=(List.getElem?_eq_some_iff.1 hj).2
     simp [this]
    have e3:(l.map (·.1))[m]'(by simpa using hml) = k:=by
     have:l[m] = p:=(List.getElem?_eq_some_iff.1 hl).2
     simp [this,e1]
    rcases Nat.lt_or_gt_of_ne hjm with h1 | h1
    ·exact hnd j m _ _ h1 (by rw [e2,e3])
    ·exact hnd m j _ _ h1 (by rw [e2,e3])
   simp [hne]
theorem putK_no {l:List (κ × Value)} {k:κ} {v:Value} (hh:hasK l k = false):putK l k v = l ++ [(k,v)]:=by
 unfold putK
 rw [hh]; rfl
omit [DecidableEq κ] in
theorem MBn_get (l:List (κ × Value)) (bs:List Nat) (m:Nat):(MBn enc l bs)[m]? = match l[m]?,bs[m]? with
  | some p,some b=>some { key:=enc p.1,val:=p.2,born:=b }
  | _,_=>none:=by
 unfold MBn
 rw [List.getElem?_map]
 cases h1:l[m]? with
 | none =>
  rw [List.getElem?_eq_none (by rw [List.length_zip]; have:=List.getElem?_eq_none_iff.1 h1; omega)]; rfl
 | some p =>
  cases h2:bs[m]? with
  | none=>rw [List.getElem?_eq_none (by rw [List.length_zip]; have:=List.getElem?_eq_none_iff.1 h2; omega)]; rfl
  | some b=>rw [List.getElem?_zip_eq_some (z:=(p,b)) |>.2 ⟨h1,h2⟩]; rfl
omit [DecidableEq κ] in
theorem MBn_push (l:List (κ × Value)) (bs:List Nat) (hlen:bs.length = l.length) (k:κ) (v:Value) (b:Nat):(MBn enc l bs).toArray.push { key:=enc k,val:=v,born:=b } = (MBn enc (l ++ [(k,v)]) (bs ++ [b])).toArray:=by
 unfold MBn
 rw [List.zip_append hlen.symm]
 simp
omit [DecidableEq κ] in
theorem MBn_set (l:List (κ × Value)) (bs:List Nat) (j:Nat) (k:κ) (v v0:Value) (hj:l[j]? = some (k,v0)) (f:MapEntry → MapEntry) (hf:∀ e:MapEntry,e.key = enc k → f e = { key:=enc k,val:=v,born:=e.born }):(MBn enc l bs).toArray.modify j f = (MBn enc (l.set j (k,v)) bs).toArray:=by
 apply Array.ext'
 apply List.ext_getElem?
 intro m
 rw [Array.toList_modify,List.getElem?_modify,MBn_get]
 show _ = (MBn enc (l.set j (k,v)) bs)[m]?
 rw [MBn_get,List.getElem?_set]
 have hlt:=(List.getElem?_eq_some_iff.1 hj).1
 by_cases hjm:j = m
 ·subst hjm
  rw [hj,if_pos rfl,if_pos hlt]
  cases bs[j]? <;> simp [hf]
 ·rw [if_neg hjm]
  cases l[m]? <;> cases bs[m]? <;> simp [hjm]
theorem s_mapUpdateB (K:KeyLaw P kt enc) {t et:TypeId} {m x y:Operand} {b cl:Nat} {l:List (κ × Value)} {bs:List Nat} {k:κ} {d:TypeDesc} {v:Value} (ho:o.op = .mapUpdate t m x y) (ht:P.underlying t = some (.map kt et)) (hk:P.underlying kt = some d)
  (hm:ρ m = .map (some b)) (hx:ρ x = enc k) (hy:ρ y = v) (e:h b = some (.map (MBn enc l bs).toArray cl)) (hbs:Bs bs cl l.length) (n1:Keys1 l)
  (kk:∀ bs',Bs bs' (cl + ((putK l k v).length - l.length)) (putK l k v).length → (bs = List.range l.length ∧ cl = l.length → bs' = List.range (putK l k v).length ∧ cl + ((putK l k v).length - l.length) = (putK l k v).length) → K' undef (h.set b (.map (MBn enc (putK l k v) bs').toArray (cl + ((putK l k v).length - l.length))))):SOp P o ρ h K':=by
 intro w rw_
 have hb:=rw_ b _ e
 have hf:=run_findKey K hk k w (MBn enc l bs) l (MBn_rep enc l bs hbs.len)
 cases hfk:findK k l 0 with
 | none =>
  have hh:=(findK_none k l 0).1 hfk
  have hcl:cl + ((putK l k v).length - l.length) = cl + 1:=by rw [putK_no hh]; simp
  rw [hcl] at kk
  have kk:=kk (bs ++ [cl]) (by
   rw [putK_no hh]
   refine ⟨by simp [hbs.len],?_,fun b hb=>?_⟩
   ·rw [List.nodup_append]
    refine ⟨hbs.nd,by simp,fun a ha c hc e=>?_⟩
    simp only [List.mem_singleton] at hc
    have:=hbs.lt a ha
    omega
   ·rcases List.mem_append.1 hb with hb | hb
    ·have:=hbs.lt b hb; omega
    ·simp only [List.mem_singleton] at hb; omega) (fun ⟨h1,h2⟩=>by
   rw [putK_no hh,h1,h2]
   simp [List.range_succ])
  rw [putK_no hh] at kk
  refine .inl ⟨undef,_,_,.inr ⟨rfl,?_⟩,kk,rw_.setObj e,Step.setObj e⟩
  simp only [execOp,ho,Instr.mapUpdate,Sem.run_bind,run_underlying ht,Result.andThen_ok,hm,hx,hy,getObj,Sem.run,hb,Sem.run_pure,K.check,hf,hfk]
  simp [Instr.mapUpdate,setObj,Sem.run,hb,← MBn_push l bs hbs.len]
 | some p =>
  obtain ⟨j,v0⟩:=p
  obtain ⟨j',hj,hl⟩:=findK_some k l 0 j v0 hfk
  have hj:j = j':=by omega
  subst hj
  have hlen:(putK l k v).length = l.length:=by rw [putK_at n1 hl]; simp
  have hcl:cl + ((putK l k v).length - l.length) = cl:=by rw [hlen]; omega
  rw [hcl] at kk
  have kk:=kk bs (by rw [hlen]; exact hbs) (fun h=>by rw [hlen]; exact h)
  rw [putK_at n1 hl] at kk
  have hms:=MBn_set (enc:=enc) l bs j k v v0 hl (fun e=>{ e with key:=enc k,val:=v }) (fun e _=>rfl)
  have hjb:∃ c,bs[j]? = some c:=by
   have:=(List.getElem?_eq_some_iff.1 hl).1
   exact ⟨_,List.getElem?_eq_getElem (by rw [hbs.len]; exact this)⟩
  obtain ⟨c,hjb⟩:=hjb
  have he1:(MBn enc l bs)[j]? = some { key:=enc k,val:=v0,born:=c }:=by rw [MBn_get,hl,hjb]
  refine .inl ⟨undef,_,_,.inr ⟨rfl,?_⟩,kk,rw_.setObj e,Step.setObj e⟩
  rw [← hms]
  simp only [execOp,ho,Instr.mapUpdate,Sem.run_bind,run_underlying ht,Result.andThen_ok,hm,hx,hy,getObj,Sem.run,hb,Sem.run_pure,K.check,hf,hfk]
  simp [Instr.keyThatStays,he1,K.bits,setObj,Sem.run,hb]
theorem s_mapEntryM (K:KeyLaw P kt enc) {t et:TypeId} {m x:Operand} {b:Nat} {l:List (κ × Value)} {k:κ} {d:TypeDesc} {z:Value} (ho:o.op = .mapEntry t m x) (ht:P.underlying t = some (.map kt et)) (hk:P.underlying kt = some d) (hz:zeroV P et = some z)
  (hm:ρ m = .map (some b)) (hx:ρ x = enc k) (e:h b = some (.map (MB enc l).toArray l.length))
  (k1:∀ j v,findK k l 0 = some (j,v) → K' (.tuple #[v,.int .i64 (j:Nat)]) (h.set b (.map (MB enc l).toArray l.length))) (k2:findK k l 0 = none → K' (.tuple #[z,.int .i64 (l.length:Nat)]) (h.set b (.map (MB enc (l ++ [(k,z)])).toArray (l.length + 1)))):SOp P o ρ h K':=by
 obtain ⟨i,hi,hzz⟩:=zeroV_spec hz
 intro w rw_
 have hb:=rw_ b _ e
 have hf:=run_findKey K hk k w (MB enc l) l (MB_rep enc l)
 cases hfk:findK k l 0 with
 | none =>
  refine .inl ⟨_,_,_,.inl ?_,k2 hfk,rw_.setObj e,Step.setObj e⟩
  simp only [execOp,ho,Instr.mapEntry,Sem.run_bind,run_underlying ht,Result.andThen_ok,hm,hx,getObj,Sem.run,hb,Sem.run_pure,K.check,hf,hfk]
  simp [zeroValue,typeInfo,program,Sem.run,hi,hzz,setObj,hb,goInt,← MB_push]
 | some p =>
  obtain ⟨j,v0⟩:=p
  obtain ⟨j',hj,hl⟩:=findK_some k l 0 j v0 hfk
  have hj:j = j':=by omega
  subst hj
  have he1:(MB enc l)[j]? = some { key:=enc k,val:=v0,born:=j }:=by rw [MB_get,hl]; rfl
  have hid:(MB enc l).toArray.modify j (fun e=>{ e with key:=enc k }) = (MB enc l).toArray:=by
   apply Array.ext'
   apply List.ext_getElem?
   intro m
   rw [Array.toList_modify,List.getElem?_modify]
   show _ <$> (MB enc l)[m]? = (MB enc l)[m]?
   by_cases hjm:j = m
   ·subst hjm; rw [he1]; simp
   ·cases (MB enc l)[m]? <;> simp [hjm]
  refine .inl ⟨_,_,_,.inl ?_,k1 j v0 hfk,rw_.setObj e,Step.setObj e⟩
  simp only [execOp,ho,Instr.mapEntry,Sem.run_bind,run_underlying ht,Result.andThen_ok,hm,hx,getObj,Sem.run,hb,Sem.run_pure,K.check,hf,hfk]
  simp [Instr.keyThatStays,he1,K.bits,setObj,Sem.run,hb,goInt]
  rw [← hid]
  simp
omit [DecidableEq κ] in
theorem s_entryStoreM {t:TypeId} {m s x:Operand} {b j:Nat} {l:List (κ × Value)} {k:κ} {v v0:Value} (ho:o.op = .entryStore t m s x)
  (hm:ρ m = .map (some b)) (hs:ρ s = .int .i64 (j:Nat)) (hx:ρ x = v) (e:h b = some (.map (MB enc l).toArray l.length)) (hj:l[j]? = some (k,v0)) (kk:K' undef (h.set b (.map (MB enc (l.set j (k,v))).toArray l.length))):SOp P o ρ h K':=by
 intro w rw_
 have hb:=rw_ b _ e
 have he1:(MB enc l)[j]? = some { key:=enc k,val:=v0,born:=j }:=by rw [MB_get,hj]; rfl
 have hlt:j < (MB enc l).length:=(List.getElem?_eq_some_iff.1 he1).1
 have hfind:(MB enc l).toArray.findIdx? (fun e=>(e.born:Int) == (j:Int)) = some j:=by
  rw [Array.findIdx?_eq_some_iff_getElem]
  refine ⟨by simpa using hlt,?_,fun i hi=>?_⟩
  ·have:(MB enc l)[j] = { key:=enc k,val:=v0,born:=j }:=(List.getElem?_eq_some_iff.1 he1).2
   simp [this]
  ·have hil:i < (MB enc l).length:=by omega
   have h1:=MB_get (enc:=enc) l i
   rw [List.getElem?_eq_getElem hil] at h1
   have h2:((MB enc l)[i]).born = i:=by
    cases hli:l[i]? with
    | none=>rw [hli] at h1; cases h1
    | some p=>rw [hli] at h1; simp only [Option.map_some,Option.some.injEq] at h1; rw [h1]
   simp only [List.getElem_toArray,h2,beq_iff_eq]
   omega
 have hms:=MB_set (enc:=enc) l j k v v0 hj (fun e=>{ e with val:=v }) (fun e he=>by cases e; simp at he; simp [he])
 refine .inl ⟨undef,_,_,.inr ⟨rfl,?_⟩,kk,rw_.setObj e,Step.setObj e⟩
 rw [← hms]
 simp only [execOp,ho,Instr.entryStore,hm,hs,hx,Sem.run_bind,getObj,Sem.run,hb,Sem.run_pure,Result.andThen_ok,asInt,asIntOf,hfind]
 simp [setObj,Sem.run,hb,hfind]
end
section
variable {P : Program} {N : Kn P} {β : Bk} {H : CH} {n0 : Id} {ck : Nat} {h : Heap} {T : SL CV} {Tc : Tm} {o : Oper}
theorem aMup_ok (r:TR β T Tc) (hr:HR N.toKy β H n0 ck h) {t:Nat} {s:Sh} {m k v:CP} (hm:m.ok = true) (hk:k.ok = true) (hv:v.ok = true) (hs:shOk N.sh t s = true) (hop:o.op = .mapUpdate t m.op k.op v.op):AoOk N β H ck h Tc o (aMup t s m k v T H n0 ck):=by
 unfold aMup eMup
 simp only [putER_eq]
 have hsh:=shOk_spec hs
 obtain ⟨kt,et,d,hu,hd,law⟩:=N.law t s hsh
 split
 case h_2=>trivial
 rename_i id l e0 e1
 obtain ⟨hl,hkv⟩:=keyOf_ok e1 (CP.get_ok r k hk)
 split
 case h_2=>trivial
 rename_i st t' fl cl es hc
 cases htt:Nat.beq t t' with
 | false=>trivial
 | true =>
  have:=Nat.eq_of_beq_eq_true htt
  subst this
  obtain ⟨y,hy,hmv⟩:=g_m r hm e0
  obtain ⟨s',l',bs,hs',hb,hbs,hfl,n1,hkk,hvv⟩:=hr.map hc hy
  rw [hsh] at hs'
  cases hs'
  obtain ⟨p1,p2⟩:=putE_ok hl (CP.get_ok r v hv) hkk hvv n1
  have hl1:l'.length = es.length:=by have:=congrArg List.length hkk; simpa using this
  have hl2:(putK l' ⟨l,hl⟩ (ev Tc v.op)).length = (putE l (v.get T) es).length:=by have:=congrArg List.length p1; simpa using this
  refine s_mapUpdateB law hop hu hd hmv hkv rfl hb hbs n1 fun bs' h1 h2=>?_
  rw [hl1,hl2] at h1 h2 ⊢
  exact aft_turn hr hy (live_map hc) rfl (.map s hsh _ bs' (Heap.set_same _ _ _) (by rw [hl2]; exact h1) (fun e=>by rw [hl2]; exact h2 (by rw [← hl1]; exact hfl e)) (putK_keys _ n1 _ _) p1 p2) .u
theorem idxE_ok {s:Sh} {k:List Int} (hk:k.length = s.n):∀ {es:List (List Int × CV)} {l:List (s.key × Value)} (j:Nat),l.map (fun p=>p.1.1) = es.map (·.1) → VRs β (es.map (·.2)) (l.map (·.2)) →
  match idxE k es j with
  | some (i,c)=>∃ v,findK (⟨k,hk⟩:s.key) l j = some (i,v) ∧ VR β c v
  | none=>findK (⟨k,hk⟩:s.key) l j = none
 | [],[],_,_,_=>rfl
 | [],_ :: _,_,e,_=>by simp at e
 | _ :: _,[],_,e,_=>by simp at e
 | e :: es,(p,u) :: l,j,h1,h2=>by
  simp only [List.map_cons,List.cons.injEq] at h1
  simp only [List.map_cons] at h2
  cases h2 with
  | cons r1 r2 =>
   have ih:=idxE_ok hk (j + 1) h1.2 r2
   have hd:keq k e.1 = decide ((⟨k,hk⟩:s.key) = p):=by
    rw [keq_eq,← h1.1,Bool.eq_iff_iff,decide_eq_true_eq,decide_eq_true_eq]
    exact ⟨fun e=>Subtype.ext e,fun e=>congrArg Subtype.val e⟩
   unfold idxE findK
   rw [hd]
   by_cases hkp:(⟨k,hk⟩:s.key) = p
   ·simp only [hkp,decide_true,cond_true,if_true]
    exact ⟨u,rfl,r1⟩
   ·simp only [hkp,decide_false,cond_false,if_false]
    exact ih
theorem aMen_ok (r:TR β T Tc) (hr:HR N.toKy β H n0 ck h) {t et:Nat} {s:Sh} {m k:CP} {z:CV} (hm:m.ok = true) (hk:k.ok = true) (hs:shOk N.sh t s = true) (hz:z.shut = true) (hzi:zIs P et z = true) (het:(match P.underlying t with | some (.map _ et')=>et' == et | _=>false) = true)
  (hop:o.op = .mapEntry t m.op k.op):AoOk N β H ck h Tc o (aMen t s m k et z T H n0 ck):=by
 unfold aMen eMen
 simp only [idxER_eq]
 have hsh:=shOk_spec hs
 obtain ⟨kt,et',d,hu,hd,law⟩:=N.law t s hsh
 rw [hu] at het
 have het:et' = et:=by simpa using het
 subst het
 have hzv:=zIs_ok hzi
 split
 case h_2=>trivial
 rename_i id l e0 e1
 obtain ⟨hl,hkv⟩:=keyOf_ok e1 (CP.get_ok r k hk)
 split
 case h_2=>trivial
 rename_i st t' cl es hc
 cases htt:Nat.beq t t' with
 | false=>trivial
 | true =>
  have:=Nat.eq_of_beq_eq_true htt
  subst this
  obtain ⟨y,hy,hmv⟩:=g_m r hm e0
  obtain ⟨s',l',bs,hs',hb,hbs,hfl,n1,hkk,hvv⟩:=hr.map hc hy
  rw [hsh] at hs'
  cases hs'
  obtain ⟨rfl,rfl⟩:=hfl rfl
  rw [MBn_range] at hb
  have hix:=idxE_ok hl 0 hkk hvv
  have hlen:l'.length = es.length:=by have:=congrArg List.length hkk; simpa using this
  simp only [cond_true]
  split
  ·rename_i j c hj
   rw [hj] at hix
   obtain ⟨v,hf,rv⟩:=hix
   refine s_mapEntryM law hop hu hd hzv hmv hkv hb (fun j' v' e2=>?_) (fun e2=>by rw [e2] at hf; cases hf)
   rw [hf] at e2
   cases e2
   exact aft_turn hr hy (live_map hc) rfl (.map s hsh _ _ (by rw [MBn_range]; exact Heap.set_same _ _ _) (Bs.range _) (fun _=>⟨rfl,rfl⟩) n1 hkk hvv) (.tup (.cons rv (.cons (.i .i64 (Int.ofNat _)) .nil)))
  ·rename_i hj
   rw [hj] at hix
   refine s_mapEntryM law hop hu hd hzv hmv hkv hb (fun j' v' e2=>by rw [e2] at hix; cases hix) (fun e2=>?_)
   have n2:Keys1 (l' ++ [((⟨l,hl⟩:s.key),z.val)]):=by
    have:=putK_keys l' n1 (⟨l,hl⟩:s.key) z.val
    rwa [putK_no ((findK_none _ _ 0).1 e2)] at this
   rw [hlen]
   refine aft_turn hr hy (live_map hc) rfl (.map s hsh (l' ++ [((⟨l,hl⟩:s.key),z.val)]) (List.range (l' ++ [((⟨l,hl⟩:s.key),z.val)]).length) ?_ ?_ ?_ n2 (by simp [hkk]) (by simpa using hvv.append (.cons (shut_ok β z hz) .nil))) (.tup (.cons (shut_ok β z hz) (.cons (.i .i64 (Int.ofNat _)) .nil)))
   ·rw [MBn_range,Heap.set_same]
   ·have:(l' ++ [((⟨l,hl⟩:s.key),z.val)]).length = l'.length + 1:=by simp
    rw [this,hlen]; exact Bs.range _
   ·exact fun _=>⟨rfl,by simp [hlen]⟩
theorem setE_ok {s:Sh} {c:CV} {v:Value} (hc:VR β c v):∀ {es es':List (List Int × CV)} {j:Nat} {l:List (s.key × Value)},setE c es j = some es' → l.map (fun p=>p.1.1) = es.map (·.1) → VRs β (es.map (·.2)) (l.map (·.2)) →
  ∃ k v0,l[j]? = some (k,v0) ∧ (l.set j (k,v)).map (fun p=>p.1.1) = es'.map (·.1) ∧ VRs β (es'.map (·.2)) ((l.set j (k,v)).map (·.2))
 | [],_,_,_,e,_,_=>by simp [setE] at e
 | _ :: _,_,_,[],_,e,_=>by simp at e
 | e :: es,es',0,(p,u) :: l,he,h1,h2=>by
  simp only [List.map_cons,List.cons.injEq] at h1
  simp only [List.map_cons] at h2
  cases he
  cases h2 with
  | cons r1 r2=>exact ⟨p,u,rfl,by simp [h1.1,h1.2],by simpa using .cons hc r2⟩
 | e :: es,es',j + 1,(p,u) :: l,he,h1,h2=>by
  simp only [List.map_cons,List.cons.injEq] at h1
  simp only [List.map_cons] at h2
  unfold setE at he
  split at he
  ·rename_i l2 hl2
   cases he
   cases h2 with
   | cons r1 r2 =>
    obtain ⟨k,v0,i1,i2,i3⟩:=setE_ok hc hl2 h1.2 r2
    exact ⟨k,v0,by simpa using i1,by simp only [List.set_cons_succ,List.map_cons,i2,h1.1],by simp only [List.set_cons_succ,List.map_cons]; exact .cons r1 i3⟩
  ·cases he
theorem keys_set {κ:Type} {l:List (κ × Value)} {j:Nat} {k:κ} {v v0:Value} (n1:Keys1 l) (hj:l[j]? = some (k,v0)):Keys1 (l.set j (k,v)):=by
 have:(l.set j (k,v)).map (·.1) = l.map (·.1):=by
  apply List.ext_getElem?
  intro m
  rw [List.getElem?_map,List.getElem?_map,List.getElem?_set]
  have hlt:=(List.getElem?_eq_some_iff.1 hj).1
  by_cases hjm:j = m
  ·subst hjm; rw [if_pos rfl,if_pos hlt,hj]; rfl
  ·rw [if_neg hjm]
 unfold Keys1
 rw [this]; exact n1
theorem aMst_ok (r:TR β T Tc) (hr:HR N.toKy β H n0 ck h) {t:Nat} {m k v:CP} (hm:m.ok = true) (hk:k.ok = true) (hv:v.ok = true) (hop:o.op = .entryStore t m.op k.op v.op):AoOk N β H ck h Tc o (aMst t m k v T H n0 ck):=by
 unfold aMst eMst
 simp only [setER_eq]
 split
 case h_2=>trivial
 rename_i id j e0 e1
 split
 case h_2=>trivial
 rename_i st t' cl es hc
 split
 case h_2=>trivial
 rename_i l hl
 obtain ⟨y,hy,hmv⟩:=g_m r hm e0
 obtain ⟨s',l',bs,hs',hb,hbs,hfl,n1,hkk,hvv⟩:=hr.map hc hy
 obtain ⟨rfl,rfl⟩:=hfl rfl
 rw [MBn_range] at hb
 obtain ⟨k',v0,i1,i2,i3⟩:=setE_ok (CP.get_ok r v hv) hl hkk hvv
 refine s_entryStoreM hop hmv (g_i r hk e1) rfl hb i1 (aft_turn hr hy (live_map hc) rfl (.map s' hs' (l'.set j (k',ev Tc v.op)) (List.range (l'.set j (k',ev Tc v.op)).length) ?_ ?_ ?_ (keys_set n1 i1) i2 i3) .u)
 ·rw [MBn_range,Heap.set_same]
 ·rw [List.length_set]; exact Bs.range _
 ·exact fun _=>⟨rfl,by rw [List.length_set]⟩
end
end Go.Proofs.YtihdpjinaafenaaGreatDoor.Ce
