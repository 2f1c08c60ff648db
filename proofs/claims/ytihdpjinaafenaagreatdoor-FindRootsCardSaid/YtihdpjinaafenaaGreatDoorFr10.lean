import Derived.Test.YtihdpjinaafenaaGreatDoorFr9
noncomputable section
/- What acts: the theorem over all kinds. -/
set_option linter.unusedVariables false
set_option linter.unusedSimpArgs false
namespace Go.Proofs.YtihdpjinaafenaaGreatDoor.Ab
open Go.Proofs.YtihdpjinaafenaaGreatDoor.Sl
section
variable {P : Program} {h0 : Gd} {β : Nat → Value} {hF h : Heap} {Tc : Tm} {T : AT} {L : AL} {σ : AS} {o : Oper} {ra : RA}
theorem areps_fzv (hF:Heap) (β:Nat → Value) (zs:List Value):AReps β hF (zs.map fun v=>.fz (.val v)) zs :=
 ⟨by simp,fun j c v a b=>by
  rw [List.getElem?_map,b] at a; cases a; exact .fz (.val v)⟩
theorem freps_val (hF:Heap) (zs:List Value):FReps hF (zs.map .val) zs :=
 ⟨by simp,fun j c v a b=>by
  rw [List.getElem?_map,b] at a; cases a; exact .val v⟩
theorem pa_box (s:Sem h0 β hF h Tc T L σ) {ch:List (Nat × Bool)} (hch:∀ x ∈ ch,Tc x.1 = .bool x.2) {t:TypeId} {x:Operand} {z:Bool} {d:Option Nat} (hop:o.op = (K.box t x z).op) (e:pa T L σ (opd L T ch) d (.box t x z) = some ra):SOp P o (ev Tc) h (AcOk h0 β hF h σ ra):=by
 simp only [pa] at e
 split at e
 ·rename_i y d hx
  have hv:=fz_fz (opd_ok s hch hx)
  have hc:=cells_ok hv
  split at e
  ·cases e
   refine ac_new s.ok (a_box hop) (fun b hb=>.fz ?_) rfl
   exact .fp (off:=0) (Heap.set_same _ _ _) (by have:=hc.1; simp at this ⊢; omega) (fun j c u a e=>(hc.2 j c u a (by rw [Array.getElem?_toList]; rw [Nat.zero_add] at e; exact e)).le (Heap.le_set _ (s.ok.fnone hb)))
  ·split at e
   ·rename_i hd
    cases e
    refine ac_obj (x:=.box t (y.cells.map .fz)) s.ok hd (a_box hop) rfl (fun b=>rfl) (fun b hb=>⟨b,(ev Tc x).cells.toList,by simp [upd],by rw [Heap.set_same],AReps.fz hc⟩) (fun b=>?_) rfl
    have:=ARep.oe (β:=upd β d (.pointer (some ⟨b,0,none⟩))) (h:=hF) (id:=d) (sz:=y.cells.length) (i:=0) (off:=0) (b:=b) (by simp [upd,baseOf])
    simpa using this
   ·cases e
 ·rename_i id d hx
  split at e
  ·rename_i t' sz rows hσ
   split at e
   ·rename_i hd
    cases e
    have hne:id ≠ d:=fun e2=>opd_nm hd hx (by rw [e2]; rfl)
    have h1:=opd_ok s hch hx
    generalize hv:ev Tc x = v at h1
    cases h1
    have hcell:(ev Tc x).cells = #[β id]:=by
     obtain ⟨vs,own,_⟩:=s.ok.ok _ (lookS_mem hσ)
     rw [hv]
     generalize rows.length = n at own
     generalize β id = v at own
     cases own <;> rfl
    refine ac_obj (x:=.box t [.os id]) s.ok hd (a_box hop) rfl (fun b=>rfl) (fun b hb=>⟨b,[β id],by simp [upd],by rw [Heap.set_same,hcell],?_⟩) (fun b=>?_) rfl
    ·refine areps1 ?_
     have:=ARep.os (β:=upd β d (.pointer (some ⟨b,0,none⟩))) (h:=hF) id
     simpa [upd,hne] using this
    ·have:=ARep.oe (β:=upd β d (.pointer (some ⟨b,0,none⟩))) (h:=hF) (id:=d) (sz:=1) (i:=0) (off:=0) (b:=b) (by simp [upd,baseOf])
     simpa using this
   ·cases e
  ·cases e
 ·rename_i id sz i p d hx
  split at e
  ·rename_i hd
   cases e
   have hne:id ≠ d:=fun e2=>opd_nm hd hx (by rw [e2]; rfl)
   have h1:=opd_ok s hch hx
   generalize hv:ev Tc x = v at h1
   cases h1 with
   | @oe _ _ _ _ b0 hb0 =>
    have hcell:(ev Tc x).cells = #[.pointer (some ⟨b0,i * sz + p,none⟩)]:=by rw [hv]; rfl
    refine ac_obj (x:=.box t [.oe id sz i p]) s.ok hd (a_box hop) rfl (fun b=>rfl) (fun b hb=>⟨b,[.pointer (some ⟨b0,i * sz + p,none⟩)],by simp [upd],by rw [Heap.set_same,hcell],?_⟩) (fun b=>?_) rfl
    ·refine areps1 (.oe ?_)
     simp [upd,hne,hb0]
    ·have:=ARep.oe (β:=upd β d (.pointer (some ⟨b,0,none⟩))) (h:=hF) (id:=d) (sz:=1) (i:=0) (off:=0) (b:=b) (by simp [upd,baseOf])
     simpa using this
  ·cases e
 ·cases e
theorem pa_alc (s:Sem h0 β hF h Tc T L σ) {ch:List (Nat × Bool)} {t:TypeId} {zs:List Value} {z:Bool} {d:Option Nat} (hop:o.op = (K.alc t zs z).op) (hs:(K.alc t zs z).side P = true) (e:pa T L σ (opd L T ch) d (.alc t zs z) = some ra):SOp P o (ev Tc) h (AcOk h0 β hF h σ ra):=by
 simp only [K.side,Bool.and_eq_true] at hs
 obtain ⟨zv,hz,hzc⟩:=zeroIs_V hs.1
 have hp:AllocOp P o (ev Tc) (.cells zs.toArray t) (fun b=>.pointer (some ⟨b,0,none⟩)):=a_allocZ hop hz hzc
 simp only [pa] at e
 split at e
 ·rename_i d
  split at e
  ·cases e
   refine ac_new s.ok hp (fun b hb=>.fz ?_) rfl
   have hc:=freps_val (hF.set b (.cells zs.toArray t)) zs
   exact .fp (off:=0) (Heap.set_same _ _ _) (by simp) (fun j c u a e=>hc.2 j c u a (by rw [Nat.zero_add] at e; simpa using e))
  ·split at e
   ·rename_i hd
    cases e
    refine ac_obj (x:=.box t (zs.map fun v=>.fz (.val v))) s.ok hd hp rfl (fun b=>rfl) (fun b hb=>⟨b,zs,by simp [upd],Heap.set_same _ _ _,areps_fzv _ _ zs⟩) (fun b=>?_) rfl
    have:=ARep.oe (β:=upd β d (.pointer (some ⟨b,0,none⟩))) (h:=hF) (id:=d) (sz:=zs.length) (i:=0) (off:=0) (b:=b) (by simp [upd,baseOf])
    simpa using this
   ·cases e
 ·cases e
theorem ac_put {id:Nat} {x:OO} {b:Nat} {ob:Obj} {q:Prop} (s:Ok h0 β hF h σ) (hb:baseOf (β id) = some b) (hm:∃ y,(id,y) ∈ σ) (k:Ok h0 β hF (h.set b ob) (setS σ id x)):AcOk h0 β hF h σ ⟨q,.hid,setS σ id x,some id,none,none⟩ undef (h.set b ob):=by
 refine ⟨β,hF,k,Heap.le_refl _,fun _ _ _=>rfl,.hid _,fun e he hne b' e1=>Heap.set_other _ _ fun e2=>?_⟩
 obtain ⟨y,hy⟩:=hm
 exact s.sep e he _ hy b' (fun e3=>hne (by rw [e3])) e1 (by rw [e2]; exact (s.ok _ hy).fp hb)
theorem pa_st (s:Sem h0 β hF h Tc T L σ) {ch:List (Nat × Bool)} (hch:∀ x ∈ ch,Tc x.1 = .bool x.2) {t:TypeId} {x y:Operand} {d:Option Nat} (hop:o.op = (K.st t x y).op) (hs:(K.st t x y).side P = true) (e:pa T L σ (opd L T ch) d (.st t x y) = some ra) (hob:ra.ob):SOp P o (ev Tc) h (AcOk h0 β hF h σ ra):=by
 simp only [K.side,Bool.and_eq_true,beq_iff_eq] at hs
 simp only [pa] at e
 split at e
 ·rename_i id sz i p a hx hy
  have h1:=opd_ok s hch hx
  have h2:=opd_ok s hch hy
  generalize hv:ev Tc x = v at h1
  cases h1 with
  | @oe _ _ _ _ b hb =>
   split at e
   ·rename_i t' cells hσ
    obtain ⟨vs,hh,hl,hput⟩:=box_put s.ok hσ hb
    have hrep:=box_rep s.ok hσ hb hh
    have one:∀ {a':AV},ARep β hF a' (ev Tc y) → i = 0 → p < cells.length → (ev Tc y).oneCell' = true → ∀ q:Prop,SOp P o (ev Tc) h (AcOk h0 β hF h σ ⟨q,.hid,setS σ id (.box t' (cells.set p a')),some id,none,none⟩):=by
     intro a' ha hi hp h1c q
     subst hi
     refine s_store1 (cs:=vs.toArray) hop hv rfl h1c hs.1 hs.2 hh (by simp; omega) ?_
     have h3:vs.toArray.setIfInBounds (0 * sz + p) (ev Tc y) = (vs.set p (ev Tc y)).toArray:=by simp
     rw [h3]
     exact ac_put s.ok hb ⟨_,lookS_mem hσ⟩ (hput _ _ (hrep.set ha) (fun _=>hrep.set ha))
    split at e
    ·rename_i f
     split at e
     ·rename_i hi
      cases e
      exact one h2 hi hob.1 ((fz_fz h2).one hob.2) _
     ·cases e
    ·cases e
    ·rename_i j
     split at e
     ·rename_i tj sj rj hj
      split at e
      ·rename_i hi
       cases e
       refine one h2 hi hob ?_ _
       obtain ⟨vj,own,_⟩:=s.ok.ok _ (lookS_mem hj)
       generalize ev Tc y = w at h2
       cases h2
       generalize rj.length = nj at own
       generalize β j = vj at own
       cases own <;> rfl
      ·cases e
     ·cases e
    ·split at e
     ·rename_i hi
      cases e
      refine one h2 hi hob ?_ _
      generalize ev Tc y = w at h2
      cases h2
      rfl
     ·cases e
    ·cases e
   ·rename_i t' sz' rows hσ
    split at e
    ·rename_i f
     split at e
     ·rename_i hsz
      subst hsz
      cases e
      obtain ⟨⟨hi,hp⟩,h1c⟩:=hob
      obtain ⟨full,hh,hcap,hput⟩:=rows_put (p:=p) (k:=1) s.ok hσ hb hi (by omega)
      have hr:=fz_fz h2
      refine s_store1 (cs:=full) hop hv rfl (hr.one h1c) hs.1 hs.2 hh (by omega) ?_
      have:=hput [f] [ev Tc y] rfl (FReps.cons hr (FReps.nil _)) (by simp [h1c])
      rw [splice_one _ _ _ (by omega)] at this
      have hlen:(rows.getD i []).length = sz':=(rows_at (s.ok.ok _ (lookS_mem hσ)) hi).choose_spec.choose_spec.choose_spec.choose_spec.2.2.2.1
      rw [set_eq_splice (rows.getD i []) p f (by rw [hlen]; exact hp)]
      exact ac_put s.ok hb ⟨_,lookS_mem hσ⟩ this
     ·cases e
    ·cases e
   ·cases e
 ·cases e
theorem pa_stN (s:Sem h0 β hF h Tc T L σ) {ch:List (Nat × Bool)} (hch:∀ x ∈ ch,Tc x.1 = .bool x.2) {t:TypeId} {x y:Operand} {n:Nat} {d:Option Nat} (hop:o.op = (K.stN t x y n).op) (hs:(K.stN t x y n).side P = true) (e:pa T L σ (opd L T ch) d (.stN t x y n) = some ra) (hob:ra.ob):SOp P o (ev Tc) h (AcOk h0 β hF h σ ra):=by
 simp only [K.side,Bool.and_eq_true,beq_iff_eq] at hs
 simp only [pa] at e
 split at e
 ·rename_i id sz i p cs hx hy
  have h1:=opd_ok s hch hx
  obtain ⟨us,hus,hr⟩:=frep_agg (fz_fz (opd_ok s hch hy))
  generalize hv:ev Tc x = v at h1
  cases h1 with
  | @oe _ _ _ _ b hb =>
   split at e
   ·rename_i t' cells hσ
    split at e
    ·rename_i hi
     subst hi
     cases e
     obtain ⟨⟨hp,hn⟩,h1c⟩:=hob
     obtain ⟨vs,hh,hl,hput⟩:=box_put s.ok hσ hb
     have hrep:=box_rep s.ok hσ hb hh
     have hul:us.length = n:=by rw [hr.1]; exact hn
     refine s_storeN (cs:=vs.toArray) (n:=n) hop hv hus (by simpa using hr.one1 h1c) hs.1 (by simpa using hul) hs.2 hh (by simp; omega) ?_
     have h3:splice vs.toArray (0 * sz + p) us.toArray.toList = (vs.take p ++ us ++ vs.drop (p + n)).toArray:=by simp [splice,hul]
     rw [h3]
     have h4:AReps β hF (cells.take p ++ cs.map .fz ++ cells.drop (p + n)) (vs.take p ++ us ++ vs.drop (p + n)):=((hrep.takeA p).appA (AReps.fz hr)).appA (hrep.dropA _)
     exact ac_put s.ok hb ⟨_,lookS_mem hσ⟩ (hput _ _ h4 (fun _=>h4))
    ·cases e
   ·rename_i t' sz' rows hσ
    split at e
    ·rename_i hsz
     obtain ⟨hsz,hp0,hnz⟩:=hsz
     subst hsz
     subst hp0
     subst hnz
     cases e
     obtain ⟨⟨hi,hn⟩,h1c⟩:=hob
     obtain ⟨full,hh,hcap,hput⟩:=rows_put (p:=0) (k:=n) s.ok hσ hb hi (by omega)
     have hul:us.length = n:=by rw [hr.1]; exact hn
     refine s_storeN (cs:=full) (n:=n) hop hv hus (by simpa using hr.one1 h1c) hs.1 (by simpa using hul) hs.2 hh hcap ?_
     have:=hput cs us hn hr h1c
     have hlen:(rows.getD i []).length = n:=(rows_at (s.ok.ok _ (lookS_mem hσ)) hi).choose_spec.choose_spec.choose_spec.choose_spec.2.2.2.1
     rw [List.take_zero,List.nil_append,List.drop_eq_nil_of_le (by omega),List.append_nil] at this
     exact ac_put s.ok hb ⟨_,lookS_mem hσ⟩ this
    ·cases e
   ·cases e
 ·cases e
theorem grew_base {v v':Value} {n m:Nat} {e:TypeId} {sz:Nat} {cs ds:List Value} {h h':Heap} (a:Own h e sz v n cs) (b:Own h' e sz v' m ds) (g:Grew h h' v v'):(∀ q ob,h q = some ob → baseOf v ≠ some q → h' q = some ob) ∧ (∀ q,baseOf v' = some q → baseOf v = some q ∨ h q = none):=by
 have e1:=blk_base a
 have e2:=blk_base b
 refine ⟨fun q ob e hne=>g.same q ob e fun e3=>hne (by rw [← e1]; exact e3.symm),fun q e=>?_⟩
 rcases g.blk with h1 | ⟨q',h1,h2⟩
 ·left; rw [← e1,← h1,e2]; exact e
 ·right
  rw [← e2,h1] at e
  cases e; exact h2
theorem pa_app (s:Sem h0 β hF h Tc T L σ) {ch:List (Nat × Bool)} (hch:∀ x ∈ ch,Tc x.1 = .bool x.2) {t tx:TypeId} {x y:Operand} {ee e' sz:Nat} {d:Option Nat} (hop:o.op = (K.app t tx x y ee e' sz).op) (hs:(K.app t tx x y ee e' sz).side P = true) (e:pa T L σ (opd L T ch) d (.app t tx x y ee e' sz) = some ra) (hob:ra.ob):SOp P o (ev Tc) h (AcOk h0 β hF h σ ra):=by
 simp only [K.side,Bool.and_eq_true] at hs
 obtain ⟨⟨ht,htx⟩,hi⟩:=hs
 replace ht:=isSl_spec ht
 replace htx:=isSl_spec htx
 simp only [pa] at e
 split at e
 ·rename_i q news d hx hsrc
  split at e
  ·rename_i hd
   cases e
   obtain ⟨⟨hq,hfit⟩,hone⟩:=hob
   obtain ⟨hlen,ws,hc,hr⟩:=srcRows_ok s hch hsrc hq
   have hv:=fz_val (opd_ok s hch hx)
   have hd':=hd
   simp only [okNew,Bool.and_eq_true] at hd'
   have h1000:d < 1000:=of_decide_eq_true hd'.2
   replace hd':=hd'.1
   refine s_append hop ht htx hi hv rfl .nil hc (hr.one1 ?_) (by omega) (fun v' h' own grew=>?_)
   ·simp only [List.all_eq_true,List.mem_flatten]
    rintro c ⟨r,h1,h2⟩
    exact List.all_eq_true.1 (hone r h1) c h2
   ·obtain ⟨g1,g2⟩:=grew_base .nil own grew
    rw [Nat.zero_add,List.nil_append] at own
    have k:=s.ok.newO (d:=d) (v:=v') (h':=h') (x:=.rows ee sz news) hd'.2 (fun b ob e=>g1 b ob e (by simp [baseOf])) (fun b e=>(g2 b e).resolve_left (by simp [baseOf])) h1000 ⟨ws,by simpa [upd] using own,hlen,hone,hr⟩
    refine ⟨upd β d v',hF,k,Heap.le_refl _,fun id e _=>?_,?_,fun e1 he _ b e=>?_⟩
    ·have:id ≠ d:=fun e2=>e (by rw [e2])
     simp [upd,this]
    ·have:=ARep.os (β:=upd β d v') (h:=hF) d
     simpa [upd] using this
    ·obtain ⟨ob,h1⟩:=(s.ok.ok e1 he).blk e
     rw [h1]; exact g1 b ob h1 (by simp [baseOf])
  ·cases e
 ·rename_i id q news d' hx hsrc
  split at e
  ·rename_i t' sz' rows hσ
   split at e
   ·rename_i htt
    obtain ⟨⟨rfl,rfl⟩,h1000⟩:=htt
    skip
    cases e
    obtain ⟨⟨hq,hfit⟩,hone⟩:=hob
    obtain ⟨hlen,ws,hc,hr⟩:=srcRows_ok s hch hsrc hq
    have hv:=opd_ok s hch hx
    generalize hvx:ev Tc x = vx at hv
    cases hv
    obtain ⟨vs,own0,hlen0,hone0,hr0⟩:=s.ok.ok _ (lookS_mem hσ)
    refine s_append hop ht htx hi hvx rfl own0 hc (hr.one1 ?_) hfit (fun v' h' own grew=>?_)
    ·simp only [List.all_eq_true,List.mem_flatten]
     rintro c ⟨r,h1,h2⟩
     exact List.all_eq_true.1 (hone r h1) c h2
    ·obtain ⟨g1,g2⟩:=grew_base own0 own grew
     have k:=s.ok.app (v':=v') (h':=h') (x':=.rows t' sz' (rows ++ news)) hσ rfl h1000 g1 g2 rfl ⟨vs ++ ws,by simpa [upd] using own,by
      intro r hr'
      rcases List.mem_append.1 hr' with h1 | h1
      ·exact hlen0 r h1
      ·exact hlen r h1,by
      intro r hr'
      rcases List.mem_append.1 hr' with h1 | h1
      ·exact hone0 r h1
      ·exact hone r h1,by rw [List.flatten_append]; exact hr0.app hr⟩
     refine ⟨upd β id v',hF,k,Heap.le_refl _,fun j _ e=>?_,?_,fun e1 he hne b e=>?_⟩
     ·have:j ≠ id:=fun e2=>e (by rw [e2])
      simp [upd,this]
     ·have:=ARep.os (β:=upd β id v') (h:=hF) id
      simpa [upd] using this
     ·obtain ⟨ob,h1⟩:=(s.ok.ok e1 he).blk e
      rw [h1]
      exact g1 b ob h1 fun e2=>s.ok.sep e1 he _ (lookS_mem hσ) b (fun e3=>hne (by rw [e3])) e ((s.ok.ok _ (lookS_mem hσ)).fp e2)
   ·cases e
  ·cases e
 ·cases e
theorem parts_zip:∀ (l:List (Nat × Operand)) (k:Nat) (f:Operand → Value),l.map (·.1) = (List.range l.length).map (· + k) → l.map (fun p=>(p.1,f p.2)) = ((l.map fun p=>f p.2).zipIdx k).map fun x=>(x.2,x.1)
 | [],k,f,_=>rfl
 | (i,x) :: l,k,f,h=>by
  rw [List.length_cons,List.range_succ_eq_map] at h
  simp only [List.map_cons,List.map_map,List.cons.injEq,Nat.zero_add] at h
  obtain ⟨h1,h2⟩:=h
  have ih:=parts_zip l (k + 1) f (by rw [h2]; apply List.map_congr_left; intro a _; simp; omega)
  simp only [List.map_cons,List.zipIdx_cons,ih,h1]
theorem pa_bsl (s:Sem h0 β hF h Tc T L σ) {ch:List (Nat × Bool)} (hch:∀ x ∈ ch,Tc x.1 = .bool x.2) {t n:Nat} {parts:List (Nat × Operand)} {ee sz:Nat} {z:Bool} {d:Option Nat} (hop:o.op = (K.bsl t n parts ee sz z).op) (hs:(K.bsl t n parts ee sz z).side P = true) (e:pa T L σ (opd L T ch) d (.bsl t n parts ee sz z) = some ra) (hob:ra.ob):SOp P o (ev Tc) h (AcOk h0 β hF h σ ra):=by
 simp only [K.side,Bool.and_eq_true,decide_eq_true_eq] at hs
 obtain ⟨⟨⟨⟨⟨ht,hi⟩,hn⟩,hk⟩,hs0⟩,hfit⟩:=hs
 replace ht:=isSl_spec ht
 simp only [pa] at e
 split at e
 ·rename_i rows d hrows
  obtain ⟨h1,h2,h3⟩:=rowsP_ok (fun x av e=>opd_ok s hch e) hrows
  have main:(∀ r ∈ rows,r.length = sz) → AllocOp P o (ev Tc) (.cells ((parts.map fun p=>ev Tc p.2).flatMap (·.cells.toList)).toArray ee) (fun b=>.slice (some ⟨b,0,none⟩) n n) ∧ ((parts.map fun p=>ev Tc p.2).flatMap (·.cells.toList)).length = n * sz ∧ FReps hF rows.flatten ((parts.map fun p=>ev Tc p.2).flatMap (·.cells.toList)):=by
   intro hlen
   have h2':FReps hF rows.flatten ((parts.map fun p=>ev Tc p.2).flatMap (·.cells.toList)):=by
    have:(parts.map fun p=>ev Tc p.2).flatMap (·.cells.toList) = parts.flatMap fun p=>(ev Tc p.2).cells.toList:=by simp [List.flatMap_map]
    rw [this]; exact h2
   have hll:((parts.map fun p=>ev Tc p.2).flatMap (·.cells.toList)).length = n * sz:=by
    have h5:=h2'.1
    rw [flat_len hlen,h1,← hn] at h5
    exact h5
   refine ⟨?_,hll,h2'⟩
   have hcs:∀ v ∈ (parts.map fun p=>ev Tc p.2),v.cells.size = sz:=by
    intro v hv
    obtain ⟨j,hj,rfl⟩:=List.mem_iff_getElem.1 hv
    simp only [List.length_map] at hj
    have hr:=h3 j rows[j] parts[j] (List.getElem?_eq_getElem (by omega)) (List.getElem?_eq_getElem hj)
    have h4:=hlen _ (List.getElem_mem (show j < rows.length by omega))
    have h5:=hr.1
    simp only [List.getElem_map,Array.length_toList] at h5 ⊢
    omega
   by_cases hn0:n = 0
   ·have hp0:parts = []:=List.eq_nil_of_length_eq_zero (by omega)
    subst hp0
    subst hn0
    obtain ⟨i,z,hii,_⟩:=infoOk_spec hi
    exact a_buildSlice0 hop ht (by rw [hii]; rfl)
   ·exact a_buildSliceG (P:=P) (o:=o) (ρ:=ev Tc) (parts:=parts.toArray) (vs:=parts.map fun p=>ev Tc p.2) (sz:=sz) hop ht hi (by
     have:=parts_zip parts 0 (ev Tc) (by rw [hk,hn]; simp)
     simpa using this) (by simp [hn]) hcs (by omega) hs0 hfit
  have hrn:rows.length = n:=by omega
  split at e
  ·cases e
   obtain ⟨hlen,hone⟩:=hob
   obtain ⟨hlit,hll,hrep⟩:=main hlen
   refine ac_new s.ok hlit (fun b hb=>.fz ?_) rfl
   unfold slL
   rw [hrn]
   have hrow:∀ i,i < n → rows.getD i [] ∈ rows:=fun i hi=>by rw [List.getD_eq_getElem?_getD,List.getElem?_eq_getElem (by omega)]; exact List.getElem_mem _
   refine .sl (off:=0) (Heap.set_same _ _ _) (Nat.le_refl _) (fun i hi=>hlen _ (hrow i hi)) (fun i hi=>hone _ (hrow i hi)) (by rw [List.size_toArray,hll]; omega) (fun i j c v hi e1 e2=>(hrep.2 (i * sz + j) c v ?_ ?_).le (Heap.le_set _ (s.ok.fnone hb)))
   ·have hj:j < sz:=by have:=(List.getElem?_eq_some_iff.1 e1).1; rw [hlen _ (hrow i hi)] at this; exact this
    rw [flat_get hlen i j hj]
    rw [List.getD_eq_getElem?_getD] at e1
    have hri:rows[i]? = some (rows[i]'(by omega)):=List.getElem?_eq_getElem (by omega)
    rw [hri] at e1 ⊢
    exact e1
   ·rw [List.getElem?_toArray,Nat.zero_add] at e2; exact e2
  ·split at e
   ·rename_i hd
    cases e
    obtain ⟨hlen,hone⟩:=hob
    obtain ⟨hlit,hll,hrep⟩:=main hlen
    refine ac_obj (x:=.rows ee sz rows) s.ok hd hlit rfl (fun b=>rfl) (fun b hb=>⟨(parts.map fun p=>ev Tc p.2).flatMap (·.cells.toList),?_,hlen,hone,hrep⟩) (fun b=>?_) rfl
    ·have:Own (h.set b (.cells ((parts.map fun p=>ev Tc p.2).flatMap (·.cells.toList)).toArray ee (0,0))) ee sz (.slice (some ⟨b,0,none⟩) n n) n ((parts.map fun p=>ev Tc p.2).flatMap (·.cells.toList)) :=
      .at_ (Heap.set_same _ _ _) hll (Nat.le_refl _) (by rw [List.size_toArray,hll]; exact Nat.le_refl _) (List.take_of_length_le (Nat.le_of_eq hll))
     simpa [upd,hrn] using this
    ·have:=ARep.os (β:=upd β d (.slice (some ⟨b,0,none⟩) n n)) (h:=hF) d
     simpa [upd] using this
   ·cases e
 ·cases e
theorem made_take (z:Array Value) (sz:Nat) (hz:z.size = sz) (l c:Nat) (hlc:l ≤ c):(madeCells z (c * sz)).toList.take (l * sz) = (List.replicate l z.toList).flatten:=by
 have h1:l * sz ≤ c * sz:=Nat.mul_le_mul_right _ hlc
 apply List.ext_getElem?
 intro m
 by_cases hm:m < l * sz
 ·have hs0:0 < sz:=Nat.pos_of_ne_zero fun e3=>by subst e3; simp at hm
  have hj2:m / sz < l:=(Nat.div_lt_iff_lt_mul hs0).2 hm
  have hj3:m % sz < sz:=Nat.mod_lt _ hs0
  have hj4:m / sz * sz + m % sz = m:=by rw [Nat.mul_comm]; exact Nat.div_add_mod m sz
  rw [List.getElem?_take_of_lt hm]
  have h2:(List.replicate l z.toList).flatten[m]? = z.toList[m % sz]?:=by
   conv=>lhs; rw [← hj4]
   rw [flat_get (sz:=sz) (fun r hr=>by rw [List.eq_of_mem_replicate hr]; simpa using hz) _ _ hj3,List.getElem?_replicate,if_pos hj2]; rfl
  rw [h2,Array.getElem?_toList]
  unfold madeCells
  have hms:m < c * sz:=by omega
  rw [Array.getElem?_map,Array.getElem?_eq_getElem (by simpa using hms)]
  simp only [Array.getElem_range,Option.map_some,hz]
  rw [Array.getElem?_toList,Array.getElem?_eq_getElem (by omega),getElem!_pos z (m % sz) (by omega)]
 ·rw [List.getElem?_eq_none (by simp; omega),List.getElem?_eq_none]
  rw [flat_len (sz:=sz) (fun r hr=>by rw [List.eq_of_mem_replicate hr]; simpa using hz)]
  simp; omega
theorem pa_mks (s:Sem h0 β hF h Tc T L σ) {ch:List (Nat × Bool)} (hch:∀ x ∈ ch,Tc x.1 = .bool x.2) {t:TypeId} {x y:Operand} {ee sz:Nat} {zs:List Value} {d:Option Nat} (hop:o.op = (K.mks t x y ee sz zs).op) (hs:(K.mks t x y ee sz zs).side P = true) (e:pa T L σ (opd L T ch) d (.mks t x y ee sz zs) = some ra) (hob:ra.ob):SOp P o (ev Tc) h (AcOk h0 β hF h σ ra):=by
 simp only [K.side,Bool.and_eq_true] at hs
 obtain ⟨⟨⟨ht,hi⟩,hz⟩,hz1⟩:=hs
 replace ht:=isSl_spec ht
 obtain ⟨i,z,hii,hzz,hsz,hzs,hb⟩:=infoOk_spec hi
 have hzc:z.cells.toList = zs:=by
  have h1:=zeroIs_eq hz
  unfold zeroOf at h1
  rw [hii] at h1
  simp only [Option.bind_some,hzz,Option.map_some,Option.some.injEq] at h1
  rw [h1]
 simp only [pa] at e
 split at e
 ·rename_i k1 l k2 c d hx hy
  split at e
  ·rename_i hd
   cases e
   obtain ⟨hl,hlc,hc⟩:=hob
   have hvx:=fz_val (opd_ok s hch hx)
   have hvy:=fz_val (opd_ok s hch hy)
   obtain ⟨l,rfl⟩:=Int.eq_ofNat_of_zero_le hl
   obtain ⟨c,rfl⟩:=Int.eq_ofNat_of_zero_le (Int.le_trans hl hlc)
   have hlc':l ≤ c:=Int.ofNat_le.1 hlc
   have hm:i.bytes * c ≤ 4096 * 1000000:=Nat.mul_le_mul hb (by omega)
   have hm':(i.bytes:Int) * (c:Int) ≤ 281474976710656:=by
    have:((i.bytes * c:Nat):Int) ≤ ((4096 * 1000000:Nat):Int):=Int.ofNat_le.2 hm
    rw [Int.natCast_mul] at this
    omega
   have hp:AllocOp P o (ev Tc) (.cells (madeCells z.cells (c * i.size)) ee) (fun b=>.slice (some ⟨b,0,none⟩) l c):=fun w=>by
    have:=run_make (P:=P) w t ee i z ht hii hzz k1 k2 (l:Int) (c:Int) (by omega) hlc hm' (by omega)
    simp only [K.op] at hop
    simp only [execOp,hop,hvx,hvy,this,Sem.run_bind,Sem.run_map,Result.andThen_ok,Sem.run_pure,Int.toNat_natCast]
   refine ac_obj (v:=.os d) (x:=.rows ee sz (List.replicate l (zs.map .val))) s.ok hd hp rfl (fun b=>rfl) (fun b hb=>⟨(List.replicate l zs).flatten,?_,?_,?_,?_⟩) (fun b=>?_) (by simp)
   ·have:Own (h.set b (.cells (madeCells z.cells (c * i.size)) ee (0,0))) ee sz (.slice (some ⟨b,0,none⟩) l c) l (List.replicate l zs).flatten :=
     .at_ (Heap.set_same _ _ _) (flat_len (sz:=sz) (rows:=List.replicate l zs) (fun r hr=>by rw [List.eq_of_mem_replicate hr,← hzc]; simpa using hzs) ▸ by simp) hlc' (by rw [size_madeCells,hsz]; exact Nat.le_refl _) (by rw [hsz,made_take _ sz hzs l c hlc',hzc])
    simpa [upd] using this
   ·intro r hr; rw [List.eq_of_mem_replicate hr,List.length_map,← hzc]; simpa using hzs
   ·intro r hr; rw [List.eq_of_mem_replicate hr]
    simp only [List.all_map,List.all_eq_true] at hz1 ⊢
    exact fun v hv=>hz1 v hv
   ·have:∀ n:Nat,FReps hF (List.replicate n (zs.map FV.val)).flatten (List.replicate n zs).flatten:=by
     intro n
     induction n with
     | zero=>exact FReps.nil _
     | succ n ih=>rw [List.replicate_succ,List.replicate_succ,List.flatten_cons,List.flatten_cons]; exact (freps_val _ _).app ih
    exact this l
   ·have:=ARep.os (β:=upd β d (.slice (some ⟨b,0,none⟩) l c)) (h:=hF) d
    simpa [upd] using this
  ·cases e
 ·cases e
theorem s_clear {ρ:Operand → Value} {K':Value → Heap → Prop} {t e sz n c off b:Nat} {x:Operand} {full:Array Value} {te:TypeId} {zs:List Value} (hop:o.op = .call ⟨.builtin .clear,#[x],#[t]⟩) (hut:P.underlying t = some (.slice e)) (hi:infoOk P e sz = true) (hz:zeroIs P e zs = true) (h1:∀ v ∈ zs,v.oneCell' = true) (hx:ρ x = .slice (some ⟨b,off,none⟩) n c) (hn:0 < n) (hb:h b = some (.cells full te (0,0))) (hs:off + n * sz ≤ full.size)
  (k:K' (.tuple #[]) (h.set b (.cells (splice full off (List.replicate n zs).flatten) te (0,0)))):SOp P o ρ h K':=by
 obtain ⟨i,z,hii,hzz,hsz,hzs,hby⟩:=infoOk_spec hi
 have hzc:z.cells.toList = zs:=by
  have h1:=zeroIs_eq hz
  unfold zeroOf at h1
  rw [hii] at h1
  simp only [Option.bind_some,hzz,Option.map_some,Option.some.injEq] at h1
  rw [h1]
 have hzl:(Builtin.zeroCells z.cells n).toList = (List.replicate n zs).flatten:=by
  have h2:=made_take z.cells sz hzs n n (Nat.le_refl _)
  rw [hzc] at h2
  rw [← h2,List.take_of_length_le (by rw [Array.length_toList,size_madeCells]; exact Nat.le_refl _)]
  unfold Builtin.zeroCells madeCells
  rw [hzs]
 have hrl:(List.replicate n zs).flatten.length = n * sz:=by rw [← hzl,Array.length_toList,size_zeroCells,hzs]
 refine fun w rw_=>?_
 have hw:=rw_ _ _ hb
 have hst:=run_storeCells_at (P:=P) b off te (List.replicate n zs).flatten 0 full w hw (by rw [hrl]; omega) (fun v hv=>by
  obtain ⟨l,hl,hv⟩:=List.mem_flatten.1 hv
  rw [List.eq_of_mem_replicate hl] at hv
  exact h1 v hv)
 simp only [Nat.add_zero] at hst
 have hrun:(Builtin.clear_ #[t] o.type #[ρ x]).run P w = .ok (.tuple #[]) (w.setRow b (splice full off (List.replicate n zs).flatten)):=by
  rw [hx]
  obtain ⟨m',rfl⟩:∃ m',n = m' + 1:=⟨n - 1,by omega⟩
  simp [Builtin.clear_,run_underlying hut,zeroValue,typeInfo,program,Sem.run,hii,hzz,hzl,hst,splice]
 have hexec:(execOp ρ o).run P w = .ok (.value (.tuple #[])) (w.setRow b (splice full off (List.replicate n zs).flatten)):=by
  simp only [execOp,hop,resolve,Sem.run_bind,Sem.run_pure,Result.andThen_ok,invoke,builtin]
  simp [hrun]
 exact .inl ⟨_,_,_,.inl hexec,k,rw_.setRow hb,Step.setRow rw_ hb⟩
theorem ac_putv {id:Nat} {x:OO} {b:Nat} {ob:Obj} {q:Prop} {v:Value} (s:Ok h0 β hF h σ) (hb:baseOf (β id) = some b) (hm:∃ y,(id,y) ∈ σ) (k:Ok h0 β hF (h.set b ob) (setS σ id x)):AcOk h0 β hF h σ ⟨q,.hid,setS σ id x,some id,none,none⟩ v (h.set b ob):=by
 refine ⟨β,hF,k,Heap.le_refl _,fun _ _ _=>rfl,.hid _,fun e he hne b' e1=>Heap.set_other _ _ fun e2=>?_⟩
 obtain ⟨y,hy⟩:=hm
 exact s.sep e he _ hy b' (fun e3=>hne (by rw [e3])) e1 (by rw [e2]; exact (s.ok _ hy).fp hb)
theorem flat_take {α:Type} {sz:Nat}:∀ {rows:List (List α)} (i:Nat),(∀ r ∈ rows,r.length = sz) → (rows.take i).flatten = rows.flatten.take (i * sz)
 | [],i,_=>by simp
 | r :: rows,0,_=>by simp
 | r :: rows,i + 1,h=>by
  have h1:=h r (by simp)
  have ih:=flat_take (rows:=rows) i (fun r hr=>h r (by simp [hr]))
  have h2:r.take (i * sz + sz) = r:=List.take_of_length_le (by rw [h1]; omega)
  rw [List.take_succ_cons,List.flatten_cons,List.flatten_cons,ih,Nat.succ_mul,List.take_append,h2,h1,Nat.add_sub_cancel]
theorem pa_clr (s:Sem h0 β hF h Tc T L σ) {ch:List (Nat × Bool)} (hch:∀ x ∈ ch,Tc x.1 = .bool x.2) {t:TypeId} {x:Operand} {ee sz:Nat} {zs:List Value} {d:Option Nat} (hop:o.op = (K.clr t x ee sz zs).op) (hs:(K.clr t x ee sz zs).side P = true) (e:pa T L σ (opd L T ch) d (.clr t x ee sz zs) = some ra) (hob:ra.ob):SOp P o (ev Tc) h (AcOk h0 β hF h σ ra):=by
 simp only [K.side,Bool.and_eq_true] at hs
 obtain ⟨⟨⟨ht,hi⟩,hz⟩,hz1⟩:=hs
 replace ht:=isSl_spec ht
 have hz1':∀ v ∈ zs,v.oneCell' = true:=fun v hv=>List.all_eq_true.1 hz1 v hv
 obtain ⟨ii,zz,hii,hzz,hsz0,hzs0,_⟩:=infoOk_spec hi
 have hzl:zs.length = sz:=by
  have h1:=zeroIs_eq hz
  unfold zeroOf at h1
  rw [hii] at h1
  simp only [Option.bind_some,hzz,Option.map_some,Option.some.injEq] at h1
  rw [← hzs0,h1]; simp
 simp only [pa] at e
 split at e
 ·rename_i id sz1 i0 hx
  split at e
  ·rename_i t' sz' rows hσ
   split at e
   ·rename_i hsz
    rcases hsz with ⟨rfl,rfl⟩
    cases e
    have hle:i0 < rows.length:=hob
    have ok:=s.ok.ok _ (lookS_mem hσ)
    have h1:=opd_ok s hch hx
    generalize hv:ev Tc x = v at h1
    cases h1 with
    | @ot _ _ _ n c b hβ hile =>
     obtain ⟨hn,hnc⟩:=rows_cap ok hβ
     obtain ⟨vs,own,hlen,hone,reps⟩:=ok
     simp only at own
     rw [hβ] at own
     subst hn
     cases own with
     | @at_ _ _ _ full cs hb hl _ hcap hc =>
      rw [if_neg (by omega)] at hv
      have hb':baseOf (β id) = some b:=by rw [hβ]; rfl
      have hm1:i0 * sz1 + (rows.length - i0) * sz1 = rows.length * sz1:=by rw [← Nat.add_mul]; congr 1; omega
      have hm2:rows.length * sz1 ≤ c * sz1:=Nat.mul_le_mul_right _ hnc
      have hfl:(List.replicate (rows.length - i0) zs).flatten.length = (rows.length - i0) * sz1:=by simp [hzl]
      refine s_clear (n:=rows.length - i0) hop ht hi hz hz1' hv (by omega) hb (by omega) ?_
      refine ac_putv s.ok hb' ⟨_,lookS_mem hσ⟩ (s.ok.put hσ rfl hb' rfl ⟨vs.take (i0 * sz1) ++ (List.replicate (rows.length - i0) zs).flatten,?_,?_,?_,?_⟩)
      ·have hrl:(rows.take i0 ++ List.replicate (rows.length - i0) (zs.map FV.val)).length = rows.length:=by simp; omega
       rw [hβ,hrl]
       refine .at_ (Heap.set_same _ _ _) ?_ hnc ?_ ?_
       ·simp only [List.length_append,List.length_take,hfl,hl]; omega
       ·simp only [splice,List.size_toArray,List.length_append,List.length_take,List.length_drop,hfl,Array.length_toList]; omega
       ·rw [← hc]
        simp only [splice,List.take_take]
        rw [List.take_append_of_le_length (by simp only [List.length_append,List.length_take,hfl,Array.length_toList]; omega),List.take_of_length_le (by simp only [List.length_append,List.length_take,hfl,Array.length_toList]; omega)]
        congr 1
        rw [Nat.min_eq_left (by omega)]
      ·intro r hr
       rcases List.mem_append.1 hr with h2 | h2
       ·exact hlen _ (List.mem_of_mem_take h2)
       ·rw [List.eq_of_mem_replicate h2,List.length_map]; exact hzl
      ·intro r hr
       rcases List.mem_append.1 hr with h2 | h2
       ·exact hone _ (List.mem_of_mem_take h2)
       ·rw [List.eq_of_mem_replicate h2]
        simp only [List.all_map,List.all_eq_true]
        exact fun v hv=>hz1' v hv
      ·rw [List.flatten_append,flat_take i0 hlen]
       have hrep:∀ n:Nat,FReps hF (List.replicate n (zs.map FV.val)).flatten (List.replicate n zs).flatten:=by
        intro n
        induction n with
        | zero=>exact FReps.nil _
        | succ n ih=>rw [List.replicate_succ,List.replicate_succ,List.flatten_cons,List.flatten_cons]; exact (freps_val _ _).app ih
       have h3:=FReps.take reps 0 (i0 * sz1)
       rw [List.drop_zero,List.drop_zero] at h3
       exact h3.app (hrep _)
   ·cases e
  ·cases e
 ·cases e
theorem pa_ok (s:Sem h0 β hF h Tc T L σ) {ch:List (Nat × Bool)} (hch:∀ x ∈ ch,Tc x.1 = .bool x.2) {k:K} {d:Option Nat} (hop:o.op = k.op) (hs:k.side P = true) (e:pa T L σ (opd L T ch) d k = some ra) (hob:ra.ob):SOp P o (ev Tc) h (AcOk h0 β hF h σ ra):=by
 cases k with
 | box t x z=>exact pa_box s hch hop e
 | alc t zs z=>exact pa_alc s hop hs e
 | st t x y=>exact pa_st s hch hop hs e hob
 | stN t x y n=>exact pa_stN s hch hop hs e hob
 | app t tx x y ee e' sz=>exact pa_app s hch hop hs e hob
 | bsl t n parts ee sz z=>exact pa_bsl s hch hop hs e hob
 | mks t x y ee sz zs=>exact pa_mks s hch hop hs e hob
 | clr t x ee sz zs=>exact pa_clr s hch hop hs e hob
 | _=>simp only [pa,reduceCtorEq] at e
end
end Go.Proofs.YtihdpjinaafenaaGreatDoor.Ab

/- What acts: what it comes to. -/
namespace Go.Proofs.YtihdpjinaafenaaGreatDoor.Ce
open Go.Proofs.YtihdpjinaafenaaGreatDoor.Sl
open Ab (isOne isMany isSl isArr isIntT isStr zeroIs okCall)
inductive Ao where
 | no | ok (v:CV) (H:CH) (n:Id) (ck:Nat)
structure Al where
 o:CO
 v:Id → CV
def eBox (t:Nat) (x:CV) (ck:Nat):Option Al:=match x.cells with
 | cs=>bif cs.all CV.one then some ⟨.cells ck t cs,fun n=>.p n 0⟩ else none
def lBox (t:Nat) (x:CP) (T:SL CV) (ck:Nat):Option Al:=eBox t (x.get T) ck
def eAlc (t:Nat) (zs:List CV) (ck:Nat):Option Al:=some ⟨.cells ck t zs,fun n=>.p n 0⟩
def lAlc (t:Nat) (zs:List CV) (_:SL CV) (ck:Nat):Option Al:=eAlc t zs ck
def flatV (sz:Nat):List CV → Option (List CV):=fun l=>List.rec (some []) (fun x _ ih=>bif Nat.beq (lenR x.cells) sz && x.cells.all CV.one then (match ih with
    | some l=>some (appR x.cells l)
    | none=>none)
   else none) l
def flatC (sz:Nat) (l:List CP) (T:SL CV):Option (List CV):=flatV sz (gets l T)
theorem flatC_cons (sz:Nat) (x:CP) (r:List CP) (T:SL CV):flatC sz (x :: r) T = match (x.get T).cells with
  | cs=>bif Nat.beq cs.length sz && cs.all CV.one then match flatC sz r T with
    | some l=>some (cs ++ l)
    | none=>none
   else none:=by
 show (bif Nat.beq (lenR (x.get T).cells) sz && (x.get T).cells.all CV.one then (match flatC sz r T with | some l=>some (appR (x.get T).cells l) | none=>none) else none) = _
 rw [lenR_eq]
 cases flatC sz r T with
 | none=>rfl
 | some l=>simp only [appR_eq]
def eBsl (m:Nat) (parts:List CV) (e sz:Nat) (ck:Nat):Option Al:=match flatV sz parts with
 | some cs=>some ⟨.cells ck e cs,fun n=>.sl n 0 m sz (some m)⟩
 | none=>none
def lBsl (_ m:Nat) (parts:List CP) (e sz:Nat) (T:SL CV) (ck:Nat):Option Al:=eBsl m (gets parts T) e sz ck
def repC (zs:List CV):Nat → List CV
 | 0=>[]
 | l + 1=>zs ++ repC zs l
def eMks (x:CV) (y:CV) (e:Nat) (sz:Nat) (zs:List CV) (ck:Nat):Option Al:=match x,y with
 | .i _ (.ofNat l),.i _ (.ofNat c)=>bif Nat.ble l c && Nat.ble c 1000000 then some ⟨.cells ck e (repC zs l),fun n=>.sl n 0 l sz (some c)⟩ else none
 | _,_=>none
def lMks (_:Nat) (x:CP) (y:CP) (e:Nat) (sz:Nat) (zs:List CV) (T:SL CV) (ck:Nat):Option Al:=eMks (x.get T) (y.get T) e sz zs ck
def eMkm (t:Nat) (ck:Nat):Option Al:=some ⟨.map ck t false 0 [],fun n=>.m n⟩
def lMkm (t:Nat) (_:Sh) (_:SL CV) (ck:Nat):Option Al:=eMkm t ck
def aAl (a:Option Al) (H:CH) (n:Id) (ck:Nat):Ao:=match a with
 | some y=>.ok (y.v n) (hset n y.o H) n.succ ck
 | none=>.no
def sSt (x:CV) (y:CV) (H:CH) (n:Id) (ck:Nat):Ao:=match x with
 | .p id off=>match hget id H with
  | .cells _ t cs=>bif leR (off + 1) cs && y.one then .ok .u (hset id (.cells (ck + 1) t (setR y cs off)) H) n (ck + 1) else .no
  | _=>.no
 | _=>.no
def eSt (x:CV) (y:CV) (H:CH) (n:Id) (ck:Nat):Ao:=CV.onP .no (fun id off=>CO.onC .no (fun _ t cs=>Bool.rec .no (Bool.rec .no (.ok .u (hset id (.cells (Nat.add ck 1) t (setR y cs off)) H) n (Nat.add ck 1)) y.oneR) (leR (Nat.add off 1) cs)) (hget id H)) x
theorem eSt_eq (x:CV) (y:CV) (H:CH) (n:Id) (ck:Nat):eSt x y H n ck = sSt x y H n ck:=by
 cases x <;> first | rfl | skip
 rename_i id off
 show CO.onC Ao.no (fun _ t cs=>Bool.rec .no (Bool.rec .no (.ok .u (hset id (.cells (ck + 1) t (setR y cs off)) H) n (ck + 1)) y.oneR) (leR (off + 1) cs)) (hget id H) = match hget id H with
  | .cells _ t cs=>bif leR (off + 1) cs && y.one then .ok .u (hset id (.cells (ck + 1) t (setR y cs off)) H) n (ck + 1) else .no
  | _=>.no
 cases hget id H with
 | cells st t cs =>
  show (Bool.rec .no (Bool.rec .no (.ok .u (hset id (.cells (ck + 1) t (setR y cs off)) H) n (ck + 1)) y.oneR) (leR (off + 1) cs):Ao) = bif leR (off + 1) cs && y.one then .ok .u (hset id (.cells (ck + 1) t (setR y cs off)) H) n (ck + 1) else .no
  rw [CV.oneR_eq]
  cases leR (off + 1) cs <;> cases y.one <;> rfl
 | _=>rfl
def aSt (_:Nat) (x:CP) (y:CP) (T:SL CV) (H:CH) (n:Id) (ck:Nat):Ao:=eSt (x.get T) (y.get T) H n ck
def sStN (x:CV) (y:CV) (m:Nat) (H:CH) (n:Id) (ck:Nat):Ao:=match x,y with
 | .p id off,.agg ys=>match hget id H with
  | .cells _ t cs=>bif leR (off + m) cs && Nat.beq (lenR ys) m then .ok .u (hset id (.cells (ck + 1) t (appR (takeR cs off) (appR ys (dropR cs (off + m))))) H) n (ck + 1) else .no
  | _=>.no
 | _,_=>.no
def eStN (x:CV) (y:CV) (m:Nat) (H:CH) (n:Id) (ck:Nat):Ao:=CV.onP .no (fun id off=>CV.onAgg .no (fun ys=>CO.onC .no (fun _ t cs=>Bool.rec .no (Bool.rec .no (.ok .u (hset id (.cells (Nat.add ck 1) t (appR (takeR cs off) (appR ys (dropR cs (Nat.add off m))))) H) n (Nat.add ck 1)) (Nat.beq (lenR ys) m)) (leR (Nat.add off m) cs)) (hget id H)) y) x
theorem eStN_eq (x:CV) (y:CV) (m:Nat) (H:CH) (n:Id) (ck:Nat):eStN x y m H n ck = sStN x y m H n ck:=by
 cases x <;> first | rfl | skip
 cases y <;> first | rfl | skip
 rename_i id off ys
 show CO.onC Ao.no (fun _ t cs=>Bool.rec .no (Bool.rec .no (.ok .u (hset id (.cells (ck + 1) t (appR (takeR cs off) (appR ys (dropR cs (off + m))))) H) n (ck + 1)) (Nat.beq (lenR ys) m)) (leR (off + m) cs)) (hget id H) = match hget id H with
  | .cells _ t cs=>bif leR (off + m) cs && Nat.beq (lenR ys) m then .ok .u (hset id (.cells (ck + 1) t (appR (takeR cs off) (appR ys (dropR cs (off + m))))) H) n (ck + 1) else .no
  | _=>.no
 cases hget id H with
 | cells st t cs =>
  show (Bool.rec .no (Bool.rec .no (.ok .u (hset id (.cells (ck + 1) t (appR (takeR cs off) (appR ys (dropR cs (off + m))))) H) n (ck + 1)) (Nat.beq (lenR ys) m)) (leR (off + m) cs):Ao) = bif leR (off + m) cs && Nat.beq (lenR ys) m then .ok .u (hset id (.cells (ck + 1) t (appR (takeR cs off) (appR ys (dropR cs (off + m))))) H) n (ck + 1) else .no
  cases leR (off + m) cs <;> cases Nat.beq (lenR ys) m <;> rfl
 | _=>rfl
def aStN (_:Nat) (x:CP) (y:CP) (m:Nat) (T:SL CV) (H:CH) (n:Id) (ck:Nat):Ao:=eStN (x.get T) (y.get T) m H n ck
def srcC (sz:Nat) (y:CV) (H:CH):Option (Nat × List CV):=match y with
 | .sl id off m sz' _=>match hget id H with
  | .cells _ _ cs=>bif Nat.beq sz sz' && leR (off + m * sz) cs then some (m,takeR (dropR cs off) (m * sz)) else none
  | _=>none
 | .z _=>some (0,[])
 | .ns=>some (0,[])
 | _=>none
def newS (e sz m:Nat) (cs:List CV) (H:CH) (n:Id) (ck:Nat):Ao:=.ok (.sl n 0 m sz none) (hset n (.cells ck e cs) H) n.succ ck
def shortC (c:Option Nat) (k:Nat):Bool:=match c with
 | some j=>Nat.blt j k
 | none=>false
def eApp (x:CV) (y:CV) (e:Nat) (sz:Nat) (H:CH) (n:Id) (ck:Nat):Ao:=match srcC sz y H with
 | some (m,news)=>match m with
  | 0=>match x with
   | .sl id off k sz' c=>.ok (.sl id off k sz' c) H n ck
   | .z c=>.ok (.z c) H n ck
   | .ns=>.ok .ns H n ck
   | _=>.no
  | _=>bif Nat.blt m 1000000 then match x with
   | .ns=>newS e sz m news H n ck
   | .z (some 0)=>newS e sz m news H n ck
   | .sl id off k sz' c=>match hget id H with
    | .cells _ t cs=>bif Nat.beq sz sz' && Nat.beq t e && leR (off + k * sz) cs && Nat.blt k 1000000 then
      (bif shortC c (k + m) then newS e sz (k + m) (appR (takeR (dropR cs off) (k * sz)) news) H n ck
      else bif Nat.beq off 0 then .ok (.sl n 0 (k + m) sz none) (hset n (.cells (ck + 1) e (appR (takeR cs (k * sz)) news)) (hset id (.dead (ck + 1)) H)) n.succ (ck + 1) else .no)
     else .no
    | _=>.no
   | _=>.no
   else .no
 | none=>.no
def aApp (_:Nat) (_:Nat) (x:CP) (y:CP) (e:Nat) (_:Nat) (sz:Nat) (T:SL CV) (H:CH) (n:Id) (ck:Nat):Ao:=eApp (x.get T) (y.get T) e sz H n ck
def eBs0 (H:CH) (n:Id) (ck:Nat):Ao:=.ok (.z (some 0)) H n ck
def aBs0 (_ _:Nat) (_:SL CV) (H:CH) (n:Id) (ck:Nat):Ao:=eBs0 H n ck
def putE (k:List Int) (v:CV):List (List Int × CV) → List (List Int × CV)
 | []=>[(k,v)]
 | e :: r=>bif keq k e.1 then (e.1,v) :: r else e :: putE k v r
def putER (k:List Int) (v:CV) (l:List (List Int × CV)):List (List Int × CV):=List.rec (motive:=fun _=>List (List Int × CV)) [(k,v)] (fun e r ih=>Bool.rec (e :: ih) ((e.1,v) :: r) (keqR k e.1)) l
theorem putER_eq (k:List Int) (v:CV):∀ l,putER k v l = putE k v l:=by
 intro l
 induction l with
 | nil=>rfl
 | cons e r ih =>
  show Bool.rec (e :: putER k v r) ((e.1,v) :: r) (keqR k e.1) = (bif keq k e.1 then (e.1,v) :: r else e :: putE k v r)
  rw [ih,keqR_eq]
  cases keq k e.1 <;> rfl
def eMup (t:Nat) (s:Sh) (m:CV) (k:CV) (v:CV) (H:CH) (n:Id) (ck:Nat):Ao:=match m,keyOf s k with
 | .m id,some l=>match hget id H with
  | .map _ t' fl cl es=>bif Nat.beq t t' then .ok .u (hset id (.map (ck + 1) t' fl (cl + ((putER l v es).length - es.length)) (putER l v es)) H) n (ck + 1) else .no
  | _=>.no
 | _,_=>.no
def aMup (t:Nat) (s:Sh) (m:CP) (k:CP) (v:CP) (T:SL CV) (H:CH) (n:Id) (ck:Nat):Ao:=eMup t s (m.get T) (k.get T) (v.get T) H n ck
def idxE (k:List Int):List (List Int × CV) → Nat → Option (Nat × CV)
 | [],_=>none
 | e :: r,j=>bif keq k e.1 then some (j,e.2) else idxE k r (j + 1)
def idxER (k:List Int) (l:List (List Int × CV)):Nat → Option (Nat × CV):=List.rec (motive:=fun _=>Nat → Option (Nat × CV)) (fun _=>none) (fun e _ ih j=>Bool.rec (ih (Nat.add j 1)) (some (j,e.2)) (keqR k e.1)) l
theorem idxER_eq (k:List Int):∀ l j,idxER k l j = idxE k l j:=by
 intro l
 induction l with
 | nil=>intro j; rfl
 | cons e r ih =>
  intro j
  show Bool.rec (idxER k r (j + 1)) (some (j,e.2)) (keqR k e.1) = (bif keq k e.1 then some (j,e.2) else idxE k r (j + 1))
  rw [ih,keqR_eq]
  cases keq k e.1 <;> rfl
def eMen (t:Nat) (s:Sh) (m:CV) (k:CV) (z:CV) (H:CH) (n:Id) (ck:Nat):Ao:=match m,keyOf s k with
 | .m id,some l=>match hget id H with
  | .map _ t' false cl es=>bif Nat.beq t t' then (match idxER l es 0 with
    | some (j,v)=>.ok (.tup [v,.i .i64 (.ofNat j)]) (hset id (.map (ck + 1) t' false cl es) H) n (ck + 1)
    | none=>.ok (.tup [z,.i .i64 (.ofNat es.length)]) (hset id (.map (ck + 1) t' false (cl + 1) (es ++ [(l,z)])) H) n (ck + 1)) else .no
  | _=>.no
 | _,_=>.no
def aMen (t:Nat) (s:Sh) (m:CP) (k:CP) (_:Nat) (z:CV) (T:SL CV) (H:CH) (n:Id) (ck:Nat):Ao:=eMen t s (m.get T) (k.get T) z H n ck
def setE (v:CV):List (List Int × CV) → Nat → Option (List (List Int × CV))
 | [],_=>none
 | e :: r,0=>some ((e.1,v) :: r)
 | e :: r,j + 1=>match setE v r j with
  | some l=>some (e :: l)
  | none=>none
def setER (v:CV) (l:List (List Int × CV)):Nat → Option (List (List Int × CV)):=List.rec (motive:=fun _=>Nat → Option (List (List Int × CV))) (fun _=>none) (fun e r ih j=>Nat.rec (some ((e.1,v) :: r)) (fun j _=>Option.rec none (fun l=>some (e :: l)) (ih j)) j) l
theorem setER_eq (v:CV):∀ l j,setER v l j = setE v l j:=by
 intro l
 induction l with
 | nil=>intro j; cases j <;> rfl
 | cons e r ih =>
  intro j
  cases j with
  | zero=>rfl
  | succ j =>
   show Option.rec (motive:=fun _=>Option (List (List Int × CV))) none (fun l=>some (e :: l)) (setER v r j) = (match setE v r j with | some l=>some (e :: l) | none=>none)
   rw [ih]
   cases setE v r j <;> rfl
def eMst (m:CV) (k:CV) (v:CV) (H:CH) (n:Id) (ck:Nat):Ao:=match m,k with
 | .m id,.i .i64 (.ofNat j)=>match hget id H with
  | .map _ t' false cl es=>match setER v es j with
   | some l=>.ok .u (hset id (.map (ck + 1) t' false cl l) H) n (ck + 1)
   | none=>.no
  | _=>.no
 | _,_=>.no
def aMst (_:Nat) (m:CP) (k:CP) (v:CP) (T:SL CV) (H:CH) (n:Id) (ck:Nat):Ao:=eMst (m.get T) (k.get T) (v.get T) H n ck
def eClr (x:CV) (sz:Nat) (zs:List CV) (H:CH) (n:Id) (ck:Nat):Ao:=match x with
 | .ns=>.ok (.tup []) H n ck
 | .z _=>.ok (.tup []) H n ck
 | .sl id off m sz' _=>bif Nat.beq m 0 then .ok (.tup []) H n ck else match hget id H with
  | .cells _ t cs=>bif Nat.beq sz sz' && Nat.ble (off + m * sz) cs.length then .ok (.tup []) (hset id (.cells (ck + 1) t (cs.take off ++ (repC zs m ++ cs.drop (off + m * sz)))) H) n (ck + 1) else .no
  | _=>.no
 | _=>.no
def aClr (_:Nat) (x:CP) (_:Nat) (sz:Nat) (zs:List CV) (T:SL CV) (H:CH) (n:Id) (ck:Nat):Ao:=eClr (x.get T) sz zs H n ck
section
variable {P : Program} {N : Kn P} {β : Bk} {H : CH} {n0 : Id} {ck : Nat} {h : Heap} {T : SL CV} {Tc : Tm} {o : Oper}
structure Aft (N:Kn P) (β:Bk) (H:CH) (ck:Nat) (h:Heap) (c:CV) (H':CH) (n':Id) (ck':Nat) (v:Value) (h':Heap):Prop where
 out:∃ β',β.le β' ∧ HR N.toKy β' H' n' ck' h' ∧ VR β' c v
 keep:Keep β H H' h h'
 mono:∀ p,(hget p H).st ≤ (hget p H').st
def AoOk (N:Kn P) (β:Bk) (H:CH) (ck:Nat) (h:Heap) (Tc:Tm) (o:Oper):Ao → Prop
 | .no=>True
 | .ok c H' n' ck'=>SOp P o (ev Tc) h (Aft N β H ck h c H' n' ck')
theorem st_new (r:HR N.toKy β H n0 ck h) (o:CO) (p:Id):(hget p H).st ≤ (hget p (hset n0 o H)).st:=by
 rw [hget_set]
 split
 ·rename_i e; rw [e,r.new0 n0 (Nat.le_refl _)]; exact Nat.zero_le _
 ·exact Nat.le_refl _
theorem aft_new (r:HR N.toKy β H n0 ck h) {b:Nat} {ob:Obj} {o:CO} {len:Nat} {c:CV} {v:Value} (hb:h b = none) (hst:o.st ≤ ck) (ho:ORp N.toKy (β.put n0 ⟨b,len⟩) (h.set b ob) ⟨b,len⟩ o) (hv:VR (β.put n0 ⟨b,len⟩) c v):Aft N β H ck h c (hset n0 o H) n0.succ ck v (h.set b ob) :=
 ⟨⟨_,r.put_le _,r.alloc hb ho hst,hv⟩,r.alloc_keep o hb,st_new r o⟩
theorem cells_new {t:Nat} {cs:List CV} {vs:List Value} {b:Nat} {x:Blk} (hx:x = ⟨b,vs.length⟩) (hr:VRs β cs vs) (h1:cs.all CV.one = true) {st:Nat}:ORp N.toKy β (h.set b (.cells vs.toArray t (0,0))) x (.cells st t cs):=by
 subst hx
 exact .cells (tl:=[]) (by rw [List.append_nil]; exact Heap.set_same _ _ _) (by simp) hr h1
def AlOk (N:Kn P) (β:Bk) (Tc:Tm) (o:Oper) (ck:Nat):Option Al → Prop
 | none=>True
 | some y=>∃ obj vf len,AllocOp P o (ev Tc) obj vf ∧ y.o.st = ck ∧ ∀ (β':Bk) (n:Id) (b:Nat) (h:Heap),β.le (β'.put n ⟨b,len⟩) → ORp N.toKy (β'.put n ⟨b,len⟩) (h.set b obj) ⟨b,len⟩ y.o ∧ VR (β'.put n ⟨b,len⟩) (y.v n) (vf b)
theorem aAl_ok (hr:HR N.toKy β H n0 ck h) {a:Option Al} (k:AlOk N β Tc o ck a):AoOk N β H ck h Tc o (aAl a H n0 ck):=by
 cases a with
 | none=>trivial
 | some y =>
  obtain ⟨obj,vf,len,al,hst,hk⟩:=k
  refine al.sop fun b hb=>?_
  obtain ⟨h1,h2⟩:=hk β n0 b h (hr.put_le _)
  exact aft_new hr hb (Nat.le_of_eq hst) h1 h2
theorem lBox_ok (r:TR β T Tc) {t:Nat} {x:CP} (hx:x.ok = true) (hop:o.op = .box t x.op):AlOk N β Tc o ck (lBox t x T ck):=by
 unfold lBox eBox
 simp only
 cases h1:(x.get T).cells.all CV.one with
 | false=>trivial
 | true =>
  have hc:=(CP.get_ok r x hx).cells
  have e:(ev Tc x.op).cells = ((ev Tc x.op).cells.toList).toArray:=by simp
  refine ⟨_,_,(ev Tc x.op).cells.toList.length,a_box hop,rfl,fun β' n b h l=>⟨?_,.p (x:=⟨b,_⟩) 0 (Bk.put_same _ _ _)⟩⟩
  rw [e]
  exact cells_new (vs:=(ev Tc x.op).cells.toList) rfl (hc.le l) h1
theorem lAlc_ok {t:Nat} {zs:List CV} (hz:zeroIs P t (CV.vals zs) = true) (hs:CV.shuts zs = true) (h1:zs.all CV.one = true) (hop:o.op = .alloc t):AlOk N β Tc o ck (lAlc t zs T ck):=by
 obtain ⟨z,hzv,hzc⟩:=Ab.zeroIs_V hz
 exact ⟨_,_,(CV.vals zs).length,a_allocZ hop hzv hzc,rfl,fun β' n b h l=>⟨cells_new (vs:=CV.vals zs) rfl (shuts_ok _ zs hs) h1,.p (x:=⟨b,_⟩) 0 (Bk.put_same _ _ _)⟩⟩
theorem aft_turn (r:HR N.toKy β H n0 ck h) {id:Id} {x:Blk} (hx:β id = some x) (hl:(hget id H).live = true) {ob:Obj} {o:CO} {c:CV} {v:Value} (hst:o.st = ck + 1) (ho:ORp N.toKy β (h.set x.b ob) x o) (hv:VR β c v):Aft N β H ck h c (hset id o H) n0 (ck + 1) v (h.set x.b ob):=by
 obtain ⟨h1,h2⟩:=r.turn hx hl ho hst
 refine ⟨⟨β,Bk.le_refl _,h1,hv⟩,h2,fun p=>?_⟩
 rw [hget_set]
 split
 ·rw [hst]; exact Nat.le_succ_of_le (r.ck p)
 ·exact Nat.le_refl _
theorem live_cells {id:Id} {st t:Nat} {cs:List CV} (e:hget id H = .cells st t cs):(hget id H).live = true:=by rw [e]; rfl
theorem live_map {id:Id} {st t:Nat} {fl:Bool} {cl:Nat} {es:List (List Int × CV)} (e:hget id H = .map st t fl cl es):(hget id H).live = true:=by rw [e]; rfl
theorem VRs.set:∀ {cs:List CV} {vs:List Value} (j:Nat) {c:CV} {v:Value},VRs β cs vs → VR β c v → VRs β (cs.set j c) (vs.set j v)
 | _,_,_,_,_,.nil,_=>by simp; exact .nil
 | _,_,0,_,_,.cons _ r,h=>.cons h r
 | _,_,j + 1,_,_,.cons h0 r,h=>.cons h0 (r.set j h)
theorem all_set {l:List CV} {j:Nat} {c:CV} (h:l.all CV.one = true) (hc:c.one = true):(l.set j c).all CV.one = true:=by
 rw [List.all_eq_true] at h ⊢
 intro x hx
 rcases List.mem_or_eq_of_mem_set hx with h1 | h1
 ·exact h x h1
 ·rw [h1]; exact hc
theorem aSt_ok (r:TR β T Tc) (hr:HR N.toKy β H n0 ck h) {t:Nat} {x y:CP} (hx:x.ok = true) (hy:y.ok = true) (h1:P.cellsOf t = 1) (hi:(P.info? t).isSome = true) (hop:o.op = .store t x.op y.op):AoOk N β H ck h Tc o (aSt t x y T H n0 ck):=by
 unfold aSt; rw [eSt_eq]; unfold sSt
 simp only [leR_lt,setR_eq]
 split
 ·rename_i id off e
  split
  ·rename_i st t' cs hc
   cases hb:(Nat.blt off cs.length && (y.get T).one) with
   | false=>trivial
   | true =>
    simp only [Bool.and_eq_true] at hb
    have hlt:=Nat.le_of_ble_eq_true hb.1
    obtain ⟨b,hbb,hv⟩:=g_p r hx e
    obtain ⟨vs,tl,hh,hl,rv,ho⟩:=hr.cells hc hbb
    have hlen:=rv.len
    have vy:=CP.get_ok r y hy
    refine s_store1 hop hv rfl (vy.one hb.2) h1 hi hh (by simp; omega) ?_
    have e1:(vs ++ tl).toArray.setIfInBounds off (ev Tc y.op) = (vs.set off (ev Tc y.op) ++ tl).toArray:=by
     rw [List.setIfInBounds_toArray,List.set_append_left _ _ (by omega)]
    rw [e1]
    exact aft_turn hr hbb (live_cells hc) rfl (.cells (Heap.set_same _ _ _) (by simpa using hl) (rv.set off vy) (all_set ho hb.2)) .u
  ·trivial
 ·trivial
theorem splice_app {vs tl us:List Value} {off m:Nat} (h:off + m ≤ vs.length) (hm:us.length = m):splice (vs ++ tl).toArray off us = ((vs.take off ++ (us ++ vs.drop (off + m))) ++ tl).toArray:=by
 subst hm
 unfold splice
 simp only [List.append_assoc]
 rw [List.take_append_of_le_length (by omega),List.drop_append_of_le_length (by omega)]
theorem aStN_ok (r:TR β T Tc) (hr:HR N.toKy β H n0 ck h) {t m:Nat} {x y:CP} (hx:x.ok = true) (hy:y.ok = true) (h1:P.cellsOf t = m) (hi:(P.info? t).isSome = true) (hop:o.op = .store t x.op y.op):AoOk N β H ck h Tc o (aStN t x y m T H n0 ck):=by
 unfold aStN; rw [eStN_eq]; unfold sStN
 simp only [takeR_eq,dropR_eq,leR_eq,lenR_eq,appR_eq]
 split
 ·rename_i id off ys e e2
  split
  ·rename_i st t' cs hc
   cases hb:(Nat.ble (off + m) cs.length && Nat.beq ys.length m) with
   | false=>trivial
   | true =>
    simp only [Bool.and_eq_true,Nat.ble_eq,Nat.beq_eq] at hb
    obtain ⟨b,hbb,hv⟩:=g_p r hx e
    obtain ⟨us,hu,ru,hou⟩:=g_agg r hy e2
    obtain ⟨vs,tl,hh,hl,rv,ho⟩:=hr.cells hc hbb
    have hlen:=rv.len
    have hul:=ru.len
    refine s_storeN hop hv hu (by rw [Array.all_eq_true_iff_forall_mem]; exact fun v hv=>ru.one hou v (by simpa using hv)) h1 (by simp; omega) hi hh (by simp; omega) ?_
    rw [show us.toArray.toList = us from rfl,splice_app (m:=m) (by omega) (by omega)]
    have ha:=all_sub (l:=cs) (a:=0) (b:=off) ho
    have hb':=all_sub (l:=cs) (a:=off + m) (b:=cs.length) ho
    rw [List.drop_zero] at ha
    rw [List.take_of_length_le (by simp)] at hb'
    refine aft_turn hr hbb (live_cells hc) rfl (.cells (Heap.set_same _ _ _) ?_ ((rv.take off).append (ru.append (rv.drop (off + m)))) (by rw [List.all_append,List.all_append,hou,ha,hb']; rfl)) .u
    rw [← hl]; simp; omega
  ·trivial
 ·trivial
end
end Go.Proofs.YtihdpjinaafenaaGreatDoor.Ce
