import Derived.Test.YtihdpjinaafenaaGreatDoorFr1
import Derived.Laws.Tables
import Derived.Deep.AppendSrc
import Derived.Laws.CopyRow
import Derived.Laws.StructEq
noncomputable section
/- A region that draws its order (third part): every order comes to what the one order gives. -/
set_option linter.unusedVariables false
set_option linter.unusedSimpArgs false
namespace Go.Proofs.YtihdpjinaafenaaGreatDoor.Sl
section
variable {P : Program} {N : Nat} {ops : Array Oper} {pp loud : List Nat} {Q : Tm → Heap → Prop} {τ : List Ent} {T0 : Tm} {ro : Option Nat} {D : List Deferred}
theorem draw_any (k:DOk ops τ pp loud) {Q':Exit → Act → World → Prop} {h0:Heap} {w0:World}
  (hQ:∀ T' h' a' w',Q T' h' → Rel h' w' → Step h0 h' w0 w' → Reads N T' a' D → Q' .normal a' w')
  (hd:∀ i,i < ops.size → ∀ t,(opAt ops i).dst = some t → t < N) :
  ∀ (fuel:Nat) (listed:Array Bool) (a:Act) (w:World),listed.size = ops.size → ((List.range ops.size).countP fun i=>!listed.getD i false) ≤ fuel →
   DInv P N D ops pp loud Q τ T0 h0 w0 (fun i=>listed.getD i false) a w → wpAnyIn (wideR ro) 0 P .any ops Q' fuel listed a w:=by
 have hend:∀ (listed:Array Bool) (a:Act) (w:World),listed.size = ops.size → DInv P N D ops pp loud Q τ T0 h0 w0 (fun i=>listed.getD i false) a w →
   (∀ i,i < ops.size → listed.getD i false = true) → Q' .normal a w:=by
  intro listed a w hs inv hall
  obtain ⟨B,V,E,F,π,r,h,st,hstuck,stp,ra,hc⟩:=inv.out
  rcases hstuck with rfl | ⟨i,r',rfl,hi,hp⟩
  ·have s:=st.s
   simp only [sdraw] at s
   refine hQ _ h a w s st.rel stp ?_
   have e:=st.e
   simp only [List.append_nil] at e
   have:view ops T0 V (mn π) = view ops T0 V (fun i=>listed.getD i false):=by
    refine view_congr (fun i hi=>?_) (fun _ _=>rfl)
    have h2:=k.all i hi
    rw [e] at h2
    simp [mn_iff.2 h2,hall i hi]
   rw [this]; exact ra
  ·exfalso
   have hlt:=k.lt (i,true) (by rw [st.e]; simp)
   have hL:=hall i hlt
   rcases st.lp i hlt hL with h1 | h1
   ·exact k.notin st.e h1
   ·have:=hp h1.1; simp only [hL] at this; cases this
 have hready:∀ (listed:Array Bool),listed.size = ops.size → Region.ready .any ops listed = [] → ∀ i,i < ops.size → listed.getD i false = true:=by
  intro listed hs hr i
  induction i using Nat.strongRecOn with
  | _ i ih =>
   intro hi
   cases hl:listed.getD i false with
   | true=>rfl
   | false =>
    exfalso
    have:i ∈ Region.ready .any ops listed:=by
     rw [mem_ready]
     refine ⟨by rw [getD_eq hs hi]; exact hl,opAt ops i,by simp [opAt,hi],fun e he hb=>?_⟩
     have hm:e.on ∈ preds ops i:=by
      have ho:ops[i]? = some (opAt ops i):=by simp [opAt,hi]
      simp only [preds,ho]
      exact List.mem_map.2 ⟨e,List.mem_filter.2 ⟨by simpa using he,hb⟩,rfl⟩
     have:=k.edge i e.on hm
     exact ih e.on this (by omega)
    rw [hr] at this; cases this
 intro fuel
 induction fuel with
 | zero =>
  intro listed a w hs hf inv
  have hall:∀ i,i < ops.size → listed.getD i false = true:=by
   intro i hi
   have h0:((List.range ops.size).countP fun i=>!listed.getD i false) = 0:=by omega
   have:=List.countP_eq_zero.1 h0 i (List.mem_range.2 hi)
   simpa using this
  refine ⟨?_,hend listed a w hs inv hall⟩
  cases hr:Region.ready .any ops listed with
  | nil=>rfl
  | cons i l =>
   have:i ∈ Region.ready .any ops listed:=by rw [hr]; simp
   obtain ⟨h1,o,ho,_⟩:=mem_ready.1 this
   have hi:i < ops.size:=(Array.getElem?_eq_some_iff.1 ho).1
   rw [getD_eq hs hi,hall i hi] at h1; cases h1
 | succ fuel ih =>
  intro listed a w hs hf inv
  refine ⟨fun hr=>hend listed a w hs inv (hready listed hs hr),fun i hi=>?_⟩
  obtain ⟨hun,o,ho,hpre⟩:=mem_ready.1 hi
  have hlt:i < ops.size:=(Array.getElem?_eq_some_iff.1 ho).1
  have hoi:o = opAt ops i:=by simp [opAt,Array.getD_eq_getD_getElem?,ho]
  subst hoi
  have hun':listed.getD i false = false:=by rw [← getD_eq hs hlt]; exact hun
  obtain ⟨B,V,E,F,π,r,h,st,hstuck,stp,ra,hc⟩:=inv.out
  have hp:∀ j ∈ preds ops i,listed.getD j false = true:=by
   intro j hj
   simp only [preds,ho] at hj
   obtain ⟨e,he,rfl⟩:=List.mem_map.1 hj
   obtain ⟨h1,h2⟩:=List.mem_filter.1 he
   exact hpre e (by simpa using h1) h2
  have hL':∀ j,j < ops.size → (listed.setIfInBounds i true).getD j false = if j = i then true else listed.getD j false:=by
   intro j hj
   by_cases hji:j = i
   ·subst hji; simp [Array.getD_eq_getD_getElem?,Array.getElem?_setIfInBounds,hs,hlt]
   ·rw [if_neg hji]; simp [Array.getD_eq_getD_getElem?,Array.getElem?_setIfInBounds_ne (fun e=>hji e.symm)]
  have hLout:∀ j,¬ j < ops.size → (listed.setIfInBounds i true).getD j false = false:=by
   intro j hj; rw [Array.getD_eq_getD_getElem?,Array.getElem?_eq_none (by simp [hs]; omega)]; rfl
  have hc':∀ m j,(listed.setIfInBounds i true).getD m false = true → j ∈ preds ops m → (listed.setIfInBounds i true).getD j false = true:=by
   intro m j hm hj
   have hml:m < ops.size:=by
    rcases Nat.lt_or_ge m ops.size with h1 | h1
    ·exact h1
    ·rw [hLout m (by omega)] at hm; cases hm
   have hjm:=k.edge m j hj
   rw [hL' j (by omega)]
   rw [hL' m hml] at hm
   by_cases hji:j = i
   ·simp [hji]
   ·rw [if_neg hji]
    by_cases hmi:m = i
    ·subst hmi; exact hp j hj
    ·rw [if_neg hmi] at hm; exact hc m j hm hj
  have hcnt:((List.range ops.size).countP fun j=>!(listed.setIfInBounds i true).getD j false) ≤ fuel:=by
   have hlt2:((List.range ops.size).countP fun j=>!(listed.setIfInBounds i true).getD j false) < ((List.range ops.size).countP fun j=>!listed.getD j false):=by
    have hsplit:=List.append_of_mem (List.mem_range.2 hlt)
    obtain ⟨l1,l2,el⟩:=hsplit
    have hnd:(List.range ops.size).Nodup:=List.nodup_range
    rw [el] at hnd ⊢
    have hmem:∀ j ∈ l1 ++ i :: l2,j < ops.size:=fun j hj=>List.mem_range.1 (el ▸ hj)
    have hn1:i ∉ l1:=by
     intro h1
     have:=List.nodup_append.1 hnd
     exact this.2.2 i h1 i (by simp) rfl
    have hn2:i ∉ l2:=by
     have:=(List.nodup_append.1 hnd).2.1
     exact (List.nodup_cons.1 this).1
    simp only [List.countP_append,List.countP_cons]
    have e1:l1.countP (fun j=>!(listed.setIfInBounds i true).getD j false) = l1.countP (fun j=>!listed.getD j false):=by
     refine List.countP_congr fun j hj=>?_
     rw [hL' j (hmem j (by simp [hj])),if_neg (show ¬ j = i from fun e'=>hn1 (by rw [← e']; exact hj))]
    have e2:l2.countP (fun j=>!(listed.setIfInBounds i true).getD j false) = l2.countP (fun j=>!listed.getD j false):=by
     refine List.countP_congr fun j hj=>?_
     rw [hL' j (hmem j (by simp [hj])),if_neg (show ¬ j = i from fun e'=>hn2 (by rw [← e']; exact hj))]
    rw [e1,e2,hL' i hlt,hun']
    simp
   omega
  -- once the drawn order has done it, the one order goes on
  have go:∀ (B':Nat → Nat) (V':Nat → Value) (E':Env) (F':List RdA) (π' r':List Ent) (h':Heap) (a':Act) (w':World),
    St P N ops pp loud Q τ T0 w0 (fun j=>(listed.setIfInBounds i true).getD j false) w' B' V' E' F' π' r' h' → Step h0 h' w0 w' →
    Reads N (view ops T0 V' (fun j=>(listed.setIfInBounds i true).getD j false)) a' D → wpAnyIn (wideR ro) 0 P .any ops Q' fuel (listed.setIfInBounds i true) a' w':=by
   intro B' V' E' F' π' r' h' a' w' st' stp' ra'
   obtain ⟨V2,E2,F2,π2,r2,h2,st2,sk2,hV2,hf2⟩:=advance k _ _ _ _ _ _ st'
   refine ih _ _ _ (by simp [hs]) hcnt ⟨B',V2,E2,F2,π2,r2,h2,st2,sk2,?_,?_,hc'⟩
   ·refine ⟨stp'.os,stp'.tape,stp'.output,stp'.size,stp'.keep,fun b e1 e2=>?_⟩
    by_cases e3:h' b = none
    ·exact hf2 b e3 e2
    ·exact stp'.fresh b e1 e3
   ·have:view ops T0 V2 (fun j=>(listed.setIfInBounds i true).getD j false) = view ops T0 V' (fun j=>(listed.setIfInBounds i true).getD j false):=by
     refine view_congr (fun _ _=>rfl) (fun j hj=>?_)
     by_cases hjl:j < ops.size
     ·exact hV2 j hjl hj
     ·simp only [hLout j hjl] at hj; cases hj
    rw [this]; exact ra'
  -- the one order is not stuck ahead of it
  have notstuck:∀ e:Ent,e.1 = i → ¬ (e.2 = true ∧ e.1 ∈ pp) → e ∈ r → ∃ s,r = e :: s:=by
   intro e he hb hm
   rcases hstuck with rfl | ⟨m,s,rfl,hma,hmp⟩
   ·cases hm
   ·rcases List.mem_cons.1 hm with h1 | h1
    ·exact ⟨s,by rw [h1]⟩
    ·exfalso
     obtain ⟨y1,y2,rfl⟩:=List.append_of_mem h1
     have han:=k.ext (π ++ (m,true) :: y1) y2 e (by rw [st.e]; simp) (m,true) (by simp) rfl hma hb
     rw [he] at han
     have hml:listed.getD m false = true:=han.ready (L:=fun n=>listed.getD n false = true) hc hp
     have hmlt:=k.lt (m,true) (by rw [st.e]; simp)
     rcases st.lp m hmlt hml with h2 | h2
     ·exact k.notin st.e h2
     ·have:=hmp h2.1; simp only [hml] at this; cases this
  have hview:∀ V':Nat → Value,(∀ j,j ≠ i → V' j = V j) → view ops T0 V' (fun j=>(listed.setIfInBounds i true).getD j false) = put (view ops T0 V (fun j=>listed.getD j false)) (opAt ops i).dst (V' i):=by
   intro V' hV'
   have e1:view ops T0 V (fun j=>listed.getD j false) = view ops T0 V' (fun j=>listed.getD j false) :=
    view_congr (fun _ _=>rfl) (fun j hj=>(hV' j (fun e=>by rw [e,hun'] at hj; cases hj)).symm)
   rw [e1]
   exact view_put hlt (fun j hj hne=>k.dst i j hlt hj hne) (by simp only [hL' i hlt,if_true]) (fun j hj hne=>by simp only [hL' j hj,hne,if_false])
  unfold wpOpIn
  simp only [ho]
  by_cases hpp:i ∈ pp
  ·-- an allocation whose place comes later
   obtain ⟨hpf,hact,hg⟩:=k.ppm i hpp
   have hnt:(i,true) ∉ π:=fun h1=>by have:=st.act i h1 hact; rw [hun'] at this; cases this
   have hfπ:(i,false) ∈ π:=by
    have:=hpf
    rw [st.e] at this
    rcases List.mem_append.1 this with h1 | h1
    ·exact h1
    ·exfalso
     obtain ⟨s,hs2⟩:=notstuck (i,false) rfl (by simp) h1
     rcases hstuck with h2 | ⟨m,s',h2,_⟩
     ·rw [h2] at hs2; cases hs2
     ·rw [h2] at hs2; simp at hs2
   obtain ⟨x,y,eπ⟩:=List.append_of_mem hfπ
   have eτ:τ = x ++ (i,false) :: (y ++ r):=by rw [st.e,eπ]; simp
   have hole:=st.hole x (i,false) y eπ hun'
   unfold Hole at hole
   simp only at hole
   have hlk:looksHere pp (i,false) = true:=by simp [looksHere,hpp]
   have hsame:=same_looks (T0:=T0) k (V:=V) (L:=fun j=>listed.getD j false) hc eτ hlk hun' hp
   have hw:Region.wanted (opAt ops i) (yielded ops a.tmps) = true:=by simp [Region.wanted,hg]
   have hex:execOp a.eval (opAt ops i) = execOp (ev (view ops T0 V (mn x))) (opAt ops i):=by
    rw [ra.eval]; exact (ev_congr (nosel k hlt) (fun t ht=>(hsame t ht).symm))
   simp only [hw,if_true]
   unfold Oper.wpIn
   refine ⟨fun _ _=>trivial,?_⟩
   rw [semAt_of_run (by rw [hex]; exact hole w) (by simp)]
   let V1:Nat → Value:=fun j=>if j = i then (E i).2 w.heap.size else V j
   let B1:Nat → Nat:=fun j=>if j = i then w.heap.size else B j
   have hVi:V1 i = (E i).2 w.heap.size:=by simp [V1]
   have hV1:∀ j,j ≠ i → V1 j = V j:=fun j hj=>by simp [V1,hj]
   have hBi:B1 i = w.heap.size:=by simp [B1]
   have hB1:∀ j,j ≠ i → B1 j = B j:=fun j hj=>by simp [B1,hj]
   have hkeep:∀ b,b < w.heap.size → (w.alloc (E i).1).heap[b]? = w.heap[b]?:=fun b hb=>heap_alloc w _ b hb
   have hmnv:view ops T0 V (mn π) = view ops T0 V1 (mn π):=view_congr (fun _ _=>rfl) (fun j hj=>(hV1 j (fun e=>hnt (e ▸ mn_iff.1 hj))).symm)
   refine go B1 V1 E F π r h _ (w.alloc (E i).1) ⟨st.e,by rw [← hmnv]; exact st.s,?_,?_,?_,?_,?_,?_,st.f⟩ ?_ ?_
   ·intro b o e; rw [hkeep b (st.rel.lt e)]; exact st.rel b o e
   ·intro j hj hl
    rw [hL' j hj] at hl
    by_cases hji:j = i
    ·subst hji; exact .inr ⟨hpp,hfπ⟩
    ·rw [if_neg hji] at hl; exact st.lp j hj hl
   ·intro j hj hl hn
    by_cases hji:j = i
    ·subst hji
     refine ⟨by rw [hVi,hBi],?_,?_,by rw [hBi]; exact stp.size⟩
     ·rw [hBi]
      cases e:h w.heap.size with
      | none=>rfl
      | some o=>have:=st.rel.lt e; omega
     ·rw [hBi]; exact heap_alloc_new w _
    ·have hjl:=k.lt (j,false) (k.ppm j hj).1
     rw [hL' j hjl,if_neg hji] at hl
     have x:=st.early j hj hl hn
     exact ⟨by rw [hV1 j hji,hB1 j hji]; exact x.val,by rw [hB1 j hji]; exact x.off,by rw [hB1 j hji,hkeep _ x.lt]; exact x.obj,by rw [hB1 j hji]; exact x.new⟩
   ·intro j1 j2 a1 a2 b1 b2 c1 c2 e
    have hj1:=k.lt (j1,false) (k.ppm j1 a1).1
    have hj2:=k.lt (j2,false) (k.ppm j2 a2).1
    rw [hL' j1 hj1] at b1
    rw [hL' j2 hj2] at b2
    by_cases h1:j1 = i <;> by_cases h2:j2 = i
    ·rw [h1,h2]
    ·exfalso
     rw [if_neg h2] at b2
     rw [h1,hBi,hB1 j2 h2] at e
     have:=(st.early j2 a2 b2 c2).lt
     omega
    ·exfalso
     rw [if_neg h1] at b1
     rw [h2,hBi,hB1 j1 h1] at e
     have:=(st.early j1 a1 b1 c1).lt
     omega
    ·rw [if_neg h1] at b1
     rw [if_neg h2] at b2
     rw [hB1 j1 h1,hB1 j2 h2] at e
     exact st.inj j1 j2 a1 a2 b1 b2 c1 c2 e
   ·intro j hj ha
    have hjl:=k.lt (j,true) (by rw [st.e]; simp [hj])
    rw [hL' j hjl]
    by_cases hji:j = i
    ·simp [hji]
    ·rw [if_neg hji]; exact st.act j hj ha
   ·intro x1 e y1 e1 hl
    have hel:e.1 < ops.size:=k.lt e (by rw [st.e,e1]; simp)
    rw [hL' e.1 hel] at hl
    have hei:e.1 ≠ i:=fun e2=>by simp [e2] at hl
    rw [if_neg hei] at hl
    exact Hole.congr (fun j hj=>(hV1 j (fun e2=>hnt (by rw [e1]; simp [← e2,hj]))).symm) (fun _=>(hV1 _ hei).symm) (fun _=>rfl) (fun _ h=>h) (st.hole x1 e y1 e1 hl)
   ·exact ⟨stp.os,stp.tape,stp.output,Nat.le_trans stp.size (by rw [size_alloc]; omega),fun b hb hn=>by rw [hkeep b (Nat.lt_of_lt_of_le hb stp.size)]; exact stp.keep b hb hn,stp.fresh⟩
   ·rw [hview V1 hV1,hVi]; exact ra.put _ (hd i hlt) _
  ·cases ha:isAct (opAt ops i).op with
   | false =>
    have hiπ:(i,true) ∈ π:=by
     have:=k.all i hlt
     rw [st.e] at this
     rcases List.mem_append.1 this with h1 | h1
     ·exact h1
     ·exfalso
      obtain ⟨s,hs2⟩:=notstuck (i,true) rfl (by simp [hpp]) h1
      rcases hstuck with h2 | ⟨m,s',h2,hma,_⟩
      ·rw [h2] at hs2; cases hs2
      ·rw [h2] at hs2
       simp only [List.cons.injEq,Prod.mk.injEq,and_true] at hs2
       rw [hs2.1,ha] at hma; cases hma
    obtain ⟨x,y,eπ⟩:=List.append_of_mem hiπ
    have eτ:τ = x ++ (i,true) :: (y ++ r):=by rw [st.e,eπ]; simp
    have hole:=st.hole x (i,true) y eπ hun'
    unfold Hole at hole
    simp only at hole
    have hole:=hole hpp ha
    have hlk:looksHere pp (i,true) = true:=by simp [looksHere,hpp]
    have hsame:=same_looks (T0:=T0) k (V:=V) (L:=fun j=>listed.getD j false) hc eτ hlk hun' hp
    have hw:Region.wanted (opAt ops i) (yielded ops a.tmps) = want ops (view ops T0 V (mn x)) (opAt ops i):=by
     rw [ra.want,want_congr (fun t ht=>(hsame t ht).symm)]
    have hex:execOp a.eval (opAt ops i) = execOp (ev (view ops T0 V (mn x))) (opAt ops i):=by
     rw [ra.eval]; exact (ev_congr (nosel k hlt) (fun t ht=>(hsame t ht).symm))
    have next:wpAnyIn (wideR ro) 0 P .any ops Q' fuel (listed.setIfInBounds i true) (a.put (opAt ops i).dst (V i)) w:=by
     refine go B V E F π r h _ w ⟨st.e,st.s,st.rel,?_,?_,?_,?_,?_,st.f⟩ stp ?_
     ·intro j hj hl
      rw [hL' j hj] at hl
      by_cases hji:j = i
      ·subst hji; exact .inl hiπ
      ·rw [if_neg hji] at hl; exact st.lp j hj hl
     ·intro j hj hl hn
      have hji:j ≠ i:=fun e=>hn (e ▸ hiπ)
      have hjl:=k.lt (j,false) (k.ppm j hj).1
      rw [hL' j hjl,if_neg hji] at hl
      exact st.early j hj hl hn
     ·intro j1 j2 a1 a2 b1 b2 c1 c2 e
      have hj1:=k.lt (j1,false) (k.ppm j1 a1).1
      have hj2:=k.lt (j2,false) (k.ppm j2 a2).1
      have h1:j1 ≠ i:=fun e=>c1 (e ▸ hiπ)
      have h2:j2 ≠ i:=fun e=>c2 (e ▸ hiπ)
      rw [hL' j1 hj1,if_neg h1] at b1
      rw [hL' j2 hj2,if_neg h2] at b2
      exact st.inj j1 j2 a1 a2 b1 b2 c1 c2 e
     ·intro j hj ha2
      have hjl:=k.lt (j,true) (by rw [st.e]; simp [hj])
      rw [hL' j hjl]
      by_cases hji:j = i
      ·simp [hji]
      ·rw [if_neg hji]; exact st.act j hj ha2
     ·intro x1 e y1 e1 hl
      have hel:e.1 < ops.size:=k.lt e (by rw [st.e,e1]; simp)
      rw [hL' e.1 hel] at hl
      have hei:e.1 ≠ i:=fun e2=>by simp [e2] at hl
      rw [if_neg hei] at hl
      exact st.hole x1 e y1 e1 hl
     ·rw [hview V (fun _ _=>rfl)]; exact ra.put _ (hd i hlt) _
    rw [hw]
    cases hwant:want ops (view ops T0 V (mn x)) (opAt ops i) with
    | false =>
     simp only [hwant,Bool.false_eq_true,if_false] at hole ⊢
     rw [hole] at next
     exact ⟨fun _ _=>trivial,next⟩
    | true =>
     simp only [hwant,if_true] at hole ⊢
     have hrun:(execOp a.eval (opAt ops i)).run P w = .ok (.value (V i)) w:=by
      rw [hex]
      cases hrd:isRead (opAt ops i).op with
      | true =>
       simp only [hrd,if_true] at hole
       obtain ⟨A,hA,q⟩:=hole
       exact q h (st.f A hA) w st.rel
      | false=>simp only [hrd,Bool.false_eq_true,if_false] at hole; exact hole w
     unfold Oper.wpIn
     refine ⟨fun _ _=>trivial,?_⟩
     rw [semAt_of_run hrun (by simp)]
     exact next
   | true =>
    have hnt:(i,true) ∉ π:=fun h1=>by have:=st.act i h1 ha; rw [hun'] at this; cases this
    have hr:∃ s,r = (i,true) :: s:=by
     have:=k.all i hlt
     rw [st.e] at this
     rcases List.mem_append.1 this with h1 | h1
     ·exact absurd h1 hnt
     ·exact notstuck (i,true) rfl (by simp [hpp]) h1
    obtain ⟨r',rfl⟩:=hr
    have hlk:looksHere pp (i,true) = true:=by simp [looksHere,hpp]
    have hsame:=same_looks (T0:=T0) k (V:=V) (L:=fun j=>listed.getD j false) hc st.e hlk hun' hp
    have hw:Region.wanted (opAt ops i) (yielded ops a.tmps) = want ops (view ops T0 V (mn π)) (opAt ops i):=by
     rw [ra.want,want_congr (fun t ht=>(hsame t ht).symm)]
    have hex:execOp a.eval (opAt ops i) = execOp (ev (view ops T0 V (mn π))) (opAt ops i):=by
     rw [ra.eval]; exact (ev_congr (nosel k hlt) (fun t ht=>(hsame t ht).symm))
    have next:∀ v h' w' a' F',sdraw P N ops pp loud Q r' (put (view ops T0 V (mn π)) (opAt ops i).dst v) h' F' E →
      ((i ∈ loud ∧ F' = []) ∨ (F' = F ∧ ∀ A ∈ F,A.on h → A.on h')) → Rel h' w' → Step h h' w w' →
      Reads N (put (view ops T0 V (fun j=>listed.getD j false)) (opAt ops i).dst v) a' D → wpAnyIn (wideR ro) 0 P .any ops Q' fuel (listed.setIfInBounds i true) a' w':=by
     intro v h' w' a' F' s' hl r1 st1 ra1
     let V1:Nat → Value:=fun j=>if j = i then v else V j
     have hVi:V1 i = v:=by simp [V1]
     have hV1:∀ j,j ≠ i → V1 j = V j:=fun j hj=>by simp [V1,hj]
     have ev1:view ops T0 V (mn π) = view ops T0 V1 (mn π):=view_congr (fun _ _=>rfl) (fun j hj=>(hV1 j (fun e'=>hnt (e' ▸ mn_iff.1 hj))).symm)
     have hput:view ops T0 V1 (mn (π ++ [(i,true)])) = put (view ops T0 V (mn π)) (opAt ops i).dst v:=by
      rw [ev1,← hVi]
      exact view_put hlt (fun j hj hne=>k.dst i j hlt hj hne) (by simp [mn]) (fun j hj hne=>by simp [mn,hne])
     rw [← hput] at s'
     refine go B V1 E F' (π ++ [(i,true)]) r' h' a' w' ⟨by rw [st.e]; simp,s',r1,?_,?_,?_,?_,?_,fun A hA=>by
      rcases hl with ⟨_,rfl⟩ | ⟨rfl,hl⟩
      ·cases hA
      ·exact hl A hA (st.f A hA)⟩ (stp.trans st1) (by rw [hview V1 hV1,hVi]; exact ra1)
     ·intro j hj hl2
      rw [hL' j hj] at hl2
      by_cases hji:j = i
      ·subst hji; exact .inl (by simp)
      ·rw [if_neg hji] at hl2
       rcases st.lp j hj hl2 with h1 | h1
       ·exact .inl (by simp [h1])
       ·exact .inr ⟨h1.1,by simp [h1.2]⟩
     ·intro j hj hl2 hn
      have hji:j ≠ i:=fun e=>hpp (e ▸ hj)
      have hjl:=k.lt (j,false) (k.ppm j hj).1
      rw [hL' j hjl,if_neg hji] at hl2
      have x:=st.early j hj hl2 (fun h1=>hn (by simp [h1]))
      refine ⟨by rw [hV1 j hji]; exact x.val,?_,?_,x.new⟩
      ·cases e:h' (B j) with
       | none=>rfl
       | some o =>
        have:=st1.fresh (B j) x.off (by rw [e]; simp)
        have:=x.lt
        omega
      ·rw [st1.keep (B j) x.lt x.off]; exact x.obj
     ·intro j1 j2 a1 a2 b1 b2 c1 c2 e
      have hj1:=k.lt (j1,false) (k.ppm j1 a1).1
      have hj2:=k.lt (j2,false) (k.ppm j2 a2).1
      have h1:j1 ≠ i:=fun e=>hpp (e ▸ a1)
      have h2:j2 ≠ i:=fun e=>hpp (e ▸ a2)
      rw [hL' j1 hj1,if_neg h1] at b1
      rw [hL' j2 hj2,if_neg h2] at b2
      exact st.inj j1 j2 a1 a2 b1 b2 (fun h1=>c1 (by simp [h1])) (fun h1=>c2 (by simp [h1])) e
     ·intro j hj ha2
      have hjl:j < ops.size:=k.lt (j,true) (by
       rw [st.e]
       simp only [List.mem_append,List.mem_singleton,List.mem_cons] at hj ⊢
       rcases hj with h1 | h1
       ·exact .inl h1
       ·exact .inr (.inl (by simpa using h1)))
      rw [hL' j hjl]
      by_cases hji:j = i
      ·simp [hji]
      ·rw [if_neg hji]
       simp only [List.mem_append,List.mem_singleton,Prod.mk.injEq,and_true] at hj
       rcases hj with h1 | h1
       ·exact st.act j h1 ha2
       ·exact absurd h1 hji
     ·intro x1 e y1 e1 hl2
      rcases split_last e1 with ⟨_,rfl,rfl⟩ | ⟨y',_,hπ⟩
      ·simp only [hL' i hlt,if_true] at hl2; cases hl2
      ·have hel:e.1 < ops.size:=k.lt e (by rw [st.e,hπ]; simp)
       rw [hL' e.1 hel] at hl2
       have hei:e.1 ≠ i:=fun e2=>by simp [e2] at hl2
       rw [if_neg hei] at hl2
       have hole:=st.hole x1 e y' hπ hl2
       have hvx:∀ j,(j,true) ∈ x1 → V j = V1 j:=fun j hj=>(hV1 j (fun e2=>hnt (by rw [hπ]; simp [← e2,hj]))).symm
       rcases hl with ⟨hl,rfl⟩ | ⟨rfl,hl⟩
       ·-- it is ordered against all that reads: none is open
        have ee:view ops T0 V (mn x1) = view ops T0 V1 (mn x1):=view_congr (fun _ _=>rfl) (fun i hi=>hvx i (mn_iff.1 hi))
        unfold Hole at hole ⊢
        rw [← ee]
        cases h2:e.2 with
        | false=>simp only [h2] at hole ⊢; exact hole
        | true =>
         simp only [h2] at hole ⊢
         rw [hV1 _ hei]
         intro hep hea
         have hole:=hole hep hea
         split
         ·rename_i hwn
          simp only [hwn,if_true] at hole
          split
          ·rename_i hrd
           exfalso
           have han:=k.rd π r' (i,true) st.e e (by rw [hπ]; simp) h2 hrd hea rfl hl
           have:=han.ready (L:=fun n=>listed.getD n false = true) hc hp
           rw [hl2] at this; cases this
          ·rename_i hrd; simpa [hrd] using hole
         ·rename_i hwn; simpa [hwn] using hole
       ·exact Hole.congr hvx (fun _=>(hV1 _ hei).symm) (fun _=>rfl) (fun _ h=>h) hole
    have s:=st.s
    simp only [sdraw,hpp,if_false] at s
    rw [hw]
    cases hwant:want ops (view ops T0 V (mn π)) (opAt ops i) with
    | false =>
     simp only [hwant,Bool.false_eq_true,if_false] at s ⊢
     exact ⟨fun _ _=>trivial,next undef h w _ F s (.inr ⟨rfl,fun _ _ h=>h⟩) st.rel (Step.refl _ _) (ra.put _ (hd i hlt) _)⟩
    | true =>
     simp only [hwant,if_true,ha] at s ⊢
     have s2:SOp P (opAt ops i) (ev (view ops T0 V (mn π))) h (fun v h'=>∃ F',sdraw P N ops pp loud Q r' (put (view ops T0 V (mn π)) (opAt ops i).dst v) h' F' E ∧
       ((i ∈ loud ∧ F' = []) ∨ (F' = F ∧ ∀ A ∈ F,A.on h → A.on h'))):=by
      by_cases hl:i ∈ loud
      ·simp only [hl,if_true] at s
       exact s.mono fun v h' x=>⟨[],x,.inl ⟨hl,rfl⟩⟩
      ·simp only [hl,if_false] at s
       exact s.mono fun v h' x=>⟨F,x.2,.inr ⟨rfl,x.1⟩⟩
     have s3:SOp P (opAt ops i) a.eval h (fun v h'=>∃ F',sdraw P N ops pp loud Q r' (put (view ops T0 V (mn π)) (opAt ops i).dst v) h' F' E ∧
       ((i ∈ loud ∧ F' = []) ∨ (F' = F ∧ ∀ A ∈ F,A.on h → A.on h'))):=by
      unfold SOp at s2 ⊢
      rw [hex]; exact s2
     exact s3.res (N:=N) rfl st.rel fun v h' w' ⟨F',s',hl⟩ r1 st1=>next v h' w' _ F' s' hl r1 st1 (ra.put _ (hd i hlt) v)

theorem s_draw {id:Nat} {Q:Exit → Tm → Heap → Prop} {T:Tm} {h:Heap} (τ:List Ent) (pp loud:List Nat) (hm:P.follows .mixedOrders = true) (hk:drawOk ops τ pp loud = true)
  (hdN:(List.range ops.size).all (fun i=>match (opAt ops i).dst with | some t=>t < N | none=>true) = true)
  (s:sdraw P N ops pp loud (Q .normal) τ T h [] (fun _=>default)):SCode P N (.region id ops true) Q T h:=fun ro D w a r ra=>by
 have k:=drawOk_spec hk
 have hd:∀ i,i < ops.size → ∀ t,(opAt ops i).dst = some t → t < N:=by
  intro i hi t ht
  have:=List.all_eq_true.1 hdN i (List.mem_range.2 hi)
  simpa [ht] using this
 refine wpIn_region_any hm ?_
 have v0:view ops T (fun _=>undef) (mn []) = T:=by funext t; unfold view; cases writer ops t <;> simp [mn]
 have hL:∀ i,(Array.replicate ops.size false).getD i false = false:=by
  intro i; simp only [Array.getD_eq_getD_getElem?]
  rcases Nat.lt_or_ge i ops.size with h1 | h1
  ·simp [h1]
  ·rw [Array.getElem?_eq_none (by simpa using h1)]; rfl
 have st0:St P N ops pp loud (Q .normal) τ T w (fun i=>(Array.replicate ops.size false).getD i false) w (fun _=>0) (fun _=>undef) (fun _=>default) [] [] τ h:=by
  refine ⟨rfl,by rw [v0]; exact s,r,?_,?_,?_,?_,?_,by simp⟩
  ·intro i _ hi; simp only [hL i] at hi; cases hi
  ·intro i _ hi; simp only [hL i] at hi; cases hi
  ·intro i _ _ _ hi; simp only [hL i] at hi; cases hi
  ·intro i hi; cases hi
  ·intro x e y e1; simp at e1
 obtain ⟨V',E',F',π',r',h',st',sk,_,hf⟩:=advance k _ _ _ _ _ _ st0
 refine draw_any (T0:=T) (h0:=h) (w0:=w) k (Q:=Q .normal) (fun T' h' a' w' q r' st ra'=>⟨T',h',q,r',st,ra'⟩) hd _ _ _ _ (by simp) ?_ ?_
 ·exact Nat.le_trans (List.countP_le_length) (by simp)
 ·refine ⟨fun _=>0,V',E',F',π',r',h',?_,sk,?_,?_,?_⟩
  ·exact { e:=st'.e,s:=st'.s,rel:=st'.rel,lp:=st'.lp,early:=fun i a b c=>let x:=st'.early i a b c; ⟨x.val,x.off,x.obj,x.new⟩,inj:=st'.inj,act:=st'.act,hole:=st'.hole,f:=st'.f }
  ·exact ⟨rfl,rfl,rfl,Nat.le_refl _,fun _ _ _=>rfl,fun b e1 e2=>hf b e1 e2⟩
  ·have:view ops T V' (fun i=>(Array.replicate ops.size false).getD i false) = T:=by
    funext t; unfold view
    cases writer ops t with
    | none=>rfl
    | some i=>simp only [hL i]; rfl
   rw [this]; exact ⟨ra.size,ra.at_,ra.out,ra.defers⟩
  ·intro i j hi; simp only [hL i] at hi; cases hi
end
end Go.Proofs.YtihdpjinaafenaaGreatDoor.Sl

/- The rules for single operations: what is reckoned of slots alone, what is read, what acts. -/
namespace Go.Proofs.YtihdpjinaafenaaGreatDoor.Sl

def intBin (op:BinOp) (k:IntKind) (a b:Int):Option Value :=
 match op with
 | .add=>some (.int k (k.wrap (a + b)))
 | .sub=>some (.int k (k.wrap (a - b)))
 | .mul=>some (.int k (k.wrap (a * b)))
 | .and=>some (.int k (k.wrap (BitVec.ofInt k.bits a &&& BitVec.ofInt k.bits b).toNat))
 | .or=>some (.int k (k.wrap (BitVec.ofInt k.bits a ||| BitVec.ofInt k.bits b).toNat))
 | .xor=>some (.int k (k.wrap (BitVec.ofInt k.bits a ^^^ BitVec.ofInt k.bits b).toNat))
 | .andNot=>some (.int k (k.wrap (BitVec.ofInt k.bits a &&& ~~~(BitVec.ofInt k.bits b)).toNat))
 | .eql=>some (.bool (a == b))
 | .neq=>some (.bool (a != b))
 | .lss=>some (.bool (decide (a < b)))
 | .leq=>some (.bool (decide (a ≤ b)))
 | .gtr=>some (.bool (decide (a > b)))
 | .geq=>some (.bool (decide (a ≥ b)))
 | _=>none
def binVal (op:BinOp) (a b:Value):Option Value :=
 match op,a,b with
 | .shl,_,_ | .shr,_,_=>none
 | op,.int k a,.int k' b=>if k = k' then intBin op k a b else none
 | _,_,_=>none
def pval (P:Program) (ρ:Operand → Value):Op → Option Value
 | .move x | .assign x=>some (ρ x)
 | .pick c a b=>match ρ c with
  | .bool t=>some (bif t then ρ a else ρ b)
  | _=>none
 | .binOp op _ x y _=>binVal op (ρ x) (ρ y)
 | .unOp .not _ x=>match ρ x with
  | .bool b=>some (.bool (!b))
  | _=>none
 | .nilCheck x=>match ρ x with
  | .pointer (some a)=>some (.pointer (some a))
  | .func (.func f) first captured=>some (.func (.func f) first captured)
  | _=>none
 | .fieldAddr t x f=>match ρ x,P.underlying t with
  | .pointer (some ⟨b,off,none⟩),some (.struct fs)=>match fs[f]? with
   | some fd=>if P.cellsOf fd.type = 0 then none else some (.pointer (some ⟨b,off + fd.offset,none⟩))
   | none=>none
  | _,_=>none
 | .field t x f=>match ρ x,P.underlying t with
  | .agg cs,some (.struct fs)=>match fs[f]? with
   | some fd=>match P.underlying fd.type with
    | some (.struct _) | some (.array _ _)=>some (.agg (cs.extract fd.offset (fd.offset + P.cellsOf fd.type)))
    | some _=>cs[fd.offset]?
    | none=>none
   | none=>none
  | _,_=>none
 | .extract t i=>match ρ t with
  | .tuple vs=>vs[i]?
  | _=>none
 | .build t parts=>(P.built t (parts.map fun (i,x)=>(i,ρ x)).toList).map .agg
 | .makeFunc fn first captured=>some (.func fn (first.map ρ) (captured.map ρ))
 | .makeInterface t x=>match P.underlying t with
  | some (.interface _)=>none
  | some _=>some (.iface t (ρ x))
  | none=>none
 | _=>none
section
variable {P : Program} {o : Oper} {ρ : Operand → Value} {h : Heap}
theorem run_cellsOf (t:TypeId) (w:World) (ht:(P.info? t).isSome = true):(sizeOf t).run P w = .ok (P.cellsOf t) w:=by
 obtain ⟨i,hi⟩:=Option.isSome_iff_exists.1 ht
 simp [sizeOf,typeInfo,hi,Program.cellsOf]
theorem info_of_underlying {t:TypeId} {d:TypeDesc} (h:P.underlying t = some d):(P.info? t).isSome = true:=by
 unfold Program.underlying at h
 cases hi:P.info? t with
 | none=>rw [hi] at h; cases h
 | some i=>rfl
theorem run_intBin {op:BinOp} {k:IntKind} {a b:Int} {v:Value} (hv:intBin op k a b = some v) (t:TypeId) (x y:Operand) (w:World) :
  (do eqGuard op t x y (.int k a) (.int k b); binOp op t (.int k a) (.int k b):Sem Value).run P w = .ok v w:=by
 cases op <;> simp only [intBin,Option.some.injEq,reduceCtorEq] at hv <;> subst hv <;>
  first
   | (simp [eqGuard,binOp,Op.intArith]; done)
   | (simp [eqGuard,binOp,Op.intBits]; done)
   | (simp [eqGuard,binOp,Op.intCmp]; done)
theorem p_val {v:Value} (hv:pval P ρ o.op = some v):PureOp P o ρ v:=by
 intro w
 obtain ⟨dst,op,type,pos,after,guard⟩:=o
 simp only at hv
 cases op <;> simp only [pval,reduceCtorEq] at hv
 case move x=>simp only [Option.some.injEq] at hv; subst hv; simp [execOp]
 case assign x=>simp only [Option.some.injEq] at hv; subst hv; simp [execOp]
 case pick c a b =>
  cases hc:ρ c <;> (try simp only [hc,reduceCtorEq] at hv)
  rename_i t
  simp only [Option.some.injEq] at hv; subst hv
  cases t <;> simp [execOp,hc,asBool]
 case binOp op t x y ty =>
  simp only [execOp]
  unfold binVal at hv
  split at hv <;> (try simp only [reduceCtorEq] at hv)
  rename_i op k a k' b h1 h2 hx hy
  split at hv
  ·rename_i hk
   subst hk
   have:=run_intBin (P:=P) hv t x y w
   rw [hx,hy]
   simp only [Sem.run_bind,this,Result.andThen_ok,Sem.run_pure]
  ·cases hv
 case unOp u t x =>
  cases u <;> (try simp only [reduceCtorEq] at hv)
  cases hx:ρ x <;> (try simp only [hx,reduceCtorEq] at hv)
  simp only [Option.some.injEq] at hv; subst hv
  simp [execOp,hx,Op.unary]
 case nilCheck x =>
  cases hx:ρ x <;> (try simp only [hx,reduceCtorEq] at hv)
  ·rename_i a
   cases a <;> (try simp only [reduceCtorEq] at hv)
   simp only [Option.some.injEq] at hv; subst hv
   simp [execOp,hx]
  ·rename_i fn first captured
   cases fn <;> (try simp only [reduceCtorEq] at hv)
   simp only [Option.some.injEq] at hv; subst hv
   simp [execOp,hx]
 case fieldAddr t x f =>
  split at hv <;> (try simp only [reduceCtorEq] at hv)
  rename_i b off fs hx hu
  split at hv <;> (try simp only [reduceCtorEq] at hv)
  rename_i fd hf
  split at hv
  ·cases hv
  ·rename_i hz
   simp only [Option.some.injEq] at hv; subst hv
   have hs:(sizeOf fd.type).run P w = .ok (P.cellsOf fd.type) w:=by
    refine run_cellsOf _ _ ?_
    cases hi:P.info? fd.type with
    | none=>simp [Program.cellsOf,hi] at hz
    | some i=>rfl
   have ha:(Addr.mk b off none).add fd.offset = ⟨b,off + fd.offset,none⟩:=by unfold Addr.add; split <;> simp_all
   simp only [execOp,Instr.fieldAt,Sem.run_bind,run_underlying hu,Result.andThen_ok,hf,Instr.sureAddr,hx,Sem.run_pure,fieldPlace,hs,Sem.run_ite,if_neg hz,ha]
 case field t x f =>
  split at hv <;> (try simp only [reduceCtorEq] at hv)
  rename_i cs fs hx hu
  split at hv <;> (try simp only [reduceCtorEq] at hv)
  rename_i fd hf
  simp only [execOp,Instr.field,Sem.run_bind,run_underlying hu,Result.andThen_ok,hf,asAgg,hx,Sem.run_pure,part,isAgg]
  split at hv
  ·rename_i hu2
   simp only [Option.some.injEq] at hv; subst hv
   simp [run_underlying hu2,run_cellsOf _ _ (info_of_underlying hu2)]
  ·rename_i hu2
   simp only [Option.some.injEq] at hv; subst hv
   simp [run_underlying hu2,run_cellsOf _ _ (info_of_underlying hu2)]
  ·rename_i d h1 h2 hu2
   rw [run_underlying hu2]
   cases d <;> simp_all
  ·cases hv
 case extract t i =>
  cases hx:ρ t <;> (try simp only [hx,reduceCtorEq] at hv)
  simp [execOp,hx,Instr.extract,hv]
 case build t parts =>
  cases hb:P.built t (parts.map fun (i,x)=>(i,ρ x)).toList with
  | none=>rw [hb] at hv; cases hv
  | some cells =>
   rw [hb] at hv
   simp only [Option.map_some,Option.some.injEq] at hv; subst hv
   simp only [execOp,Sem.run_bind,run_build w t _ cells hb,Result.andThen_ok,Sem.run_pure]
 case makeFunc fn first captured =>
  simp only [Option.some.injEq] at hv; subst hv
  simp [execOp,Instr.makeFunc]
 case makeInterface t x =>
  split at hv
  ·cases hv
  ·rename_i d h1 hu
   simp only [Option.some.injEq] at hv; subst hv
   simp only [execOp,Instr.makeInterface,Sem.run_bind,run_underlying hu,Result.andThen_ok]
   cases d <;> first | (simp_all; done) | rfl
  ·cases hv

theorem Rel.cell {w:World} (r:Rel h w) {b:Nat} {cs:Array Value} {e:TypeId} {fz:Nat × Nat} (hb:h b = some (.cells cs e fz)) (j:Nat):w.cell? ⟨b,j,none⟩ = cs[j]?:=by
 have:=r b _ hb
 simp [World.cell?,this]
theorem r_load1 {t:TypeId} {x:Operand} {b off:Nat} {cs:Array Value} {e:TypeId} {fz:Nat × Nat} {v:Value} {d:TypeDesc} (ho:o.op = .load t x) (hu:P.underlying t = some d) (hd:(match d with | .struct _ | .array _ _=>false | _=>true) = true)
  (hx:ρ x = .pointer (some ⟨b,off,none⟩)) (hb:h b = some (.cells cs e fz)) (hc:cs[off]? = some v):ReadOp P o ρ h v:=by
 intro w r
 have hcell:=(r.cell hb off).trans hc
 cases d <;> first | (simp at hd; done) | simp [execOp,ho,Instr.loadAt,loadVar,isAgg,run_underlying hu,Instr.sureAddr,hx,load,Sem.run,hcell]
theorem r_loadN {t:TypeId} {x:Operand} {b off:Nat} {cs:Array Value} {e:TypeId} {fz:Nat × Nat} {d:TypeDesc} (ho:o.op = .load t x) (hu:P.underlying t = some d) (hd:(match d with | .struct _ | .array _ _=>true | _=>false) = true)
  (hx:ρ x = .pointer (some ⟨b,off,none⟩)) (hb:h b = some (.cells cs e fz)) {n:Nat} (hn:P.cellsOf t = n) (hc:off + n ≤ cs.size):ReadOp P o ρ h (.agg (cs.extract off (off + n))):=by
 intro w r
 subst hn
 have hl:(loadCells ⟨b,off,none⟩ (P.cellsOf t)).run P w = .ok (cs.extract off (off + P.cellsOf t)) w:=by
  have hs:(cs.extract off (off + P.cellsOf t)).toList.length = P.cellsOf t:=by simp; omega
  have:=run_loadCells_list (P:=P) (w:=w) ⟨b,off,none⟩ (cs.extract off (off + P.cellsOf t)).toList (fun j v hj=>by
   have ha:(Addr.mk b off none).add j = ⟨b,off + j,none⟩:=by unfold Addr.add; split <;> simp_all
   rw [ha,r.cell hb]
   rw [Array.getElem?_toList,Array.getElem?_extract] at hj
   split at hj
   ·exact hj
   ·cases hj)
  rw [hs,Array.toArray_toList] at this
  exact this
 cases d <;> first | (simp at hd; done) | simp [execOp,ho,Instr.loadAt,loadVar,isAgg,run_underlying hu,Instr.sureAddr,hx,run_cellsOf _ _ (info_of_underlying hu),hl]
theorem p_indexAddr {t e:TypeId} {x ix:Operand} {b off n c:Nat} {k:IntKind} {i:Int} {sz:Nat} (ho:o.op = .indexAddr t x ix) (hu:P.underlying t = some (.slice e)) (hs:P.cellsOf e = sz) (he:(P.info? e).isSome = true)
  (hx:ρ x = .slice (some ⟨b,off,none⟩) n c) (hi:ρ ix = .int k i) (h0:0 ≤ i) (h1:i < n):PureOp P o ρ (.pointer (some ⟨b,off + i.toNat * sz,none⟩)):=by
 intro w
 subst hs
 have ha:(Addr.mk b off none).add (i.toNat * P.cellsOf e) = ⟨b,off + i.toNat * P.cellsOf e,none⟩:=by unfold Addr.add; split <;> simp_all
 have hc:0 ≤ i ∧ i < n:=⟨h0,h1⟩
 simp [execOp,ho,Instr.indexAt,hi,asIntOf,run_underlying hu,hx,hc,run_cellsOf _ _ he,ha]
theorem p_indexAddrA {t e:TypeId} {x ix:Operand} {b off n:Nat} {k:IntKind} {i:Int} {sz:Nat} (ho:o.op = .indexAddr t x ix) (hu:P.underlying t = some (.array n e)) (hs:P.cellsOf e = sz) (he:(P.info? e).isSome = true)
  (hx:ρ x = .pointer (some ⟨b,off,none⟩)) (hi:ρ ix = .int k i) (h0:0 ≤ i) (h1:i < n):PureOp P o ρ (.pointer (some ⟨b,off + i.toNat * sz,none⟩)):=by
 intro w
 subst hs
 have ha:(Addr.mk b off none).add (i.toNat * P.cellsOf e) = ⟨b,off + i.toNat * P.cellsOf e,none⟩:=by unfold Addr.add; split <;> simp_all
 have hc:0 ≤ i ∧ i < n:=⟨h0,h1⟩
 simp [execOp,ho,Instr.indexAt,hi,asIntOf,run_underlying hu,hx,hc,run_cellsOf _ _ he,ha,Instr.sureAddr]
theorem r_len_slice {x:Operand} {t e:TypeId} {a:Option Addr} {n c:Nat} (ho:o.op = .call ⟨.builtin .len,#[x],#[t]⟩) (hu:P.underlying t = some (.slice e)) (hx:ρ x = .slice a n c) :
  ReadOp P o ρ h (.int .i64 n):=by
 intro w r
 simp [execOp,ho,resolve,invoke,builtin,Builtin.len_,hx,run_underlying hu,goInt]
theorem r_len_string {x:Operand} {t:TypeId} {s:ByteArray} (ho:o.op = .call ⟨.builtin .len,#[x],#[t]⟩) (hu:P.underlying t = some .string) (hx:ρ x = .string s) :
  ReadOp P o ρ h (.int .i64 s.size):=by
 intro w r
 simp [execOp,ho,resolve,invoke,builtin,Builtin.len_,hx,run_underlying hu,goInt]
theorem r_len_map {x:Operand} {t k e:TypeId} {b:Nat} {es:Array MapEntry} {cl:Nat} (ho:o.op = .call ⟨.builtin .len,#[x],#[t]⟩) (hu:P.underlying t = some (.map k e)) (hx:ρ x = .map (some b)) (hb:h b = some (.map es cl)) :
  ReadOp P o ρ h (.int .i64 es.size):=by
 intro w r
 have:=r b _ hb
 simp [execOp,ho,resolve,invoke,builtin,Builtin.len_,hx,run_underlying hu,goInt,getObj,Sem.run,this]
theorem r_len_map_nil {x:Operand} {t k e:TypeId} (ho:o.op = .call ⟨.builtin .len,#[x],#[t]⟩) (hu:P.underlying t = some (.map k e)) (hx:ρ x = .map none):ReadOp P o ρ h (.int .i64 0):=by
 intro w r
 simp [execOp,ho,resolve,invoke,builtin,Builtin.len_,hx,run_underlying hu,goInt]
theorem r_min2 {x y:Operand} {tys:Array TypeId} {k:IntKind} {a b:Int} (ho:o.op = .call ⟨.builtin .min,#[x,y],tys⟩) (hx:ρ x = .int k a) (hy:ρ y = .int k b):ReadOp P o ρ h (.int k (if b < a then b else a)):=by
 intro w r
 simp [execOp,ho,resolve,invoke,builtin,Builtin.min_,hx,hy,Builtin.min2]
theorem r_max2 {x y:Operand} {tys:Array TypeId} {k:IntKind} {a b:Int} (ho:o.op = .call ⟨.builtin .max,#[x,y],tys⟩) (hx:ρ x = .int k a) (hy:ρ y = .int k b):ReadOp P o ρ h (.int k (if b > a then b else a)):=by
 intro w r
 simp [execOp,ho,resolve,invoke,builtin,Builtin.max_,hx,hy,Builtin.max2]
theorem r_convert_int {s d:TypeId} {x:Operand} {k k':IntKind} {n:Int} {sd:TypeDesc} (ho:o.op = .convert s d x) (hs:P.underlying s = some sd) (hd:P.underlying d = some (.int k)) (hx:ρ x = .int k' n) (hsd:(match sd with | .int _=>true | _=>false) = true) :
  ReadOp P o ρ h (.int k (k.wrap n)):=by
 intro w r
 cases sd <;> first | (simp at hsd; done) | simp [execOp,ho,convert,run_underlying hs,run_underlying hd,hx,Conv.intToInt]

theorem a_box {t:TypeId} {x:Operand} (ho:o.op = .box t x):AllocOp P o ρ (.cells (ρ x).cells t) (fun b=>.pointer (some ⟨b,0,none⟩)):=by
 intro w
 simp [execOp,ho,Instr.box,newVar,newRow,newObj,Sem.run]
theorem a_alloc {t:TypeId} {i:TypeInfo} {z:Value} (ho:o.op = .alloc t) (hi:P.info? t = some i) (hz:i.zero = some z):AllocOp P o ρ (.cells z.cells t) (fun b=>.pointer (some ⟨b,0,none⟩)):=by
 intro w
 simp [execOp,ho,Instr.alloc,newVar,newRow,newObj,Sem.run,zeroValue,typeInfo,hi,hz]
theorem a_makeMap {t:TypeId} (ho:o.op = .makeMap t none):AllocOp P o ρ (.map #[] 0) (fun b=>.map (some b)):=by
 intro w
 simp [execOp,ho,Instr.makeMap,newObj,Sem.run]
def sliceLit (P:Program) (e len:Nat) (parts:List (Nat × Value)):Option (Array Value) :=
 match P.info? e with
 | some i=>match i.zero with
  | some z=>Instr.fill (fun j=>some (j * i.size,i.size)) ((Array.range (len * i.size)).map (fun j=>z.cells[j % z.cells.size]!)) parts
  | none=>none
 | none=>none
theorem a_buildSlice {t e len:Nat} {parts:Array (Nat × Operand)} {cells:Array Value} (ho:o.op = .buildSlice t len parts) (hu:P.underlying t = some (.slice e))
  (hc:sliceLit P e len (parts.map fun (i,x)=>(i,ρ x)).toList = some cells) (hn:len * P.cellsOf e ≤ 16777216) (hz:len * P.cellsOf e ≠ 0):AllocOp P o ρ (.cells cells e) (fun b=>.slice (some ⟨b,0,none⟩) len len):=by
 intro w
 unfold sliceLit at hc
 cases hi:P.info? e with
 | none=>rw [hi] at hc; cases hc
 | some i =>
  simp only [hi] at hc
  cases hzz:i.zero with
  | none=>rw [hzz] at hc; cases hc
  | some z =>
   simp only [hzz] at hc
   have hcell:P.cellsOf e = i.size:=by simp [Program.cellsOf,hi]
   rw [hcell] at hn hz
   have hn':¬ (len * i.size > 2 ^ 24):=by omega
   have hc':Instr.fill (fun j=>some (j * i.size,i.size)) ((Array.range (len * i.size)).map (fun j=>z.cells[j % z.cells.size]!)) (parts.map fun (i,x)=>(i,ρ x)).toList = some cells:=hc
   simp only [execOp,ho,Instr.buildSlice,Sem.run_bind,run_underlying hu,Result.andThen_ok,sizeOf,typeInfo,program,Sem.run,hi,Sem.run_pure,if_neg hn',Sem.run_ite,if_neg hz,zeroValue,hzz]
   simp only [hc',Sem.run_bind,newRow,newObj,Sem.run,Result.andThen_ok,Sem.run_pure]
   rfl
theorem AllocOp.sop {obj:Obj} {vf:Nat → Value} {K:Value → Heap → Prop} (p:AllocOp P o ρ obj vf) (k:∀ b,h b = none → K (vf b) (h.set b obj)):SOp P o ρ h K:=by
 intro w r
 have hn:h w.heap.size = none:=by
  cases e:h w.heap.size with
  | none=>rfl
  | some o=>have:=r.lt e; omega
 refine .inl ⟨_,_,_,.inl (p w),k _ hn,?_,?_⟩
 ·intro b o' e
  by_cases hb:b = w.heap.size
  ·subst hb; rw [Heap.set_same] at e; rw [heap_alloc_new]; exact e
  ·rw [Heap.set_other _ _ hb] at e; rw [heap_alloc _ _ _ (r.lt e)]; exact r b o' e
 ·refine ⟨rfl,rfl,rfl,by rw [size_alloc]; omega,fun b hb _=>heap_alloc _ _ _ hb,fun b h1 h2=>?_⟩
  by_cases hb:b = w.heap.size
  ·omega
  ·rw [Heap.set_other _ _ hb] at h2; exact absurd h1 h2
end
end Go.Proofs.YtihdpjinaafenaaGreatDoor.Sl

/- The rules for single operations (second part): equality, cuts, stores, append, calls. -/
namespace Go.Proofs.YtihdpjinaafenaaGreatDoor.Sl

def partV (P:Program) (t:TypeId) (cs:Array Value) (off:Nat):Option Value :=
 match P.underlying t with
 | some (.struct _) | some (.array _ _)=>some (.agg (cs.extract off (off + P.cellsOf t)))
 | some _=>cs[off]?
 | none=>none
theorem run_partV {P:Program} {t:TypeId} {cs:Array Value} {off:Nat} {v:Value} (h:partV P t cs off = some v) (w:World):(part t cs off).run P w = .ok v w:=by
 unfold partV at h
 split at h
 ·rename_i hu; simp only [Option.some.injEq] at h; subst h
  simp [part,isAgg,run_underlying hu,run_cellsOf _ _ (info_of_underlying hu)]
 ·rename_i hu; simp only [Option.some.injEq] at h; subst h
  simp [part,isAgg,run_underlying hu,run_cellsOf _ _ (info_of_underlying hu)]
 ·rename_i d h1 h2 hu
  cases d <;> simp_all [part,isAgg,run_underlying hu]
 ·cases h
mutual
def eqv (P:Program):Nat → TypeId → Value → Value → Option Bool
 | 0,_,_,_=>none
 | d + 1,t,x,y=>match P.underlying t,x,y with
  | some .bool,.bool a,.bool b=>some (a == b)
  | some (.int _),.int k a,.int k' b=>if k = k' then some (a == b) else none
  | some .string,.string a,.string b=>some (a == b)
  | some (.pointer _),.pointer none,.pointer b=>some b.isNone
  | some (.pointer _),.pointer (some _),.pointer none=>some false
  | some (.slice _),.slice none _ _,.slice b _ _=>some b.isNone
  | some (.slice _),.slice (some _) _ _,.slice none _ _=>some false
  | some (.map _ _),.map none,.map b=>some b.isNone
  | some (.map _ _),.map (some _),.map none=>some false
  | some (.interface _),.nilIface,.nilIface=>some true
  | some (.interface _),.nilIface,.iface _ _=>some false
  | some (.interface _),.iface _ _,.nilIface=>some false
  | some (.struct fs),.agg xs,.agg ys=>if P.stoodInHeld t then none else eqvFields P d xs ys fs.toList
  | _,_,_=>none
def eqvFields (P:Program):Nat → Array Value → Array Value → List Field → Option Bool
 | _,_,_,[]=>some true
 | d,xs,ys,f :: r =>
  if f.name = "_" then eqvFields P d xs ys r
  else match partV P f.type xs f.offset,partV P f.type ys f.offset with
   | some a,some b=>match eqv P d f.type a b,eqvFields P d xs ys r with
    | some e,some e'=>some (e && e')
    | _,_=>none
   | _,_=>none
end
section
variable {P : Program} {o : Oper} {ρ : Operand → Value} {h : Heap}
theorem run_eqv:∀ (d:Nat),(∀ (t:TypeId) (x y:Value) (r:Bool) (w:World),eqv P d t x y = some r → (Op.equalIn d t x y).run P w = .ok r w):=by
 intro d
 induction d with
 | zero=>intro t x y r w h; simp [eqv] at h
 | succ d ih =>
  have hf:∀ (fs:List Field) (xs ys:Array Value) (r:Bool) (w:World),eqvFields P d xs ys fs = some r → (Op.eqFields d xs ys fs).run P w = .ok r w:=by
   intro fs
   induction fs with
   | nil=>intro xs ys r w h; simp only [eqvFields,Option.some.injEq] at h; subst h; simp [Op.eqFields]
   | cons f fs ihf =>
    intro xs ys r w h
    simp only [eqvFields] at h
    by_cases hn : f.name = "_"
    ·rw [if_pos hn] at h
     simp [Op.eqFields,hn,ihf xs ys r w h]
    ·rw [if_neg hn] at h
     split at h <;> (try simp only [reduceCtorEq] at h)
     rename_i a b ha hb
     split at h <;> (try simp only [reduceCtorEq] at h)
     rename_i e e' he he'
     simp only [Option.some.injEq] at h; subst h
     simp only [Op.eqFields,hn,ne_eq,not_false_eq_true,if_true,Sem.run_bind,run_partV ha,run_partV hb,Result.andThen_ok,ih _ _ _ _ _ he]
     cases e
     ·simp
     ·simp [ihf xs ys e' w he']
  intro t x y r w h
  unfold eqv at h
  split at h <;> (try simp only [reduceCtorEq] at h)
  case h_1 a b hu=>simp only [Option.some.injEq] at h; subst h; simp [Op.equalIn,run_underlying hu]
  case h_2 k0 k a k' b hu =>
   split at h
   ·rename_i hk; simp only [Option.some.injEq] at h; subst h; simp [Op.equalIn,run_underlying hu,hk]
   ·cases h
  case h_3 a b hu=>simp only [Option.some.injEq] at h; subst h; simp [Op.equalIn,run_underlying hu]
  case h_4 e b hu=>simp only [Option.some.injEq] at h; subst h; simp [Op.equalIn,run_underlying hu]
  case h_5 e a hu=>simp only [Option.some.injEq] at h; subst h; simp [Op.equalIn,run_underlying hu]
  case h_6 e _ _ b _ _ hu=>simp only [Option.some.injEq] at h; subst h; simp [Op.equalIn,run_underlying hu]
  case h_7 e a _ _ _ _ hu=>simp only [Option.some.injEq] at h; subst h; simp [Op.equalIn,run_underlying hu]
  case h_8 k e b hu=>simp only [Option.some.injEq] at h; subst h; simp [Op.equalIn,run_underlying hu]
  case h_9 k e a hu=>simp only [Option.some.injEq] at h; subst h; simp [Op.equalIn,run_underlying hu]
  case h_10 m hu=>simp only [Option.some.injEq] at h; subst h; simp [Op.equalIn,run_underlying hu]
  case h_11 m _ _ hu=>simp only [Option.some.injEq] at h; subst h; simp [Op.equalIn,run_underlying hu]
  case h_12 m _ _ hu=>simp only [Option.some.injEq] at h; subst h; simp [Op.equalIn,run_underlying hu]
  case h_13 fs xs ys hu =>
   split at h
   ·cases h
   ·rename_i hp
    have hp:P.stoodInHeld t = false:=by simpa using hp
    have hfs:P.fieldsOf t = fs:=by simp [Program.fieldsOf,hu]
    rw [run_equalIn_agg w d t xs ys (by rw [hfs]; exact hu) hp,hfs]
    exact hf _ _ _ _ _ h
def isLit:Operand → Bool
 | .const _=>true
 | _=>false
theorem r_eql {t ty:TypeId} {x y:Operand} {u v:Value} {b:Bool} (ho:o.op = .binOp .eql t x y ty) (hx:ρ x = u) (hy:ρ y = v) (hk:(match u,v with | .int _ _,.int _ _=>false | .agg _,.agg _=>!P.eqGuardType P.depth t | .nilIface,.nilIface=>isLit x || isLit y | _,_=>true) = true)
  (he:eqv P 10000 t u v = some b) (hn:(match u with | .int _ _ | .float _ _ | .complex _ _ _ | .string _=>false | _=>true) = true):ReadOp P o ρ h (.bool b):=by
 intro w r
 have hq:(Op.equal t u v).run P w = .ok b w:=run_eqv 10000 t u v b w he
 have hg:(eqGuard .eql t x y u v).run P w = .ok () w:=by
  unfold eqGuard
  cases u <;> cases v <;> simp at hk ⊢
  ·rcases hk with hk | hk
   ·cases x <;> simp [isLit] at hk ⊢
   ·cases y <;> simp [isLit] at hk ⊢
  ·simp [program,Sem.run,hk]
 have hb:(binOp .eql t u v).run P w = .ok (.bool b) w:=by
  have hbo:binOp .eql t u v = (do pure (.bool (← Op.equal t u v))):=by
   cases u <;> cases v <;> first | (simp at hn; done) | rfl
  rw [hbo]; simp [hq]
 simp only [execOp,ho,hx,hy,Sem.run_bind,hg,hb,Result.andThen_ok,Sem.run_pure]
theorem r_neq {t ty:TypeId} {x y:Operand} {u v:Value} {b:Bool} (ho:o.op = .binOp .neq t x y ty) (hx:ρ x = u) (hy:ρ y = v) (hk:(match u,v with | .int _ _,.int _ _=>false | .agg _,.agg _=>!P.eqGuardType P.depth t | .nilIface,.nilIface=>isLit x || isLit y | _,_=>true) = true)
  (he:eqv P 10000 t u v = some b) (hn:(match u with | .int _ _ | .float _ _ | .complex _ _ _ | .string _=>false | _=>true) = true):ReadOp P o ρ h (.bool (!b)):=by
 intro w r
 have hq:(Op.equal t u v).run P w = .ok b w:=run_eqv 10000 t u v b w he
 have hg:(eqGuard .neq t x y u v).run P w = .ok () w:=by
  unfold eqGuard
  cases u <;> cases v <;> simp at hk ⊢
  ·rcases hk with hk | hk
   ·cases x <;> simp [isLit] at hk ⊢
   ·cases y <;> simp [isLit] at hk ⊢
  ·simp [program,Sem.run,hk]
 have hb:(binOp .neq t u v).run P w = .ok (.bool (!b)) w:=by
  have hbo:binOp .neq t u v = (do pure (.bool (!(← Op.equal t u v)))):=by
   cases u <;> cases v <;> first | (simp at hn; done) | rfl
  rw [hbo]; simp [hq]
 simp only [execOp,ho,hx,hy,Sem.run_bind,hg,hb,Result.andThen_ok,Sem.run_pure]
theorem r_eql_str {t ty:TypeId} {x y:Operand} {a b:ByteArray} (ho:o.op = .binOp .eql t x y ty) (hx:ρ x = .string a) (hy:ρ y = .string b):ReadOp P o ρ h (.bool (a.toList == b.toList)):=by
 intro w r
 simp [execOp,ho,hx,hy,eqGuard,binOp,Op.stringOp]
theorem r_neq_str {t ty:TypeId} {x y:Operand} {a b:ByteArray} (ho:o.op = .binOp .neq t x y ty) (hx:ρ x = .string a) (hy:ρ y = .string b):ReadOp P o ρ h (.bool (!(a.toList == b.toList))):=by
 intro w r
 simp [execOp,ho,hx,hy,eqGuard,binOp,Op.stringOp]
theorem r_quo {t ty:TypeId} {x y:Operand} {k:IntKind} {a b:Int} (ho:o.op = .binOp .quo t x y ty) (hx:ρ x = .int k a) (hy:ρ y = .int k b) (hb:b ≠ 0):ReadOp P o ρ h (.int k (k.wrap (a.tdiv b))):=by
 intro w r
 simp [execOp,ho,hx,hy,eqGuard,binOp,Op.intDiv,hb]
theorem r_rem {t ty:TypeId} {x y:Operand} {k:IntKind} {a b:Int} (ho:o.op = .binOp .rem t x y ty) (hx:ρ x = .int k a) (hy:ρ y = .int k b) (hb:b ≠ 0):ReadOp P o ρ h (.int k (a.tmod b)):=by
 intro w r
 simp [execOp,ho,hx,hy,eqGuard,binOp,Op.intDiv,hb]
theorem r_shl {t ty:TypeId} {x y:Operand} {k k':IntKind} {a b:Int} (ho:o.op = .binOp .shl t x y ty) (hx:ρ x = .int k a) (hy:ρ y = .int k' b) (hb:0 ≤ b):ReadOp P o ρ h (.int k (k.wrap (a * 2 ^ (min b.toNat k.bits)))):=by
 intro w r
 have hb':¬ b < 0:=by omega
 simp [execOp,ho,hx,hy,eqGuard,binOp,Op.shift,hb']
theorem r_shr {t ty:TypeId} {x y:Operand} {k k':IntKind} {a b:Int} (ho:o.op = .binOp .shr t x y ty) (hx:ρ x = .int k a) (hy:ρ y = .int k' b) (hb:0 ≤ b):ReadOp P o ρ h (.int k (a.fdiv (2 ^ (min b.toNat k.bits)))):=by
 intro w r
 have hb':¬ b < 0:=by omega
 simp [execOp,ho,hx,hy,eqGuard,binOp,Op.shift,hb']
theorem r_bnot {t:TypeId} {x:Operand} {k:IntKind} {a:Int} (ho:o.op = .unOp .xor t x) (hx:ρ x = .int k a):ReadOp P o ρ h (.int k (k.wrap (BitVec.ofInt k.bits (if k.signed then -1 else k.max) ^^^ BitVec.ofInt k.bits a).toNat)):=by
 intro w r
 simp [execOp,ho,hx,Op.unary,Op.intBits]
end
end Go.Proofs.YtihdpjinaafenaaGreatDoor.Sl
