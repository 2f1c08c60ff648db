import Derived.Test.YtihdpjinaafenaaGreatDoorNb8
noncomputable section
/- What acts: the theorem. -/
set_option linter.unusedVariables false
set_option linter.unusedSimpArgs false
namespace Go.Proofs.YtihdpjinaafenaaGreatDoor.Ab
open Go.Proofs.YtihdpjinaafenaaGreatDoor.Sl
theorem fill_seqG (sz:Nat):∀ (vs:List Value) (pre post:List Value) (k:Nat),pre.length = k * sz → post.length = vs.length * sz → (∀ v ∈ vs,v.cells.size = sz) →
  Instr.fill (fun j=>some (j * sz,sz)) (pre ++ post).toArray ((vs.zipIdx k).map fun x=>(x.2,x.1)) = some (pre ++ vs.flatMap (·.cells.toList)).toArray
 | [],pre,post,k,hk,hl,_=>by
  have:post = []:=List.eq_nil_of_length_eq_zero (by simpa using hl)
  subst this
  simp [Instr.fill]
 | v :: vs,pre,post,k,hk,hl,hv=>by
  have hv0:=hv v (by simp)
  rw [List.zipIdx_cons,List.map_cons]
  unfold Instr.fill
  simp only
  rw [List.length_cons,Nat.succ_mul] at hl
  have h2:(decide (v.cells.size ≠ sz) || decide (k * sz + v.cells.size > (pre ++ post).toArray.size)) = false:=by
   rw [hv0]; simp only [Bool.or_eq_false_iff,decide_eq_false_iff_not,List.size_toArray,List.length_append]
   refine ⟨by simp,?_⟩
   show ¬ (k * sz + sz > _); omega
  rw [h2]
  simp only [Bool.false_eq_true,if_false]
  rw [fill_at (by rw [hv0]; simp; omega)]
  have h3:(pre ++ post).toArray.toList.take (k * sz) ++ v.cells.toList ++ (pre ++ post).toArray.toList.drop (k * sz + v.cells.size) = (pre ++ v.cells.toList) ++ post.drop sz:=by
   show (pre ++ post).take (k * sz) ++ v.cells.toList ++ (pre ++ post).drop (k * sz + v.cells.size) = _
   rw [← hk,hv0,List.take_left,← List.drop_drop,List.drop_left]
  rw [h3]
  have ih:=fill_seqG sz vs (pre ++ v.cells.toList) (post.drop sz) (k + 1) (by rw [List.length_append,hk,Array.length_toList,hv0,Nat.succ_mul]) (by rw [List.length_drop]; omega) (fun u hu=>hv u (by simp [hu]))
  rw [ih]; simp
theorem a_buildSliceG {P:Program} {o:Oper} {ρ:Operand → Value} {t e n sz:Nat} {parts:Array (Nat × Operand)} {vs:List Value} (ho:o.op = .buildSlice t n parts) (hu:P.underlying t = some (.slice e)) (hi:infoOk P e sz = true)
  (hv:(parts.map fun (i,x)=>(i,ρ x)).toList = (vs.zipIdx 0).map fun x=>(x.2,x.1)) (hn:vs.length = n) (hone:∀ v ∈ vs,v.cells.size = sz) (h0:0 < n) (hs0:0 < sz) (h1:n * sz ≤ 65536):AllocOp P o ρ (.cells (vs.flatMap (·.cells.toList)).toArray e) (fun b=>.slice (some ⟨b,0,none⟩) n n):=by
 obtain ⟨i,z,hi,hz,hs,hz1,hb⟩:=infoOk_spec hi
 have hcell:P.cellsOf e = sz:=by simp [Program.cellsOf,hi,hs]
 refine a_buildSlice (cells:=(vs.flatMap (·.cells.toList)).toArray) ho hu ?_ (by rw [hcell]; omega) (by rw [hcell]; exact Nat.ne_of_gt (Nat.mul_pos h0 hs0))
 unfold sliceLit
 simp only [hi,hz,hs]
 rw [hv]
 have:=fill_seqG sz vs [] ((Array.range (n * sz)).map (fun j=>z.cells[j % z.cells.size]!)).toList 0 (by simp) (by simp [hn]) hone
 simp only [List.nil_append,Array.toArray_toList] at this
 exact this
theorem take_splice {α:Type} (A us:List α) (a N:Nat) (h1:a + us.length ≤ N) (h2:a ≤ A.length):(A.take a ++ us ++ A.drop (a + us.length)).take N = (A.take N).take a ++ us ++ (A.take N).drop (a + us.length):=by
 have hx:(A.take a ++ us).length = a + us.length:=by rw [List.length_append,List.length_take,Nat.min_eq_left h2]
 rw [List.take_append,List.take_of_length_le (by rw [hx]; exact h1),hx,List.take_take,Nat.min_eq_left (by omega),List.drop_take]
theorem own_splice {h:Heap} {e:TypeId} {sz n:Nat} {v:Value} {cs:List Value} (x:Own h e sz v n cs) {i p k:Nat} (hi:i < n) (hp:p + k ≤ sz) :
  ∃ b c full,v = .slice (some ⟨b,0,none⟩) n c ∧ h b = some (.cells full e (0,0)) ∧ i * sz + p + k ≤ full.size ∧
   ∀ us:List Value,us.length = k → Own (h.set b (.cells (splice full (i * sz + p) us) e (0,0))) e sz v n (cs.take (i * sz + p) ++ us ++ cs.drop (i * sz + p + k)):=by
 cases x with
 | nil=>omega
 | @at_ b n c full cs hb hl hnc hcap hc =>
  have h1:(i + 1) * sz ≤ n * sz:=Nat.mul_le_mul_right _ hi
  rw [Nat.succ_mul] at h1
  have h2:n * sz ≤ c * sz:=Nat.mul_le_mul_right _ hnc
  refine ⟨b,c,full,rfl,hb,by omega,fun us hus=>.at_ (Heap.set_same _ _ _) ?_ hnc ?_ ?_⟩
  ·simp [hl,hus]; omega
  ·simp [splice,hus]; omega
  ·subst hus
   rw [← hc]
   unfold splice
   exact take_splice full.toList us (i * sz + p) (n * sz) (by omega) (by rw [Array.length_toList]; omega)
theorem splice_one (cs:Array Value) (i:Nat) (v:Value) (h:i < cs.size):splice cs i [v] = cs.setIfInBounds i v:=by
 unfold splice
 apply Array.ext'
 simp only [Array.toList_setIfInBounds,List.length_singleton]
 rw [List.set_eq_take_append_cons_drop]
 simp [h]
theorem flat_set {α:Type} {sz:Nat}:∀ {rows:List (List α)},(∀ r ∈ rows,r.length = sz) → ∀ (i:Nat),i < rows.length → ∀ (r':List α),r'.length = sz → (rows.set i r').flatten = rows.flatten.take (i * sz) ++ r' ++ rows.flatten.drop (i * sz + sz)
 | [],_,i,hi,_,_=>by simp at hi
 | r :: rows,h,0,hi,r',hr=>by
  have h1:=h r (by simp)
  rw [List.set_cons_zero,List.flatten_cons,List.flatten_cons,Nat.zero_mul,List.take_zero,List.nil_append,Nat.zero_add,← h1,List.drop_left]
 | r :: rows,h,i + 1,hi,r',hr=>by
  have h1:=h r (by simp)
  have ih:=flat_set (rows:=rows) (fun x hx=>h x (by simp [hx])) i (by simpa using hi) r' hr
  rw [List.set_cons_succ,List.flatten_cons,ih,List.flatten_cons,Nat.succ_mul,show i * sz + sz = sz + i * sz by omega]
  have e1:(r ++ rows.flatten).take (sz + i * sz) = r ++ rows.flatten.take (i * sz):=by rw [← h1,List.take_length_add_append]
  have e2:(r ++ rows.flatten).drop (sz + i * sz + sz) = rows.flatten.drop (sz + i * sz):=by rw [show sz + i * sz + sz = r.length + (sz + i * sz) by omega,List.drop_length_add_append]
  rw [e1,e2]; simp only [List.append_assoc]
theorem set_eq_splice {α:Type} (l:List α) (p:Nat) (y:α) (h:p < l.length):l.set p y = l.take p ++ [y] ++ l.drop (p + 1):=by
 rw [List.set_eq_take_append_cons_drop,if_pos h]; simp
def AcOk (h0:Gd) (β:Nat → Value) (hF h:Heap) (σ:AS) (ra:RA) (v:Value) (h':Heap):Prop :=
 ∃ β' hF',Ok h0 β' hF' h' ra.σ ∧ hF.le hF' ∧ (∀ id,ra.nw ≠ some id → ra.pg ≠ some id → β' id = β id) ∧ ARep β' hF' ra.v v ∧ ∀ e ∈ σ,ra.md ≠ some e.1 → ∀ b,fpOf (β e.1) e.2 b → h' b = h b
section
variable {P : Program} {h0 : Gd} {β : Nat → Value} {hF h : Heap} {Tc : Tm} {T : AT} {L : AL} {σ : AS} {o : Oper} {ra : RA}
theorem opd_nm {d:Nat} {ch:List (Nat × Bool)} {x:Operand} {av:AV} (hn:okNew d T L σ = true) (e:opd L T ch x = some av):av.nm ≠ some d:=by
 simp only [okNew,Bool.and_eq_true] at hn
 replace hn:=hn.1
 cases x with
 | tmp t =>
  simp only [opd] at e
  split at e
  ·rename_i g y hy
   split at e
   ·cases e
    unfold lookV at hy
    split at hy
    ·rename_i z hz
     cases hy
     exact nmL_spec hn.1.2 _ (lookL_mem hz)
    ·split at hy
     ·rename_i z hz
      cases hy
      exact nmT_spec hn.1.1 _ (lookT_mem hz)
     ·cases hy
   ·cases e
  ·cases e
 | const v=>cases e; simp [AV.nm]
 | global g=>cases e; simp [AV.nm]
 | func f=>cases e; simp [AV.nm]
theorem ac_new {obj:Obj} {vf:Nat → Value} {v:AV} (s:Ok h0 β hF h σ) (p:AllocOp P o (ev Tc) obj vf) (hv:∀ b,h b = none → ARep β (hF.set b obj) v (vf b)) (hra:ra = ⟨ra.ob,v,σ,none,none,none⟩):SOp P o (ev Tc) h (AcOk h0 β hF h σ ra):=by
 refine p.sop fun b hb=>?_
 obtain ⟨k,l⟩:=s.newF hb obj
 rw [hra]
 exact ⟨β,_,k,l,fun _ _ _=>rfl,hv b hb,fun e he _ b' e1=>Heap.set_other _ _ (s.ne hb he e1)⟩
theorem ac_obj {obj:Obj} {vf:Nat → Value} {v:AV} {d:Nat} {x:OO} (s:Ok h0 β hF h σ) (hd:okNew d T L σ = true) (p:AllocOp P o (ev Tc) obj vf) (px:plain x = true) (hb0:∀ b,baseOf (vf b) = some b) (hx:∀ b,h b = none → OOk (upd β d (vf b)) hF (h.set b obj) d x) (hv:∀ b,ARep (upd β d (vf b)) hF v (vf b))
  (hra:ra = ⟨ra.ob,v,(d,x) :: σ,none,some d,none⟩):SOp P o (ev Tc) h (AcOk h0 β hF h σ ra):=by
 simp only [okNew,Bool.and_eq_true] at hd
 have h1000:d < 1000:=of_decide_eq_true hd.2
 replace hd:=hd.1
 refine p.sop fun b hb=>?_
 rw [hra]
 refine ⟨upd β d (vf b),hF,s.newO hd.2 (fun b' ob e=>(Heap.set_old hb e)) (fun b' e=>?_) h1000 (hx b hb),Heap.le_refl _,fun id e _=>?_,hv b,fun e he _ b' e1=>Heap.set_other _ _ (s.ne hb he e1)⟩
 ·have e:=(plain_fp px _ _).1 e
  rw [hb0 b] at e; cases e; exact hb
 ·have:id ≠ d:=fun e2=>e (by rw [e2])
  simp [upd,this]
theorem zeroIs_V {t:TypeId} {zs:List Value} (h:zeroIs P t zs = true):∃ z,zeroV P t = some z ∧ z.cells = zs.toArray:=by
 have h1:=zeroIs_eq h
 unfold zeroOf at h1
 unfold zeroV
 cases hz:(P.info? t).bind (·.zero) with
 | none=>rw [hz] at h1; cases h1
 | some z=>rw [hz] at h1; simp only [Option.map_some,Option.some.injEq] at h1; exact ⟨z,rfl,h1⟩
end
end Go.Proofs.YtihdpjinaafenaaGreatDoor.Ab

/- What acts: the theorem. -/
namespace Go.Proofs.YtihdpjinaafenaaGreatDoor.Ab
open Go.Proofs.YtihdpjinaafenaaGreatDoor.Sl
section
variable {P : Program} {h0 : Gd} {β : Nat → Value} {hF h : Heap} {Tc : Tm} {T : AT} {L : AL} {σ : AS} {o : Oper} {ra : RA}
theorem areps1 {β:Nat → Value} {hF:Heap} {a:AV} {v:Value} (r:ARep β hF a v):AReps β hF [a] [v]:=⟨rfl,fun j c u e1 e2=>by
 cases j with
 | zero=>cases e1; cases e2; exact r
 | succ j=>simp at e1⟩
theorem AReps.set {cs:List AV} {vs:List Value} (r:AReps β hF cs vs) {p:Nat} {a:AV} {v:Value} (ra:ARep β hF a v):AReps β hF (cs.set p a) (vs.set p v) :=
 ⟨by simp [r.1],fun j c u e1 e2=>by
  by_cases hj:p = j
  ·subst hj
   rw [List.getElem?_set] at e1 e2
   simp only [if_true] at e1 e2
   split at e1
   ·split at e2
    ·cases e1; cases e2; exact ra
    ·cases e2
   ·cases e1
  ·rw [List.getElem?_set_ne hj] at e1 e2
   exact r.2 j c u e1 e2⟩
theorem AReps.appA {a b:List AV} {x y:List Value} (r:AReps β hF a x) (q:AReps β hF b y):AReps β hF (a ++ b) (x ++ y) :=
 ⟨by simp [r.1,q.1],fun j c v e1 e2=>by
  rcases Nat.lt_or_ge j a.length with hj | hj
  ·rw [List.getElem?_append_left hj] at e1
   rw [List.getElem?_append_left (by rw [r.1]; exact hj)] at e2
   exact r.2 j c v e1 e2
  ·rw [List.getElem?_append_right hj] at e1
   rw [List.getElem?_append_right (by rw [r.1]; exact hj),r.1] at e2
   exact q.2 _ c v e1 e2⟩
theorem AReps.takeA {cs:List AV} {vs:List Value} (r:AReps β hF cs vs) (n:Nat):AReps β hF (cs.take n) (vs.take n) :=
 ⟨by simp [r.1],fun j c v a b=>by
  rw [List.getElem?_take] at a b
  split at a
  ·rename_i hj; rw [if_pos hj] at b; exact r.2 _ c v a b
  ·cases a⟩
theorem AReps.dropA {cs:List AV} {vs:List Value} (r:AReps β hF cs vs) (n:Nat):AReps β hF (cs.drop n) (vs.drop n) :=
 ⟨by simp [r.1],fun j c v a b=>by rw [List.getElem?_drop] at a b; exact r.2 _ c v a b⟩
theorem FReps.takeF {cs:List FV} {vs:List Value} (r:FReps hF cs vs) (n:Nat):FReps hF (cs.take n) (vs.take n):=by
 have:=FReps.take r 0 n
 simpa using this
theorem FReps.dropF {cs:List FV} {vs:List Value} (r:FReps hF cs vs) (n:Nat):FReps hF (cs.drop n) (vs.drop n):=by
 have:=FReps.take r n cs.length
 rwa [List.take_of_length_le (by simp),List.take_of_length_le (by simp [r.1])] at this
theorem FReps.one1 {cs:List FV} {vs:List Value} (r:FReps hF cs vs) (h1:cs.all FV.one = true):∀ v ∈ vs,v.oneCell' = true:=fun v hv=>by
 obtain ⟨j,hj,rfl⟩:=List.mem_iff_getElem.1 hv
 have hc:j < cs.length:=by rw [← r.1]; exact hj
 exact (r.2 j _ _ (List.getElem?_eq_getElem hc) (List.getElem?_eq_getElem hj)).one (List.all_eq_true.1 h1 _ (List.getElem_mem hc))
theorem box_put (s:Ok h0 β hF h σ) {id:Nat} {t:TypeId} {cells:List AV} (hl:lookS σ id = some (.box t cells)) {b:Nat} (hb:baseOf (β id) = some b) :
  ∃ vs:List Value,h b = some (.cells vs.toArray t (0,0)) ∧ vs.length = cells.length ∧ ∀ (cs':List AV) (vs':List Value),AReps β hF cs' vs' → (AReps β hF cells vs → AReps β hF cs' vs') → Ok h0 β hF (h.set b (.cells vs'.toArray t (0,0))) (setS σ id (.box t cs')):=by
 obtain ⟨b',vs,h1,h2,h3⟩:=s.ok _ (lookS_mem hl)
 have hbb:b' = b:=by simp only [h1,baseOf,Option.some.injEq] at hb; exact hb
 subst hbb
 exact ⟨vs,h2,h3.1,fun cs' vs' r _=>s.put hl rfl hb rfl ⟨b',vs',h1,Heap.set_same _ _ _,r⟩⟩
theorem box_rep (s:Ok h0 β hF h σ) {id:Nat} {t:TypeId} {cells:List AV} (hl:lookS σ id = some (.box t cells)) {b:Nat} (hb:baseOf (β id) = some b) {vs:List Value} (hh:h b = some (.cells vs.toArray t (0,0))):AReps β hF cells vs:=by
 obtain ⟨b',vs',h1,h2,h3⟩:=s.ok _ (lookS_mem hl)
 have hbb:b' = b:=by simp only [h1,baseOf,Option.some.injEq] at hb; exact hb
 subst hbb
 rw [h2] at hh
 simp only [Option.some.injEq,Obj.cells.injEq,and_true] at hh
 have:vs' = vs:=by simpa using hh
 rw [← this]; exact h3
theorem rows_put (s:Ok h0 β hF h σ) {id sz:Nat} {t:TypeId} {rows:List (List FV)} (hl:lookS σ id = some (.rows t sz rows)) {b:Nat} (hb:baseOf (β id) = some b) {i p k:Nat} (hi:i < rows.length) (hp:p + k ≤ sz) :
  ∃ full,h b = some (.cells full t (0,0)) ∧ i * sz + p + k ≤ full.size ∧ ∀ (ys:List FV) (us:List Value),ys.length = k → FReps hF ys us → ys.all FV.one = true →
   Ok h0 β hF (h.set b (.cells (splice full (i * sz + p) us) t (0,0))) (setS σ id (.rows t sz (rows.set i ((rows.getD i []).take p ++ ys ++ (rows.getD i []).drop (p + k))))):=by
 obtain ⟨vs,own,hlen,hone,reps⟩:=s.ok _ (lookS_mem hl)
 obtain ⟨b',c,full,hv,hh,hcap,hset⟩:=own_splice own hi hp
 have hbb:b' = b:=by simp only at hv; simp only [hv,baseOf,Option.some.injEq] at hb; exact hb
 subst hbb
 have hrow:rows.getD i [] = rows[i]:=by rw [List.getD_eq_getElem?_getD,List.getElem?_eq_getElem hi]; rfl
 have hrl:(rows.getD i []).length = sz:=by rw [hrow]; exact hlen _ (List.getElem_mem hi)
 refine ⟨full,hh,hcap,fun ys us hk r h1=>s.put hl rfl hb rfl ⟨vs.take (i * sz + p) ++ us ++ vs.drop (i * sz + p + k),?_,?_,?_,?_⟩⟩
 ·rw [List.length_set]; exact hset us (by rw [r.1,hk])
 ·intro r' hr'
  rcases List.mem_or_eq_of_mem_set hr' with h2 | h2
  ·exact hlen _ h2
  ·rw [h2]; simp only [List.length_append,List.length_take,List.length_drop,hrl,hk]; omega
 ·intro r' hr'
  rcases List.mem_or_eq_of_mem_set hr' with h2 | h2
  ·exact hone _ h2
  ·have h3:=hone _ (List.getElem_mem hi)
   rw [h2,hrow]
   simp only [List.all_append,Bool.and_eq_true,List.all_eq_true] at h1 h3 ⊢
   exact ⟨⟨fun x hx=>h3 x (List.mem_of_mem_take hx),h1⟩,fun x hx=>h3 x (List.mem_of_mem_drop hx)⟩
 ·have hflat:=flat_set hlen i hi ((rows.getD i []).take p ++ ys ++ (rows.getD i []).drop (p + k)) (by simp only [List.length_append,List.length_take,List.length_drop,hrl,hk]; omega)
  rw [hflat]
  have hf:rows.flatten.length = rows.length * sz:=flat_len hlen
  have h5:(i + 1) * sz ≤ rows.length * sz:=Nat.mul_le_mul_right _ hi
  rw [Nat.succ_mul] at h5
  have e1:rows.flatten.take (i * sz) ++ ((rows.getD i []).take p ++ ys ++ (rows.getD i []).drop (p + k)) ++ rows.flatten.drop (i * sz + sz) = rows.flatten.take (i * sz + p) ++ ys ++ rows.flatten.drop (i * sz + p + k):=by
   have hg:∀ j,j < sz → rows.flatten[i * sz + j]? = (rows.getD i [])[j]?:=fun j hj=>by
    rw [flat_get hlen i j hj,hrow,List.getElem?_eq_getElem hi]; rfl
   have hd:(rows.flatten.drop (i * sz)).take sz = rows.getD i []:=by
    apply List.ext_getElem?
    intro j
    by_cases hj:j < sz
    ·rw [List.getElem?_take_of_lt hj,List.getElem?_drop,hg j hj]
    ·rw [List.getElem?_eq_none (by simp; omega),List.getElem?_eq_none (by omega)]
   have h6:rows.flatten.take (i * sz + p) = rows.flatten.take (i * sz) ++ (rows.getD i []).take p:=by
    rw [List.take_add,← hd,List.take_take,Nat.min_eq_left (by omega)]
   have h7:rows.flatten.drop (i * sz + p + k) = (rows.getD i []).drop (p + k) ++ rows.flatten.drop (i * sz + sz):=by
    rw [← hd,List.drop_take,List.drop_drop,← Nat.add_assoc]
    have h8:rows.flatten.drop (i * sz + sz) = (rows.flatten.drop (i * sz + p + k)).drop (sz - (p + k)):=by rw [List.drop_drop]; congr 1; omega
    rw [h8,List.take_append_drop]
   rw [h6,h7]; simp only [List.append_assoc]
  rw [e1]
  exact ((reps.takeF _).app r).app (reps.dropF _)
theorem srcRows_ok (s:Sem h0 β hF h Tc T L σ) {ch:List (Nat × Bool)} (hch:∀ x ∈ ch,Tc x.1 = .bool x.2) {y:Operand} {sz:Nat} {q:Prop} {news:List (List FV)} (e:srcRows σ sz (opd L T ch y) = some (q,news)) (hq:q) :
  (∀ r ∈ news,r.length = sz) ∧ ∃ ws,Cells h sz (ev Tc y) news.length ws ∧ FReps hF news.flatten ws:=by
 unfold srcRows at e
 split at e
 ·rename_i x hx
  split at e
  ·rename_i n f hy
   cases e
   have hv:=fz_fz (opd_ok s hch hx)
   have hl:∀ r ∈ rowsOf n f,r.length = sz:=fun r hr=>by
    obtain ⟨i,hi,rfl⟩:=List.mem_map.1 hr
    exact hq i (List.mem_range.1 hi)
   refine ⟨hl,?_⟩
   have hnl:(rowsOf n f).length = n:=by simp [rowsOf]
   unfold asSl at hy
   split at hy
   case h_3=>cases hy
   case h_2 =>
    cases hy
    have hvv:=fz_val (opd_ok s hch hx)
    rw [hvv]
    exact ⟨[],.zero _ _,FReps.nil _⟩
   cases hy
   generalize ev Tc y = v at hv
   cases hv with
   | sl0 f a c=>exact ⟨[],.zero _ _,FReps.nil _⟩
   | @sl n f b off c sz' full ty fz hb hnc hsz h1' hs' hr =>
    by_cases hn0:n = 0
    ·subst hn0; exact ⟨[],.zero _ _,FReps.nil _⟩
    have hss:sz' = sz:=by rw [← hsz 0 (by omega)]; exact hq 0 (by omega)
    subst hss
    have hlen:((full.toList.drop off).take (n * sz')).length = n * sz':=by simp; omega
    refine ⟨(full.toList.drop off).take (n * sz'),by rw [hnl]; exact .at_ (s.ok.le _ _ hb) hlen hnc rfl,?_,?_⟩
    ·rw [hlen,flat_len hl,hnl]
    ·intro j c' v e1 e2
     have hj:j < n * sz':=by have:=(List.getElem?_eq_some_iff.1 e2).1; omega
     have hs0:0 < sz':=Nat.pos_of_ne_zero fun e3=>by subst e3; simp at hj
     have hj2:j / sz' < n:=(Nat.div_lt_iff_lt_mul hs0).2 hj
     have hj3:j % sz' < sz':=Nat.mod_lt _ hs0
     have hj4:j / sz' * sz' + j % sz' = j:=by rw [Nat.mul_comm]; exact Nat.div_add_mod j sz'
     rw [← hj4,flat_get hl _ _ hj3] at e1
     have hrow:(rowsOf n f)[j / sz']? = some (f (j / sz')):=by simp [rowsOf,hj2]
     rw [hrow] at e1
     refine hr (j / sz') (j % sz') c' v hj2 e1 ?_
     rw [List.getElem?_take_of_lt hj,List.getElem?_drop,Array.getElem?_toList] at e2
     rw [← e2]; congr 1; omega
  ·cases e
 ·rename_i id hx
  split at e
  ·rename_i t sz' rows hσ
   split at e
   ·rename_i hsz
    subst hsz
    cases e
    obtain ⟨vs,own,hlen,hone,reps⟩:=s.ok.ok _ (lookS_mem hσ)
    have hv:=opd_ok s hch hx
    generalize ev Tc y = v at hv
    cases hv
    exact ⟨hlen,vs,own.cells,reps⟩
   ·cases e
  ·cases e
 ·cases e
theorem blk_base {e:TypeId} {sz n:Nat} {v:Value} {cs:List Value} (x:Own h e sz v n cs):blockOf v = baseOf v:=by cases x <;> rfl
theorem rowsP_ok {o:Operand → Option AV} (ho:∀ x av,o x = some av → ARep β hF av (ev Tc x)):∀ {l:List (Nat × Operand)} {rows:List (List FV)},rowsP o l = some rows →
  rows.length = l.length ∧ FReps hF rows.flatten (l.flatMap fun p=>(ev Tc p.2).cells.toList) ∧ ∀ (i:Nat) (r:List FV) (p:Nat × Operand),rows[i]? = some r → l[i]? = some p → FReps hF r (ev Tc p.2).cells.toList
 | [],rows,e=>by cases e; exact ⟨rfl,FReps.nil _,fun i r p h=>by simp at h⟩
 | (i,x) :: l,rows,e=>by
  unfold rowsP at e
  split at e
  ·rename_i y hy
   split at e
   ·rename_i ys hys
    cases e
    obtain ⟨h1,h2,h3⟩:=rowsP_ok ho hys
    have r:=cells_ok (fz_fz (ho x _ hy))
    refine ⟨by simp [h1],?_,fun j r' p e1 e2=>?_⟩
    ·rw [List.flatten_cons,List.flatMap_cons]; exact r.app h2
    ·cases j with
     | zero=>cases e1; cases e2; exact r
     | succ j=>exact h3 j r' p (by simpa using e1) (by simpa using e2)
   ·cases e
  ·cases e
end
end Go.Proofs.YtihdpjinaafenaaGreatDoor.Ab

/- What acts: the theorem over all kinds. -/
namespace Go.Proofs.YtihdpjinaafenaaGreatDoor.Ab
open Go.Proofs.YtihdpjinaafenaaGreatDoor.Sl
section
variable {P : Program} {h0 : Gd} {β : Nat → Value} {hF h : Heap} {Tc : Tm} {T : AT} {L : AL} {σ : AS} {o : Oper} {ra : RA}
theorem areps_fzv (hF:Heap) (β:Nat → Value) (zs:List Value):AReps β hF (zs.map fun v=>.fz (.val v)) zs :=
 ⟨by simp,fun j c v a b=>by
  rw [List.getElem?_map,b] at a; cases a; exact .fz (.val v)⟩
theorem freps_val (hF:Heap) (zs:List Value):FReps hF (zs.map .val) zs :=
 ⟨by simp,fun j c v a b=>by
  rw [List.getElem?_map,b] at a; cases a; exact .val v⟩
theorem pa_box (s:Sem h0 β hF h Tc T L σ) {ch:List (Nat × Bool)} (hch:∀ x ∈ ch,Tc x.1 = .bool x.2) {t:TypeId} {x:Operand} {z:Bool} {d:Option Nat} (hop:o.op = (K.box t x z).op) (e:pa T L σ (opd L T ch) d (.box t x z) = some ra):SOp P o (ev Tc) h (AcOk h0 β hF h σ ra):=by
 simp only [pa] at e
 split at e
 ·rename_i y d hx
  have hv:=fz_fz (opd_ok s hch hx)
  have hc:=cells_ok hv
  split at e
  ·cases e
   refine ac_new s.ok (a_box hop) (fun b hb=>.fz ?_) rfl
   exact .fp (off:=0) (Heap.set_same _ _ _) (by have:=hc.1; simp at this ⊢; omega) (fun j c u a e=>(hc.2 j c u a (by rw [Array.getElem?_toList]; rw [Nat.zero_add] at e; exact e)).le (Heap.le_set _ (s.ok.fnone hb)))
  ·split at e
   ·rename_i hd
    cases e
    refine ac_obj (x:=.box t (y.cells.map .fz)) s.ok hd (a_box hop) rfl (fun b=>rfl) (fun b hb=>⟨b,(ev Tc x).cells.toList,by simp [upd],by rw [Heap.set_same],AReps.fz hc⟩) (fun b=>?_) rfl
    have:=ARep.oe (β:=upd β d (.pointer (some ⟨b,0,none⟩))) (h:=hF) (id:=d) (sz:=y.cells.length) (i:=0) (off:=0) (b:=b) (by simp [upd,baseOf])
    simpa using this
   ·cases e
 ·rename_i id d hx
  split at e
  ·rename_i t' sz rows hσ
   split at e
   ·rename_i hd
    cases e
    have hne:id ≠ d:=fun e2=>opd_nm hd hx (by rw [e2]; rfl)
    have h1:=opd_ok s hch hx
    generalize hv:ev Tc x = v at h1
    cases h1
    have hcell:(ev Tc x).cells = #[β id]:=by
     obtain ⟨vs,own,_⟩:=s.ok.ok _ (lookS_mem hσ)
     rw [hv]
     generalize rows.length = n at own
     generalize β id = v at own
     cases own <;> rfl
    refine ac_obj (x:=.box t [.os id]) s.ok hd (a_box hop) rfl (fun b=>rfl) (fun b hb=>⟨b,[β id],by simp [upd],by rw [Heap.set_same,hcell],?_⟩) (fun b=>?_) rfl
    ·refine areps1 ?_
     have:=ARep.os (β:=upd β d (.pointer (some ⟨b,0,none⟩))) (h:=hF) id
     simpa [upd,hne] using this
    ·have:=ARep.oe (β:=upd β d (.pointer (some ⟨b,0,none⟩))) (h:=hF) (id:=d) (sz:=1) (i:=0) (off:=0) (b:=b) (by simp [upd,baseOf])
     simpa using this
   ·cases e
  ·cases e
 ·rename_i id sz i p d hx
  split at e
  ·rename_i hd
   cases e
   have hne:id ≠ d:=fun e2=>opd_nm hd hx (by rw [e2]; rfl)
   have h1:=opd_ok s hch hx
   generalize hv:ev Tc x = v at h1
   cases h1 with
   | @oe _ _ _ _ b0 hb0 =>
    have hcell:(ev Tc x).cells = #[.pointer (some ⟨b0,i * sz + p,none⟩)]:=by rw [hv]; rfl
    refine ac_obj (x:=.box t [.oe id sz i p]) s.ok hd (a_box hop) rfl (fun b=>rfl) (fun b hb=>⟨b,[.pointer (some ⟨b0,i * sz + p,none⟩)],by simp [upd],by rw [Heap.set_same,hcell],?_⟩) (fun b=>?_) rfl
    ·refine areps1 (.oe ?_)
     simp [upd,hne,hb0]
    ·have:=ARep.oe (β:=upd β d (.pointer (some ⟨b,0,none⟩))) (h:=hF) (id:=d) (sz:=1) (i:=0) (off:=0) (b:=b) (by simp [upd,baseOf])
     simpa using this
  ·cases e
 ·cases e
theorem pa_alc (s:Sem h0 β hF h Tc T L σ) {ch:List (Nat × Bool)} {t:TypeId} {zs:List Value} {z:Bool} {d:Option Nat} (hop:o.op = (K.alc t zs z).op) (hs:(K.alc t zs z).side P = true) (e:pa T L σ (opd L T ch) d (.alc t zs z) = some ra):SOp P o (ev Tc) h (AcOk h0 β hF h σ ra):=by
 simp only [K.side,Bool.and_eq_true] at hs
 obtain ⟨zv,hz,hzc⟩:=zeroIs_V hs.1
 have hp:AllocOp P o (ev Tc) (.cells zs.toArray t) (fun b=>.pointer (some ⟨b,0,none⟩)):=a_allocZ hop hz hzc
 simp only [pa] at e
 split at e
 ·rename_i d
  split at e
  ·cases e
   refine ac_new s.ok hp (fun b hb=>.fz ?_) rfl
   have hc:=freps_val (hF.set b (.cells zs.toArray t)) zs
   exact .fp (off:=0) (Heap.set_same _ _ _) (by simp) (fun j c u a e=>hc.2 j c u a (by rw [Nat.zero_add] at e; simpa using e))
  ·split at e
   ·rename_i hd
    cases e
    refine ac_obj (x:=.box t (zs.map fun v=>.fz (.val v))) s.ok hd hp rfl (fun b=>rfl) (fun b hb=>⟨b,zs,by simp [upd],Heap.set_same _ _ _,areps_fzv _ _ zs⟩) (fun b=>?_) rfl
    have:=ARep.oe (β:=upd β d (.pointer (some ⟨b,0,none⟩))) (h:=hF) (id:=d) (sz:=zs.length) (i:=0) (off:=0) (b:=b) (by simp [upd,baseOf])
    simpa using this
   ·cases e
 ·cases e
theorem ac_put {id:Nat} {x:OO} {b:Nat} {ob:Obj} {q:Prop} (s:Ok h0 β hF h σ) (hb:baseOf (β id) = some b) (hm:∃ y,(id,y) ∈ σ) (k:Ok h0 β hF (h.set b ob) (setS σ id x)):AcOk h0 β hF h σ ⟨q,.hid,setS σ id x,some id,none,none⟩ undef (h.set b ob):=by
 refine ⟨β,hF,k,Heap.le_refl _,fun _ _ _=>rfl,.hid _,fun e he hne b' e1=>Heap.set_other _ _ fun e2=>?_⟩
 obtain ⟨y,hy⟩:=hm
 exact s.sep e he _ hy b' (fun e3=>hne (by rw [e3])) e1 (by rw [e2]; exact (s.ok _ hy).fp hb)
theorem pa_st (s:Sem h0 β hF h Tc T L σ) {ch:List (Nat × Bool)} (hch:∀ x ∈ ch,Tc x.1 = .bool x.2) {t:TypeId} {x y:Operand} {d:Option Nat} (hop:o.op = (K.st t x y).op) (hs:(K.st t x y).side P = true) (e:pa T L σ (opd L T ch) d (.st t x y) = some ra) (hob:ra.ob):SOp P o (ev Tc) h (AcOk h0 β hF h σ ra):=by
 simp only [K.side,Bool.and_eq_true,beq_iff_eq] at hs
 simp only [pa] at e
 split at e
 ·rename_i id sz i p a hx hy
  have h1:=opd_ok s hch hx
  have h2:=opd_ok s hch hy
  generalize hv:ev Tc x = v at h1
  cases h1 with
  | @oe _ _ _ _ b hb =>
   split at e
   ·rename_i t' cells hσ
    obtain ⟨vs,hh,hl,hput⟩:=box_put s.ok hσ hb
    have hrep:=box_rep s.ok hσ hb hh
    have one:∀ {a':AV},ARep β hF a' (ev Tc y) → i = 0 → p < cells.length → (ev Tc y).oneCell' = true → ∀ q:Prop,SOp P o (ev Tc) h (AcOk h0 β hF h σ ⟨q,.hid,setS σ id (.box t' (cells.set p a')),some id,none,none⟩):=by
     intro a' ha hi hp h1c q
     subst hi
     refine s_store1 (cs:=vs.toArray) hop hv rfl h1c hs.1 hs.2 hh (by simp; omega) ?_
     have h3:vs.toArray.setIfInBounds (0 * sz + p) (ev Tc y) = (vs.set p (ev Tc y)).toArray:=by simp
     rw [h3]
     exact ac_put s.ok hb ⟨_,lookS_mem hσ⟩ (hput _ _ (hrep.set ha) (fun _=>hrep.set ha))
    split at e
    ·rename_i f
     split at e
     ·rename_i hi
      cases e
      exact one h2 hi hob.1 ((fz_fz h2).one hob.2) _
     ·cases e
    ·cases e
    ·rename_i j
     split at e
     ·rename_i tj sj rj hj
      split at e
      ·rename_i hi
       cases e
       refine one h2 hi hob ?_ _
       obtain ⟨vj,own,_⟩:=s.ok.ok _ (lookS_mem hj)
       generalize ev Tc y = w at h2
       cases h2
       generalize rj.length = nj at own
       generalize β j = vj at own
       cases own <;> rfl
      ·cases e
     ·cases e
    ·split at e
     ·rename_i hi
      cases e
      refine one h2 hi hob ?_ _
      generalize ev Tc y = w at h2
      cases h2
      rfl
     ·cases e
   ·rename_i t' sz' rows hσ
    split at e
    ·rename_i f
     split at e
     ·rename_i hsz
      subst hsz
      cases e
      obtain ⟨⟨hi,hp⟩,h1c⟩:=hob
      obtain ⟨full,hh,hcap,hput⟩:=rows_put (p:=p) (k:=1) s.ok hσ hb hi (by omega)
      have hr:=fz_fz h2
      refine s_store1 (cs:=full) hop hv rfl (hr.one h1c) hs.1 hs.2 hh (by omega) ?_
      have:=hput [f] [ev Tc y] rfl (FReps.cons hr (FReps.nil _)) (by simp [h1c])
      rw [splice_one _ _ _ (by omega)] at this
      have hlen:(rows.getD i []).length = sz':=(rows_at (s.ok.ok _ (lookS_mem hσ)) hi).choose_spec.choose_spec.choose_spec.choose_spec.2.2.2.1
      rw [set_eq_splice (rows.getD i []) p f (by rw [hlen]; exact hp)]
      exact ac_put s.ok hb ⟨_,lookS_mem hσ⟩ this
     ·cases e
    ·cases e
   ·cases e
 ·cases e
theorem pa_stN (s:Sem h0 β hF h Tc T L σ) {ch:List (Nat × Bool)} (hch:∀ x ∈ ch,Tc x.1 = .bool x.2) {t:TypeId} {x y:Operand} {n:Nat} {d:Option Nat} (hop:o.op = (K.stN t x y n).op) (hs:(K.stN t x y n).side P = true) (e:pa T L σ (opd L T ch) d (.stN t x y n) = some ra) (hob:ra.ob):SOp P o (ev Tc) h (AcOk h0 β hF h σ ra):=by
 simp only [K.side,Bool.and_eq_true,beq_iff_eq] at hs
 simp only [pa] at e
 split at e
 ·rename_i id sz i p cs hx hy
  have h1:=opd_ok s hch hx
  obtain ⟨us,hus,hr⟩:=frep_agg (fz_fz (opd_ok s hch hy))
  generalize hv:ev Tc x = v at h1
  cases h1 with
  | @oe _ _ _ _ b hb =>
   split at e
   ·rename_i t' cells hσ
    split at e
    ·rename_i hi
     subst hi
     cases e
     obtain ⟨⟨hp,hn⟩,h1c⟩:=hob
     obtain ⟨vs,hh,hl,hput⟩:=box_put s.ok hσ hb
     have hrep:=box_rep s.ok hσ hb hh
     have hul:us.length = n:=by rw [hr.1]; exact hn
     refine s_storeN (cs:=vs.toArray) (n:=n) hop hv hus (by simpa using hr.one1 h1c) hs.1 (by simpa using hul) hs.2 hh (by simp; omega) ?_
     have h3:splice vs.toArray (0 * sz + p) us.toArray.toList = (vs.take p ++ us ++ vs.drop (p + n)).toArray:=by simp [splice,hul]
     rw [h3]
     have h4:AReps β hF (cells.take p ++ cs.map .fz ++ cells.drop (p + n)) (vs.take p ++ us ++ vs.drop (p + n)):=((hrep.takeA p).appA (AReps.fz hr)).appA (hrep.dropA _)
     exact ac_put s.ok hb ⟨_,lookS_mem hσ⟩ (hput _ _ h4 (fun _=>h4))
    ·cases e
   ·rename_i t' sz' rows hσ
    split at e
    ·rename_i hsz
     obtain ⟨hsz,hp0,hnz⟩:=hsz
     subst hsz
     subst hp0
     subst hnz
     cases e
     obtain ⟨⟨hi,hn⟩,h1c⟩:=hob
     obtain ⟨full,hh,hcap,hput⟩:=rows_put (p:=0) (k:=n) s.ok hσ hb hi (by omega)
     have hul:us.length = n:=by rw [hr.1]; exact hn
     refine s_storeN (cs:=full) (n:=n) hop hv hus (by simpa using hr.one1 h1c) hs.1 (by simpa using hul) hs.2 hh hcap ?_
     have:=hput cs us hn hr h1c
     have hlen:(rows.getD i []).length = n:=(rows_at (s.ok.ok _ (lookS_mem hσ)) hi).choose_spec.choose_spec.choose_spec.choose_spec.2.2.2.1
     rw [List.take_zero,List.nil_append,List.drop_eq_nil_of_le (by omega),List.append_nil] at this
     exact ac_put s.ok hb ⟨_,lookS_mem hσ⟩ this
    ·cases e
   ·cases e
 ·cases e
theorem grew_base {v v':Value} {n m:Nat} {e:TypeId} {sz:Nat} {cs ds:List Value} {h h':Heap} (a:Own h e sz v n cs) (b:Own h' e sz v' m ds) (g:Grew h h' v v'):(∀ q ob,h q = some ob → baseOf v ≠ some q → h' q = some ob) ∧ (∀ q,baseOf v' = some q → baseOf v = some q ∨ h q = none):=by
 have e1:=blk_base a
 have e2:=blk_base b
 refine ⟨fun q ob e hne=>g.same q ob e fun e3=>hne (by rw [← e1]; exact e3.symm),fun q e=>?_⟩
 rcases g.blk with h1 | ⟨q',h1,h2⟩
 ·left; rw [← e1,← h1,e2]; exact e
 ·right
  rw [← e2,h1] at e
  cases e; exact h2
theorem pa_app (s:Sem h0 β hF h Tc T L σ) {ch:List (Nat × Bool)} (hch:∀ x ∈ ch,Tc x.1 = .bool x.2) {t tx:TypeId} {x y:Operand} {ee e' sz:Nat} {d:Option Nat} (hop:o.op = (K.app t tx x y ee e' sz).op) (hs:(K.app t tx x y ee e' sz).side P = true) (e:pa T L σ (opd L T ch) d (.app t tx x y ee e' sz) = some ra) (hob:ra.ob):SOp P o (ev Tc) h (AcOk h0 β hF h σ ra):=by
 simp only [K.side,Bool.and_eq_true] at hs
 obtain ⟨⟨ht,htx⟩,hi⟩:=hs
 replace ht:=isSl_spec ht
 replace htx:=isSl_spec htx
 simp only [pa] at e
 split at e
 ·rename_i q news d hx hsrc
  split at e
  ·rename_i hd
   cases e
   obtain ⟨⟨hq,hfit⟩,hone⟩:=hob
   obtain ⟨hlen,ws,hc,hr⟩:=srcRows_ok s hch hsrc hq
   have hv:=fz_val (opd_ok s hch hx)
   have hd':=hd
   simp only [okNew,Bool.and_eq_true] at hd'
   have h1000:d < 1000:=of_decide_eq_true hd'.2
   replace hd':=hd'.1
   refine s_append hop ht htx hi hv rfl .nil hc (hr.one1 ?_) (by omega) (fun v' h' own grew=>?_)
   ·simp only [List.all_eq_true,List.mem_flatten]
    rintro c ⟨r,h1,h2⟩
    exact List.all_eq_true.1 (hone r h1) c h2
   ·obtain ⟨g1,g2⟩:=grew_base .nil own grew
    rw [Nat.zero_add,List.nil_append] at own
    have k:=s.ok.newO (d:=d) (v:=v') (h':=h') (x:=.rows ee sz news) hd'.2 (fun b ob e=>g1 b ob e (by simp [baseOf])) (fun b e=>(g2 b e).resolve_left (by simp [baseOf])) h1000 ⟨ws,by simpa [upd] using own,hlen,hone,hr⟩
    refine ⟨upd β d v',hF,k,Heap.le_refl _,fun id e _=>?_,?_,fun e1 he _ b e=>?_⟩
    ·have:id ≠ d:=fun e2=>e (by rw [e2])
     simp [upd,this]
    ·have:=ARep.os (β:=upd β d v') (h:=hF) d
     simpa [upd] using this
    ·obtain ⟨ob,h1⟩:=(s.ok.ok e1 he).blk e
     rw [h1]; exact g1 b ob h1 (by simp [baseOf])
  ·cases e
 ·rename_i id q news d' hx hsrc
  split at e
  ·rename_i t' sz' rows hσ
   split at e
   ·rename_i htt
    obtain ⟨⟨rfl,rfl⟩,h1000⟩:=htt
    skip
    cases e
    obtain ⟨⟨hq,hfit⟩,hone⟩:=hob
    obtain ⟨hlen,ws,hc,hr⟩:=srcRows_ok s hch hsrc hq
    have hv:=opd_ok s hch hx
    generalize hvx:ev Tc x = vx at hv
    cases hv
    obtain ⟨vs,own0,hlen0,hone0,hr0⟩:=s.ok.ok _ (lookS_mem hσ)
    refine s_append hop ht htx hi hvx rfl own0 hc (hr.one1 ?_) hfit (fun v' h' own grew=>?_)
    ·simp only [List.all_eq_true,List.mem_flatten]
     rintro c ⟨r,h1,h2⟩
     exact List.all_eq_true.1 (hone r h1) c h2
    ·obtain ⟨g1,g2⟩:=grew_base own0 own grew
     have k:=s.ok.app (v':=v') (h':=h') (x':=.rows t' sz' (rows ++ news)) hσ rfl h1000 g1 g2 rfl ⟨vs ++ ws,by simpa [upd] using own,by
      intro r hr'
      rcases List.mem_append.1 hr' with h1 | h1
      ·exact hlen0 r h1
      ·exact hlen r h1,by
      intro r hr'
      rcases List.mem_append.1 hr' with h1 | h1
      ·exact hone0 r h1
      ·exact hone r h1,by rw [List.flatten_append]; exact hr0.app hr⟩
     refine ⟨upd β id v',hF,k,Heap.le_refl _,fun j _ e=>?_,?_,fun e1 he hne b e=>?_⟩
     ·have:j ≠ id:=fun e2=>e (by rw [e2])
      simp [upd,this]
     ·have:=ARep.os (β:=upd β id v') (h:=hF) id
      simpa [upd] using this
     ·obtain ⟨ob,h1⟩:=(s.ok.ok e1 he).blk e
      rw [h1]
      exact g1 b ob h1 fun e2=>s.ok.sep e1 he _ (lookS_mem hσ) b (fun e3=>hne (by rw [e3])) e ((s.ok.ok _ (lookS_mem hσ)).fp e2)
   ·cases e
  ·cases e
 ·cases e
theorem parts_zip:∀ (l:List (Nat × Operand)) (k:Nat) (f:Operand → Value),l.map (·.1) = (List.range l.length).map (· + k) → l.map (fun p=>(p.1,f p.2)) = ((l.map fun p=>f p.2).zipIdx k).map fun x=>(x.2,x.1)
 | [],k,f,_=>rfl
 | (i,x) :: l,k,f,h=>by
  rw [List.length_cons,List.range_succ_eq_map] at h
  simp only [List.map_cons,List.map_map,List.cons.injEq,Nat.zero_add] at h
  obtain ⟨h1,h2⟩:=h
  have ih:=parts_zip l (k + 1) f (by rw [h2]; apply List.map_congr_left; intro a _; simp; omega)
  simp only [List.map_cons,List.zipIdx_cons,ih,h1]
theorem pa_bsl (s:Sem h0 β hF h Tc T L σ) {ch:List (Nat × Bool)} (hch:∀ x ∈ ch,Tc x.1 = .bool x.2) {t n:Nat} {parts:List (Nat × Operand)} {ee sz:Nat} {z:Bool} {d:Option Nat} (hop:o.op = (K.bsl t n parts ee sz z).op) (hs:(K.bsl t n parts ee sz z).side P = true) (e:pa T L σ (opd L T ch) d (.bsl t n parts ee sz z) = some ra) (hob:ra.ob):SOp P o (ev Tc) h (AcOk h0 β hF h σ ra):=by
 simp only [K.side,Bool.and_eq_true,decide_eq_true_eq] at hs
 obtain ⟨⟨⟨⟨⟨ht,hi⟩,hn⟩,hk⟩,hs0⟩,hfit⟩:=hs
 replace ht:=isSl_spec ht
 simp only [pa] at e
 split at e
 ·rename_i rows d hrows
  obtain ⟨h1,h2,h3⟩:=rowsP_ok (fun x av e=>opd_ok s hch e) hrows
  have main:(∀ r ∈ rows,r.length = sz) → AllocOp P o (ev Tc) (.cells ((parts.map fun p=>ev Tc p.2).flatMap (·.cells.toList)).toArray ee) (fun b=>.slice (some ⟨b,0,none⟩) n n) ∧ ((parts.map fun p=>ev Tc p.2).flatMap (·.cells.toList)).length = n * sz ∧ FReps hF rows.flatten ((parts.map fun p=>ev Tc p.2).flatMap (·.cells.toList)):=by
   intro hlen
   have h2':FReps hF rows.flatten ((parts.map fun p=>ev Tc p.2).flatMap (·.cells.toList)):=by
    have:(parts.map fun p=>ev Tc p.2).flatMap (·.cells.toList) = parts.flatMap fun p=>(ev Tc p.2).cells.toList:=by simp [List.flatMap_map]
    rw [this]; exact h2
   have hll:((parts.map fun p=>ev Tc p.2).flatMap (·.cells.toList)).length = n * sz:=by
    have h5:=h2'.1
    rw [flat_len hlen,h1,← hn] at h5
    exact h5
   refine ⟨?_,hll,h2'⟩
   have hcs:∀ v ∈ (parts.map fun p=>ev Tc p.2),v.cells.size = sz:=by
    intro v hv
    obtain ⟨j,hj,rfl⟩:=List.mem_iff_getElem.1 hv
    simp only [List.length_map] at hj
    have hr:=h3 j rows[j] parts[j] (List.getElem?_eq_getElem (by omega)) (List.getElem?_eq_getElem hj)
    have h4:=hlen _ (List.getElem_mem (show j < rows.length by omega))
    have h5:=hr.1
    simp only [List.getElem_map,Array.length_toList] at h5 ⊢
    omega
   by_cases hn0:n = 0
   ·have hp0:parts = []:=List.eq_nil_of_length_eq_zero (by omega)
    subst hp0
    subst hn0
    obtain ⟨i,z,hii,_⟩:=infoOk_spec hi
    exact a_buildSlice0 hop ht (by rw [hii]; rfl)
   ·exact a_buildSliceG (P:=P) (o:=o) (ρ:=ev Tc) (parts:=parts.toArray) (vs:=parts.map fun p=>ev Tc p.2) (sz:=sz) hop ht hi (by
     have:=parts_zip parts 0 (ev Tc) (by rw [hk,hn]; simp)
     simpa using this) (by simp [hn]) hcs (by omega) hs0 hfit
  have hrn:rows.length = n:=by omega
  split at e
  ·cases e
   obtain ⟨hlen,hone⟩:=hob
   obtain ⟨hlit,hll,hrep⟩:=main hlen
   refine ac_new s.ok hlit (fun b hb=>.fz ?_) rfl
   unfold slL
   rw [hrn]
   have hrow:∀ i,i < n → rows.getD i [] ∈ rows:=fun i hi=>by rw [List.getD_eq_getElem?_getD,List.getElem?_eq_getElem (by omega)]; exact List.getElem_mem _
   refine .sl (off:=0) (Heap.set_same _ _ _) (Nat.le_refl _) (fun i hi=>hlen _ (hrow i hi)) (fun i hi=>hone _ (hrow i hi)) (by rw [List.size_toArray,hll]; omega) (fun i j c v hi e1 e2=>(hrep.2 (i * sz + j) c v ?_ ?_).le (Heap.le_set _ (s.ok.fnone hb)))
   ·have hj:j < sz:=by have:=(List.getElem?_eq_some_iff.1 e1).1; rw [hlen _ (hrow i hi)] at this; exact this
    rw [flat_get hlen i j hj]
    rw [List.getD_eq_getElem?_getD] at e1
    have hri:rows[i]? = some (rows[i]'(by omega)):=List.getElem?_eq_getElem (by omega)
    rw [hri] at e1 ⊢
    exact e1
   ·rw [List.getElem?_toArray,Nat.zero_add] at e2; exact e2
  ·split at e
   ·rename_i hd
    cases e
    obtain ⟨hlen,hone⟩:=hob
    obtain ⟨hlit,hll,hrep⟩:=main hlen
    refine ac_obj (x:=.rows ee sz rows) s.ok hd hlit rfl (fun b=>rfl) (fun b hb=>⟨(parts.map fun p=>ev Tc p.2).flatMap (·.cells.toList),?_,hlen,hone,hrep⟩) (fun b=>?_) rfl
    ·have:Own (h.set b (.cells ((parts.map fun p=>ev Tc p.2).flatMap (·.cells.toList)).toArray ee (0,0))) ee sz (.slice (some ⟨b,0,none⟩) n n) n ((parts.map fun p=>ev Tc p.2).flatMap (·.cells.toList)) :=
      .at_ (Heap.set_same _ _ _) hll (Nat.le_refl _) (by rw [List.size_toArray,hll]; exact Nat.le_refl _) (List.take_of_length_le (Nat.le_of_eq hll))
     simpa [upd,hrn] using this
    ·have:=ARep.os (β:=upd β d (.slice (some ⟨b,0,none⟩) n n)) (h:=hF) d
     simpa [upd] using this
   ·cases e
 ·cases e
theorem made_take (z:Array Value) (sz:Nat) (hz:z.size = sz) (l c:Nat) (hlc:l ≤ c):(madeCells z (c * sz)).toList.take (l * sz) = (List.replicate l z.toList).flatten:=by
 have h1:l * sz ≤ c * sz:=Nat.mul_le_mul_right _ hlc
 apply List.ext_getElem?
 intro m
 by_cases hm:m < l * sz
 ·have hs0:0 < sz:=Nat.pos_of_ne_zero fun e3=>by subst e3; simp at hm
  have hj2:m / sz < l:=(Nat.div_lt_iff_lt_mul hs0).2 hm
  have hj3:m % sz < sz:=Nat.mod_lt _ hs0
  have hj4:m / sz * sz + m % sz = m:=by rw [Nat.mul_comm]; exact Nat.div_add_mod m sz
  rw [List.getElem?_take_of_lt hm]
  have h2:(List.replicate l z.toList).flatten[m]? = z.toList[m % sz]?:=by
   conv=>lhs; rw [← hj4]
   rw [flat_get (sz:=sz) (fun r hr=>by rw [List.eq_of_mem_replicate hr]; simpa using hz) _ _ hj3,List.getElem?_replicate,if_pos hj2]; rfl
  rw [h2,Array.getElem?_toList]
  unfold madeCells
  have hms:m < c * sz:=by omega
  rw [Array.getElem?_map,Array.getElem?_eq_getElem (by simpa using hms)]
  simp only [Array.getElem_range,Option.map_some,hz]
  rw [Array.getElem?_toList,Array.getElem?_eq_getElem (by omega),getElem!_pos z (m % sz) (by omega)]
 ·rw [List.getElem?_eq_none (by simp; omega),List.getElem?_eq_none]
  rw [flat_len (sz:=sz) (fun r hr=>by rw [List.eq_of_mem_replicate hr]; simpa using hz)]
  simp; omega
theorem pa_mks (s:Sem h0 β hF h Tc T L σ) {ch:List (Nat × Bool)} (hch:∀ x ∈ ch,Tc x.1 = .bool x.2) {t:TypeId} {x y:Operand} {ee sz:Nat} {zs:List Value} {d:Option Nat} (hop:o.op = (K.mks t x y ee sz zs).op) (hs:(K.mks t x y ee sz zs).side P = true) (e:pa T L σ (opd L T ch) d (.mks t x y ee sz zs) = some ra) (hob:ra.ob):SOp P o (ev Tc) h (AcOk h0 β hF h σ ra):=by
 simp only [K.side,Bool.and_eq_true] at hs
 obtain ⟨⟨⟨ht,hi⟩,hz⟩,hz1⟩:=hs
 replace ht:=isSl_spec ht
 obtain ⟨i,z,hii,hzz,hsz,hzs,hb⟩:=infoOk_spec hi
 have hzc:z.cells.toList = zs:=by
  have h1:=zeroIs_eq hz
  unfold zeroOf at h1
  rw [hii] at h1
  simp only [Option.bind_some,hzz,Option.map_some,Option.some.injEq] at h1
  rw [h1]
 simp only [pa] at e
 split at e
 ·rename_i k1 l k2 c d hx hy
  split at e
  ·rename_i hd
   cases e
   obtain ⟨hl,hlc,hc⟩:=hob
   have hvx:=fz_val (opd_ok s hch hx)
   have hvy:=fz_val (opd_ok s hch hy)
   obtain ⟨l,rfl⟩:=Int.eq_ofNat_of_zero_le hl
   obtain ⟨c,rfl⟩:=Int.eq_ofNat_of_zero_le (Int.le_trans hl hlc)
   have hlc':l ≤ c:=Int.ofNat_le.1 hlc
   have hm:i.bytes * c ≤ 4096 * 1000000:=Nat.mul_le_mul hb (by omega)
   have hm':(i.bytes:Int) * (c:Int) ≤ 281474976710656:=by
    have:((i.bytes * c:Nat):Int) ≤ ((4096 * 1000000:Nat):Int):=Int.ofNat_le.2 hm
    rw [Int.natCast_mul] at this
    omega
   have hp:AllocOp P o (ev Tc) (.cells (madeCells z.cells (c * i.size)) ee) (fun b=>.slice (some ⟨b,0,none⟩) l c):=fun w=>by
    have:=run_make (P:=P) w t ee i z ht hii hzz k1 k2 (l:Int) (c:Int) (by omega) hlc hm' (by omega)
    simp only [K.op] at hop
    simp only [execOp,hop,hvx,hvy,this,Sem.run_bind,Sem.run_map,Result.andThen_ok,Sem.run_pure,Int.toNat_natCast]
   refine ac_obj (v:=.os d) (x:=.rows ee sz (List.replicate l (zs.map .val))) s.ok hd hp rfl (fun b=>rfl) (fun b hb=>⟨(List.replicate l zs).flatten,?_,?_,?_,?_⟩) (fun b=>?_) (by simp)
   ·have:Own (h.set b (.cells (madeCells z.cells (c * i.size)) ee (0,0))) ee sz (.slice (some ⟨b,0,none⟩) l c) l (List.replicate l zs).flatten :=
     .at_ (Heap.set_same _ _ _) (flat_len (sz:=sz) (rows:=List.replicate l zs) (fun r hr=>by rw [List.eq_of_mem_replicate hr,← hzc]; simpa using hzs) ▸ by simp) hlc' (by rw [size_madeCells,hsz]; exact Nat.le_refl _) (by rw [hsz,made_take _ sz hzs l c hlc',hzc])
    simpa [upd] using this
   ·intro r hr; rw [List.eq_of_mem_replicate hr,List.length_map,← hzc]; simpa using hzs
   ·intro r hr; rw [List.eq_of_mem_replicate hr]
    simp only [List.all_map,List.all_eq_true] at hz1 ⊢
    exact fun v hv=>hz1 v hv
   ·have:∀ n:Nat,FReps hF (List.replicate n (zs.map FV.val)).flatten (List.replicate n zs).flatten:=by
     intro n
     induction n with
     | zero=>exact FReps.nil _
     | succ n ih=>rw [List.replicate_succ,List.replicate_succ,List.flatten_cons,List.flatten_cons]; exact (freps_val _ _).app ih
    exact this l
   ·have:=ARep.os (β:=upd β d (.slice (some ⟨b,0,none⟩) l c)) (h:=hF) d
    simpa [upd] using this
  ·cases e
 ·cases e
theorem pa_ok (s:Sem h0 β hF h Tc T L σ) {ch:List (Nat × Bool)} (hch:∀ x ∈ ch,Tc x.1 = .bool x.2) {k:K} {d:Option Nat} (hop:o.op = k.op) (hs:k.side P = true) (e:pa T L σ (opd L T ch) d k = some ra) (hob:ra.ob):SOp P o (ev Tc) h (AcOk h0 β hF h σ ra):=by
 cases k with
 | box t x z=>exact pa_box s hch hop e
 | alc t zs z=>exact pa_alc s hop hs e
 | st t x y=>exact pa_st s hch hop hs e hob
 | stN t x y n=>exact pa_stN s hch hop hs e hob
 | app t tx x y ee e' sz=>exact pa_app s hch hop hs e hob
 | bsl t n parts ee sz z=>exact pa_bsl s hch hop hs e hob
 | mks t x y ee sz zs=>exact pa_mks s hch hop hs e hob
 | _=>simp only [pa,reduceCtorEq] at e
end
end Go.Proofs.YtihdpjinaafenaaGreatDoor.Ab
