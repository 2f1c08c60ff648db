import Derived.Test.YtihdpjinaafenaaGreatDoorFr8
import Derived.Laws.MakeOwn
noncomputable section
/- What acts: new cells, stores, appends, slices made: how the objects turn. -/
set_option linter.unusedVariables false
set_option linter.unusedSimpArgs false
namespace Go.Proofs.YtihdpjinaafenaaGreatDoor.Ab
open Go.Proofs.YtihdpjinaafenaaGreatDoor.Sl
def nmNe (d:Nat):AV → Bool
 | .os id=>!(id == d)
 | .oe id _ _ _=>!(id == d)
 | .ot id _ _=>!(id == d)
 | _=>true
theorem nmNe_spec {d:Nat} {a:AV} (h:nmNe d a = true):a.nm ≠ some d:=by
 cases a <;> simp [nmNe,AV.nm] at h ⊢ <;> exact h
def nmT (d:Nat):AT → Bool
 | []=>true
 | e :: r=>nmNe d e.2 && nmT d r
def nmL (d:Nat):AL → Bool
 | []=>true
 | e :: r=>nmNe d e.2.2 && nmL d r
def nmC (d:Nat):List AV → Bool
 | []=>true
 | e :: r=>nmNe d e && nmC d r
def nmS (d:Nat):AS → Bool
 | []=>true
 | e :: r=>!(e.1 == d) && nmC d e.2.cells && nmS d r
theorem nmT_spec {d:Nat}:∀ {T:AT},nmT d T = true → ∀ e ∈ T,e.2.nm ≠ some d
 | [],_,e,he=>by cases he
 | x :: r,h,e,he=>by
  simp only [nmT,Bool.and_eq_true] at h
  rcases List.mem_cons.1 he with rfl | he
  ·exact nmNe_spec h.1
  ·exact nmT_spec h.2 e he
theorem nmL_spec {d:Nat}:∀ {T:AL},nmL d T = true → ∀ e ∈ T,e.2.2.nm ≠ some d
 | [],_,e,he=>by cases he
 | x :: r,h,e,he=>by
  simp only [nmL,Bool.and_eq_true] at h
  rcases List.mem_cons.1 he with rfl | he
  ·exact nmNe_spec h.1
  ·exact nmL_spec h.2 e he
theorem nmC_spec {d:Nat}:∀ {T:List AV},nmC d T = true → ∀ e ∈ T,e.nm ≠ some d
 | [],_,e,he=>by cases he
 | x :: r,h,e,he=>by
  simp only [nmC,Bool.and_eq_true] at h
  rcases List.mem_cons.1 he with rfl | he
  ·exact nmNe_spec h.1
  ·exact nmC_spec h.2 e he
theorem nmS_spec {d:Nat}:∀ {T:AS},nmS d T = true → ∀ e ∈ T,e.1 ≠ d ∧ ∀ c ∈ e.2.cells,c.nm ≠ some d
 | [],_,e,he=>by cases he
 | x :: r,h,e,he=>by
  simp only [nmS,Bool.and_eq_true] at h
  rcases List.mem_cons.1 he with rfl | he
  ·exact ⟨by simpa using h.1.1,nmC_spec h.1.2⟩
  ·exact nmS_spec h.2 e he
def okNew (d:Nat) (T:AT) (L:AL) (σ:AS):Bool:=nmT d T && nmL d L && nmS d σ && decide (d < 1000)
def setS:AS → Nat → OO → AS
 | [],_,_=>[]
 | e :: r,id,x=>if e.1 = id then (id,x) :: r else e :: setS r id x
def pA (id:Nat):AV → AV
 | .os j=>if j = id then .hid else .os j
 | .oe j sz i p=>if j = id then .hid else .oe j sz i p
 | .ot j sz i=>if j = id then .hid else .ot j sz i
 | a=>a
def pT (id:Nat):AT → AT
 | []=>[]
 | e :: r=>(e.1,pA id e.2) :: pT id r
def pL (id:Nat):AL → AL
 | []=>[]
 | e :: r=>(e.1,e.2.1,pA id e.2.2) :: pL id r
def pC (id:Nat):List AV → List AV
 | []=>[]
 | a :: r=>pA id a :: pC id r
def pO (id:Nat):OO → OO
 | .box t cs=>.box t (pC id cs)
 | x=>x
def pS (id:Nat):AS → AS
 | []=>[]
 | e :: r=>(e.1,pO id e.2) :: pS id r
def rowsOf (n:Nat) (f:Nat → List FV):List (List FV):=(List.range n).map f
def srcRows (σ:AS) (sz:Nat):Option AV → Option (Prop × List (List FV))
 | some (.fz y)=>match asSl y with
  | some (n,f)=>some (∀ i,i < n → (f i).length = sz,rowsOf n f)
  | none=>none
 | some (.os id)=>match lookS σ id with
  | some (.rows _ sz' rows)=>if sz' = sz then some (True,rows) else none
  | _=>none
 | _=>none
def rowsP (o:Operand → Option AV):List (Nat × Operand) → Option (List (List FV))
 | []=>some []
 | (_,x) :: r=>match o x with
  | some (.fz y)=>match rowsP o r with
   | some ys=>some (y.cells :: ys)
   | none=>none
  | _=>none
structure RA where
 ob:Prop
 v:AV
 σ:AS
 md:Option Nat
 nw:Option Nat
 pg:Option Nat
def pa (T:AT) (L:AL) (σ:AS) (o:Operand → Option AV) (d:Option Nat):K → Option RA
 | .box t x z=>match o x,d with
  | some (.fz y),some d=>if z then some ⟨True,.fz (.fp y.cells),σ,none,none,none⟩
   else if okNew d T L σ then some ⟨True,.oe d y.cells.length 0 0,(d,.box t (y.cells.map .fz)) :: σ,none,some d,none⟩ else none
  | some (.os id),some d=>match lookS σ id with
   | some (.rows _ _ _)=>if okNew d T L σ then some ⟨True,.oe d 1 0 0,(d,.box t [.os id]) :: σ,none,some d,none⟩ else none
   | _=>none
  | some (.oe id sz i p),some d=>if okNew d T L σ then some ⟨True,.oe d 1 0 0,(d,.box t [.oe id sz i p]) :: σ,none,some d,none⟩ else none
  | _,_=>none
 | .alc t zs z=>match d with
  | some d=>if z then some ⟨True,.fz (.fp (zs.map .val)),σ,none,none,none⟩
   else if okNew d T L σ then some ⟨True,.oe d zs.length 0 0,(d,.box t (zs.map fun v=>.fz (.val v))) :: σ,none,some d,none⟩ else none
  | none=>none
 | .st _ x y=>match o x,o y with
  | some (.oe id sz i p),some a=>match lookS σ id with
   | some (.box t cells)=>match a with
    | .fz y=>if i = 0 then some ⟨p < cells.length ∧ y.one = true,.hid,setS σ id (.box t (cells.set p (.fz y))),some id,none,none⟩ else none
    | .hid=>none
    | .os j=>match lookS σ j with
     | some (.rows _ _ _)=>if i = 0 then some ⟨p < cells.length,.hid,setS σ id (.box t (cells.set p (.os j))),some id,none,none⟩ else none
     | _=>none
    | .oe a b c e=>if i = 0 then some ⟨p < cells.length,.hid,setS σ id (.box t (cells.set p (.oe a b c e))),some id,none,none⟩ else none
    | .ot _ _ _=>none
   | some (.rows t sz' rows)=>match a with
    | .fz y=>if sz' = sz then some ⟨(i < rows.length ∧ p < sz) ∧ y.one = true,.hid,setS σ id (.rows t sz (rows.set i ((rows.getD i []).set p y))),some id,none,none⟩ else none
    | _=>none
   | _=>none
  | _,_=>none
 | .stN _ x y n=>match o x,o y with
  | some (.oe id sz i p),some (.fz (.agg cs))=>match lookS σ id with
   | some (.box t cells)=>if i = 0 then some ⟨(p + n ≤ cells.length ∧ cs.length = n) ∧ cs.all FV.one = true,.hid,setS σ id (.box t (cells.take p ++ cs.map .fz ++ cells.drop (p + n))),some id,none,none⟩ else none
   | some (.rows t sz' rows)=>if sz' = sz ∧ p = 0 ∧ n = sz then some ⟨(i < rows.length ∧ cs.length = n) ∧ cs.all FV.one = true,.hid,setS σ id (.rows t sz (rows.set i cs)),some id,none,none⟩ else none
   | _=>none
  | _,_=>none
 | .app _ _ x y e _ sz=>match o x,srcRows σ sz (o y),d with
  | some (.fz (.val (.slice none 0 0))),some (q,news),some d=>if okNew d T L σ then some ⟨(q ∧ news.length ≤ 34359738368) ∧ ∀ r ∈ news,r.all FV.one = true,.os d,(d,.rows e sz news) :: σ,none,some d,none⟩ else none
  | some (.os id),some (q,news),some _=>match lookS σ id with
   | some (.rows t sz' rows)=>if (t = e ∧ sz' = sz) ∧ id < 1000 then some ⟨(q ∧ rows.length + news.length ≤ 34359738368) ∧ ∀ r ∈ news,r.all FV.one = true,.os id,setS (pS id σ) id (.rows e sz (rows ++ news)),some id,none,some id⟩ else none
   | _=>none
  | _,_,_=>none
 | .bsl _ n parts e sz z=>match rowsP o parts,d with
  | some rows,some d=>if z then some ⟨(∀ r ∈ rows,r.length = sz) ∧ ∀ r ∈ rows,r.all FV.one = true,.fz (slL rows),σ,none,none,none⟩
   else if okNew d T L σ then some ⟨(∀ r ∈ rows,r.length = sz) ∧ ∀ r ∈ rows,r.all FV.one = true,.os d,(d,.rows e sz rows) :: σ,none,some d,none⟩ else none
  | _,_=>none
 | .mks _ x y e sz zs=>match o x,o y,d with
  | some (.fz (.val (.int _ l))),some (.fz (.val (.int _ c))),some d=>if okNew d T L σ then some ⟨0 ≤ l ∧ l ≤ c ∧ c ≤ 1000000,.os d,(d,.rows e sz (List.replicate l.toNat (zs.map .val))) :: σ,none,some d,none⟩ else none
  | _,_,_=>none
 | .clr _ x e sz zs=>match o x with
  | some (.ot id sz1 i0)=>match lookS σ id with
   | some (.rows t sz' rows)=>if sz' = sz ∧ sz1 = sz then some ⟨i0 < rows.length,.hid,setS σ id (.rows t sz (rows.take i0 ++ List.replicate (rows.length - i0) (zs.map .val))),some id,none,none⟩ else none
   | _=>none
  | _=>none
 | _=>none
end Go.Proofs.YtihdpjinaafenaaGreatDoor.Ab

/- What acts: that the operations turn the objects just so. -/
namespace Go.Proofs.YtihdpjinaafenaaGreatDoor.Ab
open Go.Proofs.YtihdpjinaafenaaGreatDoor.Sl
section
variable {P : Program} {h0 : Gd} {β β' : Nat → Value} {hF hF' h h' : Heap} {Tc : Tm} {T : AT} {L : AL} {σ : AS} {o : Oper}
theorem OOk.fr {id:Nat} {x:OO} (k:OOk β hF h id x) (l:hF.le hF') (e:∀ b,fpOf (β id) x b → h' b = h b) (e1:β' id = β id) (e2:∀ c ∈ x.cells,∀ j,c.nm = some j → β' j = β j):OOk β' hF' h' id x:=by
 cases x with
 | box t cells =>
  obtain ⟨b,vs,h1,h2,h3⟩:=k
  exact ⟨b,vs,by rw [e1,h1],by rw [e b (by rw [h1]; rfl)]; exact h2,h3.to l e2⟩
 | ext D Φ =>
  obtain ⟨h1,h2,h3⟩:=k
  exact ⟨fun b hb=>h1 b (by rw [← e1]; exact hb),fun b hb=>by rw [e b hb]; exact h2 b hb,fun h'' he=>by rw [e1]; exact h3 h'' fun b hb=>(he b hb).trans (e b hb)⟩
 | rows t sz rows =>
  obtain ⟨vs,own,h2,h3,h4⟩:=k
  refine ⟨vs,?_,h2,h3,h4.le l⟩
  rw [e1]
  generalize rows.length = n at own
  simp only [fpOf] at e
  generalize β id = v at own e
  cases own with
  | nil=>exact .nil
  | at_ hb hl hnc hcap hc=>exact .at_ (by rw [e _ rfl]; exact hb) hl hnc hcap hc
theorem OOk.blk {id:Nat} {x:OO} (k:OOk β hF h id x) {b:Nat} (e:fpOf (β id) x b):∃ ob,h b = some ob:=by
 cases x with
 | ext D Φ =>
  cases e1:h b with
  | none=>exact absurd e1 (k.2.1 b e)
  | some ob=>exact ⟨ob,rfl⟩
 | box t cells =>
  obtain ⟨b',vs,h1,h2,h3⟩:=k
  simp only [fpOf] at e
  rw [h1] at e; cases e; exact ⟨_,h2⟩
 | rows t sz rows =>
  obtain ⟨vs,own,_⟩:=k
  simp only [fpOf] at e
  generalize rows.length = n at own
  generalize β id = v at own e
  cases own with
  | nil=>cases e
  | at_ hb=>cases e; exact ⟨_,hb⟩
theorem OOk.fp {id:Nat} {x:OO} (k:OOk β hF h id x) {b:Nat} (e:baseOf (β id) = some b):fpOf (β id) x b:=by
 cases x with
 | ext D Φ=>exact k.1 b e
 | _=>exact e
theorem Ok.fnone (k:Ok h0 β hF h σ) {b:Nat} (hb:h b = none):hF b = none:=by
 cases e:hF b with
 | none=>rfl
 | some ob=>rw [k.le b ob e] at hb; cases hb
theorem Ok.ne (k:Ok h0 β hF h σ) {b b':Nat} (hb:h b = none) {e:Nat × OO} (he:e ∈ σ) (e1:fpOf (β e.1) e.2 b'):b' ≠ b:=fun e2=>by
 obtain ⟨ob,h1⟩:=(k.ok e he).blk e1
 rw [e2,hb] at h1; cases h1
theorem Ok.newF (k:Ok h0 β hF h σ) {b:Nat} (hb:h b = none) (ob:Obj):Ok h0 β (hF.set b ob) (h.set b ob) σ ∧ hF.le (hF.set b ob):=by
 have hn:=k.fnone hb
 have l:=Heap.le_set ob hn
 refine ⟨⟨Heap.le_trans k.le0 l,?_,fun e he=>?_,fun e he b' e1=>?_,k.sep,k.fix,k.nd⟩,l⟩
 ·intro q ob' e
  by_cases hq:q = b
  ·subst hq; rw [Heap.set_same] at e ⊢; exact e
  ·rw [Heap.set_other _ _ hq] at e ⊢; exact k.le q ob' e
 ·exact (k.ok e he).fr l (fun b' e1=>Heap.set_other _ _ (k.ne hb he e1)) rfl (fun _ _ _ _=>rfl)
 ·rw [Heap.set_other _ _ (k.ne hb he e1)]; exact k.out e he b' e1
theorem Ok.newO (k:Ok h0 β hF h σ) {d:Nat} (hd:nmS d σ = true) {v:Value} {x:OO} (same:∀ b ob,h b = some ob → h' b = some ob) (hv:∀ b,fpOf v x b → h b = none) (h1000:d < 1000) (hx:OOk (upd β d v) hF h' d x):Ok h0 (upd β d v) hF h' ((d,x) :: σ):=by
 have hd:=nmS_spec hd
 have hu:∀ j,j ≠ d → upd β d v j = β j:=fun j e=>by simp [upd,e]
 have hud:upd β d v d = v:=by simp [upd]
 refine ⟨k.le0,fun q ob e=>same q ob (k.le q ob e),fun e he=>?_,fun e he b e1=>?_,fun e he e' he' b hne e1=>?_,fun id hid=>by rw [hu id (by omega)]; exact k.fix id hid,?_⟩
 ·rcases List.mem_cons.1 he with rfl | he
  ·exact hx
  ·refine (k.ok e he).fr (Heap.le_refl _) (fun b e1=>?_) (hu _ (hd e he).1) (fun c hc j hj=>hu _ fun e2=>(hd e he).2 c hc (by rw [← e2]; exact hj))
   obtain ⟨ob,h1⟩:=(k.ok e he).blk e1
   rw [h1,same b ob h1]
 ·rcases List.mem_cons.1 he with rfl | he
  ·simp only [hud] at e1; exact k.fnone (hv b e1)
  ·rw [hu _ (hd e he).1] at e1; exact k.out e he b e1
 ·rcases List.mem_cons.1 he with rfl | he <;> rcases List.mem_cons.1 he' with rfl | he'
  ·exact absurd rfl hne
  ·simp only [hud] at e1
   rw [hu _ (hd e' he').1]
   intro e2
   exact k.ne (hv b e1) he' e2 rfl
  ·rw [hu _ (hd e he).1] at e1
   simp only [hud]
   intro e2
   exact k.ne (hv b e2) he e1 rfl
  ·rw [hu _ (hd e he).1] at e1
   rw [hu _ (hd e' he').1]
   exact k.sep e he e' he' b hne e1
 ·simp only [List.map_cons,List.nodup_cons]
  refine ⟨fun hm=>?_,k.nd⟩
  obtain ⟨e,he,e1⟩:=List.mem_map.1 hm
  exact (hd e he).1 e1
theorem setS_mem {id:Nat} {x:OO}:∀ {σ:AS},(σ.map (·.1)).Nodup → ∀ e ∈ setS σ id x,e = (id,x) ∨ (e ∈ σ ∧ e.1 ≠ id)
 | [],_,e,he=>by cases he
 | a :: r,nd,e,he=>by
  simp only [List.map_cons,List.nodup_cons] at nd
  unfold setS at he
  split at he
  ·rename_i h1
   rcases List.mem_cons.1 he with rfl | he
   ·exact .inl rfl
   ·exact .inr ⟨List.mem_cons_of_mem _ he,fun e2=>nd.1 (by rw [h1,← e2]; exact List.mem_map.2 ⟨e,he,rfl⟩)⟩
  ·rename_i h1
   rcases List.mem_cons.1 he with rfl | he
   ·exact .inr ⟨List.mem_cons_self,h1⟩
   ·rcases setS_mem nd.2 e he with h2 | ⟨h2,h3⟩
    ·exact .inl h2
    ·exact .inr ⟨List.mem_cons_of_mem _ h2,h3⟩
theorem setS_keys {id:Nat} {x:OO}:∀ (σ:AS),(setS σ id x).map (·.1) = σ.map (·.1)
 | []=>rfl
 | a :: r=>by
  unfold setS
  split
  ·rename_i h1; simp [h1]
  ·simp [setS_keys r]
def plain:OO → Bool
 | .ext _ _=>false
 | _=>true
theorem plain_fp {x:OO} (h:plain x = true) (v:Value) (b:Nat):fpOf v x b ↔ baseOf v = some b:=by
 cases x with
 | ext D Φ=>cases h
 | _=>exact Iff.rfl
theorem Ok.put (k:Ok h0 β hF h σ) {id:Nat} {x:OO} (hl:lookS σ id = some x) (px:plain x = true) {b:Nat} (hb:baseOf (β id) = some b) {ob:Obj} {x':OO} (px':plain x' = true) (hx:OOk β hF (h.set b ob) id x'):Ok h0 β hF (h.set b ob) (setS σ id x'):=by
 have hm:=lookS_mem hl
 have hbf:=(plain_fp px (β id) b).2 hb
 have conv:∀ b',fpOf (β id) x' b' → fpOf (β id) x b':=fun b' h=>(plain_fp px _ _).2 ((plain_fp px' _ _).1 h)
 refine ⟨k.le0,fun q ob' e=>?_,fun e he=>?_,fun e he b' e1=>?_,fun e he e' he' b' hne e1=>?_,k.fix,by rw [setS_keys]; exact k.nd⟩
 ·have:q ≠ b:=fun e2=>by rw [e2,k.out _ hm b hbf] at e; cases e
  rw [Heap.set_other _ _ this]; exact k.le q ob' e
 ·rcases setS_mem k.nd e he with rfl | ⟨he,hne⟩
  ·exact hx
  ·exact (k.ok e he).fr (Heap.le_refl _) (fun b' e1=>Heap.set_other _ _ fun e2=>k.sep e he _ hm b' hne e1 (by rw [e2]; exact hbf)) rfl (fun _ _ _ _=>rfl)
 ·rcases setS_mem k.nd e he with rfl | ⟨he,hne⟩
  ·exact k.out _ hm b' (conv _ e1)
  ·exact k.out e he b' e1
 ·rcases setS_mem k.nd e he with rfl | ⟨he,hn1⟩ <;> rcases setS_mem k.nd e' he' with rfl | ⟨he',hn2⟩
  ·exact absurd rfl hne
  ·exact k.sep _ hm e' he' b' (Ne.symm hn2) (conv _ e1)
  ·exact fun h2=>k.sep e he _ hm b' hn1 e1 (conv _ h2)
  ·exact k.sep e he e' he' b' hne e1
theorem pA_nm {id:Nat} {a:AV} {j:Nat} (h:(pA id a).nm = some j):a.nm = some j ∧ j ≠ id:=by
 cases a with
 | hid=>cases h
 | fz x=>cases h
 | os i =>
  simp only [pA] at h
  split at h
  ·cases h
  ·rename_i hne; simp only [AV.nm,Option.some.injEq] at h ⊢; subst h; exact ⟨rfl,hne⟩
 | oe i s a b =>
  simp only [pA] at h
  split at h
  ·cases h
  ·rename_i hne; simp only [AV.nm,Option.some.injEq] at h ⊢; subst h; exact ⟨rfl,hne⟩
 | ot i s a =>
  simp only [pA] at h
  split at h
  ·cases h
  ·rename_i hne; simp only [AV.nm,Option.some.injEq] at h ⊢; subst h; exact ⟨rfl,hne⟩
theorem pA_rep {id:Nat} {a:AV} {v:Value} (r:ARep β hF a v):ARep β hF (pA id a) v:=by
 cases r with
 | hid v=>exact .hid v
 | fz r=>exact .fz r
 | os j =>
  simp only [pA]; split
  ·exact .hid _
  ·exact .os j
 | oe hb =>
  simp only [pA]; split
  ·exact .hid _
  ·exact .oe hb
 | ot hb hi =>
  simp only [pA]; split
  ·exact .hid _
  ·exact .ot hb hi
theorem pC_eq (id:Nat):∀ cs:List AV,pC id cs = cs.map (pA id)
 | []=>rfl
 | a :: r=>by simp [pC,pC_eq id r]
theorem pS_eq (id:Nat):∀ σ:AS,pS id σ = σ.map fun e=>(e.1,pO id e.2)
 | []=>rfl
 | a :: r=>by simp [pS,pS_eq id r]
theorem pT_eq (id:Nat):∀ σ:AT,pT id σ = σ.map fun e=>(e.1,pA id e.2)
 | []=>rfl
 | a :: r=>by simp [pT,pT_eq id r]
theorem pL_eq (id:Nat):∀ σ:AL,pL id σ = σ.map fun e=>(e.1,e.2.1,pA id e.2.2)
 | []=>rfl
 | a :: r=>by simp [pL,pL_eq id r]
theorem AReps.pC {id:Nat} {cs:List AV} {vs:List Value} (r:AReps β hF cs vs):AReps β hF (pC id cs) vs:=by
 rw [pC_eq]
 refine ⟨by simp [r.1],fun j c v a b=>?_⟩
 rw [List.getElem?_map] at a
 cases e:cs[j]? with
 | none=>rw [e] at a; cases a
 | some x=>rw [e] at a; cases a; exact pA_rep (r.2 j x v e b)
theorem OOk.pO {id j:Nat} {x:OO} (k:OOk β hF h j x):OOk β hF h j (pO id x):=by
 cases x with
 | box t cells=>obtain ⟨b,vs,h1,h2,h3⟩:=k; exact ⟨b,vs,h1,h2,h3.pC⟩
 | ext D Φ=>exact k
 | rows t sz rows=>exact k
theorem pO_nm {id:Nat} {x:OO} {c:AV} (hc:c ∈ (pO id x).cells) {j:Nat} (hj:c.nm = some j):j ≠ id:=by
 cases x with
 | box t cells =>
  simp only [Ab.pO,OO.cells,pC_eq,List.mem_map] at hc
  obtain ⟨a,_,rfl⟩:=hc
  exact (pA_nm hj).2
 | ext D Φ=>cases hc
 | rows t sz rows=>cases hc
theorem pO_fp (id:Nat) (x:OO) (v:Value) (b:Nat):fpOf v (pO id x) b ↔ fpOf v x b:=by cases x <;> exact Iff.rfl
theorem Ok.app (k:Ok h0 β hF h σ) {id:Nat} {x:OO} (hl:lookS σ id = some x) (px:plain x = true) (h1000:id < 1000) {v':Value} (same:∀ b ob,h b = some ob → baseOf (β id) ≠ some b → h' b = some ob) (hv:∀ b,baseOf v' = some b → baseOf (β id) = some b ∨ h b = none) {x':OO} (px':plain x' = true) (hx:OOk (upd β id v') hF h' id x') :
  Ok h0 (upd β id v') hF h' (setS (pS id σ) id x'):=by
 have hm:=lookS_mem hl
 have hu:∀ j,j ≠ id → upd β id v' j = β j:=fun j e=>by simp [upd,e]
 have hud:upd β id v' id = v':=by simp [upd]
 have hkeys:(pS id σ).map (·.1) = σ.map (·.1):=by rw [pS_eq,List.map_map]; rfl
 have hin:∀ e ∈ setS (pS id σ) id x',e = (id,x') ∨ ∃ y,(e.1,y) ∈ σ ∧ e.2 = pO id y ∧ e.1 ≠ id:=fun e he=>by
  rcases setS_mem (by rw [hkeys]; exact k.nd) e he with h1 | ⟨h1,h2⟩
  ·exact .inl h1
  ·rw [pS_eq] at h1
   obtain ⟨y,hy,rfl⟩:=List.mem_map.1 h1
   exact .inr ⟨y.2,hy,rfl,h2⟩
 have fx:∀ b,baseOf (β id) = some b → fpOf (β id) x b:=fun b h=>(plain_fp px _ _).2 h
 have fx':∀ b,fpOf v' x' b → baseOf v' = some b:=fun b h=>(plain_fp px' _ _).1 h
 refine ⟨k.le0,fun q ob e=>same q ob (k.le q ob e) (fun e1=>by rw [k.out _ hm q (fx q e1)] at e; cases e),fun e he=>?_,fun e he b e1=>?_,fun e he e' he' b hne e1=>?_,fun j hj=>by rw [hu j (by omega)]; exact k.fix j hj,by rw [setS_keys,hkeys]; exact k.nd⟩
 ·rcases hin e he with rfl | ⟨y,hy,h2,hne⟩
  ·exact hx
  ·rw [h2]
   refine (OOk.pO (k.ok _ hy)).fr (Heap.le_refl _) (fun b e1=>?_) (hu _ hne) (fun c hc j hj=>hu _ (pO_nm hc hj))
   have e1:=(pO_fp id y _ b).1 e1
   obtain ⟨ob,h1⟩:=(k.ok _ hy).blk e1
   rw [h1,same b ob h1 fun e2=>k.sep _ hy _ hm b hne e1 (fx b e2)]
 ·rcases hin e he with rfl | ⟨y,hy,h2,hne⟩
  ·simp only [hud] at e1
   rcases hv b (fx' b e1) with h3 | h3
   ·exact k.out _ hm b (fx b h3)
   ·exact k.fnone h3
  ·rw [hu _ hne,h2] at e1; exact k.out _ hy b ((pO_fp id y _ b).1 e1)
 ·rcases hin e he with rfl | ⟨y,hy,h2,hn1⟩ <;> rcases hin e' he' with rfl | ⟨y',hy',h2',hn2⟩
  ·exact absurd rfl hne
  ·simp only [hud] at e1
   rw [hu _ hn2,h2']
   intro e2
   have e2:=(pO_fp id y' _ b).1 e2
   rcases hv b (fx' b e1) with h3 | h3
   ·exact k.sep _ hm _ hy' b (Ne.symm hn2) (fx b h3) e2
   ·exact k.ne h3 hy' e2 rfl
  ·rw [hu _ hn1,h2] at e1
   have e1:=(pO_fp id y _ b).1 e1
   simp only [hud]
   intro e2
   rcases hv b (fx' b e2) with h3 | h3
   ·exact k.sep _ hy _ hm b hn1 e1 (fx b h3)
   ·exact k.ne h3 hy e1 rfl
  ·rw [hu _ hn1,h2] at e1
   have e1:=(pO_fp id y _ b).1 e1
   rw [hu _ hn2,h2']
   exact fun e2=>k.sep _ hy _ hy' b hne e1 ((pO_fp id y' _ b).1 e2)
end
end Go.Proofs.YtihdpjinaafenaaGreatDoor.Ab

/- What acts: the theorem. -/
namespace Go.Proofs.YtihdpjinaafenaaGreatDoor.Ab
open Go.Proofs.YtihdpjinaafenaaGreatDoor.Sl
theorem fill_seqG (sz:Nat):∀ (vs:List Value) (pre post:List Value) (k:Nat),pre.length = k * sz → post.length = vs.length * sz → (∀ v ∈ vs,v.cells.size = sz) →
  Instr.fill (fun j=>some (j * sz,sz)) (pre ++ post).toArray ((vs.zipIdx k).map fun x=>(x.2,x.1)) = some (pre ++ vs.flatMap (·.cells.toList)).toArray
 | [],pre,post,k,hk,hl,_=>by
  have:post = []:=List.eq_nil_of_length_eq_zero (by simpa using hl)
  subst this
  simp [Instr.fill]
 | v :: vs,pre,post,k,hk,hl,hv=>by
  have hv0:=hv v (by simp)
  rw [List.zipIdx_cons,List.map_cons]
  unfold Instr.fill
  simp only
  rw [List.length_cons,Nat.succ_mul] at hl
  have h2:(decide (v.cells.size ≠ sz) || decide (k * sz + v.cells.size > (pre ++ post).toArray.size)) = false:=by
   rw [hv0]; simp only [Bool.or_eq_false_iff,decide_eq_false_iff_not,List.size_toArray,List.length_append]
   refine ⟨by simp,?_⟩
   show ¬ (k * sz + sz > _); omega
  rw [h2]
  simp only [Bool.false_eq_true,if_false]
  rw [fill_at (by rw [hv0]; simp; omega)]
  have h3:(pre ++ post).toArray.toList.take (k * sz) ++ v.cells.toList ++ (pre ++ post).toArray.toList.drop (k * sz + v.cells.size) = (pre ++ v.cells.toList) ++ post.drop sz:=by
   show (pre ++ post).take (k * sz) ++ v.cells.toList ++ (pre ++ post).drop (k * sz + v.cells.size) = _
   rw [← hk,hv0,List.take_left,← List.drop_drop,List.drop_left]
  rw [h3]
  have ih:=fill_seqG sz vs (pre ++ v.cells.toList) (post.drop sz) (k + 1) (by rw [List.length_append,hk,Array.length_toList,hv0,Nat.succ_mul]) (by rw [List.length_drop]; omega) (fun u hu=>hv u (by simp [hu]))
  rw [ih]; simp
theorem a_buildSliceG {P:Program} {o:Oper} {ρ:Operand → Value} {t e n sz:Nat} {parts:Array (Nat × Operand)} {vs:List Value} (ho:o.op = .buildSlice t n parts) (hu:P.underlying t = some (.slice e)) (hi:infoOk P e sz = true)
  (hv:(parts.map fun (i,x)=>(i,ρ x)).toList = (vs.zipIdx 0).map fun x=>(x.2,x.1)) (hn:vs.length = n) (hone:∀ v ∈ vs,v.cells.size = sz) (h0:0 < n) (hs0:0 < sz) (h1:n * sz ≤ 65536):AllocOp P o ρ (.cells (vs.flatMap (·.cells.toList)).toArray e) (fun b=>.slice (some ⟨b,0,none⟩) n n):=by
 obtain ⟨i,z,hi,hz,hs,hz1,hb⟩:=infoOk_spec hi
 have hcell:P.cellsOf e = sz:=by simp [Program.cellsOf,hi,hs]
 refine a_buildSlice (cells:=(vs.flatMap (·.cells.toList)).toArray) ho hu ?_ (by rw [hcell]; omega) (by rw [hcell]; exact Nat.ne_of_gt (Nat.mul_pos h0 hs0))
 unfold sliceLit
 simp only [hi,hz,hs]
 rw [hv]
 have:=fill_seqG sz vs [] ((Array.range (n * sz)).map (fun j=>z.cells[j % z.cells.size]!)).toList 0 (by simp) (by simp [hn]) hone
 simp only [List.nil_append,Array.toArray_toList] at this
 exact this
theorem take_splice {α:Type} (A us:List α) (a N:Nat) (h1:a + us.length ≤ N) (h2:a ≤ A.length):(A.take a ++ us ++ A.drop (a + us.length)).take N = (A.take N).take a ++ us ++ (A.take N).drop (a + us.length):=by
 have hx:(A.take a ++ us).length = a + us.length:=by rw [List.length_append,List.length_take,Nat.min_eq_left h2]
 rw [List.take_append,List.take_of_length_le (by rw [hx]; exact h1),hx,List.take_take,Nat.min_eq_left (by omega),List.drop_take]
theorem own_splice {h:Heap} {e:TypeId} {sz n:Nat} {v:Value} {cs:List Value} (x:Own h e sz v n cs) {i p k:Nat} (hi:i < n) (hp:p + k ≤ sz) :
  ∃ b c full,v = .slice (some ⟨b,0,none⟩) n c ∧ h b = some (.cells full e (0,0)) ∧ i * sz + p + k ≤ full.size ∧
   ∀ us:List Value,us.length = k → Own (h.set b (.cells (splice full (i * sz + p) us) e (0,0))) e sz v n (cs.take (i * sz + p) ++ us ++ cs.drop (i * sz + p + k)):=by
 cases x with
 | nil=>omega
 | @at_ b n c full cs hb hl hnc hcap hc =>
  have h1:(i + 1) * sz ≤ n * sz:=Nat.mul_le_mul_right _ hi
  rw [Nat.succ_mul] at h1
  have h2:n * sz ≤ c * sz:=Nat.mul_le_mul_right _ hnc
  refine ⟨b,c,full,rfl,hb,by omega,fun us hus=>.at_ (Heap.set_same _ _ _) ?_ hnc ?_ ?_⟩
  ·simp [hl,hus]; omega
  ·simp [splice,hus]; omega
  ·subst hus
   rw [← hc]
   unfold splice
   exact take_splice full.toList us (i * sz + p) (n * sz) (by omega) (by rw [Array.length_toList]; omega)
theorem splice_one (cs:Array Value) (i:Nat) (v:Value) (h:i < cs.size):splice cs i [v] = cs.setIfInBounds i v:=by
 unfold splice
 apply Array.ext'
 simp only [Array.toList_setIfInBounds,List.length_singleton]
 rw [List.set_eq_take_append_cons_drop]
 simp [h]
theorem flat_set {α:Type} {sz:Nat}:∀ {rows:List (List α)},(∀ r ∈ rows,r.length = sz) → ∀ (i:Nat),i < rows.length → ∀ (r':List α),r'.length = sz → (rows.set i r').flatten = rows.flatten.take (i * sz) ++ r' ++ rows.flatten.drop (i * sz + sz)
 | [],_,i,hi,_,_=>by simp at hi
 | r :: rows,h,0,hi,r',hr=>by
  have h1:=h r (by simp)
  rw [List.set_cons_zero,List.flatten_cons,List.flatten_cons,Nat.zero_mul,List.take_zero,List.nil_append,Nat.zero_add,← h1,List.drop_left]
 | r :: rows,h,i + 1,hi,r',hr=>by
  have h1:=h r (by simp)
  have ih:=flat_set (rows:=rows) (fun x hx=>h x (by simp [hx])) i (by simpa using hi) r' hr
  rw [List.set_cons_succ,List.flatten_cons,ih,List.flatten_cons,Nat.succ_mul,show i * sz + sz = sz + i * sz by omega]
  have e1:(r ++ rows.flatten).take (sz + i * sz) = r ++ rows.flatten.take (i * sz):=by rw [← h1,List.take_length_add_append]
  have e2:(r ++ rows.flatten).drop (sz + i * sz + sz) = rows.flatten.drop (sz + i * sz):=by rw [show sz + i * sz + sz = r.length + (sz + i * sz) by omega,List.drop_length_add_append]
  rw [e1,e2]; simp only [List.append_assoc]
theorem set_eq_splice {α:Type} (l:List α) (p:Nat) (y:α) (h:p < l.length):l.set p y = l.take p ++ [y] ++ l.drop (p + 1):=by
 rw [List.set_eq_take_append_cons_drop,if_pos h]; simp
def AcOk (h0:Gd) (β:Nat → Value) (hF h:Heap) (σ:AS) (ra:RA) (v:Value) (h':Heap):Prop :=
 ∃ β' hF',Ok h0 β' hF' h' ra.σ ∧ hF.le hF' ∧ (∀ id,ra.nw ≠ some id → ra.pg ≠ some id → β' id = β id) ∧ ARep β' hF' ra.v v ∧ ∀ e ∈ σ,ra.md ≠ some e.1 → ∀ b,fpOf (β e.1) e.2 b → h' b = h b
section
variable {P : Program} {h0 : Gd} {β : Nat → Value} {hF h : Heap} {Tc : Tm} {T : AT} {L : AL} {σ : AS} {o : Oper} {ra : RA}
theorem opd_nm {d:Nat} {ch:List (Nat × Bool)} {x:Operand} {av:AV} (hn:okNew d T L σ = true) (e:opd L T ch x = some av):av.nm ≠ some d:=by
 simp only [okNew,Bool.and_eq_true] at hn
 replace hn:=hn.1
 cases x with
 | tmp t =>
  simp only [opd] at e
  split at e
  ·rename_i g y hy
   split at e
   ·cases e
    unfold lookV at hy
    split at hy
    ·rename_i z hz
     cases hy
     exact nmL_spec hn.1.2 _ (lookL_mem hz)
    ·split at hy
     ·rename_i z hz
      cases hy
      exact nmT_spec hn.1.1 _ (lookT_mem hz)
     ·cases hy
   ·cases e
  ·cases e
 | const v=>cases e; simp [AV.nm]
 | global g=>cases e; simp [AV.nm]
 | func f=>cases e; simp [AV.nm]
theorem ac_new {obj:Obj} {vf:Nat → Value} {v:AV} (s:Ok h0 β hF h σ) (p:AllocOp P o (ev Tc) obj vf) (hv:∀ b,h b = none → ARep β (hF.set b obj) v (vf b)) (hra:ra = ⟨ra.ob,v,σ,none,none,none⟩):SOp P o (ev Tc) h (AcOk h0 β hF h σ ra):=by
 refine p.sop fun b hb=>?_
 obtain ⟨k,l⟩:=s.newF hb obj
 rw [hra]
 exact ⟨β,_,k,l,fun _ _ _=>rfl,hv b hb,fun e he _ b' e1=>Heap.set_other _ _ (s.ne hb he e1)⟩
theorem ac_obj {obj:Obj} {vf:Nat → Value} {v:AV} {d:Nat} {x:OO} (s:Ok h0 β hF h σ) (hd:okNew d T L σ = true) (p:AllocOp P o (ev Tc) obj vf) (px:plain x = true) (hb0:∀ b,baseOf (vf b) = some b) (hx:∀ b,h b = none → OOk (upd β d (vf b)) hF (h.set b obj) d x) (hv:∀ b,ARep (upd β d (vf b)) hF v (vf b))
  (hra:ra = ⟨ra.ob,v,(d,x) :: σ,none,some d,none⟩):SOp P o (ev Tc) h (AcOk h0 β hF h σ ra):=by
 simp only [okNew,Bool.and_eq_true] at hd
 have h1000:d < 1000:=of_decide_eq_true hd.2
 replace hd:=hd.1
 refine p.sop fun b hb=>?_
 rw [hra]
 refine ⟨upd β d (vf b),hF,s.newO hd.2 (fun b' ob e=>(Heap.set_old hb e)) (fun b' e=>?_) h1000 (hx b hb),Heap.le_refl _,fun id e _=>?_,hv b,fun e he _ b' e1=>Heap.set_other _ _ (s.ne hb he e1)⟩
 ·have e:=(plain_fp px _ _).1 e
  rw [hb0 b] at e; cases e; exact hb
 ·have:id ≠ d:=fun e2=>e (by rw [e2])
  simp [upd,this]
theorem zeroIs_V {t:TypeId} {zs:List Value} (h:zeroIs P t zs = true):∃ z,zeroV P t = some z ∧ z.cells = zs.toArray:=by
 have h1:=zeroIs_eq h
 unfold zeroOf at h1
 unfold zeroV
 cases hz:(P.info? t).bind (·.zero) with
 | none=>rw [hz] at h1; cases h1
 | some z=>rw [hz] at h1; simp only [Option.map_some,Option.some.injEq] at h1; exact ⟨z,rfl,h1⟩
end
end Go.Proofs.YtihdpjinaafenaaGreatDoor.Ab

/- What acts: the theorem. -/
namespace Go.Proofs.YtihdpjinaafenaaGreatDoor.Ab
open Go.Proofs.YtihdpjinaafenaaGreatDoor.Sl
section
variable {P : Program} {h0 : Gd} {β : Nat → Value} {hF h : Heap} {Tc : Tm} {T : AT} {L : AL} {σ : AS} {o : Oper} {ra : RA}
theorem areps1 {β:Nat → Value} {hF:Heap} {a:AV} {v:Value} (r:ARep β hF a v):AReps β hF [a] [v]:=⟨rfl,fun j c u e1 e2=>by
 cases j with
 | zero=>cases e1; cases e2; exact r
 | succ j=>simp at e1⟩
theorem AReps.set {cs:List AV} {vs:List Value} (r:AReps β hF cs vs) {p:Nat} {a:AV} {v:Value} (ra:ARep β hF a v):AReps β hF (cs.set p a) (vs.set p v) :=
 ⟨by simp [r.1],fun j c u e1 e2=>by
  by_cases hj:p = j
  ·subst hj
   rw [List.getElem?_set] at e1 e2
   simp only [if_true] at e1 e2
   split at e1
   ·split at e2
    ·cases e1; cases e2; exact ra
    ·cases e2
   ·cases e1
  ·rw [List.getElem?_set_ne hj] at e1 e2
   exact r.2 j c u e1 e2⟩
theorem AReps.appA {a b:List AV} {x y:List Value} (r:AReps β hF a x) (q:AReps β hF b y):AReps β hF (a ++ b) (x ++ y) :=
 ⟨by simp [r.1,q.1],fun j c v e1 e2=>by
  rcases Nat.lt_or_ge j a.length with hj | hj
  ·rw [List.getElem?_append_left hj] at e1
   rw [List.getElem?_append_left (by rw [r.1]; exact hj)] at e2
   exact r.2 j c v e1 e2
  ·rw [List.getElem?_append_right hj] at e1
   rw [List.getElem?_append_right (by rw [r.1]; exact hj),r.1] at e2
   exact q.2 _ c v e1 e2⟩
theorem AReps.takeA {cs:List AV} {vs:List Value} (r:AReps β hF cs vs) (n:Nat):AReps β hF (cs.take n) (vs.take n) :=
 ⟨by simp [r.1],fun j c v a b=>by
  rw [List.getElem?_take] at a b
  split at a
  ·rename_i hj; rw [if_pos hj] at b; exact r.2 _ c v a b
  ·cases a⟩
theorem AReps.dropA {cs:List AV} {vs:List Value} (r:AReps β hF cs vs) (n:Nat):AReps β hF (cs.drop n) (vs.drop n) :=
 ⟨by simp [r.1],fun j c v a b=>by rw [List.getElem?_drop] at a b; exact r.2 _ c v a b⟩
theorem FReps.takeF {cs:List FV} {vs:List Value} (r:FReps hF cs vs) (n:Nat):FReps hF (cs.take n) (vs.take n):=by
 have:=FReps.take r 0 n
 simpa using this
theorem FReps.dropF {cs:List FV} {vs:List Value} (r:FReps hF cs vs) (n:Nat):FReps hF (cs.drop n) (vs.drop n):=by
 have:=FReps.take r n cs.length
 rwa [List.take_of_length_le (by simp),List.take_of_length_le (by simp [r.1])] at this
theorem FReps.one1 {cs:List FV} {vs:List Value} (r:FReps hF cs vs) (h1:cs.all FV.one = true):∀ v ∈ vs,v.oneCell' = true:=fun v hv=>by
 obtain ⟨j,hj,rfl⟩:=List.mem_iff_getElem.1 hv
 have hc:j < cs.length:=by rw [← r.1]; exact hj
 exact (r.2 j _ _ (List.getElem?_eq_getElem hc) (List.getElem?_eq_getElem hj)).one (List.all_eq_true.1 h1 _ (List.getElem_mem hc))
theorem box_put (s:Ok h0 β hF h σ) {id:Nat} {t:TypeId} {cells:List AV} (hl:lookS σ id = some (.box t cells)) {b:Nat} (hb:baseOf (β id) = some b) :
  ∃ vs:List Value,h b = some (.cells vs.toArray t (0,0)) ∧ vs.length = cells.length ∧ ∀ (cs':List AV) (vs':List Value),AReps β hF cs' vs' → (AReps β hF cells vs → AReps β hF cs' vs') → Ok h0 β hF (h.set b (.cells vs'.toArray t (0,0))) (setS σ id (.box t cs')):=by
 obtain ⟨b',vs,h1,h2,h3⟩:=s.ok _ (lookS_mem hl)
 have hbb:b' = b:=by simp only [h1,baseOf,Option.some.injEq] at hb; exact hb
 subst hbb
 exact ⟨vs,h2,h3.1,fun cs' vs' r _=>s.put hl rfl hb rfl ⟨b',vs',h1,Heap.set_same _ _ _,r⟩⟩
theorem box_rep (s:Ok h0 β hF h σ) {id:Nat} {t:TypeId} {cells:List AV} (hl:lookS σ id = some (.box t cells)) {b:Nat} (hb:baseOf (β id) = some b) {vs:List Value} (hh:h b = some (.cells vs.toArray t (0,0))):AReps β hF cells vs:=by
 obtain ⟨b',vs',h1,h2,h3⟩:=s.ok _ (lookS_mem hl)
 have hbb:b' = b:=by simp only [h1,baseOf,Option.some.injEq] at hb; exact hb
 subst hbb
 rw [h2] at hh
 simp only [Option.some.injEq,Obj.cells.injEq,and_true] at hh
 have:vs' = vs:=by simpa using hh
 rw [← this]; exact h3
theorem rows_put (s:Ok h0 β hF h σ) {id sz:Nat} {t:TypeId} {rows:List (List FV)} (hl:lookS σ id = some (.rows t sz rows)) {b:Nat} (hb:baseOf (β id) = some b) {i p k:Nat} (hi:i < rows.length) (hp:p + k ≤ sz) :
  ∃ full,h b = some (.cells full t (0,0)) ∧ i * sz + p + k ≤ full.size ∧ ∀ (ys:List FV) (us:List Value),ys.length = k → FReps hF ys us → ys.all FV.one = true →
   Ok h0 β hF (h.set b (.cells (splice full (i * sz + p) us) t (0,0))) (setS σ id (.rows t sz (rows.set i ((rows.getD i []).take p ++ ys ++ (rows.getD i []).drop (p + k))))):=by
 obtain ⟨vs,own,hlen,hone,reps⟩:=s.ok _ (lookS_mem hl)
 obtain ⟨b',c,full,hv,hh,hcap,hset⟩:=own_splice own hi hp
 have hbb:b' = b:=by simp only at hv; simp only [hv,baseOf,Option.some.injEq] at hb; exact hb
 subst hbb
 have hrow:rows.getD i [] = rows[i]:=by rw [List.getD_eq_getElem?_getD,List.getElem?_eq_getElem hi]; rfl
 have hrl:(rows.getD i []).length = sz:=by rw [hrow]; exact hlen _ (List.getElem_mem hi)
 refine ⟨full,hh,hcap,fun ys us hk r h1=>s.put hl rfl hb rfl ⟨vs.take (i * sz + p) ++ us ++ vs.drop (i * sz + p + k),?_,?_,?_,?_⟩⟩
 ·rw [List.length_set]; exact hset us (by rw [r.1,hk])
 ·intro r' hr'
  rcases List.mem_or_eq_of_mem_set hr' with h2 | h2
  ·exact hlen _ h2
  ·rw [h2]; simp only [List.length_append,List.length_take,List.length_drop,hrl,hk]; omega
 ·intro r' hr'
  rcases List.mem_or_eq_of_mem_set hr' with h2 | h2
  ·exact hone _ h2
  ·have h3:=hone _ (List.getElem_mem hi)
   rw [h2,hrow]
   simp only [List.all_append,Bool.and_eq_true,List.all_eq_true] at h1 h3 ⊢
   exact ⟨⟨fun x hx=>h3 x (List.mem_of_mem_take hx),h1⟩,fun x hx=>h3 x (List.mem_of_mem_drop hx)⟩
 ·have hflat:=flat_set hlen i hi ((rows.getD i []).take p ++ ys ++ (rows.getD i []).drop (p + k)) (by simp only [List.length_append,List.length_take,List.length_drop,hrl,hk]; omega)
  rw [hflat]
  have hf:rows.flatten.length = rows.length * sz:=flat_len hlen
  have h5:(i + 1) * sz ≤ rows.length * sz:=Nat.mul_le_mul_right _ hi
  rw [Nat.succ_mul] at h5
  have e1:rows.flatten.take (i * sz) ++ ((rows.getD i []).take p ++ ys ++ (rows.getD i []).drop (p + k)) ++ rows.flatten.drop (i * sz + sz) = rows.flatten.take (i * sz + p) ++ ys ++ rows.flatten.drop (i * sz + p + k):=by
   have hg:∀ j,j < sz → rows.flatten[i * sz + j]? = (rows.getD i [])[j]?:=fun j hj=>by
    rw [flat_get hlen i j hj,hrow,List.getElem?_eq_getElem hi]; rfl
   have hd:(rows.flatten.drop (i * sz)).take sz = rows.getD i []:=by
    apply List.ext_getElem?
    intro j
    by_cases hj:j < sz
    ·rw [List.getElem?_take_of_lt hj,List.getElem?_drop,hg j hj]
    ·rw [List.getElem?_eq_none (by simp; omega),List.getElem?_eq_none (by omega)]
   have h6:rows.flatten.take (i * sz + p) = rows.flatten.take (i * sz) ++ (rows.getD i []).take p:=by
    rw [List.take_add,← hd,List.take_take,Nat.min_eq_left (by omega)]
   have h7:rows.flatten.drop (i * sz + p + k) = (rows.getD i []).drop (p + k) ++ rows.flatten.drop (i * sz + sz):=by
    rw [← hd,List.drop_take,List.drop_drop,← Nat.add_assoc]
    have h8:rows.flatten.drop (i * sz + sz) = (rows.flatten.drop (i * sz + p + k)).drop (sz - (p + k)):=by rw [List.drop_drop]; congr 1; omega
    rw [h8,List.take_append_drop]
   rw [h6,h7]; simp only [List.append_assoc]
  rw [e1]
  exact ((reps.takeF _).app r).app (reps.dropF _)
theorem srcRows_ok (s:Sem h0 β hF h Tc T L σ) {ch:List (Nat × Bool)} (hch:∀ x ∈ ch,Tc x.1 = .bool x.2) {y:Operand} {sz:Nat} {q:Prop} {news:List (List FV)} (e:srcRows σ sz (opd L T ch y) = some (q,news)) (hq:q) :
  (∀ r ∈ news,r.length = sz) ∧ ∃ ws,Cells h sz (ev Tc y) news.length ws ∧ FReps hF news.flatten ws:=by
 unfold srcRows at e
 split at e
 ·rename_i x hx
  split at e
  ·rename_i n f hy
   cases e
   have hv:=fz_fz (opd_ok s hch hx)
   have hl:∀ r ∈ rowsOf n f,r.length = sz:=fun r hr=>by
    obtain ⟨i,hi,rfl⟩:=List.mem_map.1 hr
    exact hq i (List.mem_range.1 hi)
   refine ⟨hl,?_⟩
   have hnl:(rowsOf n f).length = n:=by simp [rowsOf]
   unfold asSl at hy
   split at hy
   case h_3=>cases hy
   case h_2 =>
    cases hy
    have hvv:=fz_val (opd_ok s hch hx)
    rw [hvv]
    exact ⟨[],.zero _ _,FReps.nil _⟩
   cases hy
   generalize ev Tc y = v at hv
   cases hv with
   | sl0 f a c=>exact ⟨[],.zero _ _,FReps.nil _⟩
   | @sl n f b off c sz' full ty fz hb hnc hsz h1' hs' hr =>
    by_cases hn0:n = 0
    ·subst hn0; exact ⟨[],.zero _ _,FReps.nil _⟩
    have hss:sz' = sz:=by rw [← hsz 0 (by omega)]; exact hq 0 (by omega)
    subst hss
    have hlen:((full.toList.drop off).take (n * sz')).length = n * sz':=by simp; omega
    refine ⟨(full.toList.drop off).take (n * sz'),by rw [hnl]; exact .at_ (s.ok.le _ _ hb) hlen hnc rfl,?_,?_⟩
    ·rw [hlen,flat_len hl,hnl]
    ·intro j c' v e1 e2
     have hj:j < n * sz':=by have:=(List.getElem?_eq_some_iff.1 e2).1; omega
     have hs0:0 < sz':=Nat.pos_of_ne_zero fun e3=>by subst e3; simp at hj
     have hj2:j / sz' < n:=(Nat.div_lt_iff_lt_mul hs0).2 hj
     have hj3:j % sz' < sz':=Nat.mod_lt _ hs0
     have hj4:j / sz' * sz' + j % sz' = j:=by rw [Nat.mul_comm]; exact Nat.div_add_mod j sz'
     rw [← hj4,flat_get hl _ _ hj3] at e1
     have hrow:(rowsOf n f)[j / sz']? = some (f (j / sz')):=by simp [rowsOf,hj2]
     rw [hrow] at e1
     refine hr (j / sz') (j % sz') c' v hj2 e1 ?_
     rw [List.getElem?_take_of_lt hj,List.getElem?_drop,Array.getElem?_toList] at e2
     rw [← e2]; congr 1; omega
  ·cases e
 ·rename_i id hx
  split at e
  ·rename_i t sz' rows hσ
   split at e
   ·rename_i hsz
    subst hsz
    cases e
    obtain ⟨vs,own,hlen,hone,reps⟩:=s.ok.ok _ (lookS_mem hσ)
    have hv:=opd_ok s hch hx
    generalize ev Tc y = v at hv
    cases hv
    exact ⟨hlen,vs,own.cells,reps⟩
   ·cases e
  ·cases e
 ·cases e
theorem blk_base {e:TypeId} {sz n:Nat} {v:Value} {cs:List Value} (x:Own h e sz v n cs):blockOf v = baseOf v:=by cases x <;> rfl
theorem rowsP_ok {o:Operand → Option AV} (ho:∀ x av,o x = some av → ARep β hF av (ev Tc x)):∀ {l:List (Nat × Operand)} {rows:List (List FV)},rowsP o l = some rows →
  rows.length = l.length ∧ FReps hF rows.flatten (l.flatMap fun p=>(ev Tc p.2).cells.toList) ∧ ∀ (i:Nat) (r:List FV) (p:Nat × Operand),rows[i]? = some r → l[i]? = some p → FReps hF r (ev Tc p.2).cells.toList
 | [],rows,e=>by cases e; exact ⟨rfl,FReps.nil _,fun i r p h=>by simp at h⟩
 | (i,x) :: l,rows,e=>by
  unfold rowsP at e
  split at e
  ·rename_i y hy
   split at e
   ·rename_i ys hys
    cases e
    obtain ⟨h1,h2,h3⟩:=rowsP_ok ho hys
    have r:=cells_ok (fz_fz (ho x _ hy))
    refine ⟨by simp [h1],?_,fun j r' p e1 e2=>?_⟩
    ·rw [List.flatten_cons,List.flatMap_cons]; exact r.app h2
    ·cases j with
     | zero=>cases e1; cases e2; exact r
     | succ j=>exact h3 j r' p (by simpa using e1) (by simpa using e2)
   ·cases e
  ·cases e
end
end Go.Proofs.YtihdpjinaafenaaGreatDoor.Ab
