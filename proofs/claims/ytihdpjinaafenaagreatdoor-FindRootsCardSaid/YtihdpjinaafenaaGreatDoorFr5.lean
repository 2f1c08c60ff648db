import Derived.Test.YtihdpjinaafenaaGreatDoorFr4
noncomputable section
/- Values told without memory: frozen values (what they point to stays), objects of the function's own by their names; how these stand to slots and heap. -/
set_option linter.unusedVariables false
set_option linter.unusedSimpArgs false
namespace Go.Proofs.YtihdpjinaafenaaGreatDoor.Ab
open Go.Proofs.YtihdpjinaafenaaGreatDoor.Sl
inductive FV where
 | val (v:Value)
 | agg (cs:List FV)
 | sl (n:Nat) (f:Nat → List FV)
 | fp (cs:List FV)
 | tup (cs:List FV)
 | ifc (t:TypeId) (x:FV)
 | fn (f:FuncId) (first cap:List FV)
 | mp (kd:IntKind) (l:List (Int × Value))
def FV.one:FV → Bool
 | .val v=>v.oneCell'
 | .agg _ | .tup _=>false
 | _=>true
inductive FRep (h:Heap):FV → Value → Prop where
 | val (v:Value):FRep h (.val v) v
 | agg {cs:List FV} {vs:List Value} (hl:vs.length = cs.length) (hr:∀ (j:Nat) (c:FV) (v:Value),cs[j]? = some c → vs[j]? = some v → FRep h c v):FRep h (.agg cs) (.agg vs.toArray)
 | sl0 (f:Nat → List FV) (a:Option Addr) (c:Nat):FRep h (.sl 0 f) (.slice a 0 c)
 | sl {n:Nat} {f:Nat → List FV} {b off c sz:Nat} {full:Array Value} {e:TypeId} {fz:Nat × Nat} (hb:h b = some (.cells full e fz)) (hnc:n ≤ c) (hsz:∀ i,i < n → (f i).length = sz) (h1:∀ i,i < n → (f i).all FV.one = true) (hs:off + n * sz ≤ full.size)
   (hr:∀ (i j:Nat) (c:FV) (v:Value),i < n → (f i)[j]? = some c → full[off + i * sz + j]? = some v → FRep h c v):FRep h (.sl n f) (.slice (some ⟨b,off,none⟩) n c)
 | fp {cs:List FV} {b off:Nat} {full:Array Value} {e:TypeId} {fz:Nat × Nat} (hb:h b = some (.cells full e fz)) (hs:off + cs.length ≤ full.size)
   (hr:∀ (j:Nat) (c:FV) (v:Value),cs[j]? = some c → full[off + j]? = some v → FRep h c v):FRep h (.fp cs) (.pointer (some ⟨b,off,none⟩))
 | tup {cs:List FV} {vs:List Value} (hl:vs.length = cs.length) (hr:∀ (j:Nat) (c:FV) (v:Value),cs[j]? = some c → vs[j]? = some v → FRep h c v):FRep h (.tup cs) (.tuple vs.toArray)
 | ifc {t:TypeId} {x:FV} {v:Value} (hx:FRep h x v):FRep h (.ifc t x) (.iface t v)
 | fn {f:FuncId} {a b:List FV} {va vb:List Value} (hl:va.length = a.length) (hl2:vb.length = b.length) (hr:∀ (j:Nat) (c:FV) (v:Value),a[j]? = some c → va[j]? = some v → FRep h c v) (hr2:∀ (j:Nat) (c:FV) (v:Value),b[j]? = some c → vb[j]? = some v → FRep h c v) :
   FRep h (.fn f a b) (.func (.func f) va.toArray vb.toArray)
 | mp {kd:IntKind} {l:List (Int × Value)} {b:Nat} (hm:IsMap h b (fun x:Int=>Value.int kd x) l):FRep h (.mp kd l) (.map (some b))
theorem FRep.le {h h':Heap} (l:h.le h') {x:FV} {v:Value} (r:FRep h x v):FRep h' x v:=by
 induction r with
 | val v=>exact .val v
 | agg hl _ ih=>exact .agg hl ih
 | sl0 f a c=>exact .sl0 f a c
 | sl hb hnc hsz h1 hs _ ih=>exact .sl (l _ _ hb) hnc hsz h1 hs ih
 | fp hb hs _ ih=>exact .fp (l _ _ hb) hs ih
 | tup hl _ ih=>exact .tup hl ih
 | ifc _ ih=>exact .ifc ih
 | fn hl hl2 _ _ ih ih2=>exact .fn hl hl2 ih ih2
 | mp hm=>exact .mp (hm.le l)
theorem FRep.one {h:Heap} {x:FV} {v:Value} (r:FRep h x v) (h1:x.one = true):v.oneCell' = true:=by
 cases r <;> first | exact h1 | rfl | cases h1
def slOf {α:Type} [Inhabited α] (enc:α → List FV) (xs:List α):FV:=.sl xs.length fun i=>enc (xs.getD i default)
def slL (rows:List (List FV)):FV:=.sl rows.length fun i=>rows.getD i []
def asSl:FV → Option (Nat × (Nat → List FV))
 | .sl n f=>some (n,f)
 | .val (.slice none 0 0)=>some (0,fun _=>[])
 | _=>none
theorem asSl_of {α:Type} [Inhabited α] (enc:α → List FV) (xs:List α):asSl (slOf enc xs) = some (xs.length,fun i=>enc (xs.getD i default)):=rfl
theorem asSl_sl (n:Nat) (f:Nat → List FV):asSl (.sl n f) = some (n,f):=rfl
theorem asSl_nil:asSl (.val (.slice none 0 0)) = some (0,fun _=>[]):=rfl
theorem asSl_L (rows:List (List FV)):asSl (slL rows) = some (rows.length,fun i=>rows.getD i []):=rfl
def FReps (h:Heap) (cs:List FV) (vs:List Value):Prop:=vs.length = cs.length ∧ ∀ (j:Nat) (c:FV) (v:Value),cs[j]? = some c → vs[j]? = some v → FRep h c v
theorem FReps.le {h h':Heap} (l:h.le h') {cs:List FV} {vs:List Value} (r:FReps h cs vs):FReps h' cs vs:=⟨r.1,fun j c v a b=>(r.2 j c v a b).le l⟩
theorem FReps.nil (h:Heap):FReps h [] []:=⟨rfl,fun j c v a=>by simp at a⟩
theorem FReps.cons {h:Heap} {c:FV} {v:Value} {cs:List FV} {vs:List Value} (a:FRep h c v) (b:FReps h cs vs):FReps h (c :: cs) (v :: vs) :=
 ⟨by simp [b.1],fun j x y e1 e2=>by
  cases j with
  | zero=>simp only [List.getElem?_cons_zero,Option.some.injEq] at e1 e2; subst e1; subst e2; exact a
  | succ j=>exact b.2 j x y (by simpa using e1) (by simpa using e2)⟩
theorem FReps.uncons {h:Heap} {c:FV} {cs:List FV} {vs:List Value} (r:FReps h (c :: cs) vs):∃ v ws,vs = v :: ws ∧ FRep h c v ∧ FReps h cs ws:=by
 cases vs with
 | nil=>simp [FReps] at r
 | cons v ws=>exact ⟨v,ws,rfl,r.2 0 c v rfl rfl,by simpa using r.1,fun j x y e1 e2=>r.2 (j + 1) x y (by simpa using e1) (by simpa using e2)⟩
inductive AV where
 | hid
 | fz (x:FV)
 | os (id:Nat)
 | oe (id sz i off:Nat)
 | ot (id sz i:Nat)
def baseOf:Value → Option Nat
 | .pointer (some ⟨b,0,none⟩)=>some b
 | .slice (some ⟨b,0,none⟩) _ _=>some b
 | .map (some b)=>some b
 | _=>none
inductive ARep (β:Nat → Value) (h:Heap):AV → Value → Prop where
 | hid (v:Value):ARep β h .hid v
 | fz {x:FV} {v:Value} (r:FRep h x v):ARep β h (.fz x) v
 | os (id:Nat):ARep β h (.os id) (β id)
 | oe {id sz i off b:Nat} (hb:baseOf (β id) = some b):ARep β h (.oe id sz i off) (.pointer (some ⟨b,i * sz + off,none⟩))
 | ot {id sz i n c b:Nat} (hb:β id = .slice (some ⟨b,0,none⟩) n c) (hi:i ≤ n):ARep β h (.ot id sz i) (.slice (if c = i then some ⟨b,0,none⟩ else some ⟨b,i * sz,none⟩) (n - i) (c - i))
def AV.nm:AV → Option Nat
 | .hid | .fz _=>none
 | .os id=>some id
 | .oe id _ _ _=>some id
 | .ot id _ _=>some id
theorem ARep.to {β β':Nat → Value} {h h':Heap} {x:AV} {v:Value} (r:ARep β h x v) (l:h.le h') (e:∀ id,x.nm = some id → β' id = β id):ARep β' h' x v:=by
 cases r with
 | hid v=>exact .hid v
 | fz r=>exact .fz (r.le l)
 | os id=>rw [← e id rfl]; exact .os id
 | oe hb=>exact .oe (by rw [e _ rfl]; exact hb)
 | ot hb hi=>exact .ot (by rw [e _ rfl]; exact hb) hi
def AReps (β:Nat → Value) (h:Heap) (cs:List AV) (vs:List Value):Prop:=vs.length = cs.length ∧ ∀ (j:Nat) (c:AV) (v:Value),cs[j]? = some c → vs[j]? = some v → ARep β h c v
theorem AReps.to {β β':Nat → Value} {h h':Heap} {cs:List AV} {vs:List Value} (r:AReps β h cs vs) (l:h.le h') (e:∀ c ∈ cs,∀ id,c.nm = some id → β' id = β id):AReps β' h' cs vs :=
 ⟨r.1,fun j c v a b=>(r.2 j c v a b).to l (e c (List.mem_of_getElem? a))⟩
theorem AReps.fz {β:Nat → Value} {h:Heap} {cs:List FV} {vs:List Value} (r:FReps h cs vs):AReps β h (cs.map .fz) vs :=
 ⟨by rw [List.length_map]; exact r.1,fun j c v a b=>by
  rw [List.getElem?_map] at a
  cases e:cs[j]? with
  | none=>rw [e] at a; cases a
  | some x=>rw [e] at a; cases a; exact .fz (r.2 j x v e b)⟩
theorem AReps.unfz {β:Nat → Value} {h:Heap} {cs:List FV} {vs:List Value} (r:AReps β h (cs.map .fz) vs):FReps h cs vs :=
 ⟨by have:=r.1; rwa [List.length_map] at this,fun j c v a b=>by
  have:=r.2 j (.fz c) v (by rw [List.getElem?_map,a]; rfl) b
  cases this with
  | fz r=>exact r⟩
inductive OO where
 | box (t:TypeId) (cells:List AV)
 | ext (D:Nat → Prop) (Φ:Value → Heap → Prop)
 | rows (t:TypeId) (sz:Nat) (rows:List (List FV))
def OO.cells:OO → List AV
 | .box _ cs=>cs
 | _=>[]
def fpOf (v:Value):OO → Nat → Prop
 | .ext D _,b=>D b
 | _,b=>baseOf v = some b
structure Gd where
 h:Heap
 fx:Nat → Value
abbrev AS:=List (Nat × OO)
abbrev AT:=List (Nat × AV)
abbrev AL:=List (Nat × Option (Nat × Bool) × AV)
def OOk (β:Nat → Value) (hF h:Heap) (id:Nat):OO → Prop
 | .box t cells=>∃ b vs,β id = .pointer (some ⟨b,0,none⟩) ∧ h b = some (.cells (List.toArray vs) t (0,0)) ∧ AReps β hF cells vs
 | .ext D Φ=>(∀ b,baseOf (β id) = some b → D b) ∧ (∀ b,D b → h b ≠ none) ∧ ∀ h',(∀ b,D b → h' b = h b) → Φ (β id) h'
 | .rows t sz rows=>∃ vs,Own h t sz (β id) rows.length vs ∧ (∀ r ∈ rows,r.length = sz) ∧ (∀ r ∈ rows,r.all FV.one = true) ∧ FReps hF rows.flatten vs
structure Ok (h0:Gd) (β:Nat → Value) (hF h:Heap) (σ:AS):Prop where
 le0:h0.h.le hF
 le:hF.le h
 ok:∀ e ∈ σ,OOk β hF h e.1 e.2
 out:∀ e ∈ σ,∀ b,fpOf (β e.1) e.2 b → hF b = none
 sep:∀ e ∈ σ,∀ e' ∈ σ,∀ b,e.1 ≠ e'.1 → fpOf (β e.1) e.2 b → ¬ fpOf (β e'.1) e'.2 b
 fix:∀ id,1000 ≤ id → β id = h0.fx id
 nd:(σ.map (·.1)).Nodup
def GOk (Tc:Tm) (g:Option (Nat × Bool)) (A:Prop) (v:Value):Prop:=match g with
 | none=>A
 | some (s,p)=>(Tc s = .bool p → A) ∧ (Tc s ≠ .bool p → v = undef)
structure Sem (h0:Gd) (β:Nat → Value) (hF h:Heap) (Tc:Tm) (T:AT) (L:AL) (σ:AS):Prop where
 ok:Ok h0 β hF h σ
 t:∀ e ∈ T,(∀ e' ∈ L,e'.1 ≠ e.1) → ARep β hF e.2 (Tc e.1)
 l:∀ e ∈ L,GOk Tc e.2.1 (ARep β hF e.2.2 (Tc e.1)) (Tc e.1)
 g:∀ e ∈ L,∀ s p,e.2.1 = some (s,p) → ∃ e' ∈ L,e'.1 = s
def lookL:AL → Nat → Option (Option (Nat × Bool) × AV)
 | [],_=>none
 | e :: r,t=>if e.1 = t then some e.2 else lookL r t
def lookT:AT → Nat → Option AV
 | [],_=>none
 | e :: r,t=>if e.1 = t then some e.2 else lookT r t
def lookV (L:AL) (T:AT) (t:Nat):Option (Option (Nat × Bool) × AV):=match lookL L t with
 | some x=>some x
 | none=>match lookT T t with
  | some av=>some (none,av)
  | none=>none
def lookS:AS → Nat → Option OO
 | [],_=>none
 | e :: r,t=>if e.1 = t then some e.2 else lookS r t
theorem lookL_mem {t:Nat} {x:Option (Nat × Bool) × AV}:∀ {L:AL},lookL L t = some x → (t,x) ∈ L
 | [],h=>by cases h
 | (a,y) :: r,h=>by
  unfold lookL at h
  split at h
  ·rename_i e; cases h; cases e; exact List.mem_cons_self
  ·exact List.mem_cons_of_mem _ (lookL_mem h)
theorem lookL_none {t:Nat}:∀ {L:AL},lookL L t = none → ∀ e ∈ L,e.1 ≠ t
 | [],_,e,he=>by cases he
 | (a,y) :: r,h,e,he=>by
  unfold lookL at h
  split at h
  ·cases h
  ·rename_i hne
   rcases List.mem_cons.1 he with rfl | he
   ·exact hne
   ·exact lookL_none h e he
theorem lookT_mem {t:Nat} {x:AV}:∀ {T:AT},lookT T t = some x → (t,x) ∈ T
 | [],h=>by cases h
 | (a,y) :: r,h=>by
  unfold lookT at h
  split at h
  ·rename_i e; cases h; cases e; exact List.mem_cons_self
  ·exact List.mem_cons_of_mem _ (lookT_mem h)
theorem lookS_mem {t:Nat} {x:OO}:∀ {σ:AS},lookS σ t = some x → (t,x) ∈ σ
 | [],h=>by cases h
 | (a,y) :: r,h=>by
  unfold lookS at h
  split at h
  ·rename_i e; cases h; cases e; exact List.mem_cons_self
  ·exact List.mem_cons_of_mem _ (lookS_mem h)
section
variable {h0 : Gd} {β : Nat → Value} {hF h : Heap} {Tc : Tm} {T : AT} {L : AL} {σ : AS}
theorem Sem.lk (s:Sem h0 β hF h Tc T L σ) {t:Nat} {g:Option (Nat × Bool)} {x:AV} (e:lookV L T t = some (g,x)):GOk Tc g (ARep β hF x (Tc t)) (Tc t):=by
 unfold lookV at e
 split at e
 ·rename_i y hy
  cases e
  exact s.l _ (lookL_mem hy)
 ·rename_i hn
  split at e
  ·rename_i av hav
   cases e
   exact s.t _ (lookT_mem hav) (fun e' he'=>lookL_none hn e' he')
  ·cases e
theorem Sem.put (s:Sem h0 β hF h Tc T L σ) {d:Nat} {g:Option (Nat × Bool)} {x:AV} {v:Value} (hd:∀ e ∈ L,e.1 ≠ d) (hg:∀ a p,g = some (a,p) → ∃ e ∈ L,e.1 = a) (hv:GOk Tc g (ARep β hF x v) v):Sem h0 β hF h (upd Tc d v) T ((d,g,x) :: L) σ where
 ok:=s.ok
 t:=fun e he hne=>by
  have h1:e.1 ≠ d:=fun e1=>hne _ List.mem_cons_self e1.symm
  simp only [upd,if_neg h1]
  exact s.t e he fun e' he'=>hne e' (List.mem_cons_of_mem _ he')
 l:=fun e he=>by
  rcases List.mem_cons.1 he with rfl | he
  ·simp only [upd,if_true]
   cases g with
   | none=>exact hv
   | some a =>
    obtain ⟨a,p⟩:=a
    obtain ⟨e',he',h1⟩:=hg a p rfl
    have:a ≠ d:=fun e2=>hd e' he' (h1.trans e2)
    simp only [GOk,upd,if_neg this] at hv ⊢
    exact hv
  ·have h1:e.1 ≠ d:=hd e he
   have:=s.l e he
   simp only [upd,if_neg h1]
   cases hge:e.2.1 with
   | none=>rw [hge] at this; exact this
   | some a =>
    obtain ⟨a,p⟩:=a
    rw [hge] at this
    obtain ⟨e',he',h2⟩:=s.g e he a p hge
    have hne:a ≠ d:=fun e2=>hd e' he' (h2.trans e2)
    have hu:upd Tc d v a = Tc a:=by simp [upd,hne]
    simp only [GOk,hu]
    exact this
 g:=fun e he a p hga=>by
  rcases List.mem_cons.1 he with rfl | he
  ·obtain ⟨e',he',h1⟩:=hg a p hga
   exact ⟨e',List.mem_cons_of_mem _ he',h1⟩
  ·obtain ⟨e',he',h1⟩:=s.g e he a p hga
   exact ⟨e',List.mem_cons_of_mem _ he',h1⟩
end
def absC:Value → FV
 | .agg cs=>.agg (cs.toList.map .val)
 | v=>.val v
theorem absC_rep (h:Heap) (v:Value):FRep h (absC v) v:=by
 cases v with
 | agg cs =>
  have:FRep h (.agg (cs.toList.map .val)) (.agg cs.toList.toArray):=.agg (by simp) (fun j c v a b=>by
   rw [List.getElem?_map] at a
   rw [b] at a; cases a; exact .val v)
  simpa [absC] using this
 | _=>exact .val _
def chain (L:AL):Nat → Option (Nat × Bool) → List (Nat × Bool)
 | _,none=>[]
 | 0,some g=>[g]
 | k + 1,some g=>g :: (match lookL L g.1 with
  | some x=>chain L k x.1
  | none=>[])
theorem chain_ok {h0:Gd} {β:Nat → Value} {hF h:Heap} {Tc:Tm} {T:AT} {L:AL} {σ:AS} (s:Sem h0 β hF h Tc T L σ):∀ (k:Nat) (g:Option (Nat × Bool)),(∀ a p,g = some (a,p) → Tc a = .bool p) → ∀ x ∈ chain L k g,Tc x.1 = .bool x.2
 | k,none,_,x,hx=>by cases k <;> simp [chain] at hx
 | 0,some (a,p),hg,x,hx=>by simp only [chain,List.mem_singleton] at hx; subst hx; exact hg a p rfl
 | k + 1,some (a,p),hg,x,hx=>by
  simp only [chain,List.mem_cons] at hx
  rcases hx with rfl | hx
  ·exact hg a p rfl
  ·split at hx
   ·rename_i y hy
    refine chain_ok s k _ (fun a' p' e=>?_) x hx
    have h1:=s.l _ (lookL_mem hy)
    simp only [e,GOk] at h1
    rcases Classical.em (Tc a' = .bool p') with h2 | h2
    ·exact h2
    ·have:=h1.2 h2
     rw [hg a p rfl] at this; cases this
   ·cases hx
def inCh (g:Option (Nat × Bool)) (ch:List (Nat × Bool)):Bool:=match g with
 | none=>true
 | some g=>ch.any fun x=>x.1 == g.1 && x.2 == g.2
def opd (L:AL) (T:AT) (ch:List (Nat × Bool)):Operand → Option AV
 | .tmp t=>match lookV L T t with
  | some (g,x)=>if inCh g ch then some x else none
  | none=>none
 | .const v=>some (.fz (absC v))
 | .global g=>some (.fz (.val (.pointer (some ⟨g,0,none⟩))))
 | .func f=>some (.fz (.fn f [] []))
theorem opd_ok {h0:Gd} {β:Nat → Value} {hF h:Heap} {Tc:Tm} {T:AT} {L:AL} {σ:AS} (s:Sem h0 β hF h Tc T L σ) {ch:List (Nat × Bool)} (hch:∀ x ∈ ch,Tc x.1 = .bool x.2) {x:Operand} {av:AV} (e:opd L T ch x = some av):ARep β hF av (ev Tc x):=by
 cases x with
 | tmp t =>
  simp only [opd] at e
  split at e
  ·rename_i g y hy
   split at e
   ·rename_i hin
    cases e
    have h1:=s.lk hy
    cases g with
    | none=>exact h1
    | some g =>
     obtain ⟨a,p⟩:=g
     simp only [inCh,List.any_eq_true,Bool.and_eq_true,beq_iff_eq] at hin
     obtain ⟨z,hz,h2,h3⟩:=hin
     have:=hch z hz
     rw [h2,h3] at this
     exact h1.1 this
   ·cases e
  ·cases e
 | const v=>cases e; exact .fz (absC_rep _ v)
 | global g=>cases e; exact .fz (.val _)
 | func f=>cases e; exact .fz (.fn (va:=[]) (vb:=[]) rfl rfl (fun j c v a=>by simp at a) (fun j c v a=>by simp at a))
end Go.Proofs.YtihdpjinaafenaaGreatDoor.Ab

/- Operations told short; what is reckoned or read of frozen values and of objects. -/
namespace Go.Proofs.YtihdpjinaafenaaGreatDoor.Ab
open Go.Proofs.YtihdpjinaafenaaGreatDoor.Sl
inductive K where
 | mv (x:Operand) | asg (x:Operand) | pick (c:Nat) (a b:Operand)
 | bin (op:BinOp) (t:TypeId) (x y:Operand) (ty:TypeId)
 | eqs (t:TypeId) (x y:Operand) (ty:TypeId) | nes (t:TypeId) (x y:Operand) (ty:TypeId)
 | eqb (c:Nat) (t:TypeId) (x y:Operand) (ty:TypeId) | neb (c:Nat) (t:TypeId) (x y:Operand) (ty:TypeId)
 | not (t:TypeId) (x:Operand) | bnot (t:TypeId) (x:Operand)
 | conv (s d:TypeId) (x:Operand) (k:IntKind) | nilc (x:Operand)
 | fa (t:TypeId) (x:Operand) (f off n:Nat) | fd1 (t:TypeId) (x:Operand) (f off:Nat) | fdN (t:TypeId) (x:Operand) (f off n:Nat)
 | ix (t:TypeId) (x i:Operand) (e sz:Nat) | ixa (t:TypeId) (x i:Operand) (e sz n:Nat)
 | ld (t:TypeId) (x:Operand) | ldN (t:TypeId) (x:Operand) (n:Nat)
 | len (t:TypeId) (x:Operand) (e:TypeId) | lens (t:TypeId) (x:Operand) | cmin (x y:Operand) (t:TypeId) | cmax (x y:Operand) (t:TypeId)
 | bld (t:TypeId) (parts:List (Nat × Operand)) (pl:List (Nat × Nat)) (z:List Value)
 | ext (x:Operand) (i:Nat) | mkf (f:FuncId) (a b:List Operand) | mki (t:TypeId) (x:Operand)
 | sli (t:TypeId) (x:Operand) (lo hi:Option Operand) (e sz:Nat)
 | box (t:TypeId) (x:Operand) (z:Bool) | alc (t:TypeId) (zs:List Value) (z:Bool)
 | st (t:TypeId) (x y:Operand) | stN (t:TypeId) (x y:Operand) (n:Nat)
 | app (t tx:TypeId) (x y:Operand) (e e' sz:Nat)
 | bsl (t:TypeId) (n:Nat) (parts:List (Nat × Operand)) (e sz:Nat) (z:Bool) | mks (t:TypeId) (x y:Operand) (e sz:Nat) (zs:List Value)
 | call (f:FuncId) (args:List Operand) (tys:List TypeId) | callv (x:Operand) (args:List Operand) (tys:List TypeId)
 | clr (t:TypeId) (x:Operand) (e sz:Nat) (zs:List Value)
 | other (op:Op)
def K.op:K → Op
 | .mv x=>.move x | .asg x=>.assign x | .pick c a b=>.pick (.tmp c) a b
 | .bin op t x y ty=>.binOp op t x y ty
 | .eqs t x y ty=>.binOp .eql t x y ty | .nes t x y ty=>.binOp .neq t x y ty
 | .eqb _ t x y ty=>.binOp .eql t x y ty | .neb _ t x y ty=>.binOp .neq t x y ty
 | .not t x=>.unOp .not t x | .bnot t x=>.unOp .xor t x
 | .conv s d x _=>.convert s d x | .nilc x=>.nilCheck x
 | .fa t x f _ _=>.fieldAddr t x f | .fd1 t x f _=>.field t x f | .fdN t x f _ _=>.field t x f
 | .ix t x i _ _=>.indexAddr t x i | .ixa t x i _ _ _=>.indexAddr t x i
 | .ld t x=>.load t x | .ldN t x _=>.load t x
 | .len t x _=>.call ⟨.builtin .len,#[x],#[t]⟩ | .lens t x=>.call ⟨.builtin .len,#[x],#[t]⟩
 | .cmin x y t=>.call ⟨.builtin .min,#[x,y],#[t,t]⟩ | .cmax x y t=>.call ⟨.builtin .max,#[x,y],#[t,t]⟩
 | .bld t parts _ _=>.build t parts.toArray
 | .ext x i=>.extract x i | .mkf f a b=>.makeFunc (.func f) a.toArray b.toArray | .mki t x=>.makeInterface t x
 | .sli t x lo hi _ _=>.slice t x lo hi none
 | .box t x _=>.box t x | .alc t _ _=>.alloc t
 | .st t x y=>.store t x y | .stN t x y _=>.store t x y
 | .app t tx x y _ _ _=>.call ⟨.builtin .append,#[x,y],#[t,tx]⟩
 | .bsl t n parts _ _ _=>.buildSlice t n parts.toArray | .mks t x y _ _ _=>.makeSlice t x y
 | .call f args tys=>.call ⟨.value (.func f),args.toArray,tys.toArray⟩ | .callv x args tys=>.call ⟨.value x,args.toArray,tys.toArray⟩
 | .clr t x _ _ _=>.call ⟨.builtin .clear,#[x],#[t]⟩
 | .other op=>op
def isEq (P:Program) (c:Nat) (t:TypeId) (y:Operand):Bool:=match c,P.underlying t with
 | 0,some .bool=>true
 | 1,some (.pointer _)=>true
 | 2,some (.interface _)=>isLit y
 | _,_=>false
def isOne (P:Program) (t:TypeId):Bool:=match P.underlying t with
 | some (.struct _) | some (.array _ _) | none=>false
 | _=>true
def isMany (P:Program) (t:TypeId):Bool:=match P.underlying t with
 | some (.struct _) | some (.array _ _)=>true
 | _=>false
def isSl (P:Program) (t e:TypeId):Bool:=match P.underlying t with
 | some (.slice e')=>e' == e
 | _=>false
def isArr (P:Program) (t n e:TypeId):Bool:=match P.underlying t with
 | some (.array n' e')=>e' == e && n' == n
 | _=>false
def isIntT (P:Program) (t:TypeId):Bool:=match P.underlying t with
 | some (.int _)=>true
 | _=>false
def isStr (P:Program) (t:TypeId):Bool:=match P.underlying t with
 | some .string=>true
 | _=>false
def sameZ:Value → Value → Bool
 | .int k n,.int k' n'=>decide (k = k') && decide (n = n')
 | .bool a,.bool b=>a == b
 | .string a,.string b=>a.size == 0 && b.size == 0
 | .pointer none,.pointer none=>true
 | .slice none 0 0,.slice none 0 0=>true
 | .map none,.map none=>true
 | .nilFunc,.nilFunc=>true
 | .nilIface,.nilIface=>true
 | _,_=>false
theorem ba_empty {a:ByteArray} (h:(a.size == 0) = true):a = ByteArray.empty:=by
 cases a with
 | mk d =>
  simp only [beq_iff_eq,ByteArray.size] at h
  have:d = #[]:=Array.size_eq_zero_iff.1 h
  subst this; rfl
theorem sameZ_eq {a b:Value} (h:sameZ a b = true):a = b:=by
 unfold sameZ at h
 split at h
 ·simp only [Bool.and_eq_true,decide_eq_true_eq] at h; rw [h.1,h.2]
 ·simp only [beq_iff_eq] at h; rw [h]
 ·simp only [Bool.and_eq_true] at h; rw [ba_empty h.1,ba_empty h.2]
 all_goals first | rfl | cases h
def sameZs:List Value → List Value → Bool
 | [],[]=>true
 | a :: x,b :: y=>sameZ a b && sameZs x y
 | _,_=>false
theorem sameZs_eq:∀ {a b:List Value},sameZs a b = true → a = b
 | [],[],_=>rfl
 | a :: x,b :: y,h=>by
  simp only [sameZs,Bool.and_eq_true] at h
  rw [sameZ_eq h.1,sameZs_eq h.2]
 | [],_ :: _,h=>by cases h
 | _ :: _,[],h=>by cases h
def zeroIs (P:Program) (t:TypeId) (z:List Value):Bool:=match zeroOf P t with
 | some zs=>sameZs zs.toList z
 | none=>false
theorem zeroIs_eq {P:Program} {t:TypeId} {z:List Value} (h:zeroIs P t z = true):zeroOf P t = some z.toArray:=by
 unfold zeroIs at h
 split at h
 ·rename_i zs e; rw [e,← sameZs_eq h]
 ·cases h
def okCall (P:Program) (f:FuncId):Bool:=match P.funcs[f]? with
 | some fn => !(fn.name == "runtime.NumGoroutine") && !fn.body.isNone
 | none=>false
def K.side (P:Program):K → Bool
 | .fa t _ f off n=>fieldOff P t f == some off
 | .fd1 t _ f off=>fieldPart P t f == some (off,1,false)
 | .fdN t _ f off n=>fieldPart P t f == some (off,n,true)
 | .ix t _ _ e sz=>isSl P t e && P.cellsOf e == sz && (P.info? e).isSome
 | .ixa t _ _ e sz n=>isArr P t n e && P.cellsOf e == sz && (P.info? e).isSome
 | .ld t _=>isOne P t
 | .ldN t _ n=>isMany P t && P.cellsOf t == n
 | .conv s d _ k=>isIntT P s && (match P.underlying d with | some (.int k')=>k' == k | _=>false)
 | .len t _ e=>isSl P t e
 | .eqb c t _ y _ | .neb c t _ y _=>isEq P c t y
 | .lens t _=>isStr P t
 | .mki t _=>match P.underlying t with
  | some (.interface _) | none=>false
  | _=>true
 | .bld t _ pl z=>placesOf P t == some pl && zeroIs P t z
 | .alc t zs _=>zeroIs P t zs && !zs.isEmpty
 | .st t _ _=>P.cellsOf t == 1 && (P.info? t).isSome
 | .stN t _ _ n=>P.cellsOf t == n && (P.info? t).isSome
 | .app t tx _ _ e e' sz=>isSl P t e && isSl P tx e' && infoOk P e sz
 | .bsl t n parts e sz _=>isSl P t e && infoOk P e sz && decide (n = parts.length) && decide (parts.map (·.1) = List.range n) && decide (0 < sz) && decide (n * sz ≤ 65536)
 | .call f _ _=>okCall P f
 | .mks t _ _ e sz zs=>isSl P t e && infoOk P e sz && zeroIs P e zs && zs.all (·.oneCell')
 | .sli t _ _ _ e sz=>isSl P t e && P.cellsOf e == sz && (P.info? e).isSome
 | .clr t _ e sz zs=>isSl P t e && infoOk P e sz && zeroIs P e zs && zs.all (·.oneCell')
 | _=>true
structure AO where
 dst:Option Nat
 g:Option (Nat × Bool)
 k:K
 q:Bool
def sint (op:BinOp) (k:IntKind) (a b:Int):Option (Prop × Value):=match op with
 | .quo=>some (b ≠ 0,.int k (k.wrap (a.tdiv b)))
 | .rem=>some (b ≠ 0,.int k (a.tmod b))
 | op=>(intBin op k a b).map fun v=>(True,v)
def ibin (op:BinOp) (k k':IntKind) (a b:Int):Option (Prop × Value):=match op with
 | .shl=>some (0 ≤ b,.int k (k.wrap (a * 2 ^ (min b.toNat k.bits))))
 | .shr=>some (0 ≤ b,.int k (a.fdiv (2 ^ (min b.toNat k.bits))))
 | op=>if k = k' then sint op k a b else none
def feq:Nat → AV → AV → Option Bool
 | 0,.fz (.val (.bool a)),.fz (.val (.bool b))=>some (a == b)
 | 1,.fz (.val (.pointer none)),.fz (.val (.pointer none))=>some true
 | 1,.fz (.fp _),.fz (.val (.pointer none))=>some false
 | 1,.oe _ _ _ _,.fz (.val (.pointer none))=>some false
 | 2,.fz (.val .nilIface),.fz (.val .nilIface)=>some true
 | 2,.fz (.ifc _ _),.fz (.val .nilIface)=>some false
 | _,_,_=>none
def FV.cells:FV → List FV
 | .agg cs=>cs
 | .val v=>v.cells.toList.map .val
 | x=>[x]
def fillF (places:List (Nat × Nat)):List FV → List (Nat × FV) → Option (List FV)
 | cs,[]=>some cs
 | cs,(i,x) :: r=>match places[i]? with
  | none=>none
  | some (off,size)=>if x.cells.length = size ∧ off + size ≤ cs.length then fillF places (cs.take off ++ x.cells ++ cs.drop (off + size)) r else none
def ofzs (o:Operand → Option AV):List Operand → Option (List FV)
 | []=>some []
 | x :: r=>match o x with
  | some (.fz y)=>match ofzs o r with
   | some ys=>some (y :: ys)
   | none=>none
  | _=>none
def ofzp (o:Operand → Option AV):List (Nat × Operand) → Option (List (Nat × FV))
 | []=>some []
 | (i,x) :: r=>match o x with
  | some (.fz y)=>match ofzp o r with
   | some ys=>some ((i,y) :: ys)
   | none=>none
  | _=>none
def bnd (o:Operand → Option AV) (n:Int):Option Operand → Option Int
 | none=>some n
 | some x=>match o x with
  | some (.fz (.val (.int _ j)))=>some j
  | _=>none
def unfz:List AV → Option (List FV)
 | []=>some []
 | .fz x :: r=>match unfz r with
  | some xs=>some (x :: xs)
  | none=>none
 | _ :: _=>none
theorem unfz_eq:∀ {l:List AV} {xs:List FV},unfz l = some xs → l = xs.map .fz
 | [],xs,h=>by cases h; rfl
 | .fz x :: r,xs,h=>by
  unfold unfz at h
  split at h
  ·rename_i ys hy; cases h; rw [unfz_eq hy]; rfl
  ·cases h
 | .hid :: _,_,h=>by cases h
 | .os _ :: _,_,h=>by cases h
 | .oe _ _ _ _ :: _,_,h=>by cases h
 | .ot _ _ _ :: _,_,h=>by cases h
structure R where
 ob:Prop
 v:AV
 rd:Option Nat
def pv (σ:AS) (o:List (Nat × Bool) → Operand → Option AV):K → Option R
 | .mv x=>match o [] x with
  | some v=>some ⟨True,v,none⟩
  | none=>none
 | .asg x=>match o [] x with
  | some v=>some ⟨True,v,none⟩
  | none=>none
 | .pick c a b=>match o [] (.tmp c),o [(c,true)] a,o [(c,false)] b with
  | some (.fz (.val (.bool t))),some (.fz (.val (.bool x))),some (.fz (.val (.bool y)))=>some ⟨True,.fz (.val (.bool (bif t then x else y))),none⟩
  | _,_,_=>none
 | .bin op _ x y _=>match o [] x,o [] y with
  | some (.fz (.val (.int k a))),some (.fz (.val (.int k' b)))=>match ibin op k k' a b with
   | some r=>some ⟨r.1,.fz (.val r.2),none⟩
   | none=>none
  | _,_=>none
 | .eqs _ x y _=>match o [] x,o [] y with
  | some (.fz (.val (.string a))),some (.fz (.val (.string b)))=>some ⟨True,.fz (.val (.bool (a.toList == b.toList))),none⟩
  | _,_=>none
 | .nes _ x y _=>match o [] x,o [] y with
  | some (.fz (.val (.string a))),some (.fz (.val (.string b)))=>some ⟨True,.fz (.val (.bool (!(a.toList == b.toList)))),none⟩
  | _,_=>none
 | .not _ x=>match o [] x with
  | some (.fz (.val (.bool b)))=>some ⟨True,.fz (.val (.bool (!b))),none⟩
  | _=>none
 | .bnot _ x=>match o [] x with
  | some (.fz (.val (.int k a)))=>some ⟨True,.fz (.val (.int k (k.wrap (BitVec.ofInt k.bits (if k.signed then -1 else k.max) ^^^ BitVec.ofInt k.bits a).toNat))),none⟩
  | _=>none
 | .conv _ _ x k=>match o [] x with
  | some (.fz (.val (.int _ a)))=>some ⟨True,.fz (.val (.int k (k.wrap a))),none⟩
  | _=>none
 | .nilc x=>match o [] x with
  | some (.fz (.fp cs))=>some ⟨True,.fz (.fp cs),none⟩
  | some (.oe id sz i off)=>some ⟨True,.oe id sz i off,none⟩
  | some (.fz (.fn f a b))=>some ⟨True,.fz (.fn f a b),none⟩
  | _=>none
 | .fa _ x _ off n=>match o [] x with
  | some (.fz (.fp cs))=>some ⟨off + n ≤ cs.length,.fz (.fp ((cs.drop off).take n)),none⟩
  | some (.oe id sz i p)=>some ⟨True,.oe id sz i (p + off),none⟩
  | _=>none
 | .fd1 _ x _ off=>match o [] x with
  | some (.fz (.agg cs))=>match cs.drop off with
   | c :: _=>some ⟨True,.fz c,none⟩
   | []=>none
  | _=>none
 | .fdN _ x _ off n=>match o [] x with
  | some (.fz (.agg cs))=>some ⟨off + n ≤ cs.length,.fz (.agg ((cs.drop off).take n)),none⟩
  | _=>none
 | .ix _ x i _ sz=>match o [] x,o [] i with
  | some (.fz y),some (.fz (.val (.int _ j)))=>match asSl y with
   | some (n,f)=>some ⟨(0 ≤ j ∧ j < n) ∧ (f j.toNat).length = sz,.fz (.fp (f j.toNat)),none⟩
   | none=>none
  | some (.os id),some (.fz (.val (.int _ j)))=>match lookS σ id with
   | some (.rows _ sz' rows)=>if sz' = sz then some ⟨0 ≤ j ∧ j < rows.length,.oe id sz j.toNat 0,none⟩ else none
   | _=>none
  | some (.ot id sz1 i0),some (.fz (.val (.int _ j)))=>match lookS σ id with
   | some (.rows _ sz' rows)=>if sz' = sz ∧ sz1 = sz then some ⟨0 ≤ j ∧ (i0:Int) + j < rows.length,.oe id sz (i0 + j.toNat) 0,none⟩ else none
   | _=>none
  | _,_=>none
 | .ixa _ x i _ sz n=>match o [] x,o [] i with
  | some (.fz (.fp cs)),some (.fz (.val (.int _ j)))=>some ⟨(0 ≤ j ∧ j < n) ∧ n * sz ≤ cs.length,.fz (.fp ((cs.drop (j.toNat * sz)).take sz)),none⟩
  | some (.oe id sz' i' p),some (.fz (.val (.int _ j)))=>some ⟨0 ≤ j ∧ j < n,.oe id sz' i' (p + j.toNat * sz),none⟩
  | _,_=>none
 | .ld _ x=>match o [] x with
  | some (.fz (.fp cs))=>match cs with
   | c :: _=>some ⟨True,.fz c,none⟩
   | []=>none
  | some (.oe id sz i p)=>match lookS σ id with
   | some (.box _ cells)=>if i = 0 then match cells.drop p with
     | c :: _=>some ⟨True,c,some id⟩
     | []=>none
    else none
   | some (.rows _ sz' rows)=>if sz' = sz then some ⟨i < rows.length ∧ p < sz,.fz ((rows.getD i []).getD p (.val undef)),some id⟩ else none
   | _=>none
  | _=>none
 | .ldN _ x n=>match o [] x with
  | some (.fz (.fp cs))=>some ⟨n ≤ cs.length,.fz (.agg (cs.take n)),none⟩
  | some (.oe id sz i p)=>match lookS σ id with
   | some (.box _ cells)=>if i = 0 then match unfz ((cells.drop p).take n) with
     | some cs=>some ⟨p + n ≤ cells.length,.fz (.agg cs),some id⟩
     | none=>none
    else none
   | some (.rows _ sz' rows)=>if sz' = sz ∧ p = 0 ∧ n = sz then some ⟨i < rows.length,.fz (.agg (rows.getD i [])),some id⟩ else none
   | _=>none
  | _=>none
 | .len _ x _=>match o [] x with
  | some (.fz y)=>match asSl y with
   | some (n,_)=>some ⟨True,.fz (.val (.int .i64 n)),none⟩
   | none=>none
  | some (.os id)=>match lookS σ id with
   | some (.rows _ _ rows)=>some ⟨True,.fz (.val (.int .i64 rows.length)),none⟩
   | _=>none
  | some (.ot id _ i0)=>match lookS σ id with
   | some (.rows _ _ rows)=>some ⟨True,.fz (.val (.int .i64 ((rows.length - i0:Nat):Int))),none⟩
   | _=>none
  | _=>none
 | .lens _ x=>match o [] x with
  | some (.fz (.val (.string s)))=>some ⟨True,.fz (.val (.int .i64 s.size)),none⟩
  | _=>none
 | .cmin x y _=>match o [] x,o [] y with
  | some (.fz (.val (.int k a))),some (.fz (.val (.int k' b)))=>if k = k' then some ⟨True,.fz (.val (.int k (if b < a then b else a))),none⟩ else none
  | _,_=>none
 | .cmax x y _=>match o [] x,o [] y with
  | some (.fz (.val (.int k a))),some (.fz (.val (.int k' b)))=>if k = k' then some ⟨True,.fz (.val (.int k (if b > a then b else a))),none⟩ else none
  | _,_=>none
 | .bld _ parts pl z=>match ofzp (o []) parts with
  | some ps=>match fillF pl (z.map .val) ps with
   | some cs=>some ⟨True,.fz (.agg cs),none⟩
   | none=>none
  | none=>none
 | .ext x i=>match o [] x with
  | some (.fz (.tup cs))=>match cs.drop i with
   | c :: _=>some ⟨True,.fz c,none⟩
   | []=>none
  | _=>none
 | .mkf f a b=>match ofzs (o []) a,ofzs (o []) b with
  | some xs,some ys=>some ⟨True,.fz (.fn f xs ys),none⟩
  | _,_=>none
 | .mki t x=>match o [] x with
  | some (.fz y)=>some ⟨True,.fz (.ifc t y),none⟩
  | _=>none
 | .sli _ x lo hi _ sz=>match o [] x with
  | some (.fz y)=>match asSl y with
   | some (n,f)=>match bnd (o []) 0 lo,bnd (o []) n hi with
    | some l,some k=>some ⟨(0 ≤ l ∧ l ≤ k ∧ k ≤ n) ∧ ∀ i,i < n → (f i).length = sz,.fz (.sl (k - l).toNat fun i=>f (l.toNat + i)),none⟩
    | _,_=>none
   | none=>none
  | some (.os id)=>match lookS σ id,lo,hi with
   | some (.rows _ sz' rows),some lo,none=>match o [] lo with
    | some (.fz (.val (.int _ l)))=>if sz' = sz then some ⟨(0 ≤ l ∧ l ≤ rows.length) ∧ 0 < rows.length,.ot id sz l.toNat,none⟩ else none
    | _=>none
   | _,_,_=>none
  | _=>none
 | .eqb c _ x y _=>match o [] x,o [] y with
  | some a,some b=>match feq c a b with
   | some r=>some ⟨True,.fz (.val (.bool r)),none⟩
   | none=>none
  | _,_=>none
 | .neb c _ x y _=>match o [] x,o [] y with
  | some a,some b=>match feq c a b with
   | some r=>some ⟨True,.fz (.val (.bool (!r))),none⟩
   | none=>none
  | _,_=>none
 | _=>none
end Go.Proofs.YtihdpjinaafenaaGreatDoor.Ab

/- What is reckoned or read: that the operations give just this. -/
namespace Go.Proofs.YtihdpjinaafenaaGreatDoor.Ab
open Go.Proofs.YtihdpjinaafenaaGreatDoor.Sl
def PvOk (P:Program) (β:Nat → Value) (hF h:Heap) (Tc:Tm) (o:Oper) (r:R):Prop :=
 ∃ v,ARep β hF r.v v ∧ (isRead o.op = false → PureOp P o (ev Tc) v) ∧ (∀ g,hF.le g → (∀ id b,r.rd = some id → baseOf (β id) = some b → g b = h b) → ReadOp P o (ev Tc) g v)
section
variable {P : Program} {h0 : Gd} {β : Nat → Value} {hF h : Heap} {Tc : Tm} {T : AT} {L : AL} {σ : AS} {o : Oper} {r : R}
theorem fin_pure {v:Value} (hv:ARep β hF r.v v) (p:PureOp P o (ev Tc) v):PvOk P β hF h Tc o r:=⟨v,hv,fun _=>p,fun g _ _=>p.read g⟩
theorem fin_pr {v:Value} (hv:ARep β hF r.v v) (p:ReadOp P o (ev Tc) (fun _=>none) v):PvOk P β hF h Tc o r:=fin_pure hv p.pure0
theorem fin_read {v:Value} (hv:ARep β hF r.v v) (hr:isRead o.op = true) (p:∀ g,hF.le g → (∀ id b,r.rd = some id → baseOf (β id) = some b → g b = h b) → ReadOp P o (ev Tc) g v):PvOk P β hF h Tc o r :=
 ⟨v,hv,fun e=>(by rw [hr] at e; cases e),p⟩
theorem fz_val {u v:Value} (r:ARep β hF (.fz (.val u)) v):v = u:=by cases r with | fz r=>cases r; rfl
theorem fz_fz {x:FV} {v:Value} (r:ARep β hF (.fz x) v):FRep hF x v:=by cases r with | fz r=>exact r
theorem getElem?_drop_cons {α:Type} {l:List α} {k:Nat} {c:α} {t:List α} (h:l.drop k = c :: t):l[k]? = some c:=by
 have:=congrArg (·[0]?) h
 simpa using this
theorem frep_fp {cs:List FV} {v:Value} (r:FRep hF (.fp cs) v):∃ b off full e fz,v = .pointer (some ⟨b,off,none⟩) ∧ hF b = some (.cells full e fz) ∧ off + cs.length ≤ full.size ∧ ∀ (j:Nat) (c:FV) (u:Value),cs[j]? = some c → full[off + j]? = some u → FRep hF c u:=by
 cases r with
 | fp hb hs hr=>exact ⟨_,_,_,_,_,rfl,hb,hs,hr⟩
theorem frep_agg {cs:List FV} {v:Value} (r:FRep hF (.agg cs) v):∃ vs:List Value,v = .agg vs.toArray ∧ FReps hF cs vs:=by
 cases r with
 | agg hl hr=>exact ⟨_,rfl,hl,hr⟩
theorem frep_tup {cs:List FV} {v:Value} (r:FRep hF (.tup cs) v):∃ vs:List Value,v = .tuple vs.toArray ∧ FReps hF cs vs:=by
 cases r with
 | tup hl hr=>exact ⟨_,rfl,hl,hr⟩
theorem FReps.take {cs:List FV} {vs:List Value} (r:FReps hF cs vs) (k n:Nat):FReps hF ((cs.drop k).take n) ((vs.drop k).take n) :=
 ⟨by simp [r.1],fun j c v a b=>by
  rw [List.getElem?_take] at a b
  split at a
  ·rename_i hj
   rw [if_pos hj] at b
   rw [List.getElem?_drop] at a b
   exact r.2 _ c v a b
  ·cases a⟩
theorem sub_fp {cs:List FV} {full:Array Value} {off k n:Nat} (hs:off + cs.length ≤ full.size) (hr:∀ (j:Nat) (c:FV) (u:Value),cs[j]? = some c → full[off + j]? = some u → FRep hF c u) :
  ∀ (j:Nat) (c:FV) (u:Value),((cs.drop k).take n)[j]? = some c → full[off + k + j]? = some u → FRep hF c u:=fun j c u a b=>by
 rw [List.getElem?_take] at a
 split at a
 ·rw [List.getElem?_drop] at a
  exact hr (k + j) c u a (by rw [← b]; congr 1; omega)
 ·cases a
theorem FReps.of_fp {cs:List FV} {full:Array Value} {off n:Nat} (hs:off + cs.length ≤ full.size) (hn:n ≤ cs.length) (hr:∀ (j:Nat) (c:FV) (u:Value),cs[j]? = some c → full[off + j]? = some u → FRep hF c u):FReps hF (cs.take n) (full.extract off (off + n)).toList :=
 ⟨by simp; omega,fun j c v a b=>by
  rw [List.getElem?_take] at a
  split at a
  ·rename_i hj
   rw [Array.getElem?_toList,Array.getElem?_extract_of_lt (by omega)] at b
   exact hr j c v a (by rw [Array.getElem?_eq_getElem (by omega)]; exact b)
  ·cases a⟩
theorem flat_get {α:Type} {sz:Nat}:∀ {rows:List (List α)},(∀ r ∈ rows,r.length = sz) → ∀ (i j:Nat),j < sz → rows.flatten[i * sz + j]? = (rows[i]?).bind (·[j]?)
 | [],_,i,j,_=>by simp
 | r :: rows,h,0,j,hj=>by
  have h1:=h r (by simp)
  simp only [List.flatten_cons,Nat.zero_mul,Nat.zero_add,List.getElem?_cons_zero,Option.bind_some]
  rw [List.getElem?_append_left (by omega)]
 | r :: rows,h,i + 1,j,hj=>by
  have h1:=h r (by simp)
  have ih:=flat_get (rows:=rows) (fun x hx=>h x (by simp [hx])) i j hj
  rw [List.flatten_cons,List.getElem?_append_right (by rw [Nat.succ_mul]; omega),h1,show (i + 1) * sz + j - sz = i * sz + j by rw [Nat.succ_mul]; omega,ih]
  rfl
theorem flat_len {α:Type} {sz:Nat}:∀ {rows:List (List α)},(∀ r ∈ rows,r.length = sz) → rows.flatten.length = rows.length * sz
 | [],_=>by simp
 | r :: rows,h=>by
  have ih:=flat_len (rows:=rows) (fun x hx=>h x (by simp [hx]))
  have h1:=h r (by simp)
  rw [List.flatten_cons,List.length_append,ih,h1,List.length_cons,Nat.succ_mul]; omega
theorem rows_cap {id sz:Nat} {t:TypeId} {rows:List (List FV)} (ok:OOk β hF h id (.rows t sz rows)) {b n c:Nat} (hβ:β id = .slice (some ⟨b,0,none⟩) n c):n = rows.length ∧ n ≤ c:=by
 obtain ⟨vs,own,_⟩:=ok
 rw [hβ] at own
 generalize hn:rows.length = m at own
 cases own with
 | at_ hb hl hnc hcap hc=>exact ⟨rfl,hnc⟩
theorem rows_at {id sz:Nat} {t:TypeId} {rows:List (List FV)} (ok:OOk β hF h id (.rows t sz rows)) {i:Nat} (hi:i < rows.length):∃ b n c full,β id = .slice (some ⟨b,0,none⟩) n c ∧ h b = some (.cells full t (0,0)) ∧ rows.length * sz ≤ full.size ∧ (rows.getD i []).length = sz ∧
  ∀ (p:Nat) (c:FV) (u:Value),(rows.getD i [])[p]? = some c → full[i * sz + p]? = some u → FRep hF c u:=by
 obtain ⟨vs,own,hlen,hone,reps⟩:=ok
 have hrow:rows.getD i [] ∈ rows:=by rw [List.getD_eq_getElem?_getD,List.getElem?_eq_getElem hi]; exact List.getElem_mem hi
 generalize hβ:β id = v at own
 generalize hn:rows.length = n at own hi
 cases own with
 | nil=>omega
 | @at_ b n c full cs hb hl hnc hcap hc =>
  have h1:n * sz ≤ full.size:=Nat.le_trans (Nat.mul_le_mul_right _ hnc) hcap
  refine ⟨b,_,_,full,rfl,hb,h1,hlen _ hrow,fun p c u a e=>?_⟩
  have hp:p < sz:=by
   have h5:=(List.getElem?_eq_some_iff.1 a).1
   have h6:=hlen _ hrow
   omega
  refine reps.2 (i * sz + p) c u ?_ ?_
  ·rw [flat_get hlen i p hp]
   rw [List.getD_eq_getElem?_getD] at a
   have hri:rows[i]? = some (rows[i]'(by omega)):=List.getElem?_eq_getElem (by omega)
   rw [hri] at a ⊢
   exact a
  ·have h2:i * sz + p < n * sz:=by
    have:(i + 1) * sz ≤ n * sz:=Nat.mul_le_mul_right _ hi
    rw [Nat.succ_mul] at this; omega
   rw [← hc,List.getElem?_take_of_lt h2,Array.getElem?_toList]; exact e
theorem ofzs_ok {o:Operand → Option AV} (ho:∀ x av,o x = some av → ARep β hF av (ev Tc x)):∀ {l:List Operand} {xs:List FV},ofzs o l = some xs → FReps hF xs (l.map (ev Tc))
 | [],xs,e=>by cases e; exact FReps.nil _
 | x :: l,xs,e=>by
  unfold ofzs at e
  split at e
  ·rename_i y hy
   split at e
   ·rename_i ys hys
    cases e
    exact FReps.cons (fz_fz (ho x _ hy)) (ofzs_ok ho hys)
   ·cases e
  ·cases e
theorem ofzp_ok {o:Operand → Option AV} (ho:∀ x av,o x = some av → ARep β hF av (ev Tc x)):∀ {l:List (Nat × Operand)} {xs:List (Nat × FV)},ofzp o l = some xs →
  (l.map (·.1) = xs.map (·.1)) ∧ FReps hF (xs.map (·.2)) (l.map fun p=>ev Tc p.2)
 | [],xs,e=>by cases e; exact ⟨rfl,FReps.nil _⟩
 | (i,x) :: l,xs,e=>by
  unfold ofzp at e
  split at e
  ·rename_i y hy
   split at e
   ·rename_i ys hys
    cases e
    obtain ⟨h1,h2⟩:=ofzp_ok ho hys
    exact ⟨by simp [h1],FReps.cons (fz_fz (ho x _ hy)) h2⟩
   ·cases e
  ·cases e
theorem cells_ok {x:FV} {v:Value} (r:FRep hF x v):FReps hF x.cells v.cells.toList:=by
 cases r with
 | val v=>exact ⟨by simp [FV.cells],fun j c u a b=>by
   simp only [FV.cells] at a
   rw [List.getElem?_map,b] at a
   cases a; exact .val u⟩
 | agg hl hr=>exact ⟨by simpa [FV.cells,Value.cells] using hl,fun j c u a b=>hr j c u (by simpa [FV.cells] using a) (by simpa [Value.cells] using b)⟩
 | sl0 f a c=>exact FReps.cons (.sl0 f a c) (FReps.nil _)
 | sl hb hnc hsz h1 hs hr=>exact FReps.cons (.sl hb hnc hsz h1 hs hr) (FReps.nil _)
 | fp hb hs hr=>exact FReps.cons (.fp hb hs hr) (FReps.nil _)
 | tup hl hr=>exact FReps.cons (.tup hl hr) (FReps.nil _)
 | ifc hx=>exact FReps.cons (.ifc hx) (FReps.nil _)
 | fn a b c d=>exact FReps.cons (.fn a b c d) (FReps.nil _)
 | mp hm=>exact FReps.cons (.mp hm) (FReps.nil _)
theorem FReps.app {a b:List FV} {x y:List Value} (r:FReps hF a x) (q:FReps hF b y):FReps hF (a ++ b) (x ++ y) :=
 ⟨by simp [r.1,q.1],fun j c v e1 e2=>by
  rcases Nat.lt_or_ge j a.length with hj | hj
  ·rw [List.getElem?_append_left hj] at e1
   rw [List.getElem?_append_left (by rw [r.1]; exact hj)] at e2
   exact r.2 j c v e1 e2
  ·rw [List.getElem?_append_right hj] at e1
   rw [List.getElem?_append_right (by rw [r.1]; exact hj),r.1] at e2
   exact q.2 _ c v e1 e2⟩
theorem fill_ok {pl:List (Nat × Nat)}:∀ {ps:List (Nat × FV)} {vs:List (Nat × Value)} {cs:List FV} {us:List Value} {cs':List FV},FReps hF cs us → ps.map (·.1) = vs.map (·.1) → FReps hF (ps.map (·.2)) (vs.map (·.2)) → fillF pl cs ps = some cs' →
  ∃ us',fillL pl us vs = some us' ∧ FReps hF cs' us'
 | [],vs,cs,us,cs',r,e1,r2,e=>by
  cases vs with
  | nil=>cases e; exact ⟨us,rfl,r⟩
  | cons p vs=>simp at e1
 | (i,x) :: ps,vs,cs,us,cs',r,e1,r2,e=>by
  cases vs with
  | nil=>simp at e1
  | cons p vs =>
   obtain ⟨i',v⟩:=p
   simp only [List.map_cons,List.cons.injEq] at e1
   obtain ⟨rfl,e1⟩:=e1
   obtain ⟨v',ws,hv,rx,rs⟩:=FReps.uncons r2
   simp only [List.map_cons,List.cons.injEq] at hv
   obtain ⟨rfl,rfl⟩:=hv
   unfold fillF at e
   unfold fillL
   split at e
   ·cases e
   ·rename_i off size hp
    have rc:=cells_ok rx
    split at e
    ·rename_i hc
     simp only [hp]
     rw [if_pos ⟨by rw [← hc.1,← rc.1,Array.length_toList],by rw [r.1]; exact hc.2⟩]
     refine fill_ok ?_ e1 rs e
     have h1:=FReps.take r 0 off
     have h2:=FReps.take r (off + size) cs.length
     rw [List.drop_zero,List.drop_zero] at h1
     rw [List.take_of_length_le (by simp),List.take_of_length_le (by simp [r.1])] at h2
     have hsz:v.cells.size = size:=by rw [← hc.1,← rc.1,Array.length_toList]
     try rw [hsz]
     exact (h1.app rc).app h2
    ·cases e
end
end Go.Proofs.YtihdpjinaafenaaGreatDoor.Ab
