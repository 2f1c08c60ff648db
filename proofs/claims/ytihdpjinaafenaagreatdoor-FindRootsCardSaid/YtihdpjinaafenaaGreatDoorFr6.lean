import Derived.Test.YtihdpjinaafenaaGreatDoorFr5
noncomputable section
/- What is reckoned or read: the theorem. -/
set_option linter.unusedVariables false
set_option linter.unusedSimpArgs false
namespace Go.Proofs.YtihdpjinaafenaaGreatDoor.Ab
open Go.Proofs.YtihdpjinaafenaaGreatDoor.Sl
section
variable {P : Program} {h0 : Gd} {β : Nat → Value} {hF h : Heap} {Tc : Tm} {T : AT} {L : AL} {σ : AS} {o : Oper} {r : R}
theorem isOne_spec {t:TypeId} (hs:isOne P t = true):∃ d,P.underlying t = some d ∧ (match d with | .struct _ | .array _ _=>false | _=>true) = true:=by
 unfold isOne at hs
 cases hu:P.underlying t with
 | none=>rw [hu] at hs; cases hs
 | some d=>rw [hu] at hs; exact ⟨d,rfl,by cases d <;> first | rfl | cases hs⟩
theorem isMany_spec {t:TypeId} (hs:isMany P t = true):∃ d,P.underlying t = some d ∧ (match d with | .struct _ | .array _ _=>true | _=>false) = true:=by
 unfold isMany at hs
 cases hu:P.underlying t with
 | none=>rw [hu] at hs; cases hs
 | some d=>rw [hu] at hs; exact ⟨d,rfl,by cases d <;> first | rfl | cases hs⟩
theorem r_ld1 {ρ:Operand → Value} {t:TypeId} {x:Operand} {b off:Nat} {cs:Array Value} {e:TypeId} {fz:Nat × Nat} {v:Value} (ho:o.op = .load t x) (hs:isOne P t = true) (hx:ρ x = .pointer (some ⟨b,off,none⟩)) {g:Heap} (hb:g b = some (.cells cs e fz)) (hc:cs[off]? = some v):ReadOp P o ρ g v:=by
 obtain ⟨d,hu,hd⟩:=isOne_spec hs
 exact r_load1 ho hu (by cases d <;> exact hd) hx hb hc
theorem r_ldN {ρ:Operand → Value} {t:TypeId} {x:Operand} {b off:Nat} {cs:Array Value} {e:TypeId} {fz:Nat × Nat} (ho:o.op = .load t x) (hs:isMany P t = true) (hx:ρ x = .pointer (some ⟨b,off,none⟩)) {g:Heap} (hb:g b = some (.cells cs e fz)) {n:Nat} (hn:P.cellsOf t = n) (hc:off + n ≤ cs.size):ReadOp P o ρ g (.agg (cs.extract off (off + n))):=by
 obtain ⟨d,hu,hd⟩:=isMany_spec hs
 exact r_loadN ho hu (by cases d <;> exact hd) hx hb hn hc
theorem isSl_spec {t e:TypeId} (hs:isSl P t e = true):P.underlying t = some (.slice e):=by
 unfold isSl at hs
 split at hs
 ·rename_i e' hu; simp only [beq_iff_eq] at hs; rw [hu,hs]
 ·cases hs
theorem isArr_spec {t n e:TypeId} (hs:isArr P t n e = true):P.underlying t = some (.array n e):=by
 unfold isArr at hs
 split at hs
 ·rename_i n' e' hu; simp only [Bool.and_eq_true,beq_iff_eq] at hs; rw [hu,hs.1,hs.2]
 ·cases hs
theorem isStr_spec {t:TypeId} (hs:isStr P t = true):P.underlying t = some .string:=by
 unfold isStr at hs
 split at hs
 ·assumption
 ·cases hs
theorem intBin_of {op:BinOp} {k:IntKind} {a b:Int} {v:Value} (h:intBin op k a b = some v) {t ty:TypeId} {x y:Operand} (hop:o.op = .binOp op t x y ty) (hx:ev Tc x = .int k a) (hy:ev Tc y = .int k b):PureOp P o (ev Tc) v:=by
 refine p_val ?_
 rw [hop]
 simp only [pval,hx,hy,binVal]
 cases op <;> simp only [intBin,reduceCtorEq] at h <;> simpa [intBin] using h
theorem ibin_ok {op:BinOp} {k k':IntKind} {a b:Int} {q:Prop × Value} (h:ibin op k k' a b = some q) (ob:q.1) {t ty:TypeId} {x y:Operand} (hop:o.op = .binOp op t x y ty) (hx:ev Tc x = .int k a) (hy:ev Tc y = .int k' b):PureOp P o (ev Tc) q.2:=by
 unfold ibin at h
 split at h
 ·cases h; exact (r_shl hop hx hy ob).pure0
 ·cases h; exact (r_shr hop hx hy ob).pure0
 ·split at h
  ·rename_i hk
   subst hk
   unfold sint at h
   split at h
   ·cases h; exact (r_quo hop hx hy ob).pure0
   ·cases h; exact (r_rem hop hx hy ob).pure0
   ·cases hi:intBin op k a b with
    | none=>rw [hi] at h; cases h
    | some v=>rw [hi] at h; cases h; exact intBin_of hi hop hx hy
  ·cases h
theorem isEq_spec {c:Nat} {t:TypeId} {y:Operand} (h:isEq P c t y = true):(c = 0 ∧ P.underlying t = some .bool) ∨ (c = 1 ∧ ∃ e,P.underlying t = some (.pointer e)) ∨ (c = 2 ∧ (∃ e,P.underlying t = some (.interface e)) ∧ isLit y = true):=by
 unfold isEq at h
 split at h
 ·rename_i hu; exact .inl ⟨rfl,hu⟩
 ·rename_i hu; exact .inr (.inl ⟨rfl,_,hu⟩)
 ·rename_i hu; exact .inr (.inr ⟨rfl,⟨_,hu⟩,h⟩)
 ·cases h
def EqFit (P:Program) (t:TypeId) (x y:Operand) (u v:Value) (q:Bool):Prop :=
 (match u,v with | .int _ _,.int _ _=>false | .agg _,.agg _=>!P.eqGuardType P.depth t | .nilIface,.nilIface=>isLit x || isLit y | _,_=>true) = true ∧ eqv P 10000 t u v = some q ∧ (match u with | .int _ _ | .float _ _ | .complex _ _ _ | .string _=>false | _=>true) = true
theorem feq_fit {c:Nat} {a b:AV} {q:Bool} (h:feq c a b = some q) {u v:Value} (hu:ARep β hF a u) (hv:ARep β hF b v) {t:TypeId} {x y:Operand} (ht:isEq P c t y = true):EqFit P t x y u v q:=by
 have ht:=isEq_spec ht
 unfold feq at h
 split at h
 ·obtain ⟨_,h1⟩ | ⟨h1,_⟩ | ⟨h1,_⟩:=ht
  ·cases h; rw [fz_val hu,fz_val hv]; exact ⟨rfl,by simp [eqv,h1],rfl⟩
  ·cases h1
  ·cases h1
 ·obtain ⟨h1,_⟩ | ⟨_,e,h1⟩ | ⟨h1,_⟩:=ht
  ·cases h1
  ·cases h; rw [fz_val hu,fz_val hv]; exact ⟨rfl,by simp [eqv,h1],rfl⟩
  ·cases h1
 ·obtain ⟨h1,_⟩ | ⟨_,e,h1⟩ | ⟨h1,_⟩:=ht
  ·cases h1
  ·cases h; rw [fz_val hv]
   obtain ⟨b,off,full,ty,fz,hw,_⟩:=frep_fp (fz_fz hu)
   rw [hw]; exact ⟨rfl,by simp [eqv,h1],rfl⟩
  ·cases h1
 ·obtain ⟨h1,_⟩ | ⟨_,e,h1⟩ | ⟨h1,_⟩:=ht
  ·cases h1
  ·cases h; rw [fz_val hv]
   cases hu with
   | oe hb=>exact ⟨rfl,by simp [eqv,h1],rfl⟩
  ·cases h1
 ·obtain ⟨h1,_⟩ | ⟨h1,_⟩ | ⟨_,⟨e,h1⟩,h2⟩:=ht
  ·cases h1
  ·cases h1
  ·cases h; rw [fz_val hu,fz_val hv]; exact ⟨by simp [h2],by simp [eqv,h1],rfl⟩
 ·obtain ⟨h1,_⟩ | ⟨h1,_⟩ | ⟨_,⟨e,h1⟩,h2⟩:=ht
  ·cases h1
  ·cases h1
  ·cases h; rw [fz_val hv]
   have:=fz_fz hu
   cases this with
   | ifc hx=>exact ⟨rfl,by simp [eqv,h1],rfl⟩
 ·cases h
theorem bnd_ok {oo:Operand → Option AV} (ho:∀ x av,oo x = some av → ARep β hF av (ev Tc x)) {n:Int} {x:Option Operand} {j:Int} (e:bnd oo n x = some j):(x = none ∧ j = n) ∨ ∃ y k,x = some y ∧ ev Tc y = .int k j:=by
 unfold bnd at e
 split at e
 ·cases e; exact .inl ⟨rfl,rfl⟩
 ·split at e
  ·rename_i y _ k j' hy; cases e; exact .inr ⟨y,k,rfl,fz_val (ho _ _ hy)⟩
  ·cases e
theorem p_slice {t e:TypeId} {x:Operand} {lo hi:Option Operand} {a:Option Addr} {n c l k:Nat} {sz:Nat} (hop:o.op = .slice t x lo hi none) (hu:P.underlying t = some (.slice e)) (he:(P.info? e).isSome = true) (hs:P.cellsOf e = sz) (hx:ev Tc x = .slice a n c) (hnc:n ≤ c)
  (hl:(lo = none ∧ (l:Int) = 0) ∨ ∃ y kk,lo = some y ∧ ev Tc y = .int kk l) (hk:(hi = none ∧ (k:Int) = n) ∨ ∃ y kk,hi = some y ∧ ev Tc y = .int kk k) (hlk:l ≤ k) (hkn:k ≤ n) :
  PureOp P o (ev Tc) (.slice (if c = l then a else a.map (·.add (l * sz))) (k - l) (c - l)):=by
 intro w
 subst hs
 have hkc:k ≤ c:=Nat.le_trans hkn hnc
 have h1:∀ y:Nat,∀ kk:IntKind,∀ m:Nat,∀ bc:BoundsCode,y ≤ m → (Instr.sliceBound (.int kk (y:Int)) m bc).run P w = .ok y w:=fun y kk m bc hm=>by
  have:(0:Int) ≤ (y:Int) ∧ (y:Int) ≤ (m:Int):=by omega
  simp [Instr.sliceBound,asIntOf,this] <;> omega
 have hb:(Instr.sliceBounds true n c (lo.map (ev Tc)) (hi.map (ev Tc)) none).run P w = .ok (l,k,c) w:=by
  rcases hl with ⟨rfl,h2⟩ | ⟨y,kk,rfl,h2⟩ <;> rcases hk with ⟨rfl,h3⟩ | ⟨z,kz,rfl,h3⟩
  ·have:l = 0:=by omega
   have:k = n:=by omega
   subst_vars; simp [Instr.sliceBounds]
  ·have:l = 0:=by omega
   subst this
   simp [Instr.sliceBounds,h3,h1 k kz c _ hkc]
  ·have:k = n:=by omega
   subst this
   simp [Instr.sliceBounds,h2,h1 l kk k _ hlk]
  ·simp [Instr.sliceBounds,h2,h3,h1 l kk k _ hlk,h1 k kz c _ hkc]
 simp only [execOp,hop,Instr.sliceAt,Sem.run_bind,run_underlying hu,Result.andThen_ok,Instr.slice,hx,Option.map_none,hb,run_cellsOf _ _ he,Sem.run_pure]
theorem pv_ok (s:Sem h0 β hF h Tc T L σ) {ch:List (Nat × Bool)} (hch:∀ x ∈ ch,Tc x.1 = .bool x.2) {k:K} (hop:o.op = k.op) (hs:k.side P = true) (e:pv σ (fun ex=>opd L T (ex ++ ch)) k = some r) (hob:r.ob):PvOk P β hF h Tc o r:=by
 have ho:∀ x av,opd L T ([] ++ ch) x = some av → ARep β hF av (ev Tc x):=fun x av e=>opd_ok s hch e
 cases k with
 | mv x =>
  simp only [pv] at e
  split at e
  ·rename_i v hv; cases e; exact fin_pure (ho _ _ hv) (p_val (by rw [hop]; rfl))
  ·cases e
 | asg x =>
  simp only [pv] at e
  split at e
  ·rename_i v hv; cases e; exact fin_pure (ho _ _ hv) (p_val (by rw [hop]; rfl))
  ·cases e
 | pick c a b =>
  simp only [pv] at e
  split at e
  ·rename_i t x y hc ha hb
   cases e
   have h1:=fz_val (ho _ _ hc)
   refine fin_pure (v:=.bool (bif t then x else y)) (.fz (.val _)) (p_val ?_)
   rw [hop]
   simp only [K.op,pval,h1]
   cases t with
   | true =>
    have:=fz_val (opd_ok s (ch:=[(c,true)] ++ ch) (by
     intro z hz
     rcases List.mem_cons.1 hz with rfl | hz
     ·exact h1
     ·exact hch z hz) ha)
    simp [this]
   | false =>
    have:=fz_val (opd_ok s (ch:=[(c,false)] ++ ch) (by
     intro z hz
     rcases List.mem_cons.1 hz with rfl | hz
     ·exact h1
     ·exact hch z hz) hb)
    simp [this]
  ·cases e
 | bin op t x y ty =>
  simp only [pv] at e
  split at e
  ·rename_i k a k' b hx hy
   split at e
   ·rename_i q hq
    cases e
    exact fin_pure (.fz (.val _)) (ibin_ok hq hob hop (fz_val (ho _ _ hx)) (fz_val (ho _ _ hy)))
   ·cases e
  ·cases e
 | eqs t x y ty =>
  simp only [pv] at e
  split at e
  ·rename_i a b hx hy
   cases e
   exact fin_pr (.fz (.val _)) (r_eql_str hop (fz_val (ho _ _ hx)) (fz_val (ho _ _ hy)))
  ·cases e
 | nes t x y ty =>
  simp only [pv] at e
  split at e
  ·rename_i a b hx hy
   cases e
   exact fin_pr (.fz (.val _)) (r_neq_str hop (fz_val (ho _ _ hx)) (fz_val (ho _ _ hy)))
  ·cases e
 | eqb c t x y ty =>
  simp only [pv] at e
  split at e
  ·rename_i a b hx hy
   split at e
   ·rename_i q hq
    cases e
    obtain ⟨h1,h2,h3⟩:=feq_fit (x:=x) (y:=y) hq (ho _ _ hx) (ho _ _ hy) hs
    generalize hu:ev Tc x = u at h1 h2 h3
    generalize hv:ev Tc y = v at h1 h2
    exact fin_pr (.fz (.val _)) (r_eql hop hu hv (by cases u <;> cases v <;> exact h1) h2 (by cases u <;> exact h3))
   ·cases e
  ·cases e
 | neb c t x y ty =>
  simp only [pv] at e
  split at e
  ·rename_i a b hx hy
   split at e
   ·rename_i q hq
    cases e
    obtain ⟨h1,h2,h3⟩:=feq_fit (x:=x) (y:=y) hq (ho _ _ hx) (ho _ _ hy) hs
    generalize hu:ev Tc x = u at h1 h2 h3
    generalize hv:ev Tc y = v at h1 h2
    exact fin_pr (.fz (.val _)) (r_neq hop hu hv (by cases u <;> cases v <;> exact h1) h2 (by cases u <;> exact h3))
   ·cases e
  ·cases e
 | not t x =>
  simp only [pv] at e
  split at e
  ·rename_i b hx
   cases e
   refine fin_pure (.fz (.val _)) (p_val ?_)
   rw [hop]
   simp only [K.op,pval,fz_val (ho _ _ hx)]
  ·cases e
 | bnot t x =>
  simp only [pv] at e
  split at e
  ·rename_i k a hx
   cases e
   exact fin_pr (.fz (.val _)) (r_bnot hop (fz_val (ho _ _ hx)))
  ·cases e
 | conv s d x k =>
  simp only [pv] at e
  split at e
  ·rename_i k' a hx
   cases e
   simp only [K.side,Bool.and_eq_true] at hs
   obtain ⟨h1,h2⟩:=hs
   split at h2
   ·rename_i k'' hd
    simp only [beq_iff_eq] at h2
    subst h2
    unfold isIntT at h1
    split at h1
    ·rename_i kk hsd
     exact fin_read (.fz (.val _)) (by rw [hop]; rfl) (fun g _ _=>r_convert_int hop hsd hd (fz_val (ho _ _ hx)) rfl)
    ·cases h1
   ·cases h2
  ·cases e
 | nilc x =>
  simp only [pv] at e
  split at e
  ·rename_i cs hx
   cases e
   have h1:=ho _ _ hx
   obtain ⟨b,off,full,ty,fz,hv,_⟩:=frep_fp (fz_fz h1)
   refine fin_pure h1 (p_val ?_)
   rw [hop]; simp only [K.op,pval,hv]
  ·rename_i id sz i off hx
   cases e
   have h1:=ho _ _ hx
   refine fin_pure h1 (p_val ?_)
   rw [hop]
   simp only [K.op,pval]
   generalize ev Tc x = v at h1
   cases h1 with
   | oe hb=>rfl
  ·rename_i f a b hx
   cases e
   have h1:=ho _ _ hx
   refine fin_pure h1 (p_val ?_)
   rw [hop]
   simp only [K.op,pval]
   have h2:=fz_fz h1
   generalize ev Tc x = v at h2
   cases h2 with
   | fn hl hl2 hr hr2=>rfl
  ·cases e
 | fa t x f off n =>
  simp only [pv] at e
  simp only [K.side,beq_iff_eq] at hs
  split at e
  ·rename_i cs hx
   cases e
   obtain ⟨b,o1,full,ty,fz,hv,hb,hsz,hr⟩:=frep_fp (fz_fz (ho _ _ hx))
   refine fin_pure (.fz ?_) (p_fieldAddr hop hv hs)
   have hob':off + n ≤ cs.length:=hob
   exact .fp hb (by simp; omega) (sub_fp hsz hr)
  ·rename_i id sz i p hx
   cases e
   have h1:=ho _ _ hx
   generalize hv:ev Tc x = v at h1
   cases h1 with
   | @oe _ _ _ _ b hb =>
    refine fin_pure (v:=.pointer (some ⟨b,i * sz + (p + off),none⟩)) (.oe hb) ?_
    rw [← Nat.add_assoc]
    exact p_fieldAddr hop hv hs
  ·cases e
 | fd1 t x f off =>
  simp only [pv] at e
  simp only [K.side,beq_iff_eq] at hs
  split at e
  ·rename_i cs hx
   split at e
   ·rename_i c rest hd
    cases e
    obtain ⟨vs,hv,hl,hr⟩:=frep_agg (fz_fz (ho _ _ hx))
    have hc:=getElem?_drop_cons hd
    have hlt:off < vs.length:=by rw [hl]; exact (List.getElem?_eq_some_iff.1 hc).1
    exact fin_pure (.fz (hr off c _ hc (List.getElem?_eq_getElem hlt))) (p_field1 hop hv hs (by simp [List.getElem?_eq_getElem hlt]))
   ·cases e
  ·cases e
 | fdN t x f off n =>
  simp only [pv] at e
  simp only [K.side,beq_iff_eq] at hs
  split at e
  ·rename_i cs hx
   cases e
   obtain ⟨vs,hv,hl,hr⟩:=frep_agg (fz_fz (ho _ _ hx))
   refine fin_pure (.fz ?_) (p_fieldN hop hv hs)
   have h1:=FReps.take ⟨hl,hr⟩ off n
   have h2:vs.toArray.extract off (off + n) = ((vs.drop off).take n).toArray:=by simp
   rw [h2]
   exact .agg h1.1 h1.2
  ·cases e
 | ix t x i ty sz =>
  simp only [pv] at e
  simp only [K.side,Bool.and_eq_true,beq_iff_eq] at hs
  obtain ⟨⟨h1,h2⟩,h3⟩:=hs
  have hu:=isSl_spec h1
  split at e
  ·rename_i y k j hx hi
   split at e
   case h_2=>cases e
   rename_i n f hy
   cases e
   obtain ⟨⟨hj0,hj1⟩,hl⟩:=hob
   have hxv:=fz_fz (ho _ _ hx)
   unfold asSl at hy
   split at hy
   case h_3=>cases hy
   case h_2=>cases hy; exfalso; simp at hj1; omega
   cases hy
   generalize hv:ev Tc x = v at hxv
   cases hxv with
   | sl0 f a c=>exfalso; simp at hj1; omega
   | @sl n f b off c sz' full e' fz hb hnc hsz h1' hs' hr =>
    have hjn:j.toNat < n:=by omega
    have:sz' = sz:=by rw [← hl]; exact (hsz _ hjn).symm
    subst this
    refine fin_pure (.fz ?_) (p_indexAddr hop hu h2 h3 hv (fz_val (ho _ _ hi)) hj0 hj1)
    refine .fp hb ?_ (fun q c u a b=>hr j.toNat q c u hjn a (by rw [← b]))
    rw [hl]
    have:(j.toNat + 1) * sz' ≤ n * sz':=Nat.mul_le_mul_right _ hjn
    rw [Nat.succ_mul] at this; omega
  ·rename_i id k j hx hi
   split at e
   ·rename_i t' sz' rows hσ
    split at e
    ·rename_i hsz
     subst hsz
     cases e
     obtain ⟨hj0,hj1⟩:=hob
     have hjn:j.toNat < rows.length:=by omega
     have ok:=s.ok.ok _ (lookS_mem hσ)
     obtain ⟨b,n,c,full,hβ,hb,hcap,_,_⟩:=rows_at ok hjn
     have hn:n = rows.length:=by
      obtain ⟨vs,own,_⟩:=ok
      simp only at own
      rw [hβ] at own
      cases own; rfl
     subst hn
     have hxv:=ho _ _ hx
     generalize hv:ev Tc x = v at hxv
     cases hxv
     refine fin_pure (v:=.pointer (some ⟨b,j.toNat * sz' + 0,none⟩)) (.oe (by rw [hβ]; rfl)) ?_
     have:=p_indexAddr (P:=P) hop hu h2 h3 (hv.trans hβ) (fz_val (ho _ _ hi)) hj0 hj1
     rw [Nat.zero_add] at this
     exact this
    ·cases e
   ·cases e
  ·rename_i id sz1 i0 k j hx hi
   split at e
   ·rename_i t' sz' rows hσ
    split at e
    ·rename_i hsz
     rcases hsz with ⟨rfl,rfl⟩
     cases e
     obtain ⟨hj0,hj1⟩:=hob
     have ok:=s.ok.ok _ (lookS_mem hσ)
     have hxv:=ho _ _ hx
     generalize hv:ev Tc x = v at hxv
     cases hxv with
     | @ot _ _ _ n c b hβ hile =>
      obtain ⟨hn,hnc⟩:=rows_cap ok hβ
      rw [if_neg (by omega)] at hv
      refine fin_pure (v:=.pointer (some ⟨b,(i0 + j.toNat) * sz1 + 0,none⟩)) (.oe (by rw [hβ]; rfl)) ?_
      have:=p_indexAddr (P:=P) hop hu h2 h3 hv (fz_val (ho _ _ hi)) hj0 (by omega)
      rw [Nat.add_zero,Nat.add_mul]
      exact this
    ·cases e
   ·cases e
  ·cases e
 | ixa t x i ty sz n =>
  simp only [pv] at e
  simp only [K.side,Bool.and_eq_true,beq_iff_eq] at hs
  obtain ⟨⟨h1,h2⟩,h3⟩:=hs
  have hu:=isArr_spec h1
  split at e
  ·rename_i cs k j hx hi
   cases e
   obtain ⟨⟨hj0,hj1⟩,hl⟩:=hob
   obtain ⟨b,o1,full,ty',fz,hv,hb,hsz,hr⟩:=frep_fp (fz_fz (ho _ _ hx))
   refine fin_pure (.fz ?_) (p_indexAddrA hop hu h2 h3 hv (fz_val (ho _ _ hi)) hj0 hj1)
   refine .fp hb ?_ (sub_fp hsz hr)
   have hjn:j.toNat < n:=by omega
   have:(j.toNat + 1) * sz ≤ n * sz:=Nat.mul_le_mul_right _ hjn
   rw [Nat.succ_mul] at this
   simp; omega
  ·rename_i id sz' i' p k j hx hi
   cases e
   obtain ⟨hj0,hj1⟩:=hob
   have h4:=ho _ _ hx
   generalize hv:ev Tc x = v at h4
   cases h4 with
   | @oe _ _ _ _ b hb =>
    refine fin_pure (v:=.pointer (some ⟨b,i' * sz' + (p + j.toNat * sz),none⟩)) (.oe hb) ?_
    rw [← Nat.add_assoc]
    exact p_indexAddrA hop hu h2 h3 hv (fz_val (ho _ _ hi)) hj0 hj1
  ·cases e
 | ld t x =>
  simp only [pv] at e
  split at e
  ·rename_i cs hx
   split at e
   ·rename_i c rest
    cases e
    obtain ⟨b,o1,full,ty',fz,hv,hb,hsz,hr⟩:=frep_fp (fz_fz (ho _ _ hx))
    have hlt:o1 < full.size:=by simp at hsz; omega
    refine fin_read (v:=full[o1]) (.fz (hr 0 c _ rfl (by rw [Nat.add_zero]; exact Array.getElem?_eq_getElem hlt))) (by rw [hop]; rfl) (fun g hg _=>r_ld1 hop hs hv (hg _ _ hb) (Array.getElem?_eq_getElem hlt))
   ·cases e
  ·rename_i id sz i p hx
   have h4:=ho _ _ hx
   generalize hv:ev Tc x = v at h4
   cases h4 with
   | @oe _ _ _ _ b hb =>
    split at e
    ·rename_i t' cells hσ
     split at e
     ·rename_i hi0
      split at e
      ·rename_i c rest hc
       cases e
       have ok:=s.ok.ok _ (lookS_mem hσ)
       obtain ⟨b',vs,hβ,hh,hl,hr⟩:=ok
       have hbb:b' = b:=by simp only [hβ,baseOf,Option.some.injEq] at hb; exact hb
       subst hbb
       have hcc:=getElem?_drop_cons hc
       have hlt:p < vs.length:=by rw [hl]; exact (List.getElem?_eq_some_iff.1 hcc).1
       refine fin_read (v:=vs[p]) (hr p c _ hcc (List.getElem?_eq_getElem hlt)) (by rw [hop]; rfl) (fun g hg hrd=>?_)
       have hgb:g b' = some (.cells vs.toArray t' (0,0)):=(hrd id b' rfl hb).trans hh
       subst hi0
       exact r_ld1 hop hs hv hgb (by simp [List.getElem?_eq_getElem hlt])
      ·cases e
     ·cases e
    ·rename_i t' sz' rows hσ
     split at e
     ·rename_i hsz
      subst hsz
      cases e
      obtain ⟨hi,hp⟩:=hob
      obtain ⟨b',n,c,full,hβ,hh,hcap,hlen,hr⟩:=rows_at (s.ok.ok _ (lookS_mem hσ)) hi
      have hbb:b' = b:=by simp only [hβ,baseOf,Option.some.injEq] at hb; exact hb
      subst hbb
      have hlt:i * sz' + p < full.size:=by
       have:(i + 1) * sz' ≤ rows.length * sz':=Nat.mul_le_mul_right _ hi
       rw [Nat.succ_mul] at this; omega
      refine fin_read (v:=full[i * sz' + p]) (.fz ?_) (by rw [hop]; rfl) (fun g hg hrd=>?_)
      ·refine hr p _ _ ?_ (Array.getElem?_eq_getElem hlt)
       rw [List.getD_eq_getElem?_getD (l:=rows.getD i []),List.getElem?_eq_getElem (by omega)]; rfl
      ·have hgb:g b' = some (.cells full t' (0,0)):=(hrd id b' rfl hb).trans hh
       exact r_ld1 hop hs hv hgb (Array.getElem?_eq_getElem hlt)
     ·cases e
    ·cases e
  ·cases e
 | ldN t x n =>
  simp only [pv] at e
  simp only [K.side,Bool.and_eq_true,beq_iff_eq] at hs
  have hn:=hs.2
  split at e
  ·rename_i cs hx
   cases e
   have hob':n ≤ cs.length:=hob
   obtain ⟨b,o1,full,ty',fz,hv,hb,hsz,hr⟩:=frep_fp (fz_fz (ho _ _ hx))
   have h1:=FReps.of_fp hsz hob' hr
   refine fin_read (v:=.agg (full.extract o1 (o1 + n))) (.fz ?_) (by rw [hop]; rfl) (fun g hg _=>r_ldN hop hs.1 hv (hg _ _ hb) hn (by omega))
   have h2:=FRep.agg h1.1 h1.2
   rwa [Array.toArray_toList] at h2
  ·rename_i id sz i p hx
   have h4:=ho _ _ hx
   generalize hv:ev Tc x = v at h4
   cases h4 with
   | @oe _ _ _ _ b hb =>
    split at e
    ·rename_i t' cells hσ
     split at e
     ·rename_i hi0
      subst hi0
      split at e
      ·rename_i cs hc
       cases e
       have hob':p + n ≤ cells.length:=hob
       obtain ⟨b',vs,hβ,hh,hl,hr⟩:=s.ok.ok _ (lookS_mem hσ)
       have hbb:b' = b:=by simp only [hβ,baseOf,Option.some.injEq] at hb; exact hb
       subst hbb
       have hcs:=unfz_eq hc
       have h1:FReps hF cs ((vs.drop p).take n):=by
        refine AReps.unfz (β:=β) ?_
        rw [← hcs]
        exact ⟨by simp [hl],fun j c v a b=>by
         rw [List.getElem?_take] at a b
         split at a
         ·rename_i hj
          rw [if_pos hj] at b
          rw [List.getElem?_drop] at a b
          exact hr _ c v a b
         ·cases a⟩
       refine fin_read (v:=.agg ((vs.drop p).take n).toArray) (.fz (.agg h1.1 h1.2)) (by rw [hop]; rfl) (fun g hg hrd=>?_)
       have hgb:g b' = some (.cells vs.toArray t' (0,0)):=(hrd id b' rfl hb).trans hh
       have h5:=r_ldN (P:=P) hop hs.1 hv hgb hn (by simp; omega)
       have h6:vs.toArray.extract (0 * sz + p) (0 * sz + p + n) = ((vs.drop p).take n).toArray:=by simp
       rwa [h6] at h5
      ·cases e
     ·cases e
    ·rename_i t' sz' rows hσ
     split at e
     ·rename_i hsz
      obtain ⟨hsz,hp0,hnz⟩:=hsz
      subst hsz
      subst hp0
      subst hnz
      cases e
      have hi:i < rows.length:=hob
      obtain ⟨b',n',c,full,hβ,hh,hcap,hlen,hr⟩:=rows_at (s.ok.ok _ (lookS_mem hσ)) hi
      have hbb:b' = b:=by simp only [hβ,baseOf,Option.some.injEq] at hb; exact hb
      subst hbb
      have hle:i * n + n ≤ full.size:=by
       have:(i + 1) * n ≤ rows.length * n:=Nat.mul_le_mul_right _ hi
       rw [Nat.succ_mul] at this; omega
      have h1:FReps hF (rows.getD i []) (full.extract (i * n) (i * n + n)).toList :=
       ⟨by rw [hlen]; simp; omega,fun j c v a b=>by
        have hj:j < n:=by have:=(List.getElem?_eq_some_iff.1 a).1; rwa [hlen] at this
        rw [Array.getElem?_toList,Array.getElem?_extract_of_lt (by omega)] at b
        exact hr j c v a (by rw [Array.getElem?_eq_getElem (by omega)]; exact b)⟩
      refine fin_read (v:=.agg (full.extract (i * n) (i * n + n))) (.fz ?_) (by rw [hop]; rfl) (fun g hg hrd=>?_)
      ·have h2:=FRep.agg h1.1 h1.2
       rwa [Array.toArray_toList] at h2
      ·have hgb:g b' = some (.cells full t' (0,0)):=(hrd id b' rfl hb).trans hh
       exact r_ldN hop hs.1 hv hgb hn (by omega)
     ·cases e
    ·cases e
  ·cases e
 | len t x ty =>
  simp only [pv] at e
  have hu:=isSl_spec hs
  split at e
  ·rename_i y hx
   split at e
   case h_2=>cases e
   rename_i n f hy
   cases e
   have hxv:=fz_fz (ho _ _ hx)
   unfold asSl at hy
   split at hy
   case h_3=>cases hy
   case h_2 =>
    cases hy
    exact fin_read (.fz (.val _)) (by rw [hop]; rfl) (fun g _ _=>r_len_slice hop hu (fz_val (ho _ _ hx)))
   cases hy
   generalize hv:ev Tc x = v at hxv
   cases hxv with
   | sl0 f a c=>exact fin_read (.fz (.val _)) (by rw [hop]; rfl) (fun g _ _=>r_len_slice hop hu hv)
   | sl hb hnc hsz h1' hs' hr=>exact fin_read (.fz (.val _)) (by rw [hop]; rfl) (fun g _ _=>r_len_slice hop hu hv)
  ·rename_i id hx
   split at e
   ·rename_i t' sz' rows hσ
    cases e
    obtain ⟨vs,own,_⟩:=s.ok.ok _ (lookS_mem hσ)
    have h4:=ho _ _ hx
    generalize hv:ev Tc x = v at h4
    cases h4
    simp only at own
    generalize hn:rows.length = n at own
    generalize hβ:β id = v at own hv
    refine fin_read (.fz (.val _)) (by rw [hop]; rfl) (fun g _ _=>?_)
    cases own with
    | nil=>exact r_len_slice hop hu hv
    | at_=>exact r_len_slice hop hu hv
   ·cases e
  ·rename_i id sz1 i0 hx
   split at e
   ·rename_i t' sz' rows hσ
    cases e
    have ok:=s.ok.ok _ (lookS_mem hσ)
    have h4:=ho _ _ hx
    generalize hv:ev Tc x = v at h4
    cases h4 with
    | @ot _ _ _ n c b hβ hile =>
     obtain ⟨hn,hnc⟩:=rows_cap ok hβ
     subst hn
     exact fin_read (.fz (.val _)) (by rw [hop]; rfl) (fun g _ _=>r_len_slice hop hu hv)
   ·cases e
  ·cases e
 | lens t x =>
  simp only [pv] at e
  split at e
  ·rename_i s' hx
   cases e
   exact fin_read (.fz (.val _)) (by rw [hop]; rfl) (fun g _ _=>r_len_string hop (isStr_spec hs) (fz_val (ho _ _ hx)))
  ·cases e
 | cmin x y t =>
  simp only [pv] at e
  split at e
  ·rename_i k a k' b hx hy
   split at e
   ·rename_i hk
    subst hk
    cases e
    exact fin_read (.fz (.val _)) (by rw [hop]; rfl) (fun g _ _=>r_min2 hop (fz_val (ho _ _ hx)) (fz_val (ho _ _ hy)))
   ·cases e
  ·cases e
 | cmax x y t =>
  simp only [pv] at e
  split at e
  ·rename_i k a k' b hx hy
   split at e
   ·rename_i hk
    subst hk
    cases e
    exact fin_read (.fz (.val _)) (by rw [hop]; rfl) (fun g _ _=>r_max2 hop (fz_val (ho _ _ hx)) (fz_val (ho _ _ hy)))
   ·cases e
  ·cases e
 | bld t parts pl z =>
  simp only [pv] at e
  simp only [K.side,Bool.and_eq_true,beq_iff_eq] at hs
  split at e
  ·rename_i ps hps
   split at e
   ·rename_i cs hcs
    cases e
    obtain ⟨h1,h2⟩:=ofzp_ok ho hps
    have hz:FReps hF (z.map .val) z:=⟨by simp,fun j c v a b=>by rw [List.getElem?_map,b] at a; cases a; exact .val v⟩
    obtain ⟨us,h3,h4⟩:=fill_ok (vs:=parts.map fun p=>(p.1,ev Tc p.2)) hz (by rw [← h1,List.map_map]; rfl) (by rw [List.map_map]; exact h2) hcs
    exact fin_pure (.fz (.agg h4.1 h4.2)) (p_buildL hop (by simp) hs.1 (zeroIs_eq hs.2) h3)
   ·cases e
  ·cases e
 | sli t x lo hi ty sz =>
  simp only [pv] at e
  simp only [K.side,Bool.and_eq_true,beq_iff_eq] at hs
  obtain ⟨⟨h1,h2⟩,h3⟩:=hs
  have hu:=isSl_spec h1
  split at e
  ·rename_i y hx
   split at e
   ·rename_i n f hy
    split at e
    ·rename_i l k hlo hhi
     cases e
     obtain ⟨⟨h0l,hlk,hkn⟩,hsz'⟩:=hob
     have bl:=bnd_ok ho hlo
     have bk:=bnd_ok ho hhi
     obtain ⟨l,rfl⟩:=Int.eq_ofNat_of_zero_le h0l
     obtain ⟨k,rfl⟩:=Int.eq_ofNat_of_zero_le (Int.le_trans h0l hlk)
     have hlk':l ≤ k:=Int.ofNat_le.1 hlk
     have hkn':k ≤ n:=Int.ofNat_le.1 hkn
     have hxv:=fz_fz (ho _ _ hx)
     have e1:((k:Int) - (l:Int)).toNat = k - l:=by omega
     unfold asSl at hy
     split at hy
     case h_3=>cases hy
     case h_2 =>
      cases hy
      have hk0:k = 0:=by omega
      have hl0:l = 0:=by omega
      subst hk0
      subst hl0
      have hv:=fz_val (ho _ _ hx)
      refine fin_pure (.fz ?_) (p_slice hop hu h3 h2 hv (Nat.le_refl _) bl bk hlk' (Nat.le_refl _))
      exact .sl0 _ _ _
     cases hy
     generalize hv:ev Tc x = v at hxv
     cases hxv with
     | sl0 f a c =>
      have hk0:k = 0:=by omega
      have hl0:l = 0:=by omega
      subst hk0
      subst hl0
      refine fin_pure (.fz ?_) (p_slice hop hu h3 h2 hv (Nat.zero_le _) bl bk hlk' (Nat.le_refl _))
      exact .sl0 _ _ _
     | @sl n f b off c sz' full e' fz hb hnc hsz h1' hs' hr =>
      refine fin_pure (.fz ?_) (p_slice hop hu h3 h2 hv hnc bl bk hlk' hkn')
      rw [e1]
      simp only [Int.toNat_natCast]
      by_cases hkl:k = l
      ·subst hkl; rw [Nat.sub_self]; exact .sl0 _ _ _
      ·have hss:sz' = sz:=by rw [← hsz 0 (by omega)]; exact hsz' 0 (by omega)
       subst hss
       have hcl:c ≠ l:=by omega
       rw [if_neg hcl]
       have ha:(Addr.mk b off none).add (l * sz') = ⟨b,off + l * sz',none⟩:=by unfold Addr.add; split <;> simp_all
       simp only [Option.map_some,ha]
       have hm:(l + (k - l)) * sz' ≤ n * sz':=Nat.mul_le_mul_right _ (by omega)
       refine .sl hb (by omega) (fun i hi=>hsz _ (by omega)) (fun i hi=>h1' _ (by omega)) (by rw [Nat.add_mul] at hm; omega) (fun i j cc u hi e1 e2=>hr (l + i) j cc u (by omega) e1 ?_)
       rw [← e2,Nat.add_mul]; congr 1; omega
    ·cases e
   ·cases e
  ·rename_i id hx
   split at e
   ·rename_i t' sz' rows lo hσ
    split at e
    ·rename_i kk l hlo
     split at e
     ·rename_i hsz
      subst hsz
      cases e
      obtain ⟨⟨h0l,hle⟩,hpos⟩:=hob
      have ok:=s.ok.ok _ (lookS_mem hσ)
      obtain ⟨b,n,c,full,hβ,hb,hcap,_,_⟩:=rows_at ok hpos
      obtain ⟨hn,hnc⟩:=rows_cap ok hβ
      have h4:=ho _ _ hx
      generalize hv:ev Tc x = v at h4
      cases h4
      obtain ⟨l,rfl⟩:=Int.eq_ofNat_of_zero_le h0l
      have hle':l ≤ n:=by omega
      have:=p_slice (P:=P) (Tc:=Tc) (k:=n) hop hu h3 h2 (hv.trans hβ) hnc (.inr ⟨_,kk,rfl,fz_val (ho _ _ hlo)⟩) (.inl ⟨rfl,rfl⟩) hle' (Nat.le_refl _)
      refine fin_pure (.ot hβ hle') ?_
      have ha:(Addr.mk b 0 none).add (l * sz') = ⟨b,l * sz',none⟩:=by unfold Addr.add; split <;> simp_all
      simpa [ha] using this
     ·cases e
    ·cases e
   ·cases e
  ·cases e
 | ext x i =>
  simp only [pv] at e
  split at e
  ·rename_i cs hx
   split at e
   ·rename_i c rest hc
    cases e
    obtain ⟨vs,hv,hl,hr⟩:=frep_tup (fz_fz (ho _ _ hx))
    have hcc:=getElem?_drop_cons hc
    have hlt:i < vs.length:=by rw [hl]; exact (List.getElem?_eq_some_iff.1 hcc).1
    refine fin_pure (.fz (hr i c _ hcc (List.getElem?_eq_getElem hlt))) (p_val ?_)
    rw [hop]
    simp only [K.op,pval,ev] at hv ⊢
    rw [hv]; simp [List.getElem?_eq_getElem hlt]
   ·cases e
  ·cases e
 | mkf f a b =>
  simp only [pv] at e
  split at e
  ·rename_i xs ys h1 h2
   cases e
   have r1:=ofzs_ok ho h1
   have r2:=ofzs_ok ho h2
   refine fin_pure (.fz (.fn r1.1 r2.1 r1.2 r2.2)) (p_val ?_)
   rw [hop]
   simp [K.op,pval]
  ·cases e
 | mki t x =>
  simp only [pv] at e
  split at e
  ·rename_i y hx
   cases e
   refine fin_pure (.fz (.ifc (fz_fz (ho _ _ hx)))) (p_val ?_)
   rw [hop]
   simp only [K.side] at hs
   simp only [K.op,pval]
   split at hs
   ·cases hs
   ·cases hs
   ·rename_i h1 h2
    cases hu:P.underlying t with
    | none=>exact absurd hu h2
    | some d=>cases d <;> first | rfl | exact absurd hu (h1 _)
  ·cases e
 | _=>simp only [pv,reduceCtorEq] at e
end
end Go.Proofs.YtihdpjinaafenaaGreatDoor.Ab

/- The evaluator's operations: how they stand to the program's; what is reckoned, what is read. -/
namespace Go.Proofs.YtihdpjinaafenaaGreatDoor.Ce
section
variable {α : Type}
def dropR (l:List α):Nat → List α:=List.rec (motive:=fun _=>Nat → List α) (fun _=>[]) (fun c r ih j=>Nat.rec (c :: r) (fun j _=>ih j) j) l
theorem dropR_eq (l:List α):∀ j,dropR l j = l.drop j:=by
 induction l with
 | nil=>intro j; simp [dropR]
 | cons c r ih =>
  intro j
  cases j with
  | zero=>rfl
  | succ j=>exact ih j
def takeR (l:List α):Nat → List α:=List.rec (motive:=fun _=>Nat → List α) (fun _=>[]) (fun c _ ih j=>Nat.rec [] (fun j _=>c :: ih j) j) l
theorem takeR_eq (l:List α):∀ j,takeR l j = l.take j:=by
 induction l with
 | nil=>intro j; simp [takeR]
 | cons c r ih =>
  intro j
  cases j with
  | zero=>rfl
  | succ j=>show c :: takeR r j = _; rw [ih]; rfl
def appR (l k:List α):List α:=List.rec (motive:=fun _=>List α) k (fun c _ ih=>c :: ih) l
theorem appR_eq (l k:List α):appR l k = l ++ k:=by
 induction l with
 | nil=>rfl
 | cons c r ih=>show c :: appR r k = _; rw [ih]; rfl
def lenR (l:List α):Nat:=List.rec (motive:=fun _=>Nat) 0 (fun _ _ ih=>Nat.add ih 1) l
theorem lenR_eq (l:List α):lenR l = l.length:=by
 induction l with
 | nil=>rfl
 | cons c r ih=>show lenR r + 1 = _; rw [ih]; rfl
def leR (n:Nat) (l:List α):Bool:=List.rec (motive:=fun _=>Nat → Bool) (fun n=>Nat.beq n 0) (fun _ _ ih n=>Nat.rec true (fun n _=>ih n) n) l n
theorem leR_eq:∀ (n:Nat) (l:List α),leR n l = Nat.ble n l.length:=by
 intro n l
 induction l generalizing n with
 | nil=>cases n <;> rfl
 | cons c r ih =>
  cases n with
  | zero=>rfl
  | succ n=>exact ih n
def setR (v:α) (l:List α):Nat → List α:=List.rec (motive:=fun _=>Nat → List α) (fun _=>[]) (fun c r ih j=>Nat.rec (v :: r) (fun j _=>c :: ih j) j) l
theorem setR_eq (v:α) (l:List α):∀ j,setR v l j = l.set j v:=by
 induction l with
 | nil=>intro j; simp [setR]
 | cons c r ih =>
  intro j
  cases j with
  | zero=>rfl
  | succ j=>show c :: setR v r j = _; rw [ih]; rfl
theorem leR_lt (n:Nat) (l:List α):leR (n + 1) l = Nat.blt n l.length:=leR_eq _ _
end
open Go.Proofs.YtihdpjinaafenaaGreatDoor.Sl
open Ab (isOne isMany isSl isArr isIntT isStr zeroIs okCall)
mutual
def CV.val:CV → Value
 | .b x=>.bool x
 | .i k n=>.int k n
 | .s l=>.string (byt l)
 | .np=>.pointer none
 | .g n=>.pointer (some ⟨n,0,none⟩)
 | .ns=>.slice none 0 0
 | .nm=>.map none
 | .fn f x y=>.func (.func (f.nat - 1)) (CV.vals x).toArray (CV.vals y).toArray
 | .nf=>.nilFunc
 | .ifc t x=>.iface t x.val
 | .ni=>.nilIface
 | .agg cs=>.agg (CV.vals cs).toArray
 | .tup cs=>.tuple (CV.vals cs).toArray
 | _=>undef
def CV.vals:List CV → List Value
 | []=>[]
 | c :: cs=>c.val :: CV.vals cs
end
mutual
def CV.shut:CV → Bool
 | .p _ _ | .sl _ _ _ _ _ | .z _ | .m _ | .xi _ | .yl _=>false
 | .s l=>l.all (fun x=>Nat.blt x 256)
 | .fn _ x y=>CV.shuts x && CV.shuts y
 | .ifc _ x=>x.shut
 | .agg cs=>cs.all CV.one && CV.shuts cs
 | .tup cs=>CV.shuts cs
 | _=>true
def CV.shuts:List CV → Bool
 | []=>true
 | c :: cs=>c.shut && CV.shuts cs
end
mutual
theorem shut_ok (β:Bk):∀ c:CV,c.shut = true → VR β c c.val
 | .u,_=>.u
 | .b x,_=>.b x
 | .i k n,_=>.i k n
 | .s l,h=>.s l (by simpa [CV.shut] using h)
 | .p _ _,h=>by simp [CV.shut] at h
 | .np,_=>.np
 | .g n,_=>.g n
 | .sl _ _ _ _ _,h=>by simp [CV.shut] at h
 | .z _,h=>by simp [CV.shut] at h
 | .ns,_=>.ns
 | .m _,h=>by simp [CV.shut] at h
 | .xi _,h=>by simp [CV.shut] at h
 | .yl _,h=>by simp [CV.shut] at h
 | .nm,_=>.nm
 | .fn f x y,h=>by
  simp only [CV.shut,Bool.and_eq_true] at h
  exact .fn f (shuts_ok β x h.1) (shuts_ok β y h.2)
 | .nf,_=>.nf
 | .ifc t x,h=>by simp only [CV.shut] at h; exact .ifc t (shut_ok β x h)
 | .ni,_=>.ni
 | .agg cs,h=>by
  simp only [CV.shut,Bool.and_eq_true] at h
  exact .agg h.1 (shuts_ok β cs h.2)
 | .tup cs,h=>by simp only [CV.shut] at h; exact .tup (shuts_ok β cs h)
theorem shuts_ok (β:Bk):∀ cs:List CV,CV.shuts cs = true → VRs β cs (CV.vals cs)
 | [],_=>.nil
 | c :: cs,h=>by
  simp only [CV.shuts,Bool.and_eq_true] at h
  exact .cons (shut_ok β c h.1) (shuts_ok β cs h.2)
end
inductive CP where
 | t (p:Sp) | c (v:CV) | f (n:Pos) | g (n:Nat)
def CP.gf (x:CP):Bx (SL CV → CV):=CP.rec Sp.gf (fun v=>.mk fun _=>v) (fun n=>.mk fun _=>.fn n [] []) (fun n=>.mk fun _=>.g n) x
def CP.get (x:CP) (T:SL CV):CV:=x.gf.f T
def CP.op:CP → Operand
 | .t p=>.tmp (p.nat - 1)
 | .c v=>.const v.val
 | .f n=>.func (n.nat - 1)
 | .g n=>.global n
def CP.ok:CP → Bool
 | .c v=>v.shut
 | _=>true
theorem CP.get_ok {β:Bk} {T:SL CV} {Tc:Tm} (r:TR β T Tc) (x:CP) (h:x.ok = true):VR β (x.get T) (Sl.ev Tc x.op):=by
 cases x with
 | t p =>
  show VR β (p.gf.f T) (Tc (p.nat - 1))
  rw [Sp.gf_eq]; exact r.at p
 | c v=>exact shut_ok β v h
 | f n=>exact .fn (va:=[]) (vb:=[]) n .nil .nil
 | g n=>exact .g n
def iltb:Int → Int → Bool
 | .ofNat m,.ofNat n=>Nat.blt m n
 | .ofNat _,.negSucc _=>false
 | .negSucc _,.ofNat _=>true
 | .negSucc m,.negSucc n=>Nat.blt n m
def ieqb:Int → Int → Bool
 | .ofNat m,.ofNat n=>Nat.beq m n
 | .negSucc m,.negSucc n=>Nat.beq m n
 | _,_=>false
theorem iltb_eq (a b:Int):iltb a b = decide (a < b):=by
 rw [Bool.eq_iff_iff,decide_eq_true_eq]
 cases a <;> cases b <;> simp only [iltb,Nat.blt,Nat.ble_eq,Bool.false_eq_true,false_iff,true_iff,Int.ofNat_eq_natCast,Int.negSucc_eq] <;> omega
theorem ieqb_eq (a b:Int):ieqb a b = (a == b):=by
 rw [Bool.eq_iff_iff,beq_iff_eq]
 cases a <;> cases b <;> simp only [ieqb,Nat.beq_eq,Bool.false_eq_true,false_iff,Int.ofNat_eq_natCast,Int.negSucc_eq] <;> omega
def wrF (k:IntKind) (n:Int):Int:=match n with
 | .ofNat m=>bif Nat.ble m (match k with | .i8=>127 | .u8=>255 | .i16=>32767 | .u16=>65535 | .i32=>2147483647 | .u32=>4294967295 | .i64=>9223372036854775807 | .u64=>18446744073709551615) then .ofNat m else k.wrap (.ofNat m)
 | .negSucc m=>k.wrap (.negSucc m)
theorem wrF_eq (k:IntKind) (n:Int):wrF k n = k.wrap n:=by
 cases n with
 | negSucc m=>rfl
 | ofNat m =>
  unfold wrF
  simp only
  cases h:Nat.ble m (match k with | .i8=>127 | .u8=>255 | .i16=>32767 | .u16=>65535 | .i32=>2147483647 | .u32=>4294967295 | .i64=>9223372036854775807 | .u64=>18446744073709551615) with
  | false=>rfl
  | true =>
   simp only [cond_true]
   have h2:=Nat.le_of_ble_eq_true h
   cases k <;> simp [IntKind.wrap,IntKind.signed,IntKind.bits,Int.ofNat_eq_natCast] at h2 ⊢ <;> omega
end Go.Proofs.YtihdpjinaafenaaGreatDoor.Ce
