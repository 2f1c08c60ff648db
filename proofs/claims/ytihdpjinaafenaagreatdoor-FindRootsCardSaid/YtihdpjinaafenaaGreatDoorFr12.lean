import Derived.Test.YtihdpjinaafenaaGreatDoorFr11
noncomputable section
/- The evaluator: regions. -/
set_option linter.unusedVariables false
set_option linter.unusedSimpArgs false
namespace Go.Proofs.YtihdpjinaafenaaGreatDoor.Ce
open Go.Proofs.YtihdpjinaafenaaGreatDoor.Sl
open Ab (isOne isMany isSl isArr isIntT isStr zeroIs okCall)
def K.rd (k:K):SL CV → CH → Ro:=K.rec (motive:=fun _=>SL CV → CH → Ro) rMv rMv rPick rBin rBins rEq rEqst rNot rBnot rConv rCstr rNilc rFa rFd1 rFdN rIx rIxa rIxs rIxv rLd rLdN rLen rLens rLenm rMin rMax rBld rExt rMkf rMki rSli rSl0 rLku (fun _ _ _ _=>.no) (fun _ _ _ _=>.no) (fun _ _ _ _ _=>.no) (fun _ _ _ _ _ _=>.no) (fun _ _ _ _ _ _ _ _ _=>.no) (fun _ _ _ _ _ _ _=>.no) (fun _ _ _ _=>.no) (fun _ _ _ _ _ _ _ _=>.no) (fun _ _ _ _=>.no) (fun _ _ _ _ _ _ _=>.no) (fun _ _ _ _ _ _ _ _=>.no) (fun _ _ _ _ _ _=>.no) (fun _ _ _ _ _ _ _=>.no) (fun _ _ _ _ _=>.no) (fun _ _ _ _ _=>.no) rNeg rSlis rSlia rS2a rLdg rIxg rCvbs (fun _ _ _=>.no) k
def K.al (k:K):SL CV → Nat → Option Al:=K.rec (motive:=fun _=>SL CV → Nat → Option Al) (fun _ _ _=>none) (fun _ _ _=>none) (fun _ _ _ _ _=>none) (fun _ _ _ _ _ _ _=>none) (fun _ _ _ _ _ _ _=>none) (fun _ _ _ _ _ _ _ _=>none) (fun _ _ _ _ _ _ _ _=>none) (fun _ _ _ _=>none) (fun _ _ _ _=>none) (fun _ _ _ _ _ _=>none) (fun _ _ _ _ _=>none) (fun _ _ _=>none) (fun _ _ _ _ _ _=>none) (fun _ _ _ _ _ _=>none) (fun _ _ _ _ _ _ _=>none) (fun _ _ _ _ _ _ _=>none) (fun _ _ _ _ _ _ _ _=>none) (fun _ _ _ _ _=>none) (fun _ _ _ _ _ _ _=>none) (fun _ _ _ _=>none) (fun _ _ _ _ _=>none) (fun _ _ _ _ _=>none) (fun _ _ _ _=>none) (fun _ _ _ _=>none) (fun _ _ _ _ _=>none) (fun _ _ _ _ _=>none) (fun _ _ _ _ _ _=>none) (fun _ _ _ _=>none) (fun _ _ _ _ _=>none) (fun _ _ _ _=>none) (fun _ _ _ _ _ _ _ _=>none) (fun _ _ _ _ _ _ _=>none) (fun _ _ _ _ _ _ _ _ _=>none) lBox lAlc (fun _ _ _ _ _=>none) (fun _ _ _ _ _ _=>none) (fun _ _ _ _ _ _ _ _ _=>none) lBsl (fun _ _ _ _=>none) lMks lMkm (fun _ _ _ _ _ _ _=>none) (fun _ _ _ _ _ _ _ _=>none) (fun _ _ _ _ _ _=>none) (fun _ _ _ _ _ _ _=>none) (fun _ _ _ _ _=>none) (fun _ _ _ _ _=>none) (fun _ _ _ _=>none) (fun _ _ _ _ _ _=>none) (fun _ _ _ _ _ _ _ _ _=>none) (fun _ _ _ _ _=>none) (fun _ _ _ _ _=>none) (fun _ _ _ _ _ _ _ _ _=>none) (fun _ _ _ _ _ _=>none) (fun _ _ _=>none) k
def K.ac (k:K):SL CV → CH → Id → Nat → Ao:=K.rec (motive:=fun _=>SL CV → CH → Id → Nat → Ao) (fun _ _ _ _ _=>.no) (fun _ _ _ _ _=>.no) (fun _ _ _ _ _ _ _=>.no) (fun _ _ _ _ _ _ _ _ _=>.no) (fun _ _ _ _ _ _ _ _ _=>.no) (fun _ _ _ _ _ _ _ _ _ _=>.no) (fun _ _ _ _ _ _ _ _ _ _=>.no) (fun _ _ _ _ _ _=>.no) (fun _ _ _ _ _ _=>.no) (fun _ _ _ _ _ _ _ _=>.no) (fun _ _ _ _ _ _ _=>.no) (fun _ _ _ _ _=>.no) (fun _ _ _ _ _ _ _ _=>.no) (fun _ _ _ _ _ _ _ _=>.no) (fun _ _ _ _ _ _ _ _ _=>.no) (fun _ _ _ _ _ _ _ _ _=>.no) (fun _ _ _ _ _ _ _ _ _ _=>.no) (fun _ _ _ _ _ _ _=>.no) (fun _ _ _ _ _ _ _ _ _=>.no) (fun _ _ _ _ _ _=>.no) (fun _ _ _ _ _ _ _=>.no) (fun _ _ _ _ _ _ _=>.no) (fun _ _ _ _ _ _=>.no) (fun _ _ _ _ _ _=>.no) (fun _ _ _ _ _ _ _=>.no) (fun _ _ _ _ _ _ _=>.no) (fun _ _ _ _ _ _ _ _=>.no) (fun _ _ _ _ _ _=>.no) (fun _ _ _ _ _ _ _=>.no) (fun _ _ _ _ _ _=>.no) (fun _ _ _ _ _ _ _ _ _ _=>.no) (fun _ _ _ _ _ _ _ _ _=>.no) (fun _ _ _ _ _ _ _ _ _ _ _=>.no) (fun x0 x1 T H n ck=>aAl (lBox x0 x1 T ck) H n ck) (fun x0 x1 T H n ck=>aAl (lAlc x0 x1 T ck) H n ck) aSt aStN aApp (fun x0 x1 x2 x3 x4 T H n ck=>aAl (lBsl x0 x1 x2 x3 x4 T ck) H n ck) aBs0 (fun x0 x1 x2 x3 x4 x5 T H n ck=>aAl (lMks x0 x1 x2 x3 x4 x5 T ck) H n ck) (fun x0 x1 T H n ck=>aAl (lMkm x0 x1 T ck) H n ck) aMup aMen aMst aClr (fun _ _ _ _ _ _ _=>.no) (fun _ _ _ _ _ _ _=>.no) (fun _ _ _ _ _ _=>.no) (fun _ _ _ _ _ _ _ _=>.no) (fun _ _ _ _ _ _ _ _ _ _ _=>.no) (fun _ _ _ _ _ _ _=>.no) (fun _ _ _ _ _ _ _=>.no) (fun _ _ _ _ _ _ _ _ _ _ _=>.no) (fun _ _ _ _ _ _ _ _=>.no) (fun _ _ _ _ _=>.no) k
section
variable {P : Program} {N : Kn P} {β : Bk} {H : CH} {n0 : Id} {ck : Nat} {h : Heap} {T : SL CV} {Tc : Tm} {o : Oper}
theorem rd_ok (r:TR β T Tc) (hr:HR N.toKy β H n0 ck h) {k:K} (hs:k.side N = true) (hop:o.op = k.op):RoOk P β H h Tc o (k.rd T H):=by
 cases k <;> simp only [K.side,Bool.and_eq_true,beq_iff_eq,decide_eq_true_eq] at hs
 case mv x=>exact rMv_ok (H:=H) r hs (.inl hop)
 case asg x=>exact rMv_ok (H:=H) r hs (.inr hop)
 case pick c x y=>exact rPick_ok (H:=H) r hs.1.1 hs.1.2 hs.2 hop
 case bin op t x y ty=>exact rBin_ok (H:=H) r hs.1 hs.2 hop
 case bins op t x y ty=>exact rBins_ok (H:=H) r hs.1 hs.2 hop
 case eqc n c t x y ty=>exact rEq_ok (H:=H) r hs.1.1 hs.1.2 hs.2 hop
 case eqst n ks t x y ty =>
  refine rEqst_ok (N:=N) (H:=H) r hs.1.1 hs.1.2 ?_ hop
  have h2:=hs.2
  split at h2
  ·rename_i ks' e; rw [e,of_decide_eq_true h2]
  ·cases h2
 case not t x=>exact rNot_ok (H:=H) r hs hop
 case bnot t x=>exact rBnot_ok (H:=H) r hs hop
 case conv s d x k=>exact rConv_ok (H:=H) r hs.1.1 hs.1.2 hs.2 hop
 case cstr s d x=>exact rCstr_ok (H:=H) r hs.1.1 hs.1.2 hs.2 hop
 case nilc x=>exact rNilc_ok (H:=H) r hs hop
 case fa t x f off=>exact rFa_ok (H:=H) r hs.1 hs.2 hop
 case fd1 t x f off=>exact rFd1_ok (H:=H) r hs.1 hs.2 hop
 case fdN t x f off n=>exact rFdN_ok (H:=H) r hs.1 hs.2 hop
 case ix t x i e sz=>exact rIx_ok (H:=H) r hs.1.1.1.1 hs.1.1.1.2 hs.1.1.2 hs.1.2 hs.2 hop
 case ixa t x i e sz n=>exact rIxa_ok (H:=H) r hs.1.1.1.1 hs.1.1.1.2 hs.1.1.2 hs.1.2 hs.2 hop
 case ixs t x i=>exact rIxs_ok (H:=H) r hs.1.1 hs.1.2 hs.2 hop
 case ixv t x i e n=>exact rIxv_ok (H:=H) r hs.1.1.1.1 hs.1.1.1.2 hs.1.1.2 hs.1.2 hs.2 hop
 case ld t x=>exact rLd_ok (H:=H) r hr hs.1 hs.2 hop
 case ldN t x n=>exact rLdN_ok (H:=H) r hr hs.1.1 hs.1.2 hs.2 hop
 case len t x e=>exact rLen_ok (H:=H) r hs.1 hs.2 hop
 case lens t x=>exact rLens_ok (H:=H) r hs.1 hs.2 hop
 case lenm t x=>exact rLenm_ok (H:=H) r hr hs.1 hs.2 hop
 case cmin x y t=>exact rMin_ok (H:=H) r hs.1 hs.2 hop
 case cmax x y t=>exact rMax_ok (H:=H) r hs.1 hs.2 hop
 case bld t parts pl z =>
  refine rBld_ok (H:=H) r hs.1.1.1.1 ?_ hs.1.1.2 hs.1.2 hs.2 hop
  have:=hs.1.1.1.2
  simpa using this
 case ext x i=>exact rExt_ok (H:=H) r hs hop
 case mkf f xs ys=>exact rMkf_ok (H:=H) r hs.1 hs.2 hop
 case mki t x=>exact rMki_ok (H:=H) r hs.1 hs.2 hop
 case sli t x lo hi e sz=>exact rSli_ok (H:=H) r hs.1.1.1.1.1 hs.1.1.1.1.2 hs.1.1.1.2 hs.1.1.2 hs.1.2 hs.2 hop
 case sl0 t x hi mx e=>exact rSl0_ok (H:=H) r hs.1.1.1.1 hs.1.1.1.2 hs.1.1.2 hs.1.2 hs.2 hop
 case neg t x=>exact rNeg_ok (H:=H) r hs hop
 case slis t x lo hi=>exact rSlis_ok (H:=H) r hs.1.1.1 hs.1.1.2 hs.1.2 hs.2 hop
 case slia t x lo hi e sz n=>exact rSlia_ok r hr hs.1.1.1.1.1 hs.1.1.1.1.2 hs.1.1.1.2 hs.1.1.2 hs.1.2 hs.2 hop
 case s2a t x n=>exact rS2a_ok (H:=H) r hs.1 hs.2 hop
 case ldg t g id=>exact rLdg_ok r hr hs.1 hs.2 hop
 case ixg t g id i e sz n=>exact rIxg_ok r hr hs.1.1.1.1 hs.1.1.1.2 hs.1.1.2 hs.1.2 hs.2 hop
 case cvbs s d x e=>exact rCvbs_ok r hr hs.1.1.1 hs.1.1.2 hs.1.2 hs.2 hop
 case lku t s x k ok et z=>exact rLku_ok (H:=H) r hr hs.1.1.1.1.1 hs.1.1.1.1.2 hs.1.1.1.2 hs.1.1.2 hs.1.2 hs.2 hop
 all_goals trivial
theorem al_ok (r:TR β T Tc) {k:K} (hs:k.side N = true) (hop:o.op = k.op):AlOk N β Tc o ck (k.al T ck):=by
 cases k <;> simp only [K.side,Bool.and_eq_true,beq_iff_eq,decide_eq_true_eq,Bool.not_eq_true'] at hs
 case box t x=>exact lBox_ok r hs hop
 case alc t zs=>exact lAlc_ok (T:=T) hs.1.1.1 hs.1.1.2 hs.1.2 hop
 case bsl t m parts e sz=>exact lBsl_ok r hs.1.1.1.1.1.1 hs.1.1.1.1.1.2 hs.1.1.1.1.2 hs.1.1.1.2 hs.1.1.2 hs.1.2 hs.2 hop
 case mks t x y e sz zs=>exact lMks_ok r hs.1.1.1.1.1.1.1 hs.1.1.1.1.1.1.2 hs.1.1.1.1.1.2 hs.1.1.1.1.2 hs.1.1.1.2 hs.1.1.2 hs.1.2 hop
 case mkm t s=>exact lMkm_ok (T:=T) hs hop
 all_goals trivial
theorem ac_ok (r:TR β T Tc) (hr:HR N.toKy β H n0 ck h) {k:K} (hs:k.side N = true) (hop:o.op = k.op):AoOk N β H ck h Tc o (k.ac T H n0 ck):=by
 have al:=al_ok (ck:=ck) r hs hop
 cases k <;> simp only [K.side,Bool.and_eq_true,beq_iff_eq,decide_eq_true_eq,Bool.not_eq_true'] at hs
 case box t x=>exact aAl_ok hr al
 case alc t zs=>exact aAl_ok hr al
 case bsl t m parts e sz=>exact aAl_ok hr al
 case mks t x y e sz zs=>exact aAl_ok hr al
 case mkm t s=>exact aAl_ok hr al
 case st t x y=>exact aSt_ok r hr hs.1.1.1 hs.1.1.2 hs.1.2 hs.2 hop
 case stN t x y n=>exact aStN_ok r hr hs.1.1.1 hs.1.1.2 hs.1.2 hs.2 hop
 case app t tx x y e e' sz=>exact aApp_ok r hr hs.1.1.1.1.1 hs.1.1.1.1.2 hs.1.1.1.2 hs.1.1.2 hs.1.2 hs.2 hop
 case bs0 t e=>exact aBs0_ok (T:=T) hr hs.1 hs.2 hop
 case mup t s m k v=>exact aMup_ok r hr hs.1.1.1 hs.1.1.2 hs.1.2 hs.2 hop
 case men t s m k et z=>exact aMen_ok r hr hs.1.1.1.1.1 hs.1.1.1.1.2 hs.1.1.1.2 hs.1.1.2 hs.1.2 hs.2 hop
 case mst t m k v=>exact aMst_ok r hr hs.1.1 hs.1.2 hs.2 hop
 case clr t x e sz zs=>exact aClr_ok r hr hs.1.1.1.1.1.1 hs.1.1.1.1.1.2 hs.1.1.1.1.2 hs.1.1.1.2 hs.1.1.2 hs.1.2 hs.2 hop
 all_goals trivial
theorem isAct_rd {k:K} (h:k.rd T H ≠ .no):isAct k.op = false:=by
 cases k <;> first | rfl | exact absurd rfl h
theorem isAct_ac {k:K} (h:k.ac T H n0 ck ≠ .no):isAct k.op = true:=by
 cases k <;> first | rfl | exact absurd rfl h
end
inductive EN where
 | r (d:Sp) (k:K) (q:Bool)
 | a (d:Option Sp) (k:K) (q:Bool)
 | cl (d:Option Sp) (f:Pos) (args:List CP) (tys:List Nat) (q:Bool)
 | cv (d:Option Sp) (x:CP) (args:List CP) (tys:List Nat) (q:Bool)
 | pre (i:Nat) (d:Sp) (k:K) | bnd (i:Nat) (d:Sp) (k:K)
 | gd (p:Sp) (b:Bool) (x:EN)
abbrev EN.R (d:Sp) (k:K):EN:=.r d k false
abbrev EN.Q (d:Sp) (k:K):EN:=.r d k true
abbrev EN.A (d:Sp) (k:K):EN:=.a (some d) k false
abbrev EN.B (d:Sp) (k:K):EN:=.a (some d) k true
abbrev CF1:=Pos → List CV → CH → Id → Nat → Ao
abbrev YF:=Id → List CV → CH → Id → Nat → Ao
structure CF where
 c:CF1
 y:YF
abbrev RS:=List (Id × Nat)
abbrev ES:=List (Nat × Al)
structure St where
 T:SL CV
 H:CH
 n:Id
 ck:Nat
 rs:RS
 E:ES
def quietOk (rs:RS) (H:CH):Bool:=List.rec (motive:=fun _=>Bool) true (fun e _ ih=>Bool.rec false ih (Nat.beq (hget e.1 H).st e.2)) rs
theorem quietOk_eq (rs:RS) (H:CH):quietOk rs H = rs.all fun e=>Nat.beq (hget e.1 H).st e.2:=by
 induction rs with
 | nil=>rfl
 | cons e r ih =>
  show (Bool.rec false (quietOk r H) (Nat.beq (hget e.1 H).st e.2):Bool) = _
  rw [ih,List.all_cons]
  cases Nat.beq (hget e.1 H).st e.2 <;> rfl
def lookE (i:Nat):ES → Option Al
 | []=>none
 | e :: r=>bif Nat.beq i e.1 then some e.2 else lookE i r
def EN.d:EN → Option Sp
 | .r d _ _=>some d
 | .a d _ _=>d
 | .cl d _ _ _ _=>d
 | .cv d _ _ _ _=>d
 | .pre _ d _=>some d
 | .bnd _ d _=>some d
 | .gd _ _ x=>x.d
section
variable {ρ : Type}
def b1 (x:CP) (F:CV → CH → Ro):Bx (SL CV → CH → Ro):=Bx.rec (fun fx=>.mk fun T H=>F (fx T) H) x.gf
def b2 (x y:CP) (F:CV → CV → CH → Ro):Bx (SL CV → CH → Ro):=Bx.rec (fun fx=>Bx.rec (fun fy=>.mk fun T H=>F (fx T) (fy T) H) y.gf) x.gf
def b3 (x y z:CP) (F:CV → CV → CV → CH → Ro):Bx (SL CV → CH → Ro):=Bx.rec (fun fx=>Bx.rec (fun fy=>Bx.rec (fun fz=>.mk fun T H=>F (fx T) (fy T) (fz T) H) z.gf) y.gf) x.gf
def b1a (x:CP) (F:CV → CH → Id → Nat → Ao):Bx (SL CV → CH → Id → Nat → Ao):=Bx.rec (fun fx=>.mk fun T H n ck=>F (fx T) H n ck) x.gf
def b2a (x y:CP) (F:CV → CV → CH → Id → Nat → Ao):Bx (SL CV → CH → Id → Nat → Ao):=Bx.rec (fun fx=>Bx.rec (fun fy=>.mk fun T H n ck=>F (fx T) (fy T) H n ck) y.gf) x.gf
def b1l (x:CP) (F:CV → Nat → Option Al):Bx (SL CV → Nat → Option Al):=Bx.rec (fun fx=>.mk fun T ck=>F (fx T) ck) x.gf
theorem b1_eq (x:CP) (F:CV → CH → Ro) (T:SL CV) (H:CH):(b1 x F).f T H = F (x.get T) H:=by
 unfold b1 CP.get
 cases x.gf; rfl
theorem b2_eq (x y:CP) (F:CV → CV → CH → Ro) (T:SL CV) (H:CH):(b2 x y F).f T H = F (x.get T) (y.get T) H:=by
 unfold b2 CP.get
 cases x.gf; cases y.gf; rfl
theorem b3_eq (x y z:CP) (F:CV → CV → CV → CH → Ro) (T:SL CV) (H:CH):(b3 x y z F).f T H = F (x.get T) (y.get T) (z.get T) H:=by
 unfold b3 CP.get
 cases x.gf; cases y.gf; cases z.gf; rfl
theorem b1a_eq (x:CP) (F:CV → CH → Id → Nat → Ao) (T:SL CV) (H:CH) (n:Id) (ck:Nat):(b1a x F).f T H n ck = F (x.get T) H n ck:=by
 unfold b1a CP.get
 cases x.gf; rfl
theorem b2a_eq (x y:CP) (F:CV → CV → CH → Id → Nat → Ao) (T:SL CV) (H:CH) (n:Id) (ck:Nat):(b2a x y F).f T H n ck = F (x.get T) (y.get T) H n ck:=by
 unfold b2a CP.get
 cases x.gf; cases y.gf; rfl
theorem b1l_eq (x:CP) (F:CV → Nat → Option Al) (T:SL CV) (ck:Nat):(b1l x F).f T ck = F (x.get T) ck:=by
 unfold b1l CP.get
 cases x.gf; rfl
end
def K.rdF (k:K):Bx (SL CV → CH → Ro):=K.rec (motive:=fun _=>Bx (SL CV → CH → Ro)) (fun x=>b1 x (fun a _=>.ok a)) (fun x=>b1 x (fun a _=>.ok a)) (fun c x y=>b3 c x y (fun c x y _=>fPick c x y)) (fun op _ x y _=>b2 x y (fun a b _=>fBin op a b)) (fun op _ x y _=>b2 x y (fun a b _=>fBins op a b)) (fun n c _ x y _=>b2 x y (fun a b _=>fEq n c a b)) (fun n ks _ x y _=>b2 x y (fun a b _=>fEqst n ks a b)) (fun _ x=>b1 x (fun a _=>fNot a)) (fun _ x=>b1 x (fun a _=>fBnot a)) (fun _ _ x k=>b1 x (fun a _=>fConv a k)) (fun _ _ x=>b1 x (fun a _=>fCstr a)) (fun x=>b1 x (fun a _=>fNilc a)) (fun _ x _ off=>b1 x (fun a _=>fFa a off)) (fun _ x _ off=>b1 x (fun a _=>fFd1 a off)) (fun _ x _ off n=>b1 x (fun a _=>fFdN a off n)) (fun _ x i _ sz=>b2 x i (fun a b _=>fIx a b sz)) (fun _ x i _ sz n=>b2 x i (fun a b _=>fIxa a b sz n)) (fun _ x i=>b2 x i (fun a b _=>fIxs a b)) (fun _ x i _ n=>b2 x i (fun a b _=>fIxv a b n)) (fun _ x=>b1 x fLd) (fun _ x n=>b1 x (fun a H=>fLdN a n H)) (fun _ x _=>b1 x (fun a _=>fLen a)) (fun _ x=>b1 x (fun a _=>fLens a)) (fun _ x=>b1 x fLenm) (fun x y _=>b2 x y (fun a b _=>fMin a b)) (fun x y _=>b2 x y (fun a b _=>fMax a b)) (fun z0 z1 z2 z3=>.mk (K.rd (.bld z0 z1 z2 z3))) (fun x i=>b1 x (fun a _=>fExt a i)) (fun z0 z1 z2=>.mk (K.rd (.mkf z0 z1 z2))) (fun z0 z1=>.mk (K.rd (.mki z0 z1))) (fun z0 z1 z2 z3 z4 z5=>.mk (K.rd (.sli z0 z1 z2 z3 z4 z5))) (fun z0 z1 z2 z3 z4=>.mk (K.rd (.sl0 z0 z1 z2 z3 z4))) (fun z0 z1 z2 z3 z4 z5 z6=>.mk (K.rd (.lku z0 z1 z2 z3 z4 z5 z6))) (fun z0 z1=>.mk (K.rd (.box z0 z1))) (fun z0 z1=>.mk (K.rd (.alc z0 z1))) (fun z0 z1 z2=>.mk (K.rd (.st z0 z1 z2))) (fun z0 z1 z2 z3=>.mk (K.rd (.stN z0 z1 z2 z3))) (fun z0 z1 z2 z3 z4 z5 z6=>.mk (K.rd (.app z0 z1 z2 z3 z4 z5 z6))) (fun z0 z1 z2 z3 z4=>.mk (K.rd (.bsl z0 z1 z2 z3 z4))) (fun z0 z1=>.mk (K.rd (.bs0 z0 z1))) (fun z0 z1 z2 z3 z4 z5=>.mk (K.rd (.mks z0 z1 z2 z3 z4 z5))) (fun z0 z1=>.mk (K.rd (.mkm z0 z1))) (fun z0 z1 z2 z3 z4=>.mk (K.rd (.mup z0 z1 z2 z3 z4))) (fun z0 z1 z2 z3 z4 z5=>.mk (K.rd (.men z0 z1 z2 z3 z4 z5))) (fun z0 z1 z2 z3=>.mk (K.rd (.mst z0 z1 z2 z3))) (fun z0 z1 z2 z3 z4=>.mk (K.rd (.clr z0 z1 z2 z3 z4))) (fun z0 z1 z2=>.mk (K.rd (.call z0 z1 z2))) (fun z0 z1 z2=>.mk (K.rd (.callv z0 z1 z2))) (fun _ x=>b1 x (fun a _=>fNeg a)) (fun z0 z1 z2 z3=>.mk (K.rd (.slis z0 z1 z2 z3))) (fun z0 z1 z2 z3 z4 z5 z6=>.mk (K.rd (.slia z0 z1 z2 z3 z4 z5 z6))) (fun _ x n=>b1 x (fun a _=>fS2a a n)) (fun _ _ id=>.mk (fun _ H=>fLd (.p id 0) H)) (fun _ _ id i _ sz n=>b1 i (fun a _=>fIxa (.p id 0) a sz n)) (fun _ _ x _=>b1 x sCvbs) (fun z0=>.mk (K.rd (.other z0))) k
def K.alF (k:K):Bx (SL CV → Nat → Option Al):=K.rec (motive:=fun _=>Bx (SL CV → Nat → Option Al)) (fun z0=>.mk (K.al (.mv z0))) (fun z0=>.mk (K.al (.asg z0))) (fun z0 z1 z2=>.mk (K.al (.pick z0 z1 z2))) (fun z0 z1 z2 z3 z4=>.mk (K.al (.bin z0 z1 z2 z3 z4))) (fun z0 z1 z2 z3 z4=>.mk (K.al (.bins z0 z1 z2 z3 z4))) (fun z0 z1 z2 z3 z4 z5=>.mk (K.al (.eqc z0 z1 z2 z3 z4 z5))) (fun z0 z1 z2 z3 z4 z5=>.mk (K.al (.eqst z0 z1 z2 z3 z4 z5))) (fun z0 z1=>.mk (K.al (.not z0 z1))) (fun z0 z1=>.mk (K.al (.bnot z0 z1))) (fun z0 z1 z2 z3=>.mk (K.al (.conv z0 z1 z2 z3))) (fun z0 z1 z2=>.mk (K.al (.cstr z0 z1 z2))) (fun z0=>.mk (K.al (.nilc z0))) (fun z0 z1 z2 z3=>.mk (K.al (.fa z0 z1 z2 z3))) (fun z0 z1 z2 z3=>.mk (K.al (.fd1 z0 z1 z2 z3))) (fun z0 z1 z2 z3 z4=>.mk (K.al (.fdN z0 z1 z2 z3 z4))) (fun z0 z1 z2 z3 z4=>.mk (K.al (.ix z0 z1 z2 z3 z4))) (fun z0 z1 z2 z3 z4 z5=>.mk (K.al (.ixa z0 z1 z2 z3 z4 z5))) (fun z0 z1 z2=>.mk (K.al (.ixs z0 z1 z2))) (fun z0 z1 z2 z3 z4=>.mk (K.al (.ixv z0 z1 z2 z3 z4))) (fun z0 z1=>.mk (K.al (.ld z0 z1))) (fun z0 z1 z2=>.mk (K.al (.ldN z0 z1 z2))) (fun z0 z1 z2=>.mk (K.al (.len z0 z1 z2))) (fun z0 z1=>.mk (K.al (.lens z0 z1))) (fun z0 z1=>.mk (K.al (.lenm z0 z1))) (fun z0 z1 z2=>.mk (K.al (.cmin z0 z1 z2))) (fun z0 z1 z2=>.mk (K.al (.cmax z0 z1 z2))) (fun z0 z1 z2 z3=>.mk (K.al (.bld z0 z1 z2 z3))) (fun z0 z1=>.mk (K.al (.ext z0 z1))) (fun z0 z1 z2=>.mk (K.al (.mkf z0 z1 z2))) (fun z0 z1=>.mk (K.al (.mki z0 z1))) (fun z0 z1 z2 z3 z4 z5=>.mk (K.al (.sli z0 z1 z2 z3 z4 z5))) (fun z0 z1 z2 z3 z4=>.mk (K.al (.sl0 z0 z1 z2 z3 z4))) (fun z0 z1 z2 z3 z4 z5 z6=>.mk (K.al (.lku z0 z1 z2 z3 z4 z5 z6))) (fun t x=>b1l x (fun a ck=>eBox t a ck)) (fun z0 z1=>.mk (K.al (.alc z0 z1))) (fun z0 z1 z2=>.mk (K.al (.st z0 z1 z2))) (fun z0 z1 z2 z3=>.mk (K.al (.stN z0 z1 z2 z3))) (fun z0 z1 z2 z3 z4 z5 z6=>.mk (K.al (.app z0 z1 z2 z3 z4 z5 z6))) (fun z0 z1 z2 z3 z4=>.mk (K.al (.bsl z0 z1 z2 z3 z4))) (fun z0 z1=>.mk (K.al (.bs0 z0 z1))) (fun z0 z1 z2 z3 z4 z5=>.mk (K.al (.mks z0 z1 z2 z3 z4 z5))) (fun z0 z1=>.mk (K.al (.mkm z0 z1))) (fun z0 z1 z2 z3 z4=>.mk (K.al (.mup z0 z1 z2 z3 z4))) (fun z0 z1 z2 z3 z4 z5=>.mk (K.al (.men z0 z1 z2 z3 z4 z5))) (fun z0 z1 z2 z3=>.mk (K.al (.mst z0 z1 z2 z3))) (fun z0 z1 z2 z3 z4=>.mk (K.al (.clr z0 z1 z2 z3 z4))) (fun z0 z1 z2=>.mk (K.al (.call z0 z1 z2))) (fun z0 z1 z2=>.mk (K.al (.callv z0 z1 z2))) (fun z0 z1=>.mk (K.al (.neg z0 z1))) (fun z0 z1 z2 z3=>.mk (K.al (.slis z0 z1 z2 z3))) (fun z0 z1 z2 z3 z4 z5 z6=>.mk (K.al (.slia z0 z1 z2 z3 z4 z5 z6))) (fun z0 z1 z2=>.mk (K.al (.s2a z0 z1 z2))) (fun z0 z1 z2=>.mk (K.al (.ldg z0 z1 z2))) (fun z0 z1 z2 z3 z4 z5 z6=>.mk (K.al (.ixg z0 z1 z2 z3 z4 z5 z6))) (fun z0 z1 z2 z3=>.mk (K.al (.cvbs z0 z1 z2 z3))) (fun z0=>.mk (K.al (.other z0))) k
def K.acF (k:K):Bx (SL CV → CH → Id → Nat → Ao):=K.rec (motive:=fun _=>Bx (SL CV → CH → Id → Nat → Ao)) (fun z0=>.mk (K.ac (.mv z0))) (fun z0=>.mk (K.ac (.asg z0))) (fun z0 z1 z2=>.mk (K.ac (.pick z0 z1 z2))) (fun z0 z1 z2 z3 z4=>.mk (K.ac (.bin z0 z1 z2 z3 z4))) (fun z0 z1 z2 z3 z4=>.mk (K.ac (.bins z0 z1 z2 z3 z4))) (fun z0 z1 z2 z3 z4 z5=>.mk (K.ac (.eqc z0 z1 z2 z3 z4 z5))) (fun z0 z1 z2 z3 z4 z5=>.mk (K.ac (.eqst z0 z1 z2 z3 z4 z5))) (fun z0 z1=>.mk (K.ac (.not z0 z1))) (fun z0 z1=>.mk (K.ac (.bnot z0 z1))) (fun z0 z1 z2 z3=>.mk (K.ac (.conv z0 z1 z2 z3))) (fun z0 z1 z2=>.mk (K.ac (.cstr z0 z1 z2))) (fun z0=>.mk (K.ac (.nilc z0))) (fun z0 z1 z2 z3=>.mk (K.ac (.fa z0 z1 z2 z3))) (fun z0 z1 z2 z3=>.mk (K.ac (.fd1 z0 z1 z2 z3))) (fun z0 z1 z2 z3 z4=>.mk (K.ac (.fdN z0 z1 z2 z3 z4))) (fun z0 z1 z2 z3 z4=>.mk (K.ac (.ix z0 z1 z2 z3 z4))) (fun z0 z1 z2 z3 z4 z5=>.mk (K.ac (.ixa z0 z1 z2 z3 z4 z5))) (fun z0 z1 z2=>.mk (K.ac (.ixs z0 z1 z2))) (fun z0 z1 z2 z3 z4=>.mk (K.ac (.ixv z0 z1 z2 z3 z4))) (fun z0 z1=>.mk (K.ac (.ld z0 z1))) (fun z0 z1 z2=>.mk (K.ac (.ldN z0 z1 z2))) (fun z0 z1 z2=>.mk (K.ac (.len z0 z1 z2))) (fun z0 z1=>.mk (K.ac (.lens z0 z1))) (fun z0 z1=>.mk (K.ac (.lenm z0 z1))) (fun z0 z1 z2=>.mk (K.ac (.cmin z0 z1 z2))) (fun z0 z1 z2=>.mk (K.ac (.cmax z0 z1 z2))) (fun z0 z1 z2 z3=>.mk (K.ac (.bld z0 z1 z2 z3))) (fun z0 z1=>.mk (K.ac (.ext z0 z1))) (fun z0 z1 z2=>.mk (K.ac (.mkf z0 z1 z2))) (fun z0 z1=>.mk (K.ac (.mki z0 z1))) (fun z0 z1 z2 z3 z4 z5=>.mk (K.ac (.sli z0 z1 z2 z3 z4 z5))) (fun z0 z1 z2 z3 z4=>.mk (K.ac (.sl0 z0 z1 z2 z3 z4))) (fun z0 z1 z2 z3 z4 z5 z6=>.mk (K.ac (.lku z0 z1 z2 z3 z4 z5 z6))) (fun t x=>b1a x (fun a H n ck=>aAl (eBox t a ck) H n ck)) (fun z0 z1=>.mk (K.ac (.alc z0 z1))) (fun _ x y=>b2a x y eSt) (fun _ x y m=>b2a x y (fun a b H n ck=>eStN a b m H n ck)) (fun _ _ x y e _ sz=>b2a x y (fun a b H n ck=>eApp a b e sz H n ck)) (fun z0 z1 z2 z3 z4=>.mk (K.ac (.bsl z0 z1 z2 z3 z4))) (fun z0 z1=>.mk (K.ac (.bs0 z0 z1))) (fun z0 z1 z2 z3 z4 z5=>.mk (K.ac (.mks z0 z1 z2 z3 z4 z5))) (fun z0 z1=>.mk (K.ac (.mkm z0 z1))) (fun z0 z1 z2 z3 z4=>.mk (K.ac (.mup z0 z1 z2 z3 z4))) (fun z0 z1 z2 z3 z4 z5=>.mk (K.ac (.men z0 z1 z2 z3 z4 z5))) (fun z0 z1 z2 z3=>.mk (K.ac (.mst z0 z1 z2 z3))) (fun z0 z1 z2 z3 z4=>.mk (K.ac (.clr z0 z1 z2 z3 z4))) (fun z0 z1 z2=>.mk (K.ac (.call z0 z1 z2))) (fun z0 z1 z2=>.mk (K.ac (.callv z0 z1 z2))) (fun z0 z1=>.mk (K.ac (.neg z0 z1))) (fun z0 z1 z2 z3=>.mk (K.ac (.slis z0 z1 z2 z3))) (fun z0 z1 z2 z3 z4 z5 z6=>.mk (K.ac (.slia z0 z1 z2 z3 z4 z5 z6))) (fun z0 z1 z2=>.mk (K.ac (.s2a z0 z1 z2))) (fun z0 z1 z2=>.mk (K.ac (.ldg z0 z1 z2))) (fun z0 z1 z2 z3 z4 z5 z6=>.mk (K.ac (.ixg z0 z1 z2 z3 z4 z5 z6))) (fun z0 z1 z2 z3=>.mk (K.ac (.cvbs z0 z1 z2 z3))) (fun z0=>.mk (K.ac (.other z0))) k
theorem rdF_eq (k:K) (T:SL CV) (H:CH):k.rdF.f T H = k.rd T H:=by
 cases k <;> first | rfl | exact b1_eq _ _ _ _ | exact b2_eq _ _ _ _ _ | exact b3_eq _ _ _ _ _ _
theorem alF_eq (k:K) (T:SL CV) (ck:Nat):k.alF.f T ck = k.al T ck:=by
 cases k <;> first | rfl | exact b1l_eq _ _ _ _
theorem acF_eq (k:K) (T:SL CV) (H:CH) (n:Id) (ck:Nat):k.acF.f T H n ck = k.ac T H n ck:=by
 cases k <;> first | rfl | exact b1a_eq _ _ _ _ _ _ | exact b2a_eq _ _ _ _ _ _ _
abbrev KT:=SL CV → CH → Id → Nat → RS → ES → Ao
abbrev K4:=SL CV → CH → Id → Nat → Ao
def roK (r:Ro) (κ:CV → Ao):Ao:=Ro.rec .no κ (fun v _=>κ v) r
def roQ (r:Ro) (H:CH) (rs:RS) (κ:CV → RS → Ao):Ao:=Ro.rec .no (fun v=>κ v rs) (fun v id=>κ v ((id,(hget id H).st) :: rs)) r
def aoK (a:Ao) (κ:CV → CH → Id → Nat → Ao):Ao:=Ao.rec .no κ a
def aoQ (a:Ao) (rs:RS) (κ:CV → CH → Id → Nat → Ao):Ao:=Ao.rec .no (fun v H n ck=>Bool.rec .no (κ v H n ck) (quietOk rs H)) a
def alK (a:Option Al) (κ:Al → Ao):Ao:=Option.rec .no κ a
abbrev RK:=CV → CH → Id → Nat → RS → ES → Ao
def gdV (c:CV) (b:Bool) (F:RK → Ao) (κ:RK) (H:CH) (n:Id) (ck:Nat) (rs:RS) (E:ES):Ao:=G3.rec .no (κ .u H n ck rs E) (Bool.rec (κ .u H n ck rs E) (F κ) b) (Bool.rec (F κ) (κ .u H n ck rs E) b) (CV.g3 c)
theorem gdV_eq (c:CV) (b:Bool) (F:RK → Ao) (κ:RK) (H:CH) (n:Id) (ck:Nat) (rs:RS) (E:ES):gdV c b F κ H n ck rs E = match c with
 | .b t=>bif t == b then F κ else κ .u H n ck rs E
 | .u=>κ .u H n ck rs E
 | _=>.no:=by
 cases c <;> first | rfl | (rename_i t; cases t <;> cases b <;> rfl)
def cvF (cf:CF) (x:CV) (args:List CV) (H:CH) (n:Id) (ck:Nat):Ao:=match x with
 | .fn f xs ys=>cf.c f (appR xs (appR args ys)) H n ck
 | .yl id=>cf.y id args H n ck
 | _=>.no
def putC (d:Option Sp) (v:CV) (T:SL CV):SL CV:=Option.rec T (fun p=>sset p v T) d
def putF (d:Option Sp):Bx (CV → SL CV → SL CV):=Option.rec (.mk fun _ T=>T) Sp.sf d
theorem putF_eq (d:Option Sp) (v:CV) (T:SL CV):(putF d).f v T = putC d v T:=by
 cases d with
 | none=>rfl
 | some p=>exact Sp.sf_eq p v T
def getsF (l:List CP):Bx (SL CV → List CV):=List.rec (.mk fun _=>[]) (fun x _ ih=>Bx.rec (fun fx=>Bx.rec (fun g=>.mk fun T=>fx T :: g T) ih) x.gf) l
theorem getsF_eq (l:List CP) (T:SL CV):(getsF l).f T = gets l T:=by
 induction l with
 | nil=>rfl
 | cons x l ih =>
  show (Bx.rec (motive:=fun _=>Bx (SL CV → List CV)) (fun fx=>Bx.rec (motive:=fun _=>Bx (SL CV → List CV)) (fun g=>.mk fun T=>fx T :: g T) (getsF l)) x.gf).f T = x.gf.f T :: gets l T
  rw [← ih]
  cases x.gf; cases getsF l; rfl
def actF (q:Bool) (d:Option Sp) (A:CF → SL CV → CH → Id → Nat → Ao):Bx (CF → KT → KT):=Bx.rec (fun fd=>Bool.rec (.mk fun cf κ T H n ck rs E=>aoK (A cf T H n ck) (fun v H n ck=>κ (fd v T) H n ck [] E)) (.mk fun cf κ T H n ck rs E=>aoQ (A cf T H n ck) rs (fun v H n ck=>κ (fd v T) H n ck rs E)) q) (putF d)
abbrev VF:=CF → SL CV → CH → Id → Nat → RS → ES → RK → Ao
def actV (q:Bool) (A:CF → SL CV → CH → Id → Nat → Ao):Bx VF:=Bool.rec (.mk fun cf T H n ck rs E κ=>aoK (A cf T H n ck) (fun v H n ck=>κ v H n ck [] E)) (.mk fun cf T H n ck rs E κ=>aoQ (A cf T H n ck) rs (fun v H n ck=>κ v H n ck rs E)) q
def EN.V (x:EN):Bx VF:=EN.rec (motive:=fun _=>Bx VF)
 (fun _ k q=>Bx.rec (fun fk=>Bool.rec (.mk fun cf T H n ck rs E κ=>roK (fk T H) (fun v=>κ v H n ck rs E)) (.mk fun cf T H n ck rs E κ=>roQ (fk T H) H rs (fun v rs=>κ v H n ck rs E)) q) k.rdF)
 (fun _ k q=>Bx.rec (fun fk=>actV q (fun _=>fk)) k.acF)
 (fun _ f args _ q=>Bx.rec (fun ga=>actV q (fun cf T H n ck=>cf.c f (ga T) H n ck)) (getsF args))
 (fun _ x args _ q=>Bx.rec (fun fx=>Bx.rec (fun ga=>actV q (fun cf T H n ck=>cvF cf (fx T) (ga T) H n ck)) (getsF args)) x.gf)
 (fun _ _ _=>.mk fun _ _ _ _ _ _ _ _=>.no) (fun _ _ _=>.mk fun _ _ _ _ _ _ _ _=>.no) (fun _ _ _ _=>.mk fun _ _ _ _ _ _ _ _=>.no) x
def EN.F (x:EN):Bx (CF → KT → KT):=EN.rec (motive:=fun _=>Bx (CF → KT → KT))
 (fun d k q=>Bx.rec (fun fk=>Bx.rec (fun fd=>Bool.rec (.mk fun cf κ T H n ck rs E=>roK (fk T H) (fun v=>κ (fd v T) H n ck rs E)) (.mk fun cf κ T H n ck rs E=>roQ (fk T H) H rs (fun v rs=>κ (fd v T) H n ck rs E)) q) d.sf) k.rdF)
 (fun d k q=>Bx.rec (fun fk=>actF q d (fun _=>fk)) k.acF)
 (fun d f args _ q=>Bx.rec (fun ga=>actF q d (fun cf T H n ck=>cf.c f (ga T) H n ck)) (getsF args))
 (fun d x args _ q=>Bx.rec (fun fx=>Bx.rec (fun ga=>actF q d (fun cf T H n ck=>cvF cf (fx T) (ga T) H n ck)) (getsF args)) x.gf)
 (fun i _ k=>Bx.rec (fun fk=>.mk fun cf κ T H n ck rs E=>alK (fk T 0) (fun y=>κ T H n ck rs ((i,y) :: E))) k.alF)
 (fun i d _=>Bx.rec (fun fd=>.mk fun cf κ T H n ck rs E=>alK (lookE i E) (fun y=>κ (fd (y.v n) T) (hset n y.o H) n.succ ck rs E)) d.sf)
 (fun p b x _=>Bx.rec (fun fp=>Bx.rec (fun fd=>Bx.rec (fun fx=>.mk fun cf κ T H n ck rs E=>gdV (fp T) b (fx cf T H n ck rs E) (fun v H n ck rs E=>κ (fd v T) H n ck rs E) H n ck rs E) x.V) (putF x.d)) p.gf) x
def gosF (l:List EN):Bx (CF → KT → KT):=List.rec (.mk fun _ κ=>κ) (fun x _ ih=>Bx.rec (fun f=>Bx.rec (fun g=>.mk fun cf κ=>f cf (g cf κ)) ih) x.F) l
def aft (d:Option Sp) (q:Bool) (s:St) (a:Ao):Option St:=match a with
 | .no=>none
 | .ok v H n ck=>bif q then (bif quietOk s.rs H then some ⟨putC d v s.T,H,n,ck,s.rs,s.E⟩ else none) else some ⟨putC d v s.T,H,n,ck,[],s.E⟩
theorem aft_eq (d:Option Sp) (q:Bool) (s:St) (a:Ao):aft d q s a = match a with
 | .no=>none
 | .ok v H n ck=>bif q then (bif quietOk s.rs H then some ⟨putC d v s.T,H,n,ck,s.rs,s.E⟩ else none) else some ⟨putC d v s.T,H,n,ck,[],s.E⟩:=rfl
def stR (d:Sp) (k:K) (q:Bool) (_:CF) (s:St):Option St:=match k.rd s.T s.H with
 | .no=>none
 | .ok v=>some ⟨sset d v s.T,s.H,s.n,s.ck,s.rs,s.E⟩
 | .rd v id=>bif q then some ⟨sset d v s.T,s.H,s.n,s.ck,(id,(hget id s.H).st) :: s.rs,s.E⟩ else some ⟨sset d v s.T,s.H,s.n,s.ck,s.rs,s.E⟩
theorem stR_eq (d:Sp) (k:K) (q:Bool) (cf:CF) (s:St):stR d k q cf s = match k.rd s.T s.H with
 | .no=>none
 | .ok v=>some ⟨sset d v s.T,s.H,s.n,s.ck,s.rs,s.E⟩
 | .rd v id=>bif q then some ⟨sset d v s.T,s.H,s.n,s.ck,(id,(hget id s.H).st) :: s.rs,s.E⟩ else some ⟨sset d v s.T,s.H,s.n,s.ck,s.rs,s.E⟩:=rfl
def stA (d:Option Sp) (k:K) (q:Bool) (_:CF) (s:St):Option St:=aft d q s (k.ac s.T s.H s.n s.ck)
def stCl (d:Option Sp) (f:Pos) (args:List CP) (_:List Nat) (q:Bool) (cf:CF) (s:St):Option St:=aft d q s (cf.c f (gets args s.T) s.H s.n s.ck)
def stCv (d:Option Sp) (x:CP) (args:List CP) (_:List Nat) (q:Bool) (cf:CF) (s:St):Option St:=aft d q s (cvF cf (x.get s.T) (gets args s.T) s.H s.n s.ck)
def stPre (i:Nat) (_:Sp) (k:K) (_:CF) (s:St):Option St:=match k.al s.T 0 with
 | some y=>some ⟨s.T,s.H,s.n,s.ck,s.rs,(i,y) :: s.E⟩
 | none=>none
theorem stPre_eq (i:Nat) (d:Sp) (k:K) (cf:CF) (s:St):stPre i d k cf s = match k.al s.T 0 with
 | some y=>some ⟨s.T,s.H,s.n,s.ck,s.rs,(i,y) :: s.E⟩
 | none=>none:=rfl
def stBnd (i:Nat) (d:Sp) (_:K) (_:CF) (s:St):Option St:=match lookE i s.E with
 | some y=>some ⟨sset d (y.v s.n) s.T,hset s.n y.o s.H,s.n.succ,s.ck,s.rs,s.E⟩
 | none=>none
theorem stBnd_eq (i:Nat) (d:Sp) (k:K) (cf:CF) (s:St):stBnd i d k cf s = match lookE i s.E with
 | some y=>some ⟨sset d (y.v s.n) s.T,hset s.n y.o s.H,s.n.succ,s.ck,s.rs,s.E⟩
 | none=>none:=rfl
def EN.go (x:EN):CF → St → Option St :=
 EN.rec (motive:=fun _=>CF → St → Option St) stR stA stCl stCv stPre stBnd (fun p b x ih cf s=>match sget p s.T with
  | .b t=>bif t == b then ih cf s else some ⟨putC x.d .u s.T,s.H,s.n,s.ck,s.rs,s.E⟩
  | .u=>some ⟨putC x.d .u s.T,s.H,s.n,s.ck,s.rs,s.E⟩
  | _=>none) x
def gos (cf:CF) (l:List EN):St → Option St:=List.rec (motive:=fun _=>St → Option St) some (fun x _ ih s=>Option.rec none ih (x.go cf s)) l
theorem gos_cons (cf:CF) (x:EN) (l:List EN) (s:St):gos cf (x :: l) s = match x.go cf s with | some s'=>gos cf l s' | none=>none:=by
 show Option.rec (motive:=fun _=>Option St) none (gos cf l) (x.go cf s) = _
 cases x.go cf s <;> rfl
section
variable {cf : CF} {κ : KT} {T : SL CV} {H : CH} {n : Id} {ck : Nat} {rs : RS} {E : ES}
def onS (o:Option St) (κ:KT):Ao:=match o with
 | some s=>κ s.T s.H s.n s.ck s.rs s.E
 | none=>.no
theorem actF_eq (q:Bool) (d:Option Sp) (A:CF → SL CV → CH → Id → Nat → Ao):(actF q d A).f cf κ T H n ck rs E = onS (aft d q ⟨T,H,n,ck,rs,E⟩ (A cf T H n ck)) κ:=by
 obtain ⟨fd,hd⟩:∃ fd,putF d = .mk fd:=by cases h:putF d; exact ⟨_,rfl⟩
 have e:∀ v T,fd v T = putC d v T:=fun v T=>by rw [← putF_eq,hd]; rfl
 unfold actF
 rw [hd]
 cases q with
 | false =>
  show aoK (A cf T H n ck) (fun v H n ck=>κ (fd v T) H n ck [] E) = _
  simp only [e]
  cases A cf T H n ck <;> rfl
 | true =>
  show aoQ (A cf T H n ck) rs (fun v H n ck=>κ (fd v T) H n ck rs E) = _
  simp only [e]
  cases A cf T H n ck with
  | no=>rfl
  | ok v H n ck =>
   show (Bool.rec Ao.no (κ (putC d v T) H n ck rs E) (quietOk rs H):Ao) = onS (bif quietOk rs H then some (⟨putC d v T,H,n,ck,rs,E⟩:St) else none) κ
   cases quietOk rs H <;> rfl
theorem Bx.out {α:Type} (b:Bx α):∃ f,b = .mk f ∧ b.f = f:=by cases b; exact ⟨_,rfl,rfl⟩
def EN.late:EN → Bool
 | .pre _ _ _ | .bnd _ _ _ | .gd _ _ _=>false
 | _=>true
def EN.gok:EN → Bool
 | .gd _ _ x=>x.late
 | _=>true
theorem actV_eq (q:Bool) (d:Option Sp) (A:CF → SL CV → CH → Id → Nat → Ao):(actV q A).f cf T H n ck rs E (fun v H n ck rs E=>κ (putC d v T) H n ck rs E) = onS (aft d q ⟨T,H,n,ck,rs,E⟩ (A cf T H n ck)) κ:=by
 cases q with
 | false =>
  show aoK (A cf T H n ck) (fun v H n ck=>κ (putC d v T) H n ck [] E) = _
  cases A cf T H n ck <;> rfl
 | true =>
  show aoQ (A cf T H n ck) rs (fun v H n ck=>κ (putC d v T) H n ck rs E) = _
  cases A cf T H n ck with
  | no=>rfl
  | ok v H n ck =>
   show (Bool.rec Ao.no (κ (putC d v T) H n ck rs E) (quietOk rs H):Ao) = onS (bif quietOk rs H then some (⟨putC d v T,H,n,ck,rs,E⟩:St) else none) κ
   cases quietOk rs H <;> rfl
theorem V_eq:∀ (x:EN),x.late = true → x.V.f cf T H n ck rs E (fun v H n ck rs E=>κ (putC x.d v T) H n ck rs E) = onS (x.go cf ⟨T,H,n,ck,rs,E⟩) κ:=by
 intro x
 cases x with
 | r d k q =>
  intro _
  obtain ⟨fk,h1,h2⟩:=k.rdF.out
  have ek:fk T H = k.rd T H:=by rw [← h2]; exact rdF_eq k T H
  show (Bx.rec (motive:=fun _=>Bx VF) (fun fk=>Bool.rec (.mk fun cf T H n ck rs E κ=>roK (fk T H) (fun v=>κ v H n ck rs E)) (.mk fun cf T H n ck rs E κ=>roQ (fk T H) H rs (fun v rs=>κ v H n ck rs E)) q) k.rdF).f cf T H n ck rs E (fun v H n ck rs E=>κ (sset d v T) H n ck rs E) = onS (stR d k q cf ⟨T,H,n,ck,rs,E⟩) κ
  rw [h1,stR_eq]
  cases q with
  | false =>
   show roK (fk T H) (fun v=>κ (sset d v T) H n ck rs E) = _
   rw [ek]
   simp only
   cases k.rd T H <;> rfl
  | true =>
   show roQ (fk T H) H rs (fun v rs=>κ (sset d v T) H n ck rs E) = _
   rw [ek]
   simp only
   cases k.rd T H <;> rfl
 | a d k q =>
  intro _
  obtain ⟨fk,h1,h2⟩:=k.acF.out
  show (Bx.rec (motive:=fun _=>Bx VF) (fun fk=>actV q (fun _=>fk)) k.acF).f cf T H n ck rs E (fun v H n ck rs E=>κ (putC d v T) H n ck rs E) = onS (aft d q ⟨T,H,n,ck,rs,E⟩ (k.ac T H n ck)) κ
  rw [h1]
  refine (actV_eq q d (fun _=>fk)).trans ?_
  rw [← h2,acF_eq]
 | cl d f args tys q =>
  intro _
  obtain ⟨ga,h1,h2⟩:=(getsF args).out
  show (Bx.rec (motive:=fun _=>Bx VF) (fun ga=>actV q (fun cf T H n ck=>cf.c f (ga T) H n ck)) (getsF args)).f cf T H n ck rs E (fun v H n ck rs E=>κ (putC d v T) H n ck rs E) = onS (aft d q ⟨T,H,n,ck,rs,E⟩ (cf.c f (gets args T) H n ck)) κ
  rw [h1]
  refine (actV_eq q d (fun cf T H n ck=>cf.c f (ga T) H n ck)).trans ?_
  rw [← h2,getsF_eq]
 | cv d x args tys q =>
  intro _
  obtain ⟨ga,h1,h2⟩:=(getsF args).out
  obtain ⟨fx,h3,h4⟩:=x.gf.out
  show (Bx.rec (motive:=fun _=>Bx VF) (fun fx=>Bx.rec (motive:=fun _=>Bx VF) (fun ga=>actV q (fun cf T H n ck=>cvF cf (fx T) (ga T) H n ck)) (getsF args)) x.gf).f cf T H n ck rs E (fun v H n ck rs E=>κ (putC d v T) H n ck rs E) = onS (aft d q ⟨T,H,n,ck,rs,E⟩ (cvF cf (x.get T) (gets args T) H n ck)) κ
  rw [h1,h3]
  refine (actV_eq q d (fun cf T H n ck=>cvF cf (fx T) (ga T) H n ck)).trans ?_
  rw [← h2,← h4,getsF_eq]; rfl
 | pre i d k=>intro h; cases h
 | bnd i d k=>intro h; cases h
 | gd p b x=>intro h; cases h
theorem F_eq:∀ (x:EN) (T:SL CV) (H:CH) (n:Id) (ck:Nat) (rs:RS) (E:ES),x.gok = true → x.F.f cf κ T H n ck rs E = onS (x.go cf ⟨T,H,n,ck,rs,E⟩) κ:=by
 intro x
 cases x with
 | r d k q =>
  intro T H n ck rs E hg
  obtain ⟨fk,h1,h2⟩:=k.rdF.out
  obtain ⟨fd,h3,h4⟩:=(d.sf (α:=CV)).out
  have ek:fk T H = k.rd T H:=by rw [← h2]; exact rdF_eq k T H
  have ed:∀ v,fd v T = sset d v T:=fun v=>by rw [← h4]; exact Sp.sf_eq d v T
  show (Bx.rec (motive:=fun _=>Bx (CF → KT → KT)) (fun fk=>Bx.rec (motive:=fun _=>Bx (CF → KT → KT)) (fun fd=>Bool.rec (.mk fun cf κ T H n ck rs E=>roK (fk T H) (fun v=>κ (fd v T) H n ck rs E)) (.mk fun cf κ T H n ck rs E=>roQ (fk T H) H rs (fun v rs=>κ (fd v T) H n ck rs E)) q) d.sf) k.rdF).f cf κ T H n ck rs E = onS (stR d k q cf ⟨T,H,n,ck,rs,E⟩) κ
  rw [h1,h3,stR_eq]
  cases q with
  | false =>
   show roK (fk T H) (fun v=>κ (fd v T) H n ck rs E) = _
   rw [ek]
   simp only [ed]
   cases k.rd T H <;> rfl
  | true =>
   show roQ (fk T H) H rs (fun v rs=>κ (fd v T) H n ck rs E) = _
   rw [ek]
   simp only [ed]
   cases k.rd T H <;> rfl
 | a d k q =>
  intro T H n ck rs E hg
  obtain ⟨fk,h1,h2⟩:=k.acF.out
  show (Bx.rec (motive:=fun _=>Bx (CF → KT → KT)) (fun fk=>actF q d (fun _=>fk)) k.acF).f cf κ T H n ck rs E = onS (aft d q ⟨T,H,n,ck,rs,E⟩ (k.ac T H n ck)) κ
  rw [h1]
  refine (actF_eq q d (fun _=>fk)).trans ?_
  rw [← h2,acF_eq]
 | cl d f args tys q =>
  intro T H n ck rs E hg
  obtain ⟨ga,h1,h2⟩:=(getsF args).out
  show (Bx.rec (motive:=fun _=>Bx (CF → KT → KT)) (fun ga=>actF q d (fun cf T H n ck=>cf.c f (ga T) H n ck)) (getsF args)).f cf κ T H n ck rs E = onS (aft d q ⟨T,H,n,ck,rs,E⟩ (cf.c f (gets args T) H n ck)) κ
  rw [h1]
  refine (actF_eq q d (fun cf T H n ck=>cf.c f (ga T) H n ck)).trans ?_
  rw [← h2,getsF_eq]
 | cv d x args tys q =>
  intro T H n ck rs E hg
  obtain ⟨ga,h1,h2⟩:=(getsF args).out
  obtain ⟨fx,h3,h4⟩:=x.gf.out
  show (Bx.rec (motive:=fun _=>Bx (CF → KT → KT)) (fun fx=>Bx.rec (motive:=fun _=>Bx (CF → KT → KT)) (fun ga=>actF q d (fun cf T H n ck=>cvF cf (fx T) (ga T) H n ck)) (getsF args)) x.gf).f cf κ T H n ck rs E = onS (aft d q ⟨T,H,n,ck,rs,E⟩ (cvF cf (x.get T) (gets args T) H n ck)) κ
  rw [h1,h3]
  refine (actF_eq q d (fun cf T H n ck=>cvF cf (fx T) (ga T) H n ck)).trans ?_
  rw [← h2,← h4,getsF_eq]; rfl
 | pre i d k =>
  intro T H n ck rs E hg
  obtain ⟨fk,h1,h2⟩:=k.alF.out
  show (Bx.rec (motive:=fun _=>Bx (CF → KT → KT)) (fun fk=>.mk fun cf κ T H n ck rs E=>alK (fk T 0) (fun y=>κ T H n ck rs ((i,y) :: E))) k.alF).f cf κ T H n ck rs E = onS (stPre i d k cf ⟨T,H,n,ck,rs,E⟩) κ
  rw [h1,stPre_eq]
  show alK (fk T 0) (fun y=>κ T H n ck rs ((i,y) :: E)) = _
  rw [← h2,alF_eq]
  simp only
  cases k.al T 0 <;> rfl
 | bnd i d k =>
  intro T H n ck rs E hg
  obtain ⟨fd,h3,h4⟩:=(d.sf (α:=CV)).out
  have ed:∀ v,fd v T = sset d v T:=fun v=>by rw [← h4]; exact Sp.sf_eq d v T
  show (Bx.rec (motive:=fun _=>Bx (CF → KT → KT)) (fun fd=>.mk fun cf κ T H n ck rs E=>alK (lookE i E) (fun y=>κ (fd (y.v n) T) (hset n y.o H) n.succ ck rs E)) d.sf).f cf κ T H n ck rs E = onS (stBnd i d k cf ⟨T,H,n,ck,rs,E⟩) κ
  rw [h3,stBnd_eq]
  show alK (lookE i E) (fun y=>κ (fd (y.v n) T) (hset n y.o H) n.succ ck rs E) = _
  simp only [ed]
  cases lookE i E <;> rfl
 | gd p b x =>
  intro T H n ck rs E hg
  obtain ⟨fp,h1,h2⟩:=(p.gf (α:=CV)).out
  obtain ⟨fd,h3,h4⟩:=(putF x.d).out
  obtain ⟨fx,h5,h6⟩:=x.V.out
  have ed:∀ v,fd v T = putC x.d v T:=fun v=>by rw [← h4]; exact putF_eq x.d v T
  have ep:fp T = sget p T:=by rw [← h2]; exact Sp.gf_eq p T
  have ih:=V_eq (cf:=cf) (κ:=κ) (T:=T) (H:=H) (n:=n) (ck:=ck) (rs:=rs) (E:=E) x hg
  rw [h6] at ih
  show (Bx.rec (motive:=fun _=>Bx (CF → KT → KT)) (fun fp=>Bx.rec (motive:=fun _=>Bx (CF → KT → KT)) (fun fd=>Bx.rec (motive:=fun _=>Bx (CF → KT → KT)) (fun fx=>.mk fun cf κ T H n ck rs E=>gdV (fp T) b (fx cf T H n ck rs E) (fun v H n ck rs E=>κ (fd v T) H n ck rs E) H n ck rs E) x.V) (putF x.d)) p.gf).f cf κ T H n ck rs E = onS (match sget p T with
   | .b t=>bif t == b then x.go cf ⟨T,H,n,ck,rs,E⟩ else some (⟨putC x.d .u T,H,n,ck,rs,E⟩:St)
   | .u=>some ⟨putC x.d .u T,H,n,ck,rs,E⟩
   | _=>none) κ
  rw [h1,h3,h5]
  show gdV (fp T) b (fx cf T H n ck rs E) (fun v H n ck rs E=>κ (fd v T) H n ck rs E) H n ck rs E = _
  simp only [ed]
  rw [gdV_eq,ep,ih]
  cases sget p T with
  | b t=>simp only; cases t == b <;> rfl
  | _=>rfl
theorem gosF_eq:∀ (l:List EN) (T:SL CV) (H:CH) (n:Id) (ck:Nat) (rs:RS) (E:ES),l.all EN.gok = true → (gosF l).f cf κ T H n ck rs E = onS (gos cf l ⟨T,H,n,ck,rs,E⟩) κ
 | [],_,_,_,_,_,_,_=>rfl
 | x :: l,T,H,n,ck,rs,E,hg=>by
  simp only [List.all_cons,Bool.and_eq_true] at hg
  obtain ⟨f,h1,h2⟩:=x.F.out
  obtain ⟨g,h3,h4⟩:=(gosF l).out
  show (Bx.rec (motive:=fun _=>Bx (CF → KT → KT)) (fun f=>Bx.rec (motive:=fun _=>Bx (CF → KT → KT)) (fun g=>.mk fun cf κ=>f cf (g cf κ)) (gosF l)) x.F).f cf κ T H n ck rs E = _
  rw [h1,h3,gos_cons]
  show f cf (g cf κ) T H n ck rs E = _
  rw [← h2,← h4,F_eq _ _ _ _ _ _ _ hg.1]
  cases x.go cf ⟨T,H,n,ck,rs,E⟩ with
  | none=>rfl
  | some s1=>exact gosF_eq l _ _ _ _ _ _ hg.2
end
def dn (d:Option Sp):Option Nat:=d.map fun p=>p.nat - 1
def EN.op:EN → Op
 | .r _ k _ | .a _ k _ | .pre _ _ k | .bnd _ _ k=>k.op
 | .cl _ f args tys _=>(K.call f args tys).op
 | .cv _ x args tys _=>(K.callv x args tys).op
 | .gd _ _ x=>x.op
def EN.gu:EN → Option (Nat × Bool)
 | .gd p b _=>some (p.nat - 1,b)
 | _=>none
def EN.strip (x:EN):Option Nat × Op × Option (Nat × Bool):=(dn x.d,x.op,x.gu)
variable {P : Program}
def EN.plain:EN → Bool
 | .gd _ _ _ | .pre _ _ _ | .bnd _ _ _=>false
 | _=>true
def EN.side (N:Kn P):EN → Bool
 | .r _ k _ | .a _ k _ | .bnd _ _ k=>k.side N
 | .pre _ _ k=>k.side N
 | .cl _ f args tys _=>(K.call f args tys).side N
 | .cv _ x args tys _=>(K.callv x args tys).side N
 | .gd _ _ x=>x.plain && x.side N
def EN.okN (M:Nat) (x:EN):Bool:=(match x.d with | some p=>decide (p.nat - 1 < M) | none=>true) && (match x.gu with | some (t,_)=>decide (t < 1000000000) | none=>true)
end Go.Proofs.YtihdpjinaafenaaGreatDoor.Ce

/- The evaluator: a region's entries one behind the other. -/
namespace Go.Proofs.YtihdpjinaafenaaGreatDoor.Ce
open Go.Proofs.YtihdpjinaafenaaGreatDoor.Sl
open Ab (isOne isMany isSl isArr isIntT isStr zeroIs okCall)
variable {P : Program}
def strip3 (ops:Array Oper) (o:Oper):Option Nat × Op × Option (Nat × Bool):=(o.dst,o.op,match o.guard with
 | none=>none
 | some (j,b)=>match (ops[j]?).bind (·.dst) with
  | some t=>some (t,b)
  | none=>some (1000000000,b))
theorem okCall_spec {f : FuncId} (h : okCall P f = true) : ∃ fn, P.funcs[f]? = some fn ∧ (fn.name == "runtime.NumGoroutine") = false ∧ fn.body.isNone = false := by
 unfold Ab.okCall at h
 split at h
 ·rename_i fn hf
  simp only [Bool.and_eq_true,Bool.not_eq_true'] at h
  exact ⟨fn,hf,h.1,h.2⟩
 ·cases h
def Sem (N:Kn P) (β:Bk) (s:St) (h:Heap) (Tc:Tm):Prop:=TR β s.T Tc ∧ HR N.toKy β s.H s.n s.ck h
structure After (N:Kn P) (β:Bk) (s:St) (h:Heap) (s':St) (Tc':Tm) (h':Heap):Prop where
 out:∃ β',β.le β' ∧ Sem N β' s' h' Tc'
 keep:Keep β s.H s'.H h h'
 mono:∀ p,(hget p s.H).st ≤ (hget p s'.H).st
section
variable {N : Kn P} {β β' : Bk} {s s' s1 : St} {h h' h1 : Heap} {Tc Tc' : Tm} {o : Oper} {cf : CF}
theorem After.here (x:Sem N β s h Tc):After N β s h s Tc h:=⟨⟨β,Bk.le_refl _,x⟩,Keep.refl _ _ _,fun _=>Nat.le_refl _⟩
theorem After.trans (l:β.le β') (k:Keep β s.H s1.H h h1) (m:∀ p,(hget p s.H).st ≤ (hget p s1.H).st) (b:After N β' s1 h1 s' Tc' h'):After N β s h s' Tc' h':=by
 obtain ⟨⟨β2,l2,x⟩,k2,m2⟩:=b
 exact ⟨⟨β2,Bk.le_trans l l2,x⟩,Keep.trans k l k2 m2,fun p=>Nat.le_trans (m p) (m2 p)⟩
def CfOk1 (N:Kn P) (cf:CF1):Prop:=∀ (f:Pos) (args:List CV) (vs:List Value) (H:CH) (n:Id) (ck:Nat) (β:Bk) (h:Heap) (v:CV) (H':CH) (n':Id) (ck':Nat),
 cf f args H n ck = .ok v H' n' ck' → HR N.toKy β H n ck h → VRs β args vs → okCall P (f.nat - 1) = true ∧ SCalls P (f.nat - 1) vs.toArray h (Aft N β H ck h v H' n' ck')
def YfOk (N:Kn P) (cf:YF):Prop:=∀ (id:Id) (args:List CV) (vs:List Value) (H:CH) (n:Id) (ck:Nat) (β:Bk) (h:Heap) (v:CV) (H':CH) (n':Id) (ck':Nat) (x:Blk),
 cf id args H n ck = .ok v H' n' ck' → HR N.toKy β H n ck h → VRs β args vs → β id = some x → ∃ r:Loop,h x.b = some (.loop r) ∧ vs.length = r.params.size ∧ SRound P x.b r.fn (setPs r.params vs.toArray r.tmps) r.assign r.body h (Aft N β H ck h v H' n' ck')
def CfOk (N:Kn P) (cf:CF):Prop:=CfOk1 N cf.c ∧ YfOk N cf.y
theorem put_dn {β:Bk} {T:SL CV} {Tc:Tm} (r:TR β T Tc) (d:Option Sp) {c:CV} {v:Value} (hv:VR β c v):TR β (putC d c T) (put Tc (dn d) v):=by
 cases d with
 | none=>exact r
 | some p=>exact r.put p hv
theorem aft_after {s:St} {d:Option Sp} {q:Bool} {v:CV} {H:CH} {n:Id} {ck:Nat} (x:Sem N β s h Tc) (e:aft d q s (.ok v H n ck) = some s') {u:Value} {h':Heap} (a:Aft N β s.H s.ck h v H n ck u h'):After N β s h s' (put Tc (dn d) u) h' ∧ s'.H = H ∧ s'.E = s.E ∧ (q = true → quietOk s.rs H = true ∧ s'.rs = s.rs) ∧ (q = false → s'.rs = []):=by
 obtain ⟨⟨β',l,hr,hv⟩,k,m⟩:=a
 have key:∀ rs',After N β s h ⟨putC d v s.T,H,n,ck,rs',s.E⟩ (put Tc (dn d) u) h':=fun rs'=>⟨⟨β',l,put_dn (x.1.le l) d hv,hr⟩,k,m⟩
 rw [aft_eq] at e
 cases q with
 | false=>cases e; exact ⟨key _,rfl,rfl,fun e=>(by cases e),fun _=>rfl⟩
 | true =>
  simp only [cond_true] at e
  cases hq:quietOk s.rs H with
  | false=>rw [hq] at e; cases e
  | true=>rw [hq] at e; cases e; exact ⟨key _,rfl,rfl,fun _=>⟨rfl,rfl⟩,fun e=>by cases e⟩
theorem act_sop (hc:CfOk N cf) (x:Sem N β s h Tc) {y:EN} (hp:∀ d k q,y ≠ .r d k q) (hpl:y.plain = true) (hs:y.side N = true) (hop:o.op = y.op) (e:y.go cf s = some s') :
  ∃ (d:Option Sp) (q:Bool) (v:CV) (H:CH) (n:Id) (ck:Nat),d = y.d ∧ aft d q s (.ok v H n ck) = some s' ∧ isAct o.op = true ∧ SOp P o (ev Tc) h (Aft N β s.H s.ck h v H n ck) ∧ (match y with | .a _ _ q' | .cl _ _ _ _ q' | .cv _ _ _ _ q'=>q' = q | _=>False):=by
 cases y with
 | r d k q=>exact absurd rfl (hp d k q)
 | a d k q =>
  have e:aft d q s (k.ac s.T s.H s.n s.ck) = some s':=e
  have ok:=ac_ok (N:=N) x.1 x.2 (k:=k) hs hop
  have hact:=isAct_ac (k:=k) (T:=s.T) (H:=s.H) (n0:=s.n) (ck:=s.ck)
  cases ha:k.ac s.T s.H s.n s.ck with
  | no=>rw [ha] at e; cases e
  | ok v H n ck =>
   rw [ha] at e ok hact
   exact ⟨d,q,v,H,n,ck,rfl,e,by rw [hop]; exact hact (by simp),ok,rfl⟩
 | cl d f args tys q =>
  have e:aft d q s (cf.c f (gets args s.T) s.H s.n s.ck) = some s':=e
  cases ha:cf.c f (gets args s.T) s.H s.n s.ck with
  | no=>rw [ha] at e; cases e
  | ok v H n ck =>
   rw [ha] at e
   simp only [EN.side,K.side,Bool.and_eq_true] at hs
   obtain ⟨ho,c⟩:=hc.1 f _ _ _ _ _ β h v H n ck ha x.2 (gets_ok x.1 hs.1)
   obtain ⟨fn,h1,h2,h3⟩:=okCall_spec ho
   refine ⟨d,q,v,H,n,ck,rfl,e,by rw [hop]; rfl,?_,rfl⟩
   exact s_call hop rfl h1 h2 h3 (by simp [Function.comp_def]) c
 | cv d f args tys q =>
  have e:aft d q s (cvF cf (f.get s.T) (gets args s.T) s.H s.n s.ck) = some s':=e
  unfold cvF at e
  simp only [appR_eq] at e
  simp only [EN.side,K.side,Bool.and_eq_true] at hs
  split at e
  ·rename_i g xs ys hg
   have hv:=CP.get_ok x.1 f hs.1
   rw [hg] at hv
   generalize hu:ev Tc f.op = u at hv
   cases hv with
   | @fn _ _ _ va vb ra rb =>
    cases ha:cf.c g (xs ++ (gets args s.T ++ ys)) s.H s.n s.ck with
    | no=>rw [ha] at e; cases e
    | ok v H n ck =>
     rw [ha] at e
     obtain ⟨ho,c⟩:=hc.1 g _ _ _ _ _ β h v H n ck ha x.2 (ra.append ((gets_ok x.1 hs.2).append rb))
     obtain ⟨fn,h1,h2,h3⟩:=okCall_spec ho
     refine ⟨d,q,v,H,n,ck,rfl,e,by rw [hop]; rfl,?_,rfl⟩
     exact s_callv hop hu h1 h2 h3 (by simp [Function.comp_def]) c
  ·rename_i id hg
   have hv:=CP.get_ok x.1 f hs.1
   rw [hg] at hv
   generalize hu:ev Tc f.op = u at hv
   cases hv with
   | @yl _ y hy =>
    cases ha:cf.y id (gets args s.T) s.H s.n s.ck with
    | no=>rw [ha] at e; cases e
    | ok v H n ck =>
     rw [ha] at e
     obtain ⟨r,h1,h2,c⟩:=hc.2 id _ _ _ _ _ β h v H n ck y ha x.2 (gets_ok x.1 hs.2) hy
     refine ⟨d,q,v,H,n,ck,rfl,e,by rw [hop]; rfl,?_,rfl⟩
     exact s_yield hop hu h1 (by simp [Function.comp_def]) (by rw [List.size_toArray]; exact h2) c
  ·cases e
 | pre i d k=>cases hpl
 | bnd i d k=>cases hpl
 | gd p b y=>cases hpl
theorem rd_sop (x:Sem N β s h Tc) {d:Sp} {k:K} {q:Bool} (hs:k.side N = true) (hop:o.op = k.op) (e:(EN.r d k q).go cf s = some s') :
  isAct o.op = false ∧ ∃ (c:CV) (rs':RS) (v:Value),s' = ⟨sset d c s.T,s.H,s.n,s.ck,rs',s.E⟩ ∧ VR β c v ∧
   ((rs' = s.rs ∧ PureOp P o (ev Tc) v) ∨ (∃ id y,(rs' = if q = true then (id,(hget id s.H).st) :: s.rs else s.rs) ∧ β id = some y ∧ (hget id s.H).live = true ∧ isRead o.op = true ∧ ∀ g:Heap,g y.b = h y.b → ReadOp P o (ev Tc) g v)):=by
 have e:stR d k q cf s = some s':=e
 rw [stR_eq] at e
 have ok:=rd_ok (N:=N) x.1 x.2 (k:=k) hs hop
 have hact:=isAct_rd (k:=k) (T:=s.T) (H:=s.H)
 split at e
 ·cases e
 ·rename_i v hr
  rw [hr] at ok hact
  obtain ⟨u,hv,hp⟩:=ok
  cases e
  exact ⟨by rw [hop]; exact hact (by simp),v,_,u,rfl,hv,.inl ⟨rfl,hp⟩⟩
 ·rename_i v id hr
  rw [hr] at ok hact
  obtain ⟨u,hv,hrd,y,hy,hlive,hp⟩:=ok
  cases q with
  | true=>cases e; exact ⟨by rw [hop]; exact hact (by simp),v,_,u,rfl,hv,.inr ⟨id,y,rfl,hy,hlive,hrd,hp⟩⟩
  | false=>cases e; exact ⟨by rw [hop]; exact hact (by simp),v,_,u,rfl,hv,.inr ⟨id,y,rfl,hy,hlive,hrd,hp⟩⟩
theorem strip_spec {ops:Array Oper} {y:EN} (h:strip3 ops o = y.strip) (hg:(match y.gu with | some (t,_)=>decide (t < 1000000000) | none=>true) = true):o.dst = dn y.d ∧ o.op = y.op ∧ (y.gu = none → o.guard = none) ∧ ∀ t b,y.gu = some (t,b) → ∃ j,o.guard = some (j,b) ∧ ((ops[j]?).bind (·.dst)) = some t:=by
 simp only [strip3,EN.strip,Prod.mk.injEq] at h
 obtain ⟨h1,h2,h3⟩:=h
 refine ⟨h1,h2,fun e=>?_,fun t b e=>?_⟩
 ·rw [e] at h3
  cases ho:o.guard with
  | none=>rfl
  | some z =>
   obtain ⟨j,b⟩:=z
   rw [ho] at h3
   simp only at h3
   split at h3 <;> cases h3
 ·rw [e] at h3 hg
  cases ho:o.guard with
  | none=>rw [ho] at h3; cases h3
  | some z =>
   obtain ⟨j,b'⟩:=z
   rw [ho] at h3
   simp only at h3
   split at h3
   ·rename_i t' ht'; cases h3; exact ⟨j,rfl,ht'⟩
   ·cases h3; simp at hg
theorem gd_go (x:Sem N β s h Tc) {p:Sp} {b:Bool} {y:EN} (e:(EN.gd p b y).go cf s = some s'):(Tc (p.nat - 1) = .bool b ∧ y.go cf s = some s') ∨ ((∀ b',Tc (p.nat - 1) = .bool b' → (b' == b) = false) ∧ s' = ⟨putC y.d .u s.T,s.H,s.n,s.ck,s.rs,s.E⟩):=by
 have e:(match sget p s.T with
  | .b t=>bif t == b then y.go cf s else some ⟨putC y.d .u s.T,s.H,s.n,s.ck,s.rs,s.E⟩
  | .u=>some ⟨putC y.d .u s.T,s.H,s.n,s.ck,s.rs,s.E⟩
  | _=>none) = some s':=e
 have hv:=x.1.at p
 split at e
 ·rename_i t ht
  rw [ht] at hv
  generalize Tc (p.nat - 1) = u at hv
  cases hv
  cases htb:t == b with
  | true =>
   rw [htb] at e
   exact .inl ⟨by rw [(beq_iff_eq.1 htb)],e⟩
  | false =>
   rw [htb] at e
   cases e
   exact .inr ⟨fun b' e1=>by cases e1; exact htb,rfl⟩
 ·rename_i ht
  rw [ht] at hv
  generalize Tc (p.nat - 1) = u at hv
  cases hv
  cases e
  exact .inr ⟨fun b' e1=>(by cases e1),rfl⟩
 ·cases e
theorem want_gd {ops:Array Oper} {t:Nat} {b:Bool} (hg:∃ j,o.guard = some (j,b) ∧ ((ops[j]?).bind (·.dst)) = some t):(Tc t = .bool b → want ops Tc o = true) ∧ ((∀ b',Tc t = .bool b' → (b' == b) = false) → want ops Tc o = false):=by
 obtain ⟨j,h1,h2⟩:=hg
 unfold want
 rw [h1]
 simp only [h2]
 refine ⟨fun e=>by rw [e]; simp,fun e=>?_⟩
 cases ht:Tc t with
 | bool b'=>simpa using e b' ht
 | _=>rfl
theorem skip_after (x:Sem N β s h Tc) (d:Option Sp):Sem N β ⟨putC d .u s.T,s.H,s.n,s.ck,s.rs,s.E⟩ h (put Tc (dn d) undef):=⟨put_dn x.1 d .u,x.2⟩
theorem plain_sop (hc:CfOk N cf) (x:Sem N β s h Tc) {y:EN} (hpl:y.plain = true) (hs:y.side N = true) (hop:o.op = y.op) (e:y.go cf s = some s'):SOp P o (ev Tc) h (fun v h'=>After N β s h s' (put Tc (dn y.d) v) h'):=by
 by_cases hr:∃ d k q,y = .r d k q
 ·obtain ⟨d,k,q,rfl⟩:=hr
  obtain ⟨_,c,rs',v,rfl,hv,hp⟩:=rd_sop x hs hop e
  have fin:After N β s h ⟨sset d c s.T,s.H,s.n,s.ck,rs',s.E⟩ (put Tc (dn (some d)) v) h:=⟨⟨β,Bk.le_refl _,put_dn x.1 (some d) hv,x.2⟩,Keep.refl _ _ _,fun _=>Nat.le_refl _⟩
  rcases hp with ⟨_,hp⟩ | ⟨id,z,_,_,_,_,hp⟩
  ·exact (hp.read h).sop fin
  ·exact (hp h rfl).sop fin
 ·obtain ⟨d,q,v,H,n,ck,hd,ea,_,sop,_⟩:=act_sop hc x (fun d k q e=>hr ⟨d,k,q,e⟩) hpl hs hop e
  exact sop.mono fun u h' a=>by rw [← hd]; exact (aft_after x ea a).1
theorem gos_sops {M:Nat} {ops:Array Oper} {Q:Tm → Heap → Prop} (hc:CfOk N cf):∀ (l:List EN) (os:List Oper) {s s':St} {β:Bk} {h:Heap} {Tc:Tm},os.map (strip3 ops) = l.map EN.strip → l.all (fun y=>y.side N && y.okN M && (y.plain || (match y with | .gd _ _ _=>true | _=>false))) = true →
  Sem N β s h Tc → gos cf l s = some s' → (∀ T' h',After N β s h s' T' h' → Q T' h') → sops P M ops Q os Tc h
 | [],os,s,s',β,h,Tc,hm,_,x,e,hq=>by
  cases os with
  | cons o os=>simp at hm
  | nil=>cases e; exact hq _ _ (.here x)
 | y :: l,os,s,s',β,h,Tc,hm,hl,x,e,hq=>by
  cases os with
  | nil=>simp at hm
  | cons o os =>
   simp only [List.map_cons,List.cons.injEq] at hm
   simp only [List.all_cons,Bool.and_eq_true] at hl
   obtain ⟨⟨⟨hside,hok⟩,hform⟩,hl⟩:=hl
   rw [gos_cons] at e
   simp only [EN.okN,Bool.and_eq_true] at hok
   obtain ⟨f1,f2,f3,f4⟩:=strip_spec hm.1 hok.2
   cases hgo:y.go cf s with
   | none=>rw [hgo] at e; cases e
   | some s1 =>
    rw [hgo] at e
    simp only at e
    have next:∀ v h1,After N β s h s1 (put Tc o.dst v) h1 → sops P M ops Q os (put Tc o.dst v) h1:=fun v h1 a=>by
     obtain ⟨⟨β1,l1,x1⟩,k1,m1⟩:=a
     exact gos_sops hc l os hm.2 hl x1 e fun T' h' b=>hq T' h' (b.trans l1 k1 m1)
    refine ⟨fun t ht=>?_,?_⟩
    ·rw [f1] at ht
     cases hd:y.d with
     | none=>rw [hd] at ht; cases ht
     | some p=>rw [hd] at ht; cases ht; have:=hok.1; rw [hd] at this; exact of_decide_eq_true this
    cases hpl:y.plain with
    | true =>
     have hgn:y.gu = none:=by cases y <;> first | rfl | cases hpl
     have hw:want ops Tc o = true:=Sl.want_none (f3 hgn)
     rw [hw]
     exact (plain_sop hc x hpl hside f2 hgo).mono fun v h' a=>next v h' (by rw [f1]; exact a)
    | false =>
     rw [hpl] at hform
     cases y with
     | gd p b z =>
      simp only [EN.side,Bool.and_eq_true] at hside
      obtain ⟨w1,w2⟩:=want_gd (Tc:=Tc) (f4 _ _ rfl)
      rcases gd_go x hgo with ⟨h1,h2⟩ | ⟨h1,h2⟩
      ·rw [w1 h1]
       exact (plain_sop hc x hside.1 hside.2 f2 h2).mono fun v h' a=>next v h' (by rw [f1]; exact a)
      ·rw [w2 h1]
       simp only [Bool.false_eq_true,if_false]
       refine next _ _ ?_
       rw [f1,h2]
       have:=After.here (N:=N) (skip_after x z.d)
       obtain ⟨⟨β2,l2,x2⟩,k2,m2⟩:=this
       exact ⟨⟨β2,l2,x2⟩,k2,m2⟩
     | _=>cases hform
end
end Go.Proofs.YtihdpjinaafenaaGreatDoor.Ce
