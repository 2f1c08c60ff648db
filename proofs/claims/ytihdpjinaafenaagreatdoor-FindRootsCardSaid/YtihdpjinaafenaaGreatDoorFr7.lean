import Derived.Test.YtihdpjinaafenaaGreatDoorFr6
noncomputable section
/- The evaluator's operations told short; what is reckoned, what is read. -/
set_option linter.unusedVariables false
set_option linter.unusedSimpArgs false
namespace Go.Proofs.YtihdpjinaafenaaGreatDoor.Ce
open Go.Proofs.YtihdpjinaafenaaGreatDoor.Sl
open Ab (isOne isMany isSl isArr isIntT isStr zeroIs okCall)
inductive K where
 | mv (x:CP) | asg (x:CP) | pick (c x y:CP)
 | bin (op:BinOp) (t:Nat) (x y:CP) (ty:Nat) | bins (op:BinOp) (t:Nat) (x y:CP) (ty:Nat) | eqc (neg:Bool) (c:Nat) (t:Nat) (x y:CP) (ty:Nat) | eqst (neg:Bool) (ks:List IntKind) (t:Nat) (x y:CP) (ty:Nat)
 | not (t:Nat) (x:CP) | bnot (t:Nat) (x:CP) | conv (s d:Nat) (x:CP) (k:IntKind) | cstr (s d:Nat) (x:CP) | nilc (x:CP)
 | fa (t:Nat) (x:CP) (f off:Nat) | fd1 (t:Nat) (x:CP) (f off:Nat) | fdN (t:Nat) (x:CP) (f off n:Nat)
 | ix (t:Nat) (x i:CP) (e sz:Nat) | ixa (t:Nat) (x i:CP) (e sz n:Nat) | ixs (t:Nat) (x i:CP) | ixv (t:Nat) (x i:CP) (e n:Nat)
 | ld (t:Nat) (x:CP) | ldN (t:Nat) (x:CP) (n:Nat)
 | len (t:Nat) (x:CP) (e:Nat) | lens (t:Nat) (x:CP) | lenm (t:Nat) (x:CP) | cmin (x y:CP) (t:Nat) | cmax (x y:CP) (t:Nat)
 | bld (t:Nat) (parts:List (Nat × CP)) (pl:List (Nat × Nat)) (z:List CV)
 | ext (x:CP) (i:Nat) | mkf (f:Pos) (xs ys:List CP) | mki (t:Nat) (x:CP)
 | sli (t:Nat) (x:CP) (lo hi:Option CP) (e sz:Nat) | sl0 (t:Nat) (x hi mx:CP) (e:Nat)
 | lku (t:Nat) (s:Sh) (x k:CP) (ok:Bool) (et:Nat) (z:CV)
 | box (t:Nat) (x:CP) | alc (t:Nat) (zs:List CV) | st (t:Nat) (x y:CP) | stN (t:Nat) (x y:CP) (n:Nat)
 | app (t tx:Nat) (x y:CP) (e e' sz:Nat) | bsl (t n:Nat) (parts:List CP) (e sz:Nat) | bs0 (t e:Nat) | mks (t:Nat) (x y:CP) (e sz:Nat) (zs:List CV)
 | mkm (t:Nat) (s:Sh) | mup (t:Nat) (s:Sh) (m k v:CP) | men (t:Nat) (s:Sh) (m k:CP) (et:Nat) (z:CV) | mst (t:Nat) (m k v:CP)
 | clr (t:Nat) (x:CP) (e sz:Nat) (zs:List CV)
 | call (f:Pos) (args:List CP) (tys:List Nat) | callv (x:CP) (args:List CP) (tys:List Nat)
 | neg (t:Nat) (x:CP) | slis (t:Nat) (x:CP) (lo hi:Option CP)
 | slia (t:Nat) (x:CP) (lo hi:Option CP) (e sz n:Nat) | s2a (t:Nat) (x:CP) (n:Nat)
 | ldg (t g:Nat) (id:Id) | ixg (t g:Nat) (id:Id) (i:CP) (e sz n:Nat) | cvbs (s d:Nat) (x:CP) (e:Nat)
 | other (op:Op)
def ixd:Nat → List CP → List (Nat × Operand)
 | _,[]=>[]
 | i,x :: r=>(i,x.op) :: ixd (i + 1) r
def K.op:K → Op
 | .mv x=>.move x.op | .asg x=>.assign x.op | .pick c x y=>.pick c.op x.op y.op
 | .bin op t x y ty=>.binOp op t x.op y.op ty | .bins op t x y ty=>.binOp op t x.op y.op ty
 | .eqc n _ t x y ty=>.binOp (match n with | true=>.neq | false=>.eql) t x.op y.op ty | .eqst n _ t x y ty=>.binOp (match n with | true=>.neq | false=>.eql) t x.op y.op ty
 | .not t x=>.unOp .not t x.op | .bnot t x=>.unOp .xor t x.op
 | .conv s d x _=>.convert s d x.op | .cstr s d x=>.convert s d x.op | .nilc x=>.nilCheck x.op
 | .fa t x f _=>.fieldAddr t x.op f | .fd1 t x f _=>.field t x.op f | .fdN t x f _ _=>.field t x.op f
 | .ix t x i _ _=>.indexAddr t x.op i.op | .ixa t x i _ _ _=>.indexAddr t x.op i.op | .ixs t x i=>.index t x.op i.op | .ixv t x i _ _=>.index t x.op i.op
 | .ld t x=>.load t x.op | .ldN t x _=>.load t x.op
 | .len t x _=>.call ⟨.builtin .len,#[x.op],#[t]⟩ | .lens t x=>.call ⟨.builtin .len,#[x.op],#[t]⟩ | .lenm t x=>.call ⟨.builtin .len,#[x.op],#[t]⟩
 | .cmin x y t=>.call ⟨.builtin .min,#[x.op,y.op],#[t,t]⟩ | .cmax x y t=>.call ⟨.builtin .max,#[x.op,y.op],#[t,t]⟩
 | .bld t parts _ _=>.build t (parts.map fun p=>(p.1,p.2.op)).toArray
 | .ext x i=>.extract x.op i | .mkf f xs ys=>.makeFunc (.func (f.nat - 1)) (xs.map CP.op).toArray (ys.map CP.op).toArray | .mki t x=>.makeInterface t x.op
 | .sli t x lo hi _ _=>.slice t x.op (lo.map CP.op) (hi.map CP.op) none | .sl0 t x hi mx _=>.slice t x.op none (some hi.op) (some mx.op)
 | .lku t _ x k ok _ _=>.lookup t x.op k.op ok
 | .box t x=>.box t x.op | .alc t _=>.alloc t
 | .st t x y=>.store t x.op y.op | .stN t x y _=>.store t x.op y.op
 | .app t tx x y _ _ _=>.call ⟨.builtin .append,#[x.op,y.op],#[t,tx]⟩
 | .bsl t n parts _ _=>.buildSlice t n (ixd 0 parts).toArray | .bs0 t _=>.buildSlice t 0 #[]
 | .mks t x y _ _ _=>.makeSlice t x.op y.op
 | .mkm t _=>.makeMap t none | .mup t _ m k v=>.mapUpdate t m.op k.op v.op | .men t _ m k _ _=>.mapEntry t m.op k.op | .mst t m k v=>.entryStore t m.op k.op v.op
 | .clr t x _ _ _=>.call ⟨.builtin .clear,#[x.op],#[t]⟩
 | .call f args tys=>.call ⟨.value (.func (f.nat - 1)),(args.map CP.op).toArray,tys.toArray⟩ | .callv x args tys=>.call ⟨.value x.op,(args.map CP.op).toArray,tys.toArray⟩
 | .neg t x=>.unOp .neg t x.op | .slis t x lo hi=>.slice t x.op (lo.map CP.op) (hi.map CP.op) none
 | .slia t x lo hi _ _ _=>.slice t x.op (lo.map CP.op) (hi.map CP.op) none | .s2a t x _=>.sliceToArrayPointer t x.op
 | .ldg t g _=>.load t (.global g) | .ixg t g _ i _ _ _=>.indexAddr t (.global g) i.op | .cvbs s d x _=>.convert s d x.op
 | .other op=>op
def litC:CP → Bool
 | .c _=>true
 | _=>false
def isEqC (P:Program) (c:Nat) (t:TypeId) (y:CP):Bool:=match c,P.underlying t with
 | 0,some .bool=>true
 | 1,some (.pointer _)=>true
 | 2,some (.interface _)=>litC y
 | 3,some (.slice _)=>true
 | 4,some (.map _ _)=>true
 | _,_=>false
structure Kn (P:Program) extends Ky P where
 eqs:TypeId → Option (List IntKind)
 eqlaw:∀ t ks,eqs t = some ks → P.eqGuardType P.depth t = false ∧ ∀ a b:List Int,a.length = ks.length → b.length = ks.length → eqv P 10000 t (.agg (zipK ks a).toArray) (.agg (zipK ks b).toArray) = some (decide (a = b))
class NoG {P:Program} (N:Kn P):Prop where
 no:∀ g,N.gl g = none
def shIs:Sh → Sh → Bool
 | .int k,.int k'=>decide (k = k')
 | .agg a,.agg b=>decide (a = b)
 | _,_=>false
theorem shIs_eq {a b:Sh} (h:shIs a b = true):a = b:=by
 unfold shIs at h
 split at h
 ·rw [of_decide_eq_true h]
 ·rw [of_decide_eq_true h]
 ·cases h
def shOk (sh:TypeId → Option Sh) (t:TypeId) (s:Sh):Bool:=match sh t with
 | some s'=>shIs s' s
 | none=>false
theorem shOk_spec {sh:TypeId → Option Sh} {t:TypeId} {s:Sh} (h:shOk sh t s = true):sh t = some s:=by
 unfold shOk at h
 split at h
 ·rename_i s' e; rw [e,shIs_eq h]
 ·cases h
def CPs (l:List CP):Bool:=l.all CP.ok
def opC:Option CP → Bool
 | some x=>x.ok
 | none=>true
def zIs (P:Program) (t:TypeId) (z:CV):Bool:=match zeroV P t with
 | some v=>Ab.sameZs v.cells.toList z.val.cells.toList && (match v,z.val with | .agg _,.agg _=>true | .agg _,_=>false | _,.agg _=>false | _,_=>true)
 | none=>false
def placesA (P:Program) (t:Nat):Option (List (Nat × Nat)):=match P.underlying t with
 | some (.array n e)=>(P.info? e).map fun ie=>(List.range n).map fun i=>(i * ie.size,ie.size)
 | _=>none
variable {P : Program}
def arrN (P:Program) (t:Nat) (n:Nat):Bool:=match P.underlying t with
 | some (.array m _)=>Nat.beq m n
 | _=>false
theorem arrN_spec {t n:Nat} (h:arrN P t n = true):∃ e,P.underlying t = some (.array n e):=by
 unfold arrN at h
 split at h
 ·rename_i m e he; rw [Nat.eq_of_beq_eq_true h] at he; exact ⟨e,he⟩
 ·cases h
def K.side (N:Kn P):K → Bool
 | .mv x | .asg x | .nilc x | .not _ x | .bnot _ x | .ext x _=>x.ok
 | .pick c x y=>c.ok && x.ok && y.ok
 | .bin _ _ x y _ | .bins _ _ x y _=>x.ok && y.ok
 | .eqc _ c t x y _=>x.ok && y.ok && isEqC P c t y
 | .eqst _ ks t x y _=>x.ok && y.ok && (match N.eqs t with | some ks'=>decide (ks' = ks) | none=>false)
 | .conv s d x k=>x.ok && isIntT P s && (match P.underlying d with | some (.int k')=>k' == k | _=>false)
 | .cstr s d x=>x.ok && isIntT P s && isStr P d
 | .fa t x f off=>x.ok && fieldOff P t f == some off
 | .fd1 t x f off=>x.ok && fieldPart P t f == some (off,1,false)
 | .fdN t x f off n=>x.ok && fieldPart P t f == some (off,n,true)
 | .ix t x i e sz=>x.ok && i.ok && isSl P t e && P.cellsOf e == sz && (P.info? e).isSome
 | .ixa t x i e sz n=>x.ok && i.ok && isArr P t n e && P.cellsOf e == sz && (P.info? e).isSome
 | .ixs t x i=>x.ok && i.ok && isStr P t
 | .ixv t x i e n=>x.ok && i.ok && isArr P t n e && isOne P e && P.cellsOf e == 1
 | .ld t x=>x.ok && isOne P t
 | .ldN t x n=>x.ok && isMany P t && P.cellsOf t == n
 | .len t x e=>x.ok && isSl P t e
 | .lens t x=>x.ok && isStr P t
 | .lenm t x=>x.ok && (match P.underlying t with | some (.map _ _)=>true | _=>false)
 | .cmin x y _ | .cmax x y _=>x.ok && y.ok
 | .bld t parts pl z=>parts.all (fun p=>p.2.ok) && (placesOf P t == some pl || placesA P t == some pl) && zeroIs P t (CV.vals z) && CV.shuts z && z.all CV.one
 | .mkf _ xs ys=>CPs xs && CPs ys
 | .mki t x=>x.ok && (match P.underlying t with | some (.interface _) | none=>false | _=>true)
 | .sli t x lo hi e sz=>x.ok && opC lo && opC hi && isSl P t e && P.cellsOf e == sz && (P.info? e).isSome
 | .sl0 t x hi mx e=>x.ok && hi.ok && mx.ok && isSl P t e && (P.info? e).isSome
 | .lku t s x k _ et z=>x.ok && k.ok && shOk N.sh t s && z.shut && zIs P et z && (match P.underlying t with | some (.map _ et')=>et' == et | _=>false)
 | .box _ x=>x.ok
 | .alc t zs=>zeroIs P t (CV.vals zs) && CV.shuts zs && zs.all CV.one && !zs.isEmpty
 | .st t x y=>x.ok && y.ok && P.cellsOf t == 1 && (P.info? t).isSome
 | .stN t x y n=>x.ok && y.ok && P.cellsOf t == n && (P.info? t).isSome
 | .app t tx x y e e' sz=>x.ok && y.ok && isSl P t e && isSl P tx e' && infoOk P e sz && decide (0 < sz)
 | .bsl t n parts e sz=>CPs parts && isSl P t e && infoOk P e sz && decide (n = parts.length) && decide (0 < sz) && decide (0 < n) && decide (n * sz ≤ 65536)
 | .bs0 t e=>isSl P t e && (P.info? e).isSome
 | .mks t x y e sz zs=>x.ok && y.ok && isSl P t e && infoOk P e sz && zeroIs P e (CV.vals zs) && CV.shuts zs && zs.all CV.one && decide (0 < sz)
 | .mkm t s=>shOk N.sh t s
 | .mup t s m k v=>m.ok && k.ok && v.ok && shOk N.sh t s
 | .men t s m k et z=>m.ok && k.ok && shOk N.sh t s && z.shut && zIs P et z && (match P.underlying t with | some (.map _ et')=>et' == et | _=>false)
 | .mst _ m k v=>m.ok && k.ok && v.ok
 | .clr t x e sz zs=>x.ok && isSl P t e && infoOk P e sz && zeroIs P e (CV.vals zs) && CV.shuts zs && zs.all CV.one && decide (0 < sz)
 | .call f args _=>CPs args && okCall P (f.nat - 1)
 | .callv x args _=>x.ok && CPs args
 | .neg _ x=>x.ok
 | .slis t x lo hi=>x.ok && opC lo && opC hi && isStr P t
 | .slia t x lo hi e sz n=>x.ok && opC lo && opC hi && isArr P t n e && P.cellsOf e == sz && (P.info? e).isSome
 | .s2a t x n=>x.ok && arrN P t n
 | .ldg t g id=>isOne P t && (match N.gl g with | some i=>decide (i = id) | none=>false)
 | .ixg t g id i e sz n=>(i.ok && isArr P t n e && P.cellsOf e == sz && (P.info? e).isSome) && (match N.gl g with | some i=>decide (i = id) | none=>false)
 | .cvbs s d x e=>x.ok && isSl P s e && (match P.underlying e with | some (.int .u8)=>true | _=>false) && isStr P d
 | .other _=>true
inductive Ro where
 | no | ok (v:CV) | rd (v:CV) (id:Id)
def nth (l:List CV):Nat → Option CV:=List.rec (motive:=fun _=>Nat → Option CV) (fun _=>none) (fun c _ ih j=>Nat.rec (some c) (fun j _=>ih j) j) l
theorem nth_eq (l:List CV):∀ j,nth l j = l[j]?:=by
 induction l with
 | nil=>intro j; simp [nth]
 | cons c r ih =>
  intro j
  cases j with
  | zero=>rfl
  | succ j=>show nth r j = _; rw [ih]; rfl
def gets (l:List CP) (T:SL CV):List CV:=List.rec (motive:=fun _=>List CV) [] (fun x _ ih=>x.get T :: ih) l
def getp (l:List (Nat × CP)) (T:SL CV):List (Nat × CV):=l.map fun p=>(p.1,p.2.get T)
def rMv (x:CP) (T:SL CV) (_:CH):Ro:=.ok (x.get T)
def sPick (c:CV) (x:CV) (y:CV):Ro:=match c with
 | .b t=>.ok (bif t then x else y)
 | _=>.no
def fPick (c:CV) (x:CV) (y:CV):Ro:=CV.onB .no (fun t=>.ok (Bool.rec y x t)) c
theorem fPick_eq (c:CV) (x:CV) (y:CV):fPick c x y = sPick c x y:=by
 cases c <;> first | rfl | (rename_i t; cases t <;> rfl)
def rPick (c:CP) (x:CP) (y:CP) (T:SL CV) (_:CH):Ro:=fPick (c.get T) (x.get T) (y.get T)
def binF (op:BinOp) (k:IntKind) (n m:Int):Ro:=match op with
 | .add=>.ok (.i k (wrF k (Int.add n m)))
 | .sub=>.ok (.i k (wrF k (Int.sub n m)))
 | .mul=>.ok (.i k (wrF k (Int.mul n m)))
 | .and=>.ok (.i k (wrF k (BitVec.ofInt k.bits n &&& BitVec.ofInt k.bits m).toNat))
 | .or=>.ok (.i k (wrF k (BitVec.ofInt k.bits n ||| BitVec.ofInt k.bits m).toNat))
 | .xor=>.ok (.i k (wrF k (BitVec.ofInt k.bits n ^^^ BitVec.ofInt k.bits m).toNat))
 | .andNot=>.ok (.i k (wrF k (BitVec.ofInt k.bits n &&& ~~~(BitVec.ofInt k.bits m)).toNat))
 | .eql=>.ok (.b (ieqb n m))
 | .neq=>.ok (.b (!ieqb n m))
 | .lss=>.ok (.b (iltb n m))
 | .leq=>.ok (.b (!iltb m n))
 | .gtr=>.ok (.b (iltb m n))
 | .geq=>.ok (.b (!iltb n m))
 | .quo=>bif ieqb m 0 then .no else .ok (.i k (wrF k (Int.tdiv n m)))
 | .rem=>bif ieqb m 0 then .no else .ok (.i k (Int.tmod n m))
 | _=>.no
def shF (op:BinOp) (k:IntKind) (n m:Int):Ro:=match op,n,m with
 | .shl,.ofNat x,.ofNat s=>.ok (.i k (wrF k (.ofNat (x * 2 ^ (min s k.bits)))))
 | .shr,.ofNat x,.ofNat s=>.ok (.i k (.ofNat (x / 2 ^ (min s k.bits))))
 | _,_,_=>.no
def isSh:BinOp → Bool
 | .shl | .shr=>true
 | _=>false
def ikn (k:IntKind):Nat:=match k with
 | .i8=>0 | .i16=>1 | .i32=>2 | .i64=>3 | .u8=>4 | .u16=>5 | .u32=>6 | .u64=>7
def ikb (k k':IntKind):Bool:=Nat.beq (ikn k) (ikn k')
theorem ikb_eq {k k':IntKind} (h:ikb k k' = true):k = k':=by
 have:=Nat.eq_of_beq_eq_true h
 cases k <;> cases k' <;> first | rfl | (simp [ikn] at this)
def CO.onC {α:Type} (d:α) (f:Nat → Nat → List CV → α) (o:CO):α:=CO.rec (fun _=>d) f (fun _ _ _ _ _=>d) (fun _ _ _ _=>d) (fun _=>d) (fun _ _ _ _=>d) o
def mxN (k:IntKind):Nat:=IntKind.rec 127 32767 2147483647 9223372036854775807 255 65535 4294967295 18446744073709551615 k
def ikbR (k k':IntKind):Bool:=IntKind.rec (motive:=fun _=>IntKind → Bool) (fun k=>IntKind.rec true false false false false false false false k) (fun k=>IntKind.rec false true false false false false false false k) (fun k=>IntKind.rec false false true false false false false false k) (fun k=>IntKind.rec false false false true false false false false k) (fun k=>IntKind.rec false false false false true false false false k) (fun k=>IntKind.rec false false false false false true false false k) (fun k=>IntKind.rec false false false false false false true false k) (fun k=>IntKind.rec false false false false false false false true k) k k'
theorem ikbR_eq (k k':IntKind):ikbR k k' = ikb k k':=by cases k <;> cases k' <;> rfl
theorem wrOk_eq (k:IntKind) (n:Int):(Int.rec (fun a=>Bool.rec (.ok (.i k (wrF k n))) (.ok (.i k (.ofNat a))) (Nat.ble a (mxN k))) (fun _=>.ok (.i k (wrF k n))) n:Ro) = .ok (.i k (wrF k n)):=by
 cases n with
 | negSucc a=>rfl
 | ofNat a =>
  show (Bool.rec (.ok (.i k (wrF k (.ofNat a)))) (.ok (.i k (.ofNat a))) (Nat.ble a (mxN k)):Ro) = _
  cases h:Nat.ble a (mxN k) with
  | false=>rfl
  | true =>
   have h2:wrF k (.ofNat a) = .ofNat a:=by
    unfold wrF
    have h3:=h
    cases k <;> (simp only [mxN] at h3; simp only [h3,cond_true])
   rw [h2]
def addF (k:IntKind) (n m:Int):Ro:=Int.rec (fun a=>Int.rec (fun b=>Bool.rec (.ok (.i k (wrF k (Int.add n m)))) (.ok (.i k (.ofNat (Nat.add a b)))) (Nat.ble (Nat.add a b) (mxN k))) (fun _=>.ok (.i k (wrF k (Int.add n m)))) m) (fun _=>.ok (.i k (wrF k (Int.add n m)))) n
theorem addF_eq (k:IntKind) (n m:Int):addF k n m = .ok (.i k (wrF k (Int.add n m))):=by
 cases n with
 | negSucc a=>rfl
 | ofNat a =>
  cases m with
  | negSucc b=>rfl
  | ofNat b=>exact wrOk_eq k (.ofNat (a + b))
def subF (k:IntKind) (n m:Int):Ro:=Int.rec (fun a=>Int.rec (fun b=>Bool.rec (.ok (.i k (wrF k (Int.sub n m)))) (Bool.rec (.ok (.i k (wrF k (Int.sub n m)))) (.ok (.i k (.ofNat (Nat.sub a b)))) (Nat.ble (Nat.sub a b) (mxN k))) (Nat.ble b a)) (fun _=>.ok (.i k (wrF k (Int.sub n m)))) m) (fun _=>.ok (.i k (wrF k (Int.sub n m)))) n
theorem subF_eq (k:IntKind) (n m:Int):subF k n m = .ok (.i k (wrF k (Int.sub n m))):=by
 cases n with
 | negSucc a=>rfl
 | ofNat a =>
  cases m with
  | negSucc b=>rfl
  | ofNat b =>
   show (Bool.rec (.ok (.i k (wrF k (Int.sub (.ofNat a) (.ofNat b))))) (Bool.rec (.ok (.i k (wrF k (Int.sub (.ofNat a) (.ofNat b))))) (.ok (.i k (.ofNat (a - b)))) (Nat.ble (a - b) (mxN k))) (Nat.ble b a):Ro) = _
   cases h:Nat.ble b a with
   | false=>rfl
   | true =>
    have h1:Int.sub (.ofNat a) (.ofNat b) = .ofNat (a - b):=by
     have:=Nat.le_of_ble_eq_true h
     show (a:Int) - (b:Int) = ((a - b:Nat):Int)
     omega
    rw [h1]
    exact wrOk_eq k (.ofNat (a - b))
def ltR (n m:Int):Bool:=Int.rec (fun a=>Int.rec (fun b=>Nat.ble (Nat.succ a) b) (fun _=>false) m) (fun a=>Int.rec (fun _=>true) (fun b=>Nat.ble (Nat.succ b) a) m) n
theorem ltR_eq (n m:Int):ltR n m = iltb n m:=by cases n <;> cases m <;> rfl
def notR (b:Bool):Bool:=Bool.rec true false b
theorem notR_eq (b:Bool):notR b = !b:=by cases b <;> rfl
def ieqR (n m:Int):Bool:=Int.rec (fun a=>Int.rec (fun b=>Nat.beq a b) (fun _=>false) m) (fun a=>Int.rec (fun _=>false) (fun b=>Nat.beq a b) m) n
theorem ieqR_eq (n m:Int):ieqR n m = ieqb n m:=by cases n <;> cases m <;> rfl
def intF (op:BinOp) (k:IntKind) (n m:Int):Ro:=BinOp.rec (addF k n m) (subF k n m) (binF .mul k n m) (binF .quo k n m) (binF .rem k n m) (binF .and k n m) (binF .or k n m) (binF .xor k n m) (binF .shl k n m) (binF .shr k n m) (binF .andNot k n m) (.ok (.b (ieqR n m))) (.ok (.b (notR (ieqR n m)))) (.ok (.b (ltR n m))) (.ok (.b (notR (ltR m n)))) (.ok (.b (ltR m n))) (.ok (.b (notR (ltR n m)))) op
theorem intF_eq (op:BinOp) (k:IntKind) (n m:Int):intF op k n m = binF op k n m:=by
 cases op <;> first | rfl | exact addF_eq k n m | exact subF_eq k n m | (show Ro.ok (.b (ieqR n m)) = _; rw [ieqR_eq]; rfl) | (show Ro.ok (.b (notR (ieqR n m))) = _; rw [ieqR_eq,notR_eq]; rfl) | (show Ro.ok (.b (ltR n m)) = _; rw [ltR_eq]; rfl) | (show Ro.ok (.b (ltR m n)) = _; rw [ltR_eq]; rfl) | (show Ro.ok (.b (notR (ltR n m))) = _; rw [ltR_eq,notR_eq]; rfl) | (show Ro.ok (.b (notR (ltR m n))) = _; rw [ltR_eq,notR_eq]; rfl)
def sBin (op:BinOp) (x:CV) (y:CV):Ro:=match x,y with
 | .i k n,.i k' m=>bif isSh op then shF op k n m else bif ikb k k' then binF op k n m else .no
 | _,_=>.no
def fBin (op:BinOp) (x:CV) (y:CV):Ro:=CV.onI .no (fun k n=>CV.onI .no (fun k' m=>Bool.rec (Bool.rec .no (intF op k n m) (ikbR k k')) (shF op k n m) (isSh op)) y) x
theorem fBin_eq (op:BinOp) (x:CV) (y:CV):fBin op x y = sBin op x y:=by
 cases x <;> first | rfl | skip
 cases y <;> first | rfl | skip
 rename_i k n k' m
 show (Bool.rec (Bool.rec .no (intF op k n m) (ikbR k k')) (shF op k n m) (isSh op):Ro) = bif isSh op then shF op k n m else bif ikb k k' then binF op k n m else .no
 rw [intF_eq,ikbR_eq]
 cases isSh op <;> cases ikb k k' <;> rfl
def rBin (op:BinOp) (_:Nat) (x:CP) (y:CP) (_:Nat) (T:SL CV) (_:CH):Ro:=fBin op (x.get T) (y.get T)
def leqb:List Nat → List Nat → Bool
 | [],[]=>true
 | a :: l,b :: r=>Nat.beq a b && leqb l r
 | _,_=>false
def lltb:List Nat → List Nat → Bool
 | _,[]=>false
 | [],_ :: _=>true
 | a :: l,b :: r=>Nat.blt a b || (Nat.beq a b && lltb l r)
def strF (op:BinOp) (x y:List Nat):Ro:=match op with
 | .eql=>.ok (.b (leqb x y))
 | .neq=>.ok (.b (!leqb x y))
 | .lss=>.ok (.b (lltb x y))
 | .add=>bif Nat.blt (x.length + y.length) 1000000 then .ok (.s (x ++ y)) else .no
 | _=>.no
def fBins (op:BinOp) (x:CV) (y:CV):Ro:=match x,y with
 | .s a,.s b=>strF op a b
 | _,_=>.no
def rBins (op:BinOp) (_:Nat) (x:CP) (y:CP) (_:Nat) (T:SL CV) (_:CH):Ro:=fBins op (x.get T) (y.get T)
def nums:List IntKind → List CV → Option (List Int)
 | [],[]=>some []
 | k :: ks,.i k' n :: r=>bif ikb k k' then match nums ks r with
   | some l=>some (n :: l)
   | none=>none
  else none
 | _,_=>none
def keq:List Int → List Int → Bool
 | [],[]=>true
 | n :: l,m :: r=>ieqb n m && keq l r
 | _,_=>false
def eqF (c:Nat) (x y:CV):Option Bool:=match c,x,y with
 | 0,.b p,.b q=>some (p == q)
 | 1,.np,.np=>some true
 | 1,.np,.p _ _=>some false
 | 1,.p _ _,.np=>some false
 | 1,.g _,.np=>some false
 | 2,.ni,.ni=>some true
 | 2,.ifc _ _,.ni=>some false
 | 3,.ns,.ns=>some true
 | 3,.sl _ _ _ _ _,.ns=>some false
 | 3,.z (some _),.ns=>some false
 | 4,.nm,.nm=>some true
 | 4,.m _,.nm=>some false
 | _,_,_=>none
def fEq (neg:Bool) (c:Nat) (x:CV) (y:CV):Ro:=match eqF c x y with
 | some r=>.ok (.b (bif neg then !r else r))
 | none=>.no
def rEq (neg:Bool) (c:Nat) (_:Nat) (x:CP) (y:CP) (_:Nat) (T:SL CV) (_:CH):Ro:=fEq neg c (x.get T) (y.get T)
def fEqst (neg:Bool) (ks:List IntKind) (x:CV) (y:CV):Ro:=match x,y with
 | .agg p,.agg q=>match nums ks p,nums ks q with
  | some l,some m=>.ok (.b (bif neg then !keq l m else keq l m))
  | _,_=>.no
 | _,_=>.no
def rEqst (neg:Bool) (ks:List IntKind) (_:Nat) (x:CP) (y:CP) (_:Nat) (T:SL CV) (_:CH):Ro:=fEqst neg ks (x.get T) (y.get T)
def sNot (x:CV):Ro:=match x with
 | .b p=>.ok (.b (!p))
 | _=>.no
def fNot (x:CV):Ro:=CV.onB .no (fun p=>.ok (.b (Bool.rec true false p))) x
theorem fNot_eq (x:CV):fNot x = sNot x:=by
 cases x <;> first | rfl | (rename_i t; cases t <;> rfl)
def rNot (_:Nat) (x:CP) (T:SL CV) (_:CH):Ro:=fNot (x.get T)
def fBnot (x:CV):Ro:=match x with
 | .i k n=>.ok (.i k (k.wrap (BitVec.ofInt k.bits (if k.signed then -1 else k.max) ^^^ BitVec.ofInt k.bits n).toNat))
 | _=>.no
def rBnot (_:Nat) (x:CP) (T:SL CV) (_:CH):Ro:=fBnot (x.get T)
def sConv (x:CV) (k:IntKind):Ro:=match x with
 | .i _ n=>.ok (.i k (wrF k n))
 | _=>.no
def fConv (x:CV) (k:IntKind):Ro:=CV.onI .no (fun _ n=>Int.rec (fun a=>Bool.rec (.ok (.i k (wrF k n))) (.ok (.i k (.ofNat a))) (Nat.ble a (mxN k))) (fun _=>.ok (.i k (wrF k n))) n) x
theorem fConv_eq (x:CV) (k:IntKind):fConv x k = sConv x k:=by
 cases x <;> first | rfl | skip
 rename_i k' n
 exact wrOk_eq k n
def rConv (_:Nat) (_:Nat) (x:CP) (k:IntKind) (T:SL CV) (_:CH):Ro:=fConv (x.get T) k
def fCstr (x:CV):Ro:=match x with
 | .i _ (.ofNat n)=>bif Nat.blt n 128 then .ok (.s [n]) else .no
 | _=>.no
def rCstr (_:Nat) (_:Nat) (x:CP) (T:SL CV) (_:CH):Ro:=fCstr (x.get T)
def fNilc (x:CV):Ro:=match x with
 | .p id o=>.ok (.p id o)
 | .g n=>.ok (.g n)
 | .fn f xs ys=>.ok (.fn f xs ys)
 | _=>.no
def rNilc (x:CP) (T:SL CV) (_:CH):Ro:=fNilc (x.get T)
def sFa (x:CV) (off:Nat):Ro:=match x with
 | .p id o=>.ok (.p id (o + off))
 | _=>.no
def fFa (x:CV) (off:Nat):Ro:=CV.onP .no (fun id o=>.ok (.p id (Nat.add o off))) x
theorem fFa_eq (x:CV) (off:Nat):fFa x off = sFa x off:=by
 cases x <;> rfl
def rFa (_:Nat) (x:CP) (_:Nat) (off:Nat) (T:SL CV) (_:CH):Ro:=fFa (x.get T) off
def sFd1 (x:CV) (off:Nat):Ro:=match x with
 | .agg cs=>match nth cs off with
  | some c=>.ok c
  | none=>.no
 | _=>.no
def fFd1 (x:CV) (off:Nat):Ro:=CV.onAgg .no (fun cs=>Option.rec .no .ok (nth cs off)) x
theorem fFd1_eq (x:CV) (off:Nat):fFd1 x off = sFd1 x off:=by
 cases x <;> first | rfl | skip
 rename_i cs
 show (Option.rec Ro.no .ok (nth cs off):Ro) = match nth cs off with | some c=>.ok c | none=>.no
 cases nth cs off <;> rfl
def rFd1 (_:Nat) (x:CP) (_:Nat) (off:Nat) (T:SL CV) (_:CH):Ro:=fFd1 (x.get T) off
def fFdN (x:CV) (off:Nat) (n:Nat):Ro:=match x with
 | .agg cs=>.ok (.agg (takeR (dropR cs off) n))
 | _=>.no
def rFdN (_:Nat) (x:CP) (_:Nat) (off:Nat) (n:Nat) (T:SL CV) (_:CH):Ro:=fFdN (x.get T) off n
def sIx (x:CV) (i:CV) (sz:Nat):Ro:=match x,i with
 | .sl id off n _ _,.i _ (.ofNat j)=>bif Nat.blt j n then .ok (.p id (off + j * sz)) else .no
 | _,_=>.no
def fIx (x:CV) (i:CV) (sz:Nat):Ro:=CV.onSl .no (fun id off n _ _=>CV.onI .no (fun _ j=>Int.rec (fun j=>Bool.rec .no (.ok (.p id (Nat.add off (Nat.mul j sz)))) (Nat.ble (Nat.succ j) n)) (fun _=>.no) j) i) x
theorem fIx_eq (x:CV) (i:CV) (sz:Nat):fIx x i sz = sIx x i sz:=by
 cases x <;> first | rfl | skip
 cases i <;> first | rfl | skip
 rename_i id off n sz' c k j
 cases j with
 | negSucc j=>rfl
 | ofNat j =>
  show (Bool.rec .no (.ok (.p id (off + j * sz))) (Nat.ble (j + 1) n):Ro) = bif Nat.ble (j + 1) n then .ok (.p id (off + j * sz)) else .no
  cases Nat.ble (j + 1) n <;> rfl
def rIx (_:Nat) (x:CP) (i:CP) (_:Nat) (sz:Nat) (T:SL CV) (_:CH):Ro:=fIx (x.get T) (i.get T) sz
def sIxa (x:CV) (i:CV) (sz:Nat) (n:Nat):Ro:=match x,i with
 | .p id off,.i _ (.ofNat j)=>bif Nat.blt j n then .ok (.p id (off + j * sz)) else .no
 | _,_=>.no
def fIxa (x:CV) (i:CV) (sz:Nat) (n:Nat):Ro:=CV.onP .no (fun id off=>CV.onI .no (fun _ j=>Int.rec (fun j=>Bool.rec .no (.ok (.p id (Nat.add off (Nat.mul j sz)))) (Nat.ble (Nat.succ j) n)) (fun _=>.no) j) i) x
theorem fIxa_eq (x:CV) (i:CV) (sz:Nat) (n:Nat):fIxa x i sz n = sIxa x i sz n:=by
 cases x <;> first | rfl | skip
 cases i <;> first | rfl | skip
 rename_i id off k j
 cases j with
 | negSucc j=>rfl
 | ofNat j =>
  show (Bool.rec .no (.ok (.p id (off + j * sz))) (Nat.ble (j + 1) n):Ro) = bif Nat.ble (j + 1) n then .ok (.p id (off + j * sz)) else .no
  cases Nat.ble (j + 1) n <;> rfl
def rIxa (_:Nat) (x:CP) (i:CP) (_:Nat) (sz:Nat) (n:Nat) (T:SL CV) (_:CH):Ro:=fIxa (x.get T) (i.get T) sz n
def fIxs (x:CV) (i:CV):Ro:=match x,i with
 | .s l,.i _ (.ofNat j)=>match l.drop j with
  | c :: _=>.ok (.i .u8 (.ofNat c))
  | []=>.no
 | _,_=>.no
def rIxs (_:Nat) (x:CP) (i:CP) (T:SL CV) (_:CH):Ro:=fIxs (x.get T) (i.get T)
def fIxv (x:CV) (i:CV) (n:Nat):Ro:=match x,i with
 | .agg cs,.i _ (.ofNat j)=>bif Nat.blt j n then match nth cs j with
   | some c=>.ok c
   | none=>.no
  else .no
 | _,_=>.no
def rIxv (_:Nat) (x:CP) (i:CP) (_:Nat) (n:Nat) (T:SL CV) (_:CH):Ro:=fIxv (x.get T) (i.get T) n
def sLd (x:CV) (H:CH):Ro:=match x with
 | .p id off=>match hget id H with
  | .cells _ _ cs=>match nth cs off with
   | some c=>.rd c id
   | none=>.no
  | _=>.no
 | _=>.no
def fLd (x:CV) (H:CH):Ro:=CV.onP .no (fun id off=>CO.onC .no (fun _ _ cs=>Option.rec .no (fun c=>.rd c id) (nth cs off)) (hget id H)) x
theorem fLd_eq (x:CV) (H:CH):fLd x H = sLd x H:=by
 cases x <;> first | rfl | skip
 rename_i id off
 show CO.onC Ro.no (fun _ _ cs=>Option.rec Ro.no (fun c=>.rd c id) (nth cs off)) (hget id H) = match hget id H with
  | .cells _ _ cs=>match nth cs off with
   | some c=>.rd c id
   | none=>.no
  | _=>.no
 cases hget id H with
 | cells st t cs =>
  show (Option.rec Ro.no (fun c=>.rd c id) (nth cs off):Ro) = match nth cs off with | some c=>.rd c id | none=>.no
  cases nth cs off <;> rfl
 | _=>rfl
def rLd (_:Nat) (x:CP) (T:SL CV) (H:CH):Ro:=fLd (x.get T) H
def rLdg (_ _:Nat) (id:Id) (_:SL CV) (H:CH):Ro:=fLd (.p id 0) H
def rIxg (_ _:Nat) (id:Id) (i:CP) (_:Nat) (sz:Nat) (n:Nat) (T:SL CV) (_:CH):Ro:=fIxa (.p id 0) (i.get T) sz n
def u8s:List CV → Option (List Nat)
 | []=>some []
 | .i .u8 (.ofNat n) :: r=>bif Nat.blt n 256 then (match u8s r with | some l=>some (n :: l) | none=>none) else none
 | _=>none
def sCvbs (x:CV) (H:CH):Ro:=match x with
 | .sl id off n 1 _=>match hget id H with
  | .cells _ _ cs=>bif leR (off + n) cs then (match u8s (takeR (dropR cs off) n) with | some l=>.rd (.s l) id | none=>.no) else .no
  | _=>.no
 | .ns=>.ok (.s [])
 | _=>.no
def rCvbs (_ _:Nat) (x:CP) (_:Nat) (T:SL CV) (H:CH):Ro:=sCvbs (x.get T) H
def sLdN (x:CV) (n:Nat) (H:CH):Ro:=match x with
 | .p id off=>match hget id H with
  | .cells _ _ cs=>bif leR (off + n) cs then .rd (.agg (takeR (dropR cs off) n)) id else .no
  | _=>.no
 | _=>.no
def fLdN (x:CV) (n:Nat) (H:CH):Ro:=CV.onP .no (fun id off=>CO.onC .no (fun _ _ cs=>Bool.rec .no (.rd (.agg (takeR (dropR cs off) n)) id) (leR (Nat.add off n) cs)) (hget id H)) x
theorem fLdN_eq (x:CV) (n:Nat) (H:CH):fLdN x n H = sLdN x n H:=by
 cases x <;> first | rfl | skip
 rename_i id off
 show CO.onC Ro.no (fun _ _ cs=>Bool.rec .no (.rd (.agg (takeR (dropR cs off) n)) id) (leR (off + n) cs)) (hget id H) = match hget id H with
  | .cells _ _ cs=>bif leR (off + n) cs then .rd (.agg (takeR (dropR cs off) n)) id else .no
  | _=>.no
 cases hget id H with
 | cells st t cs =>
  show (Bool.rec .no (.rd (.agg (takeR (dropR cs off) n)) id) (leR (off + n) cs):Ro) = bif leR (off + n) cs then .rd (.agg (takeR (dropR cs off) n)) id else .no
  cases leR (off + n) cs <;> rfl
 | _=>rfl
def rLdN (_:Nat) (x:CP) (n:Nat) (T:SL CV) (H:CH):Ro:=fLdN (x.get T) n H
def fLen (x:CV):Ro:=match x with
 | .sl _ _ n _ _=>.ok (.i .i64 (.ofNat n))
 | .z _=>.ok (.i .i64 (.ofNat 0))
 | .ns=>.ok (.i .i64 (.ofNat 0))
 | _=>.no
def rLen (_:Nat) (x:CP) (_:Nat) (T:SL CV) (_:CH):Ro:=fLen (x.get T)
def fLens (x:CV):Ro:=match x with
 | .s l=>.ok (.i .i64 (.ofNat l.length))
 | _=>.no
def rLens (_:Nat) (x:CP) (T:SL CV) (_:CH):Ro:=fLens (x.get T)
def fLenm (x:CV) (H:CH):Ro:=match x with
 | .m id=>match hget id H with
  | .map _ _ _ _ es=>.rd (.i .i64 (.ofNat es.length)) id
  | _=>.no
 | .nm=>.ok (.i .i64 (.ofNat 0))
 | _=>.no
def rLenm (_:Nat) (x:CP) (T:SL CV) (H:CH):Ro:=fLenm (x.get T) H
def fMin (x:CV) (y:CV):Ro:=match x,y with
 | .i k n,.i k' m=>bif ikb k k' then .ok (.i k (bif iltb m n then m else n)) else .no
 | _,_=>.no
def rMin (x:CP) (y:CP) (_:Nat) (T:SL CV) (_:CH):Ro:=fMin (x.get T) (y.get T)
def fMax (x:CV) (y:CV):Ro:=match x,y with
 | .i k n,.i k' m=>bif ikb k k' then .ok (.i k (bif iltb n m then m else n)) else .no
 | _,_=>.no
def rMax (x:CP) (y:CP) (_:Nat) (T:SL CV) (_:CH):Ro:=fMax (x.get T) (y.get T)
def fillC (places:List (Nat × Nat)):List CV → List (Nat × CV) → Option (List CV)
 | cs,[]=>some cs
 | cs,(i,x) :: r=>match places[i]? with
  | none=>none
  | some (off,size)=>bif Nat.beq x.cells.length size && Nat.ble (off + size) cs.length && x.cells.all CV.one then fillC places (cs.take off ++ (x.cells ++ cs.drop (off + size))) r else none
def fBld (parts:List (Nat × CV)) (pl:List (Nat × Nat)) (z:List CV):Ro:=match fillC pl z parts with
 | some cs=>.ok (.agg cs)
 | none=>.no
def rBld (_:Nat) (parts:List (Nat × CP)) (pl:List (Nat × Nat)) (z:List CV) (T:SL CV) (_:CH):Ro:=fBld (getp parts T) pl z
def sExt (x:CV) (i:Nat):Ro:=match x with
 | .tup cs=>match nth cs i with
  | some c=>.ok c
  | none=>.no
 | _=>.no
def fExt (x:CV) (i:Nat):Ro:=CV.onTup .no (fun cs=>Option.rec .no .ok (nth cs i)) x
theorem fExt_eq (x:CV) (i:Nat):fExt x i = sExt x i:=by
 cases x <;> first | rfl | skip
 rename_i cs
 show (Option.rec Ro.no .ok (nth cs i):Ro) = match nth cs i with | some c=>.ok c | none=>.no
 cases nth cs i <;> rfl
def rExt (x:CP) (i:Nat) (T:SL CV) (_:CH):Ro:=fExt (x.get T) i
def rMkf (f:Pos) (xs ys:List CP) (T:SL CV) (_:CH):Ro:=.ok (.fn f (gets xs T) (gets ys T))
def rMki (t:Nat) (x:CP) (T:SL CV) (_:CH):Ro:=.ok (.ifc t (x.get T))
def bdV (d:Nat) (x:Option CV):Option Nat:=match x with
 | none=>some d
 | some x=>match x with
  | .i _ (.ofNat j)=>some j
  | _=>none
def opG (x:Option CP) (T:SL CV):Option CV:=match x with
 | none=>none
 | some x=>some (x.get T)
def bdF (d:Nat) (x:Option CP) (T:SL CV):Option Nat:=bdV d (opG x T)
def subC (c:Option Nat) (l:Nat):Option Nat:=match c with
 | some k=>some (k - l)
 | none=>none
def fSli (x:CV) (lo hi:Option CV) (sz:Nat):Ro:=match x with
 | .sl id off n sz' c=>match bdV 0 lo,bdV n hi with
  | some l,some k=>bif Nat.beq sz sz' && Nat.ble l k && Nat.ble k n then (bif Nat.beq l k then .ok (.z (subC c l)) else .ok (.sl id (off + l * sz) (k - l) sz (subC c l))) else .no
  | _,_=>.no
 | .z c=>match bdV 0 lo,bdV 0 hi with
  | some 0,some 0=>.ok (.z c)
  | _,_=>.no
 | .ns=>match bdV 0 lo,bdV 0 hi with
  | some 0,some 0=>.ok .ns
  | _,_=>.no
 | _=>.no
def rSli (_:Nat) (x:CP) (lo hi:Option CP) (_ sz:Nat) (T:SL CV) (_:CH):Ro:=fSli (x.get T) (opG lo T) (opG hi T) sz
def fSl0 (x:CV) (hi:CV) (mx:CV):Ro:=match hi,mx with
 | .i _ (.ofNat 0),.i _ (.ofNat 0)=>match x with
  | .sl _ _ _ _ _=>.ok (.z (some 0))
  | .z none=>.ok (.z none)
  | .z (some _)=>.ok (.z (some 0))
  | .ns=>.ok .ns
  | _=>.no
 | _,_=>.no
def rSl0 (_:Nat) (x:CP) (hi:CP) (mx:CP) (_:Nat) (T:SL CV) (_:CH):Ro:=fSl0 (x.get T) (hi.get T) (mx.get T)
def keyOf (s:Sh) (c:CV):Option (List Int):=match s,c with
 | .int k,.i k' n=>bif ikb k k' then some [n] else none
 | .agg ks,.agg cs=>nums ks cs
 | _,_=>none
def findE (k:List Int):List (List Int × CV) → Option CV
 | []=>none
 | e :: r=>bif keq k e.1 then some e.2 else findE k r
def keqR (l:List Int):List Int → Bool:=List.rec (motive:=fun _=>List Int → Bool) (fun m=>List.rec true (fun _ _ _=>false) m) (fun n _ ih m=>List.rec false (fun a r _=>Bool.rec false (ih r) (ieqR n a)) m) l
theorem keqR_eq:∀ (l m:List Int),keqR l m = keq l m:=by
 intro l
 induction l with
 | nil=>intro m; cases m <;> rfl
 | cons n l ih =>
  intro m
  cases m with
  | nil=>rfl
  | cons a r =>
   show Bool.rec false (keqR l r) (ieqR n a) = (ieqb n a && keq l r)
   rw [ih,ieqR_eq]
   cases ieqb n a <;> rfl
def findER (k:List Int) (l:List (List Int × CV)):Option CV:=List.rec (motive:=fun _=>Option CV) none (fun e _ ih=>Bool.rec ih (some e.2) (keqR k e.1)) l
theorem findER_eq (k:List Int):∀ l,findER k l = findE k l:=by
 intro l
 induction l with
 | nil=>rfl
 | cons e r ih =>
  show Bool.rec (findER k r) (some e.2) (keqR k e.1) = (bif keq k e.1 then some e.2 else findE k r)
  rw [ih,keqR_eq]
  cases keq k e.1 <;> rfl
def fLku (t:Nat) (s:Sh) (x:CV) (k:CV) (ok:Bool) (z:CV) (H:CH):Ro:=match keyOf s k with
 | some l=>match x with
  | .m id=>match hget id H with
   | .map _ t' _ _ es=>bif Nat.beq t t' then match findER l es with
     | some v=>.rd (bif ok then .tup [v,.b true] else v) id
     | none=>.rd (bif ok then .tup [z,.b false] else z) id
    else .no
   | _=>.no
  | .nm=>.ok (bif ok then .tup [z,.b false] else z)
  | _=>.no
 | none=>.no
def rLku (t:Nat) (s:Sh) (x:CP) (k:CP) (ok:Bool) (_:Nat) (z:CV) (T:SL CV) (H:CH):Ro:=fLku t s (x.get T) (k.get T) ok z H
def fNeg (x:CV):Ro:=CV.onI .no (fun k n=>subF k (.ofNat 0) n) x
def rNeg (_:Nat) (x:CP) (T:SL CV) (_:CH):Ro:=fNeg (x.get T)
def fSlis (x:CV) (lo hi:Option CV):Ro:=CV.onS .no (fun l=>Option.rec .no (fun a=>Option.rec .no (fun b=>Bool.rec .no (Bool.rec .no (.ok (.s (takeR (dropR l a) (Nat.sub b a)))) (Nat.ble b (lenR l))) (Nat.ble a b)) (bdV (lenR l) hi)) (bdV 0 lo)) x
theorem fSlis_eq (x:CV) (lo hi:Option CV):fSlis x lo hi = match x with
 | .s l=>match bdV 0 lo,bdV l.length hi with
  | some a,some b=>bif Nat.ble a b && Nat.ble b l.length then .ok (.s ((l.drop a).take (b - a))) else .no
  | _,_=>.no
 | _=>.no:=by
 cases x <;> first | rfl | skip
 rename_i l
 show (Option.rec .no (fun a=>Option.rec .no (fun b=>Bool.rec .no (Bool.rec .no (.ok (.s (takeR (dropR l a) (Nat.sub b a)))) (Nat.ble b (lenR l))) (Nat.ble a b)) (bdV (lenR l) hi)) (bdV 0 lo):Ro) = _
 rw [lenR_eq]
 simp only
 cases bdV 0 lo with
 | none=>rfl
 | some a =>
  cases bdV l.length hi with
  | none=>rfl
  | some b =>
   show (Bool.rec .no (Bool.rec .no (.ok (.s (takeR (dropR l a) (Nat.sub b a)))) (Nat.ble b l.length)) (Nat.ble a b):Ro) = (bif Nat.ble a b && Nat.ble b l.length then Ro.ok (.s ((l.drop a).take (b - a))) else .no)
   rw [takeR_eq,dropR_eq]
   cases Nat.ble a b <;> cases Nat.ble b l.length <;> rfl
def rSlis (_:Nat) (x:CP) (lo hi:Option CP) (T:SL CV) (_:CH):Ro:=fSlis (x.get T) (opG lo T) (opG hi T)
def sSlia (x:CV) (lo hi:Option CV) (sz n:Nat) (H:CH):Ro:=match x with
 | .p id off=>match bdV 0 lo,bdV n hi with
  | some l,some k=>match hget id H with
   | .cells _ _ cs=>bif Nat.ble l k && Nat.ble k n && leR (off + n * sz) cs then (bif Nat.beq l k then .ok (.z (some (n - l))) else .ok (.sl id (off + l * sz) (k - l) sz (some (n - l)))) else .no
   | _=>.no
  | _,_=>.no
 | _=>.no
def fSlia (x:CV) (lo hi:Option CV) (sz n:Nat) (H:CH):Ro:=CV.onP .no (fun id off=>Option.rec .no (fun l=>Option.rec .no (fun k=>CO.onC .no (fun _ _ cs=>Bool.rec .no (Bool.rec (.ok (.sl id (Nat.add off (Nat.mul l sz)) (Nat.sub k l) sz (some (Nat.sub n l)))) (.ok (.z (some (Nat.sub n l)))) (Nat.beq l k)) (Nat.ble l k && Nat.ble k n && leR (Nat.add off (Nat.mul n sz)) cs)) (hget id H)) (bdV n hi)) (bdV 0 lo)) x
theorem fSlia_eq (x:CV) (lo hi:Option CV) (sz n:Nat) (H:CH):fSlia x lo hi sz n H = sSlia x lo hi sz n H:=by
 cases x <;> first | rfl | skip
 rename_i id off
 show (Option.rec .no (fun l=>Option.rec .no (fun k=>CO.onC .no (fun _ _ cs=>Bool.rec .no (Bool.rec (.ok (.sl id (off + l * sz) (k - l) sz (some (n - l)))) (.ok (.z (some (n - l)))) (Nat.beq l k)) (Nat.ble l k && Nat.ble k n && leR (off + n * sz) cs)) (hget id H)) (bdV n hi)) (bdV 0 lo):Ro) = _
 unfold sSlia
 simp only
 cases bdV 0 lo with
 | none=>rfl
 | some l =>
  cases bdV n hi with
  | none=>rfl
  | some k =>
   show CO.onC Ro.no (fun _ _ cs=>Bool.rec .no (Bool.rec (.ok (.sl id (off + l * sz) (k - l) sz (some (n - l)))) (.ok (.z (some (n - l)))) (Nat.beq l k)) (Nat.ble l k && Nat.ble k n && leR (off + n * sz) cs)) (hget id H) = _
   cases hget id H with
   | cells st t cs =>
    show (Bool.rec .no (Bool.rec (.ok (.sl id (off + l * sz) (k - l) sz (some (n - l)))) (.ok (.z (some (n - l)))) (Nat.beq l k)) (Nat.ble l k && Nat.ble k n && leR (off + n * sz) cs):Ro) = bif (Nat.ble l k && Nat.ble k n && leR (off + n * sz) cs) then (bif Nat.beq l k then .ok (.z (some (n - l))) else .ok (.sl id (off + l * sz) (k - l) sz (some (n - l)))) else .no
    cases (Nat.ble l k && Nat.ble k n && leR (off + n * sz) cs) <;> cases Nat.beq l k <;> rfl
   | _=>rfl
def rSlia (_:Nat) (x:CP) (lo hi:Option CP) (_ sz n:Nat) (T:SL CV) (H:CH):Ro:=fSlia (x.get T) (opG lo T) (opG hi T) sz n H
def sS2a (x:CV) (n:Nat):Ro:=match x with
 | .sl id off m _ _=>bif Nat.ble n m then .ok (.p id off) else .no
 | _=>.no
def fS2a (x:CV) (n:Nat):Ro:=CV.onSl .no (fun id off m _ _=>Bool.rec .no (.ok (.p id off)) (Nat.ble n m)) x
theorem fS2a_eq (x:CV) (n:Nat):fS2a x n = sS2a x n:=by
 cases x <;> first | rfl | skip
 rename_i id off m sz c
 show (Bool.rec .no (.ok (.p id off)) (Nat.ble n m):Ro) = bif Nat.ble n m then .ok (.p id off) else .no
 cases Nat.ble n m <;> rfl
def rS2a (_:Nat) (x:CP) (n:Nat) (T:SL CV) (_:CH):Ro:=fS2a (x.get T) n
end Go.Proofs.YtihdpjinaafenaaGreatDoor.Ce
