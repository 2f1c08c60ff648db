import Derived.Test.YtihdpjinaafenaaGreatDoorNb6
noncomputable section
/- The evaluator's operations told short; what is reckoned, what is read. -/
set_option linter.unusedVariables false
set_option linter.unusedSimpArgs false
namespace Go.Proofs.YtihdpjinaafenaaGreatDoor.Ce
open Go.Proofs.YtihdpjinaafenaaGreatDoor.Sl
open Ab (isOne isMany isSl isArr isIntT isStr zeroIs okCall)
inductive K where
 | mv (x:CP) | asg (x:CP) | pick (c x y:CP)
 | bin (op:BinOp) (t:Nat) (x y:CP) (ty:Nat) | bins (op:BinOp) (t:Nat) (x y:CP) (ty:Nat) | eqc (neg:Bool) (c:Nat) (t:Nat) (x y:CP) (ty:Nat) | eqst (neg:Bool) (ks:List IntKind) (t:Nat) (x y:CP) (ty:Nat)
 | not (t:Nat) (x:CP) | bnot (t:Nat) (x:CP) | conv (s d:Nat) (x:CP) (k:IntKind) | cstr (s d:Nat) (x:CP) | nilc (x:CP)
 | fa (t:Nat) (x:CP) (f off:Nat) | fd1 (t:Nat) (x:CP) (f off:Nat) | fdN (t:Nat) (x:CP) (f off n:Nat)
 | ix (t:Nat) (x i:CP) (e sz:Nat) | ixa (t:Nat) (x i:CP) (e sz n:Nat) | ixs (t:Nat) (x i:CP) | ixv (t:Nat) (x i:CP) (e n:Nat)
 | ld (t:Nat) (x:CP) | ldN (t:Nat) (x:CP) (n:Nat)
 | len (t:Nat) (x:CP) (e:Nat) | lens (t:Nat) (x:CP) | lenm (t:Nat) (x:CP) | cmin (x y:CP) (t:Nat) | cmax (x y:CP) (t:Nat)
 | bld (t:Nat) (parts:List (Nat × CP)) (pl:List (Nat × Nat)) (z:List CV)
 | ext (x:CP) (i:Nat) | mkf (f:Pos) (xs ys:List CP) | mki (t:Nat) (x:CP)
 | sli (t:Nat) (x:CP) (lo hi:Option CP) (e sz:Nat) | sl0 (t:Nat) (x hi mx:CP) (e:Nat)
 | lku (t:Nat) (s:Sh) (x k:CP) (ok:Bool) (et:Nat) (z:CV)
 | box (t:Nat) (x:CP) | alc (t:Nat) (zs:List CV) | st (t:Nat) (x y:CP) | stN (t:Nat) (x y:CP) (n:Nat)
 | app (t tx:Nat) (x y:CP) (e e' sz:Nat) | bsl (t n:Nat) (parts:List CP) (e sz:Nat) | bs0 (t e:Nat) | mks (t:Nat) (x y:CP) (e sz:Nat) (zs:List CV)
 | mkm (t:Nat) (s:Sh) | mup (t:Nat) (s:Sh) (m k v:CP) | men (t:Nat) (s:Sh) (m k:CP) (et:Nat) (z:CV) | mst (t:Nat) (m k v:CP)
 | clr (t:Nat) (x:CP) (e sz:Nat) (zs:List CV)
 | call (f:Pos) (args:List CP) (tys:List Nat) | callv (x:CP) (args:List CP) (tys:List Nat)
 | neg (t:Nat) (x:CP) | slis (t:Nat) (x:CP) (lo hi:Option CP)
 | slia (t:Nat) (x:CP) (lo hi:Option CP) (e sz n:Nat) | s2a (t:Nat) (x:CP) (n:Nat)
 | ldg (t g:Nat) (id:Id) | ixg (t g:Nat) (id:Id) (i:CP) (e sz n:Nat)
 | other (op:Op)
def ixd:Nat → List CP → List (Nat × Operand)
 | _,[]=>[]
 | i,x :: r=>(i,x.op) :: ixd (i + 1) r
def K.op:K → Op
 | .mv x=>.move x.op | .asg x=>.assign x.op | .pick c x y=>.pick c.op x.op y.op
 | .bin op t x y ty=>.binOp op t x.op y.op ty | .bins op t x y ty=>.binOp op t x.op y.op ty
 | .eqc n _ t x y ty=>.binOp (match n with | true=>.neq | false=>.eql) t x.op y.op ty | .eqst n _ t x y ty=>.binOp (match n with | true=>.neq | false=>.eql) t x.op y.op ty
 | .not t x=>.unOp .not t x.op | .bnot t x=>.unOp .xor t x.op
 | .conv s d x _=>.convert s d x.op | .cstr s d x=>.convert s d x.op | .nilc x=>.nilCheck x.op
 | .fa t x f _=>.fieldAddr t x.op f | .fd1 t x f _=>.field t x.op f | .fdN t x f _ _=>.field t x.op f
 | .ix t x i _ _=>.indexAddr t x.op i.op | .ixa t x i _ _ _=>.indexAddr t x.op i.op | .ixs t x i=>.index t x.op i.op | .ixv t x i _ _=>.index t x.op i.op
 | .ld t x=>.load t x.op | .ldN t x _=>.load t x.op
 | .len t x _=>.call ⟨.builtin .len,#[x.op],#[t]⟩ | .lens t x=>.call ⟨.builtin .len,#[x.op],#[t]⟩ | .lenm t x=>.call ⟨.builtin .len,#[x.op],#[t]⟩
 | .cmin x y t=>.call ⟨.builtin .min,#[x.op,y.op],#[t,t]⟩ | .cmax x y t=>.call ⟨.builtin .max,#[x.op,y.op],#[t,t]⟩
 | .bld t parts _ _=>.build t (parts.map fun p=>(p.1,p.2.op)).toArray
 | .ext x i=>.extract x.op i | .mkf f xs ys=>.makeFunc (.func (f.nat - 1)) (xs.map CP.op).toArray (ys.map CP.op).toArray | .mki t x=>.makeInterface t x.op
 | .sli t x lo hi _ _=>.slice t x.op (lo.map CP.op) (hi.map CP.op) none | .sl0 t x hi mx _=>.slice t x.op none (some hi.op) (some mx.op)
 | .lku t _ x k ok _ _=>.lookup t x.op k.op ok
 | .box t x=>.box t x.op | .alc t _=>.alloc t
 | .st t x y=>.store t x.op y.op | .stN t x y _=>.store t x.op y.op
 | .app t tx x y _ _ _=>.call ⟨.builtin .append,#[x.op,y.op],#[t,tx]⟩
 | .bsl t n parts _ _=>.buildSlice t n (ixd 0 parts).toArray | .bs0 t _=>.buildSlice t 0 #[]
 | .mks t x y _ _ _=>.makeSlice t x.op y.op
 | .mkm t _=>.makeMap t none | .mup t _ m k v=>.mapUpdate t m.op k.op v.op | .men t _ m k _ _=>.mapEntry t m.op k.op | .mst t m k v=>.entryStore t m.op k.op v.op
 | .clr t x _ _ _=>.call ⟨.builtin .clear,#[x.op],#[t]⟩
 | .call f args tys=>.call ⟨.value (.func (f.nat - 1)),(args.map CP.op).toArray,tys.toArray⟩ | .callv x args tys=>.call ⟨.value x.op,(args.map CP.op).toArray,tys.toArray⟩
 | .neg t x=>.unOp .neg t x.op | .slis t x lo hi=>.slice t x.op (lo.map CP.op) (hi.map CP.op) none
 | .slia t x lo hi _ _ _=>.slice t x.op (lo.map CP.op) (hi.map CP.op) none | .s2a t x _=>.sliceToArrayPointer t x.op
 | .ldg t g _=>.load t (.global g) | .ixg t g _ i _ _ _=>.indexAddr t (.global g) i.op
 | .other op=>op
def litC:CP → Bool
 | .c _=>true
 | _=>false
def isEqC (P:Program) (c:Nat) (t:TypeId) (y:CP):Bool:=match c,P.underlying t with
 | 0,some .bool=>true
 | 1,some (.pointer _)=>true
 | 2,some (.interface _)=>litC y
 | 3,some (.slice _)=>true
 | 4,some (.map _ _)=>true
 | _,_=>false
structure Kn (P:Program) extends Ky P where
 eqs:TypeId → Option (List IntKind)
 eqlaw:∀ t ks,eqs t = some ks → P.eqGuardType P.depth t = false ∧ ∀ a b:List Int,a.length = ks.length → b.length = ks.length → eqv P 10000 t (.agg (zipK ks a).toArray) (.agg (zipK ks b).toArray) = some (decide (a = b))
class NoG {P:Program} (N:Kn P):Prop where
 no:∀ g,N.gl g = none
def shIs:Sh → Sh → Bool
 | .int k,.int k'=>decide (k = k')
 | .agg a,.agg b=>decide (a = b)
 | _,_=>false
theorem shIs_eq {a b:Sh} (h:shIs a b = true):a = b:=by
 unfold shIs at h
 split at h
 ·rw [of_decide_eq_true h]
 ·rw [of_decide_eq_true h]
 ·cases h
def shOk (sh:TypeId → Option Sh) (t:TypeId) (s:Sh):Bool:=match sh t with
 | some s'=>shIs s' s
 | none=>false
theorem shOk_spec {sh:TypeId → Option Sh} {t:TypeId} {s:Sh} (h:shOk sh t s = true):sh t = some s:=by
 unfold shOk at h
 split at h
 ·rename_i s' e; rw [e,shIs_eq h]
 ·cases h
def CPs (l:List CP):Bool:=l.all CP.ok
def opC:Option CP → Bool
 | some x=>x.ok
 | none=>true
def zIs (P:Program) (t:TypeId) (z:CV):Bool:=match zeroV P t with
 | some v=>Ab.sameZs v.cells.toList z.val.cells.toList && (match v,z.val with | .agg _,.agg _=>true | .agg _,_=>false | _,.agg _=>false | _,_=>true)
 | none=>false
def placesA (P:Program) (t:Nat):Option (List (Nat × Nat)):=match P.underlying t with
 | some (.array n e)=>(P.info? e).map fun ie=>(List.range n).map fun i=>(i * ie.size,ie.size)
 | _=>none
variable {P : Program}
def arrN (P:Program) (t:Nat) (n:Nat):Bool:=match P.underlying t with
 | some (.array m _)=>Nat.beq m n
 | _=>false
theorem arrN_spec {t n:Nat} (h:arrN P t n = true):∃ e,P.underlying t = some (.array n e):=by
 unfold arrN at h
 split at h
 ·rename_i m e he; rw [Nat.eq_of_beq_eq_true h] at he; exact ⟨e,he⟩
 ·cases h
def K.side (N:Kn P):K → Bool
 | .mv x | .asg x | .nilc x | .not _ x | .bnot _ x | .ext x _=>x.ok
 | .pick c x y=>c.ok && x.ok && y.ok
 | .bin _ _ x y _ | .bins _ _ x y _=>x.ok && y.ok
 | .eqc _ c t x y _=>x.ok && y.ok && isEqC P c t y
 | .eqst _ ks t x y _=>x.ok && y.ok && (match N.eqs t with | some ks'=>decide (ks' = ks) | none=>false)
 | .conv s d x k=>x.ok && isIntT P s && (match P.underlying d with | some (.int k')=>k' == k | _=>false)
 | .cstr s d x=>x.ok && isIntT P s && isStr P d
 | .fa t x f off=>x.ok && fieldOff P t f == some off
 | .fd1 t x f off=>x.ok && fieldPart P t f == some (off,1,false)
 | .fdN t x f off n=>x.ok && fieldPart P t f == some (off,n,true)
 | .ix t x i e sz=>x.ok && i.ok && isSl P t e && P.cellsOf e == sz && (P.info? e).isSome
 | .ixa t x i e sz n=>x.ok && i.ok && isArr P t n e && P.cellsOf e == sz && (P.info? e).isSome
 | .ixs t x i=>x.ok && i.ok && isStr P t
 | .ixv t x i e n=>x.ok && i.ok && isArr P t n e && isOne P e && P.cellsOf e == 1
 | .ld t x=>x.ok && isOne P t
 | .ldN t x n=>x.ok && isMany P t && P.cellsOf t == n
 | .len t x e=>x.ok && isSl P t e
 | .lens t x=>x.ok && isStr P t
 | .lenm t x=>x.ok && (match P.underlying t with | some (.map _ _)=>true | _=>false)
 | .cmin x y _ | .cmax x y _=>x.ok && y.ok
 | .bld t parts pl z=>parts.all (fun p=>p.2.ok) && (placesOf P t == some pl || placesA P t == some pl) && zeroIs P t (CV.vals z) && CV.shuts z && z.all CV.one
 | .mkf _ xs ys=>CPs xs && CPs ys
 | .mki t x=>x.ok && (match P.underlying t with | some (.interface _) | none=>false | _=>true)
 | .sli t x lo hi e sz=>x.ok && opC lo && opC hi && isSl P t e && P.cellsOf e == sz && (P.info? e).isSome
 | .sl0 t x hi mx e=>x.ok && hi.ok && mx.ok && isSl P t e && (P.info? e).isSome
 | .lku t s x k _ et z=>x.ok && k.ok && shOk N.sh t s && z.shut && zIs P et z && (match P.underlying t with | some (.map _ et')=>et' == et | _=>false)
 | .box _ x=>x.ok
 | .alc t zs=>zeroIs P t (CV.vals zs) && CV.shuts zs && zs.all CV.one && !zs.isEmpty
 | .st t x y=>x.ok && y.ok && P.cellsOf t == 1 && (P.info? t).isSome
 | .stN t x y n=>x.ok && y.ok && P.cellsOf t == n && (P.info? t).isSome
 | .app t tx x y e e' sz=>x.ok && y.ok && isSl P t e && isSl P tx e' && infoOk P e sz && decide (0 < sz)
 | .bsl t n parts e sz=>CPs parts && isSl P t e && infoOk P e sz && decide (n = parts.length) && decide (0 < sz) && decide (0 < n) && decide (n * sz ≤ 65536)
 | .bs0 t e=>isSl P t e && (P.info? e).isSome
 | .mks t x y e sz zs=>x.ok && y.ok && isSl P t e && infoOk P e sz && zeroIs P e (CV.vals zs) && CV.shuts zs && zs.all CV.one && decide (0 < sz)
 | .mkm t s=>shOk N.sh t s
 | .mup t s m k v=>m.ok && k.ok && v.ok && shOk N.sh t s
 | .men t s m k et z=>m.ok && k.ok && shOk N.sh t s && z.shut && zIs P et z && (match P.underlying t with | some (.map _ et')=>et' == et | _=>false)
 | .mst _ m k v=>m.ok && k.ok && v.ok
 | .clr t x e sz zs=>x.ok && isSl P t e && infoOk P e sz && zeroIs P e (CV.vals zs) && CV.shuts zs && zs.all CV.one && decide (0 < sz)
 | .call f args _=>CPs args && okCall P (f.nat - 1)
 | .callv x args _=>x.ok && CPs args
 | .neg _ x=>x.ok
 | .slis t x lo hi=>x.ok && opC lo && opC hi && isStr P t
 | .slia t x lo hi e sz n=>x.ok && opC lo && opC hi && isArr P t n e && P.cellsOf e == sz && (P.info? e).isSome
 | .s2a t x n=>x.ok && arrN P t n
 | .ldg t g id=>isOne P t && (match N.gl g with | some i=>decide (i = id) | none=>false)
 | .ixg t g id i e sz n=>(i.ok && isArr P t n e && P.cellsOf e == sz && (P.info? e).isSome) && (match N.gl g with | some i=>decide (i = id) | none=>false)
 | .other _=>true
inductive Ro where
 | no | ok (v:CV) | rd (v:CV) (id:Id)
def nth (l:List CV):Nat → Option CV:=List.rec (motive:=fun _=>Nat → Option CV) (fun _=>none) (fun c _ ih j=>Nat.rec (some c) (fun j _=>ih j) j) l
theorem nth_eq (l:List CV):∀ j,nth l j = l[j]?:=by
 induction l with
 | nil=>intro j; simp [nth]
 | cons c r ih =>
  intro j
  cases j with
  | zero=>rfl
  | succ j=>show nth r j = _; rw [ih]; rfl
def gets (l:List CP) (T:SL CV):List CV:=List.rec (motive:=fun _=>List CV) [] (fun x _ ih=>x.get T :: ih) l
def getp (l:List (Nat × CP)) (T:SL CV):List (Nat × CV):=l.map fun p=>(p.1,p.2.get T)
def rMv (x:CP) (T:SL CV) (_:CH):Ro:=.ok (x.get T)
def sPick (c:CV) (x:CV) (y:CV):Ro:=match c with
 | .b t=>.ok (bif t then x else y)
 | _=>.no
def fPick (c:CV) (x:CV) (y:CV):Ro:=CV.onB .no (fun t=>.ok (Bool.rec y x t)) c
theorem fPick_eq (c:CV) (x:CV) (y:CV):fPick c x y = sPick c x y:=by
 cases c <;> first | rfl | (rename_i t; cases t <;> rfl)
def rPick (c:CP) (x:CP) (y:CP) (T:SL CV) (_:CH):Ro:=fPick (c.get T) (x.get T) (y.get T)
def binF (op:BinOp) (k:IntKind) (n m:Int):Ro:=match op with
 | .add=>.ok (.i k (wrF k (Int.add n m)))
 | .sub=>.ok (.i k (wrF k (Int.sub n m)))
 | .mul=>.ok (.i k (wrF k (Int.mul n m)))
 | .and=>.ok (.i k (wrF k (BitVec.ofInt k.bits n &&& BitVec.ofInt k.bits m).toNat))
 | .or=>.ok (.i k (wrF k (BitVec.ofInt k.bits n ||| BitVec.ofInt k.bits m).toNat))
 | .xor=>.ok (.i k (wrF k (BitVec.ofInt k.bits n ^^^ BitVec.ofInt k.bits m).toNat))
 | .andNot=>.ok (.i k (wrF k (BitVec.ofInt k.bits n &&& ~~~(BitVec.ofInt k.bits m)).toNat))
 | .eql=>.ok (.b (ieqb n m))
 | .neq=>.ok (.b (!ieqb n m))
 | .lss=>.ok (.b (iltb n m))
 | .leq=>.ok (.b (!iltb m n))
 | .gtr=>.ok (.b (iltb m n))
 | .geq=>.ok (.b (!iltb n m))
 | .quo=>bif ieqb m 0 then .no else .ok (.i k (wrF k (Int.tdiv n m)))
 | .rem=>bif ieqb m 0 then .no else .ok (.i k (Int.tmod n m))
 | _=>.no
def shF (op:BinOp) (k:IntKind) (n m:Int):Ro:=match op,n,m with
 | .shl,.ofNat x,.ofNat s=>.ok (.i k (wrF k (.ofNat (x * 2 ^ (min s k.bits)))))
 | .shr,.ofNat x,.ofNat s=>.ok (.i k (.ofNat (x / 2 ^ (min s k.bits))))
 | _,_,_=>.no
def isSh:BinOp → Bool
 | .shl | .shr=>true
 | _=>false
def ikn (k:IntKind):Nat:=match k with
 | .i8=>0 | .i16=>1 | .i32=>2 | .i64=>3 | .u8=>4 | .u16=>5 | .u32=>6 | .u64=>7
def ikb (k k':IntKind):Bool:=Nat.beq (ikn k) (ikn k')
theorem ikb_eq {k k':IntKind} (h:ikb k k' = true):k = k':=by
 have:=Nat.eq_of_beq_eq_true h
 cases k <;> cases k' <;> first | rfl | (simp [ikn] at this)
def CO.onC {α:Type} (d:α) (f:Nat → Nat → List CV → α) (o:CO):α:=CO.rec (fun _=>d) f (fun _ _ _ _ _=>d) (fun _ _ _ _=>d) (fun _=>d) (fun _ _ _ _=>d) o
def mxN (k:IntKind):Nat:=IntKind.rec 127 32767 2147483647 9223372036854775807 255 65535 4294967295 18446744073709551615 k
def ikbR (k k':IntKind):Bool:=IntKind.rec (motive:=fun _=>IntKind → Bool) (fun k=>IntKind.rec true false false false false false false false k) (fun k=>IntKind.rec false true false false false false false false k) (fun k=>IntKind.rec false false true false false false false false k) (fun k=>IntKind.rec false false false true false false false false k) (fun k=>IntKind.rec false false false false true false false false k) (fun k=>IntKind.rec false false false false false true false false k) (fun k=>IntKind.rec false false false false false false true false k) (fun k=>IntKind.rec false false false false false false false true k) k k'
theorem ikbR_eq (k k':IntKind):ikbR k k' = ikb k k':=by cases k <;> cases k' <;> rfl
theorem wrOk_eq (k:IntKind) (n:Int):(Int.rec (fun a=>Bool.rec (.ok (.i k (wrF k n))) (.ok (.i k (.ofNat a))) (Nat.ble a (mxN k))) (fun _=>.ok (.i k (wrF k n))) n:Ro) = .ok (.i k (wrF k n)):=by
 cases n with
 | negSucc a=>rfl
 | ofNat a =>
  show (Bool.rec (.ok (.i k (wrF k (.ofNat a)))) (.ok (.i k (.ofNat a))) (Nat.ble a (mxN k)):Ro) = _
  cases h:Nat.ble a (mxN k) with
  | false=>rfl
  | true =>
   have h2:wrF k (.ofNat a) = .ofNat a:=by
    unfold wrF
    have h3:=h
    cases k <;> (simp only [mxN] at h3; simp only [h3,cond_true])
   rw [h2]
def addF (k:IntKind) (n m:Int):Ro:=Int.rec (fun a=>Int.rec (fun b=>Bool.rec (.ok (.i k (wrF k (Int.add n m)))) (.ok (.i k (.ofNat (Nat.add a b)))) (Nat.ble (Nat.add a b) (mxN k))) (fun _=>.ok (.i k (wrF k (Int.add n m)))) m) (fun _=>.ok (.i k (wrF k (Int.add n m)))) n
theorem addF_eq (k:IntKind) (n m:Int):addF k n m = .ok (.i k (wrF k (Int.add n m))):=by
 cases n with
 | negSucc a=>rfl
 | ofNat a =>
  cases m with
  | negSucc b=>rfl
  | ofNat b=>exact wrOk_eq k (.ofNat (a + b))
def subF (k:IntKind) (n m:Int):Ro:=Int.rec (fun a=>Int.rec (fun b=>Bool.rec (.ok (.i k (wrF k (Int.sub n m)))) (Bool.rec (.ok (.i k (wrF k (Int.sub n m)))) (.ok (.i k (.ofNat (Nat.sub a b)))) (Nat.ble (Nat.sub a b) (mxN k))) (Nat.ble b a)) (fun _=>.ok (.i k (wrF k (Int.sub n m)))) m) (fun _=>.ok (.i k (wrF k (Int.sub n m)))) n
theorem subF_eq (k:IntKind) (n m:Int):subF k n m = .ok (.i k (wrF k (Int.sub n m))):=by
 cases n with
 | negSucc a=>rfl
 | ofNat a =>
  cases m with
  | negSucc b=>rfl
  | ofNat b =>
   show (Bool.rec (.ok (.i k (wrF k (Int.sub (.ofNat a) (.ofNat b))))) (Bool.rec (.ok (.i k (wrF k (Int.sub (.ofNat a) (.ofNat b))))) (.ok (.i k (.ofNat (a - b)))) (Nat.ble (a - b) (mxN k))) (Nat.ble b a):Ro) = _
   cases h:Nat.ble b a with
   | false=>rfl
   | true =>
    have h1:Int.sub (.ofNat a) (.ofNat b) = .ofNat (a - b):=by
     have:=Nat.le_of_ble_eq_true h
     show (a:Int) - (b:Int) = ((a - b:Nat):Int)
     omega
    rw [h1]
    exact wrOk_eq k (.ofNat (a - b))
def ltR (n m:Int):Bool:=Int.rec (fun a=>Int.rec (fun b=>Nat.ble (Nat.succ a) b) (fun _=>false) m) (fun a=>Int.rec (fun _=>true) (fun b=>Nat.ble (Nat.succ b) a) m) n
theorem ltR_eq (n m:Int):ltR n m = iltb n m:=by cases n <;> cases m <;> rfl
def notR (b:Bool):Bool:=Bool.rec true false b
theorem notR_eq (b:Bool):notR b = !b:=by cases b <;> rfl
def ieqR (n m:Int):Bool:=Int.rec (fun a=>Int.rec (fun b=>Nat.beq a b) (fun _=>false) m) (fun a=>Int.rec (fun _=>false) (fun b=>Nat.beq a b) m) n
theorem ieqR_eq (n m:Int):ieqR n m = ieqb n m:=by cases n <;> cases m <;> rfl
def intF (op:BinOp) (k:IntKind) (n m:Int):Ro:=BinOp.rec (addF k n m) (subF k n m) (binF .mul k n m) (binF .quo k n m) (binF .rem k n m) (binF .and k n m) (binF .or k n m) (binF .xor k n m) (binF .shl k n m) (binF .shr k n m) (binF .andNot k n m) (.ok (.b (ieqR n m))) (.ok (.b (notR (ieqR n m)))) (.ok (.b (ltR n m))) (.ok (.b (notR (ltR m n)))) (.ok (.b (ltR m n))) (.ok (.b (notR (ltR n m)))) op
theorem intF_eq (op:BinOp) (k:IntKind) (n m:Int):intF op k n m = binF op k n m:=by
 cases op <;> first | rfl | exact addF_eq k n m | exact subF_eq k n m | (show Ro.ok (.b (ieqR n m)) = _; rw [ieqR_eq]; rfl) | (show Ro.ok (.b (notR (ieqR n m))) = _; rw [ieqR_eq,notR_eq]; rfl) | (show Ro.ok (.b (ltR n m)) = _; rw [ltR_eq]; rfl) | (show Ro.ok (.b (ltR m n)) = _; rw [ltR_eq]; rfl) | (show Ro.ok (.b (notR (ltR n m))) = _; rw [ltR_eq,notR_eq]; rfl) | (show Ro.ok (.b (notR (ltR m n))) = _; rw [ltR_eq,notR_eq]; rfl)
def sBin (op:BinOp) (x:CV) (y:CV):Ro:=match x,y with
 | .i k n,.i k' m=>bif isSh op then shF op k n m else bif ikb k k' then binF op k n m else .no
 | _,_=>.no
def fBin (op:BinOp) (x:CV) (y:CV):Ro:=CV.onI .no (fun k n=>CV.onI .no (fun k' m=>Bool.rec (Bool.rec .no (intF op k n m) (ikbR k k')) (shF op k n m) (isSh op)) y) x
theorem fBin_eq (op:BinOp) (x:CV) (y:CV):fBin op x y = sBin op x y:=by
 cases x <;> first | rfl | skip
 cases y <;> first | rfl | skip
 rename_i k n k' m
 show (Bool.rec (Bool.rec .no (intF op k n m) (ikbR k k')) (shF op k n m) (isSh op):Ro) = bif isSh op then shF op k n m else bif ikb k k' then binF op k n m else .no
 rw [intF_eq,ikbR_eq]
 cases isSh op <;> cases ikb k k' <;> rfl
def rBin (op:BinOp) (_:Nat) (x:CP) (y:CP) (_:Nat) (T:SL CV) (_:CH):Ro:=fBin op (x.get T) (y.get T)
def leqb:List Nat → List Nat → Bool
 | [],[]=>true
 | a :: l,b :: r=>Nat.beq a b && leqb l r
 | _,_=>false
def lltb:List Nat → List Nat → Bool
 | _,[]=>false
 | [],_ :: _=>true
 | a :: l,b :: r=>Nat.blt a b || (Nat.beq a b && lltb l r)
def strF (op:BinOp) (x y:List Nat):Ro:=match op with
 | .eql=>.ok (.b (leqb x y))
 | .neq=>.ok (.b (!leqb x y))
 | .lss=>.ok (.b (lltb x y))
 | .add=>bif Nat.blt (x.length + y.length) 1000000 then .ok (.s (x ++ y)) else .no
 | _=>.no
def fBins (op:BinOp) (x:CV) (y:CV):Ro:=match x,y with
 | .s a,.s b=>strF op a b
 | _,_=>.no
def rBins (op:BinOp) (_:Nat) (x:CP) (y:CP) (_:Nat) (T:SL CV) (_:CH):Ro:=fBins op (x.get T) (y.get T)
def nums:List IntKind → List CV → Option (List Int)
 | [],[]=>some []
 | k :: ks,.i k' n :: r=>bif ikb k k' then match nums ks r with
   | some l=>some (n :: l)
   | none=>none
  else none
 | _,_=>none
def keq:List Int → List Int → Bool
 | [],[]=>true
 | n :: l,m :: r=>ieqb n m && keq l r
 | _,_=>false
def eqF (c:Nat) (x y:CV):Option Bool:=match c,x,y with
 | 0,.b p,.b q=>some (p == q)
 | 1,.np,.np=>some true
 | 1,.np,.p _ _=>some false
 | 1,.p _ _,.np=>some false
 | 1,.g _,.np=>some false
 | 2,.ni,.ni=>some true
 | 2,.ifc _ _,.ni=>some false
 | 3,.ns,.ns=>some true
 | 3,.sl _ _ _ _ _,.ns=>some false
 | 3,.z (some _),.ns=>some false
 | 4,.nm,.nm=>some true
 | 4,.m _,.nm=>some false
 | _,_,_=>none
def fEq (neg:Bool) (c:Nat) (x:CV) (y:CV):Ro:=match eqF c x y with
 | some r=>.ok (.b (bif neg then !r else r))
 | none=>.no
def rEq (neg:Bool) (c:Nat) (_:Nat) (x:CP) (y:CP) (_:Nat) (T:SL CV) (_:CH):Ro:=fEq neg c (x.get T) (y.get T)
def fEqst (neg:Bool) (ks:List IntKind) (x:CV) (y:CV):Ro:=match x,y with
 | .agg p,.agg q=>match nums ks p,nums ks q with
  | some l,some m=>.ok (.b (bif neg then !keq l m else keq l m))
  | _,_=>.no
 | _,_=>.no
def rEqst (neg:Bool) (ks:List IntKind) (_:Nat) (x:CP) (y:CP) (_:Nat) (T:SL CV) (_:CH):Ro:=fEqst neg ks (x.get T) (y.get T)
def sNot (x:CV):Ro:=match x with
 | .b p=>.ok (.b (!p))
 | _=>.no
def fNot (x:CV):Ro:=CV.onB .no (fun p=>.ok (.b (Bool.rec true false p))) x
theorem fNot_eq (x:CV):fNot x = sNot x:=by
 cases x <;> first | rfl | (rename_i t; cases t <;> rfl)
def rNot (_:Nat) (x:CP) (T:SL CV) (_:CH):Ro:=fNot (x.get T)
def fBnot (x:CV):Ro:=match x with
 | .i k n=>.ok (.i k (k.wrap (BitVec.ofInt k.bits (if k.signed then -1 else k.max) ^^^ BitVec.ofInt k.bits n).toNat))
 | _=>.no
def rBnot (_:Nat) (x:CP) (T:SL CV) (_:CH):Ro:=fBnot (x.get T)
def sConv (x:CV) (k:IntKind):Ro:=match x with
 | .i _ n=>.ok (.i k (wrF k n))
 | _=>.no
def fConv (x:CV) (k:IntKind):Ro:=CV.onI .no (fun _ n=>Int.rec (fun a=>Bool.rec (.ok (.i k (wrF k n))) (.ok (.i k (.ofNat a))) (Nat.ble a (mxN k))) (fun _=>.ok (.i k (wrF k n))) n) x
theorem fConv_eq (x:CV) (k:IntKind):fConv x k = sConv x k:=by
 cases x <;> first | rfl | skip
 rename_i k' n
 exact wrOk_eq k n
def rConv (_:Nat) (_:Nat) (x:CP) (k:IntKind) (T:SL CV) (_:CH):Ro:=fConv (x.get T) k
def fCstr (x:CV):Ro:=match x with
 | .i _ (.ofNat n)=>bif Nat.blt n 128 then .ok (.s [n]) else .no
 | _=>.no
def rCstr (_:Nat) (_:Nat) (x:CP) (T:SL CV) (_:CH):Ro:=fCstr (x.get T)
def fNilc (x:CV):Ro:=match x with
 | .p id o=>.ok (.p id o)
 | .g n=>.ok (.g n)
 | .fn f xs ys=>.ok (.fn f xs ys)
 | _=>.no
def rNilc (x:CP) (T:SL CV) (_:CH):Ro:=fNilc (x.get T)
def sFa (x:CV) (off:Nat):Ro:=match x with
 | .p id o=>.ok (.p id (o + off))
 | _=>.no
def fFa (x:CV) (off:Nat):Ro:=CV.onP .no (fun id o=>.ok (.p id (Nat.add o off))) x
theorem fFa_eq (x:CV) (off:Nat):fFa x off = sFa x off:=by
 cases x <;> rfl
def rFa (_:Nat) (x:CP) (_:Nat) (off:Nat) (T:SL CV) (_:CH):Ro:=fFa (x.get T) off
def sFd1 (x:CV) (off:Nat):Ro:=match x with
 | .agg cs=>match nth cs off with
  | some c=>.ok c
  | none=>.no
 | _=>.no
def fFd1 (x:CV) (off:Nat):Ro:=CV.onAgg .no (fun cs=>Option.rec .no .ok (nth cs off)) x
theorem fFd1_eq (x:CV) (off:Nat):fFd1 x off = sFd1 x off:=by
 cases x <;> first | rfl | skip
 rename_i cs
 show (Option.rec Ro.no .ok (nth cs off):Ro) = match nth cs off with | some c=>.ok c | none=>.no
 cases nth cs off <;> rfl
def rFd1 (_:Nat) (x:CP) (_:Nat) (off:Nat) (T:SL CV) (_:CH):Ro:=fFd1 (x.get T) off
def fFdN (x:CV) (off:Nat) (n:Nat):Ro:=match x with
 | .agg cs=>.ok (.agg (takeR (dropR cs off) n))
 | _=>.no
def rFdN (_:Nat) (x:CP) (_:Nat) (off:Nat) (n:Nat) (T:SL CV) (_:CH):Ro:=fFdN (x.get T) off n
def sIx (x:CV) (i:CV) (sz:Nat):Ro:=match x,i with
 | .sl id off n _ _,.i _ (.ofNat j)=>bif Nat.blt j n then .ok (.p id (off + j * sz)) else .no
 | _,_=>.no
def fIx (x:CV) (i:CV) (sz:Nat):Ro:=CV.onSl .no (fun id off n _ _=>CV.onI .no (fun _ j=>Int.rec (fun j=>Bool.rec .no (.ok (.p id (Nat.add off (Nat.mul j sz)))) (Nat.ble (Nat.succ j) n)) (fun _=>.no) j) i) x
theorem fIx_eq (x:CV) (i:CV) (sz:Nat):fIx x i sz = sIx x i sz:=by
 cases x <;> first | rfl | skip
 cases i <;> first | rfl | skip
 rename_i id off n sz' c k j
 cases j with
 | negSucc j=>rfl
 | ofNat j =>
  show (Bool.rec .no (.ok (.p id (off + j * sz))) (Nat.ble (j + 1) n):Ro) = bif Nat.ble (j + 1) n then .ok (.p id (off + j * sz)) else .no
  cases Nat.ble (j + 1) n <;> rfl
def rIx (_:Nat) (x:CP) (i:CP) (_:Nat) (sz:Nat) (T:SL CV) (_:CH):Ro:=fIx (x.get T) (i.get T) sz
def sIxa (x:CV) (i:CV) (sz:Nat) (n:Nat):Ro:=match x,i with
 | .p id off,.i _ (.ofNat j)=>bif Nat.blt j n then .ok (.p id (off + j * sz)) else .no
 | _,_=>.no
def fIxa (x:CV) (i:CV) (sz:Nat) (n:Nat):Ro:=CV.onP .no (fun id off=>CV.onI .no (fun _ j=>Int.rec (fun j=>Bool.rec .no (.ok (.p id (Nat.add off (Nat.mul j sz)))) (Nat.ble (Nat.succ j) n)) (fun _=>.no) j) i) x
theorem fIxa_eq (x:CV) (i:CV) (sz:Nat) (n:Nat):fIxa x i sz n = sIxa x i sz n:=by
 cases x <;> first | rfl | skip
 cases i <;> first | rfl | skip
 rename_i id off k j
 cases j with
 | negSucc j=>rfl
 | ofNat j =>
  show (Bool.rec .no (.ok (.p id (off + j * sz))) (Nat.ble (j + 1) n):Ro) = bif Nat.ble (j + 1) n then .ok (.p id (off + j * sz)) else .no
  cases Nat.ble (j + 1) n <;> rfl
def rIxa (_:Nat) (x:CP) (i:CP) (_:Nat) (sz:Nat) (n:Nat) (T:SL CV) (_:CH):Ro:=fIxa (x.get T) (i.get T) sz n
def fIxs (x:CV) (i:CV):Ro:=match x,i with
 | .s l,.i _ (.ofNat j)=>match l.drop j with
  | c :: _=>.ok (.i .u8 (.ofNat c))
  | []=>.no
 | _,_=>.no
def rIxs (_:Nat) (x:CP) (i:CP) (T:SL CV) (_:CH):Ro:=fIxs (x.get T) (i.get T)
def fIxv (x:CV) (i:CV) (n:Nat):Ro:=match x,i with
 | .agg cs,.i _ (.ofNat j)=>bif Nat.blt j n then match nth cs j with
   | some c=>.ok c
   | none=>.no
  else .no
 | _,_=>.no
def rIxv (_:Nat) (x:CP) (i:CP) (_:Nat) (n:Nat) (T:SL CV) (_:CH):Ro:=fIxv (x.get T) (i.get T) n
def sLd (x:CV) (H:CH):Ro:=match x with
 | .p id off=>match hget id H with
  | .cells _ _ cs=>match nth cs off with
   | some c=>.rd c id
   | none=>.no
  | _=>.no
 | _=>.no
def fLd (x:CV) (H:CH):Ro:=CV.onP .no (fun id off=>CO.onC .no (fun _ _ cs=>Option.rec .no (fun c=>.rd c id) (nth cs off)) (hget id H)) x
theorem fLd_eq (x:CV) (H:CH):fLd x H = sLd x H:=by
 cases x <;> first | rfl | skip
 rename_i id off
 show CO.onC Ro.no (fun _ _ cs=>Option.rec Ro.no (fun c=>.rd c id) (nth cs off)) (hget id H) = match hget id H with
  | .cells _ _ cs=>match nth cs off with
   | some c=>.rd c id
   | none=>.no
  | _=>.no
 cases hget id H with
 | cells st t cs =>
  show (Option.rec Ro.no (fun c=>.rd c id) (nth cs off):Ro) = match nth cs off with | some c=>.rd c id | none=>.no
  cases nth cs off <;> rfl
 | _=>rfl
def rLd (_:Nat) (x:CP) (T:SL CV) (H:CH):Ro:=fLd (x.get T) H
def rLdg (_ _:Nat) (id:Id) (_:SL CV) (H:CH):Ro:=fLd (.p id 0) H
def rIxg (_ _:Nat) (id:Id) (i:CP) (_:Nat) (sz:Nat) (n:Nat) (T:SL CV) (_:CH):Ro:=fIxa (.p id 0) (i.get T) sz n
def sLdN (x:CV) (n:Nat) (H:CH):Ro:=match x with
 | .p id off=>match hget id H with
  | .cells _ _ cs=>bif leR (off + n) cs then .rd (.agg (takeR (dropR cs off) n)) id else .no
  | _=>.no
 | _=>.no
def fLdN (x:CV) (n:Nat) (H:CH):Ro:=CV.onP .no (fun id off=>CO.onC .no (fun _ _ cs=>Bool.rec .no (.rd (.agg (takeR (dropR cs off) n)) id) (leR (Nat.add off n) cs)) (hget id H)) x
theorem fLdN_eq (x:CV) (n:Nat) (H:CH):fLdN x n H = sLdN x n H:=by
 cases x <;> first | rfl | skip
 rename_i id off
 show CO.onC Ro.no (fun _ _ cs=>Bool.rec .no (.rd (.agg (takeR (dropR cs off) n)) id) (leR (off + n) cs)) (hget id H) = match hget id H with
  | .cells _ _ cs=>bif leR (off + n) cs then .rd (.agg (takeR (dropR cs off) n)) id else .no
  | _=>.no
 cases hget id H with
 | cells st t cs =>
  show (Bool.rec .no (.rd (.agg (takeR (dropR cs off) n)) id) (leR (off + n) cs):Ro) = bif leR (off + n) cs then .rd (.agg (takeR (dropR cs off) n)) id else .no
  cases leR (off + n) cs <;> rfl
 | _=>rfl
def rLdN (_:Nat) (x:CP) (n:Nat) (T:SL CV) (H:CH):Ro:=fLdN (x.get T) n H
def fLen (x:CV):Ro:=match x with
 | .sl _ _ n _ _=>.ok (.i .i64 (.ofNat n))
 | .z _=>.ok (.i .i64 (.ofNat 0))
 | .ns=>.ok (.i .i64 (.ofNat 0))
 | _=>.no
def rLen (_:Nat) (x:CP) (_:Nat) (T:SL CV) (_:CH):Ro:=fLen (x.get T)
def fLens (x:CV):Ro:=match x with
 | .s l=>.ok (.i .i64 (.ofNat l.length))
 | _=>.no
def rLens (_:Nat) (x:CP) (T:SL CV) (_:CH):Ro:=fLens (x.get T)
def fLenm (x:CV) (H:CH):Ro:=match x with
 | .m id=>match hget id H with
  | .map _ _ _ _ es=>.rd (.i .i64 (.ofNat es.length)) id
  | _=>.no
 | .nm=>.ok (.i .i64 (.ofNat 0))
 | _=>.no
def rLenm (_:Nat) (x:CP) (T:SL CV) (H:CH):Ro:=fLenm (x.get T) H
def fMin (x:CV) (y:CV):Ro:=match x,y with
 | .i k n,.i k' m=>bif ikb k k' then .ok (.i k (bif iltb m n then m else n)) else .no
 | _,_=>.no
def rMin (x:CP) (y:CP) (_:Nat) (T:SL CV) (_:CH):Ro:=fMin (x.get T) (y.get T)
def fMax (x:CV) (y:CV):Ro:=match x,y with
 | .i k n,.i k' m=>bif ikb k k' then .ok (.i k (bif iltb n m then m else n)) else .no
 | _,_=>.no
def rMax (x:CP) (y:CP) (_:Nat) (T:SL CV) (_:CH):Ro:=fMax (x.get T) (y.get T)
def fillC (places:List (Nat × Nat)):List CV → List (Nat × CV) → Option (List CV)
 | cs,[]=>some cs
 | cs,(i,x) :: r=>match places[i]? with
  | none=>none
  | some (off,size)=>bif Nat.beq x.cells.length size && Nat.ble (off + size) cs.length && x.cells.all CV.one then fillC places (cs.take off ++ (x.cells ++ cs.drop (off + size))) r else none
def fBld (parts:List (Nat × CV)) (pl:List (Nat × Nat)) (z:List CV):Ro:=match fillC pl z parts with
 | some cs=>.ok (.agg cs)
 | none=>.no
def rBld (_:Nat) (parts:List (Nat × CP)) (pl:List (Nat × Nat)) (z:List CV) (T:SL CV) (_:CH):Ro:=fBld (getp parts T) pl z
def sExt (x:CV) (i:Nat):Ro:=match x with
 | .tup cs=>match nth cs i with
  | some c=>.ok c
  | none=>.no
 | _=>.no
def fExt (x:CV) (i:Nat):Ro:=CV.onTup .no (fun cs=>Option.rec .no .ok (nth cs i)) x
theorem fExt_eq (x:CV) (i:Nat):fExt x i = sExt x i:=by
 cases x <;> first | rfl | skip
 rename_i cs
 show (Option.rec Ro.no .ok (nth cs i):Ro) = match nth cs i with | some c=>.ok c | none=>.no
 cases nth cs i <;> rfl
def rExt (x:CP) (i:Nat) (T:SL CV) (_:CH):Ro:=fExt (x.get T) i
def rMkf (f:Pos) (xs ys:List CP) (T:SL CV) (_:CH):Ro:=.ok (.fn f (gets xs T) (gets ys T))
def rMki (t:Nat) (x:CP) (T:SL CV) (_:CH):Ro:=.ok (.ifc t (x.get T))
def bdV (d:Nat) (x:Option CV):Option Nat:=match x with
 | none=>some d
 | some x=>match x with
  | .i _ (.ofNat j)=>some j
  | _=>none
def opG (x:Option CP) (T:SL CV):Option CV:=match x with
 | none=>none
 | some x=>some (x.get T)
def bdF (d:Nat) (x:Option CP) (T:SL CV):Option Nat:=bdV d (opG x T)
def subC (c:Option Nat) (l:Nat):Option Nat:=match c with
 | some k=>some (k - l)
 | none=>none
def fSli (x:CV) (lo hi:Option CV) (sz:Nat):Ro:=match x with
 | .sl id off n sz' c=>match bdV 0 lo,bdV n hi with
  | some l,some k=>bif Nat.beq sz sz' && Nat.ble l k && Nat.ble k n then (bif Nat.beq l k then .ok (.z (subC c l)) else .ok (.sl id (off + l * sz) (k - l) sz (subC c l))) else .no
  | _,_=>.no
 | .z c=>match bdV 0 lo,bdV 0 hi with
  | some 0,some 0=>.ok (.z c)
  | _,_=>.no
 | .ns=>match bdV 0 lo,bdV 0 hi with
  | some 0,some 0=>.ok .ns
  | _,_=>.no
 | _=>.no
def rSli (_:Nat) (x:CP) (lo hi:Option CP) (_ sz:Nat) (T:SL CV) (_:CH):Ro:=fSli (x.get T) (opG lo T) (opG hi T) sz
def fSl0 (x:CV) (hi:CV) (mx:CV):Ro:=match hi,mx with
 | .i _ (.ofNat 0),.i _ (.ofNat 0)=>match x with
  | .sl _ _ _ _ _=>.ok (.z (some 0))
  | .z none=>.ok (.z none)
  | .z (some _)=>.ok (.z (some 0))
  | .ns=>.ok .ns
  | _=>.no
 | _,_=>.no
def rSl0 (_:Nat) (x:CP) (hi:CP) (mx:CP) (_:Nat) (T:SL CV) (_:CH):Ro:=fSl0 (x.get T) (hi.get T) (mx.get T)
def keyOf (s:Sh) (c:CV):Option (List Int):=match s,c with
 | .int k,.i k' n=>bif ikb k k' then some [n] else none
 | .agg ks,.agg cs=>nums ks cs
 | _,_=>none
def findE (k:List Int):List (List Int × CV) → Option CV
 | []=>none
 | e :: r=>bif keq k e.1 then some e.2 else findE k r
def keqR (l:List Int):List Int → Bool:=List.rec (motive:=fun _=>List Int → Bool) (fun m=>List.rec true (fun _ _ _=>false) m) (fun n _ ih m=>List.rec false (fun a r _=>Bool.rec false (ih r) (ieqR n a)) m) l
theorem keqR_eq:∀ (l m:List Int),keqR l m = keq l m:=by
 intro l
 induction l with
 | nil=>intro m; cases m <;> rfl
 | cons n l ih =>
  intro m
  cases m with
  | nil=>rfl
  | cons a r =>
   show Bool.rec false (keqR l r) (ieqR n a) = (ieqb n a && keq l r)
   rw [ih,ieqR_eq]
   cases ieqb n a <;> rfl
def findER (k:List Int) (l:List (List Int × CV)):Option CV:=List.rec (motive:=fun _=>Option CV) none (fun e _ ih=>Bool.rec ih (some e.2) (keqR k e.1)) l
theorem findER_eq (k:List Int):∀ l,findER k l = findE k l:=by
 intro l
 induction l with
 | nil=>rfl
 | cons e r ih =>
  show Bool.rec (findER k r) (some e.2) (keqR k e.1) = (bif keq k e.1 then some e.2 else findE k r)
  rw [ih,keqR_eq]
  cases keq k e.1 <;> rfl
def fLku (t:Nat) (s:Sh) (x:CV) (k:CV) (ok:Bool) (z:CV) (H:CH):Ro:=match keyOf s k with
 | some l=>match x with
  | .m id=>match hget id H with
   | .map _ t' _ _ es=>bif Nat.beq t t' then match findER l es with
     | some v=>.rd (bif ok then .tup [v,.b true] else v) id
     | none=>.rd (bif ok then .tup [z,.b false] else z) id
    else .no
   | _=>.no
  | .nm=>.ok (bif ok then .tup [z,.b false] else z)
  | _=>.no
 | none=>.no
def rLku (t:Nat) (s:Sh) (x:CP) (k:CP) (ok:Bool) (_:Nat) (z:CV) (T:SL CV) (H:CH):Ro:=fLku t s (x.get T) (k.get T) ok z H
def fNeg (x:CV):Ro:=CV.onI .no (fun k n=>subF k (.ofNat 0) n) x
def rNeg (_:Nat) (x:CP) (T:SL CV) (_:CH):Ro:=fNeg (x.get T)
def fSlis (x:CV) (lo hi:Option CV):Ro:=CV.onS .no (fun l=>Option.rec .no (fun a=>Option.rec .no (fun b=>Bool.rec .no (Bool.rec .no (.ok (.s (takeR (dropR l a) (Nat.sub b a)))) (Nat.ble b (lenR l))) (Nat.ble a b)) (bdV (lenR l) hi)) (bdV 0 lo)) x
theorem fSlis_eq (x:CV) (lo hi:Option CV):fSlis x lo hi = match x with
 | .s l=>match bdV 0 lo,bdV l.length hi with
  | some a,some b=>bif Nat.ble a b && Nat.ble b l.length then .ok (.s ((l.drop a).take (b - a))) else .no
  | _,_=>.no
 | _=>.no:=by
 cases x <;> first | rfl | skip
 rename_i l
 show (Option.rec .no (fun a=>Option.rec .no (fun b=>Bool.rec .no (Bool.rec .no (.ok (.s (takeR (dropR l a) (Nat.sub b a)))) (Nat.ble b (lenR l))) (Nat.ble a b)) (bdV (lenR l) hi)) (bdV 0 lo):Ro) = _
 rw [lenR_eq]
 simp only
 cases bdV 0 lo with
 | none=>rfl
 | some a =>
  cases bdV l.length hi with
  | none=>rfl
  | some b =>
   show (Bool.rec .no (Bool.rec .no (.ok (.s (takeR (dropR l a) (Nat.sub b a)))) (Nat.ble b l.length)) (Nat.ble a b):Ro) = (bif Nat.ble a b && Nat.ble b l.length then Ro.ok (.s ((l.drop a).take (b - a))) else .no)
   rw [takeR_eq,dropR_eq]
   cases Nat.ble a b <;> cases Nat.ble b l.length <;> rfl
def rSlis (_:Nat) (x:CP) (lo hi:Option CP) (T:SL CV) (_:CH):Ro:=fSlis (x.get T) (opG lo T) (opG hi T)
def sSlia (x:CV) (lo hi:Option CV) (sz n:Nat) (H:CH):Ro:=match x with
 | .p id off=>match bdV 0 lo,bdV n hi with
  | some l,some k=>match hget id H with
   | .cells _ _ cs=>bif Nat.ble l k && Nat.ble k n && leR (off + n * sz) cs then (bif Nat.beq l k then .ok (.z (some (n - l))) else .ok (.sl id (off + l * sz) (k - l) sz (some (n - l)))) else .no
   | _=>.no
  | _,_=>.no
 | _=>.no
def fSlia (x:CV) (lo hi:Option CV) (sz n:Nat) (H:CH):Ro:=CV.onP .no (fun id off=>Option.rec .no (fun l=>Option.rec .no (fun k=>CO.onC .no (fun _ _ cs=>Bool.rec .no (Bool.rec (.ok (.sl id (Nat.add off (Nat.mul l sz)) (Nat.sub k l) sz (some (Nat.sub n l)))) (.ok (.z (some (Nat.sub n l)))) (Nat.beq l k)) (Nat.ble l k && Nat.ble k n && leR (Nat.add off (Nat.mul n sz)) cs)) (hget id H)) (bdV n hi)) (bdV 0 lo)) x
theorem fSlia_eq (x:CV) (lo hi:Option CV) (sz n:Nat) (H:CH):fSlia x lo hi sz n H = sSlia x lo hi sz n H:=by
 cases x <;> first | rfl | skip
 rename_i id off
 show (Option.rec .no (fun l=>Option.rec .no (fun k=>CO.onC .no (fun _ _ cs=>Bool.rec .no (Bool.rec (.ok (.sl id (off + l * sz) (k - l) sz (some (n - l)))) (.ok (.z (some (n - l)))) (Nat.beq l k)) (Nat.ble l k && Nat.ble k n && leR (off + n * sz) cs)) (hget id H)) (bdV n hi)) (bdV 0 lo):Ro) = _
 unfold sSlia
 simp only
 cases bdV 0 lo with
 | none=>rfl
 | some l =>
  cases bdV n hi with
  | none=>rfl
  | some k =>
   show CO.onC Ro.no (fun _ _ cs=>Bool.rec .no (Bool.rec (.ok (.sl id (off + l * sz) (k - l) sz (some (n - l)))) (.ok (.z (some (n - l)))) (Nat.beq l k)) (Nat.ble l k && Nat.ble k n && leR (off + n * sz) cs)) (hget id H) = _
   cases hget id H with
   | cells st t cs =>
    show (Bool.rec .no (Bool.rec (.ok (.sl id (off + l * sz) (k - l) sz (some (n - l)))) (.ok (.z (some (n - l)))) (Nat.beq l k)) (Nat.ble l k && Nat.ble k n && leR (off + n * sz) cs):Ro) = bif (Nat.ble l k && Nat.ble k n && leR (off + n * sz) cs) then (bif Nat.beq l k then .ok (.z (some (n - l))) else .ok (.sl id (off + l * sz) (k - l) sz (some (n - l)))) else .no
    cases (Nat.ble l k && Nat.ble k n && leR (off + n * sz) cs) <;> cases Nat.beq l k <;> rfl
   | _=>rfl
def rSlia (_:Nat) (x:CP) (lo hi:Option CP) (_ sz n:Nat) (T:SL CV) (H:CH):Ro:=fSlia (x.get T) (opG lo T) (opG hi T) sz n H
def sS2a (x:CV) (n:Nat):Ro:=match x with
 | .sl id off m _ _=>bif Nat.ble n m then .ok (.p id off) else .no
 | _=>.no
def fS2a (x:CV) (n:Nat):Ro:=CV.onSl .no (fun id off m _ _=>Bool.rec .no (.ok (.p id off)) (Nat.ble n m)) x
theorem fS2a_eq (x:CV) (n:Nat):fS2a x n = sS2a x n:=by
 cases x <;> first | rfl | skip
 rename_i id off m sz c
 show (Bool.rec .no (.ok (.p id off)) (Nat.ble n m):Ro) = bif Nat.ble n m then .ok (.p id off) else .no
 cases Nat.ble n m <;> rfl
def rS2a (_:Nat) (x:CP) (n:Nat) (T:SL CV) (_:CH):Ro:=fS2a (x.get T) n
end Go.Proofs.YtihdpjinaafenaaGreatDoor.Ce

/- What is reckoned, what is read: that the operations give just this. -/
namespace Go.Proofs.YtihdpjinaafenaaGreatDoor.Ce
open Go.Proofs.YtihdpjinaafenaaGreatDoor.Sl
open Ab (isOne isMany isSl isArr isIntT isStr zeroIs okCall)
section
variable {P : Program} {N : Kn P} {β : Bk} {H : CH} {n0 : Id} {ck : Nat} {h : Heap} {T : SL CV} {Tc : Tm} {o : Oper}
def RoOk (P:Program) (β:Bk) (H:CH) (h:Heap) (Tc:Tm) (o:Oper):Ro → Prop
 | .no=>True
 | .ok c=>∃ v,VR β c v ∧ PureOp P o (ev Tc) v
 | .rd c id=>∃ v,VR β c v ∧ isRead o.op = true ∧ ∃ x,β id = some x ∧ (hget id H).live = true ∧ ∀ g:Heap,g x.b = h x.b → ReadOp P o (ev Tc) g v
theorem g_i (r:TR β T Tc) {x:CP} (hx:x.ok = true) {k:IntKind} {n:Int} (e:x.get T = .i k n):ev Tc x.op = .int k n:=by
 have:=CP.get_ok r x hx; rw [e] at this; generalize ev Tc x.op = v at this; cases this; rfl
theorem g_b (r:TR β T Tc) {x:CP} (hx:x.ok = true) {b:Bool} (e:x.get T = .b b):ev Tc x.op = .bool b:=by
 have:=CP.get_ok r x hx; rw [e] at this; generalize ev Tc x.op = v at this; cases this; rfl
theorem g_s (r:TR β T Tc) {x:CP} (hx:x.ok = true) {l:List Nat} (e:x.get T = .s l):ev Tc x.op = .string (byt l) ∧ l.all (fun x=>Nat.blt x 256) = true:=by
 have:=CP.get_ok r x hx; rw [e] at this; generalize ev Tc x.op = v at this; cases this; exact ⟨rfl,by assumption⟩
theorem g_p (r:TR β T Tc) {x:CP} (hx:x.ok = true) {id:Id} {off:Nat} (e:x.get T = .p id off):∃ y,β id = some y ∧ ev Tc x.op = .pointer (some ⟨y.b,off,none⟩):=by
 have:=CP.get_ok r x hx; rw [e] at this; generalize ev Tc x.op = v at this; cases this; exact ⟨_,by assumption,rfl⟩
theorem g_agg (r:TR β T Tc) {x:CP} (hx:x.ok = true) {cs:List CV} (e:x.get T = .agg cs):∃ vs:List Value,ev Tc x.op = .agg vs.toArray ∧ VRs β cs vs ∧ cs.all CV.one = true:=by
 have:=CP.get_ok r x hx; rw [e] at this; generalize ev Tc x.op = v at this; cases this; exact ⟨_,rfl,by assumption,by assumption⟩
theorem g_tup (r:TR β T Tc) {x:CP} (hx:x.ok = true) {cs:List CV} (e:x.get T = .tup cs):∃ vs:List Value,ev Tc x.op = .tuple vs.toArray ∧ VRs β cs vs:=by
 have:=CP.get_ok r x hx; rw [e] at this; generalize ev Tc x.op = v at this; cases this; exact ⟨_,rfl,by assumption⟩
theorem g_m (r:TR β T Tc) {x:CP} (hx:x.ok = true) {id:Id} (e:x.get T = .m id):∃ y,β id = some y ∧ ev Tc x.op = .map (some y.b):=by
 have:=CP.get_ok r x hx; rw [e] at this; generalize ev Tc x.op = v at this; cases this; exact ⟨_,by assumption,rfl⟩
theorem g_nm (r:TR β T Tc) {x:CP} (hx:x.ok = true) (e:x.get T = .nm):ev Tc x.op = .map none:=by
 have:=CP.get_ok r x hx; rw [e] at this; generalize ev Tc x.op = v at this; cases this; rfl
theorem g_ns (r:TR β T Tc) {x:CP} (hx:x.ok = true) (e:x.get T = .ns):ev Tc x.op = .slice none 0 0:=by
 have:=CP.get_ok r x hx; rw [e] at this; generalize ev Tc x.op = v at this; cases this; rfl
theorem g_z (r:TR β T Tc) {x:CP} (hx:x.ok = true) {c:Option Nat} (e:x.get T = .z c):∃ a k,ev Tc x.op = .slice a 0 k ∧ (c = none ∨ c = some k) ∧ (a = none → k = 0 ∧ c = none):=by
 have:=CP.get_ok r x hx; rw [e] at this; generalize ev Tc x.op = v at this; cases this; exact ⟨_,_,rfl,by assumption,by assumption⟩
theorem g_sl (r:TR β T Tc) {x:CP} (hx:x.ok = true) {id:Id} {off n sz:Nat} {c:Option Nat} (e:x.get T = .sl id off n sz c):∃ y k,β id = some y ∧ ev Tc x.op = .slice (some ⟨y.b,off,none⟩) n k ∧ n ≤ k ∧ off + k * sz ≤ y.len ∧ (c = none ∨ c = some k):=by
 have:=CP.get_ok r x hx; rw [e] at this; generalize ev Tc x.op = v at this; cases this; exact ⟨_,_,by assumption,rfl,by assumption,by assumption,by assumption⟩
theorem r_index_str {ρ:Operand → Value} {t:TypeId} {x i:Operand} {s:ByteArray} {k:IntKind} {j:Nat} {c:UInt8} (ho:o.op = .index t x i) (hu:P.underlying t = some .string) (hx:ρ x = .string s) (hi:ρ i = .int k j) (hc:s[j]? = some c):ReadOp P o ρ h (.int .u8 c.toNat):=by
 intro w r
 simp [execOp,ho,Instr.index,hx,hi,asIntOf,run_underlying hu,hc]
theorem HR.cells (r:HR N.toKy β H n0 ck h) {id:Id} {st t:Nat} {cs:List CV} (e:hget id H = .cells st t cs) {x:Blk} (hx:β id = some x):∃ vs tl:List Value,h x.b = some (.cells (vs ++ tl).toArray t (0,0)) ∧ (vs ++ tl).length = x.len ∧ VRs β cs vs ∧ cs.all CV.one = true:=by
 have:=r.obj id x hx
 rw [e] at this
 cases this with
 | cells hb hl hr h1=>exact ⟨_,_,hb,hl,hr,h1⟩
theorem nth_some {l:List CV} {j:Nat} {c:CV} (e:nth l j = some c):l[j]? = some c:=by
 rw [← nth_eq]; exact e
theorem rMv_ok (r:TR β T Tc) {x:CP} (hx:x.ok = true) (hop:o.op = .move x.op ∨ o.op = .assign x.op):RoOk P β H h Tc o (rMv x T H):=by
 refine ⟨_,CP.get_ok r x hx,p_val ?_⟩
 rcases hop with e | e <;> rw [e] <;> rfl
theorem rPick_ok (r:TR β T Tc) {c x y:CP} (hc:c.ok = true) (hx:x.ok = true) (hy:y.ok = true) (hop:o.op = .pick c.op x.op y.op):RoOk P β H h Tc o (rPick c x y T H):=by
 unfold rPick; rw [fPick_eq]; unfold sPick
 split
 ·rename_i t e
  have h1:=g_b r hc e
  cases t with
  | true=>exact ⟨_,CP.get_ok r x hx,p_val (by rw [hop]; simp [pval,h1])⟩
  | false=>exact ⟨_,CP.get_ok r y hy,p_val (by rw [hop]; simp [pval,h1])⟩
 ·trivial
theorem intBin_pure {op:BinOp} {k:IntKind} {a b:Int} {v:Value} (hv:intBin op k a b = some v) {t ty:TypeId} {x y:Operand} (hop:o.op = .binOp op t x y ty) (hx:ev Tc x = .int k a) (hy:ev Tc y = .int k b):PureOp P o (ev Tc) v:=Ab.intBin_of hv hop hx hy
theorem binF_ok {op:BinOp} {k:IntKind} {a b:Int} {t ty:TypeId} {x y:Operand} (hop:o.op = .binOp op t x y ty) (hx:ev Tc x = .int k a) (hy:ev Tc y = .int k b):RoOk P β H h Tc o (binF op k a b):=by
 have i:∀ v,intBin op k a b = some v → ∀ c,VR β c v → RoOk P β H h Tc o (.ok c):=fun v e c hc=>⟨v,hc,intBin_pure e hop hx hy⟩
 unfold binF
 split
 case h_14 =>
  cases hb:ieqb b 0 with
  | true=>trivial
  | false =>
   rw [ieqb_eq] at hb
   refine ⟨_,.i _ _,?_⟩
   rw [wrF_eq]
   exact (r_quo (h:=fun _=>none) hop hx hy (by simpa using hb)).pure0
 case h_15 =>
  cases hb:ieqb b 0 with
  | true=>trivial
  | false =>
   rw [ieqb_eq] at hb
   exact ⟨_,.i _ _,(r_rem (h:=fun _=>none) hop hx hy (by simpa using hb)).pure0⟩
 case h_8=>exact i _ rfl _ (by rw [ieqb_eq]; exact .b _)
 case h_9=>exact i _ rfl _ (by rw [ieqb_eq]; exact .b _)
 case h_10=>exact i _ rfl _ (by rw [iltb_eq]; exact .b _)
 case h_11 =>
  refine i _ rfl _ ?_
  have:(!decide (b < a)) = decide (a ≤ b):=by rw [Bool.eq_iff_iff]; simp
  rw [iltb_eq,this]; exact .b _
 case h_12=>exact i _ rfl _ (by rw [iltb_eq]; exact .b _)
 case h_13 =>
  refine i _ rfl _ ?_
  have:(!decide (a < b)) = decide (a ≥ b):=by rw [Bool.eq_iff_iff]; simp
  rw [iltb_eq,this]; exact .b _
 case h_16=>trivial
 all_goals exact i _ rfl _ (by rw [wrF_eq]; exact .i _ _)
theorem shF_ok {op:BinOp} {k k':IntKind} {a b:Int} {t ty:TypeId} {x y:Operand} (hop:o.op = .binOp op t x y ty) (hx:ev Tc x = .int k a) (hy:ev Tc y = .int k' b):RoOk P β H h Tc o (shF op k a b):=by
 unfold shF
 split
 ·rename_i m s
  refine ⟨_,.i _ _,?_⟩
  have:=(r_shl (P:=P) (h:=fun _=>none) hop hx hy (by simp)).pure0
  rw [wrF_eq]
  have e:(Int.ofNat (m * 2 ^ (min s k.bits)):Int) = (Int.ofNat m) * 2 ^ (min (Int.ofNat s).toNat k.bits):=by simp
  rw [e]; exact this
 ·rename_i m s
  refine ⟨_,.i _ _,?_⟩
  have:=(r_shr (P:=P) (h:=fun _=>none) hop hx hy (by simp)).pure0
  have e:(Int.ofNat (m / 2 ^ (min s k.bits)):Int) = (Int.ofNat m).fdiv (2 ^ (min (Int.ofNat s).toNat k.bits)):=by
   show ((m / 2 ^ (min s k.bits):Nat):Int) = ((m:Nat):Int).fdiv (2 ^ (min s k.bits))
   have h2:((2:Int) ^ (min s k.bits)) = ((2 ^ (min s k.bits):Nat):Int):=by simp
   rw [h2,Int.fdiv_eq_ediv_of_nonneg _ (Int.natCast_nonneg _)]; rfl
  rw [e]; exact this
 ·trivial
theorem rBin_ok (r:TR β T Tc) {op:BinOp} {t ty:Nat} {x y:CP} (hx:x.ok = true) (hy:y.ok = true) (hop:o.op = .binOp op t x.op y.op ty):RoOk P β H h Tc o (rBin op t x y ty T H):=by
 unfold rBin; rw [fBin_eq]; unfold sBin
 split
 ·rename_i k n k' m e1 e2
  have h1:=g_i r hx e1
  have h2:=g_i r hy e2
  cases isSh op with
  | true=>exact shF_ok hop h1 h2
  | false =>
   simp only [cond_false]
   cases hk:ikb k k' with
   | false=>trivial
   | true=>have:=ikb_eq hk; subst this; exact binF_ok hop h1 h2
 ·trivial
theorem byt_list (l:List Nat):(byt l).toList = l.map UInt8.ofNat:=by
 rw [ByteArray.toList_eq]; rfl
theorem u8_inj {a b:Nat} (ha:Nat.blt a 256 = true) (hb:Nat.blt b 256 = true):(UInt8.ofNat a = UInt8.ofNat b) ↔ a = b:=by
 have ha:=Nat.le_of_ble_eq_true ha
 have hb:=Nat.le_of_ble_eq_true hb
 constructor
 ·intro e
  have:=congrArg UInt8.toNat e
  simp at this; omega
 ·intro e; rw [e]
theorem leqb_eq:∀ {x y:List Nat},x.all (fun x=>Nat.blt x 256) = true → y.all (fun x=>Nat.blt x 256) = true → leqb x y = (x.map UInt8.ofNat == y.map UInt8.ofNat)
 | [],[],_,_=>rfl
 | [],_ :: _,_,_=>rfl
 | _ :: _,[],_,_=>rfl
 | a :: l,b :: r,ha,hb=>by
  simp only [List.all_cons,Bool.and_eq_true] at ha hb
  simp only [leqb,List.map_cons,List.cons_beq_cons,leqb_eq ha.2 hb.2]
  congr 1
  rw [Bool.eq_iff_iff,Nat.beq_eq,beq_iff_eq,u8_inj ha.1 hb.1]
theorem lltb_eq:∀ {x y:List Nat},x.all (fun x=>Nat.blt x 256) = true → y.all (fun x=>Nat.blt x 256) = true → lltb x y = Op.bytesLess (x.map UInt8.ofNat) (y.map UInt8.ofNat)
 | [],[],_,_=>rfl
 | [],_ :: _,_,_=>rfl
 | _ :: _,[],_,_=>rfl
 | a :: l,b :: r,ha,hb=>by
  simp only [List.all_cons,Bool.and_eq_true] at ha hb
  simp only [lltb,List.map_cons,Op.bytesLess,lltb_eq ha.2 hb.2]
  have h1:Nat.blt a b = decide (UInt8.ofNat a < UInt8.ofNat b):=by
   have ha:=Nat.le_of_ble_eq_true ha.1
   have hb:=Nat.le_of_ble_eq_true hb.1
   rw [Bool.eq_iff_iff,decide_eq_true_eq,UInt8.lt_iff_toNat_lt]
   simp only [Nat.blt,Nat.ble_eq,UInt8.toNat_ofNat']
   omega
  have h2:Nat.beq a b = (UInt8.ofNat a == UInt8.ofNat b):=by rw [Bool.eq_iff_iff,Nat.beq_eq,beq_iff_eq,u8_inj ha.1 hb.1]
  rw [h1,h2]
theorem rBins_ok (r:TR β T Tc) {op:BinOp} {t ty:Nat} {x y:CP} (hx:x.ok = true) (hy:y.ok = true) (hop:o.op = .binOp op t x.op y.op ty):RoOk P β H h Tc o (rBins op t x y ty T H):=by
 unfold rBins fBins
 split
 ·rename_i l m e1 e2
  obtain ⟨h1,b1⟩:=g_s r hx e1
  obtain ⟨h2,b2⟩:=g_s r hy e2
  unfold strF
  split
  ·refine ⟨_,.b _,?_⟩
   have:=(r_eql_str (P:=P) (h:=fun _=>none) hop h1 h2).pure0
   rw [leqb_eq b1 b2,← byt_list,← byt_list]; exact this
  ·refine ⟨_,.b _,?_⟩
   have:=(r_neq_str (P:=P) (h:=fun _=>none) hop h1 h2).pure0
   rw [leqb_eq b1 b2,← byt_list,← byt_list]; exact this
  ·refine ⟨_,.b _,fun w=>?_⟩
   rw [lltb_eq b1 b2,← byt_list,← byt_list]
   simp [execOp,hop,h1,h2,eqGuard,binOp,Op.stringOp]
  ·cases hl:Nat.blt (l.length + m.length) 1000000 with
   | false=>trivial
   | true =>
    have hl:=Nat.le_of_ble_eq_true hl
    refine ⟨_,.s _ (by rw [List.all_append,b1,b2]; rfl),fun w=>?_⟩
    have hs:(byt l).size + (byt m).size = l.length + m.length:=by simp [byt,ByteArray.size]
    have hn:¬ (((byt l).size + (byt m).size:Nat):Int) > IntKind.i64.max:=by
     rw [hs]
     have:IntKind.i64.max = 9223372036854775807:=by decide
     rw [this]; omega
    have ha:byt l ++ byt m = byt (l ++ m):=by
     apply ByteArray.ext
     rw [ByteArray.data_append]
     simp [byt]
    simp only [execOp,hop,h1,h2,eqGuard,binOp,Op.stringOp,Sem.run_bind,Sem.run_pure,Result.andThen_ok,Sem.run_ite,if_neg hn,ha]
    simp
  ·trivial
 ·trivial
theorem keq_eq:∀ a b:List Int,keq a b = decide (a = b)
 | [],[]=>rfl
 | [],_ :: _=>rfl
 | _ :: _,[]=>rfl
 | n :: a,m :: b=>by simp only [keq,ieqb_eq,keq_eq a b]; rw [Bool.eq_iff_iff]; simp
theorem nums_ok:∀ {ks:List IntKind} {cs:List CV} {vs:List Value} {l:List Int},nums ks cs = some l → VRs β cs vs → l.length = ks.length ∧ vs = zipK ks l
 | [],[],_,_,e,.nil=>by cases e; exact ⟨rfl,rfl⟩
 | k :: ks,c :: cs,_,l,e,.cons h1 r1=>by
  unfold nums at e
  split at e
  ·rename_i h _; cases h
  ·rename_i k2 ks2 k' n r2 hks hc
   cases hks; cases hc
   cases hk:ikb k k' with
   | false=>rw [hk] at e; cases e
   | true =>
    rw [hk] at e
    have:=ikb_eq hk
    subst this
    simp only [cond_true] at e
    split at e
    ·rename_i l' hl
     cases e
     obtain ⟨h2,h3⟩:=nums_ok hl r1
     cases h1
     exact ⟨by simp [h2],by rw [h3]; rfl⟩
    ·cases e
  ·cases e
 | [],_ :: _,_,_,e,_=>by simp [nums] at e
 | _ :: _,[],_,_,e,_=>by simp [nums] at e
theorem eq_fin {n:Bool} {q:Bool} {t ty:Nat} {x y:CP} {u v:Value} (hop:o.op = .binOp (match n with | true=>.neq | false=>.eql) t x.op y.op ty) (hu:ev Tc x.op = u) (hv:ev Tc y.op = v) (f:Ab.EqFit P t x.op y.op u v q):PureOp P o (ev Tc) (.bool (bif n then !q else q)):=by
 obtain ⟨h1,h2,h3⟩:=f
 cases n with
 | false=>exact (r_eql (P:=P) (h:=fun _=>none) hop hu hv (by cases u <;> cases v <;> exact h1) h2 (by cases u <;> exact h3)).pure0
 | true=>exact (r_neq (P:=P) (h:=fun _=>none) hop hu hv (by cases u <;> cases v <;> exact h1) h2 (by cases u <;> exact h3)).pure0
theorem litC_op {x:CP} (h:litC x = true):isLit x.op = true:=by cases x <;> first | rfl | cases h
theorem z_some {c:Nat} {v:Value} (h:VR β (.z (some c)) v):∃ a k,v = .slice (some a) 0 k:=by
 cases h with
 | z he hn =>
  rename_i a k
  cases a with
  | none=>cases (hn rfl).2
  | some a=>exact ⟨_,_,rfl⟩
theorem eqF_fit {c:Nat} {a b:CV} {q:Bool} (e:eqF c a b = some q) {u v:Value} (hu:VR β a u) (hv:VR β b v) {t:TypeId} {x y:CP} (ht:isEqC P c t y = true):Ab.EqFit P t x.op y.op u v q:=by
 unfold eqF at e
 split at e <;> (try (cases e; done))
 all_goals cases e
 all_goals simp only [isEqC] at ht
 all_goals split at ht <;> (try (cases ht; done))
 all_goals (try (rename_i h0 _; cases h0; done))
 all_goals rename_i hu'
 all_goals first | (obtain ⟨a,k,rfl⟩:=z_some hu; cases hv; refine ⟨?_,?_,rfl⟩) | (cases hu; cases hv; refine ⟨?_,?_,rfl⟩)
 all_goals first | rfl | (simp [eqv,hu']; done) | (unfold eqv; simp [hu']; done) | simp only [litC_op ht,Bool.or_true]
theorem rEq_ok (r:TR β T Tc) {n:Bool} {c t ty:Nat} {x y:CP} (hx:x.ok = true) (hy:y.ok = true) (ht:isEqC P c t y = true) (hop:o.op = .binOp (match n with | true=>.neq | false=>.eql) t x.op y.op ty):RoOk P β H h Tc o (rEq n c t x y ty T H):=by
 unfold rEq fEq
 split
 ·rename_i q e
  exact ⟨_,.b _,eq_fin hop rfl rfl (eqF_fit e (CP.get_ok r x hx) (CP.get_ok r y hy) ht)⟩
 ·trivial
theorem rEqst_ok (r:TR β T Tc) {n:Bool} {ks:List IntKind} {t ty:Nat} {x y:CP} (hx:x.ok = true) (hy:y.ok = true) (ht:N.eqs t = some ks) (hop:o.op = .binOp (match n with | true=>.neq | false=>.eql) t x.op y.op ty):RoOk P β H h Tc o (rEqst n ks t x y ty T H):=by
 unfold rEqst fEqst
 split
 ·rename_i p q e1 e2
  split
  ·rename_i l m h1 h2
   obtain ⟨vs,hv,rv,_⟩:=g_agg r hx e1
   obtain ⟨us,hu,ru,_⟩:=g_agg r hy e2
   obtain ⟨l1,l2⟩:=nums_ok h1 rv
   obtain ⟨m1,m2⟩:=nums_ok h2 ru
   obtain ⟨g1,g2⟩:=N.eqlaw t ks ht
   refine ⟨_,.b _,eq_fin hop hv hu ⟨by simp [g1],?_,rfl⟩⟩
   rw [l2,m2,keq_eq]
   exact g2 l m l1 m1
  ·trivial
 ·trivial
theorem rNot_ok (r:TR β T Tc) {t:Nat} {x:CP} (hx:x.ok = true) (hop:o.op = .unOp .not t x.op):RoOk P β H h Tc o (rNot t x T H):=by
 unfold rNot; rw [fNot_eq]; unfold sNot
 split
 ·rename_i b e
  exact ⟨_,.b _,p_val (by rw [hop]; simp only [pval,g_b r hx e])⟩
 ·trivial
theorem rBnot_ok (r:TR β T Tc) {t:Nat} {x:CP} (hx:x.ok = true) (hop:o.op = .unOp .xor t x.op):RoOk P β H h Tc o (rBnot t x T H):=by
 unfold rBnot fBnot
 split
 ·rename_i k n e
  exact ⟨_,.i _ _,(r_bnot (h:=fun _=>none) hop (g_i r hx e)).pure0⟩
 ·trivial
theorem isIntT_spec {t:TypeId} (h:isIntT P t = true):∃ k,P.underlying t = some (.int k):=by
 unfold Ab.isIntT at h
 split at h
 ·rename_i k e; exact ⟨k,e⟩
 ·cases h
theorem rConv_ok (r:TR β T Tc) {s d:Nat} {x:CP} {k:IntKind} (hx:x.ok = true) (hs:isIntT P s = true) (hd:(match P.underlying d with | some (.int k')=>k' == k | _=>false) = true) (hop:o.op = .convert s d x.op):RoOk P β H h Tc o (rConv s d x k T H):=by
 unfold rConv; rw [fConv_eq]; unfold sConv
 split
 ·rename_i k' n e
  obtain ⟨ks,hks⟩:=isIntT_spec hs
  split at hd
  ·rename_i k2 hk2
   have:k2 = k:=by simpa using hd
   subst this
   refine ⟨_,.i _ _,?_⟩
   rw [wrF_eq]
   exact (r_convert_int (h:=fun _=>none) hop hks hk2 (g_i r hx e) rfl).pure0
  ·cases hd
 ·trivial
theorem rCstr_ok (r:TR β T Tc) {s d:Nat} {x:CP} (hx:x.ok = true) (hs:isIntT P s = true) (hd:isStr P d = true) (hop:o.op = .convert s d x.op):RoOk P β H h Tc o (rCstr s d x T H):=by
 unfold rCstr fCstr
 split
 ·rename_i k n e
  cases hn:Nat.blt n 128 with
  | false=>trivial
  | true =>
   have hn:=Nat.le_of_ble_eq_true hn
   obtain ⟨ks,hks⟩:=isIntT_spec hs
   refine ⟨_,.s [n] (by simp [Nat.blt]; omega),fun w=>?_⟩
   have he:Utf8.encode (Int.ofNat n) = byt [n]:=by
    have hv:Utf8.valid (Int.ofNat n) = true:=by
     have:(Int.ofNat n) = (n:Int):=rfl
     rw [this]; simp [Utf8.valid]; omega
    unfold Utf8.encode
    have h3:(Int.ofNat n).toNat = n:=rfl
    simp only [hv,if_true,h3]
    rw [if_pos (by omega)]; rfl
   simp [execOp,hop,convert,run_underlying hks,run_underlying (Ab.isStr_spec hd),g_i r hx e,Conv.intToString]; exact he
 ·trivial
theorem rNilc_ok (r:TR β T Tc) {x:CP} (hx:x.ok = true) (hop:o.op = .nilCheck x.op):RoOk P β H h Tc o (rNilc x T H):=by
 have k:=CP.get_ok r x hx
 unfold rNilc fNilc
 split
 ·rename_i id off e
  rw [e] at k
  refine ⟨_,k,?_⟩
  obtain ⟨y,hy,hv⟩:=g_p r hx e
  exact p_val (by rw [hop]; simp only [pval,hv])
 ·rename_i n e
  rw [e] at k
  generalize hv:ev Tc x.op = v at k
  cases k
  exact ⟨_,.g n,p_val (by rw [hop]; simp only [pval,hv])⟩
 ·rename_i f xs ys e
  rw [e] at k
  generalize hv:ev Tc x.op = v at k
  cases k with
  | fn f ha hb=>exact ⟨_,.fn f ha hb,p_val (by rw [hop]; simp only [pval,hv])⟩
 ·trivial
theorem rFa_ok (r:TR β T Tc) {t f off:Nat} {x:CP} (hx:x.ok = true) (hs:fieldOff P t f = some off) (hop:o.op = .fieldAddr t x.op f):RoOk P β H h Tc o (rFa t x f off T H):=by
 unfold rFa; rw [fFa_eq]; unfold sFa
 split
 ·rename_i id off' e
  obtain ⟨y,hy,hv⟩:=g_p r hx e
  exact ⟨_,.p _ hy,p_fieldAddr hop hv hs⟩
 ·trivial
theorem rFd1_ok (r:TR β T Tc) {t f off:Nat} {x:CP} (hx:x.ok = true) (hs:fieldPart P t f = some (off,1,false)) (hop:o.op = .field t x.op f):RoOk P β H h Tc o (rFd1 t x f off T H):=by
 unfold rFd1; rw [fFd1_eq]; unfold sFd1
 split
 ·rename_i cs e
  split
  ·rename_i c hc
   obtain ⟨vs,hv,rv,_⟩:=g_agg r hx e
   obtain ⟨v,h1,h2⟩:=rv.get (nth_some hc)
   exact ⟨_,h2,p_field1 hop hv hs (by simpa using h1)⟩
  ·trivial
 ·trivial
theorem all_sub {l:List CV} {a b:Nat} (h:l.all CV.one = true):((l.drop a).take b).all CV.one = true:=by
 rw [List.all_eq_true] at h ⊢
 exact fun x hx=>h x (List.mem_of_mem_drop (List.mem_of_mem_take hx))
theorem rFdN_ok (r:TR β T Tc) {t f off n:Nat} {x:CP} (hx:x.ok = true) (hs:fieldPart P t f = some (off,n,true)) (hop:o.op = .field t x.op f):RoOk P β H h Tc o (rFdN t x f off n T H):=by
 unfold rFdN fFdN
 simp only [takeR_eq,dropR_eq]
 split
 ·rename_i cs e
  obtain ⟨vs,hv,rv,h1⟩:=g_agg r hx e
  refine ⟨_,.agg (all_sub h1) ((rv.drop off).take n),?_⟩
  have:=p_fieldN (P:=P) hop hv hs
  have h6:vs.toArray.extract off (off + n) = ((vs.drop off).take n).toArray:=by simp
  rwa [h6] at this
 ·trivial
theorem rIx_ok (r:TR β T Tc) {t e sz:Nat} {x i:CP} (hx:x.ok = true) (hi:i.ok = true) (hs:isSl P t e = true) (hz:P.cellsOf e = sz) (he:(P.info? e).isSome = true) (hop:o.op = .indexAddr t x.op i.op):RoOk P β H h Tc o (rIx t x i e sz T H):=by
 unfold rIx; rw [fIx_eq]; unfold sIx
 split
 ·rename_i id off n sz' c k j e1 e2
  cases hj:Nat.blt j n with
  | false=>trivial
  | true =>
   have hj:=Nat.le_of_ble_eq_true hj
   obtain ⟨y,kk,hy,hv,hn,hc,_⟩:=g_sl r hx e1
   refine ⟨_,.p _ hy,?_⟩
   have:=p_indexAddr (P:=P) hop (Ab.isSl_spec hs) hz he hv (g_i r hi e2) (by simp) (by simp; omega)
   simpa using this
 ·trivial
theorem rIxa_ok (r:TR β T Tc) {t e sz n:Nat} {x i:CP} (hx:x.ok = true) (hi:i.ok = true) (hs:isArr P t n e = true) (hz:P.cellsOf e = sz) (he:(P.info? e).isSome = true) (hop:o.op = .indexAddr t x.op i.op):RoOk P β H h Tc o (rIxa t x i e sz n T H):=by
 unfold rIxa; rw [fIxa_eq]; unfold sIxa
 split
 ·rename_i id off k j e1 e2
  cases hj:Nat.blt j n with
  | false=>trivial
  | true =>
   have hj:=Nat.le_of_ble_eq_true hj
   obtain ⟨y,hy,hv⟩:=g_p r hx e1
   refine ⟨_,.p _ hy,?_⟩
   have:=p_indexAddrA (P:=P) hop (Ab.isArr_spec hs) hz he hv (g_i r hi e2) (by simp) (by simp; omega)
   simpa using this
 ·trivial
theorem rIxs_ok (r:TR β T Tc) {t:Nat} {x i:CP} (hx:x.ok = true) (hi:i.ok = true) (hs:isStr P t = true) (hop:o.op = .index t x.op i.op):RoOk P β H h Tc o (rIxs t x i T H):=by
 unfold rIxs fIxs
 split
 ·rename_i l k j e1 e2
  split
  ·rename_i c l' hd
   obtain ⟨hv,hb⟩:=g_s r hx e1
   refine ⟨_,.i _ _,?_⟩
   have hg:l[j]? = some c:=by have:=congrArg (·[0]?) hd; simpa using this
   have hc:Nat.blt c 256 = true:=List.all_eq_true.1 hb c (List.mem_of_getElem? hg)
   have hc:=Nat.le_of_ble_eq_true hc
   have hs':(byt l)[j]? = some (UInt8.ofNat c):=by
    have hlt:j < l.length:=(List.getElem?_eq_some_iff.1 hg).1
    have he:l[j] = c:=(List.getElem?_eq_some_iff.1 hg).2
    have hsz:j < (byt l).size:=by simpa [byt,ByteArray.size] using hlt
    rw [getElem?_pos (byt l) j hsz]
    congr 1
    show ((l.map UInt8.ofNat).toArray)[j]'(by simpa using hlt) = _
    simp [he]
   have:=(r_index_str (P:=P) (h:=fun _=>none) hop (Ab.isStr_spec hs) hv (g_i r hi e2) hs').pure0
   have e3:((UInt8.ofNat c).toNat:Int) = Int.ofNat c:=by simp; omega
   rw [e3] at this
   exact this
  ·trivial
 ·trivial
theorem rIxv_ok (r:TR β T Tc) {t e n:Nat} {x i:CP} (hx:x.ok = true) (hi:i.ok = true) (hs:isArr P t n e = true) (h1:isOne P e = true) (hz:P.cellsOf e = 1) (hop:o.op = .index t x.op i.op):RoOk P β H h Tc o (rIxv t x i e n T H):=by
 unfold rIxv fIxv
 split
 ·rename_i cs k j e1 e2
  cases hj:Nat.blt j n with
  | false=>trivial
  | true =>
   have hj:=Nat.le_of_ble_eq_true hj
   simp only [cond_true]
   split
   ·rename_i c hc
    obtain ⟨vs,hv,rv,_⟩:=g_agg r hx e1
    obtain ⟨v,h2,h3⟩:=rv.get (nth_some hc)
    refine ⟨v,h3,fun w=>?_⟩
    obtain ⟨d,hd,hd2⟩:=Ab.isOne_spec h1
    have hpv:partV P e vs.toArray j = some v:=by
     unfold partV
     rw [hd]
     cases d <;> first | (simpa using h2) | (simp at hd2)
    have hlt:(0:Int) ≤ (j:Int) ∧ (j:Int) < (n:Int):=by omega
    have hie:(P.info? e).isSome = true:=Sl.info_of_underlying hd
    have hij:=g_i r hi e2
    simp only [Int.ofNat_eq_natCast] at hij
    simp [execOp,hop,Instr.index,hij,asIntOf,run_underlying (Ab.isArr_spec hs),hv,hlt,run_cellsOf _ _ hie,hz,run_partV hpv]
    try omega
   ·trivial
 ·trivial
end
end Go.Proofs.YtihdpjinaafenaaGreatDoor.Ce
