import Derived.Test.YtihdpjinaafenaaGreatDoorNc5
noncomputable section
/- Operations told short; what is reckoned or read of frozen values and of objects. -/
set_option linter.unusedVariables false
set_option linter.unusedSimpArgs false
namespace Go.Proofs.YtihdpjinaafenaaGreatDoor.Ab
open Go.Proofs.YtihdpjinaafenaaGreatDoor.Sl
inductive K where
 | mv (x : Operand) | asg (x : Operand) | pick (c : Nat) (a b : Operand)
 | bin (op : BinOp) (t : TypeId) (x y : Operand) (ty : TypeId)
 | eqs (t : TypeId) (x y : Operand) (ty : TypeId) | nes (t : TypeId) (x y : Operand) (ty : TypeId)
 | eqb (c : Nat) (t : TypeId) (x y : Operand) (ty : TypeId) | neb (c : Nat) (t : TypeId) (x y : Operand) (ty : TypeId)
 | not (t : TypeId) (x : Operand) | bnot (t : TypeId) (x : Operand)
 | conv (s d : TypeId) (x : Operand) (k : IntKind) | nilc (x : Operand)
 | fa (t : TypeId) (x : Operand) (f off n : Nat) | fd1 (t : TypeId) (x : Operand) (f off : Nat) | fdN (t : TypeId) (x : Operand) (f off n : Nat)
 | ix (t : TypeId) (x i : Operand) (e sz : Nat) | ixa (t : TypeId) (x i : Operand) (e sz n : Nat)
 | ld (t : TypeId) (x : Operand) | ldN (t : TypeId) (x : Operand) (n : Nat)
 | len (t : TypeId) (x : Operand) (e : TypeId) | lens (t : TypeId) (x : Operand) | cmin (x y : Operand) (t : TypeId) | cmax (x y : Operand) (t : TypeId)
 | bld (t : TypeId) (parts : List (Nat × Operand)) (pl : List (Nat × Nat)) (z : List Value)
 | ext (x : Operand) (i : Nat) | mkf (f : FuncId) (a b : List Operand) | mki (t : TypeId) (x : Operand)
 | sli (t : TypeId) (x : Operand) (lo hi : Option Operand) (e sz : Nat)
 | box (t : TypeId) (x : Operand) (z : Bool) | alc (t : TypeId) (zs : List Value) (z : Bool)
 | st (t : TypeId) (x y : Operand) | stN (t : TypeId) (x y : Operand) (n : Nat)
 | app (t tx : TypeId) (x y : Operand) (e e' sz : Nat)
 | bsl (t : TypeId) (n : Nat) (parts : List (Nat × Operand)) (e sz : Nat) (z : Bool) | mks (t : TypeId) (x y : Operand) (e sz : Nat) (zs : List Value)
 | call (f : FuncId) (args : List Operand) (tys : List TypeId) | callv (x : Operand) (args : List Operand) (tys : List TypeId)
 | other (op : Op)
def K.op : K → Op
 | .mv x => .move x | .asg x => .assign x | .pick c a b => .pick (.tmp c) a b
 | .bin op t x y ty => .binOp op t x y ty
 | .eqs t x y ty => .binOp .eql t x y ty | .nes t x y ty => .binOp .neq t x y ty
 | .eqb _ t x y ty => .binOp .eql t x y ty | .neb _ t x y ty => .binOp .neq t x y ty
 | .not t x => .unOp .not t x | .bnot t x => .unOp .xor t x
 | .conv s d x _ => .convert s d x | .nilc x => .nilCheck x
 | .fa t x f _ _ => .fieldAddr t x f | .fd1 t x f _ => .field t x f | .fdN t x f _ _ => .field t x f
 | .ix t x i _ _ => .indexAddr t x i | .ixa t x i _ _ _ => .indexAddr t x i
 | .ld t x => .load t x | .ldN t x _ => .load t x
 | .len t x _ => .call ⟨.builtin .len, #[x], #[t]⟩ | .lens t x => .call ⟨.builtin .len, #[x], #[t]⟩
 | .cmin x y t => .call ⟨.builtin .min, #[x, y], #[t, t]⟩ | .cmax x y t => .call ⟨.builtin .max, #[x, y], #[t, t]⟩
 | .bld t parts _ _ => .build t parts.toArray
 | .ext x i => .extract x i | .mkf f a b => .makeFunc (.func f) a.toArray b.toArray | .mki t x => .makeInterface t x
 | .sli t x lo hi _ _ => .slice t x lo hi none
 | .box t x _ => .box t x | .alc t _ _ => .alloc t
 | .st t x y => .store t x y | .stN t x y _ => .store t x y
 | .app t tx x y _ _ _ => .call ⟨.builtin .append, #[x, y], #[t, tx]⟩
 | .bsl t n parts _ _ _ => .buildSlice t n parts.toArray | .mks t x y _ _ _ => .makeSlice t x y
 | .call f args tys => .call ⟨.value (.func f), args.toArray, tys.toArray⟩ | .callv x args tys => .call ⟨.value x, args.toArray, tys.toArray⟩
 | .other op => op
def isEq (P : Program) (c : Nat) (t : TypeId) (y : Operand) : Bool := match c, P.underlying t with
 | 0, some .bool => true
 | 1, some (.pointer _) => true
 | 2, some (.interface _) => isLit y
 | _, _ => false
def isOne (P : Program) (t : TypeId) : Bool := match P.underlying t with
 | some (.struct _) | some (.array _ _) | none => false
 | _ => true
def isMany (P : Program) (t : TypeId) : Bool := match P.underlying t with
 | some (.struct _) | some (.array _ _) => true
 | _ => false
def isSl (P : Program) (t e : TypeId) : Bool := match P.underlying t with
 | some (.slice e') => e' == e
 | _ => false
def isArr (P : Program) (t n e : TypeId) : Bool := match P.underlying t with
 | some (.array n' e') => e' == e && n' == n
 | _ => false
def isIntT (P : Program) (t : TypeId) : Bool := match P.underlying t with
 | some (.int _) => true
 | _ => false
def isStr (P : Program) (t : TypeId) : Bool := match P.underlying t with
 | some .string => true
 | _ => false
def sameZ : Value → Value → Bool
 | .int k n, .int k' n' => decide (k = k') && decide (n = n')
 | .bool a, .bool b => a == b
 | .string a, .string b => a.size == 0 && b.size == 0
 | .pointer none, .pointer none => true
 | .slice none 0 0, .slice none 0 0 => true
 | .map none, .map none => true
 | .nilFunc, .nilFunc => true
 | .nilIface, .nilIface => true
 | _, _ => false
theorem ba_empty {a : ByteArray} (h : (a.size == 0) = true) : a = ByteArray.empty := by
 cases a with
 | mk d =>
  simp only [beq_iff_eq, ByteArray.size] at h
  have : d = #[] := Array.size_eq_zero_iff.1 h
  subst this; rfl
theorem sameZ_eq {a b : Value} (h : sameZ a b = true) : a = b := by
 unfold sameZ at h
 split at h
 ·simp only [Bool.and_eq_true, decide_eq_true_eq] at h; rw [h.1, h.2]
 ·simp only [beq_iff_eq] at h; rw [h]
 ·simp only [Bool.and_eq_true] at h; rw [ba_empty h.1, ba_empty h.2]
 all_goals first | rfl | cases h
def sameZs : List Value → List Value → Bool
 | [], [] => true
 | a :: x, b :: y => sameZ a b && sameZs x y
 | _, _ => false
theorem sameZs_eq : ∀ {a b : List Value}, sameZs a b = true → a = b
 | [], [], _ => rfl
 | a :: x, b :: y, h => by
  simp only [sameZs, Bool.and_eq_true] at h
  rw [sameZ_eq h.1, sameZs_eq h.2]
 | [], _ :: _, h => by cases h
 | _ :: _, [], h => by cases h
def zeroIs (P : Program) (t : TypeId) (z : List Value) : Bool := match zeroOf P t with
 | some zs => sameZs zs.toList z
 | none => false
theorem zeroIs_eq {P : Program} {t : TypeId} {z : List Value} (h : zeroIs P t z = true) : zeroOf P t = some z.toArray := by
 unfold zeroIs at h
 split at h
 ·rename_i zs e; rw [e, ← sameZs_eq h]
 ·cases h
def okCall (P : Program) (f : FuncId) : Bool := match P.funcs[f]? with
 | some fn => !(fn.name == "runtime.NumGoroutine") && !fn.body.isNone
 | none => false
def K.side (P : Program) : K → Bool
 | .fa t _ f off n => fieldOff P t f == some off
 | .fd1 t _ f off => fieldPart P t f == some (off, 1, false)
 | .fdN t _ f off n => fieldPart P t f == some (off, n, true)
 | .ix t _ _ e sz => isSl P t e && P.cellsOf e == sz && (P.info? e).isSome
 | .ixa t _ _ e sz n => isArr P t n e && P.cellsOf e == sz && (P.info? e).isSome
 | .ld t _ => isOne P t
 | .ldN t _ n => isMany P t && P.cellsOf t == n
 | .conv s d _ k => isIntT P s && (match P.underlying d with | some (.int k') => k' == k | _ => false)
 | .len t _ e => isSl P t e
 | .eqb c t _ y _ | .neb c t _ y _ => isEq P c t y
 | .lens t _ => isStr P t
 | .mki t _ => match P.underlying t with
  | some (.interface _) | none => false
  | _ => true
 | .bld t _ pl z => placesOf P t == some pl && zeroIs P t z
 | .alc t zs _ => zeroIs P t zs && !zs.isEmpty
 | .st t _ _ => P.cellsOf t == 1 && (P.info? t).isSome
 | .stN t _ _ n => P.cellsOf t == n && (P.info? t).isSome
 | .app t tx _ _ e e' sz => isSl P t e && isSl P tx e' && infoOk P e sz
 | .bsl t n parts e sz _ => isSl P t e && infoOk P e sz && decide (n = parts.length) && decide (parts.map (·.1) = List.range n) && decide (0 < sz) && decide (n * sz ≤ 65536)
 | .call f _ _ => okCall P f
 | .mks t _ _ e sz zs => isSl P t e && infoOk P e sz && zeroIs P e zs && zs.all (·.oneCell')
 | .sli t _ _ _ e sz => isSl P t e && P.cellsOf e == sz && (P.info? e).isSome
 | _ => true
structure AO where
 dst : Option Nat
 g : Option (Nat × Bool)
 k : K
 q : Bool
def sint (op : BinOp) (k : IntKind) (a b : Int) : Option (Prop × Value) := match op with
 | .quo => some (b ≠ 0, .int k (k.wrap (a.tdiv b)))
 | .rem => some (b ≠ 0, .int k (a.tmod b))
 | op => (intBin op k a b).map fun v => (True, v)
def ibin (op : BinOp) (k k' : IntKind) (a b : Int) : Option (Prop × Value) := match op with
 | .shl => some (0 ≤ b, .int k (k.wrap (a * 2 ^ (min b.toNat k.bits))))
 | .shr => some (0 ≤ b, .int k (a.fdiv (2 ^ (min b.toNat k.bits))))
 | op => if k = k' then sint op k a b else none
def feq : Nat → AV → AV → Option Bool
 | 0, .fz (.val (.bool a)), .fz (.val (.bool b)) => some (a == b)
 | 1, .fz (.val (.pointer none)), .fz (.val (.pointer none)) => some true
 | 1, .fz (.fp _), .fz (.val (.pointer none)) => some false
 | 1, .oe _ _ _ _, .fz (.val (.pointer none)) => some false
 | 2, .fz (.val .nilIface), .fz (.val .nilIface) => some true
 | 2, .fz (.ifc _ _), .fz (.val .nilIface) => some false
 | _, _, _ => none
def FV.cells : FV → List FV
 | .agg cs => cs
 | .val v => v.cells.toList.map .val
 | x => [x]
def fillF (places : List (Nat × Nat)) : List FV → List (Nat × FV) → Option (List FV)
 | cs, [] => some cs
 | cs, (i, x) :: r => match places[i]? with
  | none => none
  | some (off, size) => if x.cells.length = size ∧ off + size ≤ cs.length then fillF places (cs.take off ++ x.cells ++ cs.drop (off + size)) r else none
def ofzs (o : Operand → Option AV) : List Operand → Option (List FV)
 | [] => some []
 | x :: r => match o x with
  | some (.fz y) => match ofzs o r with
   | some ys => some (y :: ys)
   | none => none
  | _ => none
def ofzp (o : Operand → Option AV) : List (Nat × Operand) → Option (List (Nat × FV))
 | [] => some []
 | (i, x) :: r => match o x with
  | some (.fz y) => match ofzp o r with
   | some ys => some ((i, y) :: ys)
   | none => none
  | _ => none
def bnd (o : Operand → Option AV) (n : Int) : Option Operand → Option Int
 | none => some n
 | some x => match o x with
  | some (.fz (.val (.int _ j))) => some j
  | _ => none
def unfz : List AV → Option (List FV)
 | [] => some []
 | .fz x :: r => match unfz r with
  | some xs => some (x :: xs)
  | none => none
 | _ :: _ => none
theorem unfz_eq : ∀ {l : List AV} {xs : List FV}, unfz l = some xs → l = xs.map .fz
 | [], xs, h => by cases h; rfl
 | .fz x :: r, xs, h => by
  unfold unfz at h
  split at h
  ·rename_i ys hy; cases h; rw [unfz_eq hy]; rfl
  ·cases h
 | .hid :: _, _, h => by cases h
 | .os _ :: _, _, h => by cases h
 | .oe _ _ _ _ :: _, _, h => by cases h
structure R where
 ob : Prop
 v : AV
 rd : Option Nat
def pv (σ : AS) (o : List (Nat × Bool) → Operand → Option AV) : K → Option R
 | .mv x => match o [] x with
  | some v => some ⟨True, v, none⟩
  | none => none
 | .asg x => match o [] x with
  | some v => some ⟨True, v, none⟩
  | none => none
 | .pick c a b => match o [] (.tmp c), o [(c, true)] a, o [(c, false)] b with
  | some (.fz (.val (.bool t))), some (.fz (.val (.bool x))), some (.fz (.val (.bool y))) => some ⟨True, .fz (.val (.bool (bif t then x else y))), none⟩
  | _, _, _ => none
 | .bin op _ x y _ => match o [] x, o [] y with
  | some (.fz (.val (.int k a))), some (.fz (.val (.int k' b))) => match ibin op k k' a b with
   | some r => some ⟨r.1, .fz (.val r.2), none⟩
   | none => none
  | _, _ => none
 | .eqs _ x y _ => match o [] x, o [] y with
  | some (.fz (.val (.string a))), some (.fz (.val (.string b))) => some ⟨True, .fz (.val (.bool (a.toList == b.toList))), none⟩
  | _, _ => none
 | .nes _ x y _ => match o [] x, o [] y with
  | some (.fz (.val (.string a))), some (.fz (.val (.string b))) => some ⟨True, .fz (.val (.bool (!(a.toList == b.toList)))), none⟩
  | _, _ => none
 | .not _ x => match o [] x with
  | some (.fz (.val (.bool b))) => some ⟨True, .fz (.val (.bool (!b))), none⟩
  | _ => none
 | .bnot _ x => match o [] x with
  | some (.fz (.val (.int k a))) => some ⟨True, .fz (.val (.int k (k.wrap (BitVec.ofInt k.bits (if k.signed then -1 else k.max) ^^^ BitVec.ofInt k.bits a).toNat))), none⟩
  | _ => none
 | .conv _ _ x k => match o [] x with
  | some (.fz (.val (.int _ a))) => some ⟨True, .fz (.val (.int k (k.wrap a))), none⟩
  | _ => none
 | .nilc x => match o [] x with
  | some (.fz (.fp cs)) => some ⟨True, .fz (.fp cs), none⟩
  | some (.oe id sz i off) => some ⟨True, .oe id sz i off, none⟩
  | some (.fz (.fn f a b)) => some ⟨True, .fz (.fn f a b), none⟩
  | _ => none
 | .fa _ x _ off n => match o [] x with
  | some (.fz (.fp cs)) => some ⟨off + n ≤ cs.length, .fz (.fp ((cs.drop off).take n)), none⟩
  | some (.oe id sz i p) => some ⟨True, .oe id sz i (p + off), none⟩
  | _ => none
 | .fd1 _ x _ off => match o [] x with
  | some (.fz (.agg cs)) => match cs.drop off with
   | c :: _ => some ⟨True, .fz c, none⟩
   | [] => none
  | _ => none
 | .fdN _ x _ off n => match o [] x with
  | some (.fz (.agg cs)) => some ⟨off + n ≤ cs.length, .fz (.agg ((cs.drop off).take n)), none⟩
  | _ => none
 | .ix _ x i _ sz => match o [] x, o [] i with
  | some (.fz y), some (.fz (.val (.int _ j))) => match asSl y with
   | some (n, f) => some ⟨(0 ≤ j ∧ j < n) ∧ (f j.toNat).length = sz, .fz (.fp (f j.toNat)), none⟩
   | none => none
  | some (.os id), some (.fz (.val (.int _ j))) => match lookS σ id with
   | some (.rows _ sz' rows) => if sz' = sz then some ⟨0 ≤ j ∧ j < rows.length, .oe id sz j.toNat 0, none⟩ else none
   | _ => none
  | _, _ => none
 | .ixa _ x i _ sz n => match o [] x, o [] i with
  | some (.fz (.fp cs)), some (.fz (.val (.int _ j))) => some ⟨(0 ≤ j ∧ j < n) ∧ n * sz ≤ cs.length, .fz (.fp ((cs.drop (j.toNat * sz)).take sz)), none⟩
  | some (.oe id sz' i' p), some (.fz (.val (.int _ j))) => some ⟨0 ≤ j ∧ j < n, .oe id sz' i' (p + j.toNat * sz), none⟩
  | _, _ => none
 | .ld _ x => match o [] x with
  | some (.fz (.fp cs)) => match cs with
   | c :: _ => some ⟨True, .fz c, none⟩
   | [] => none
  | some (.oe id sz i p) => match lookS σ id with
   | some (.box _ cells) => if i = 0 then match cells.drop p with
     | c :: _ => some ⟨True, c, some id⟩
     | [] => none
    else none
   | some (.rows _ sz' rows) => if sz' = sz then some ⟨i < rows.length ∧ p < sz, .fz ((rows.getD i []).getD p (.val undef)), some id⟩ else none
   | _ => none
  | _ => none
 | .ldN _ x n => match o [] x with
  | some (.fz (.fp cs)) => some ⟨n ≤ cs.length, .fz (.agg (cs.take n)), none⟩
  | some (.oe id sz i p) => match lookS σ id with
   | some (.box _ cells) => if i = 0 then match unfz ((cells.drop p).take n) with
     | some cs => some ⟨p + n ≤ cells.length, .fz (.agg cs), some id⟩
     | none => none
    else none
   | some (.rows _ sz' rows) => if sz' = sz ∧ p = 0 ∧ n = sz then some ⟨i < rows.length, .fz (.agg (rows.getD i [])), some id⟩ else none
   | _ => none
  | _ => none
 | .len _ x _ => match o [] x with
  | some (.fz y) => match asSl y with
   | some (n, _) => some ⟨True, .fz (.val (.int .i64 n)), none⟩
   | none => none
  | some (.os id) => match lookS σ id with
   | some (.rows _ _ rows) => some ⟨True, .fz (.val (.int .i64 rows.length)), none⟩
   | _ => none
  | _ => none
 | .lens _ x => match o [] x with
  | some (.fz (.val (.string s))) => some ⟨True, .fz (.val (.int .i64 s.size)), none⟩
  | _ => none
 | .cmin x y _ => match o [] x, o [] y with
  | some (.fz (.val (.int k a))), some (.fz (.val (.int k' b))) => if k = k' then some ⟨True, .fz (.val (.int k (if b < a then b else a))), none⟩ else none
  | _, _ => none
 | .cmax x y _ => match o [] x, o [] y with
  | some (.fz (.val (.int k a))), some (.fz (.val (.int k' b))) => if k = k' then some ⟨True, .fz (.val (.int k (if b > a then b else a))), none⟩ else none
  | _, _ => none
 | .bld _ parts pl z => match ofzp (o []) parts with
  | some ps => match fillF pl (z.map .val) ps with
   | some cs => some ⟨True, .fz (.agg cs), none⟩
   | none => none
  | none => none
 | .ext x i => match o [] x with
  | some (.fz (.tup cs)) => match cs.drop i with
   | c :: _ => some ⟨True, .fz c, none⟩
   | [] => none
  | _ => none
 | .mkf f a b => match ofzs (o []) a, ofzs (o []) b with
  | some xs, some ys => some ⟨True, .fz (.fn f xs ys), none⟩
  | _, _ => none
 | .mki t x => match o [] x with
  | some (.fz y) => some ⟨True, .fz (.ifc t y), none⟩
  | _ => none
 | .sli _ x lo hi _ sz => match o [] x with
  | some (.fz y) => match asSl y with
   | some (n, f) => match bnd (o []) 0 lo, bnd (o []) n hi with
    | some l, some k => some ⟨(0 ≤ l ∧ l ≤ k ∧ k ≤ n) ∧ ∀ i, i < n → (f i).length = sz, .fz (.sl (k - l).toNat fun i => f (l.toNat + i)), none⟩
    | _, _ => none
   | none => none
  | _ => none
 | .eqb c _ x y _ => match o [] x, o [] y with
  | some a, some b => match feq c a b with
   | some r => some ⟨True, .fz (.val (.bool r)), none⟩
   | none => none
  | _, _ => none
 | .neb c _ x y _ => match o [] x, o [] y with
  | some a, some b => match feq c a b with
   | some r => some ⟨True, .fz (.val (.bool (!r))), none⟩
   | none => none
  | _, _ => none
 | _ => none
end Go.Proofs.YtihdpjinaafenaaGreatDoor.Ab

/- What is reckoned or read: that the operations give just this. -/
set_option linter.unusedVariables false
set_option linter.unusedSimpArgs false
namespace Go.Proofs.YtihdpjinaafenaaGreatDoor.Ab
open Go.Proofs.YtihdpjinaafenaaGreatDoor.Sl
def PvOk (P : Program) (β : Nat → Value) (hF h : Heap) (Tc : Tm) (o : Oper) (r : R) : Prop :=
 ∃ v, ARep β hF r.v v ∧ (isRead o.op = false → PureOp P o (ev Tc) v) ∧ (∀ g, hF.le g → (∀ id b, r.rd = some id → baseOf (β id) = some b → g b = h b) → ReadOp P o (ev Tc) g v)
section
variable {P : Program} {h0 : Gd} {β : Nat → Value} {hF h : Heap} {Tc : Tm} {T : AT} {L : AL} {σ : AS} {o : Oper} {r : R}
theorem fin_pure {v : Value} (hv : ARep β hF r.v v) (p : PureOp P o (ev Tc) v) : PvOk P β hF h Tc o r := ⟨v, hv, fun _ => p, fun g _ _ => p.read g⟩
theorem fin_pr {v : Value} (hv : ARep β hF r.v v) (p : ReadOp P o (ev Tc) (fun _ => none) v) : PvOk P β hF h Tc o r := fin_pure hv p.pure0
theorem fin_read {v : Value} (hv : ARep β hF r.v v) (hr : isRead o.op = true) (p : ∀ g, hF.le g → (∀ id b, r.rd = some id → baseOf (β id) = some b → g b = h b) → ReadOp P o (ev Tc) g v) : PvOk P β hF h Tc o r :=
 ⟨v, hv, fun e => (by rw [hr] at e; cases e), p⟩
theorem fz_val {u v : Value} (r : ARep β hF (.fz (.val u)) v) : v = u := by cases r with | fz r => cases r; rfl
theorem fz_fz {x : FV} {v : Value} (r : ARep β hF (.fz x) v) : FRep hF x v := by cases r with | fz r => exact r
theorem getElem?_drop_cons {α : Type} {l : List α} {k : Nat} {c : α} {t : List α} (h : l.drop k = c :: t) : l[k]? = some c := by
 have := congrArg (·[0]?) h
 simpa using this
theorem frep_fp {cs : List FV} {v : Value} (r : FRep hF (.fp cs) v) : ∃ b off full e fz, v = .pointer (some ⟨b, off, none⟩) ∧ hF b = some (.cells full e fz) ∧ off + cs.length ≤ full.size ∧ ∀ (j : Nat) (c : FV) (u : Value), cs[j]? = some c → full[off + j]? = some u → FRep hF c u := by
 cases r with
 | fp hb hs hr => exact ⟨_, _, _, _, _, rfl, hb, hs, hr⟩
theorem frep_agg {cs : List FV} {v : Value} (r : FRep hF (.agg cs) v) : ∃ vs : List Value, v = .agg vs.toArray ∧ FReps hF cs vs := by
 cases r with
 | agg hl hr => exact ⟨_, rfl, hl, hr⟩
theorem frep_tup {cs : List FV} {v : Value} (r : FRep hF (.tup cs) v) : ∃ vs : List Value, v = .tuple vs.toArray ∧ FReps hF cs vs := by
 cases r with
 | tup hl hr => exact ⟨_, rfl, hl, hr⟩
theorem FReps.take {cs : List FV} {vs : List Value} (r : FReps hF cs vs) (k n : Nat) : FReps hF ((cs.drop k).take n) ((vs.drop k).take n) :=
 ⟨by simp [r.1], fun j c v a b => by
  rw [List.getElem?_take] at a b
  split at a
  ·rename_i hj
   rw [if_pos hj] at b
   rw [List.getElem?_drop] at a b
   exact r.2 _ c v a b
  ·cases a⟩
theorem sub_fp {cs : List FV} {full : Array Value} {off k n : Nat} (hs : off + cs.length ≤ full.size) (hr : ∀ (j : Nat) (c : FV) (u : Value), cs[j]? = some c → full[off + j]? = some u → FRep hF c u) :
  ∀ (j : Nat) (c : FV) (u : Value), ((cs.drop k).take n)[j]? = some c → full[off + k + j]? = some u → FRep hF c u := fun j c u a b => by
 rw [List.getElem?_take] at a
 split at a
 ·rw [List.getElem?_drop] at a
  exact hr (k + j) c u a (by rw [← b]; congr 1; omega)
 ·cases a
theorem FReps.of_fp {cs : List FV} {full : Array Value} {off n : Nat} (hs : off + cs.length ≤ full.size) (hn : n ≤ cs.length) (hr : ∀ (j : Nat) (c : FV) (u : Value), cs[j]? = some c → full[off + j]? = some u → FRep hF c u) : FReps hF (cs.take n) (full.extract off (off + n)).toList :=
 ⟨by simp; omega, fun j c v a b => by
  rw [List.getElem?_take] at a
  split at a
  ·rename_i hj
   rw [Array.getElem?_toList, Array.getElem?_extract_of_lt (by omega)] at b
   exact hr j c v a (by rw [Array.getElem?_eq_getElem (by omega)]; exact b)
  ·cases a⟩
theorem flat_get {α : Type} {sz : Nat} : ∀ {rows : List (List α)}, (∀ r ∈ rows, r.length = sz) → ∀ (i j : Nat), j < sz → rows.flatten[i * sz + j]? = (rows[i]?).bind (·[j]?)
 | [], _, i, j, _ => by simp
 | r :: rows, h, 0, j, hj => by
  have h1 := h r (by simp)
  simp only [List.flatten_cons, Nat.zero_mul, Nat.zero_add, List.getElem?_cons_zero, Option.bind_some]
  rw [List.getElem?_append_left (by omega)]
 | r :: rows, h, i + 1, j, hj => by
  have h1 := h r (by simp)
  have ih := flat_get (rows := rows) (fun x hx => h x (by simp [hx])) i j hj
  rw [List.flatten_cons, List.getElem?_append_right (by rw [Nat.succ_mul]; omega), h1, show (i + 1) * sz + j - sz = i * sz + j by rw [Nat.succ_mul]; omega, ih]
  rfl
theorem flat_len {α : Type} {sz : Nat} : ∀ {rows : List (List α)}, (∀ r ∈ rows, r.length = sz) → rows.flatten.length = rows.length * sz
 | [], _ => by simp
 | r :: rows, h => by
  have ih := flat_len (rows := rows) (fun x hx => h x (by simp [hx]))
  have h1 := h r (by simp)
  rw [List.flatten_cons, List.length_append, ih, h1, List.length_cons, Nat.succ_mul]; omega
theorem rows_at {id sz : Nat} {t : TypeId} {rows : List (List FV)} (ok : OOk β hF h id (.rows t sz rows)) {i : Nat} (hi : i < rows.length) : ∃ b n c full, β id = .slice (some ⟨b, 0, none⟩) n c ∧ h b = some (.cells full t (0, 0)) ∧ rows.length * sz ≤ full.size ∧ (rows.getD i []).length = sz ∧
  ∀ (p : Nat) (c : FV) (u : Value), (rows.getD i [])[p]? = some c → full[i * sz + p]? = some u → FRep hF c u := by
 obtain ⟨vs, own, hlen, hone, reps⟩ := ok
 have hrow : rows.getD i [] ∈ rows := by rw [List.getD_eq_getElem?_getD, List.getElem?_eq_getElem hi]; exact List.getElem_mem hi
 generalize hβ : β id = v at own
 generalize hn : rows.length = n at own hi
 cases own with
 | nil => omega
 | @at_ b n c full cs hb hl hnc hcap hc =>
  have h1 : n * sz ≤ full.size := Nat.le_trans (Nat.mul_le_mul_right _ hnc) hcap
  refine ⟨b, _, _, full, rfl, hb, h1, hlen _ hrow, fun p c u a e => ?_⟩
  have hp : p < sz := by
   have h5 := (List.getElem?_eq_some_iff.1 a).1
   have h6 := hlen _ hrow
   omega
  refine reps.2 (i * sz + p) c u ?_ ?_
  ·rw [flat_get hlen i p hp]
   rw [List.getD_eq_getElem?_getD] at a
   have hri : rows[i]? = some (rows[i]'(by omega)) := List.getElem?_eq_getElem (by omega)
   rw [hri] at a ⊢
   exact a
  ·have h2 : i * sz + p < n * sz := by
    have : (i + 1) * sz ≤ n * sz := Nat.mul_le_mul_right _ hi
    rw [Nat.succ_mul] at this; omega
   rw [← hc, List.getElem?_take_of_lt h2, Array.getElem?_toList]; exact e
theorem ofzs_ok {o : Operand → Option AV} (ho : ∀ x av, o x = some av → ARep β hF av (ev Tc x)) : ∀ {l : List Operand} {xs : List FV}, ofzs o l = some xs → FReps hF xs (l.map (ev Tc))
 | [], xs, e => by cases e; exact FReps.nil _
 | x :: l, xs, e => by
  unfold ofzs at e
  split at e
  ·rename_i y hy
   split at e
   ·rename_i ys hys
    cases e
    exact FReps.cons (fz_fz (ho x _ hy)) (ofzs_ok ho hys)
   ·cases e
  ·cases e
theorem ofzp_ok {o : Operand → Option AV} (ho : ∀ x av, o x = some av → ARep β hF av (ev Tc x)) : ∀ {l : List (Nat × Operand)} {xs : List (Nat × FV)}, ofzp o l = some xs →
  (l.map (·.1) = xs.map (·.1)) ∧ FReps hF (xs.map (·.2)) (l.map fun p => ev Tc p.2)
 | [], xs, e => by cases e; exact ⟨rfl, FReps.nil _⟩
 | (i, x) :: l, xs, e => by
  unfold ofzp at e
  split at e
  ·rename_i y hy
   split at e
   ·rename_i ys hys
    cases e
    obtain ⟨h1, h2⟩ := ofzp_ok ho hys
    exact ⟨by simp [h1], FReps.cons (fz_fz (ho x _ hy)) h2⟩
   ·cases e
  ·cases e
theorem cells_ok {x : FV} {v : Value} (r : FRep hF x v) : FReps hF x.cells v.cells.toList := by
 cases r with
 | val v => exact ⟨by simp [FV.cells], fun j c u a b => by
   simp only [FV.cells] at a
   rw [List.getElem?_map, b] at a
   cases a; exact .val u⟩
 | agg hl hr => exact ⟨by simpa [FV.cells, Value.cells] using hl, fun j c u a b => hr j c u (by simpa [FV.cells] using a) (by simpa [Value.cells] using b)⟩
 | sl0 f a c => exact FReps.cons (.sl0 f a c) (FReps.nil _)
 | sl hb hnc hsz h1 hs hr => exact FReps.cons (.sl hb hnc hsz h1 hs hr) (FReps.nil _)
 | fp hb hs hr => exact FReps.cons (.fp hb hs hr) (FReps.nil _)
 | tup hl hr => exact FReps.cons (.tup hl hr) (FReps.nil _)
 | ifc hx => exact FReps.cons (.ifc hx) (FReps.nil _)
 | fn a b c d => exact FReps.cons (.fn a b c d) (FReps.nil _)
theorem FReps.app {a b : List FV} {x y : List Value} (r : FReps hF a x) (q : FReps hF b y) : FReps hF (a ++ b) (x ++ y) :=
 ⟨by simp [r.1, q.1], fun j c v e1 e2 => by
  rcases Nat.lt_or_ge j a.length with hj | hj
  ·rw [List.getElem?_append_left hj] at e1
   rw [List.getElem?_append_left (by rw [r.1]; exact hj)] at e2
   exact r.2 j c v e1 e2
  ·rw [List.getElem?_append_right hj] at e1
   rw [List.getElem?_append_right (by rw [r.1]; exact hj), r.1] at e2
   exact q.2 _ c v e1 e2⟩
theorem fill_ok {pl : List (Nat × Nat)} : ∀ {ps : List (Nat × FV)} {vs : List (Nat × Value)} {cs : List FV} {us : List Value} {cs' : List FV}, FReps hF cs us → ps.map (·.1) = vs.map (·.1) → FReps hF (ps.map (·.2)) (vs.map (·.2)) → fillF pl cs ps = some cs' →
  ∃ us', fillL pl us vs = some us' ∧ FReps hF cs' us'
 | [], vs, cs, us, cs', r, e1, r2, e => by
  cases vs with
  | nil => cases e; exact ⟨us, rfl, r⟩
  | cons p vs => simp at e1
 | (i, x) :: ps, vs, cs, us, cs', r, e1, r2, e => by
  cases vs with
  | nil => simp at e1
  | cons p vs =>
   obtain ⟨i', v⟩ := p
   simp only [List.map_cons, List.cons.injEq] at e1
   obtain ⟨rfl, e1⟩ := e1
   obtain ⟨v', ws, hv, rx, rs⟩ := FReps.uncons r2
   simp only [List.map_cons, List.cons.injEq] at hv
   obtain ⟨rfl, rfl⟩ := hv
   unfold fillF at e
   unfold fillL
   split at e
   ·cases e
   ·rename_i off size hp
    have rc := cells_ok rx
    split at e
    ·rename_i hc
     simp only [hp]
     rw [if_pos ⟨by rw [← hc.1, ← rc.1, Array.length_toList], by rw [r.1]; exact hc.2⟩]
     refine fill_ok ?_ e1 rs e
     have h1 := FReps.take r 0 off
     have h2 := FReps.take r (off + size) cs.length
     rw [List.drop_zero, List.drop_zero] at h1
     rw [List.take_of_length_le (by simp), List.take_of_length_le (by simp [r.1])] at h2
     have hsz : v.cells.size = size := by rw [← hc.1, ← rc.1, Array.length_toList]
     try rw [hsz]
     exact (h1.app rc).app h2
    ·cases e
end
end Go.Proofs.YtihdpjinaafenaaGreatDoor.Ab

/- What is reckoned or read: the theorem. -/
set_option linter.unusedVariables false
set_option linter.unusedSimpArgs false
namespace Go.Proofs.YtihdpjinaafenaaGreatDoor.Ab
open Go.Proofs.YtihdpjinaafenaaGreatDoor.Sl
section
variable {P : Program} {h0 : Gd} {β : Nat → Value} {hF h : Heap} {Tc : Tm} {T : AT} {L : AL} {σ : AS} {o : Oper} {r : R}
theorem isOne_spec {t : TypeId} (hs : isOne P t = true) : ∃ d, P.underlying t = some d ∧ (match d with | .struct _ | .array _ _ => false | _ => true) = true := by
 unfold isOne at hs
 cases hu : P.underlying t with
 | none => rw [hu] at hs; cases hs
 | some d => rw [hu] at hs; exact ⟨d, rfl, by cases d <;> first | rfl | cases hs⟩
theorem isMany_spec {t : TypeId} (hs : isMany P t = true) : ∃ d, P.underlying t = some d ∧ (match d with | .struct _ | .array _ _ => true | _ => false) = true := by
 unfold isMany at hs
 cases hu : P.underlying t with
 | none => rw [hu] at hs; cases hs
 | some d => rw [hu] at hs; exact ⟨d, rfl, by cases d <;> first | rfl | cases hs⟩
theorem r_ld1 {ρ : Operand → Value} {t : TypeId} {x : Operand} {b off : Nat} {cs : Array Value} {e : TypeId} {fz : Nat × Nat} {v : Value} (ho : o.op = .load t x) (hs : isOne P t = true) (hx : ρ x = .pointer (some ⟨b, off, none⟩)) {g : Heap} (hb : g b = some (.cells cs e fz)) (hc : cs[off]? = some v) : ReadOp P o ρ g v := by
 obtain ⟨d, hu, hd⟩ := isOne_spec hs
 exact r_load1 ho hu (by cases d <;> exact hd) hx hb hc
theorem r_ldN {ρ : Operand → Value} {t : TypeId} {x : Operand} {b off : Nat} {cs : Array Value} {e : TypeId} {fz : Nat × Nat} (ho : o.op = .load t x) (hs : isMany P t = true) (hx : ρ x = .pointer (some ⟨b, off, none⟩)) {g : Heap} (hb : g b = some (.cells cs e fz)) {n : Nat} (hn : P.cellsOf t = n) (hc : off + n ≤ cs.size) : ReadOp P o ρ g (.agg (cs.extract off (off + n))) := by
 obtain ⟨d, hu, hd⟩ := isMany_spec hs
 exact r_loadN ho hu (by cases d <;> exact hd) hx hb hn hc
theorem isSl_spec {t e : TypeId} (hs : isSl P t e = true) : P.underlying t = some (.slice e) := by
 unfold isSl at hs
 split at hs
 ·rename_i e' hu; simp only [beq_iff_eq] at hs; rw [hu, hs]
 ·cases hs
theorem isArr_spec {t n e : TypeId} (hs : isArr P t n e = true) : P.underlying t = some (.array n e) := by
 unfold isArr at hs
 split at hs
 ·rename_i n' e' hu; simp only [Bool.and_eq_true, beq_iff_eq] at hs; rw [hu, hs.1, hs.2]
 ·cases hs
theorem isStr_spec {t : TypeId} (hs : isStr P t = true) : P.underlying t = some .string := by
 unfold isStr at hs
 split at hs
 ·assumption
 ·cases hs
theorem intBin_of {op : BinOp} {k : IntKind} {a b : Int} {v : Value} (h : intBin op k a b = some v) {t ty : TypeId} {x y : Operand} (hop : o.op = .binOp op t x y ty) (hx : ev Tc x = .int k a) (hy : ev Tc y = .int k b) : PureOp P o (ev Tc) v := by
 refine p_val ?_
 rw [hop]
 simp only [pval, hx, hy, binVal]
 cases op <;> simp only [intBin, reduceCtorEq] at h <;> simpa [intBin] using h
theorem ibin_ok {op : BinOp} {k k' : IntKind} {a b : Int} {q : Prop × Value} (h : ibin op k k' a b = some q) (ob : q.1) {t ty : TypeId} {x y : Operand} (hop : o.op = .binOp op t x y ty) (hx : ev Tc x = .int k a) (hy : ev Tc y = .int k' b) : PureOp P o (ev Tc) q.2 := by
 unfold ibin at h
 split at h
 ·cases h; exact (r_shl hop hx hy ob).pure0
 ·cases h; exact (r_shr hop hx hy ob).pure0
 ·split at h
  ·rename_i hk
   subst hk
   unfold sint at h
   split at h
   ·cases h; exact (r_quo hop hx hy ob).pure0
   ·cases h; exact (r_rem hop hx hy ob).pure0
   ·cases hi : intBin op k a b with
    | none => rw [hi] at h; cases h
    | some v => rw [hi] at h; cases h; exact intBin_of hi hop hx hy
  ·cases h
theorem isEq_spec {c : Nat} {t : TypeId} {y : Operand} (h : isEq P c t y = true) : (c = 0 ∧ P.underlying t = some .bool) ∨ (c = 1 ∧ ∃ e, P.underlying t = some (.pointer e)) ∨ (c = 2 ∧ (∃ e, P.underlying t = some (.interface e)) ∧ isLit y = true) := by
 unfold isEq at h
 split at h
 ·rename_i hu; exact .inl ⟨rfl, hu⟩
 ·rename_i hu; exact .inr (.inl ⟨rfl, _, hu⟩)
 ·rename_i hu; exact .inr (.inr ⟨rfl, ⟨_, hu⟩, h⟩)
 ·cases h
def EqFit (P : Program) (t : TypeId) (x y : Operand) (u v : Value) (q : Bool) : Prop :=
 (match u, v with | .int _ _, .int _ _ => false | .agg _, .agg _ => !P.eqGuardType P.depth t | .nilIface, .nilIface => isLit x || isLit y | _, _ => true) = true ∧ eqv P 10000 t u v = some q ∧ (match u with | .int _ _ | .float _ _ | .complex _ _ _ | .string _ => false | _ => true) = true
theorem feq_fit {c : Nat} {a b : AV} {q : Bool} (h : feq c a b = some q) {u v : Value} (hu : ARep β hF a u) (hv : ARep β hF b v) {t : TypeId} {x y : Operand} (ht : isEq P c t y = true) : EqFit P t x y u v q := by
 have ht := isEq_spec ht
 unfold feq at h
 split at h
 ·obtain ⟨_, h1⟩ | ⟨h1, _⟩ | ⟨h1, _⟩ := ht
  ·cases h; rw [fz_val hu, fz_val hv]; exact ⟨rfl, by simp [eqv, h1], rfl⟩
  ·cases h1
  ·cases h1
 ·obtain ⟨h1, _⟩ | ⟨_, e, h1⟩ | ⟨h1, _⟩ := ht
  ·cases h1
  ·cases h; rw [fz_val hu, fz_val hv]; exact ⟨rfl, by simp [eqv, h1], rfl⟩
  ·cases h1
 ·obtain ⟨h1, _⟩ | ⟨_, e, h1⟩ | ⟨h1, _⟩ := ht
  ·cases h1
  ·cases h; rw [fz_val hv]
   obtain ⟨b, off, full, ty, fz, hw, _⟩ := frep_fp (fz_fz hu)
   rw [hw]; exact ⟨rfl, by simp [eqv, h1], rfl⟩
  ·cases h1
 ·obtain ⟨h1, _⟩ | ⟨_, e, h1⟩ | ⟨h1, _⟩ := ht
  ·cases h1
  ·cases h; rw [fz_val hv]
   cases hu with
   | oe hb => exact ⟨rfl, by simp [eqv, h1], rfl⟩
  ·cases h1
 ·obtain ⟨h1, _⟩ | ⟨h1, _⟩ | ⟨_, ⟨e, h1⟩, h2⟩ := ht
  ·cases h1
  ·cases h1
  ·cases h; rw [fz_val hu, fz_val hv]; exact ⟨by simp [h2], by simp [eqv, h1], rfl⟩
 ·obtain ⟨h1, _⟩ | ⟨h1, _⟩ | ⟨_, ⟨e, h1⟩, h2⟩ := ht
  ·cases h1
  ·cases h1
  ·cases h; rw [fz_val hv]
   have := fz_fz hu
   cases this with
   | ifc hx => exact ⟨rfl, by simp [eqv, h1], rfl⟩
 ·cases h
theorem bnd_ok {oo : Operand → Option AV} (ho : ∀ x av, oo x = some av → ARep β hF av (ev Tc x)) {n : Int} {x : Option Operand} {j : Int} (e : bnd oo n x = some j) : (x = none ∧ j = n) ∨ ∃ y k, x = some y ∧ ev Tc y = .int k j := by
 unfold bnd at e
 split at e
 ·cases e; exact .inl ⟨rfl, rfl⟩
 ·split at e
  ·rename_i y _ k j' hy; cases e; exact .inr ⟨y, k, rfl, fz_val (ho _ _ hy)⟩
  ·cases e
theorem p_slice {t e : TypeId} {x : Operand} {lo hi : Option Operand} {a : Option Addr} {n c l k : Nat} {sz : Nat} (hop : o.op = .slice t x lo hi none) (hu : P.underlying t = some (.slice e)) (he : (P.info? e).isSome = true) (hs : P.cellsOf e = sz) (hx : ev Tc x = .slice a n c) (hnc : n ≤ c)
  (hl : (lo = none ∧ (l : Int) = 0) ∨ ∃ y kk, lo = some y ∧ ev Tc y = .int kk l) (hk : (hi = none ∧ (k : Int) = n) ∨ ∃ y kk, hi = some y ∧ ev Tc y = .int kk k) (hlk : l ≤ k) (hkn : k ≤ n) :
  PureOp P o (ev Tc) (.slice (if c = l then a else a.map (·.add (l * sz))) (k - l) (c - l)) := by
 intro w
 subst hs
 have hkc : k ≤ c := Nat.le_trans hkn hnc
 have h1 : ∀ y : Nat, ∀ kk : IntKind, ∀ m : Nat, ∀ bc : BoundsCode, y ≤ m → (Instr.sliceBound (.int kk (y : Int)) m bc).run P w = .ok y w := fun y kk m bc hm => by
  have : (0 : Int) ≤ (y : Int) ∧ (y : Int) ≤ (m : Int) := by omega
  simp [Instr.sliceBound, asIntOf, this] <;> omega
 have hb : (Instr.sliceBounds true n c (lo.map (ev Tc)) (hi.map (ev Tc)) none).run P w = .ok (l, k, c) w := by
  rcases hl with ⟨rfl, h2⟩ | ⟨y, kk, rfl, h2⟩ <;> rcases hk with ⟨rfl, h3⟩ | ⟨z, kz, rfl, h3⟩
  ·have : l = 0 := by omega
   have : k = n := by omega
   subst_vars; simp [Instr.sliceBounds]
  ·have : l = 0 := by omega
   subst this
   simp [Instr.sliceBounds, h3, h1 k kz c _ hkc]
  ·have : k = n := by omega
   subst this
   simp [Instr.sliceBounds, h2, h1 l kk k _ hlk]
  ·simp [Instr.sliceBounds, h2, h3, h1 l kk k _ hlk, h1 k kz c _ hkc]
 simp only [execOp, hop, Instr.sliceAt, Sem.run_bind, run_underlying hu, Result.andThen_ok, Instr.slice, hx, Option.map_none, hb, run_cellsOf _ _ he, Sem.run_pure]
theorem pv_ok (s : Sem h0 β hF h Tc T L σ) {ch : List (Nat × Bool)} (hch : ∀ x ∈ ch, Tc x.1 = .bool x.2) {k : K} (hop : o.op = k.op) (hs : k.side P = true) (e : pv σ (fun ex => opd L T (ex ++ ch)) k = some r) (hob : r.ob) : PvOk P β hF h Tc o r := by
 have ho : ∀ x av, opd L T ([] ++ ch) x = some av → ARep β hF av (ev Tc x) := fun x av e => opd_ok s hch e
 cases k with
 | mv x =>
  simp only [pv] at e
  split at e
  ·rename_i v hv; cases e; exact fin_pure (ho _ _ hv) (p_val (by rw [hop]; rfl))
  ·cases e
 | asg x =>
  simp only [pv] at e
  split at e
  ·rename_i v hv; cases e; exact fin_pure (ho _ _ hv) (p_val (by rw [hop]; rfl))
  ·cases e
 | pick c a b =>
  simp only [pv] at e
  split at e
  ·rename_i t x y hc ha hb
   cases e
   have h1 := fz_val (ho _ _ hc)
   refine fin_pure (v := .bool (bif t then x else y)) (.fz (.val _)) (p_val ?_)
   rw [hop]
   simp only [K.op, pval, h1]
   cases t with
   | true =>
    have := fz_val (opd_ok s (ch := [(c, true)] ++ ch) (by
     intro z hz
     rcases List.mem_cons.1 hz with rfl | hz
     ·exact h1
     ·exact hch z hz) ha)
    simp [this]
   | false =>
    have := fz_val (opd_ok s (ch := [(c, false)] ++ ch) (by
     intro z hz
     rcases List.mem_cons.1 hz with rfl | hz
     ·exact h1
     ·exact hch z hz) hb)
    simp [this]
  ·cases e
 | bin op t x y ty =>
  simp only [pv] at e
  split at e
  ·rename_i k a k' b hx hy
   split at e
   ·rename_i q hq
    cases e
    exact fin_pure (.fz (.val _)) (ibin_ok hq hob hop (fz_val (ho _ _ hx)) (fz_val (ho _ _ hy)))
   ·cases e
  ·cases e
 | eqs t x y ty =>
  simp only [pv] at e
  split at e
  ·rename_i a b hx hy
   cases e
   exact fin_pr (.fz (.val _)) (r_eql_str hop (fz_val (ho _ _ hx)) (fz_val (ho _ _ hy)))
  ·cases e
 | nes t x y ty =>
  simp only [pv] at e
  split at e
  ·rename_i a b hx hy
   cases e
   exact fin_pr (.fz (.val _)) (r_neq_str hop (fz_val (ho _ _ hx)) (fz_val (ho _ _ hy)))
  ·cases e
 | eqb c t x y ty =>
  simp only [pv] at e
  split at e
  ·rename_i a b hx hy
   split at e
   ·rename_i q hq
    cases e
    obtain ⟨h1, h2, h3⟩ := feq_fit (x := x) (y := y) hq (ho _ _ hx) (ho _ _ hy) hs
    generalize hu : ev Tc x = u at h1 h2 h3
    generalize hv : ev Tc y = v at h1 h2
    exact fin_pr (.fz (.val _)) (r_eql hop hu hv (by cases u <;> cases v <;> exact h1) h2 (by cases u <;> exact h3))
   ·cases e
  ·cases e
 | neb c t x y ty =>
  simp only [pv] at e
  split at e
  ·rename_i a b hx hy
   split at e
   ·rename_i q hq
    cases e
    obtain ⟨h1, h2, h3⟩ := feq_fit (x := x) (y := y) hq (ho _ _ hx) (ho _ _ hy) hs
    generalize hu : ev Tc x = u at h1 h2 h3
    generalize hv : ev Tc y = v at h1 h2
    exact fin_pr (.fz (.val _)) (r_neq hop hu hv (by cases u <;> cases v <;> exact h1) h2 (by cases u <;> exact h3))
   ·cases e
  ·cases e
 | not t x =>
  simp only [pv] at e
  split at e
  ·rename_i b hx
   cases e
   refine fin_pure (.fz (.val _)) (p_val ?_)
   rw [hop]
   simp only [K.op, pval, fz_val (ho _ _ hx)]
  ·cases e
 | bnot t x =>
  simp only [pv] at e
  split at e
  ·rename_i k a hx
   cases e
   exact fin_pr (.fz (.val _)) (r_bnot hop (fz_val (ho _ _ hx)))
  ·cases e
 | conv s d x k =>
  simp only [pv] at e
  split at e
  ·rename_i k' a hx
   cases e
   simp only [K.side, Bool.and_eq_true] at hs
   obtain ⟨h1, h2⟩ := hs
   split at h2
   ·rename_i k'' hd
    simp only [beq_iff_eq] at h2
    subst h2
    unfold isIntT at h1
    split at h1
    ·rename_i kk hsd
     exact fin_read (.fz (.val _)) (by rw [hop]; rfl) (fun g _ _ => r_convert_int hop hsd hd (fz_val (ho _ _ hx)) rfl)
    ·cases h1
   ·cases h2
  ·cases e
 | nilc x =>
  simp only [pv] at e
  split at e
  ·rename_i cs hx
   cases e
   have h1 := ho _ _ hx
   obtain ⟨b, off, full, ty, fz, hv, _⟩ := frep_fp (fz_fz h1)
   refine fin_pure h1 (p_val ?_)
   rw [hop]; simp only [K.op, pval, hv]
  ·rename_i id sz i off hx
   cases e
   have h1 := ho _ _ hx
   refine fin_pure h1 (p_val ?_)
   rw [hop]
   simp only [K.op, pval]
   generalize ev Tc x = v at h1
   cases h1 with
   | oe hb => rfl
  ·rename_i f a b hx
   cases e
   have h1 := ho _ _ hx
   refine fin_pure h1 (p_val ?_)
   rw [hop]
   simp only [K.op, pval]
   have h2 := fz_fz h1
   generalize ev Tc x = v at h2
   cases h2 with
   | fn hl hl2 hr hr2 => rfl
  ·cases e
 | fa t x f off n =>
  simp only [pv] at e
  simp only [K.side, beq_iff_eq] at hs
  split at e
  ·rename_i cs hx
   cases e
   obtain ⟨b, o1, full, ty, fz, hv, hb, hsz, hr⟩ := frep_fp (fz_fz (ho _ _ hx))
   refine fin_pure (.fz ?_) (p_fieldAddr hop hv hs)
   have hob' : off + n ≤ cs.length := hob
   exact .fp hb (by simp; omega) (sub_fp hsz hr)
  ·rename_i id sz i p hx
   cases e
   have h1 := ho _ _ hx
   generalize hv : ev Tc x = v at h1
   cases h1 with
   | @oe _ _ _ _ b hb =>
    refine fin_pure (v := .pointer (some ⟨b, i * sz + (p + off), none⟩)) (.oe hb) ?_
    rw [← Nat.add_assoc]
    exact p_fieldAddr hop hv hs
  ·cases e
 | fd1 t x f off =>
  simp only [pv] at e
  simp only [K.side, beq_iff_eq] at hs
  split at e
  ·rename_i cs hx
   split at e
   ·rename_i c rest hd
    cases e
    obtain ⟨vs, hv, hl, hr⟩ := frep_agg (fz_fz (ho _ _ hx))
    have hc := getElem?_drop_cons hd
    have hlt : off < vs.length := by rw [hl]; exact (List.getElem?_eq_some_iff.1 hc).1
    exact fin_pure (.fz (hr off c _ hc (List.getElem?_eq_getElem hlt))) (p_field1 hop hv hs (by simp [List.getElem?_eq_getElem hlt]))
   ·cases e
  ·cases e
 | fdN t x f off n =>
  simp only [pv] at e
  simp only [K.side, beq_iff_eq] at hs
  split at e
  ·rename_i cs hx
   cases e
   obtain ⟨vs, hv, hl, hr⟩ := frep_agg (fz_fz (ho _ _ hx))
   refine fin_pure (.fz ?_) (p_fieldN hop hv hs)
   have h1 := FReps.take ⟨hl, hr⟩ off n
   have h2 : vs.toArray.extract off (off + n) = ((vs.drop off).take n).toArray := by simp
   rw [h2]
   exact .agg h1.1 h1.2
  ·cases e
 | ix t x i ty sz =>
  simp only [pv] at e
  simp only [K.side, Bool.and_eq_true, beq_iff_eq] at hs
  obtain ⟨⟨h1, h2⟩, h3⟩ := hs
  have hu := isSl_spec h1
  split at e
  ·rename_i y k j hx hi
   split at e
   case h_2 => cases e
   rename_i n f hy
   cases e
   obtain ⟨⟨hj0, hj1⟩, hl⟩ := hob
   have hxv := fz_fz (ho _ _ hx)
   unfold asSl at hy
   split at hy
   case h_3 => cases hy
   case h_2 => cases hy; exfalso; simp at hj1; omega
   cases hy
   generalize hv : ev Tc x = v at hxv
   cases hxv with
   | sl0 f a c => exfalso; simp at hj1; omega
   | @sl n f b off c sz' full e' fz hb hnc hsz h1' hs' hr =>
    have hjn : j.toNat < n := by omega
    have : sz' = sz := by rw [← hl]; exact (hsz _ hjn).symm
    subst this
    refine fin_pure (.fz ?_) (p_indexAddr hop hu h2 h3 hv (fz_val (ho _ _ hi)) hj0 hj1)
    refine .fp hb ?_ (fun q c u a b => hr j.toNat q c u hjn a (by rw [← b]))
    rw [hl]
    have : (j.toNat + 1) * sz' ≤ n * sz' := Nat.mul_le_mul_right _ hjn
    rw [Nat.succ_mul] at this; omega
  ·rename_i id k j hx hi
   split at e
   ·rename_i t' sz' rows hσ
    split at e
    ·rename_i hsz
     subst hsz
     cases e
     obtain ⟨hj0, hj1⟩ := hob
     have hjn : j.toNat < rows.length := by omega
     have ok := s.ok.ok _ (lookS_mem hσ)
     obtain ⟨b, n, c, full, hβ, hb, hcap, _, _⟩ := rows_at ok hjn
     have hn : n = rows.length := by
      obtain ⟨vs, own, _⟩ := ok
      simp only at own
      rw [hβ] at own
      cases own; rfl
     subst hn
     have hxv := ho _ _ hx
     generalize hv : ev Tc x = v at hxv
     cases hxv
     refine fin_pure (v := .pointer (some ⟨b, j.toNat * sz' + 0, none⟩)) (.oe (by rw [hβ]; rfl)) ?_
     have := p_indexAddr (P := P) hop hu h2 h3 (hv.trans hβ) (fz_val (ho _ _ hi)) hj0 hj1
     rw [Nat.zero_add] at this
     exact this
    ·cases e
   ·cases e
  ·cases e
 | ixa t x i ty sz n =>
  simp only [pv] at e
  simp only [K.side, Bool.and_eq_true, beq_iff_eq] at hs
  obtain ⟨⟨h1, h2⟩, h3⟩ := hs
  have hu := isArr_spec h1
  split at e
  ·rename_i cs k j hx hi
   cases e
   obtain ⟨⟨hj0, hj1⟩, hl⟩ := hob
   obtain ⟨b, o1, full, ty', fz, hv, hb, hsz, hr⟩ := frep_fp (fz_fz (ho _ _ hx))
   refine fin_pure (.fz ?_) (p_indexAddrA hop hu h2 h3 hv (fz_val (ho _ _ hi)) hj0 hj1)
   refine .fp hb ?_ (sub_fp hsz hr)
   have hjn : j.toNat < n := by omega
   have : (j.toNat + 1) * sz ≤ n * sz := Nat.mul_le_mul_right _ hjn
   rw [Nat.succ_mul] at this
   simp; omega
  ·rename_i id sz' i' p k j hx hi
   cases e
   obtain ⟨hj0, hj1⟩ := hob
   have h4 := ho _ _ hx
   generalize hv : ev Tc x = v at h4
   cases h4 with
   | @oe _ _ _ _ b hb =>
    refine fin_pure (v := .pointer (some ⟨b, i' * sz' + (p + j.toNat * sz), none⟩)) (.oe hb) ?_
    rw [← Nat.add_assoc]
    exact p_indexAddrA hop hu h2 h3 hv (fz_val (ho _ _ hi)) hj0 hj1
  ·cases e
 | ld t x =>
  simp only [pv] at e
  split at e
  ·rename_i cs hx
   split at e
   ·rename_i c rest
    cases e
    obtain ⟨b, o1, full, ty', fz, hv, hb, hsz, hr⟩ := frep_fp (fz_fz (ho _ _ hx))
    have hlt : o1 < full.size := by simp at hsz; omega
    refine fin_read (v := full[o1]) (.fz (hr 0 c _ rfl (by rw [Nat.add_zero]; exact Array.getElem?_eq_getElem hlt))) (by rw [hop]; rfl) (fun g hg _ => r_ld1 hop hs hv (hg _ _ hb) (Array.getElem?_eq_getElem hlt))
   ·cases e
  ·rename_i id sz i p hx
   have h4 := ho _ _ hx
   generalize hv : ev Tc x = v at h4
   cases h4 with
   | @oe _ _ _ _ b hb =>
    split at e
    ·rename_i t' cells hσ
     split at e
     ·rename_i hi0
      split at e
      ·rename_i c rest hc
       cases e
       have ok := s.ok.ok _ (lookS_mem hσ)
       obtain ⟨b', vs, hβ, hh, hl, hr⟩ := ok
       have hbb : b' = b := by simp only [hβ, baseOf, Option.some.injEq] at hb; exact hb
       subst hbb
       have hcc := getElem?_drop_cons hc
       have hlt : p < vs.length := by rw [hl]; exact (List.getElem?_eq_some_iff.1 hcc).1
       refine fin_read (v := vs[p]) (hr p c _ hcc (List.getElem?_eq_getElem hlt)) (by rw [hop]; rfl) (fun g hg hrd => ?_)
       have hgb : g b' = some (.cells vs.toArray t' (0, 0)) := (hrd id b' rfl hb).trans hh
       subst hi0
       exact r_ld1 hop hs hv hgb (by simp [List.getElem?_eq_getElem hlt])
      ·cases e
     ·cases e
    ·rename_i t' sz' rows hσ
     split at e
     ·rename_i hsz
      subst hsz
      cases e
      obtain ⟨hi, hp⟩ := hob
      obtain ⟨b', n, c, full, hβ, hh, hcap, hlen, hr⟩ := rows_at (s.ok.ok _ (lookS_mem hσ)) hi
      have hbb : b' = b := by simp only [hβ, baseOf, Option.some.injEq] at hb; exact hb
      subst hbb
      have hlt : i * sz' + p < full.size := by
       have : (i + 1) * sz' ≤ rows.length * sz' := Nat.mul_le_mul_right _ hi
       rw [Nat.succ_mul] at this; omega
      refine fin_read (v := full[i * sz' + p]) (.fz ?_) (by rw [hop]; rfl) (fun g hg hrd => ?_)
      ·refine hr p _ _ ?_ (Array.getElem?_eq_getElem hlt)
       rw [List.getD_eq_getElem?_getD (l := rows.getD i []), List.getElem?_eq_getElem (by omega)]; rfl
      ·have hgb : g b' = some (.cells full t' (0, 0)) := (hrd id b' rfl hb).trans hh
       exact r_ld1 hop hs hv hgb (Array.getElem?_eq_getElem hlt)
     ·cases e
    ·cases e
  ·cases e
 | ldN t x n =>
  simp only [pv] at e
  simp only [K.side, Bool.and_eq_true, beq_iff_eq] at hs
  have hn := hs.2
  split at e
  ·rename_i cs hx
   cases e
   have hob' : n ≤ cs.length := hob
   obtain ⟨b, o1, full, ty', fz, hv, hb, hsz, hr⟩ := frep_fp (fz_fz (ho _ _ hx))
   have h1 := FReps.of_fp hsz hob' hr
   refine fin_read (v := .agg (full.extract o1 (o1 + n))) (.fz ?_) (by rw [hop]; rfl) (fun g hg _ => r_ldN hop hs.1 hv (hg _ _ hb) hn (by omega))
   have h2 := FRep.agg h1.1 h1.2
   rwa [Array.toArray_toList] at h2
  ·rename_i id sz i p hx
   have h4 := ho _ _ hx
   generalize hv : ev Tc x = v at h4
   cases h4 with
   | @oe _ _ _ _ b hb =>
    split at e
    ·rename_i t' cells hσ
     split at e
     ·rename_i hi0
      subst hi0
      split at e
      ·rename_i cs hc
       cases e
       have hob' : p + n ≤ cells.length := hob
       obtain ⟨b', vs, hβ, hh, hl, hr⟩ := s.ok.ok _ (lookS_mem hσ)
       have hbb : b' = b := by simp only [hβ, baseOf, Option.some.injEq] at hb; exact hb
       subst hbb
       have hcs := unfz_eq hc
       have h1 : FReps hF cs ((vs.drop p).take n) := by
        refine AReps.unfz (β := β) ?_
        rw [← hcs]
        exact ⟨by simp [hl], fun j c v a b => by
         rw [List.getElem?_take] at a b
         split at a
         ·rename_i hj
          rw [if_pos hj] at b
          rw [List.getElem?_drop] at a b
          exact hr _ c v a b
         ·cases a⟩
       refine fin_read (v := .agg ((vs.drop p).take n).toArray) (.fz (.agg h1.1 h1.2)) (by rw [hop]; rfl) (fun g hg hrd => ?_)
       have hgb : g b' = some (.cells vs.toArray t' (0, 0)) := (hrd id b' rfl hb).trans hh
       have h5 := r_ldN (P := P) hop hs.1 hv hgb hn (by simp; omega)
       have h6 : vs.toArray.extract (0 * sz + p) (0 * sz + p + n) = ((vs.drop p).take n).toArray := by simp
       rwa [h6] at h5
      ·cases e
     ·cases e
    ·rename_i t' sz' rows hσ
     split at e
     ·rename_i hsz
      obtain ⟨hsz, hp0, hnz⟩ := hsz
      subst hsz
      subst hp0
      subst hnz
      cases e
      have hi : i < rows.length := hob
      obtain ⟨b', n', c, full, hβ, hh, hcap, hlen, hr⟩ := rows_at (s.ok.ok _ (lookS_mem hσ)) hi
      have hbb : b' = b := by simp only [hβ, baseOf, Option.some.injEq] at hb; exact hb
      subst hbb
      have hle : i * n + n ≤ full.size := by
       have : (i + 1) * n ≤ rows.length * n := Nat.mul_le_mul_right _ hi
       rw [Nat.succ_mul] at this; omega
      have h1 : FReps hF (rows.getD i []) (full.extract (i * n) (i * n + n)).toList :=
       ⟨by rw [hlen]; simp; omega, fun j c v a b => by
        have hj : j < n := by have := (List.getElem?_eq_some_iff.1 a).1; rwa [hlen] at this
        rw [Array.getElem?_toList, Array.getElem?_extract_of_lt (by omega)] at b
        exact hr j c v a (by rw [Array.getElem?_eq_getElem (by omega)]; exact b)⟩
      refine fin_read (v := .agg (full.extract (i * n) (i * n + n))) (.fz ?_) (by rw [hop]; rfl) (fun g hg hrd => ?_)
      ·have h2 := FRep.agg h1.1 h1.2
       rwa [Array.toArray_toList] at h2
      ·have hgb : g b' = some (.cells full t' (0, 0)) := (hrd id b' rfl hb).trans hh
       exact r_ldN hop hs.1 hv hgb hn (by omega)
     ·cases e
    ·cases e
  ·cases e
 | len t x ty =>
  simp only [pv] at e
  have hu := isSl_spec hs
  split at e
  ·rename_i y hx
   split at e
   case h_2 => cases e
   rename_i n f hy
   cases e
   have hxv := fz_fz (ho _ _ hx)
   unfold asSl at hy
   split at hy
   case h_3 => cases hy
   case h_2 =>
    cases hy
    exact fin_read (.fz (.val _)) (by rw [hop]; rfl) (fun g _ _ => r_len_slice hop hu (fz_val (ho _ _ hx)))
   cases hy
   generalize hv : ev Tc x = v at hxv
   cases hxv with
   | sl0 f a c => exact fin_read (.fz (.val _)) (by rw [hop]; rfl) (fun g _ _ => r_len_slice hop hu hv)
   | sl hb hnc hsz h1' hs' hr => exact fin_read (.fz (.val _)) (by rw [hop]; rfl) (fun g _ _ => r_len_slice hop hu hv)
  ·rename_i id hx
   split at e
   ·rename_i t' sz' rows hσ
    cases e
    obtain ⟨vs, own, _⟩ := s.ok.ok _ (lookS_mem hσ)
    have h4 := ho _ _ hx
    generalize hv : ev Tc x = v at h4
    cases h4
    simp only at own
    generalize hn : rows.length = n at own
    generalize hβ : β id = v at own hv
    refine fin_read (.fz (.val _)) (by rw [hop]; rfl) (fun g _ _ => ?_)
    cases own with
    | nil => exact r_len_slice hop hu hv
    | at_ => exact r_len_slice hop hu hv
   ·cases e
  ·cases e
 | lens t x =>
  simp only [pv] at e
  split at e
  ·rename_i s' hx
   cases e
   exact fin_read (.fz (.val _)) (by rw [hop]; rfl) (fun g _ _ => r_len_string hop (isStr_spec hs) (fz_val (ho _ _ hx)))
  ·cases e
 | cmin x y t =>
  simp only [pv] at e
  split at e
  ·rename_i k a k' b hx hy
   split at e
   ·rename_i hk
    subst hk
    cases e
    exact fin_read (.fz (.val _)) (by rw [hop]; rfl) (fun g _ _ => r_min2 hop (fz_val (ho _ _ hx)) (fz_val (ho _ _ hy)))
   ·cases e
  ·cases e
 | cmax x y t =>
  simp only [pv] at e
  split at e
  ·rename_i k a k' b hx hy
   split at e
   ·rename_i hk
    subst hk
    cases e
    exact fin_read (.fz (.val _)) (by rw [hop]; rfl) (fun g _ _ => r_max2 hop (fz_val (ho _ _ hx)) (fz_val (ho _ _ hy)))
   ·cases e
  ·cases e
 | bld t parts pl z =>
  simp only [pv] at e
  simp only [K.side, Bool.and_eq_true, beq_iff_eq] at hs
  split at e
  ·rename_i ps hps
   split at e
   ·rename_i cs hcs
    cases e
    obtain ⟨h1, h2⟩ := ofzp_ok ho hps
    have hz : FReps hF (z.map .val) z := ⟨by simp, fun j c v a b => by rw [List.getElem?_map, b] at a; cases a; exact .val v⟩
    obtain ⟨us, h3, h4⟩ := fill_ok (vs := parts.map fun p => (p.1, ev Tc p.2)) hz (by rw [← h1, List.map_map]; rfl) (by rw [List.map_map]; exact h2) hcs
    exact fin_pure (.fz (.agg h4.1 h4.2)) (p_buildL hop (by simp) hs.1 (zeroIs_eq hs.2) h3)
   ·cases e
  ·cases e
 | sli t x lo hi ty sz =>
  simp only [pv] at e
  simp only [K.side, Bool.and_eq_true, beq_iff_eq] at hs
  obtain ⟨⟨h1, h2⟩, h3⟩ := hs
  have hu := isSl_spec h1
  split at e
  ·rename_i y hx
   split at e
   ·rename_i n f hy
    split at e
    ·rename_i l k hlo hhi
     cases e
     obtain ⟨⟨h0l, hlk, hkn⟩, hsz'⟩ := hob
     have bl := bnd_ok ho hlo
     have bk := bnd_ok ho hhi
     obtain ⟨l, rfl⟩ := Int.eq_ofNat_of_zero_le h0l
     obtain ⟨k, rfl⟩ := Int.eq_ofNat_of_zero_le (Int.le_trans h0l hlk)
     have hlk' : l ≤ k := Int.ofNat_le.1 hlk
     have hkn' : k ≤ n := Int.ofNat_le.1 hkn
     have hxv := fz_fz (ho _ _ hx)
     have e1 : ((k : Int) - (l : Int)).toNat = k - l := by omega
     unfold asSl at hy
     split at hy
     case h_3 => cases hy
     case h_2 =>
      cases hy
      have hk0 : k = 0 := by omega
      have hl0 : l = 0 := by omega
      subst hk0
      subst hl0
      have hv := fz_val (ho _ _ hx)
      refine fin_pure (.fz ?_) (p_slice hop hu h3 h2 hv (Nat.le_refl _) bl bk hlk' (Nat.le_refl _))
      exact .sl0 _ _ _
     cases hy
     generalize hv : ev Tc x = v at hxv
     cases hxv with
     | sl0 f a c =>
      have hk0 : k = 0 := by omega
      have hl0 : l = 0 := by omega
      subst hk0
      subst hl0
      refine fin_pure (.fz ?_) (p_slice hop hu h3 h2 hv (Nat.zero_le _) bl bk hlk' (Nat.le_refl _))
      exact .sl0 _ _ _
     | @sl n f b off c sz' full e' fz hb hnc hsz h1' hs' hr =>
      refine fin_pure (.fz ?_) (p_slice hop hu h3 h2 hv hnc bl bk hlk' hkn')
      rw [e1]
      simp only [Int.toNat_natCast]
      by_cases hkl : k = l
      ·subst hkl; rw [Nat.sub_self]; exact .sl0 _ _ _
      ·have hss : sz' = sz := by rw [← hsz 0 (by omega)]; exact hsz' 0 (by omega)
       subst hss
       have hcl : c ≠ l := by omega
       rw [if_neg hcl]
       have ha : (Addr.mk b off none).add (l * sz') = ⟨b, off + l * sz', none⟩ := by unfold Addr.add; split <;> simp_all
       simp only [Option.map_some, ha]
       have hm : (l + (k - l)) * sz' ≤ n * sz' := Nat.mul_le_mul_right _ (by omega)
       refine .sl hb (by omega) (fun i hi => hsz _ (by omega)) (fun i hi => h1' _ (by omega)) (by rw [Nat.add_mul] at hm; omega) (fun i j cc u hi e1 e2 => hr (l + i) j cc u (by omega) e1 ?_)
       rw [← e2, Nat.add_mul]; congr 1; omega
    ·cases e
   ·cases e
  ·cases e
 | ext x i =>
  simp only [pv] at e
  split at e
  ·rename_i cs hx
   split at e
   ·rename_i c rest hc
    cases e
    obtain ⟨vs, hv, hl, hr⟩ := frep_tup (fz_fz (ho _ _ hx))
    have hcc := getElem?_drop_cons hc
    have hlt : i < vs.length := by rw [hl]; exact (List.getElem?_eq_some_iff.1 hcc).1
    refine fin_pure (.fz (hr i c _ hcc (List.getElem?_eq_getElem hlt))) (p_val ?_)
    rw [hop]
    simp only [K.op, pval, ev] at hv ⊢
    rw [hv]; simp [List.getElem?_eq_getElem hlt]
   ·cases e
  ·cases e
 | mkf f a b =>
  simp only [pv] at e
  split at e
  ·rename_i xs ys h1 h2
   cases e
   have r1 := ofzs_ok ho h1
   have r2 := ofzs_ok ho h2
   refine fin_pure (.fz (.fn r1.1 r2.1 r1.2 r2.2)) (p_val ?_)
   rw [hop]
   simp [K.op, pval]
  ·cases e
 | mki t x =>
  simp only [pv] at e
  split at e
  ·rename_i y hx
   cases e
   refine fin_pure (.fz (.ifc (fz_fz (ho _ _ hx)))) (p_val ?_)
   rw [hop]
   simp only [K.side] at hs
   simp only [K.op, pval]
   split at hs
   ·cases hs
   ·cases hs
   ·rename_i h1 h2
    cases hu : P.underlying t with
    | none => exact absurd hu h2
    | some d => cases d <;> first | rfl | exact absurd hu (h1 _)
  ·cases e
 | _ => simp only [pv, reduceCtorEq] at e
end
end Go.Proofs.YtihdpjinaafenaaGreatDoor.Ab
