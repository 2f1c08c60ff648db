/- The rules for single operations (second part): equality, cuts, stores, append, calls. -/
import Derived.Test.YtielfejpnkcjbaaOps
import Derived.Deep.AppendSrc
import Derived.Laws.CopyRow
import Derived.Laws.StructEq
set_option linter.unusedVariables false
set_option linter.unusedSimpArgs false
namespace Go.Proofs.Ytielfejpnkcjbaa.Sl

/-! ### 1. Equality -/
def partV (P : Program) (t : TypeId) (cs : Array Value) (off : Nat) : Option Value :=
  match P.underlying t with
  | some (.struct _) | some (.array _ _) => some (.agg (cs.extract off (off + P.cellsOf t)))
  | some _ => cs[off]?
  | none => none
theorem run_partV {P : Program} {t : TypeId} {cs : Array Value} {off : Nat} {v : Value} (h : partV P t cs off = some v) (w : World) : (part t cs off).run P w = .ok v w := by
  unfold partV at h
  split at h
  · rename_i hu; simp only [Option.some.injEq] at h; subst h
    simp [part, isAgg, run_underlying hu, run_cellsOf _ _ (info_of_underlying hu)]
  · rename_i hu; simp only [Option.some.injEq] at h; subst h
    simp [part, isAgg, run_underlying hu, run_cellsOf _ _ (info_of_underlying hu)]
  · rename_i d h1 h2 hu
    cases d <;> simp_all [part, isAgg, run_underlying hu]
  · cases h
mutual
def eqv (P : Program) : Nat → TypeId → Value → Value → Option Bool
  | 0, _, _, _ => none
  | d + 1, t, x, y => match P.underlying t, x, y with
    | some .bool, .bool a, .bool b => some (a == b)
    | some (.int _), .int k a, .int k' b => if k = k' then some (a == b) else none
    | some .string, .string a, .string b => some (a == b)
    | some (.pointer _), .pointer none, .pointer b => some b.isNone
    | some (.pointer _), .pointer (some _), .pointer none => some false
    | some (.slice _), .slice none _ _, .slice b _ _ => some b.isNone
    | some (.slice _), .slice (some _) _ _, .slice none _ _ => some false
    | some (.map _ _), .map none, .map b => some b.isNone
    | some (.map _ _), .map (some _), .map none => some false
    | some (.interface _), .nilIface, .nilIface => some true
    | some (.interface _), .nilIface, .iface _ _ => some false
    | some (.interface _), .iface _ _, .nilIface => some false
    | some (.struct fs), .agg xs, .agg ys => if P.stoodInHeld t then none else eqvFields P d xs ys fs.toList
    | _, _, _ => none
def eqvFields (P : Program) : Nat → Array Value → Array Value → List Field → Option Bool
  | _, _, _, [] => some true
  | d, xs, ys, f :: r =>
    if f.name = "_" then eqvFields P d xs ys r
    else match partV P f.type xs f.offset, partV P f.type ys f.offset with
      | some a, some b => match eqv P d f.type a b, eqvFields P d xs ys r with
        | some e, some e' => some (e && e')
        | _, _ => none
      | _, _ => none
end
section
variable {P : Program} {o : Oper} {ρ : Operand → Value} {h : Heap}
theorem run_eqv : ∀ (d : Nat), (∀ (t : TypeId) (x y : Value) (r : Bool) (w : World), eqv P d t x y = some r → (Op.equalIn d t x y).run P w = .ok r w) := by
  intro d
  induction d with
  | zero => intro t x y r w h; simp [eqv] at h
  | succ d ih =>
    have hf : ∀ (fs : List Field) (xs ys : Array Value) (r : Bool) (w : World), eqvFields P d xs ys fs = some r → (Op.eqFields d xs ys fs).run P w = .ok r w := by
      intro fs
      induction fs with
      | nil => intro xs ys r w h; simp only [eqvFields, Option.some.injEq] at h; subst h; simp [Op.eqFields]
      | cons f fs ihf =>
        intro xs ys r w h
        simp only [eqvFields] at h
        by_cases hn : f.name = "_"
        · rw [if_pos hn] at h
          simp [Op.eqFields, hn, ihf xs ys r w h]
        · rw [if_neg hn] at h
          split at h <;> (try simp only [reduceCtorEq] at h)
          rename_i a b ha hb
          split at h <;> (try simp only [reduceCtorEq] at h)
          rename_i e e' he he'
          simp only [Option.some.injEq] at h; subst h
          simp only [Op.eqFields, hn, ne_eq, not_false_eq_true, if_true, Sem.run_bind, run_partV ha, run_partV hb, Result.andThen_ok, ih _ _ _ _ _ he]
          cases e
          · simp
          · simp [ihf xs ys e' w he']
    intro t x y r w h
    unfold eqv at h
    split at h <;> (try simp only [reduceCtorEq] at h)
    case h_1 a b hu => simp only [Option.some.injEq] at h; subst h; simp [Op.equalIn, run_underlying hu]
    case h_2 k0 k a k' b hu =>
      split at h
      · rename_i hk; simp only [Option.some.injEq] at h; subst h; simp [Op.equalIn, run_underlying hu, hk]
      · cases h
    case h_3 a b hu => simp only [Option.some.injEq] at h; subst h; simp [Op.equalIn, run_underlying hu]
    case h_4 e b hu => simp only [Option.some.injEq] at h; subst h; simp [Op.equalIn, run_underlying hu]
    case h_5 e a hu => simp only [Option.some.injEq] at h; subst h; simp [Op.equalIn, run_underlying hu]
    case h_6 e _ _ b _ _ hu => simp only [Option.some.injEq] at h; subst h; simp [Op.equalIn, run_underlying hu]
    case h_7 e a _ _ _ _ hu => simp only [Option.some.injEq] at h; subst h; simp [Op.equalIn, run_underlying hu]
    case h_8 k e b hu => simp only [Option.some.injEq] at h; subst h; simp [Op.equalIn, run_underlying hu]
    case h_9 k e a hu => simp only [Option.some.injEq] at h; subst h; simp [Op.equalIn, run_underlying hu]
    case h_10 m hu => simp only [Option.some.injEq] at h; subst h; simp [Op.equalIn, run_underlying hu]
    case h_11 m _ _ hu => simp only [Option.some.injEq] at h; subst h; simp [Op.equalIn, run_underlying hu]
    case h_12 m _ _ hu => simp only [Option.some.injEq] at h; subst h; simp [Op.equalIn, run_underlying hu]
    case h_13 fs xs ys hu =>
      split at h
      · cases h
      · rename_i hp
        have hp : P.stoodInHeld t = false := by simpa using hp
        have hfs : P.fieldsOf t = fs := by simp [Program.fieldsOf, hu]
        rw [run_equalIn_agg w d t xs ys (by rw [hfs]; exact hu) hp, hfs]
        exact hf _ _ _ _ _ h
def isLit : Operand → Bool
  | .const _ => true
  | _ => false
/-- '==' and '!=' of what is no two whole numbers. -/
theorem r_eql {t ty : TypeId} {x y : Operand} {u v : Value} {b : Bool} (ho : o.op = .binOp .eql t x y ty) (hx : ρ x = u) (hy : ρ y = v) (hk : (match u, v with | .int _ _, .int _ _ => false | .agg _, .agg _ => !P.eqGuardType P.depth t | .nilIface, .nilIface => isLit x || isLit y | _, _ => true) = true)
    (he : eqv P 10000 t u v = some b) (hn : (match u with | .int _ _ | .float _ _ | .complex _ _ _ | .string _ => false | _ => true) = true) : ReadOp P o ρ h (.bool b) := by
  intro w r
  have hq : (Op.equal t u v).run P w = .ok b w := run_eqv 10000 t u v b w he
  have hg : (eqGuard .eql t x y u v).run P w = .ok () w := by
    unfold eqGuard
    cases u <;> cases v <;> simp at hk ⊢
    · rcases hk with hk | hk
      · cases x <;> simp [isLit] at hk ⊢
      · cases y <;> simp [isLit] at hk ⊢
    · simp [program, Sem.run, hk]
  have hb : (binOp .eql t u v).run P w = .ok (.bool b) w := by
    have hbo : binOp .eql t u v = (do pure (.bool (← Op.equal t u v))) := by
      cases u <;> cases v <;> first | (simp at hn; done) | rfl
    rw [hbo]; simp [hq]
  simp only [execOp, ho, hx, hy, Sem.run_bind, hg, hb, Result.andThen_ok, Sem.run_pure]
theorem r_neq {t ty : TypeId} {x y : Operand} {u v : Value} {b : Bool} (ho : o.op = .binOp .neq t x y ty) (hx : ρ x = u) (hy : ρ y = v) (hk : (match u, v with | .int _ _, .int _ _ => false | .agg _, .agg _ => !P.eqGuardType P.depth t | .nilIface, .nilIface => isLit x || isLit y | _, _ => true) = true)
    (he : eqv P 10000 t u v = some b) (hn : (match u with | .int _ _ | .float _ _ | .complex _ _ _ | .string _ => false | _ => true) = true) : ReadOp P o ρ h (.bool (!b)) := by
  intro w r
  have hq : (Op.equal t u v).run P w = .ok b w := run_eqv 10000 t u v b w he
  have hg : (eqGuard .neq t x y u v).run P w = .ok () w := by
    unfold eqGuard
    cases u <;> cases v <;> simp at hk ⊢
    · rcases hk with hk | hk
      · cases x <;> simp [isLit] at hk ⊢
      · cases y <;> simp [isLit] at hk ⊢
    · simp [program, Sem.run, hk]
  have hb : (binOp .neq t u v).run P w = .ok (.bool (!b)) w := by
    have hbo : binOp .neq t u v = (do pure (.bool (!(← Op.equal t u v)))) := by
      cases u <;> cases v <;> first | (simp at hn; done) | rfl
    rw [hbo]; simp [hq]
  simp only [execOp, ho, hx, hy, Sem.run_bind, hg, hb, Result.andThen_ok, Sem.run_pure]
/-- Strings. -/
theorem r_eql_str {t ty : TypeId} {x y : Operand} {a b : ByteArray} (ho : o.op = .binOp .eql t x y ty) (hx : ρ x = .string a) (hy : ρ y = .string b) : ReadOp P o ρ h (.bool (a.toList == b.toList)) := by
  intro w r
  simp [execOp, ho, hx, hy, eqGuard, binOp, Op.stringOp]
theorem r_neq_str {t ty : TypeId} {x y : Operand} {a b : ByteArray} (ho : o.op = .binOp .neq t x y ty) (hx : ρ x = .string a) (hy : ρ y = .string b) : ReadOp P o ρ h (.bool (!(a.toList == b.toList))) := by
  intro w r
  simp [execOp, ho, hx, hy, eqGuard, binOp, Op.stringOp]
/-- A quotient, a rest, a shift of whole numbers. -/
theorem r_quo {t ty : TypeId} {x y : Operand} {k : IntKind} {a b : Int} (ho : o.op = .binOp .quo t x y ty) (hx : ρ x = .int k a) (hy : ρ y = .int k b) (hb : b ≠ 0) : ReadOp P o ρ h (.int k (k.wrap (a.tdiv b))) := by
  intro w r
  simp [execOp, ho, hx, hy, eqGuard, binOp, Op.intDiv, hb]
theorem r_rem {t ty : TypeId} {x y : Operand} {k : IntKind} {a b : Int} (ho : o.op = .binOp .rem t x y ty) (hx : ρ x = .int k a) (hy : ρ y = .int k b) (hb : b ≠ 0) : ReadOp P o ρ h (.int k (a.tmod b)) := by
  intro w r
  simp [execOp, ho, hx, hy, eqGuard, binOp, Op.intDiv, hb]
theorem r_shl {t ty : TypeId} {x y : Operand} {k k' : IntKind} {a b : Int} (ho : o.op = .binOp .shl t x y ty) (hx : ρ x = .int k a) (hy : ρ y = .int k' b) (hb : 0 ≤ b) : ReadOp P o ρ h (.int k (k.wrap (a * 2 ^ (min b.toNat k.bits)))) := by
  intro w r
  have hb' : ¬ b < 0 := by omega
  simp [execOp, ho, hx, hy, eqGuard, binOp, Op.shift, hb']
theorem r_shr {t ty : TypeId} {x y : Operand} {k k' : IntKind} {a b : Int} (ho : o.op = .binOp .shr t x y ty) (hx : ρ x = .int k a) (hy : ρ y = .int k' b) (hb : 0 ≤ b) : ReadOp P o ρ h (.int k (a.fdiv (2 ^ (min b.toNat k.bits)))) := by
  intro w r
  have hb' : ¬ b < 0 := by omega
  simp [execOp, ho, hx, hy, eqGuard, binOp, Op.shift, hb']
theorem r_bnot {t : TypeId} {x : Operand} {k : IntKind} {a : Int} (ho : o.op = .unOp .xor t x) (hx : ρ x = .int k a) : ReadOp P o ρ h (.int k (k.wrap (BitVec.ofInt k.bits (if k.signed then -1 else k.max) ^^^ BitVec.ofInt k.bits a).toNat)) := by
  intro w r
  simp [execOp, ho, hx, Op.unary, Op.intBits]
end
end Go.Proofs.Ytielfejpnkcjbaa.Sl
