import Derived.Test.YtfbjgbecabbdnaaGreatDoorTs3
import Derived.Deep.AppendSrc
import Derived.Laws.CopyRow
import Derived.Laws.StructEq
import Derived.Deep.Upon
/- The rules for single operations (second part): equality, cuts, stores, append, calls. -/
set_option linter.unusedVariables false
set_option linter.unusedSimpArgs false
namespace Go.Proofs.YtfbjgbecabbdnaaGreatDoor.Sl

/-! ### 1. Equality -/
def partV (P : Program) (t : TypeId) (cs : Array Value) (off : Nat) : Option Value :=
  match P.underlying t with
  | some (.struct _) | some (.array _ _) => some (.agg (cs.extract off (off + P.cellsOf t)))
  | some _ => cs[off]?
  | none => none
theorem run_partV {P : Program} {t : TypeId} {cs : Array Value} {off : Nat} {v : Value} (h : partV P t cs off = some v) (w : World) : (part t cs off).run P w = .ok v w := by
  unfold partV at h
  split at h
  · rename_i hu; simp only [Option.some.injEq] at h; subst h
    simp [part, isAgg, run_underlying hu, run_cellsOf _ _ (info_of_underlying hu)]
  · rename_i hu; simp only [Option.some.injEq] at h; subst h
    simp [part, isAgg, run_underlying hu, run_cellsOf _ _ (info_of_underlying hu)]
  · rename_i d h1 h2 hu
    cases d <;> simp_all [part, isAgg, run_underlying hu]
  · cases h
mutual
def eqv (P : Program) : Nat → TypeId → Value → Value → Option Bool
  | 0, _, _, _ => none
  | d + 1, t, x, y => match P.underlying t, x, y with
    | some .bool, .bool a, .bool b => some (a == b)
    | some (.int _), .int k a, .int k' b => if k = k' then some (a == b) else none
    | some .string, .string a, .string b => some (a == b)
    | some (.pointer _), .pointer none, .pointer b => some b.isNone
    | some (.pointer _), .pointer (some _), .pointer none => some false
    | some (.slice _), .slice none _ _, .slice b _ _ => some b.isNone
    | some (.slice _), .slice (some _) _ _, .slice none _ _ => some false
    | some (.map _ _), .map none, .map b => some b.isNone
    | some (.map _ _), .map (some _), .map none => some false
    | some (.interface _), .nilIface, .nilIface => some true
    | some (.interface _), .nilIface, .iface _ _ => some false
    | some (.interface _), .iface _ _, .nilIface => some false
    | some (.struct fs), .agg xs, .agg ys => if P.stoodInHeld t then none else eqvFields P d xs ys fs.toList
    | _, _, _ => none
def eqvFields (P : Program) : Nat → Array Value → Array Value → List Field → Option Bool
  | _, _, _, [] => some true
  | d, xs, ys, f :: r =>
    if f.name = "_" then eqvFields P d xs ys r
    else match partV P f.type xs f.offset, partV P f.type ys f.offset with
      | some a, some b => match eqv P d f.type a b, eqvFields P d xs ys r with
        | some e, some e' => some (e && e')
        | _, _ => none
      | _, _ => none
end
section
variable {P : Program} {o : Oper} {ρ : Operand → Value} {h : Heap}
theorem run_eqv : ∀ (d : Nat), (∀ (t : TypeId) (x y : Value) (r : Bool) (w : World), eqv P d t x y = some r → (Op.equalIn d t x y).run P w = .ok r w) := by
  intro d
  induction d with
  | zero => intro t x y r w h; simp [eqv] at h
  | succ d ih =>
    have hf : ∀ (fs : List Field) (xs ys : Array Value) (r : Bool) (w : World), eqvFields P d xs ys fs = some r → (Op.eqFields d xs ys fs).run P w = .ok r w := by
      intro fs
      induction fs with
      | nil => intro xs ys r w h; simp only [eqvFields, Option.some.injEq] at h; subst h; simp [Op.eqFields]
      | cons f fs ihf =>
        intro xs ys r w h
        simp only [eqvFields] at h
        by_cases hn : f.name = "_"
        · rw [if_pos hn] at h
          simp [Op.eqFields, hn, ihf xs ys r w h]
        · rw [if_neg hn] at h
          split at h <;> (try simp only [reduceCtorEq] at h)
          rename_i a b ha hb
          split at h <;> (try simp only [reduceCtorEq] at h)
          rename_i e e' he he'
          simp only [Option.some.injEq] at h; subst h
          simp only [Op.eqFields, hn, ne_eq, not_false_eq_true, if_true, Sem.run_bind, run_partV ha, run_partV hb, Result.andThen_ok, ih _ _ _ _ _ he]
          cases e
          · simp
          · simp [ihf xs ys e' w he']
    intro t x y r w h
    unfold eqv at h
    split at h <;> (try simp only [reduceCtorEq] at h)
    case h_1 a b hu => simp only [Option.some.injEq] at h; subst h; simp [Op.equalIn, run_underlying hu]
    case h_2 k0 k a k' b hu =>
      split at h
      · rename_i hk; simp only [Option.some.injEq] at h; subst h; simp [Op.equalIn, run_underlying hu, hk]
      · cases h
    case h_3 a b hu => simp only [Option.some.injEq] at h; subst h; simp [Op.equalIn, run_underlying hu]
    case h_4 e b hu => simp only [Option.some.injEq] at h; subst h; simp [Op.equalIn, run_underlying hu]
    case h_5 e a hu => simp only [Option.some.injEq] at h; subst h; simp [Op.equalIn, run_underlying hu]
    case h_6 e _ _ b _ _ hu => simp only [Option.some.injEq] at h; subst h; simp [Op.equalIn, run_underlying hu]
    case h_7 e a _ _ _ _ hu => simp only [Option.some.injEq] at h; subst h; simp [Op.equalIn, run_underlying hu]
    case h_8 k e b hu => simp only [Option.some.injEq] at h; subst h; simp [Op.equalIn, run_underlying hu]
    case h_9 k e a hu => simp only [Option.some.injEq] at h; subst h; simp [Op.equalIn, run_underlying hu]
    case h_10 m hu => simp only [Option.some.injEq] at h; subst h; simp [Op.equalIn, run_underlying hu]
    case h_11 m _ _ hu => simp only [Option.some.injEq] at h; subst h; simp [Op.equalIn, run_underlying hu]
    case h_12 m _ _ hu => simp only [Option.some.injEq] at h; subst h; simp [Op.equalIn, run_underlying hu]
    case h_13 fs xs ys hu =>
      split at h
      · cases h
      · rename_i hp
        have hp : P.stoodInHeld t = false := by simpa using hp
        have hfs : P.fieldsOf t = fs := by simp [Program.fieldsOf, hu]
        rw [run_equalIn_agg w d t xs ys (by rw [hfs]; exact hu) hp, hfs]
        exact hf _ _ _ _ _ h
def isLit : Operand → Bool
  | .const _ => true
  | _ => false
/-- '==' and '!=' of what is no two whole numbers. -/
theorem r_eql {t ty : TypeId} {x y : Operand} {u v : Value} {b : Bool} (ho : o.op = .binOp .eql t x y ty) (hx : ρ x = u) (hy : ρ y = v) (hk : (match u, v with | .int _ _, .int _ _ => false | .agg _, .agg _ => !P.eqGuardType P.depth t | .nilIface, .nilIface => isLit x || isLit y | _, _ => true) = true)
    (he : eqv P 10000 t u v = some b) (hn : (match u with | .int _ _ | .float _ _ | .complex _ _ _ | .string _ => false | _ => true) = true) : ReadOp P o ρ h (.bool b) := by
  intro w r
  have hq : (Op.equal t u v).run P w = .ok b w := run_eqv 10000 t u v b w he
  have hg : (eqGuard .eql t x y u v).run P w = .ok () w := by
    unfold eqGuard
    cases u <;> cases v <;> simp at hk ⊢
    · rcases hk with hk | hk
      · cases x <;> simp [isLit] at hk ⊢
      · cases y <;> simp [isLit] at hk ⊢
    · simp [program, Sem.run, hk]
  have hb : (binOp .eql t u v).run P w = .ok (.bool b) w := by
    have hbo : binOp .eql t u v = (do pure (.bool (← Op.equal t u v))) := by
      cases u <;> cases v <;> first | (simp at hn; done) | rfl
    rw [hbo]; simp [hq]
  simp only [execOp, ho, hx, hy, Sem.run_bind, hg, hb, Result.andThen_ok, Sem.run_pure]
theorem r_neq {t ty : TypeId} {x y : Operand} {u v : Value} {b : Bool} (ho : o.op = .binOp .neq t x y ty) (hx : ρ x = u) (hy : ρ y = v) (hk : (match u, v with | .int _ _, .int _ _ => false | .agg _, .agg _ => !P.eqGuardType P.depth t | .nilIface, .nilIface => isLit x || isLit y | _, _ => true) = true)
    (he : eqv P 10000 t u v = some b) (hn : (match u with | .int _ _ | .float _ _ | .complex _ _ _ | .string _ => false | _ => true) = true) : ReadOp P o ρ h (.bool (!b)) := by
  intro w r
  have hq : (Op.equal t u v).run P w = .ok b w := run_eqv 10000 t u v b w he
  have hg : (eqGuard .neq t x y u v).run P w = .ok () w := by
    unfold eqGuard
    cases u <;> cases v <;> simp at hk ⊢
    · rcases hk with hk | hk
      · cases x <;> simp [isLit] at hk ⊢
      · cases y <;> simp [isLit] at hk ⊢
    · simp [program, Sem.run, hk]
  have hb : (binOp .neq t u v).run P w = .ok (.bool (!b)) w := by
    have hbo : binOp .neq t u v = (do pure (.bool (!(← Op.equal t u v)))) := by
      cases u <;> cases v <;> first | (simp at hn; done) | rfl
    rw [hbo]; simp [hq]
  simp only [execOp, ho, hx, hy, Sem.run_bind, hg, hb, Result.andThen_ok, Sem.run_pure]
/-- Strings. -/
theorem r_eql_str {t ty : TypeId} {x y : Operand} {a b : ByteArray} (ho : o.op = .binOp .eql t x y ty) (hx : ρ x = .string a) (hy : ρ y = .string b) : ReadOp P o ρ h (.bool (a.toList == b.toList)) := by
  intro w r
  simp [execOp, ho, hx, hy, eqGuard, binOp, Op.stringOp]
theorem r_neq_str {t ty : TypeId} {x y : Operand} {a b : ByteArray} (ho : o.op = .binOp .neq t x y ty) (hx : ρ x = .string a) (hy : ρ y = .string b) : ReadOp P o ρ h (.bool (!(a.toList == b.toList))) := by
  intro w r
  simp [execOp, ho, hx, hy, eqGuard, binOp, Op.stringOp]
/-- A quotient, a rest, a shift of whole numbers. -/
theorem r_quo {t ty : TypeId} {x y : Operand} {k : IntKind} {a b : Int} (ho : o.op = .binOp .quo t x y ty) (hx : ρ x = .int k a) (hy : ρ y = .int k b) (hb : b ≠ 0) : ReadOp P o ρ h (.int k (k.wrap (a.tdiv b))) := by
  intro w r
  simp [execOp, ho, hx, hy, eqGuard, binOp, Op.intDiv, hb]
theorem r_rem {t ty : TypeId} {x y : Operand} {k : IntKind} {a b : Int} (ho : o.op = .binOp .rem t x y ty) (hx : ρ x = .int k a) (hy : ρ y = .int k b) (hb : b ≠ 0) : ReadOp P o ρ h (.int k (a.tmod b)) := by
  intro w r
  simp [execOp, ho, hx, hy, eqGuard, binOp, Op.intDiv, hb]
theorem r_shl {t ty : TypeId} {x y : Operand} {k k' : IntKind} {a b : Int} (ho : o.op = .binOp .shl t x y ty) (hx : ρ x = .int k a) (hy : ρ y = .int k' b) (hb : 0 ≤ b) : ReadOp P o ρ h (.int k (k.wrap (a * 2 ^ (min b.toNat k.bits)))) := by
  intro w r
  have hb' : ¬ b < 0 := by omega
  simp [execOp, ho, hx, hy, eqGuard, binOp, Op.shift, hb']
theorem r_shr {t ty : TypeId} {x y : Operand} {k k' : IntKind} {a b : Int} (ho : o.op = .binOp .shr t x y ty) (hx : ρ x = .int k a) (hy : ρ y = .int k' b) (hb : 0 ≤ b) : ReadOp P o ρ h (.int k (a.fdiv (2 ^ (min b.toNat k.bits)))) := by
  intro w r
  have hb' : ¬ b < 0 := by omega
  simp [execOp, ho, hx, hy, eqGuard, binOp, Op.shift, hb']
theorem r_bnot {t : TypeId} {x : Operand} {k : IntKind} {a : Int} (ho : o.op = .unOp .xor t x) (hx : ρ x = .int k a) : ReadOp P o ρ h (.int k (k.wrap (BitVec.ofInt k.bits (if k.signed then -1 else k.max) ^^^ BitVec.ofInt k.bits a).toNat)) := by
  intro w r
  simp [execOp, ho, hx, Op.unary, Op.intBits]
end
end Go.Proofs.YtfbjgbecabbdnaaGreatDoor.Sl

/- The rules for single operations (third part): cuts, stores, calls, append. -/
set_option linter.unusedVariables false
set_option linter.unusedSimpArgs false
namespace Go.Proofs.YtfbjgbecabbdnaaGreatDoor.Sl
section
variable {P : Program} {o : Oper} {ρ : Operand → Value} {h : Heap} {K : Value → Heap → Prop}
/-! ### 1. Cuts -/
theorem p_slice_hi {t e : TypeId} {x hi : Operand} {a : Option Addr} {n c j : Nat} {k : IntKind} (ho : o.op = .slice t x none (some hi) none) (hu : P.underlying t = some (.slice e)) (he : (P.info? e).isSome = true) (hx : ρ x = .slice a n c) (hh : ρ hi = .int k (j : Int)) (hj : j ≤ c) :
    PureOp P o ρ (.slice a j c) := by
  intro w
  have h1 : (0 : Int) ≤ (j : Int) ∧ (j : Int) ≤ (c : Int) := by omega
  have ha : Option.map (fun x : Addr => x.add 0) a = a := by cases a <;> simp [Addr.add]
  have hj' : ¬ c < j := by omega
  simp [execOp, ho, Instr.sliceAt, Instr.slice, Instr.sliceBounds, Instr.sliceBound, run_underlying hu, hx, hh, asIntOf, h1, hj', run_cellsOf _ _ he, ha]
theorem p_slice_lo {t e : TypeId} {x lo : Operand} {b off n c j : Nat} {k : IntKind} {sz : Nat} (ho : o.op = .slice t x (some lo) none none) (hu : P.underlying t = some (.slice e)) (he : (P.info? e).isSome = true) (hs : P.cellsOf e = sz) (hx : ρ x = .slice (some ⟨b, off, none⟩) n c) (hh : ρ lo = .int k (j : Int)) (hj : j ≤ n) :
    PureOp P o ρ (.slice (some ⟨b, if c = j then off else off + j * sz, none⟩) (n - j) (c - j)) := by
  intro w
  subst hs
  have h1 : (0 : Int) ≤ (j : Int) ∧ (j : Int) ≤ (n : Int) := by omega
  have ha : (Addr.mk b off none).add (j * P.cellsOf e) = ⟨b, off + j * P.cellsOf e, none⟩ := by unfold Addr.add; split <;> simp_all
  have hj' : ¬ n < j := by omega
  by_cases hcj : c = j
  · simp [execOp, ho, Instr.sliceAt, Instr.slice, Instr.sliceBounds, Instr.sliceBound, run_underlying hu, hx, hh, asIntOf, h1, hj', run_cellsOf _ _ he, ha, hcj]
  · simp [execOp, ho, Instr.sliceAt, Instr.slice, Instr.sliceBounds, Instr.sliceBound, run_underlying hu, hx, hh, asIntOf, h1, hj', run_cellsOf _ _ he, ha, hcj]
theorem p_slice_000 {t e : TypeId} {x hi mx : Operand} {a : Option Addr} {n c : Nat} {k k' : IntKind} (ho : o.op = .slice t x none (some hi) (some mx)) (hu : P.underlying t = some (.slice e)) (he : (P.info? e).isSome = true) (hx : ρ x = .slice a n c) (hh : ρ hi = .int k 0) (hm : ρ mx = .int k' 0) :
    PureOp P o ρ (.slice a 0 0) := by
  intro w
  simp [execOp, ho, Instr.sliceAt, Instr.slice, Instr.sliceBounds, Instr.sliceBound, run_underlying hu, hx, hh, hm, asIntOf, run_cellsOf _ _ he]

/-! ### 2. Stores -/
theorem Rel.setRow {w : World} (r : Rel h w) {b : Nat} {cs cs' : Array Value} {e : TypeId} {fz : Nat × Nat} (hb : h b = some (.cells cs e fz)) : Rel (h.set b (.cells cs' e fz)) (w.setRow b cs') := by
  intro k o' e'
  by_cases hk : k = b
  · subst hk; rw [Heap.set_same] at e'; cases e'; exact setRow_heap w k cs cs' e fz (r k _ hb)
  · rw [Heap.set_other _ _ hk] at e'; rw [setRow_other w b k cs' hk]; exact r k o' e'
theorem Step.setRow {w : World} (r : Rel h w) {b : Nat} {cs cs' : Array Value} {e : TypeId} {fz : Nat × Nat} (hb : h b = some (.cells cs e fz)) : Step h (h.set b (.cells cs' e fz)) w (w.setRow b cs') := by
  refine ⟨rfl, rfl, rfl, by simp, fun k hk hn => ?_, fun k h1 h2 => ?_⟩
  · have : k ≠ b := fun e1 => by rw [e1, hb] at hn; cases hn
    exact setRow_other w b k cs' this
  · by_cases hk : k = b
    · rw [hk, hb] at h1; cases h1
    · rw [Heap.set_other _ _ hk] at h2; exact absurd h1 h2
theorem s_store1 {t : TypeId} {x y : Operand} {b off : Nat} {cs : Array Value} {e : TypeId} {v : Value} (ho : o.op = .store t x y) (hx : ρ x = .pointer (some ⟨b, off, none⟩)) (hy : ρ y = v) (h1 : v.oneCell' = true) (ht : P.cellsOf t = 1) (hi : (P.info? t).isSome = true)
    (hb : h b = some (.cells cs e (0, 0))) (hc : off < cs.size) (k : K undef (h.set b (.cells (cs.setIfInBounds off v) e (0, 0)))) : SOp P o ρ h K := by
  intro w r
  have hv : v.cells = #[v] := by cases v <;> simp [Value.oneCell'] at h1 <;> rfl
  have hst := run_storeCells_at (P := P) b off e [v] 0 cs w (r b _ hb) (by simp; omega) (by simpa using h1)
  have hcs : (cs.toList.take (off + 0) ++ [v] ++ cs.toList.drop (off + 0 + [v].length)).toArray = cs.setIfInBounds off v := by
    apply Array.ext'
    simp only [Array.toList_setIfInBounds, Nat.add_zero, List.length_singleton]
    rw [List.set_eq_take_append_cons_drop]
    simp [hc]
  rw [hcs] at hst
  refine .inl ⟨undef, _, _, .inr ⟨rfl, ?_⟩, k, r.setRow hb, Step.setRow r hb⟩
  simp only [execOp, ho, Instr.storeAt, Sem.run_bind, Instr.sureAddr, hx, Sem.run_pure, Result.andThen_ok, storeVar, run_cellsOf _ _ hi, ht, hy, hv]
  simp [hst]
def splice (cs : Array Value) (off : Nat) (vs : List Value) : Array Value := (cs.toList.take off ++ vs ++ cs.toList.drop (off + vs.length)).toArray
theorem s_storeN {t : TypeId} {x y : Operand} {b off : Nat} {cs : Array Value} {e : TypeId} {vs : Array Value} {n : Nat} (ho : o.op = .store t x y) (hx : ρ x = .pointer (some ⟨b, off, none⟩)) (hy : ρ y = .agg vs) (h1 : vs.all (·.oneCell') = true) (ht : P.cellsOf t = n) (hn : vs.size = n) (hi : (P.info? t).isSome = true)
    (hb : h b = some (.cells cs e (0, 0))) (hc : off + n ≤ cs.size) (k : K undef (h.set b (.cells (splice cs off vs.toList) e (0, 0)))) : SOp P o ρ h K := by
  intro w r
  subst hn
  have hst := run_storeCells_at (P := P) b off e vs.toList 0 cs w (r b _ hb) (by simp; omega) (by intro v hv; exact Array.all_eq_true_iff_forall_mem.1 h1 v (by simpa using hv))
  refine .inl ⟨undef, _, _, .inr ⟨rfl, ?_⟩, k, r.setRow hb, Step.setRow r hb⟩
  simp only [execOp, ho, Instr.storeAt, Sem.run_bind, Instr.sureAddr, hx, Sem.run_pure, Result.andThen_ok, storeVar, run_cellsOf _ _ hi, ht, hy, Value.cells]
  simp only [Nat.add_zero] at hst
  simp [hst, splice]

/-! ### 3. Calls -/
theorem s_call {f : FuncId} {fn : Func} {args : Array Operand} {vs : Array Value} {tys : Array TypeId} (ho : o.op = .call ⟨.value (.func f), args, tys⟩) (hr : ρ (.func f) = .func (.func f) #[] #[]) (hf : P.funcs[f]? = some fn) (hn : (fn.name == "runtime.NumGoroutine") = false) (hb : fn.body.isNone = false)
    (ha : args.map ρ = vs) (c : SCalls P f vs h K) : SOp P o ρ h K := by
  intro w r
  subst ha
  refine .inr ⟨.enter f (args.map ρ), w, ?_, rfl, rfl, rfl, rfl, c⟩
  have hn' : fn.name ≠ "runtime.NumGoroutine" := by simpa using hn
  have hb' : fn.body ≠ none := by intro e; rw [e] at hb; cases hb
  simp [execOp, ho, resolve, hr, Deferred.ofValue, invoke, callFunc, program, Sem.run, hf, hn', hb']
theorem s_callv {f : FuncId} {fn : Func} {x : Operand} {first captured : Array Value} {args : Array Operand} {vs : Array Value} {tys : Array TypeId} (ho : o.op = .call ⟨.value x, args, tys⟩) (hr : ρ x = .func (.func f) first captured) (hf : P.funcs[f]? = some fn) (hn : (fn.name == "runtime.NumGoroutine") = false) (hb : fn.body.isNone = false)
    (ha : first ++ args.map ρ ++ captured = vs) (c : SCalls P f vs h K) : SOp P o ρ h K := by
  intro w r
  subst ha
  refine .inr ⟨.enter f (first ++ args.map ρ ++ captured), w, ?_, rfl, rfl, rfl, rfl, c⟩
  have hn' : fn.name ≠ "runtime.NumGoroutine" := by simpa using hn
  have hb' : fn.body ≠ none := by intro e; rw [e] at hb; cases hb
  simp [execOp, ho, resolve, hr, Deferred.ofValue, invoke, callFunc, program, Sem.run, hf, hn', hb']

/-! ### 4. Append -/
/-- The cells of a slice that is read. -/
inductive Cells (h : Heap) (sz : Nat) : Value → Nat → List Value → Prop where
  | zero (a : Option Addr) (c : Nat) : Cells h sz (.slice a 0 c) 0 []
  | at_ {b off n c : Nat} {full : Array Value} {e : TypeId} {fz : Nat × Nat} {cs : List Value} (hb : h b = some (.cells full e fz)) (hl : cs.length = n * sz) (hnc : n ≤ c) (hc : (full.toList.drop off).take (n * sz) = cs) : Cells h sz (.slice (some ⟨b, off, none⟩) n c) n cs
/-- A slice of the call's own that may be appended to. -/
inductive Own (h : Heap) (e : TypeId) (sz : Nat) : Value → Nat → List Value → Prop where
  | nil : Own h e sz (.slice none 0 0) 0 []
  | at_ {b n c : Nat} {full : Array Value} {cs : List Value} (hb : h b = some (.cells full e (0, 0))) (hl : cs.length = n * sz) (hnc : n ≤ c) (hcap : c * sz ≤ full.size) (hc : full.toList.take (n * sz) = cs) : Own h e sz (.slice (some ⟨b, 0, none⟩) n c) n cs
theorem Cells.nil {sz : Nat} : Cells h sz (.slice none 0 0) 0 [] := .zero none 0
theorem Own.cells {e : TypeId} {sz n : Nat} {v : Value} {cs : List Value} (x : Own h e sz v n cs) : Cells h sz v n cs := by
  cases x with
  | nil => exact .nil
  | at_ hb hl hnc hcap hc => exact .at_ hb hl hnc (by simpa using hc)
theorem Cells.le {h' : Heap} {sz n : Nat} {v : Value} {cs : List Value} (x : Cells h sz v n cs) (l : h.le h') : Cells h' sz v n cs := by
  cases x with
  | zero a c => exact .zero a c
  | at_ hb hl hnc hc => exact .at_ (l _ _ hb) hl hnc hc
theorem Own.le {h' : Heap} {e : TypeId} {sz n : Nat} {v : Value} {cs : List Value} (x : Own h e sz v n cs) (l : h.le h') : Own h' e sz v n cs := by
  cases x with
  | nil => exact .nil
  | at_ hb hl hnc hcap hc => exact .at_ (l _ _ hb) hl hnc hcap hc
def blockOf : Value → Option Nat
  | .slice (some a) _ _ => some a.block
  | _ => none
theorem Cells.src {w : World} (r : Rel h w) {sz n : Nat} {v : Value} {cs : List Value} (x : Cells h sz v n cs) (h1 : ∀ u ∈ cs, u.oneCell' = true) {tx e' : TypeId} (hk : P.underlying tx = some (.slice e')) : Src P sz tx v n cs w := by
  cases x with
  | zero a c => cases a with
    | none => exact Src.ofNil w hk c
    | some a => exact Src.ofSlice w hk a 0 c [] (by simp) (by intro j u hj; simp at hj) h1
  | @at_ b off n c full e fz cs hb hl hnc hc =>
    refine Src.ofSlice w hk _ _ _ _ hl ?_ h1
    intro j u hj
    have ha : (Addr.mk b off none).add j = ⟨b, off + j, none⟩ := by unfold Addr.add; split <;> simp_all
    rw [ha, r.cell hb]
    rw [← hc] at hj
    have hlt : j < n * sz := by
      rcases Nat.lt_or_ge j (n * sz) with h2 | h2
      · exact h2
      · rw [List.getElem?_eq_none (by simp; omega)] at hj; cases hj
    rw [List.getElem?_take_of_lt hlt, List.getElem?_drop] at hj
    simpa using hj
theorem Cells.first {w : World} (r : Rel h w) {sz n : Nat} {v : Value} {cs : List Value} (x : Cells h sz v n cs) : (Builtin.firstCells sz n v).run P w = .ok cs.toArray w := by
  cases x with
  | zero a c => cases a with
    | none => exact run_firstCells_none w sz 0 0 c
    | some a => exact run_firstCells_some w sz 0 a 0 c [] (by simp) (by intro j u hj; simp at hj)
  | @at_ b off n c full e fz cs hb hl hnc hc =>
    refine run_firstCells_some w sz n _ n c cs hl ?_
    intro j u hj
    have ha : (Addr.mk b off none).add j = ⟨b, off + j, none⟩ := by unfold Addr.add; split <;> simp_all
    rw [ha, r.cell hb]
    rw [← hc] at hj
    have hlt : j < n * sz := by
      rcases Nat.lt_or_ge j (n * sz) with h2 | h2
      · exact h2
      · rw [List.getElem?_eq_none (by simp; omega)] at hj; cases hj
    rw [List.getElem?_take_of_lt hlt, List.getElem?_drop] at hj
    simpa using hj
theorem Cells.len {sz n : Nat} {v : Value} {cs : List Value} (x : Cells h sz v n cs) : cs.length = n * sz := by
  cases x with
  | zero a c => simp
  | at_ hb hl hnc hc => exact hl
theorem size_zeroCells (z : Array Value) (n : Nat) : (Builtin.zeroCells z n).size = n * z.size := by simp [Builtin.zeroCells]
/-- What an append leaves. -/
structure Grew (h h' : Heap) (v v' : Value) : Prop where
  same : ∀ b o, h b = some o → some b ≠ blockOf v → h' b = some o
  blk : blockOf v' = blockOf v ∨ ∃ b, blockOf v' = some b ∧ h b = none
  new : ∀ b, h b = none → h' b ≠ none → blockOf v' = some b
/-- 'append' onto a slice of the call's own: it grows in its place, or lies in a new block. -/
theorem s_append0 {t tx e : TypeId} {x y : Operand} {i : TypeInfo} {z : Value} {v u : Value} {sz n m : Nat} {cs news : List Value}
    (ho : o.op = .call ⟨.builtin .append, #[x, y], #[t, tx]⟩) (ht : P.underlying t = some (.slice e)) {e' : TypeId} (htx : P.underlying tx = some (.slice e')) (hi : P.info? e = some i) (hz : i.zero = some z) (hsz : i.size = sz) (hz1 : z.cells.size = sz)
    (hx : ρ x = v) (hy : ρ y = u) (own : Own h e sz v n cs) (src : Cells h sz u m news) (h1 : ∀ u ∈ news, u.oneCell' = true) (hfit : (n + m) * i.bytes ≤ 140737488355328) (hfit2 : n + m ≤ 4611686018427387904)
    (k : ∀ v' h', Own h' e sz v' (n + m) (cs ++ news) → Grew h h' v v' → K v' h') : SOp P o ρ h K := by
  intro w r
  subst hsz
  have hsrc := src.src r h1 htx
  have hnl := src.len
  have hexec : ∀ r', (Builtin.append_ #[t, tx] o.type #[v, u]).run P w = r' → (execOp ρ o).run P w = r'.andThen fun a w' => .ok (.value a) w' := by
    intro r' e
    simp only [execOp, ho, resolve, Sem.run_bind, Sem.run_pure, Result.andThen_ok, invoke, builtin]
    simp [hx, hy, e]
  by_cases hm : m = 0
  · -- nothing is appended
    subst hm
    have hn0 : news = [] := List.eq_nil_of_length_eq_zero (by rw [hnl]; simp)
    subst hn0
    have hrun : (Builtin.append_ #[t, tx] o.type #[v, u]).run P w = .ok v w := by
      cases own with
      | nil => exact run_append_nothing w t tx o.type e i ht hi none 0 0 (Nat.le_refl _) u hsrc
      | @at_ b n c full cs hb hl hnc hcap hc => exact run_append_nothing w t tx o.type e i ht hi _ n c hnc u hsrc
    refine .inl ⟨v, w, h, .inl (by rw [hexec _ hrun]; rfl), k v h (by simpa using own) ⟨fun _ _ e _ => e, .inl rfl, fun b e1 e2 => absurd e1 e2⟩, r, Step.refl _ _⟩
  · -- it grows in a new block
    have grow : ∀ c, blockOf v = none ∨ True → (∃ a, v = .slice a n c) → c < n + m → ∃ v' w' h', (execOp ρ o).run P w = .ok (.value v') w' ∧ K v' h' ∧ Rel h' w' ∧ Step h h' w w' := by
      rintro c _ ⟨a, rfl⟩ hc
      have hold : (Builtin.firstCells i.size n (.slice a n c)).run P w.drew = .ok cs.toArray w.drew := own.cells.first (w := w.drew) r
      have hrun := run_append_grow_src (P := P) w t tx o.type e i z ht hi hz a n c cs hold u m news hsrc hc (by omega) (growslice_fits hc hfit)
      have hcapge : n + m ≤ grownCap w (n + m) c e := by unfold grownCap Question.cut; simp
      have hcl := own.cells.len
      refine ⟨_, _, h.set w.heap.size (.cells ((cs ++ news).toArray ++ Builtin.zeroCells z.cells (grownCap w (n + m) c e - (n + m))) e (0, 0)), by rw [hexec _ hrun]; rfl, ?_, ?_, ?_⟩
      · have hn : h w.heap.size = none := by
          cases e1 : h w.heap.size with
          | none => rfl
          | some o => have := r.lt e1; omega
        refine k _ _ (.at_ (Heap.set_same _ _ _) ?_ hcapge ?_ ?_) ⟨?_, .inr ⟨_, rfl, hn⟩, ?_⟩
        · simp [hcl, hnl, Nat.add_mul]
        · rw [Array.size_append, size_zeroCells, hz1]
          simp only [List.size_toArray, List.length_append, hcl, hnl]
          have : grownCap w (n + m) c e * i.size = (n + m) * i.size + (grownCap w (n + m) c e - (n + m)) * i.size := by
            rw [← Nat.add_mul]; congr 1; omega
          rw [this, Nat.add_mul]; exact Nat.le_refl _
        · have : (cs ++ news).length = (n + m) * i.size := by simp [hcl, hnl, Nat.add_mul]
          rw [Array.toList_append, ← this]
          exact List.take_left
        · intro b o' e1 _
          have : b ≠ w.heap.size := fun e2 => by have := r.lt e1; omega
          rw [Heap.set_other _ _ this]; exact e1
        · intro b e1 e2
          by_cases hb : b = w.heap.size
          · rw [hb]; rfl
          · rw [Heap.set_other _ _ hb] at e2; exact absurd e1 e2
      · intro b o' e1
        by_cases hb : b = w.heap.size
        · subst hb; rw [Heap.set_same] at e1; cases e1; exact heap_alloc_new w.drew _
        · rw [Heap.set_other _ _ hb] at e1
          exact (heap_alloc w.drew _ b (r.lt e1)).trans (r b o' e1)
      · refine ⟨rfl, rfl, rfl, by rw [size_alloc]; show w.heap.size ≤ w.heap.size + 1; omega, fun b hb _ => heap_alloc w.drew _ b hb, fun b e1 e2 => ?_⟩
        by_cases hb : b = w.heap.size
        · omega
        · rw [Heap.set_other _ _ hb] at e2; exact absurd e1 e2
    cases own with
    | nil =>
      obtain ⟨v', w', h', e1, e2, e3, e4⟩ := grow 0 (.inr trivial) ⟨_, rfl⟩ (by omega)
      exact .inl ⟨v', w', h', .inl e1, e2, e3, e4⟩
    | @at_ b n c full cs hb hl hnc hcap hc =>
      by_cases hroom : n + m ≤ c
      · -- there is room
        have hle : (n + m) * i.size ≤ c * i.size := Nat.mul_le_mul_right _ hroom
        rw [Nat.add_mul] at hle
        have hst := run_storeCells_at (P := P) b (0 + n * i.size) e news 0 full w (r b _ hb) (by rw [hnl]; omega) hsrc.one
        have ha : (Addr.mk b 0 none).add (n * i.size) = ⟨b, 0 + n * i.size, none⟩ := by unfold Addr.add; split <;> simp_all
        simp only [Nat.add_zero, Nat.zero_add] at hst ha
        have hrun : (Builtin.append_ #[t, tx] o.type #[.slice (some ⟨b, 0, none⟩) n c, u]).run P w = .ok (.slice (some ⟨b, 0, none⟩) (n + m) c) (w.setRow b (full.toList.take (n * i.size) ++ news ++ full.toList.drop (n * i.size + news.length)).toArray) := by
          simp [Builtin.append_, run_underlying ht, run_underlying htx, sizeOf, typeInfo, hi, hsrc.len, hsrc.cells, hroom, ha, hst]
        refine .inl ⟨_, _, _, .inl (by rw [hexec _ hrun]; rfl), k _ _ (.at_ (Heap.set_same _ _ _) ?_ hroom ?_ ?_) ⟨?_, .inl rfl, ?_⟩, r.setRow hb, Step.setRow r hb⟩
        · simp [hl, hnl, Nat.add_mul]
        · simp only [List.size_toArray, List.length_append, List.length_take, List.length_drop, Array.length_toList]
          omega
        · rw [hc]
          have : (cs ++ news).length = (n + m) * i.size := by simp [hl, hnl, Nat.add_mul]
          rw [← this]
          show List.take _ ((cs ++ news) ++ _) = _
          exact List.take_left
        · intro k' o' e1 e2
          have : k' ≠ b := fun e3 => e2 (by rw [e3]; rfl)
          rw [Heap.set_other _ _ this]; exact e1
        · intro k' e1 e2
          by_cases hk : k' = b
          · rw [hk, hb] at e1; cases e1
          · rw [Heap.set_other _ _ hk] at e2; exact absurd e1 e2
      · obtain ⟨v', w', h', e1, e2, e3, e4⟩ := grow c (.inr trivial) ⟨_, rfl⟩ (by omega)
        exact .inl ⟨v', w', h', .inl e1, e2, e3, e4⟩
/-- What is to be known of an element's type. -/
def infoOk (P : Program) (e sz : Nat) : Bool := match P.info? e with
  | some i => match i.zero with
    | some z => i.size == sz && z.cells.size == sz && decide (i.bytes ≤ 4096)
    | none => false
  | none => false
theorem infoOk_spec {e sz : Nat} (h : infoOk P e sz = true) : ∃ i z, P.info? e = some i ∧ i.zero = some z ∧ i.size = sz ∧ z.cells.size = sz ∧ i.bytes ≤ 4096 := by
  unfold infoOk at h
  split at h
  · rename_i i hi
    split at h
    · rename_i z hz
      simp only [Bool.and_eq_true, beq_iff_eq, decide_eq_true_eq] at h
      exact ⟨i, z, hi, hz, h.1.1, h.1.2, h.2⟩
    · cases h
  · cases h
theorem s_append {t tx e : TypeId} {x y : Operand} {v u : Value} {sz n m : Nat} {cs news : List Value}
    (ho : o.op = .call ⟨.builtin .append, #[x, y], #[t, tx]⟩) (ht : P.underlying t = some (.slice e)) {e' : TypeId} (htx : P.underlying tx = some (.slice e')) (hi : infoOk P e sz = true)
    (hx : ρ x = v) (hy : ρ y = u) (own : Own h e sz v n cs) (src : Cells h sz u m news) (h1 : ∀ u ∈ news, u.oneCell' = true) (hfit : n + m ≤ 34359738368)
    (k : ∀ v' h', Own h' e sz v' (n + m) (cs ++ news) → Grew h h' v v' → K v' h') : SOp P o ρ h K := by
  obtain ⟨i, z, hi, hz, hs, hz1, hb⟩ := infoOk_spec hi
  refine s_append0 ho ht htx hi hz hs hz1 hx hy own src h1 ?_ (by omega) k
  exact Nat.le_trans (Nat.mul_le_mul hfit hb) (by decide)
end
end Go.Proofs.YtfbjgbecabbdnaaGreatDoor.Sl

/- Functions: how one is entered, what it hands back. Wrappers for the walk. -/
set_option linter.unusedVariables false
set_option linter.unusedSimpArgs false
namespace Go.Proofs.YtfbjgbecabbdnaaGreatDoor.Sl
section
variable {P : Program} {N : Nat} {ops : Array Oper} {Q : Tm → Heap → Prop} {T : Tm} {h : Heap}
/-! ### 1. Results -/
def ResOne (P : Program) (T : Tm) (h : Heap) : ResultVar → Value → Prop
  | .tmp t, v => T t = v
  | .cell a ty, v => ∃ o : Oper, ∃ x, o.op = .load ty x ∧ ReadOp P o (fun _ => T a) h v ∧ ∃ ad, T a = .pointer (some ad)
def Res (P : Program) (fn : Func) (T : Tm) (h : Heap) (v : Value) : Prop := ∀ (D : List Deferred) (w : World) (a : Act), Rel h w → Reads fn.ntmps T a D → (results fn a.tmps).run P w = .ok v w
def resSem (tmps : Array Value) : ResultVar → Sem Value
  | .tmp t => pure (tmps.getD t undef)
  | .cell a t => do loadVar t (← asAddr (tmps.getD a undef))
theorem results_eq (fn : Func) (tmps : Array Value) : results fn tmps = (do let vs ← fn.results.mapM (resSem tmps); pure (if h : vs.size = 1 then vs[0] else .tuple vs)) := by
  unfold results
  congr 2
theorem resOne_run {r : ResultVar} {v : Value} (x : ResOne P T h r v) {w : World} {a : Act} {N : Nat} {D : List Deferred} (rw_ : Rel h w) (ra : Reads N T a D) : (resSem a.tmps r).run P w = .ok v w := by
  have hT : ∀ t, a.tmps.getD t undef = T t := fun t => congrFun ra.eval (.tmp t)
  cases r with
  | tmp t => simp only [ResOne] at x; simp [resSem, hT t, x]
  | cell ad ty =>
    obtain ⟨o, y, ho, hr, p, hp⟩ := x
    have := hr w rw_
    simp only [execOp, ho, Instr.loadAt, hp, Instr.sureAddr, Sem.run_bind, Sem.run_pure, Result.andThen_ok] at this
    simp only [resSem, hT, hp, asAddr, Sem.run_bind, Sem.run_pure, Result.andThen_ok]
    cases hl : (loadVar ty p).run P w with
    | ok v' w' => rw [hl] at this; simp at this; rw [this.1, this.2]
    | halt x w' => rw [hl] at this; simp at this
theorem res_one {fn : Func} {r : ResultVar} {v : Value} (hr : fn.results = #[r]) (x : ResOne P T h r v) : Res P fn T h v := by
  intro D w a rw_ ra
  have := resOne_run x rw_ ra
  rw [results_eq, hr, Array.mapM_eq_mapM_toList]
  simp only [List.mapM_cons, List.mapM_nil, Sem.run_bind, Sem.run_map, this, Result.andThen_ok, Sem.run_pure]
  rfl
inductive ResAll (P : Program) (T : Tm) (h : Heap) : List ResultVar → List Value → Prop where
  | nil : ResAll P T h [] []
  | cons {r : ResultVar} {v : Value} {rs : List ResultVar} {vs : List Value} : ResOne P T h r v → ResAll P T h rs vs → ResAll P T h (r :: rs) (v :: vs)
theorem res_many {fn : Func} {rs : List ResultVar} {vs : List Value} (hr : fn.results = rs.toArray) (hn : rs.length ≠ 1) (x : ResAll P T h rs vs) : Res P fn T h (.tuple vs.toArray) := by
  intro D w a rw_ ra
  have key : ((rs.mapM (resSem a.tmps)).run P w = .ok vs w) ∧ vs.length = rs.length := by
    clear hr hn
    induction x with
    | nil => simp
    | cons h1 h2 ih =>
      have := resOne_run h1 rw_ ra
      simp only [List.mapM_cons, Sem.run_bind, this, Result.andThen_ok, ih.1, Sem.run_pure, List.length_cons, ih.2, and_self]
  rw [results_eq, hr, Array.mapM_eq_mapM_toList]
  simp only [Sem.run_bind, Sem.run_map, key.1, Result.andThen_ok, Sem.run_pure]
  have : vs.toArray.size ≠ 1 := by simpa [key.2] using hn
  rw [dif_neg this]
def retQ (P : Program) (fn : Func) (R : Value → Heap → Prop) : Exit → Tm → Heap → Prop
  | .normal, T, h | .ret, T, h => ∃ v, Res P fn T h v ∧ R v h
  | _, _, _ => False
def T0 (args : Array Value) : Tm := fun t => args.getD t undef
theorem reads0 {args : Array Value} {N : Nat} (hN : args.size ≤ N) : Reads N (T0 args) { tmps := args ++ Array.replicate (N - args.size) undef, defers := [] } [] := by
  refine ⟨by simp; omega, fun t ht => ?_, fun t ht => ?_, rfl⟩
  · simp only [T0, Array.getD_eq_getD_getElem?]
    rcases Nat.lt_or_ge t args.size with h1 | h1
    · simp [Array.getElem?_append_left h1, h1]
    · rw [Array.getElem?_append_right h1, Array.getElem?_eq_none h1, Array.getElem?_replicate, if_pos (by omega)]; rfl
  · simp only [T0, Array.getD_eq_getD_getElem?]; rw [Array.getElem?_eq_none (Nat.le_trans hN ht)]; rfl
theorem s_enter {f : FuncId} {fn : Func} {c : Code} {args : Array Value} {R : Value → Heap → Prop} (hf : P.funcs[f]? = some fn) (hb : fn.body = some c) (hN : args.size ≤ fn.ntmps)
    (s : SCode P fn.ntmps c (retQ P fn R) (T0 args) h) : SCalls P f args h R := by
  intro w r
  refine (callsIn_wide (n := 0)).1 (callsIn_of_wp hf hb trivial (wpIn_mono (s none [] w _ r (reads0 hN)) ?_))
  · rintro e a' w' ⟨T', h', q, r', st, ra'⟩
    cases e with
    | normal => obtain ⟨v, hr, hR⟩ := q; exact ⟨ra'.defers, v, hr [] w' a' r' ra', v, h', rfl, hR, r', st⟩
    | ret => obtain ⟨v, hr, hR⟩ := q; exact ⟨ra'.defers, v, hr [] w' a' r' ra', v, h', rfl, hR, r', st⟩
    | _ => exact q.elim

/-! ### 2. One operation of a region in the order of its text -/
theorem w_nil (q : Q T h) : sops P N ops Q [] T h := q
theorem w_pure {o : Oper} {r : List Oper} {v : Value} (hd : (match o.dst with | some t => decide (t < N) | none => true) = true) (hg : o.guard = none) (p : PureOp P o (ev T) v) (s : sops P N ops Q r (put T o.dst v) h) : sops P N ops Q (o :: r) T h := by
  refine ⟨fun t ht => by simpa [ht] using hd, ?_⟩
  have : want ops T o = true := by simp [want, hg]
  rw [this]
  exact (p.read h).sop s
theorem w_read {o : Oper} {r : List Oper} {v : Value} (hd : (match o.dst with | some t => decide (t < N) | none => true) = true) (hg : o.guard = none) (p : ReadOp P o (ev T) h v) (s : sops P N ops Q r (put T o.dst v) h) : sops P N ops Q (o :: r) T h := by
  refine ⟨fun t ht => by simpa [ht] using hd, ?_⟩
  have : want ops T o = true := by simp [want, hg]
  rw [this]
  exact p.sop s
theorem w_act {o : Oper} {r : List Oper} (hd : (match o.dst with | some t => decide (t < N) | none => true) = true) (hg : o.guard = none) (p : SOp P o (ev T) h (fun v h' => sops P N ops Q r (put T o.dst v) h')) : sops P N ops Q (o :: r) T h := by
  refine ⟨fun t ht => by simpa [ht] using hd, ?_⟩
  have : want ops T o = true := by simp [want, hg]
  rw [this]
  exact p
theorem w_alloc {o : Oper} {r : List Oper} {obj : Obj} {vf : Nat → Value} (hd : (match o.dst with | some t => decide (t < N) | none => true) = true) (hg : o.guard = none) (p : AllocOp P o (ev T) obj vf)
    (s : ∀ b, h b = none → sops P N ops Q r (put T o.dst (vf b)) (h.set b obj)) : sops P N ops Q (o :: r) T h := w_act hd hg (p.sop s)
/-- An operation under a guard: the guard lets it, or not. -/
theorem w_skip {o : Oper} {r : List Oper} (hd : (match o.dst with | some t => decide (t < N) | none => true) = true) (hg : want ops T o = false) (s : sops P N ops Q r (put T o.dst undef) h) : sops P N ops Q (o :: r) T h := by
  refine ⟨fun t ht => by simpa [ht] using hd, ?_⟩
  rw [hg]
  exact s
theorem w_let {o : Oper} {r : List Oper} (hg : want ops T o = true) (s : sops P N ops Q ({ o with guard := none } :: r) T h) : sops P N ops Q (o :: r) T h := by
  obtain ⟨hd, s⟩ := s
  refine ⟨hd, ?_⟩
  rw [hg]
  have : want ops T { o with guard := none } = true := rfl
  rw [this] at s
  exact s

/-! ### 3. One entry of a region that draws its order -/
variable {pp loud : List Nat} {F : List RdA} {E : Env}
theorem d_nil (q : Q T h) : sdraw P N ops pp loud Q [] T h F E := q
theorem d_pure {i : Nat} {r : List Ent} {o : Oper} {v : Value} (ho : opAt ops i = o) (hp : i ∉ pp) (ha : isAct o.op = false) (hr : isRead o.op = false) (hg : o.guard = none) (p : PureOp P o (ev T) v) (s : sdraw P N ops pp loud Q r (put T o.dst v) h F E) :
    sdraw P N ops pp loud Q ((i, true) :: r) T h F E := by
  subst ho
  have hw : want ops T (opAt ops i) = true := by simp [want, hg]
  simp only [sdraw, hp, if_false, hw, if_true, ha, hr, Bool.false_eq_true]
  exact ⟨v, p, s⟩
theorem d_act {i : Nat} {r : List Ent} {o : Oper} (ho : opAt ops i = o) (hp : i ∉ pp) (hl : i ∉ loud) (ha : isAct o.op = true) (hg : o.guard = none) (p : SOp P o (ev T) h (fun v h' => (∀ A ∈ F, A.on h → A.on h') ∧ sdraw P N ops pp loud Q r (put T o.dst v) h' F E)) :
    sdraw P N ops pp loud Q ((i, true) :: r) T h F E := by
  subst ho
  have hw : want ops T (opAt ops i) = true := by simp [want, hg]
  simp only [sdraw, hp, hl, if_false, hw, if_true, ha]
  exact p
theorem d_loud {i : Nat} {r : List Ent} {o : Oper} (ho : opAt ops i = o) (hp : i ∉ pp) (hl : i ∈ loud) (ha : isAct o.op = true) (hg : o.guard = none) (p : SOp P o (ev T) h (fun v h' => sdraw P N ops pp loud Q r (put T o.dst v) h' [] E)) :
    sdraw P N ops pp loud Q ((i, true) :: r) T h F E := by
  subst ho
  have hw : want ops T (opAt ops i) = true := by simp [want, hg]
  simp only [sdraw, hp, hl, if_false, hw, if_true, ha]
  exact p
theorem d_prep {i : Nat} {r : List Ent} {o : Oper} {obj : Obj} {vf : Nat → Value} (ho : opAt ops i = o) (p : AllocOp P o (ev T) obj vf) (s : sdraw P N ops pp loud Q r T h F (E.put i (obj, vf))) : sdraw P N ops pp loud Q ((i, false) :: r) T h F E := by
  subst ho
  simp only [sdraw]
  exact ⟨obj, vf, p, s⟩
theorem d_bind {i : Nat} {r : List Ent} {o : Oper} {obj : Obj} {vf : Nat → Value} (ho : opAt ops i = o) (hp : i ∈ pp) (hE : E i = (obj, vf)) (s : ∀ b, h b = none → sdraw P N ops pp loud Q r (put T o.dst (vf b)) (h.set b obj) F E) : sdraw P N ops pp loud Q ((i, true) :: r) T h F E := by
  subst ho
  simp only [sdraw, hp, if_true, hE]
  exact s
theorem d_skip {i : Nat} {r : List Ent} {o : Oper} (ho : opAt ops i = o) (hp : i ∉ pp) (hg : want ops T o = false) (s : sdraw P N ops pp loud Q r (put T o.dst undef) h F E) : sdraw P N ops pp loud Q ((i, true) :: r) T h F E := by
  subst ho
  simp only [sdraw, hp, if_false, hg, Bool.false_eq_true]
  exact s
end
end Go.Proofs.YtfbjgbecabbdnaaGreatDoor.Sl
