/- The rules for single operations: what is reckoned of slots alone, what is read, what acts. -/
import Derived.Test.YtielfejpnkcjbaaDrawC
import Derived.Laws.Tables
set_option linter.unusedVariables false
set_option linter.unusedSimpArgs false
namespace Go.Proofs.Ytielfejpnkcjbaa.Sl

/-! ### 1. What is reckoned of the slots alone -/
def intBin (op : BinOp) (k : IntKind) (a b : Int) : Option Value :=
  match op with
  | .add => some (.int k (k.wrap (a + b)))
  | .sub => some (.int k (k.wrap (a - b)))
  | .mul => some (.int k (k.wrap (a * b)))
  | .and => some (.int k (k.wrap (BitVec.ofInt k.bits a &&& BitVec.ofInt k.bits b).toNat))
  | .or => some (.int k (k.wrap (BitVec.ofInt k.bits a ||| BitVec.ofInt k.bits b).toNat))
  | .xor => some (.int k (k.wrap (BitVec.ofInt k.bits a ^^^ BitVec.ofInt k.bits b).toNat))
  | .andNot => some (.int k (k.wrap (BitVec.ofInt k.bits a &&& ~~~(BitVec.ofInt k.bits b)).toNat))
  | .eql => some (.bool (a == b))
  | .neq => some (.bool (a != b))
  | .lss => some (.bool (decide (a < b)))
  | .leq => some (.bool (decide (a ≤ b)))
  | .gtr => some (.bool (decide (a > b)))
  | .geq => some (.bool (decide (a ≥ b)))
  | _ => none
def binVal (op : BinOp) (a b : Value) : Option Value :=
  match op, a, b with
  | .shl, _, _ | .shr, _, _ => none
  | op, .int k a, .int k' b => if k = k' then intBin op k a b else none
  | _, _, _ => none
def pval (P : Program) (ρ : Operand → Value) : Op → Option Value
  | .move x | .assign x => some (ρ x)
  | .pick c a b => match ρ c with
    | .bool t => some (bif t then ρ a else ρ b)
    | _ => none
  | .binOp op _ x y _ => binVal op (ρ x) (ρ y)
  | .unOp .not _ x => match ρ x with
    | .bool b => some (.bool (!b))
    | _ => none
  | .nilCheck x => match ρ x with
    | .pointer (some a) => some (.pointer (some a))
    | .func (.func f) first captured => some (.func (.func f) first captured)
    | _ => none
  | .fieldAddr t x f => match ρ x, P.underlying t with
    | .pointer (some ⟨b, off, none⟩), some (.struct fs) => match fs[f]? with
      | some fd => if P.cellsOf fd.type = 0 then none else some (.pointer (some ⟨b, off + fd.offset, none⟩))
      | none => none
    | _, _ => none
  | .field t x f => match ρ x, P.underlying t with
    | .agg cs, some (.struct fs) => match fs[f]? with
      | some fd => match P.underlying fd.type with
        | some (.struct _) | some (.array _ _) => some (.agg (cs.extract fd.offset (fd.offset + P.cellsOf fd.type)))
        | some _ => cs[fd.offset]?
        | none => none
      | none => none
    | _, _ => none
  | .extract t i => match ρ t with
    | .tuple vs => vs[i]?
    | _ => none
  | .build t parts => (P.built t (parts.map fun (i, x) => (i, ρ x)).toList).map .agg
  | .makeFunc fn first captured => some (.func fn (first.map ρ) (captured.map ρ))
  | .makeInterface t x => match P.underlying t with
    | some (.interface _) => none
    | some _ => some (.iface t (ρ x))
    | none => none
  | _ => none
section
variable {P : Program} {o : Oper} {ρ : Operand → Value} {h : Heap}
theorem run_cellsOf (t : TypeId) (w : World) (ht : (P.info? t).isSome = true) : (sizeOf t).run P w = .ok (P.cellsOf t) w := by
  obtain ⟨i, hi⟩ := Option.isSome_iff_exists.1 ht
  simp [sizeOf, typeInfo, hi, Program.cellsOf]
theorem info_of_underlying {t : TypeId} {d : TypeDesc} (h : P.underlying t = some d) : (P.info? t).isSome = true := by
  unfold Program.underlying at h
  cases hi : P.info? t with
  | none => rw [hi] at h; cases h
  | some i => rfl
theorem run_intBin {op : BinOp} {k : IntKind} {a b : Int} {v : Value} (hv : intBin op k a b = some v) (t : TypeId) (x y : Operand) (w : World) :
    (do eqGuard op t x y (.int k a) (.int k b); binOp op t (.int k a) (.int k b) : Sem Value).run P w = .ok v w := by
  cases op <;> simp only [intBin, Option.some.injEq, reduceCtorEq] at hv <;> subst hv <;>
    first
      | (simp [eqGuard, binOp, Op.intArith]; done)
      | (simp [eqGuard, binOp, Op.intBits]; done)
      | (simp [eqGuard, binOp, Op.intCmp]; done)
theorem p_val {v : Value} (hv : pval P ρ o.op = some v) : PureOp P o ρ v := by
  intro w
  obtain ⟨dst, op, type, pos, after, guard⟩ := o
  simp only at hv
  cases op <;> simp only [pval, reduceCtorEq] at hv
  case move x => simp only [Option.some.injEq] at hv; subst hv; simp [execOp]
  case assign x => simp only [Option.some.injEq] at hv; subst hv; simp [execOp]
  case pick c a b =>
    cases hc : ρ c <;> (try simp only [hc, reduceCtorEq] at hv)
    rename_i t
    simp only [Option.some.injEq] at hv; subst hv
    cases t <;> simp [execOp, hc, asBool]
  case binOp op t x y ty =>
    simp only [execOp]
    unfold binVal at hv
    split at hv <;> (try simp only [reduceCtorEq] at hv)
    rename_i op k a k' b h1 h2 hx hy
    split at hv
    · rename_i hk
      subst hk
      have := run_intBin (P := P) hv t x y w
      rw [hx, hy]
      simp only [Sem.run_bind, this, Result.andThen_ok, Sem.run_pure]
    · cases hv
  case unOp u t x =>
    cases u <;> (try simp only [reduceCtorEq] at hv)
    cases hx : ρ x <;> (try simp only [hx, reduceCtorEq] at hv)
    simp only [Option.some.injEq] at hv; subst hv
    simp [execOp, hx, Op.unary]
  case nilCheck x =>
    cases hx : ρ x <;> (try simp only [hx, reduceCtorEq] at hv)
    · rename_i a
      cases a <;> (try simp only [reduceCtorEq] at hv)
      simp only [Option.some.injEq] at hv; subst hv
      simp [execOp, hx]
    · rename_i fn first captured
      cases fn <;> (try simp only [reduceCtorEq] at hv)
      simp only [Option.some.injEq] at hv; subst hv
      simp [execOp, hx]
  case fieldAddr t x f =>
    split at hv <;> (try simp only [reduceCtorEq] at hv)
    rename_i b off fs hx hu
    split at hv <;> (try simp only [reduceCtorEq] at hv)
    rename_i fd hf
    split at hv
    · cases hv
    · rename_i hz
      simp only [Option.some.injEq] at hv; subst hv
      have hs : (sizeOf fd.type).run P w = .ok (P.cellsOf fd.type) w := by
        refine run_cellsOf _ _ ?_
        cases hi : P.info? fd.type with
        | none => simp [Program.cellsOf, hi] at hz
        | some i => rfl
      have ha : (Addr.mk b off none).add fd.offset = ⟨b, off + fd.offset, none⟩ := by unfold Addr.add; split <;> simp_all
      simp only [execOp, Instr.fieldAt, Sem.run_bind, run_underlying hu, Result.andThen_ok, hf, Instr.sureAddr, hx, Sem.run_pure, fieldPlace, hs, Sem.run_ite, if_neg hz, ha]
  case field t x f =>
    split at hv <;> (try simp only [reduceCtorEq] at hv)
    rename_i cs fs hx hu
    split at hv <;> (try simp only [reduceCtorEq] at hv)
    rename_i fd hf
    simp only [execOp, Instr.field, Sem.run_bind, run_underlying hu, Result.andThen_ok, hf, asAgg, hx, Sem.run_pure, part, isAgg]
    split at hv
    · rename_i hu2
      simp only [Option.some.injEq] at hv; subst hv
      simp [run_underlying hu2, run_cellsOf _ _ (info_of_underlying hu2)]
    · rename_i hu2
      simp only [Option.some.injEq] at hv; subst hv
      simp [run_underlying hu2, run_cellsOf _ _ (info_of_underlying hu2)]
    · rename_i d h1 h2 hu2
      rw [run_underlying hu2]
      cases d <;> simp_all
    · cases hv
  case extract t i =>
    cases hx : ρ t <;> (try simp only [hx, reduceCtorEq] at hv)
    simp [execOp, hx, Instr.extract, hv]
  case build t parts =>
    cases hb : P.built t (parts.map fun (i, x) => (i, ρ x)).toList with
    | none => rw [hb] at hv; cases hv
    | some cells =>
      rw [hb] at hv
      simp only [Option.map_some, Option.some.injEq] at hv; subst hv
      simp only [execOp, Sem.run_bind, run_build w t _ cells hb, Result.andThen_ok, Sem.run_pure]
  case makeFunc fn first captured =>
    simp only [Option.some.injEq] at hv; subst hv
    simp [execOp, Instr.makeFunc]
  case makeInterface t x =>
    split at hv
    · cases hv
    · rename_i d h1 hu
      simp only [Option.some.injEq] at hv; subst hv
      simp only [execOp, Instr.makeInterface, Sem.run_bind, run_underlying hu, Result.andThen_ok]
      cases d <;> first | (simp_all; done) | rfl
    · cases hv

/-! ### 2. What is read -/
theorem Rel.cell {w : World} (r : Rel h w) {b : Nat} {cs : Array Value} {e : TypeId} {fz : Nat × Nat} (hb : h b = some (.cells cs e fz)) (j : Nat) : w.cell? ⟨b, j, none⟩ = cs[j]? := by
  have := r b _ hb
  simp [World.cell?, this]
/-- A load of one cell. -/
theorem r_load1 {t : TypeId} {x : Operand} {b off : Nat} {cs : Array Value} {e : TypeId} {fz : Nat × Nat} {v : Value} {d : TypeDesc} (ho : o.op = .load t x) (hu : P.underlying t = some d) (hd : (match d with | .struct _ | .array _ _ => false | _ => true) = true)
    (hx : ρ x = .pointer (some ⟨b, off, none⟩)) (hb : h b = some (.cells cs e fz)) (hc : cs[off]? = some v) : ReadOp P o ρ h v := by
  intro w r
  have hcell := (r.cell hb off).trans hc
  cases d <;> first | (simp at hd; done) | simp [execOp, ho, Instr.loadAt, loadVar, isAgg, run_underlying hu, Instr.sureAddr, hx, load, Sem.run, hcell]
/-- A load of a struct or an array. -/
theorem r_loadN {t : TypeId} {x : Operand} {b off : Nat} {cs : Array Value} {e : TypeId} {fz : Nat × Nat} {d : TypeDesc} (ho : o.op = .load t x) (hu : P.underlying t = some d) (hd : (match d with | .struct _ | .array _ _ => true | _ => false) = true)
    (hx : ρ x = .pointer (some ⟨b, off, none⟩)) (hb : h b = some (.cells cs e fz)) {n : Nat} (hn : P.cellsOf t = n) (hc : off + n ≤ cs.size) : ReadOp P o ρ h (.agg (cs.extract off (off + n))) := by
  intro w r
  subst hn
  have hl : (loadCells ⟨b, off, none⟩ (P.cellsOf t)).run P w = .ok (cs.extract off (off + P.cellsOf t)) w := by
    have hs : (cs.extract off (off + P.cellsOf t)).toList.length = P.cellsOf t := by simp; omega
    have := run_loadCells_list (P := P) (w := w) ⟨b, off, none⟩ (cs.extract off (off + P.cellsOf t)).toList (fun j v hj => by
      have ha : (Addr.mk b off none).add j = ⟨b, off + j, none⟩ := by unfold Addr.add; split <;> simp_all
      rw [ha, r.cell hb]
      rw [Array.getElem?_toList, Array.getElem?_extract] at hj
      split at hj
      · exact hj
      · cases hj)
    rw [hs, Array.toArray_toList] at this
    exact this
  cases d <;> first | (simp at hd; done) | simp [execOp, ho, Instr.loadAt, loadVar, isAgg, run_underlying hu, Instr.sureAddr, hx, run_cellsOf _ _ (info_of_underlying hu), hl]
/-- An element's address in a slice. -/
theorem p_indexAddr {t e : TypeId} {x ix : Operand} {b off n c : Nat} {k : IntKind} {i : Int} {sz : Nat} (ho : o.op = .indexAddr t x ix) (hu : P.underlying t = some (.slice e)) (hs : P.cellsOf e = sz) (he : (P.info? e).isSome = true)
    (hx : ρ x = .slice (some ⟨b, off, none⟩) n c) (hi : ρ ix = .int k i) (h0 : 0 ≤ i) (h1 : i < n) : PureOp P o ρ (.pointer (some ⟨b, off + i.toNat * sz, none⟩)) := by
  intro w
  subst hs
  have ha : (Addr.mk b off none).add (i.toNat * P.cellsOf e) = ⟨b, off + i.toNat * P.cellsOf e, none⟩ := by unfold Addr.add; split <;> simp_all
  have hc : 0 ≤ i ∧ i < n := ⟨h0, h1⟩
  simp [execOp, ho, Instr.indexAt, hi, asIntOf, run_underlying hu, hx, hc, run_cellsOf _ _ he, ha]
/-- An element's address in an array. -/
theorem p_indexAddrA {t e : TypeId} {x ix : Operand} {b off n : Nat} {k : IntKind} {i : Int} {sz : Nat} (ho : o.op = .indexAddr t x ix) (hu : P.underlying t = some (.array n e)) (hs : P.cellsOf e = sz) (he : (P.info? e).isSome = true)
    (hx : ρ x = .pointer (some ⟨b, off, none⟩)) (hi : ρ ix = .int k i) (h0 : 0 ≤ i) (h1 : i < n) : PureOp P o ρ (.pointer (some ⟨b, off + i.toNat * sz, none⟩)) := by
  intro w
  subst hs
  have ha : (Addr.mk b off none).add (i.toNat * P.cellsOf e) = ⟨b, off + i.toNat * P.cellsOf e, none⟩ := by unfold Addr.add; split <;> simp_all
  have hc : 0 ≤ i ∧ i < n := ⟨h0, h1⟩
  simp [execOp, ho, Instr.indexAt, hi, asIntOf, run_underlying hu, hx, hc, run_cellsOf _ _ he, ha, Instr.sureAddr]
theorem r_len_slice {x : Operand} {t e : TypeId} {a : Option Addr} {n c : Nat} (ho : o.op = .call ⟨.builtin .len, #[x], #[t]⟩) (hu : P.underlying t = some (.slice e)) (hx : ρ x = .slice a n c) :
    ReadOp P o ρ h (.int .i64 n) := by
  intro w r
  simp [execOp, ho, resolve, invoke, builtin, Builtin.len_, hx, run_underlying hu, goInt]
theorem r_len_string {x : Operand} {t : TypeId} {s : ByteArray} (ho : o.op = .call ⟨.builtin .len, #[x], #[t]⟩) (hu : P.underlying t = some .string) (hx : ρ x = .string s) :
    ReadOp P o ρ h (.int .i64 s.size) := by
  intro w r
  simp [execOp, ho, resolve, invoke, builtin, Builtin.len_, hx, run_underlying hu, goInt]
theorem r_len_map {x : Operand} {t k e : TypeId} {b : Nat} {es : Array MapEntry} {cl : Nat} (ho : o.op = .call ⟨.builtin .len, #[x], #[t]⟩) (hu : P.underlying t = some (.map k e)) (hx : ρ x = .map (some b)) (hb : h b = some (.map es cl)) :
    ReadOp P o ρ h (.int .i64 es.size) := by
  intro w r
  have := r b _ hb
  simp [execOp, ho, resolve, invoke, builtin, Builtin.len_, hx, run_underlying hu, goInt, getObj, Sem.run, this]
theorem r_len_map_nil {x : Operand} {t k e : TypeId} (ho : o.op = .call ⟨.builtin .len, #[x], #[t]⟩) (hu : P.underlying t = some (.map k e)) (hx : ρ x = .map none) : ReadOp P o ρ h (.int .i64 0) := by
  intro w r
  simp [execOp, ho, resolve, invoke, builtin, Builtin.len_, hx, run_underlying hu, goInt]
theorem r_min2 {x y : Operand} {tys : Array TypeId} {k : IntKind} {a b : Int} (ho : o.op = .call ⟨.builtin .min, #[x, y], tys⟩) (hx : ρ x = .int k a) (hy : ρ y = .int k b) : ReadOp P o ρ h (.int k (if b < a then b else a)) := by
  intro w r
  simp [execOp, ho, resolve, invoke, builtin, Builtin.min_, hx, hy, Builtin.min2]
theorem r_max2 {x y : Operand} {tys : Array TypeId} {k : IntKind} {a b : Int} (ho : o.op = .call ⟨.builtin .max, #[x, y], tys⟩) (hx : ρ x = .int k a) (hy : ρ y = .int k b) : ReadOp P o ρ h (.int k (if b > a then b else a)) := by
  intro w r
  simp [execOp, ho, resolve, invoke, builtin, Builtin.max_, hx, hy, Builtin.max2]
theorem r_nilcheck {x : Operand} {a : Addr} (ho : o.op = .nilCheck x) (hx : ρ x = .pointer (some a)) : ReadOp P o ρ h (.pointer (some a)) := by
  intro w r
  simp [execOp, ho, hx]
theorem r_convert_int {s d : TypeId} {x : Operand} {k k' : IntKind} {n : Int} {sd : TypeDesc} (ho : o.op = .convert s d x) (hs : P.underlying s = some sd) (hd : P.underlying d = some (.int k)) (hx : ρ x = .int k' n) (hsd : (match sd with | .int _ => true | _ => false) = true) :
    ReadOp P o ρ h (.int k (k.wrap n)) := by
  intro w r
  cases sd <;> first | (simp at hsd; done) | simp [execOp, ho, convert, run_underlying hs, run_underlying hd, hx, Conv.intToInt]

/-! ### 3. What lays a block -/
theorem a_box {t : TypeId} {x : Operand} (ho : o.op = .box t x) : AllocOp P o ρ (.cells (ρ x).cells t) (fun b => .pointer (some ⟨b, 0, none⟩)) := by
  intro w
  simp [execOp, ho, Instr.box, newVar, newRow, newObj, Sem.run]
theorem a_alloc {t : TypeId} {i : TypeInfo} {z : Value} (ho : o.op = .alloc t) (hi : P.info? t = some i) (hz : i.zero = some z) : AllocOp P o ρ (.cells z.cells t) (fun b => .pointer (some ⟨b, 0, none⟩)) := by
  intro w
  simp [execOp, ho, Instr.alloc, newVar, newRow, newObj, Sem.run, zeroValue, typeInfo, hi, hz]
theorem a_makeMap {t : TypeId} (ho : o.op = .makeMap t none) : AllocOp P o ρ (.map #[] 0) (fun b => .map (some b)) := by
  intro w
  simp [execOp, ho, Instr.makeMap, newObj, Sem.run]
def sliceLit (P : Program) (e len : Nat) (parts : List (Nat × Value)) : Option (Array Value) :=
  match P.info? e with
  | some i => match i.zero with
    | some z => Instr.fill (fun j => some (j * i.size, i.size)) ((Array.range (len * i.size)).map (fun j => z.cells[j % z.cells.size]!)) parts
    | none => none
  | none => none
theorem a_buildSlice {t e len : Nat} {parts : Array (Nat × Operand)} {cells : Array Value} (ho : o.op = .buildSlice t len parts) (hu : P.underlying t = some (.slice e))
    (hc : sliceLit P e len (parts.map fun (i, x) => (i, ρ x)).toList = some cells) (hn : len * P.cellsOf e ≤ 16777216) (hz : len * P.cellsOf e ≠ 0) : AllocOp P o ρ (.cells cells e) (fun b => .slice (some ⟨b, 0, none⟩) len len) := by
  intro w
  unfold sliceLit at hc
  cases hi : P.info? e with
  | none => rw [hi] at hc; cases hc
  | some i =>
    simp only [hi] at hc
    cases hzz : i.zero with
    | none => rw [hzz] at hc; cases hc
    | some z =>
      simp only [hzz] at hc
      have hcell : P.cellsOf e = i.size := by simp [Program.cellsOf, hi]
      rw [hcell] at hn hz
      have hn' : ¬ (len * i.size > 2 ^ 24) := by omega
      have hc' : Instr.fill (fun j => some (j * i.size, i.size)) ((Array.range (len * i.size)).map (fun j => z.cells[j % z.cells.size]!)) (parts.map fun (i, x) => (i, ρ x)).toList = some cells := hc
      simp only [execOp, ho, Instr.buildSlice, Sem.run_bind, run_underlying hu, Result.andThen_ok, sizeOf, typeInfo, program, Sem.run, hi, Sem.run_pure, if_neg hn', Sem.run_ite, if_neg hz, zeroValue, hzz]
      simp only [hc', Sem.run_bind, newRow, newObj, Sem.run, Result.andThen_ok, Sem.run_pure]
      rfl
theorem AllocOp.sop {obj : Obj} {vf : Nat → Value} {K : Value → Heap → Prop} (p : AllocOp P o ρ obj vf) (k : ∀ b, h b = none → K (vf b) (h.set b obj)) : SOp P o ρ h K := by
  intro w r
  have hn : h w.heap.size = none := by
    cases e : h w.heap.size with
    | none => rfl
    | some o => have := r.lt e; omega
  refine .inl ⟨_, _, _, .inl (p w), k _ hn, ?_, ?_⟩
  · intro b o' e
    by_cases hb : b = w.heap.size
    · subst hb; rw [Heap.set_same] at e; rw [heap_alloc_new]; exact e
    · rw [Heap.set_other _ _ hb] at e; rw [heap_alloc _ _ _ (r.lt e)]; exact r b o' e
  · refine ⟨rfl, rfl, rfl, by rw [size_alloc]; omega, fun b hb _ => heap_alloc _ _ _ hb, fun b h1 h2 => ?_⟩
    by_cases hb : b = w.heap.size
    · omega
    · rw [Heap.set_other _ _ hb] at h2; exact absurd h1 h2
end
end Go.Proofs.Ytielfejpnkcjbaa.Sl
