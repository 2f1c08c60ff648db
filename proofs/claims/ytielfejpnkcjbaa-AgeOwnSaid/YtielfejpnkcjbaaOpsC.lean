/- The rules for single operations (third part): cuts, stores, calls, append. -/
import Derived.Test.YtielfejpnkcjbaaOpsB
import Derived.Deep.Upon
set_option linter.unusedVariables false
set_option linter.unusedSimpArgs false
namespace Go.Proofs.Ytielfejpnkcjbaa.Sl
section
variable {P : Program} {o : Oper} {ρ : Operand → Value} {h : Heap} {K : Value → Heap → Prop}
/-! ### 1. Cuts -/
theorem p_slice_hi {t e : TypeId} {x hi : Operand} {a : Option Addr} {n c j : Nat} {k : IntKind} (ho : o.op = .slice t x none (some hi) none) (hu : P.underlying t = some (.slice e)) (he : (P.info? e).isSome = true) (hx : ρ x = .slice a n c) (hh : ρ hi = .int k (j : Int)) (hj : j ≤ c) :
    PureOp P o ρ (.slice a j c) := by
  intro w
  have h1 : (0 : Int) ≤ (j : Int) ∧ (j : Int) ≤ (c : Int) := by omega
  have ha : Option.map (fun x : Addr => x.add 0) a = a := by cases a <;> simp [Addr.add]
  have hj' : ¬ c < j := by omega
  simp [execOp, ho, Instr.sliceAt, Instr.slice, Instr.sliceBounds, Instr.sliceBound, run_underlying hu, hx, hh, asIntOf, h1, hj', run_cellsOf _ _ he, ha]
theorem p_slice_lo {t e : TypeId} {x lo : Operand} {b off n c j : Nat} {k : IntKind} {sz : Nat} (ho : o.op = .slice t x (some lo) none none) (hu : P.underlying t = some (.slice e)) (he : (P.info? e).isSome = true) (hs : P.cellsOf e = sz) (hx : ρ x = .slice (some ⟨b, off, none⟩) n c) (hh : ρ lo = .int k (j : Int)) (hj : j ≤ n) :
    PureOp P o ρ (.slice (some ⟨b, if c = j then off else off + j * sz, none⟩) (n - j) (c - j)) := by
  intro w
  subst hs
  have h1 : (0 : Int) ≤ (j : Int) ∧ (j : Int) ≤ (n : Int) := by omega
  have ha : (Addr.mk b off none).add (j * P.cellsOf e) = ⟨b, off + j * P.cellsOf e, none⟩ := by unfold Addr.add; split <;> simp_all
  have hj' : ¬ n < j := by omega
  by_cases hcj : c = j
  · simp [execOp, ho, Instr.sliceAt, Instr.slice, Instr.sliceBounds, Instr.sliceBound, run_underlying hu, hx, hh, asIntOf, h1, hj', run_cellsOf _ _ he, ha, hcj]
  · simp [execOp, ho, Instr.sliceAt, Instr.slice, Instr.sliceBounds, Instr.sliceBound, run_underlying hu, hx, hh, asIntOf, h1, hj', run_cellsOf _ _ he, ha, hcj]
theorem p_slice_000 {t e : TypeId} {x hi mx : Operand} {a : Option Addr} {n c : Nat} {k k' : IntKind} (ho : o.op = .slice t x none (some hi) (some mx)) (hu : P.underlying t = some (.slice e)) (he : (P.info? e).isSome = true) (hx : ρ x = .slice a n c) (hh : ρ hi = .int k 0) (hm : ρ mx = .int k' 0) :
    PureOp P o ρ (.slice a 0 0) := by
  intro w
  simp [execOp, ho, Instr.sliceAt, Instr.slice, Instr.sliceBounds, Instr.sliceBound, run_underlying hu, hx, hh, hm, asIntOf, run_cellsOf _ _ he]

/-! ### 2. Stores -/
theorem Rel.setRow {w : World} (r : Rel h w) {b : Nat} {cs cs' : Array Value} {e : TypeId} {fz : Nat × Nat} (hb : h b = some (.cells cs e fz)) : Rel (h.set b (.cells cs' e fz)) (w.setRow b cs') := by
  intro k o' e'
  by_cases hk : k = b
  · subst hk; rw [Heap.set_same] at e'; cases e'; exact setRow_heap w k cs cs' e fz (r k _ hb)
  · rw [Heap.set_other _ _ hk] at e'; rw [setRow_other w b k cs' hk]; exact r k o' e'
theorem Step.setRow {w : World} (r : Rel h w) {b : Nat} {cs cs' : Array Value} {e : TypeId} {fz : Nat × Nat} (hb : h b = some (.cells cs e fz)) : Step h (h.set b (.cells cs' e fz)) w (w.setRow b cs') := by
  refine ⟨rfl, rfl, rfl, by simp, fun k hk hn => ?_, fun k h1 h2 => ?_⟩
  · have : k ≠ b := fun e1 => by rw [e1, hb] at hn; cases hn
    exact setRow_other w b k cs' this
  · by_cases hk : k = b
    · rw [hk, hb] at h1; cases h1
    · rw [Heap.set_other _ _ hk] at h2; exact absurd h1 h2
theorem s_store1 {t : TypeId} {x y : Operand} {b off : Nat} {cs : Array Value} {e : TypeId} {v : Value} (ho : o.op = .store t x y) (hx : ρ x = .pointer (some ⟨b, off, none⟩)) (hy : ρ y = v) (h1 : v.oneCell' = true) (ht : P.cellsOf t = 1) (hi : (P.info? t).isSome = true)
    (hb : h b = some (.cells cs e (0, 0))) (hc : off < cs.size) (k : K undef (h.set b (.cells (cs.setIfInBounds off v) e (0, 0)))) : SOp P o ρ h K := by
  intro w r
  have hv : v.cells = #[v] := by cases v <;> simp [Value.oneCell'] at h1 <;> rfl
  have hst := run_storeCells_at (P := P) b off e [v] 0 cs w (r b _ hb) (by simp; omega) (by simpa using h1)
  have hcs : (cs.toList.take (off + 0) ++ [v] ++ cs.toList.drop (off + 0 + [v].length)).toArray = cs.setIfInBounds off v := by
    apply Array.ext'
    simp only [Array.toList_setIfInBounds, Nat.add_zero, List.length_singleton]
    rw [List.set_eq_take_append_cons_drop]
    simp [hc]
  rw [hcs] at hst
  refine .inl ⟨undef, _, _, .inr ⟨rfl, ?_⟩, k, r.setRow hb, Step.setRow r hb⟩
  simp only [execOp, ho, Instr.storeAt, Sem.run_bind, Instr.sureAddr, hx, Sem.run_pure, Result.andThen_ok, storeVar, run_cellsOf _ _ hi, ht, hy, hv]
  simp [hst]
def splice (cs : Array Value) (off : Nat) (vs : List Value) : Array Value := (cs.toList.take off ++ vs ++ cs.toList.drop (off + vs.length)).toArray
theorem s_storeN {t : TypeId} {x y : Operand} {b off : Nat} {cs : Array Value} {e : TypeId} {vs : Array Value} {n : Nat} (ho : o.op = .store t x y) (hx : ρ x = .pointer (some ⟨b, off, none⟩)) (hy : ρ y = .agg vs) (h1 : vs.all (·.oneCell') = true) (ht : P.cellsOf t = n) (hn : vs.size = n) (hi : (P.info? t).isSome = true)
    (hb : h b = some (.cells cs e (0, 0))) (hc : off + n ≤ cs.size) (k : K undef (h.set b (.cells (splice cs off vs.toList) e (0, 0)))) : SOp P o ρ h K := by
  intro w r
  subst hn
  have hst := run_storeCells_at (P := P) b off e vs.toList 0 cs w (r b _ hb) (by simp; omega) (by intro v hv; exact Array.all_eq_true_iff_forall_mem.1 h1 v (by simpa using hv))
  refine .inl ⟨undef, _, _, .inr ⟨rfl, ?_⟩, k, r.setRow hb, Step.setRow r hb⟩
  simp only [execOp, ho, Instr.storeAt, Sem.run_bind, Instr.sureAddr, hx, Sem.run_pure, Result.andThen_ok, storeVar, run_cellsOf _ _ hi, ht, hy, Value.cells]
  simp only [Nat.add_zero] at hst
  simp [hst, splice]

/-! ### 3. Calls -/
theorem s_call {f : FuncId} {fn : Func} {args : Array Operand} {vs : Array Value} {tys : Array TypeId} (ho : o.op = .call ⟨.value (.func f), args, tys⟩) (hr : ρ (.func f) = .func (.func f) #[] #[]) (hf : P.funcs[f]? = some fn) (hn : (fn.name == "runtime.NumGoroutine") = false) (hb : fn.body.isNone = false)
    (ha : args.map ρ = vs) (c : SCalls P f vs h K) : SOp P o ρ h K := by
  intro w r
  subst ha
  refine .inr ⟨f, args.map ρ, w, ?_, rfl, rfl, rfl, rfl, c⟩
  have hn' : fn.name ≠ "runtime.NumGoroutine" := by simpa using hn
  have hb' : fn.body ≠ none := by intro e; rw [e] at hb; cases hb
  simp [execOp, ho, resolve, hr, Deferred.ofValue, invoke, callFunc, program, Sem.run, hf, hn', hb']
theorem s_callv {f : FuncId} {fn : Func} {x : Operand} {first captured : Array Value} {args : Array Operand} {vs : Array Value} {tys : Array TypeId} (ho : o.op = .call ⟨.value x, args, tys⟩) (hr : ρ x = .func (.func f) first captured) (hf : P.funcs[f]? = some fn) (hn : (fn.name == "runtime.NumGoroutine") = false) (hb : fn.body.isNone = false)
    (ha : first ++ args.map ρ ++ captured = vs) (c : SCalls P f vs h K) : SOp P o ρ h K := by
  intro w r
  subst ha
  refine .inr ⟨f, first ++ args.map ρ ++ captured, w, ?_, rfl, rfl, rfl, rfl, c⟩
  have hn' : fn.name ≠ "runtime.NumGoroutine" := by simpa using hn
  have hb' : fn.body ≠ none := by intro e; rw [e] at hb; cases hb
  simp [execOp, ho, resolve, hr, Deferred.ofValue, invoke, callFunc, program, Sem.run, hf, hn', hb']

/-! ### 4. Append -/
/-- The cells of a slice that is read. -/
inductive Cells (h : Heap) (sz : Nat) : Value → Nat → List Value → Prop where
  | zero (a : Option Addr) (c : Nat) : Cells h sz (.slice a 0 c) 0 []
  | at_ {b off n c : Nat} {full : Array Value} {e : TypeId} {fz : Nat × Nat} {cs : List Value} (hb : h b = some (.cells full e fz)) (hl : cs.length = n * sz) (hnc : n ≤ c) (hc : (full.toList.drop off).take (n * sz) = cs) : Cells h sz (.slice (some ⟨b, off, none⟩) n c) n cs
/-- A slice of the call's own that may be appended to. -/
inductive Own (h : Heap) (e : TypeId) (sz : Nat) : Value → Nat → List Value → Prop where
  | nil : Own h e sz (.slice none 0 0) 0 []
  | at_ {b n c : Nat} {full : Array Value} {cs : List Value} (hb : h b = some (.cells full e (0, 0))) (hl : cs.length = n * sz) (hnc : n ≤ c) (hcap : c * sz ≤ full.size) (hc : full.toList.take (n * sz) = cs) : Own h e sz (.slice (some ⟨b, 0, none⟩) n c) n cs
theorem Cells.nil {sz : Nat} : Cells h sz (.slice none 0 0) 0 [] := .zero none 0
theorem Own.cells {e : TypeId} {sz n : Nat} {v : Value} {cs : List Value} (x : Own h e sz v n cs) : Cells h sz v n cs := by
  cases x with
  | nil => exact .nil
  | at_ hb hl hnc hcap hc => exact .at_ hb hl hnc (by simpa using hc)
theorem Cells.le {h' : Heap} {sz n : Nat} {v : Value} {cs : List Value} (x : Cells h sz v n cs) (l : h.le h') : Cells h' sz v n cs := by
  cases x with
  | zero a c => exact .zero a c
  | at_ hb hl hnc hc => exact .at_ (l _ _ hb) hl hnc hc
theorem Own.le {h' : Heap} {e : TypeId} {sz n : Nat} {v : Value} {cs : List Value} (x : Own h e sz v n cs) (l : h.le h') : Own h' e sz v n cs := by
  cases x with
  | nil => exact .nil
  | at_ hb hl hnc hcap hc => exact .at_ (l _ _ hb) hl hnc hcap hc
def blockOf : Value → Option Nat
  | .slice (some a) _ _ => some a.block
  | _ => none
theorem Cells.src {w : World} (r : Rel h w) {sz n : Nat} {v : Value} {cs : List Value} (x : Cells h sz v n cs) (h1 : ∀ u ∈ cs, u.oneCell' = true) {tx e' : TypeId} (hk : P.underlying tx = some (.slice e')) : Src P sz tx v n cs w := by
  cases x with
  | zero a c => cases a with
    | none => exact Src.ofNil w hk c
    | some a => exact Src.ofSlice w hk a 0 c [] (by simp) (by intro j u hj; simp at hj) h1
  | @at_ b off n c full e fz cs hb hl hnc hc =>
    refine Src.ofSlice w hk _ _ _ _ hl ?_ h1
    intro j u hj
    have ha : (Addr.mk b off none).add j = ⟨b, off + j, none⟩ := by unfold Addr.add; split <;> simp_all
    rw [ha, r.cell hb]
    rw [← hc] at hj
    have hlt : j < n * sz := by
      rcases Nat.lt_or_ge j (n * sz) with h2 | h2
      · exact h2
      · rw [List.getElem?_eq_none (by simp; omega)] at hj; cases hj
    rw [List.getElem?_take_of_lt hlt, List.getElem?_drop] at hj
    simpa using hj
theorem Cells.first {w : World} (r : Rel h w) {sz n : Nat} {v : Value} {cs : List Value} (x : Cells h sz v n cs) : (Builtin.firstCells sz n v).run P w = .ok cs.toArray w := by
  cases x with
  | zero a c => cases a with
    | none => exact run_firstCells_none w sz 0 0 c
    | some a => exact run_firstCells_some w sz 0 a 0 c [] (by simp) (by intro j u hj; simp at hj)
  | @at_ b off n c full e fz cs hb hl hnc hc =>
    refine run_firstCells_some w sz n _ n c cs hl ?_
    intro j u hj
    have ha : (Addr.mk b off none).add j = ⟨b, off + j, none⟩ := by unfold Addr.add; split <;> simp_all
    rw [ha, r.cell hb]
    rw [← hc] at hj
    have hlt : j < n * sz := by
      rcases Nat.lt_or_ge j (n * sz) with h2 | h2
      · exact h2
      · rw [List.getElem?_eq_none (by simp; omega)] at hj; cases hj
    rw [List.getElem?_take_of_lt hlt, List.getElem?_drop] at hj
    simpa using hj
theorem Cells.len {sz n : Nat} {v : Value} {cs : List Value} (x : Cells h sz v n cs) : cs.length = n * sz := by
  cases x with
  | zero a c => simp
  | at_ hb hl hnc hc => exact hl
theorem size_zeroCells (z : Array Value) (n : Nat) : (Builtin.zeroCells z n).size = n * z.size := by simp [Builtin.zeroCells]
/-- What an append leaves. -/
structure Grew (h h' : Heap) (v v' : Value) : Prop where
  same : ∀ b o, h b = some o → some b ≠ blockOf v → h' b = some o
  blk : blockOf v' = blockOf v ∨ ∃ b, blockOf v' = some b ∧ h b = none
  new : ∀ b, h b = none → h' b ≠ none → blockOf v' = some b
/-- 'append' onto a slice of the call's own: it grows in its place, or lies in a new block. -/
theorem s_append0 {t tx e : TypeId} {x y : Operand} {i : TypeInfo} {z : Value} {v u : Value} {sz n m : Nat} {cs news : List Value}
    (ho : o.op = .call ⟨.builtin .append, #[x, y], #[t, tx]⟩) (ht : P.underlying t = some (.slice e)) {e' : TypeId} (htx : P.underlying tx = some (.slice e')) (hi : P.info? e = some i) (hz : i.zero = some z) (hsz : i.size = sz) (hz1 : z.cells.size = sz)
    (hx : ρ x = v) (hy : ρ y = u) (own : Own h e sz v n cs) (src : Cells h sz u m news) (h1 : ∀ u ∈ news, u.oneCell' = true) (hfit : (n + m) * i.bytes ≤ 140737488355328) (hfit2 : n + m ≤ 4611686018427387904)
    (k : ∀ v' h', Own h' e sz v' (n + m) (cs ++ news) → Grew h h' v v' → K v' h') : SOp P o ρ h K := by
  intro w r
  subst hsz
  have hsrc := src.src r h1 htx
  have hnl := src.len
  have hexec : ∀ r', (Builtin.append_ #[t, tx] o.type #[v, u]).run P w = r' → (execOp ρ o).run P w = r'.andThen fun a w' => .ok (.value a) w' := by
    intro r' e
    simp only [execOp, ho, resolve, Sem.run_bind, Sem.run_pure, Result.andThen_ok, invoke, builtin]
    simp [hx, hy, e]
  by_cases hm : m = 0
  · -- nothing is appended
    subst hm
    have hn0 : news = [] := List.eq_nil_of_length_eq_zero (by rw [hnl]; simp)
    subst hn0
    have hrun : (Builtin.append_ #[t, tx] o.type #[v, u]).run P w = .ok v w := by
      cases own with
      | nil => exact run_append_nothing w t tx o.type e i ht hi none 0 0 (Nat.le_refl _) u hsrc
      | @at_ b n c full cs hb hl hnc hcap hc => exact run_append_nothing w t tx o.type e i ht hi _ n c hnc u hsrc
    refine .inl ⟨v, w, h, .inl (by rw [hexec _ hrun]; rfl), k v h (by simpa using own) ⟨fun _ _ e _ => e, .inl rfl, fun b e1 e2 => absurd e1 e2⟩, r, Step.refl _ _⟩
  · -- it grows in a new block
    have grow : ∀ c, blockOf v = none ∨ True → (∃ a, v = .slice a n c) → c < n + m → ∃ v' w' h', (execOp ρ o).run P w = .ok (.value v') w' ∧ K v' h' ∧ Rel h' w' ∧ Step h h' w w' := by
      rintro c _ ⟨a, rfl⟩ hc
      have hold : (Builtin.firstCells i.size n (.slice a n c)).run P w.drew = .ok cs.toArray w.drew := own.cells.first (w := w.drew) r
      have hrun := run_append_grow_src (P := P) w t tx o.type e i z ht hi hz a n c cs hold u m news hsrc hc (by omega) (growslice_fits hc hfit)
      have hcapge : n + m ≤ grownCap w (n + m) c e := by unfold grownCap Question.cut; simp
      have hcl := own.cells.len
      refine ⟨_, _, h.set w.heap.size (.cells ((cs ++ news).toArray ++ Builtin.zeroCells z.cells (grownCap w (n + m) c e - (n + m))) e (0, 0)), by rw [hexec _ hrun]; rfl, ?_, ?_, ?_⟩
      · have hn : h w.heap.size = none := by
          cases e1 : h w.heap.size with
          | none => rfl
          | some o => have := r.lt e1; omega
        refine k _ _ (.at_ (Heap.set_same _ _ _) ?_ hcapge ?_ ?_) ⟨?_, .inr ⟨_, rfl, hn⟩, ?_⟩
        · simp [hcl, hnl, Nat.add_mul]
        · rw [Array.size_append, size_zeroCells, hz1]
          simp only [List.size_toArray, List.length_append, hcl, hnl]
          have : grownCap w (n + m) c e * i.size = (n + m) * i.size + (grownCap w (n + m) c e - (n + m)) * i.size := by
            rw [← Nat.add_mul]; congr 1; omega
          rw [this, Nat.add_mul]; exact Nat.le_refl _
        · have : (cs ++ news).length = (n + m) * i.size := by simp [hcl, hnl, Nat.add_mul]
          rw [Array.toList_append, ← this]
          exact List.take_left
        · intro b o' e1 _
          have : b ≠ w.heap.size := fun e2 => by have := r.lt e1; omega
          rw [Heap.set_other _ _ this]; exact e1
        · intro b e1 e2
          by_cases hb : b = w.heap.size
          · rw [hb]; rfl
          · rw [Heap.set_other _ _ hb] at e2; exact absurd e1 e2
      · intro b o' e1
        by_cases hb : b = w.heap.size
        · subst hb; rw [Heap.set_same] at e1; cases e1; exact heap_alloc_new w.drew _
        · rw [Heap.set_other _ _ hb] at e1
          exact (heap_alloc w.drew _ b (r.lt e1)).trans (r b o' e1)
      · refine ⟨rfl, rfl, rfl, by rw [size_alloc]; show w.heap.size ≤ w.heap.size + 1; omega, fun b hb _ => heap_alloc w.drew _ b hb, fun b e1 e2 => ?_⟩
        by_cases hb : b = w.heap.size
        · omega
        · rw [Heap.set_other _ _ hb] at e2; exact absurd e1 e2
    cases own with
    | nil =>
      obtain ⟨v', w', h', e1, e2, e3, e4⟩ := grow 0 (.inr trivial) ⟨_, rfl⟩ (by omega)
      exact .inl ⟨v', w', h', .inl e1, e2, e3, e4⟩
    | @at_ b n c full cs hb hl hnc hcap hc =>
      by_cases hroom : n + m ≤ c
      · -- there is room
        have hle : (n + m) * i.size ≤ c * i.size := Nat.mul_le_mul_right _ hroom
        rw [Nat.add_mul] at hle
        have hst := run_storeCells_at (P := P) b (0 + n * i.size) e news 0 full w (r b _ hb) (by rw [hnl]; omega) hsrc.one
        have ha : (Addr.mk b 0 none).add (n * i.size) = ⟨b, 0 + n * i.size, none⟩ := by unfold Addr.add; split <;> simp_all
        simp only [Nat.add_zero, Nat.zero_add] at hst ha
        have hrun : (Builtin.append_ #[t, tx] o.type #[.slice (some ⟨b, 0, none⟩) n c, u]).run P w = .ok (.slice (some ⟨b, 0, none⟩) (n + m) c) (w.setRow b (full.toList.take (n * i.size) ++ news ++ full.toList.drop (n * i.size + news.length)).toArray) := by
          simp [Builtin.append_, run_underlying ht, run_underlying htx, sizeOf, typeInfo, hi, hsrc.len, hsrc.cells, hroom, ha, hst]
        refine .inl ⟨_, _, _, .inl (by rw [hexec _ hrun]; rfl), k _ _ (.at_ (Heap.set_same _ _ _) ?_ hroom ?_ ?_) ⟨?_, .inl rfl, ?_⟩, r.setRow hb, Step.setRow r hb⟩
        · simp [hl, hnl, Nat.add_mul]
        · simp only [List.size_toArray, List.length_append, List.length_take, List.length_drop, Array.length_toList]
          omega
        · rw [hc]
          have : (cs ++ news).length = (n + m) * i.size := by simp [hl, hnl, Nat.add_mul]
          rw [← this]
          show List.take _ ((cs ++ news) ++ _) = _
          exact List.take_left
        · intro k' o' e1 e2
          have : k' ≠ b := fun e3 => e2 (by rw [e3]; rfl)
          rw [Heap.set_other _ _ this]; exact e1
        · intro k' e1 e2
          by_cases hk : k' = b
          · rw [hk, hb] at e1; cases e1
          · rw [Heap.set_other _ _ hk] at e2; exact absurd e1 e2
      · obtain ⟨v', w', h', e1, e2, e3, e4⟩ := grow c (.inr trivial) ⟨_, rfl⟩ (by omega)
        exact .inl ⟨v', w', h', .inl e1, e2, e3, e4⟩
/-- What is to be known of an element's type. -/
def infoOk (P : Program) (e sz : Nat) : Bool := match P.info? e with
  | some i => match i.zero with
    | some z => i.size == sz && z.cells.size == sz && decide (i.bytes ≤ 4096)
    | none => false
  | none => false
theorem infoOk_spec {e sz : Nat} (h : infoOk P e sz = true) : ∃ i z, P.info? e = some i ∧ i.zero = some z ∧ i.size = sz ∧ z.cells.size = sz ∧ i.bytes ≤ 4096 := by
  unfold infoOk at h
  split at h
  · rename_i i hi
    split at h
    · rename_i z hz
      simp only [Bool.and_eq_true, beq_iff_eq, decide_eq_true_eq] at h
      exact ⟨i, z, hi, hz, h.1.1, h.1.2, h.2⟩
    · cases h
  · cases h
theorem s_append {t tx e : TypeId} {x y : Operand} {v u : Value} {sz n m : Nat} {cs news : List Value}
    (ho : o.op = .call ⟨.builtin .append, #[x, y], #[t, tx]⟩) (ht : P.underlying t = some (.slice e)) {e' : TypeId} (htx : P.underlying tx = some (.slice e')) (hi : infoOk P e sz = true)
    (hx : ρ x = v) (hy : ρ y = u) (own : Own h e sz v n cs) (src : Cells h sz u m news) (h1 : ∀ u ∈ news, u.oneCell' = true) (hfit : n + m ≤ 34359738368)
    (k : ∀ v' h', Own h' e sz v' (n + m) (cs ++ news) → Grew h h' v v' → K v' h') : SOp P o ρ h K := by
  obtain ⟨i, z, hi, hz, hs, hz1, hb⟩ := infoOk_spec hi
  refine s_append0 ho ht htx hi hz hs hz1 hx hy own src h1 ?_ (by omega) k
  exact Nat.le_trans (Nat.mul_le_mul hfit hb) (by decide)
end
end Go.Proofs.Ytielfejpnkcjbaa.Sl
