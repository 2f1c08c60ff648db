/- A region that draws its order: whatever order its edges allow, it comes to what ONE order gives, if all that acts (allocates, writes, calls) is ordered among itself, and what only reads is read as early as may be. -/
import Derived.Test.YtielfejpnkcjbaaCore
set_option linter.unusedVariables false
set_option linter.unusedSimpArgs false
namespace Go.Proofs.Ytielfejpnkcjbaa.Sl

/-! ### 1. The edges -/
def preds (ops : Array Oper) (i : Nat) : List Nat := match ops[i]? with
  | some o => (o.after.toList.filter (Region.binds .any)).map (·.on)
  | none => []
inductive Anc (ops : Array Oper) : Nat → Nat → Prop where
  | one {i j : Nat} : j ∈ preds ops i → Anc ops i j
  | step {i k j : Nat} : k ∈ preds ops i → Anc ops k j → Anc ops i j
theorem Anc.closed {ops : Array Oper} {L : Nat → Prop} (hc : ∀ i j, L i → j ∈ preds ops i → L j) {i j : Nat} (h : Anc ops i j) (hi : L i) : L j := by
  induction h with
  | one h => exact hc _ _ hi h
  | step h _ ih => exact ih (hc _ _ hi h)
theorem Anc.ready {ops : Array Oper} {L : Nat → Prop} (hc : ∀ i j, L i → j ∈ preds ops i → L j) {i j : Nat} (h : Anc ops i j) (hp : ∀ k, k ∈ preds ops i → L k) : L j := by
  cases h with
  | one h => exact hp _ h
  | step h h2 => exact h2.closed hc (hp _ h)
def maskStep (acc : Array Nat) (s : Nat) (e : Edge) : Nat := if Region.binds .any e then s ||| 2 ^ e.on ||| acc.getD e.on 0 else s
theorem before_eq (ops : Array Oper) : Region.before ops = ops.toList.foldl (fun acc o => acc.push (o.after.toList.foldl (maskStep acc) 0)) #[] := by
  unfold Region.before
  rw [← Array.foldl_toList]
  congr 1
  funext acc o
  rw [← Array.foldl_toList]
  rfl
theorem mask_fold (acc : Array Nat) (l : List Edge) : ∀ (s j : Nat), (l.foldl (maskStep acc) s).testBit j = true →
    s.testBit j = true ∨ ∃ e, e ∈ l ∧ Region.binds .any e = true ∧ (e.on = j ∨ (acc.getD e.on 0).testBit j = true) := by
  induction l with
  | nil => intro s j h; exact .inl h
  | cons e l ih =>
    intro s j h
    simp only [List.foldl_cons] at h
    rcases ih _ _ h with h1 | ⟨e', he', h2⟩
    · unfold maskStep at h1
      cases hb : Region.binds .any e with
      | false => simp only [hb, Bool.false_eq_true, if_false] at h1; exact .inl h1
      | true =>
        simp only [hb, if_true, Nat.testBit_or, Bool.or_eq_true, Nat.testBit_two_pow, decide_eq_true_eq] at h1
        rcases h1 with (h1 | h1) | h1
        · exact .inl h1
        · exact .inr ⟨e, List.mem_cons_self, hb, .inl h1⟩
        · exact .inr ⟨e, List.mem_cons_self, hb, .inr h1⟩
    · exact .inr ⟨e', List.mem_cons_of_mem _ he', h2⟩
theorem before_anc (ops : Array Oper) (i j : Nat) (h : ((Region.before ops).getD i 0).testBit j = true) : Anc ops i j := by
  rw [before_eq] at h
  have key : ∀ (l pre : List Oper) (acc : Array Nat), ops.toList = pre ++ l → acc.size = pre.length →
      (∀ i j, (acc.getD i 0).testBit j = true → Anc ops i j) → ∀ i j, ((l.foldl (fun acc o => acc.push (o.after.toList.foldl (maskStep acc) 0)) acc).getD i 0).testBit j = true → Anc ops i j := by
    intro l
    induction l with
    | nil => intro pre acc _ _ ha i j h; exact ha i j h
    | cons o l ih =>
      intro pre acc hp hs ha
      simp only [List.foldl_cons]
      refine ih (pre ++ [o]) _ (by rw [hp]; simp) (by simp [hs]) ?_
      intro i j h
      by_cases hi : i = acc.size
      · subst hi
        have ho : ops[acc.size]? = some o := by
          rw [← Array.getElem?_toList, hp, hs]; simp
        have hx : (acc.push (o.after.toList.foldl (maskStep acc) 0)).getD acc.size 0 = o.after.toList.foldl (maskStep acc) 0 := by simp [Array.getD_eq_getD_getElem?]
        rw [hx] at h
        rcases mask_fold acc _ _ _ h with h1 | ⟨e, he, hb, h2⟩
        · simp at h1
        · have hm : e.on ∈ preds ops acc.size := by
            simp only [preds, ho]
            exact List.mem_map.2 ⟨e, List.mem_filter.2 ⟨he, hb⟩, rfl⟩
          rcases h2 with rfl | h2
          · exact .one hm
          · exact .step hm (ha _ _ h2)
      · refine ha i j ?_
        have hx : (acc.push (o.after.toList.foldl (maskStep acc) 0)).getD i 0 = acc.getD i 0 := by
          simp only [Array.getD_eq_getD_getElem?, Array.getElem?_push, hi, if_false]
        rw [hx] at h
        exact h
  exact key ops.toList [] #[] (by simp) rfl (fun i j h => by simp at h) i j h

/-! ### 2. Kinds of operations; the one order -/
def isAct : Op → Bool
  | .move _ | .assign _ | .pick .. | .load .. | .nilCheck _ | .binOp .. | .unOp .. | .convert .. | .makeInterface .. | .makeFunc .. | .slice .. | .fieldAddr .. | .field ..
  | .indexAddr .. | .index .. | .lookup .. | .typeAssert .. | .extract .. | .build .. | .waits _ | .sliceToArrayPointer .. => false
  | .call { callee := .builtin b, .. } => match b with
    | .len | .cap | .min | .max => false
    | _ => true
  | _ => true
def isRead : Op → Bool
  | .load .. | .lookup .. | .convert .. | .call .. | .waits _ | .nilCheck _ => true
  | _ => false
def PureOp (P : Program) (o : Oper) (ρ : Operand → Value) (v : Value) : Prop := ∀ w, (execOp ρ o).run P w = .ok (.value v) w
def ReadOp (P : Program) (o : Oper) (ρ : Operand → Value) (h : Heap) (v : Value) : Prop := ∀ w, Rel h w → (execOp ρ o).run P w = .ok (.value v) w
theorem PureOp.read {P : Program} {o : Oper} {ρ : Operand → Value} {v : Value} (p : PureOp P o ρ v) (h : Heap) : ReadOp P o ρ h v := fun w _ => p w
theorem ReadOp.le {P : Program} {o : Oper} {ρ : Operand → Value} {h h' : Heap} {v : Value} (p : ReadOp P o ρ h v) (l : h.le h') : ReadOp P o ρ h' v := fun w r => p w (r.le l)
theorem ReadOp.sop {P : Program} {o : Oper} {ρ : Operand → Value} {h : Heap} {v : Value} {K : Value → Heap → Prop} (p : ReadOp P o ρ h v) (k : K v h) : SOp P o ρ h K :=
  fun w r => .inl ⟨v, w, h, .inl (p w r), k, r, Step.refl _ _⟩
def opAt (ops : Array Oper) (i : Nat) : Oper := ops.getD i default
/-- An operation that lays one new block, whatever the world. -/
def AllocOp (P : Program) (o : Oper) (ρ : Operand → Value) (obj : Obj) (vf : Nat → Value) : Prop := ∀ w, (execOp ρ o).run P w = .ok (.value (vf w.heap.size)) (w.alloc obj)
/-- (i, true): operation i; (i, false): its operands are looked at (an allocation that is done at any time from then on, till its place has come). -/
abbrev Ent := Nat × Bool
abbrev Env := Nat → Obj × (Nat → Value)
def Env.put (E : Env) (i : Nat) (x : Obj × (Nat → Value)) : Env := fun j => if j = i then x else E j
/-- What a read leans on. -/
structure RdA where
  on : Heap → Prop
  mono : ∀ g g' : Heap, g.le g' → on g → on g'
/-- F: what has been read; E: what is being laid. -/
def sdraw (P : Program) (N : Nat) (ops : Array Oper) (pp loud : List Nat) (Q : Tm → Heap → Prop) : List Ent → Tm → Heap → List RdA → Env → Prop
  | [], T, h, _, _ => Q T h
  | (i, false) :: r, T, h, F, E => ∃ obj vf, AllocOp P (opAt ops i) (ev T) obj vf ∧ sdraw P N ops pp loud Q r T h F (E.put i (obj, vf))
  | (i, true) :: r, T, h, F, E =>
    if i ∈ pp then ∀ b, h b = none → sdraw P N ops pp loud Q r (put T (opAt ops i).dst ((E i).2 b)) (h.set b (E i).1) F E
    else if want ops T (opAt ops i) then
      if isAct (opAt ops i).op then
        if i ∈ loud then SOp P (opAt ops i) (ev T) h (fun v h' => sdraw P N ops pp loud Q r (put T (opAt ops i).dst v) h' [] E)
        else SOp P (opAt ops i) (ev T) h (fun v h' => (∀ A ∈ F, A.on h → A.on h') ∧ sdraw P N ops pp loud Q r (put T (opAt ops i).dst v) h' F E)
      else if isRead (opAt ops i).op then ∃ v A, A.on h ∧ (∀ g, A.on g → ReadOp P (opAt ops i) (ev T) g v) ∧ sdraw P N ops pp loud Q r (put T (opAt ops i).dst v) h (A :: F) E
      else ∃ v, PureOp P (opAt ops i) (ev T) v ∧ sdraw P N ops pp loud Q r (put T (opAt ops i).dst v) h F E
    else sdraw P N ops pp loud Q r (put T (opAt ops i).dst undef) h F E

/-- pairs (a, b), a ahead of b in a list, all pass -/
def pairs {α : Type} (p : α → α → Bool) : List α → Bool
  | [] => true
  | a :: r => r.all (p a) && pairs p r
theorem pairs_spec {α : Type} {p : α → α → Bool} : ∀ {l : List α}, pairs p l = true → ∀ (x y : List α) (b : α), l = x ++ b :: y → ∀ a ∈ x, p a b = true := by
  intro l
  induction l with
  | nil => intro _ x y b h a ha; simp at h
  | cons c r ih =>
    intro h x y b e a ha
    simp only [pairs, Bool.and_eq_true, List.all_eq_true] at h
    cases x with
    | nil => cases ha
    | cons d x =>
      simp only [List.cons_append, List.cons.injEq] at e
      obtain ⟨rfl, e⟩ := e
      rcases List.mem_cons.1 ha with rfl | ha
      · exact h.1 b (by rw [e]; simp)
      · exact ih h.2 x y b e a ha
def looksDst (ops : Array Oper) (i j : Nat) : Bool := match (opAt ops j).dst with
  | some t => ((opAt ops i).looksAt ops).contains t
  | none => false
/-- Does an entry look at its operation's operands? -/
def looksHere (pp : List Nat) (x : Ent) : Bool := x.2 != pp.contains x.1
/-- What the order and the edges have to be. -/
def drawOk (ops : Array Oper) (τ : List Ent) (pp loud : List Nat) : Bool :=
  let b := Region.before ops
  τ.all (fun x => x.1 < ops.size && (x.2 || pp.contains x.1)) && (List.range ops.size).all (fun i => τ.contains (i, true)) && Region.noSelect ops &&
  pp.all (fun i => τ.contains (i, false) && isAct (opAt ops i).op && (opAt ops i).guard.isNone) &&
  (List.range ops.size).all (fun i => (preds ops i).all (· < i)) &&
  pairs (fun j i => (opAt ops i).dst != (opAt ops j).dst || (opAt ops i).dst == none) (List.range ops.size) &&
  pairs (fun x y => x != y && !(x.1 == y.1 && x.2)) τ &&
  pairs (fun x y => !(x.2 && isAct (opAt ops x.1).op) || (y.2 && pp.contains y.1) || (b.getD y.1 0).testBit x.1) τ &&
  pairs (fun x y => !(x.2 && looksHere pp y && looksDst ops y.1 x.1) || (b.getD y.1 0).testBit x.1) τ &&
  pairs (fun x y => !(looksHere pp x && y.2 && looksDst ops x.1 y.1 && x.1 != y.1) || (b.getD y.1 0).testBit x.1) τ &&
  pairs (fun x y => !(x.2 && isRead (opAt ops x.1).op && !isAct (opAt ops x.1).op && y.2 && loud.contains y.1) || (b.getD y.1 0).testBit x.1) τ

/-! ### 3. Views -/
def writer (ops : Array Oper) (t : Nat) : Option Nat := (List.range ops.size).find? fun i => (opAt ops i).dst == some t
def view (ops : Array Oper) (T0 : Tm) (V : Nat → Value) (S : Nat → Bool) : Tm := fun t => match writer ops t with
  | some i => if S i then V i else T0 t
  | none => T0 t
theorem writer_spec {ops : Array Oper} {t i : Nat} (h : writer ops t = some i) : i < ops.size ∧ (opAt ops i).dst = some t := by
  have h1 := List.find?_some h
  have h2 := List.mem_of_find?_eq_some h
  exact ⟨List.mem_range.1 h2, by simpa using h1⟩
theorem writer_none {ops : Array Oper} {t i : Nat} (h : writer ops t = none) (hi : i < ops.size) : (opAt ops i).dst ≠ some t := by
  have := List.find?_eq_none.1 h i (List.mem_range.2 hi)
  simpa using this
theorem view_congr {ops : Array Oper} {T0 : Tm} {V V' : Nat → Value} {S S' : Nat → Bool} (hS : ∀ i, i < ops.size → S i = S' i) (hV : ∀ i, S i = true → V i = V' i) : view ops T0 V S = view ops T0 V' S' := by
  funext t
  unfold view
  cases h : writer ops t with
  | none => rfl
  | some i =>
    have := (writer_spec h).1
    simp only [← hS i this]
    cases hs : S i with
    | false => rfl
    | true => simp [hV i hs]
/-- One more operation has been done. -/
theorem view_put {ops : Array Oper} {T0 : Tm} {V : Nat → Value} {S S' : Nat → Bool} {i : Nat} (hi : i < ops.size) (hu : ∀ j, j < ops.size → j ≠ i → (opAt ops j).dst ≠ (opAt ops i).dst ∨ (opAt ops i).dst = none)
    (h1 : S' i = true) (h2 : ∀ j, j < ops.size → j ≠ i → S' j = S j) : view ops T0 V S' = put (view ops T0 V S) (opAt ops i).dst (V i) := by
  funext t
  cases hd : (opAt ops i).dst with
  | none =>
    simp only [put]
    unfold view
    cases h : writer ops t with
    | none => rfl
    | some j =>
      have hj := writer_spec h
      have hne : j ≠ i := fun e => by subst e; rw [hd] at hj; exact absurd hj.2 (by simp)
      simp only [h2 j hj.1 hne]
  | some d =>
    simp only [put, upd]
    by_cases ht : t = d
    · subst ht
      rw [if_pos rfl]
      unfold view
      cases h : writer ops t with
      | none => exact absurd hd (writer_none h hi)
      | some j =>
        have hj := writer_spec h
        by_cases hji : j = i
        · subst hji; simp [h1]
        · rcases hu j hj.1 hji with h3 | h3
          · exact absurd (hj.2.trans hd.symm) h3
          · rw [hd] at h3; cases h3
    · rw [if_neg ht]
      unfold view
      cases h : writer ops t with
      | none => rfl
      | some j =>
        have hj := writer_spec h
        have hne : j ≠ i := fun e => by subst e; rw [hd] at hj; have := hj.2; simp at this; exact ht this.symm
        simp only [h2 j hj.1 hne]
theorem ev_congr {ops : Array Oper} {T T' : Tm} {o : Oper} (hs : ∀ cs b, o.op ≠ .select cs b) (h : ∀ t ∈ o.looksAt ops, T t = T' t) : execOp (ev T) o = execOp (ev T') o :=
  execOp_congr o hs fun x hx => by
    cases x with
    | tmp t => exact h t (List.mem_append_left _ (List.mem_filterMap.2 ⟨.tmp t, by simpa using hx, rfl⟩))
    | _ => rfl
theorem want_congr {ops : Array Oper} {T T' : Tm} {o : Oper} (h : ∀ t ∈ o.looksAt ops, T t = T' t) : want ops T o = want ops T' o := by
  unfold want
  cases hg : o.guard with
  | none => rfl
  | some g =>
    obtain ⟨j, b⟩ := g
    simp only
    cases hj : (ops[j]?).bind (·.dst) with
    | none => rfl
    | some t => simp only [h t (by simp [Oper.looksAt, hg, hj])]
end Go.Proofs.Ytielfejpnkcjbaa.Sl
