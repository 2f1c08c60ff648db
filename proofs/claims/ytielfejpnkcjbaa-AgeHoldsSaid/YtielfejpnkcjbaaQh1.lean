import Derived.WalkKit
import Derived.Orders
import Derived.Laws.Tables
import Derived.Deep.AppendSrc
import Derived.Laws.CopyRow
import Derived.Laws.StructEq
/- A program logic over partial heaps: what is known of the heap is a partial map from blocks to objects; blocks that it does not name stay as they are. The rules for code: sequence, test, block, loop, region. -/
set_option linter.unusedVariables false
set_option linter.unusedSimpArgs false
namespace Go.Proofs.Ytielfejpnkcjbaa.Sl

/-! ### 1. Heaps -/
abbrev Heap := Nat → Option Obj
def Rel (h : Heap) (w : World) : Prop := ∀ b o, h b = some o → w.heap[b]? = some o
structure Step (h h' : Heap) (w w' : World) : Prop where
  os : w'.os = w.os
  tape : w'.tape = w.tape
  output : w'.output = w.output
  size : w.heap.size ≤ w'.heap.size
  keep : ∀ b, b < w.heap.size → h b = none → w'.heap[b]? = w.heap[b]?
  fresh : ∀ b, h b = none → h' b ≠ none → w.heap.size ≤ b
theorem Step.refl (h : Heap) (w : World) : Step h h w w := ⟨rfl, rfl, rfl, Nat.le_refl _, fun _ _ _ => rfl, fun b h1 h2 => absurd h1 h2⟩
theorem Step.trans {h h1 h2 : Heap} {w w1 w2 : World} (a : Step h h1 w w1) (b : Step h1 h2 w1 w2) : Step h h2 w w2 where
  os := b.os.trans a.os
  tape := b.tape.trans a.tape
  output := b.output.trans a.output
  size := Nat.le_trans a.size b.size
  keep := fun k hk hn => by
    have h1n : h1 k = none := by
      cases e : h1 k with
      | none => rfl
      | some o => have := a.fresh k hn (by rw [e]; simp); omega
    exact (b.keep k (Nat.lt_of_lt_of_le hk a.size) h1n).trans (a.keep k hk hn)
  fresh := fun k hn hs => by
    cases e : h1 k with
    | none => exact Nat.le_trans a.size (b.fresh k e hs)
    | some o => exact a.fresh k hn (by rw [e]; simp)
/-- The world has drawn; nothing else has turned. -/
theorem Step.drew {h h' : Heap} {w w' : World} (a : Step h h' w.drew w') : Step h h' w w' := ⟨a.os, a.tape, a.output, a.size, a.keep, a.fresh⟩
theorem Rel.drew {h : Heap} {w : World} (a : Rel h w) : Rel h w.drew := a
/-- h' knows all that h knows. -/
def Heap.le (h h' : Heap) : Prop := ∀ b o, h b = some o → h' b = some o
theorem Heap.le_refl (h : Heap) : h.le h := fun _ _ e => e
theorem Heap.le_trans {h h1 h2 : Heap} (a : h.le h1) (b : h1.le h2) : h.le h2 := fun k o e => b k o (a k o e)
theorem Rel.le {h h' : Heap} {w : World} (r : Rel h' w) (l : h.le h') : Rel h w := fun b o e => r b o (l b o e)
theorem Rel.lt {h : Heap} {w : World} (r : Rel h w) {b : Nat} {o : Obj} (e : h b = some o) : b < w.heap.size := by
  have := r b o e
  exact (Array.getElem?_eq_some_iff.1 this).1
def Heap.set (h : Heap) (b : Nat) (o : Obj) : Heap := fun k => if k = b then some o else h k
theorem Heap.set_same (h : Heap) (b : Nat) (o : Obj) : h.set b o b = some o := by simp [Heap.set]
theorem Heap.set_other (h : Heap) {b k : Nat} (o : Obj) (hk : k ≠ b) : h.set b o k = h k := by simp [Heap.set, hk]
theorem Heap.le_set {h : Heap} {b : Nat} (o : Obj) (hb : h b = none) : h.le (h.set b o) := fun k o' e => by
  have : k ≠ b := fun e' => by rw [e', hb] at e; cases e
  rw [Heap.set_other _ _ this]; exact e

theorem heap_alloc (w : World) (o : Obj) (k : Nat) (h : k < w.heap.size) : (w.alloc o).heap[k]? = w.heap[k]? := by
  show (w.heap.push o)[k]? = _
  rw [Array.getElem?_push, if_neg (by omega)]
theorem heap_alloc_new (w : World) (o : Obj) : (w.alloc o).heap[w.heap.size]? = some o := by
  show (w.heap.push o)[w.heap.size]? = _
  rw [Array.getElem?_push, if_pos rfl]
theorem size_alloc (w : World) (o : Obj) : (w.alloc o).heap.size = w.heap.size + 1 := by
  show (w.heap.push o).size = _
  rw [Array.size_push]

/-! ### 2. Frames -/
abbrev Tm := Nat → Value
def upd (T : Tm) (d : Nat) (v : Value) : Tm := fun t => if t = d then v else T t
def put (T : Tm) (d : Option Nat) (v : Value) : Tm := match d with | some d => upd T d v | none => T
def ev (T : Tm) : Operand → Value
  | .tmp t => T t
  | .const v => v
  | .global g => .pointer (some ⟨g, 0, none⟩)
  | .func f => .func (.func f) #[] #[]
structure Reads (N : Nat) (T : Tm) (a : Act) : Prop where
  size : a.tmps.size = N
  at_ : ∀ t, t < N → a.tmps[t]? = some (T t)
  out : ∀ t, N ≤ t → T t = undef
  defers : a.defers = []
theorem Reads.eval {N : Nat} {T : Tm} {a : Act} (r : Reads N T a) : a.eval = ev T := by
  funext x
  cases x with
  | tmp t =>
    simp only [Act.eval, ev]
    by_cases h : t < N
    · rw [Array.getD_eq_getD_getElem?, r.at_ t h]; rfl
    · have h' : N ≤ t := Nat.le_of_not_lt h
      rw [Array.getD_eq_getD_getElem?, Array.getElem?_eq_none (r.size ▸ h'), r.out t h']; rfl
  | _ => rfl
theorem Reads.put {N : Nat} {T : Tm} {a : Act} (r : Reads N T a) (d : Option Nat) (hd : ∀ t, d = some t → t < N) (v : Value) : Reads N (put T d v) (a.put d v) := by
  cases d with
  | none => exact r
  | some d =>
    have hdN := hd d rfl
    refine ⟨by simpa [Act.put] using r.size, fun t ht => ?_, fun t ht => ?_, r.defers⟩
    · simp only [Act.put, Sl.put, upd]
      by_cases e : t = d
      · subst e; simp [Array.getElem?_setIfInBounds, r.size, hdN]
      · rw [Array.getElem?_setIfInBounds_ne (fun e' => e e'.symm), if_neg e]; exact r.at_ t ht
    · simp only [Sl.put, upd]
      rw [if_neg (by omega)]; exact r.out t ht
/-- The guard of an operation, by the slots. -/
def want (ops : Array Oper) (T : Tm) (o : Oper) : Bool :=
  match o.guard with
  | none => true
  | some (j, b) => match ((ops[j]?).bind (·.dst)) with
    | some t => match T t with
      | .bool x => x == b
      | _ => false
    | none => false
theorem Reads.want {N : Nat} {T : Tm} {a : Act} (r : Reads N T a) (ops : Array Oper) (o : Oper) : Region.wanted o (yielded ops a.tmps) = want ops T o := by
  unfold Region.wanted Sl.want
  cases o.guard with
  | none => rfl
  | some g =>
    obtain ⟨j, b⟩ := g
    simp only [yielded]
    cases h : (ops[j]?).bind (·.dst) with
    | none => simp
    | some t =>
      simp only [Option.bind_some]
      by_cases ht : t < N
      · rw [r.at_ t ht]
        cases T t <;> simp
      · have h' : N ≤ t := Nat.le_of_not_lt ht
        rw [Array.getElem?_eq_none (r.size ▸ h'), r.out t h']; simp [undef]

/-! ### 3. Calls, operations -/
def SCalls (P : Program) (f : FuncId) (args : Array Value) (h : Heap) (R : Value → Heap → Prop) : Prop :=
  ∀ w, Rel h w → Calls P f args w fun e w' => ∃ v h', e = .returned v ∧ R v h' ∧ Rel h' w' ∧ Step h h' w w'
theorem SCalls.mono {P : Program} {f : FuncId} {args : Array Value} {h : Heap} {R R' : Value → Heap → Prop} (c : SCalls P f args h R) (i : ∀ v h', R v h' → R' v h') : SCalls P f args h R' :=
  fun w r => (c w r).mono fun e w' ⟨v, h', a, b, c⟩ => ⟨v, h', a, i _ _ b, c⟩
/-- An operation, whatever the world that the heap is of. -/
def SOp (P : Program) (o : Oper) (ρ : Operand → Value) (h : Heap) (K : Value → Heap → Prop) : Prop :=
  ∀ w, Rel h w →
    (∃ v w' h', ((execOp ρ o).run P w = .ok (.value v) w' ∨ (v = undef ∧ (execOp ρ o).run P w = .ok .skip w')) ∧ K v h' ∧ Rel h' w' ∧ Step h h' w w') ∨
    (∃ f args w', (execOp ρ o).run P w = .ok (.enter f args) w' ∧ w'.heap = w.heap ∧ w'.os = w.os ∧ w'.tape = w.tape ∧ w'.output = w.output ∧ SCalls P f args h K)
theorem SOp.mono {P : Program} {o : Oper} {ρ : Operand → Value} {h : Heap} {K K' : Value → Heap → Prop} (s : SOp P o ρ h K) (i : ∀ v h', K v h' → K' v h') : SOp P o ρ h K' := fun w r => by
  rcases s w r with ⟨v, w', h', a, b, c⟩ | ⟨f, args, w', a, b, c1, c2, c3, d⟩
  · exact .inl ⟨v, w', h', a, i _ _ b, c⟩
  · exact .inr ⟨f, args, w', a, b, c1, c2, c3, d.mono i⟩
theorem SOp.wp {P : Program} {o : Oper} {N : Nat} {T : Tm} {h : Heap} {K : Value → Heap → Prop} (s : SOp P o (ev T) h K) {a : Act} {w : World} (ra : Reads N T a) (rw_ : Rel h w)
    (hd : ∀ t, o.dst = some t → t < N) {next : Act → World → Prop} {Q : Exit → Act → World → Prop}
    (hn : ∀ v h' w' a', K v h' → Rel h' w' → Step h h' w w' → Reads N (put T o.dst v) a' → next a' w') : o.wp P a w next Q := by
  unfold Oper.wp
  rw [ra.eval]
  rcases s w rw_ with ⟨v, w', h', e | ⟨rfl, e⟩, k, r, st⟩ | ⟨f, args, w', e, hh, ho, ht, hu, c⟩
  · rw [e]; exact hn v h' w' _ k r st (ra.put _ hd v)
  · rw [e]; exact hn _ h' w' _ k r st (ra.put _ hd _)
  · rw [e]
    refine (c w' (fun b o eb => by rw [hh]; exact rw_ b o eb)).mono ?_
    rintro e w'' ⟨v, h', rfl, k, r, st⟩
    refine hn v h' w'' _ k r ⟨st.os.trans ho, st.tape.trans ht, st.output.trans hu, by rw [← hh]; exact st.size, fun b hb hn => ?_, fun b h1 h2 => by rw [← hh]; exact st.fresh b h1 h2⟩ (ra.put _ hd v)
    rw [← hh] at hb ⊢
    exact st.keep b hb hn

/-! ### 4. Code -/
def Post (N : Nat) (h : Heap) (w : World) (Q : Exit → Tm → Heap → Prop) (e : Exit) (a' : Act) (w' : World) : Prop :=
  ∃ T' h', Q e T' h' ∧ Rel h' w' ∧ Step h h' w w' ∧ Reads N T' a'
def SCode (P : Program) (N : Nat) (c : Code) (Q : Exit → Tm → Heap → Prop) (T : Tm) (h : Heap) : Prop :=
  ∀ w a, Rel h w → Reads N T a → c.wp P (Post N h w Q) a w
def thenS (next : Tm → Heap → Prop) (Q : Exit → Tm → Heap → Prop) : Exit → Tm → Heap → Prop
  | .normal => next
  | e => Q e
def blockS (id : Nat) (Q : Exit → Tm → Heap → Prop) : Exit → Tm → Heap → Prop
  | .exit i => if i = id then Q .normal else Q (.exit i)
  | e => Q e
section
variable {P : Program} {N : Nat} {Q : Exit → Tm → Heap → Prop} {T : Tm} {h : Heap}
theorem SCode.mono {c : Code} {Q' : Exit → Tm → Heap → Prop} (s : SCode P N c Q T h) (i : ∀ e T h, Q e T h → Q' e T h) : SCode P N c Q' T h :=
  fun w a r ra => wp_mono (s w a r ra) fun e a' w' ⟨T', h', q, x⟩ => ⟨T', h', i _ _ _ q, x⟩
theorem s_skip (q : Q .normal T h) : SCode P N .skip Q T h := fun w a r ra => wp_skip ⟨T, h, q, r, Step.refl _ _, ra⟩
theorem s_ret (q : Q .ret T h) : SCode P N .ret Q T h := fun w a r ra => wp_ret ⟨T, h, q, r, Step.refl _ _, ra⟩
theorem s_exit {id : Nat} (q : Q (.exit id) T h) : SCode P N (.exit id) Q T h := fun w a r ra => wp_exit ⟨T, h, q, r, Step.refl _ _, ra⟩
theorem s_label {id : Nat} (q : Q .normal T h) : SCode P N (.label id) Q T h := fun w a r ra => wp_label ⟨T, h, q, r, Step.refl _ _, ra⟩
theorem s_seq {x y : Code} (s : SCode P N x (thenS (fun T h => SCode P N y Q T h) Q) T h) : SCode P N (.seq x y) Q T h := fun w a r ra => by
  refine wp_seq (wp_mono (s w a r ra) ?_)
  rintro e a' w' ⟨T', h', q, r', st, ra'⟩
  cases e with
  | normal => exact wp_mono (q w' a' r' ra') fun e a'' w'' ⟨T'', h'', q'', r'', st'', ra''⟩ => ⟨T'', h'', q'', r'', st.trans st'', ra''⟩
  | _ => exact ⟨T', h', q, r', st, ra'⟩
theorem s_cond {c : Operand} {x y : Code} {t : Bool} (hc : ev T c = .bool t) (s : SCode P N (if t then x else y) Q T h) : SCode P N (.cond c x y) Q T h := fun w a r ra =>
  wp_cond (t := t) (by rw [ra.eval]; exact hc) (s w a r ra)
theorem s_block {id : Nat} {c : Code} (s : SCode P N c (blockS id Q) T h) : SCode P N (.block id c) Q T h := fun w a r ra => by
  refine wp_block (wp_mono (s w a r ra) ?_)
  rintro e a' w' ⟨T', h', q, x⟩
  cases e with
  | exit i =>
    by_cases hi : i = id
    · simp only [blockS, hi, if_true] at q; simp only [Exit.inBlock, hi, if_true]; exact ⟨T', h', q, x⟩
    · simp only [blockS, hi, if_false] at q; simp only [Exit.inBlock, hi, if_false]; exact ⟨T', h', q, x⟩
  | _ => exact ⟨T', h', q, x⟩
theorem s_loop {c : Code} (I : Nat → Tm → Heap → Prop) {n0 : Nat} (h0 : I n0 T h)
    (round : ∀ n T h, I n T h → SCode P N c (thenS (fun T' h' => ∃ m, m < n ∧ I m T' h') Q) T h) : SCode P N (.loop c) Q T h := by
  intro w a r ra b k cs
  have key : ∀ n T1 h1 a1 w1, I n T1 h1 → Rel h1 w1 → Step h h1 w w1 → Reads N T1 a1 →
      ∃ e a' w', Post N h w Q e a' w' ∧ Arrives P (lone (b.at a1 (.code c :: .inLoop c :: k)) cs w1) b k cs e a' w' := by
    intro n
    induction n using Nat.strongRecOn with
    | _ n ih =>
      intro T1 h1 a1 w1 hI r1 st1 ra1
      obtain ⟨e, a2, w2, ⟨T2, h2, q2, r2, st2, ra2⟩, harr⟩ := round n T1 h1 hI w1 a1 r1 ra1 b (.inLoop c :: k) cs
      cases e with
      | normal =>
        obtain ⟨m, hm, hI2⟩ := q2
        obtain ⟨e, a3, w3, p3, harr3⟩ := ih m hm T2 h2 a2 w2 hI2 r2 (st1.trans st2) ra2
        exact ⟨e, a3, w3, p3, .of_steps (Steps.trans harr (.one step_inLoop)) harr3⟩
      | exit id => exact ⟨_, a2, w2, ⟨T2, h2, q2, r2, st1.trans st2, ra2⟩, .pass (x := .inLoop c) rfl (fun _ _ => .inl (by simp)) harr⟩
      | goto l => exact ⟨_, a2, w2, ⟨T2, h2, q2, r2, st1.trans st2, ra2⟩, .pass (x := .inLoop c) rfl (fun _ _ => .inl (by simp)) harr⟩
      | ret => exact ⟨_, a2, w2, ⟨T2, h2, q2, r2, st1.trans st2, ra2⟩, .pass (x := .inLoop c) rfl (fun _ _ => .inl (by simp)) harr⟩
      | panic ch => exact ⟨_, a2, w2, ⟨T2, h2, q2, r2, st1.trans st2, ra2⟩, .pass (x := .inLoop c) rfl (fun _ _ => .inl (by simp)) harr⟩
      | outgrown => exact ⟨_, a2, w2, ⟨T2, h2, q2, r2, st1.trans st2, ra2⟩, .pass (x := .inLoop c) rfl (fun _ _ => .inl (by simp)) harr⟩
  obtain ⟨e, a', w', p, harr⟩ := key n0 T h a w h0 r (Step.refl _ _) ra
  exact ⟨e, a', w', p, .of_steps (.one step_loop) harr⟩
end

/-! ### 5. A region in the order of its text -/
def sops (P : Program) (N : Nat) (ops : Array Oper) (Q : Tm → Heap → Prop) : List Oper → Tm → Heap → Prop
  | [], T, h => Q T h
  | o :: r, T, h => (∀ t, o.dst = some t → t < N) ∧
    if want ops T o then SOp P o (ev T) h (fun v h' => sops P N ops Q r (put T o.dst v) h') else sops P N ops Q r (put T o.dst undef) h
theorem sops_wp {P : Program} {N : Nat} {ops : Array Oper} {Q : Tm → Heap → Prop} {Q' : Exit → Act → World → Prop} (l : List Nat) :
    ∀ (os : List Oper), l.map (ops[·]?) = os.map some → ∀ T h a w, sops P N ops Q os T h → Rel h w → Reads N T a →
      (∀ T' h' a' w', Q T' h' → Rel h' w' → Step h h' w w' → Reads N T' a' → Q' .normal a' w') → wpOps P ops Q' l a w := by
  induction l with
  | nil =>
    intro os hm T h a w s r ra hq
    cases os with
    | nil => exact hq T h a w s r (Step.refl _ _) ra
    | cons o os => simp at hm
  | cons i l ih =>
    intro os hm T h a w s r ra hq
    cases os with
    | nil => simp at hm
    | cons o os =>
      simp only [List.map_cons, List.cons.injEq] at hm
      obtain ⟨hi, hm⟩ := hm
      rw [wpOps_cons]
      unfold wpOp
      simp only [hi]
      simp only [sops] at s
      obtain ⟨hd, s⟩ := s
      rw [ra.want]
      cases hw : want ops T o with
      | true =>
        simp only [hw, if_true] at s ⊢
        exact .inl (s.wp ra r hd fun v h' w' a' k r' st ra' => ih os hm _ h' a' w' k r' ra' fun T2 h2 a2 w2 q2 r2 st2 ra2 => hq T2 h2 a2 w2 q2 r2 (st.trans st2) ra2)
      | false =>
        simp only [hw, Bool.false_eq_true, if_false] at s ⊢
        exact ih os hm _ h _ w s r (ra.put _ hd _) hq
theorem s_region {P : Program} {N id : Nat} {ops : Array Oper} {Q : Exit → Tm → Heap → Prop} {T : Tm} {h : Heap}
    (s : sops P N ops (Q .normal) ops.toList T h) : SCode P N (.region id ops false) Q T h := fun w a r ra => by
  refine wp_region (sops_wp (Q := Q .normal) _ ops.toList ?_ T h a w s r ra fun T' h' a' w' q r' st ra' => ⟨T', h', q, r', st, ra'⟩)
  apply List.ext_getElem
  · simp
  · intro n h1 h2
    simp at h1
    simp [h1]
end Go.Proofs.Ytielfejpnkcjbaa.Sl

/- A region that draws its order: whatever order its edges allow, it comes to what ONE order gives, if all that acts (allocates, writes, calls) is ordered among itself, and what only reads is read as early as may be. -/
set_option linter.unusedVariables false
set_option linter.unusedSimpArgs false
namespace Go.Proofs.Ytielfejpnkcjbaa.Sl

/-! ### 1. The edges -/
def preds (ops : Array Oper) (i : Nat) : List Nat := match ops[i]? with
  | some o => (o.after.toList.filter (Region.binds .any)).map (·.on)
  | none => []
inductive Anc (ops : Array Oper) : Nat → Nat → Prop where
  | one {i j : Nat} : j ∈ preds ops i → Anc ops i j
  | step {i k j : Nat} : k ∈ preds ops i → Anc ops k j → Anc ops i j
theorem Anc.closed {ops : Array Oper} {L : Nat → Prop} (hc : ∀ i j, L i → j ∈ preds ops i → L j) {i j : Nat} (h : Anc ops i j) (hi : L i) : L j := by
  induction h with
  | one h => exact hc _ _ hi h
  | step h _ ih => exact ih (hc _ _ hi h)
theorem Anc.ready {ops : Array Oper} {L : Nat → Prop} (hc : ∀ i j, L i → j ∈ preds ops i → L j) {i j : Nat} (h : Anc ops i j) (hp : ∀ k, k ∈ preds ops i → L k) : L j := by
  cases h with
  | one h => exact hp _ h
  | step h h2 => exact h2.closed hc (hp _ h)
def maskStep (acc : Array Nat) (s : Nat) (e : Edge) : Nat := if Region.binds .any e then s ||| 2 ^ e.on ||| acc.getD e.on 0 else s
theorem before_eq (ops : Array Oper) : Region.before ops = ops.toList.foldl (fun acc o => acc.push (o.after.toList.foldl (maskStep acc) 0)) #[] := by
  unfold Region.before
  rw [← Array.foldl_toList]
  congr 1
  funext acc o
  rw [← Array.foldl_toList]
  rfl
theorem mask_fold (acc : Array Nat) (l : List Edge) : ∀ (s j : Nat), (l.foldl (maskStep acc) s).testBit j = true →
    s.testBit j = true ∨ ∃ e, e ∈ l ∧ Region.binds .any e = true ∧ (e.on = j ∨ (acc.getD e.on 0).testBit j = true) := by
  induction l with
  | nil => intro s j h; exact .inl h
  | cons e l ih =>
    intro s j h
    simp only [List.foldl_cons] at h
    rcases ih _ _ h with h1 | ⟨e', he', h2⟩
    · unfold maskStep at h1
      cases hb : Region.binds .any e with
      | false => simp only [hb, Bool.false_eq_true, if_false] at h1; exact .inl h1
      | true =>
        simp only [hb, if_true, Nat.testBit_or, Bool.or_eq_true, Nat.testBit_two_pow, decide_eq_true_eq] at h1
        rcases h1 with (h1 | h1) | h1
        · exact .inl h1
        · exact .inr ⟨e, List.mem_cons_self, hb, .inl h1⟩
        · exact .inr ⟨e, List.mem_cons_self, hb, .inr h1⟩
    · exact .inr ⟨e', List.mem_cons_of_mem _ he', h2⟩
theorem before_anc (ops : Array Oper) (i j : Nat) (h : ((Region.before ops).getD i 0).testBit j = true) : Anc ops i j := by
  rw [before_eq] at h
  have key : ∀ (l pre : List Oper) (acc : Array Nat), ops.toList = pre ++ l → acc.size = pre.length →
      (∀ i j, (acc.getD i 0).testBit j = true → Anc ops i j) → ∀ i j, ((l.foldl (fun acc o => acc.push (o.after.toList.foldl (maskStep acc) 0)) acc).getD i 0).testBit j = true → Anc ops i j := by
    intro l
    induction l with
    | nil => intro pre acc _ _ ha i j h; exact ha i j h
    | cons o l ih =>
      intro pre acc hp hs ha
      simp only [List.foldl_cons]
      refine ih (pre ++ [o]) _ (by rw [hp]; simp) (by simp [hs]) ?_
      intro i j h
      by_cases hi : i = acc.size
      · subst hi
        have ho : ops[acc.size]? = some o := by
          rw [← Array.getElem?_toList, hp, hs]; simp
        have hx : (acc.push (o.after.toList.foldl (maskStep acc) 0)).getD acc.size 0 = o.after.toList.foldl (maskStep acc) 0 := by simp [Array.getD_eq_getD_getElem?]
        rw [hx] at h
        rcases mask_fold acc _ _ _ h with h1 | ⟨e, he, hb, h2⟩
        · simp at h1
        · have hm : e.on ∈ preds ops acc.size := by
            simp only [preds, ho]
            exact List.mem_map.2 ⟨e, List.mem_filter.2 ⟨he, hb⟩, rfl⟩
          rcases h2 with rfl | h2
          · exact .one hm
          · exact .step hm (ha _ _ h2)
      · refine ha i j ?_
        have hx : (acc.push (o.after.toList.foldl (maskStep acc) 0)).getD i 0 = acc.getD i 0 := by
          simp only [Array.getD_eq_getD_getElem?, Array.getElem?_push, hi, if_false]
        rw [hx] at h
        exact h
  exact key ops.toList [] #[] (by simp) rfl (fun i j h => by simp at h) i j h

/-! ### 2. Kinds of operations; the one order -/
def isAct : Op → Bool
  | .move _ | .assign _ | .pick .. | .load .. | .nilCheck _ | .binOp .. | .unOp .. | .convert .. | .makeInterface .. | .makeFunc .. | .slice .. | .fieldAddr .. | .field ..
  | .indexAddr .. | .index .. | .lookup .. | .typeAssert .. | .extract .. | .build .. | .waits _ | .sliceToArrayPointer .. => false
  | .call { callee := .builtin b, .. } => match b with
    | .len | .cap | .min | .max => false
    | _ => true
  | _ => true
def isRead : Op → Bool
  | .load .. | .lookup .. | .convert .. | .call .. | .waits _ | .nilCheck _ => true
  | _ => false
def PureOp (P : Program) (o : Oper) (ρ : Operand → Value) (v : Value) : Prop := ∀ w, (execOp ρ o).run P w = .ok (.value v) w
def ReadOp (P : Program) (o : Oper) (ρ : Operand → Value) (h : Heap) (v : Value) : Prop := ∀ w, Rel h w → (execOp ρ o).run P w = .ok (.value v) w
theorem PureOp.read {P : Program} {o : Oper} {ρ : Operand → Value} {v : Value} (p : PureOp P o ρ v) (h : Heap) : ReadOp P o ρ h v := fun w _ => p w
theorem ReadOp.le {P : Program} {o : Oper} {ρ : Operand → Value} {h h' : Heap} {v : Value} (p : ReadOp P o ρ h v) (l : h.le h') : ReadOp P o ρ h' v := fun w r => p w (r.le l)
theorem ReadOp.sop {P : Program} {o : Oper} {ρ : Operand → Value} {h : Heap} {v : Value} {K : Value → Heap → Prop} (p : ReadOp P o ρ h v) (k : K v h) : SOp P o ρ h K :=
  fun w r => .inl ⟨v, w, h, .inl (p w r), k, r, Step.refl _ _⟩
def opAt (ops : Array Oper) (i : Nat) : Oper := ops.getD i default
/-- An operation that lays one new block, whatever the world. -/
def AllocOp (P : Program) (o : Oper) (ρ : Operand → Value) (obj : Obj) (vf : Nat → Value) : Prop := ∀ w, (execOp ρ o).run P w = .ok (.value (vf w.heap.size)) (w.alloc obj)
/-- (i, true): operation i; (i, false): its operands are looked at (an allocation that is done at any time from then on, till its place has come). -/
abbrev Ent := Nat × Bool
abbrev Env := Nat → Obj × (Nat → Value)
def Env.put (E : Env) (i : Nat) (x : Obj × (Nat → Value)) : Env := fun j => if j = i then x else E j
/-- What a read leans on. -/
structure RdA where
  on : Heap → Prop
  mono : ∀ g g' : Heap, g.le g' → on g → on g'
/-- F: what has been read; E: what is being laid. -/
def sdraw (P : Program) (N : Nat) (ops : Array Oper) (pp loud : List Nat) (Q : Tm → Heap → Prop) : List Ent → Tm → Heap → List RdA → Env → Prop
  | [], T, h, _, _ => Q T h
  | (i, false) :: r, T, h, F, E => ∃ obj vf, AllocOp P (opAt ops i) (ev T) obj vf ∧ sdraw P N ops pp loud Q r T h F (E.put i (obj, vf))
  | (i, true) :: r, T, h, F, E =>
    if i ∈ pp then ∀ b, h b = none → sdraw P N ops pp loud Q r (put T (opAt ops i).dst ((E i).2 b)) (h.set b (E i).1) F E
    else if want ops T (opAt ops i) then
      if isAct (opAt ops i).op then
        if i ∈ loud then SOp P (opAt ops i) (ev T) h (fun v h' => sdraw P N ops pp loud Q r (put T (opAt ops i).dst v) h' [] E)
        else SOp P (opAt ops i) (ev T) h (fun v h' => (∀ A ∈ F, A.on h → A.on h') ∧ sdraw P N ops pp loud Q r (put T (opAt ops i).dst v) h' F E)
      else if isRead (opAt ops i).op then ∃ v A, A.on h ∧ (∀ g, A.on g → ReadOp P (opAt ops i) (ev T) g v) ∧ sdraw P N ops pp loud Q r (put T (opAt ops i).dst v) h (A :: F) E
      else ∃ v, PureOp P (opAt ops i) (ev T) v ∧ sdraw P N ops pp loud Q r (put T (opAt ops i).dst v) h F E
    else sdraw P N ops pp loud Q r (put T (opAt ops i).dst undef) h F E

/-- pairs (a, b), a ahead of b in a list, all pass -/
def pairs {α : Type} (p : α → α → Bool) : List α → Bool
  | [] => true
  | a :: r => r.all (p a) && pairs p r
theorem pairs_spec {α : Type} {p : α → α → Bool} : ∀ {l : List α}, pairs p l = true → ∀ (x y : List α) (b : α), l = x ++ b :: y → ∀ a ∈ x, p a b = true := by
  intro l
  induction l with
  | nil => intro _ x y b h a ha; simp at h
  | cons c r ih =>
    intro h x y b e a ha
    simp only [pairs, Bool.and_eq_true, List.all_eq_true] at h
    cases x with
    | nil => cases ha
    | cons d x =>
      simp only [List.cons_append, List.cons.injEq] at e
      obtain ⟨rfl, e⟩ := e
      rcases List.mem_cons.1 ha with rfl | ha
      · exact h.1 b (by rw [e]; simp)
      · exact ih h.2 x y b e a ha
def looksDst (ops : Array Oper) (i j : Nat) : Bool := match (opAt ops j).dst with
  | some t => ((opAt ops i).looksAt ops).contains t
  | none => false
/-- Does an entry look at its operation's operands? -/
def looksHere (pp : List Nat) (x : Ent) : Bool := x.2 != pp.contains x.1
/-- What the order and the edges have to be. -/
def drawOk (ops : Array Oper) (τ : List Ent) (pp loud : List Nat) : Bool :=
  let b := Region.before ops
  τ.all (fun x => x.1 < ops.size && (x.2 || pp.contains x.1)) && (List.range ops.size).all (fun i => τ.contains (i, true)) && Region.noSelect ops &&
  pp.all (fun i => τ.contains (i, false) && isAct (opAt ops i).op && (opAt ops i).guard.isNone) &&
  (List.range ops.size).all (fun i => (preds ops i).all (· < i)) &&
  pairs (fun j i => (opAt ops i).dst != (opAt ops j).dst || (opAt ops i).dst == none) (List.range ops.size) &&
  pairs (fun x y => x != y && !(x.1 == y.1 && x.2)) τ &&
  pairs (fun x y => !(x.2 && isAct (opAt ops x.1).op) || (y.2 && pp.contains y.1) || (b.getD y.1 0).testBit x.1) τ &&
  pairs (fun x y => !(x.2 && looksHere pp y && looksDst ops y.1 x.1) || (b.getD y.1 0).testBit x.1) τ &&
  pairs (fun x y => !(looksHere pp x && y.2 && looksDst ops x.1 y.1 && x.1 != y.1) || (b.getD y.1 0).testBit x.1) τ &&
  pairs (fun x y => !(x.2 && isRead (opAt ops x.1).op && !isAct (opAt ops x.1).op && y.2 && loud.contains y.1) || (b.getD y.1 0).testBit x.1) τ

/-! ### 3. Views -/
def writer (ops : Array Oper) (t : Nat) : Option Nat := (List.range ops.size).find? fun i => (opAt ops i).dst == some t
def view (ops : Array Oper) (T0 : Tm) (V : Nat → Value) (S : Nat → Bool) : Tm := fun t => match writer ops t with
  | some i => if S i then V i else T0 t
  | none => T0 t
theorem writer_spec {ops : Array Oper} {t i : Nat} (h : writer ops t = some i) : i < ops.size ∧ (opAt ops i).dst = some t := by
  have h1 := List.find?_some h
  have h2 := List.mem_of_find?_eq_some h
  exact ⟨List.mem_range.1 h2, by simpa using h1⟩
theorem writer_none {ops : Array Oper} {t i : Nat} (h : writer ops t = none) (hi : i < ops.size) : (opAt ops i).dst ≠ some t := by
  have := List.find?_eq_none.1 h i (List.mem_range.2 hi)
  simpa using this
theorem view_congr {ops : Array Oper} {T0 : Tm} {V V' : Nat → Value} {S S' : Nat → Bool} (hS : ∀ i, i < ops.size → S i = S' i) (hV : ∀ i, S i = true → V i = V' i) : view ops T0 V S = view ops T0 V' S' := by
  funext t
  unfold view
  cases h : writer ops t with
  | none => rfl
  | some i =>
    have := (writer_spec h).1
    simp only [← hS i this]
    cases hs : S i with
    | false => rfl
    | true => simp [hV i hs]
/-- One more operation has been done. -/
theorem view_put {ops : Array Oper} {T0 : Tm} {V : Nat → Value} {S S' : Nat → Bool} {i : Nat} (hi : i < ops.size) (hu : ∀ j, j < ops.size → j ≠ i → (opAt ops j).dst ≠ (opAt ops i).dst ∨ (opAt ops i).dst = none)
    (h1 : S' i = true) (h2 : ∀ j, j < ops.size → j ≠ i → S' j = S j) : view ops T0 V S' = put (view ops T0 V S) (opAt ops i).dst (V i) := by
  funext t
  cases hd : (opAt ops i).dst with
  | none =>
    simp only [put]
    unfold view
    cases h : writer ops t with
    | none => rfl
    | some j =>
      have hj := writer_spec h
      have hne : j ≠ i := fun e => by subst e; rw [hd] at hj; exact absurd hj.2 (by simp)
      simp only [h2 j hj.1 hne]
  | some d =>
    simp only [put, upd]
    by_cases ht : t = d
    · subst ht
      rw [if_pos rfl]
      unfold view
      cases h : writer ops t with
      | none => exact absurd hd (writer_none h hi)
      | some j =>
        have hj := writer_spec h
        by_cases hji : j = i
        · subst hji; simp [h1]
        · rcases hu j hj.1 hji with h3 | h3
          · exact absurd (hj.2.trans hd.symm) h3
          · rw [hd] at h3; cases h3
    · rw [if_neg ht]
      unfold view
      cases h : writer ops t with
      | none => rfl
      | some j =>
        have hj := writer_spec h
        have hne : j ≠ i := fun e => by subst e; rw [hd] at hj; have := hj.2; simp at this; exact ht this.symm
        simp only [h2 j hj.1 hne]
theorem ev_congr {ops : Array Oper} {T T' : Tm} {o : Oper} (hs : ∀ cs b, o.op ≠ .select cs b) (h : ∀ t ∈ o.looksAt ops, T t = T' t) : execOp (ev T) o = execOp (ev T') o :=
  execOp_congr o hs fun x hx => by
    cases x with
    | tmp t => exact h t (List.mem_append_left _ (List.mem_filterMap.2 ⟨.tmp t, by simpa using hx, rfl⟩))
    | _ => rfl
theorem want_congr {ops : Array Oper} {T T' : Tm} {o : Oper} (h : ∀ t ∈ o.looksAt ops, T t = T' t) : want ops T o = want ops T' o := by
  unfold want
  cases hg : o.guard with
  | none => rfl
  | some g =>
    obtain ⟨j, b⟩ := g
    simp only
    cases hj : (ops[j]?).bind (·.dst) with
    | none => rfl
    | some t => simp only [h t (by simp [Oper.looksAt, hg, hj])]
end Go.Proofs.Ytielfejpnkcjbaa.Sl

/- A region that draws its order (second part): the theorem. -/
set_option linter.unusedVariables false
set_option linter.unusedSimpArgs false
namespace Go.Proofs.Ytielfejpnkcjbaa.Sl
section
variable {P : Program} {N : Nat} {ops : Array Oper} {pp loud : List Nat} {Q : Tm → Heap → Prop} {τ : List Ent} {T0 : Tm}

structure DOk (ops : Array Oper) (τ : List Ent) (pp loud : List Nat) : Prop where
  lt : ∀ x ∈ τ, x.1 < ops.size
  pre : ∀ x ∈ τ, x.2 = true ∨ x.1 ∈ pp
  all : ∀ i, i < ops.size → (i, true) ∈ τ
  sel : Region.noSelect ops = true
  ppm : ∀ i ∈ pp, (i, false) ∈ τ ∧ isAct (opAt ops i).op = true ∧ (opAt ops i).guard = none
  edge : ∀ i j, j ∈ preds ops i → j < i
  dst : ∀ i j, i < ops.size → j < ops.size → j ≠ i → (opAt ops j).dst ≠ (opAt ops i).dst ∨ (opAt ops i).dst = none
  ne : ∀ (x y : List Ent) (e : Ent), τ = x ++ e :: y → ∀ d ∈ x, d ≠ e ∧ ¬ (d.1 = e.1 ∧ d.2 = true)
  ext : ∀ (x y : List Ent) (e : Ent), τ = x ++ e :: y → ∀ d ∈ x, d.2 = true → isAct (opAt ops d.1).op = true → ¬ (e.2 = true ∧ e.1 ∈ pp) → Anc ops e.1 d.1
  nam1 : ∀ (x y : List Ent) (e : Ent), τ = x ++ e :: y → ∀ d ∈ x, d.2 = true → looksHere pp e = true → looksDst ops e.1 d.1 = true → Anc ops e.1 d.1
  nam2 : ∀ (x y : List Ent) (e : Ent), τ = x ++ e :: y → ∀ d ∈ x, looksHere pp d = true → e.2 = true → looksDst ops d.1 e.1 = true → d.1 ≠ e.1 → Anc ops e.1 d.1
  rd : ∀ (x y : List Ent) (e : Ent), τ = x ++ e :: y → ∀ d ∈ x, d.2 = true → isRead (opAt ops d.1).op = true → isAct (opAt ops d.1).op = false → e.2 = true → e.1 ∈ loud → Anc ops e.1 d.1
theorem range_split {n i j : Nat} (hj : j < i) (hi : i < n) : ∃ x y, List.range n = x ++ i :: y ∧ j ∈ x := by
  refine ⟨List.range i, List.range' (i + 1) (n - i - 1), ?_, List.mem_range.2 hj⟩
  have : n = i + (1 + (n - i - 1)) := by omega
  conv => lhs; rw [this]
  rw [List.range_eq_range', List.range_eq_range', ← List.range'_append_1, ← List.range'_append_1]
  simp
theorem drawOk_spec (h : drawOk ops τ pp loud = true) : DOk ops τ pp loud := by
  unfold drawOk at h
  simp only [Bool.and_eq_true] at h
  obtain ⟨⟨⟨⟨⟨⟨⟨⟨⟨⟨h1, h2⟩, h3⟩, h4⟩, h5⟩, h6⟩, h7⟩, h8⟩, h9⟩, h10⟩, h11⟩ := h
  refine ⟨?_, ?_, ?_, h3, ?_, ?_, ?_, ?_, ?_, ?_, ?_, ?_⟩
  · intro x hx; have := List.all_eq_true.1 h1 x hx; simp only [Bool.and_eq_true, decide_eq_true_eq] at this; exact this.1
  · intro x hx; have := List.all_eq_true.1 h1 x hx; simp only [Bool.and_eq_true, Bool.or_eq_true, List.contains_eq_mem, decide_eq_true_eq] at this; exact this.2
  · intro i hi; simpa using List.all_eq_true.1 h2 i (List.mem_range.2 hi)
  · intro i hi
    have := List.all_eq_true.1 h4 i hi
    simp only [Bool.and_eq_true, List.contains_eq_mem, decide_eq_true_eq, Option.isNone_iff_eq_none] at this
    exact ⟨this.1.1, this.1.2, this.2⟩
  · intro i j hj
    have hi : i < ops.size := by
      unfold preds at hj
      cases ho : ops[i]? with
      | none => rw [ho] at hj; cases hj
      | some o => exact (Array.getElem?_eq_some_iff.1 ho).1
    have := List.all_eq_true.1 h5 i (List.mem_range.2 hi)
    simpa using List.all_eq_true.1 this j hj
  · have key : ∀ i j, i < ops.size → j < i → (opAt ops i).dst ≠ (opAt ops j).dst ∨ (opAt ops i).dst = none := by
      intro i j hi hj
      obtain ⟨x, y, e, hm⟩ := range_split hj hi
      have := pairs_spec h6 x y i e j hm
      simp only [Bool.or_eq_true, bne_iff_ne, ne_eq, beq_iff_eq] at this
      exact this
    intro i j hi hj hne
    rcases Nat.lt_or_gt_of_ne hne with h | h
    · rcases key i j hi h with h1 | h1
      · exact .inl (fun e => h1 e.symm)
      · exact .inr h1
    · rcases key j i hj h with h1 | h1
      · exact .inl h1
      · by_cases h2 : (opAt ops i).dst = none
        · exact .inr h2
        · exact .inl (fun e => h2 (e ▸ h1))
  · intro x y e he d hd
    have := pairs_spec h7 x y e he d hd
    simp only [Bool.and_eq_true, bne_iff_ne, ne_eq, Bool.not_eq_true', Bool.and_eq_false_iff, beq_eq_false_iff_ne] at this
    refine ⟨this.1, fun hc => ?_⟩
    rcases this.2 with h | h
    · exact h hc.1
    · rw [hc.2] at h; cases h
  · intro x y e he d hd h1 h2 h3
    have := pairs_spec h8 x y e he d hd
    have hb : (e.2 && pp.contains e.1) = false := by
      cases hx : (e.2 && pp.contains e.1) with
      | false => rfl
      | true => simp only [Bool.and_eq_true, List.contains_eq_mem, decide_eq_true_eq] at hx; exact absurd hx h3
    simp only [h1, h2, hb, Bool.and_true, Bool.not_true, Bool.false_or] at this
    exact before_anc _ _ _ this
  · intro x y e he d hd h1 h2 h3
    have := pairs_spec h9 x y e he d hd
    simp only [h1, h2, h3, Bool.and_true, Bool.not_true, Bool.false_or] at this
    exact before_anc _ _ _ this
  · intro x y e he d hd h1 h2 h3 h4
    have := pairs_spec h10 x y e he d hd
    have hb : (d.1 != e.1) = true := by simpa using h4
    simp only [h1, h2, h3, hb, Bool.and_true, Bool.not_true, Bool.false_or] at this
    exact before_anc _ _ _ this
  · intro x y e he d hd h1 h2 h3 h4 h5
    have := pairs_spec h11 x y e he d hd
    have hc : loud.contains e.1 = true := by simpa using h5
    simp only [h1, h2, h3, h4, hc, Bool.not_false, Bool.and_true, Bool.not_true, Bool.false_or] at this
    exact before_anc _ _ _ this
theorem DOk.notin (k : DOk ops τ pp loud) {x y : List Ent} {e : Ent} (h : τ = x ++ e :: y) : e ∉ x := fun hi => (k.ne x y e h e hi).1 rfl
theorem DOk.notin2 (k : DOk ops τ pp loud) {x y : List Ent} {e d : Ent} (h : τ = x ++ e :: y) (hd : d ∈ y) : d ∉ x := fun hi => by
  obtain ⟨y1, y2, rfl⟩ := List.append_of_mem hd
  exact (k.ne (x ++ e :: y1) y2 d (by rw [h]; simp) d (by simp [hi])).1 rfl
def mn (l : List Ent) : Nat → Bool := fun i => l.contains (i, true)
theorem mn_iff {l : List Ent} {i : Nat} : mn l i = true ↔ (i, true) ∈ l := by simp [mn]
theorem mn_false {l : List Ent} {i : Nat} : mn l i = false ↔ (i, true) ∉ l := by simp [mn]
/-- What is known of an entry that the one order has passed and the drawn one has not. -/
def Hole (P : Program) (ops : Array Oper) (pp : List Nat) (T0 : Tm) (V : Nat → Value) (E : Env) (F : List RdA) (pre : List Ent) (e : Ent) : Prop :=
  match e.2 with
  | false => AllocOp P (opAt ops e.1) (ev (view ops T0 V (mn pre))) (E e.1).1 (E e.1).2
  | true => e.1 ∉ pp → isAct (opAt ops e.1).op = false →
    if want ops (view ops T0 V (mn pre)) (opAt ops e.1) then
      (if isRead (opAt ops e.1).op then ∃ A ∈ F, ∀ g, RdA.on A g → ReadOp P (opAt ops e.1) (ev (view ops T0 V (mn pre))) g (V e.1)
      else PureOp P (opAt ops e.1) (ev (view ops T0 V (mn pre))) (V e.1))
    else V e.1 = undef
theorem Hole.congr {V V' : Nat → Value} {E E' : Env} {F F' : List RdA} {pre : List Ent} {e : Ent} (hv : ∀ i, (i, true) ∈ pre → V i = V' i) (hj : e.2 = true → V e.1 = V' e.1) (hE : e.2 = false → E e.1 = E' e.1)
    (hF : ∀ b, b ∈ F → b ∈ F') (x : Hole P ops pp T0 V E F pre e) : Hole P ops pp T0 V' E' F' pre e := by
  have ee : view ops T0 V (mn pre) = view ops T0 V' (mn pre) := view_congr (fun _ _ => rfl) (fun i hi => hv i (mn_iff.1 hi))
  unfold Hole at *
  rw [← ee]
  cases h2 : e.2 with
  | false => simp only [h2] at x ⊢; rw [← hE h2]; exact x
  | true =>
    simp only [h2] at x ⊢
    rw [← hj h2]
    intro hp ha
    have y := x hp ha
    split
    · rename_i hw
      simp only [hw, if_true] at y
      split
      · rename_i hr
        simp only [hr, if_true] at y
        obtain ⟨g, p, q⟩ := y
        exact ⟨g, hF g p, q⟩
      · rename_i hr
        simpa [hr] using y
    · rename_i hw
      simpa [hw] using y

structure Early (V : Nat → Value) (E : Env) (B : Nat → Nat) (h : Heap) (w w0 : World) (i : Nat) : Prop where
  val : V i = (E i).2 (B i)
  off : h (B i) = none
  obj : w.heap[B i]? = some (E i).1
  new : w0.heap.size ≤ B i
theorem Early.lt {V : Nat → Value} {E : Env} {B : Nat → Nat} {h : Heap} {w w0 : World} {i : Nat} (e : Early V E B h w w0 i) : B i < w.heap.size := (Array.getElem?_eq_some_iff.1 e.obj).1
structure St (P : Program) (N : Nat) (ops : Array Oper) (pp loud : List Nat) (Q : Tm → Heap → Prop) (τ : List Ent) (T0 : Tm) (w0 : World) (L : Nat → Bool) (w : World) (B : Nat → Nat)
    (V : Nat → Value) (E : Env) (F : List RdA) (π r : List Ent) (h : Heap) : Prop where
  e : τ = π ++ r
  s : sdraw P N ops pp loud Q r (view ops T0 V (mn π)) h F E
  rel : Rel h w
  lp : ∀ i, i < ops.size → L i = true → (i, true) ∈ π ∨ (i ∈ pp ∧ (i, false) ∈ π)
  early : ∀ i, i ∈ pp → L i = true → (i, true) ∉ π → Early V E B h w w0 i
  inj : ∀ i j, i ∈ pp → j ∈ pp → L i = true → L j = true → (i, true) ∉ π → (j, true) ∉ π → B i = B j → i = j
  act : ∀ i, (i, true) ∈ π → isAct (opAt ops i).op = true → L i = true
  hole : ∀ x e y, π = x ++ e :: y → L e.1 = false → Hole P ops pp T0 V E F x e
  f : ∀ A ∈ F, A.on h
def Stuck (ops : Array Oper) (pp : List Nat) (L : Nat → Bool) (r : List Ent) : Prop := r = [] ∨ ∃ i s, r = (i, true) :: s ∧ isAct (opAt ops i).op = true ∧ (i ∈ pp → L i = false)

theorem split_last {α : Type} {π : List α} {a e : α} {x y : List α} (h : π ++ [a] = x ++ e :: y) : (y = [] ∧ x = π ∧ e = a) ∨ ∃ y', y = y' ++ [a] ∧ π = x ++ e :: y' := by
  rcases List.eq_nil_or_concat y with rfl | ⟨y', z, rfl⟩
  · left
    have h1 := List.append_inj_left' h rfl
    have h2 := List.append_inj_right' h rfl
    simp at h2
    exact ⟨rfl, h1.symm, h2.symm⟩
  · right
    have h3 : π ++ [a] = (x ++ e :: y') ++ [z] := by rw [h]; simp
    have h1 := List.append_inj_left' h3 rfl
    have h2 := List.append_inj_right' h3 rfl
    simp at h2
    exact ⟨y', by rw [h2, List.concat_eq_append], h1⟩
/-- The one order goes on to what acts next. -/
theorem advance (k : DOk ops τ pp loud) {w0 w : World} {L : Nat → Bool} {B : Nat → Nat} : ∀ (r π : List Ent) (V : Nat → Value) (E : Env) (F : List RdA) (h : Heap), St P N ops pp loud Q τ T0 w0 L w B V E F π r h →
    ∃ V' E' F' π' r' h', St P N ops pp loud Q τ T0 w0 L w B V' E' F' π' r' h' ∧ Stuck ops pp L r' ∧ (∀ j, j < ops.size → L j = true → V' j = V j) ∧ (∀ b, h b = none → h' b ≠ none → w0.heap.size ≤ b) := by
  intro r
  induction r with
  | nil => intro π V E F h st; exact ⟨V, E, F, π, [], h, st, .inl rfl, fun _ _ _ => rfl, fun b h1 h2 => absurd h1 h2⟩
  | cons d r ih =>
    intro π V E F h st
    obtain ⟨i, ph⟩ := d
    have hi : i < ops.size := k.lt (i, ph) (by rw [st.e]; simp)
    have hnp : (i, ph) ∉ π := k.notin st.e
    have fin : ∀ (V1 : Nat → Value) (E1 : Env) (F1 : List RdA) (h1 : Heap), St P N ops pp loud Q τ T0 w0 L w B V1 E1 F1 (π ++ [(i, ph)]) r h1 → (∀ j, j < ops.size → L j = true → V1 j = V j) → (∀ b, h b = none → h1 b ≠ none → w0.heap.size ≤ b) →
        ∃ V' E' F' π' r' h', St P N ops pp loud Q τ T0 w0 L w B V' E' F' π' r' h' ∧ Stuck ops pp L r' ∧ (∀ j, j < ops.size → L j = true → V' j = V j) ∧ (∀ b, h b = none → h' b ≠ none → w0.heap.size ≤ b) := by
      intro V1 E1 F1 h1 st1 hV hf
      obtain ⟨V', E', F', π', r', h', st', sk, hV', hf'⟩ := ih _ V1 E1 F1 h1 st1
      refine ⟨V', E', F', π', r', h', st', sk, fun j hj hl => (hV' j hj hl).trans (hV j hj hl), fun b e1 e2 => ?_⟩
      by_cases e3 : h1 b = none
      · exact hf' b e3 e2
      · exact hf b e1 e3
    cases ph with
    | false =>
      -- its operands are looked at
      have hnt : (i, true) ∉ π := fun hm => (k.ne π r (i, false) st.e (i, true) hm).2 ⟨rfl, rfl⟩
      have hL : L i = false := by
        cases hl : L i with
        | false => rfl
        | true =>
          rcases st.lp i hi hl with h1 | h1
          · exact absurd h1 hnt
          · exact absurd h1.2 hnp
      have s := st.s
      simp only [sdraw] at s
      obtain ⟨obj, vf, al, s⟩ := s
      have hEo : ∀ j, j ≠ i → (E.put i (obj, vf)) j = E j := fun j hj => by simp [Env.put, hj]
      have hmn : mn (π ++ [(i, false)]) = mn π := by funext j; simp [mn]
      refine fin V (E.put i (obj, vf)) F h ⟨by rw [st.e]; simp, by rw [hmn]; exact s, st.rel, ?_, ?_, ?_, ?_, ?_, st.f⟩ (fun _ _ _ => rfl) (fun b h1 h2 => absurd h1 h2)
      · intro j hj hl
        rcases st.lp j hj hl with h1 | h1
        · exact .inl (by simp [h1])
        · exact .inr ⟨h1.1, by simp [h1.2]⟩
      · intro j hj hl hn
        have hji : j ≠ i := fun e => by rw [e, hL] at hl; cases hl
        have x := st.early j hj hl (fun h1 => hn (by simp [h1]))
        exact ⟨by rw [hEo j hji]; exact x.val, x.off, by rw [hEo j hji]; exact x.obj, x.new⟩
      · intro j1 j2 a b c d e1 e2
        exact st.inj j1 j2 a b c d (fun h1 => e1 (by simp [h1])) (fun h1 => e2 (by simp [h1]))
      · intro j hj ha
        exact st.act j (by simpa using hj) ha
      · intro x e y hx hl
        rcases split_last hx with ⟨_, rfl, rfl⟩ | ⟨y', _, hπ⟩
        · unfold Hole
          simp only [Env.put, if_true]
          exact al
        · refine Hole.congr (fun _ _ => rfl) (fun _ => rfl) (fun h2 => ?_) (fun _ h => h) (st.hole x e y' hπ hl)
          have hei : e.1 ≠ i := fun e1 => hnp (by rw [hπ]; have : e = (i, false) := Prod.ext e1 h2; simp [this])
          exact (hEo _ hei).symm
    | true =>
      by_cases hpp : i ∈ pp
      · -- an allocation's place has come
        cases hl : L i with
        | false => exact ⟨V, E, F, π, (i, true) :: r, h, st, .inr ⟨i, r, rfl, (k.ppm i hpp).2.1, fun _ => hl⟩, fun _ _ _ => rfl, fun b h1 h2 => absurd h1 h2⟩
        | true =>
          have ea := st.early i hpp hl hnp
          have s := st.s
          simp only [sdraw, hpp, if_true] at s
          have s := s (B i) ea.off
          have hview : view ops T0 V (mn (π ++ [(i, true)])) = put (view ops T0 V (mn π)) (opAt ops i).dst (V i) :=
            view_put hi (fun j hj hne => k.dst i j hi hj hne) (by simp [mn]) (fun j hj hne => by simp [mn, hne])
          rw [← ea.val, ← hview] at s
          have hle : h.le (h.set (B i) (E i).1) := Heap.le_set _ ea.off
          refine fin V E F (h.set (B i) (E i).1) ⟨by rw [st.e]; simp, s, ?_, ?_, ?_, ?_, ?_, ?_, fun A hA => A.mono _ _ hle (st.f A hA)⟩ (fun _ _ _ => rfl) ?_
          · intro b o e
            by_cases hb : b = B i
            · subst hb; rw [Heap.set_same] at e; rw [ea.obj]; exact e
            · rw [Heap.set_other _ _ hb] at e; exact st.rel b o e
          · intro j hj hl2
            rcases st.lp j hj hl2 with h1 | h1
            · exact .inl (by simp [h1])
            · exact .inr ⟨h1.1, by simp [h1.2]⟩
          · intro j hj hl2 hn
            have hn1 : (j, true) ∉ π := fun h1 => hn (by simp [h1])
            have hji : j ≠ i := fun e => hn (by simp [e])
            have x := st.early j hj hl2 hn1
            refine ⟨x.val, ?_, x.obj, x.new⟩
            rw [Heap.set_other _ _ (fun e => hji (st.inj j i hj hpp hl2 hl hn1 hnp e))]
            exact x.off
          · intro j1 j2 a b c d e1 e2
            exact st.inj j1 j2 a b c d (fun h1 => e1 (by simp [h1])) (fun h1 => e2 (by simp [h1]))
          · intro j hj ha
            simp only [List.mem_append, List.mem_singleton, Prod.mk.injEq, and_true] at hj
            rcases hj with h1 | h1
            · exact st.act j h1 ha
            · rw [h1]; exact hl
          · intro x e y hx hl2
            rcases split_last hx with ⟨_, rfl, rfl⟩ | ⟨y', _, hπ⟩
            · rw [hl] at hl2; cases hl2
            · exact Hole.congr (fun _ _ => rfl) (fun _ => rfl) (fun _ => rfl) (fun _ h => h) (st.hole x e y' hπ hl2)
          · intro b h1 h2
            by_cases hb : b = B i
            · rw [hb]; exact ea.new
            · rw [Heap.set_other _ _ hb] at h2; exact absurd h1 h2
      · cases ha : isAct (opAt ops i).op with
        | true => exact ⟨V, E, F, π, (i, true) :: r, h, st, .inr ⟨i, r, rfl, ha, fun h1 => absurd h1 hpp⟩, fun _ _ _ => rfl, fun b h1 h2 => absurd h1 h2⟩
        | false =>
          have hL : L i = false := by
            cases hl : L i with
            | false => rfl
            | true =>
              rcases st.lp i hi hl with h1 | h1
              · exact absurd h1 hnp
              · exact absurd h1.1 hpp
          have hval : ∃ v F1, (∀ b, b ∈ F → b ∈ F1) ∧ (∀ A ∈ F1, RdA.on A h) ∧ sdraw P N ops pp loud Q r (put (view ops T0 V (mn π)) (opAt ops i).dst v) h F1 E ∧
              (if want ops (view ops T0 V (mn π)) (opAt ops i) then
                (if isRead (opAt ops i).op then ∃ A ∈ F1, ∀ g, RdA.on A g → ReadOp P (opAt ops i) (ev (view ops T0 V (mn π))) g v
                else PureOp P (opAt ops i) (ev (view ops T0 V (mn π))) v)
              else v = undef) := by
            have s := st.s
            simp only [sdraw, hpp, if_false] at s
            cases hw : want ops (view ops T0 V (mn π)) (opAt ops i) with
            | false => simp only [hw, Bool.false_eq_true, if_false] at s ⊢; exact ⟨undef, F, fun _ h => h, st.f, s, rfl⟩
            | true =>
              simp only [hw, if_true, ha, Bool.false_eq_true, if_false] at s ⊢
              cases hr : isRead (opAt ops i).op with
              | true =>
                simp only [hr, if_true] at s ⊢
                obtain ⟨v, A, hA, p, s⟩ := s
                refine ⟨v, A :: F, fun b hb => by simp [hb], fun B hB => ?_, s, A, by simp, p⟩
                rcases List.mem_cons.1 hB with rfl | hB
                · exact hA
                · exact st.f B hB
              | false => simp only [hr, Bool.false_eq_true, if_false] at s ⊢; obtain ⟨v, p, s⟩ := s; exact ⟨v, F, fun _ h => h, st.f, s, p⟩
          obtain ⟨v, F1, hF, hF1, s1, hv⟩ := hval
          let V1 : Nat → Value := fun j => if j = i then v else V j
          have hVi : V1 i = v := by simp [V1]
          have hV1 : ∀ j, j ≠ i → V1 j = V j := fun j hj => by simp [V1, hj]
          have evw : view ops T0 V (mn π) = view ops T0 V1 (mn π) := view_congr (fun _ _ => rfl) (fun j hj => (hV1 j (fun e => hnp (e ▸ mn_iff.1 hj))).symm)
          have hput : view ops T0 V1 (mn (π ++ [(i, true)])) = put (view ops T0 V (mn π)) (opAt ops i).dst v := by
            rw [evw, ← hVi]
            exact view_put hi (fun j hj hne => k.dst i j hi hj hne) (by simp [mn]) (fun j hj hne => by simp [mn, hne])
          rw [← hput] at s1
          refine fin V1 E F1 h ⟨by rw [st.e]; simp, s1, st.rel, ?_, ?_, ?_, ?_, ?_, hF1⟩ (fun j _ hl => hV1 j (fun e => by rw [e, hL] at hl; cases hl)) (fun b h1 h2 => absurd h1 h2)
          · intro j hj hl
            rcases st.lp j hj hl with h1 | h1
            · exact .inl (by simp [h1])
            · exact .inr ⟨h1.1, by simp [h1.2]⟩
          · intro j hj hl hn
            have hji : j ≠ i := fun e => hn (by simp [e])
            have x := st.early j hj hl (fun h1 => hn (by simp [h1]))
            exact ⟨by rw [hV1 j hji]; exact x.val, x.off, x.obj, x.new⟩
          · intro j1 j2 a b c d e1 e2
            exact st.inj j1 j2 a b c d (fun h1 => e1 (by simp [h1])) (fun h1 => e2 (by simp [h1]))
          · intro j hj ha2
            simp only [List.mem_append, List.mem_singleton, Prod.mk.injEq, and_true] at hj
            rcases hj with h1 | h1
            · exact st.act j h1 ha2
            · rw [h1, ha] at ha2; cases ha2
          · intro x e y hx hl
            rcases split_last hx with ⟨_, rfl, rfl⟩ | ⟨y', _, hπ⟩
            · refine Hole.congr (V := V1) (E := E) (F := F1) (fun _ _ => rfl) (fun _ => rfl) (fun _ => rfl) (fun _ h => h) ?_
              unfold Hole
              intro _ _
              rw [← evw, hVi]
              exact hv
            · refine Hole.congr (fun j hj => (hV1 j (fun e1 => hnp (by rw [hπ]; simp [← e1, hj]))).symm) (fun h2 => (hV1 _ (fun e1 => hnp (by rw [hπ]; have : e = (i, true) := Prod.ext e1 h2; simp [this]))).symm) (fun _ => rfl) hF (st.hole x e y' hπ hl)

structure DInv (P : Program) (N : Nat) (ops : Array Oper) (pp loud : List Nat) (Q : Tm → Heap → Prop) (τ : List Ent) (T0 : Tm) (h0 : Heap) (w0 : World) (L : Nat → Bool) (a : Act) (w : World) : Prop where
  mk :: (out : ∃ B V E F π r h, St P N ops pp loud Q τ T0 w0 L w B V E F π r h ∧ Stuck ops pp L r ∧ Step h0 h w0 w ∧ Reads N (view ops T0 V L) a ∧ (∀ i j, L i = true → j ∈ preds ops i → L j = true))

theorem looks_of {i j t : Nat} (ht : t ∈ (opAt ops i).looksAt ops) (hd : (opAt ops j).dst = some t) : looksDst ops i j = true := by
  simp only [looksDst, hd]; simpa using ht
/-- What an operation looks at is by the drawn order what it is by the one order. -/
theorem same_looks (k : DOk ops τ pp loud) {V : Nat → Value} {L : Nat → Bool} (hc : ∀ i j, L i = true → j ∈ preds ops i → L j = true) {x y : List Ent} {e : Ent} (he : τ = x ++ e :: y) (hlk : looksHere pp e = true)
    (hi : L e.1 = false) (hp : ∀ j ∈ preds ops e.1, L j = true) : ∀ t ∈ (opAt ops e.1).looksAt ops, view ops T0 V (mn x) t = view ops T0 V L t := by
  intro t ht
  unfold view
  cases hw : writer ops t with
  | none => rfl
  | some j =>
    obtain ⟨hj, hd⟩ := writer_spec hw
    have hl := looks_of (i := e.1) (j := j) ht hd
    have hjm := k.all j hj
    rw [he] at hjm
    rcases List.mem_append.1 hjm with h | h
    · have := (k.nam1 x y e he (j, true) h rfl hlk hl).ready (L := fun n => L n = true) hc hp
      simp only [mn_iff.2 h, if_true, this]
    · have hnx : (j, true) ∉ x := by
        rcases List.mem_cons.1 h with h1 | h1
        · rw [h1]; exact k.notin he
        · exact k.notin2 he h1
      have hL : L j = false := by
        rcases List.mem_cons.1 h with h1 | h1
        · rw [show j = e.1 from by rw [← h1]]; exact hi
        · by_cases hje : j = e.1
          · rw [hje]; exact hi
          · obtain ⟨y1, y2, rfl⟩ := List.append_of_mem h1
            have ha := k.nam2 (x ++ e :: y1) y2 (j, true) (by rw [he]; simp) e (by simp) hlk rfl hl (fun e1 => hje e1.symm)
            cases hLj : L j with
            | false => rfl
            | true =>
              have := ha.closed (L := fun n => L n = true) hc hLj
              rw [hi] at this; cases this
      simp [mn_false.2 hnx, hL]
theorem nosel (k : DOk ops τ pp loud) {i : Nat} (hi : i < ops.size) : ∀ cs b, (opAt ops i).op ≠ .select cs b := fun cs b =>
  Region.noSelect_spec k.sel i (opAt ops i) cs b (by simp [opAt, hi])
theorem getD_eq {listed : Array Bool} {n i : Nat} (hs : listed.size = n) (hi : i < n) : listed.getD i true = listed.getD i false := by
  simp [Array.getD_eq_getD_getElem?, hs, hi]
end
end Go.Proofs.Ytielfejpnkcjbaa.Sl

/- A region that draws its order (third part): every order comes to what the one order gives. -/
set_option linter.unusedVariables false
set_option linter.unusedSimpArgs false
namespace Go.Proofs.Ytielfejpnkcjbaa.Sl
section
variable {P : Program} {N : Nat} {ops : Array Oper} {pp loud : List Nat} {Q : Tm → Heap → Prop} {τ : List Ent} {T0 : Tm}
theorem draw_any (k : DOk ops τ pp loud) {Q' : Exit → Act → World → Prop} {h0 : Heap} {w0 : World}
    (hQ : ∀ T' h' a' w', Q T' h' → Rel h' w' → Step h0 h' w0 w' → Reads N T' a' → Q' .normal a' w')
    (hd : ∀ i, i < ops.size → ∀ t, (opAt ops i).dst = some t → t < N) :
    ∀ (fuel : Nat) (listed : Array Bool) (a : Act) (w : World), listed.size = ops.size → ((List.range ops.size).countP fun i => !listed.getD i false) ≤ fuel →
      DInv P N ops pp loud Q τ T0 h0 w0 (fun i => listed.getD i false) a w → wpAny P .any ops Q' fuel listed a w := by
  have hend : ∀ (listed : Array Bool) (a : Act) (w : World), listed.size = ops.size → DInv P N ops pp loud Q τ T0 h0 w0 (fun i => listed.getD i false) a w →
      (∀ i, i < ops.size → listed.getD i false = true) → Q' .normal a w := by
    intro listed a w hs inv hall
    obtain ⟨B, V, E, F, π, r, h, st, hstuck, stp, ra, hc⟩ := inv.out
    rcases hstuck with rfl | ⟨i, r', rfl, hi, hp⟩
    · have s := st.s
      simp only [sdraw] at s
      refine hQ _ h a w s st.rel stp ?_
      have e := st.e
      simp only [List.append_nil] at e
      have : view ops T0 V (mn π) = view ops T0 V (fun i => listed.getD i false) := by
        refine view_congr (fun i hi => ?_) (fun _ _ => rfl)
        have h2 := k.all i hi
        rw [e] at h2
        simp [mn_iff.2 h2, hall i hi]
      rw [this]; exact ra
    · exfalso
      have hlt := k.lt (i, true) (by rw [st.e]; simp)
      have hL := hall i hlt
      rcases st.lp i hlt hL with h1 | h1
      · exact k.notin st.e h1
      · have := hp h1.1; simp only [hL] at this; cases this
  have hready : ∀ (listed : Array Bool), listed.size = ops.size → Region.ready .any ops listed = [] → ∀ i, i < ops.size → listed.getD i false = true := by
    intro listed hs hr i
    induction i using Nat.strongRecOn with
    | _ i ih =>
      intro hi
      cases hl : listed.getD i false with
      | true => rfl
      | false =>
        exfalso
        have : i ∈ Region.ready .any ops listed := by
          rw [mem_ready]
          refine ⟨by rw [getD_eq hs hi]; exact hl, opAt ops i, by simp [opAt, hi], fun e he hb => ?_⟩
          have hm : e.on ∈ preds ops i := by
            have ho : ops[i]? = some (opAt ops i) := by simp [opAt, hi]
            simp only [preds, ho]
            exact List.mem_map.2 ⟨e, List.mem_filter.2 ⟨by simpa using he, hb⟩, rfl⟩
          have := k.edge i e.on hm
          exact ih e.on this (by omega)
        rw [hr] at this; cases this
  intro fuel
  induction fuel with
  | zero =>
    intro listed a w hs hf inv
    have hall : ∀ i, i < ops.size → listed.getD i false = true := by
      intro i hi
      have h0 : ((List.range ops.size).countP fun i => !listed.getD i false) = 0 := by omega
      have := List.countP_eq_zero.1 h0 i (List.mem_range.2 hi)
      simpa using this
    refine ⟨?_, hend listed a w hs inv hall⟩
    cases hr : Region.ready .any ops listed with
    | nil => rfl
    | cons i l =>
      have : i ∈ Region.ready .any ops listed := by rw [hr]; simp
      obtain ⟨h1, o, ho, _⟩ := mem_ready.1 this
      have hi : i < ops.size := (Array.getElem?_eq_some_iff.1 ho).1
      rw [getD_eq hs hi, hall i hi] at h1; cases h1
  | succ fuel ih =>
    intro listed a w hs hf inv
    refine ⟨fun hr => hend listed a w hs inv (hready listed hs hr), fun i hi => ?_⟩
    obtain ⟨hun, o, ho, hpre⟩ := mem_ready.1 hi
    have hlt : i < ops.size := (Array.getElem?_eq_some_iff.1 ho).1
    have hoi : o = opAt ops i := by simp [opAt, Array.getD_eq_getD_getElem?, ho]
    subst hoi
    have hun' : listed.getD i false = false := by rw [← getD_eq hs hlt]; exact hun
    obtain ⟨B, V, E, F, π, r, h, st, hstuck, stp, ra, hc⟩ := inv.out
    have hp : ∀ j ∈ preds ops i, listed.getD j false = true := by
      intro j hj
      simp only [preds, ho] at hj
      obtain ⟨e, he, rfl⟩ := List.mem_map.1 hj
      obtain ⟨h1, h2⟩ := List.mem_filter.1 he
      exact hpre e (by simpa using h1) h2
    have hL' : ∀ j, j < ops.size → (listed.setIfInBounds i true).getD j false = if j = i then true else listed.getD j false := by
      intro j hj
      by_cases hji : j = i
      · subst hji; simp [Array.getD_eq_getD_getElem?, Array.getElem?_setIfInBounds, hs, hlt]
      · rw [if_neg hji]; simp [Array.getD_eq_getD_getElem?, Array.getElem?_setIfInBounds_ne (fun e => hji e.symm)]
    have hLout : ∀ j, ¬ j < ops.size → (listed.setIfInBounds i true).getD j false = false := by
      intro j hj; rw [Array.getD_eq_getD_getElem?, Array.getElem?_eq_none (by simp [hs]; omega)]; rfl
    have hc' : ∀ m j, (listed.setIfInBounds i true).getD m false = true → j ∈ preds ops m → (listed.setIfInBounds i true).getD j false = true := by
      intro m j hm hj
      have hml : m < ops.size := by
        rcases Nat.lt_or_ge m ops.size with h1 | h1
        · exact h1
        · rw [hLout m (by omega)] at hm; cases hm
      have hjm := k.edge m j hj
      rw [hL' j (by omega)]
      rw [hL' m hml] at hm
      by_cases hji : j = i
      · simp [hji]
      · rw [if_neg hji]
        by_cases hmi : m = i
        · subst hmi; exact hp j hj
        · rw [if_neg hmi] at hm; exact hc m j hm hj
    have hcnt : ((List.range ops.size).countP fun j => !(listed.setIfInBounds i true).getD j false) ≤ fuel := by
      have hlt2 : ((List.range ops.size).countP fun j => !(listed.setIfInBounds i true).getD j false) < ((List.range ops.size).countP fun j => !listed.getD j false) := by
        have hsplit := List.append_of_mem (List.mem_range.2 hlt)
        obtain ⟨l1, l2, el⟩ := hsplit
        have hnd : (List.range ops.size).Nodup := List.nodup_range
        rw [el] at hnd ⊢
        have hmem : ∀ j ∈ l1 ++ i :: l2, j < ops.size := fun j hj => List.mem_range.1 (el ▸ hj)
        have hn1 : i ∉ l1 := by
          intro h1
          have := List.nodup_append.1 hnd
          exact this.2.2 i h1 i (by simp) rfl
        have hn2 : i ∉ l2 := by
          have := (List.nodup_append.1 hnd).2.1
          exact (List.nodup_cons.1 this).1
        simp only [List.countP_append, List.countP_cons]
        have e1 : l1.countP (fun j => !(listed.setIfInBounds i true).getD j false) = l1.countP (fun j => !listed.getD j false) := by
          refine List.countP_congr fun j hj => ?_
          rw [hL' j (hmem j (by simp [hj])), if_neg (show ¬ j = i from fun e' => hn1 (by rw [← e']; exact hj))]
        have e2 : l2.countP (fun j => !(listed.setIfInBounds i true).getD j false) = l2.countP (fun j => !listed.getD j false) := by
          refine List.countP_congr fun j hj => ?_
          rw [hL' j (hmem j (by simp [hj])), if_neg (show ¬ j = i from fun e' => hn2 (by rw [← e']; exact hj))]
        rw [e1, e2, hL' i hlt, hun']
        simp
      omega
    -- once the drawn order has done it, the one order goes on
    have go : ∀ (B' : Nat → Nat) (V' : Nat → Value) (E' : Env) (F' : List RdA) (π' r' : List Ent) (h' : Heap) (a' : Act) (w' : World),
        St P N ops pp loud Q τ T0 w0 (fun j => (listed.setIfInBounds i true).getD j false) w' B' V' E' F' π' r' h' → Step h0 h' w0 w' →
        Reads N (view ops T0 V' (fun j => (listed.setIfInBounds i true).getD j false)) a' → wpAny P .any ops Q' fuel (listed.setIfInBounds i true) a' w' := by
      intro B' V' E' F' π' r' h' a' w' st' stp' ra'
      obtain ⟨V2, E2, F2, π2, r2, h2, st2, sk2, hV2, hf2⟩ := advance k _ _ _ _ _ _ st'
      refine ih _ _ _ (by simp [hs]) hcnt ⟨B', V2, E2, F2, π2, r2, h2, st2, sk2, ?_, ?_, hc'⟩
      · refine ⟨stp'.os, stp'.tape, stp'.output, stp'.size, stp'.keep, fun b e1 e2 => ?_⟩
        by_cases e3 : h' b = none
        · exact hf2 b e3 e2
        · exact stp'.fresh b e1 e3
      · have : view ops T0 V2 (fun j => (listed.setIfInBounds i true).getD j false) = view ops T0 V' (fun j => (listed.setIfInBounds i true).getD j false) := by
          refine view_congr (fun _ _ => rfl) (fun j hj => ?_)
          by_cases hjl : j < ops.size
          · exact hV2 j hjl hj
          · simp only [hLout j hjl] at hj; cases hj
        rw [this]; exact ra'
    -- the one order is not stuck ahead of it
    have notstuck : ∀ e : Ent, e.1 = i → ¬ (e.2 = true ∧ e.1 ∈ pp) → e ∈ r → ∃ s, r = e :: s := by
      intro e he hb hm
      rcases hstuck with rfl | ⟨m, s, rfl, hma, hmp⟩
      · cases hm
      · rcases List.mem_cons.1 hm with h1 | h1
        · exact ⟨s, by rw [h1]⟩
        · exfalso
          obtain ⟨y1, y2, rfl⟩ := List.append_of_mem h1
          have han := k.ext (π ++ (m, true) :: y1) y2 e (by rw [st.e]; simp) (m, true) (by simp) rfl hma hb
          rw [he] at han
          have hml : listed.getD m false = true := han.ready (L := fun n => listed.getD n false = true) hc hp
          have hmlt := k.lt (m, true) (by rw [st.e]; simp)
          rcases st.lp m hmlt hml with h2 | h2
          · exact k.notin st.e h2
          · have := hmp h2.1; simp only [hml] at this; cases this
    have hview : ∀ V' : Nat → Value, (∀ j, j ≠ i → V' j = V j) → view ops T0 V' (fun j => (listed.setIfInBounds i true).getD j false) = put (view ops T0 V (fun j => listed.getD j false)) (opAt ops i).dst (V' i) := by
      intro V' hV'
      have e1 : view ops T0 V (fun j => listed.getD j false) = view ops T0 V' (fun j => listed.getD j false) :=
        view_congr (fun _ _ => rfl) (fun j hj => (hV' j (fun e => by rw [e, hun'] at hj; cases hj)).symm)
      rw [e1]
      exact view_put hlt (fun j hj hne => k.dst i j hlt hj hne) (by simp only [hL' i hlt, if_true]) (fun j hj hne => by simp only [hL' j hj, hne, if_false])
    unfold wpOp
    simp only [ho]
    by_cases hpp : i ∈ pp
    · -- an allocation whose place comes later
      obtain ⟨hpf, hact, hg⟩ := k.ppm i hpp
      have hnt : (i, true) ∉ π := fun h1 => by have := st.act i h1 hact; rw [hun'] at this; cases this
      have hfπ : (i, false) ∈ π := by
        have := hpf
        rw [st.e] at this
        rcases List.mem_append.1 this with h1 | h1
        · exact h1
        · exfalso
          obtain ⟨s, hs2⟩ := notstuck (i, false) rfl (by simp) h1
          rcases hstuck with h2 | ⟨m, s', h2, _⟩
          · rw [h2] at hs2; cases hs2
          · rw [h2] at hs2; simp at hs2
      obtain ⟨x, y, eπ⟩ := List.append_of_mem hfπ
      have eτ : τ = x ++ (i, false) :: (y ++ r) := by rw [st.e, eπ]; simp
      have hole := st.hole x (i, false) y eπ hun'
      unfold Hole at hole
      simp only at hole
      have hlk : looksHere pp (i, false) = true := by simp [looksHere, hpp]
      have hsame := same_looks (T0 := T0) k (V := V) (L := fun j => listed.getD j false) hc eτ hlk hun' hp
      have hw : Region.wanted (opAt ops i) (yielded ops a.tmps) = true := by simp [Region.wanted, hg]
      have hex : execOp a.eval (opAt ops i) = execOp (ev (view ops T0 V (mn x))) (opAt ops i) := by
        rw [ra.eval]; exact (ev_congr (nosel k hlt) (fun t ht => (hsame t ht).symm))
      simp only [hw, if_true]
      refine .inl ?_
      unfold Oper.wp
      rw [hex, hole w]
      let V1 : Nat → Value := fun j => if j = i then (E i).2 w.heap.size else V j
      let B1 : Nat → Nat := fun j => if j = i then w.heap.size else B j
      have hVi : V1 i = (E i).2 w.heap.size := by simp [V1]
      have hV1 : ∀ j, j ≠ i → V1 j = V j := fun j hj => by simp [V1, hj]
      have hBi : B1 i = w.heap.size := by simp [B1]
      have hB1 : ∀ j, j ≠ i → B1 j = B j := fun j hj => by simp [B1, hj]
      have hkeep : ∀ b, b < w.heap.size → (w.alloc (E i).1).heap[b]? = w.heap[b]? := fun b hb => heap_alloc w _ b hb
      have hmnv : view ops T0 V (mn π) = view ops T0 V1 (mn π) := view_congr (fun _ _ => rfl) (fun j hj => (hV1 j (fun e => hnt (e ▸ mn_iff.1 hj))).symm)
      refine go B1 V1 E F π r h _ (w.alloc (E i).1) ⟨st.e, by rw [← hmnv]; exact st.s, ?_, ?_, ?_, ?_, ?_, ?_, st.f⟩ ?_ ?_
      · intro b o e; rw [hkeep b (st.rel.lt e)]; exact st.rel b o e
      · intro j hj hl
        rw [hL' j hj] at hl
        by_cases hji : j = i
        · subst hji; exact .inr ⟨hpp, hfπ⟩
        · rw [if_neg hji] at hl; exact st.lp j hj hl
      · intro j hj hl hn
        by_cases hji : j = i
        · subst hji
          refine ⟨by rw [hVi, hBi], ?_, ?_, by rw [hBi]; exact stp.size⟩
          · rw [hBi]
            cases e : h w.heap.size with
            | none => rfl
            | some o => have := st.rel.lt e; omega
          · rw [hBi]; exact heap_alloc_new w _
        · have hjl := k.lt (j, false) (k.ppm j hj).1
          rw [hL' j hjl, if_neg hji] at hl
          have x := st.early j hj hl hn
          exact ⟨by rw [hV1 j hji, hB1 j hji]; exact x.val, by rw [hB1 j hji]; exact x.off, by rw [hB1 j hji, hkeep _ x.lt]; exact x.obj, by rw [hB1 j hji]; exact x.new⟩
      · intro j1 j2 a1 a2 b1 b2 c1 c2 e
        have hj1 := k.lt (j1, false) (k.ppm j1 a1).1
        have hj2 := k.lt (j2, false) (k.ppm j2 a2).1
        rw [hL' j1 hj1] at b1
        rw [hL' j2 hj2] at b2
        by_cases h1 : j1 = i <;> by_cases h2 : j2 = i
        · rw [h1, h2]
        · exfalso
          rw [if_neg h2] at b2
          rw [h1, hBi, hB1 j2 h2] at e
          have := (st.early j2 a2 b2 c2).lt
          omega
        · exfalso
          rw [if_neg h1] at b1
          rw [h2, hBi, hB1 j1 h1] at e
          have := (st.early j1 a1 b1 c1).lt
          omega
        · rw [if_neg h1] at b1
          rw [if_neg h2] at b2
          rw [hB1 j1 h1, hB1 j2 h2] at e
          exact st.inj j1 j2 a1 a2 b1 b2 c1 c2 e
      · intro j hj ha
        have hjl := k.lt (j, true) (by rw [st.e]; simp [hj])
        rw [hL' j hjl]
        by_cases hji : j = i
        · simp [hji]
        · rw [if_neg hji]; exact st.act j hj ha
      · intro x1 e y1 e1 hl
        have hel : e.1 < ops.size := k.lt e (by rw [st.e, e1]; simp)
        rw [hL' e.1 hel] at hl
        have hei : e.1 ≠ i := fun e2 => by simp [e2] at hl
        rw [if_neg hei] at hl
        exact Hole.congr (fun j hj => (hV1 j (fun e2 => hnt (by rw [e1]; simp [← e2, hj]))).symm) (fun _ => (hV1 _ hei).symm) (fun _ => rfl) (fun _ h => h) (st.hole x1 e y1 e1 hl)
      · exact ⟨stp.os, stp.tape, stp.output, Nat.le_trans stp.size (by rw [size_alloc]; omega), fun b hb hn => by rw [hkeep b (Nat.lt_of_lt_of_le hb stp.size)]; exact stp.keep b hb hn, stp.fresh⟩
      · rw [hview V1 hV1, hVi]; exact ra.put _ (hd i hlt) _
    · cases ha : isAct (opAt ops i).op with
      | false =>
        have hiπ : (i, true) ∈ π := by
          have := k.all i hlt
          rw [st.e] at this
          rcases List.mem_append.1 this with h1 | h1
          · exact h1
          · exfalso
            obtain ⟨s, hs2⟩ := notstuck (i, true) rfl (by simp [hpp]) h1
            rcases hstuck with h2 | ⟨m, s', h2, hma, _⟩
            · rw [h2] at hs2; cases hs2
            · rw [h2] at hs2
              simp only [List.cons.injEq, Prod.mk.injEq, and_true] at hs2
              rw [hs2.1, ha] at hma; cases hma
        obtain ⟨x, y, eπ⟩ := List.append_of_mem hiπ
        have eτ : τ = x ++ (i, true) :: (y ++ r) := by rw [st.e, eπ]; simp
        have hole := st.hole x (i, true) y eπ hun'
        unfold Hole at hole
        simp only at hole
        have hole := hole hpp ha
        have hlk : looksHere pp (i, true) = true := by simp [looksHere, hpp]
        have hsame := same_looks (T0 := T0) k (V := V) (L := fun j => listed.getD j false) hc eτ hlk hun' hp
        have hw : Region.wanted (opAt ops i) (yielded ops a.tmps) = want ops (view ops T0 V (mn x)) (opAt ops i) := by
          rw [ra.want, want_congr (fun t ht => (hsame t ht).symm)]
        have hex : execOp a.eval (opAt ops i) = execOp (ev (view ops T0 V (mn x))) (opAt ops i) := by
          rw [ra.eval]; exact (ev_congr (nosel k hlt) (fun t ht => (hsame t ht).symm))
        have next : wpAny P .any ops Q' fuel (listed.setIfInBounds i true) (a.put (opAt ops i).dst (V i)) w := by
          refine go B V E F π r h _ w ⟨st.e, st.s, st.rel, ?_, ?_, ?_, ?_, ?_, st.f⟩ stp ?_
          · intro j hj hl
            rw [hL' j hj] at hl
            by_cases hji : j = i
            · subst hji; exact .inl hiπ
            · rw [if_neg hji] at hl; exact st.lp j hj hl
          · intro j hj hl hn
            have hji : j ≠ i := fun e => hn (e ▸ hiπ)
            have hjl := k.lt (j, false) (k.ppm j hj).1
            rw [hL' j hjl, if_neg hji] at hl
            exact st.early j hj hl hn
          · intro j1 j2 a1 a2 b1 b2 c1 c2 e
            have hj1 := k.lt (j1, false) (k.ppm j1 a1).1
            have hj2 := k.lt (j2, false) (k.ppm j2 a2).1
            have h1 : j1 ≠ i := fun e => c1 (e ▸ hiπ)
            have h2 : j2 ≠ i := fun e => c2 (e ▸ hiπ)
            rw [hL' j1 hj1, if_neg h1] at b1
            rw [hL' j2 hj2, if_neg h2] at b2
            exact st.inj j1 j2 a1 a2 b1 b2 c1 c2 e
          · intro j hj ha2
            have hjl := k.lt (j, true) (by rw [st.e]; simp [hj])
            rw [hL' j hjl]
            by_cases hji : j = i
            · simp [hji]
            · rw [if_neg hji]; exact st.act j hj ha2
          · intro x1 e y1 e1 hl
            have hel : e.1 < ops.size := k.lt e (by rw [st.e, e1]; simp)
            rw [hL' e.1 hel] at hl
            have hei : e.1 ≠ i := fun e2 => by simp [e2] at hl
            rw [if_neg hei] at hl
            exact st.hole x1 e y1 e1 hl
          · rw [hview V (fun _ _ => rfl)]; exact ra.put _ (hd i hlt) _
        rw [hw]
        cases hwant : want ops (view ops T0 V (mn x)) (opAt ops i) with
        | false =>
          simp only [hwant, Bool.false_eq_true, if_false] at hole ⊢
          rw [hole] at next
          exact next
        | true =>
          simp only [hwant, if_true] at hole ⊢
          have hrun : (execOp a.eval (opAt ops i)).run P w = .ok (.value (V i)) w := by
            rw [hex]
            cases hrd : isRead (opAt ops i).op with
            | true =>
              simp only [hrd, if_true] at hole
              obtain ⟨A, hA, q⟩ := hole
              exact q h (st.f A hA) w st.rel
            | false => simp only [hrd, Bool.false_eq_true, if_false] at hole; exact hole w
          refine .inl ?_
          unfold Oper.wp
          rw [hrun]
          exact next
      | true =>
        have hnt : (i, true) ∉ π := fun h1 => by have := st.act i h1 ha; rw [hun'] at this; cases this
        have hr : ∃ s, r = (i, true) :: s := by
          have := k.all i hlt
          rw [st.e] at this
          rcases List.mem_append.1 this with h1 | h1
          · exact absurd h1 hnt
          · exact notstuck (i, true) rfl (by simp [hpp]) h1
        obtain ⟨r', rfl⟩ := hr
        have hlk : looksHere pp (i, true) = true := by simp [looksHere, hpp]
        have hsame := same_looks (T0 := T0) k (V := V) (L := fun j => listed.getD j false) hc st.e hlk hun' hp
        have hw : Region.wanted (opAt ops i) (yielded ops a.tmps) = want ops (view ops T0 V (mn π)) (opAt ops i) := by
          rw [ra.want, want_congr (fun t ht => (hsame t ht).symm)]
        have hex : execOp a.eval (opAt ops i) = execOp (ev (view ops T0 V (mn π))) (opAt ops i) := by
          rw [ra.eval]; exact (ev_congr (nosel k hlt) (fun t ht => (hsame t ht).symm))
        have next : ∀ v h' w' a' F', sdraw P N ops pp loud Q r' (put (view ops T0 V (mn π)) (opAt ops i).dst v) h' F' E →
            ((i ∈ loud ∧ F' = []) ∨ (F' = F ∧ ∀ A ∈ F, A.on h → A.on h')) → Rel h' w' → Step h h' w w' →
            Reads N (put (view ops T0 V (fun j => listed.getD j false)) (opAt ops i).dst v) a' → wpAny P .any ops Q' fuel (listed.setIfInBounds i true) a' w' := by
          intro v h' w' a' F' s' hl r1 st1 ra1
          let V1 : Nat → Value := fun j => if j = i then v else V j
          have hVi : V1 i = v := by simp [V1]
          have hV1 : ∀ j, j ≠ i → V1 j = V j := fun j hj => by simp [V1, hj]
          have ev1 : view ops T0 V (mn π) = view ops T0 V1 (mn π) := view_congr (fun _ _ => rfl) (fun j hj => (hV1 j (fun e' => hnt (e' ▸ mn_iff.1 hj))).symm)
          have hput : view ops T0 V1 (mn (π ++ [(i, true)])) = put (view ops T0 V (mn π)) (opAt ops i).dst v := by
            rw [ev1, ← hVi]
            exact view_put hlt (fun j hj hne => k.dst i j hlt hj hne) (by simp [mn]) (fun j hj hne => by simp [mn, hne])
          rw [← hput] at s'
          refine go B V1 E F' (π ++ [(i, true)]) r' h' a' w' ⟨by rw [st.e]; simp, s', r1, ?_, ?_, ?_, ?_, ?_, fun A hA => by
            rcases hl with ⟨_, rfl⟩ | ⟨rfl, hl⟩
            · cases hA
            · exact hl A hA (st.f A hA)⟩ (stp.trans st1) (by rw [hview V1 hV1, hVi]; exact ra1)
          · intro j hj hl2
            rw [hL' j hj] at hl2
            by_cases hji : j = i
            · subst hji; exact .inl (by simp)
            · rw [if_neg hji] at hl2
              rcases st.lp j hj hl2 with h1 | h1
              · exact .inl (by simp [h1])
              · exact .inr ⟨h1.1, by simp [h1.2]⟩
          · intro j hj hl2 hn
            have hji : j ≠ i := fun e => hpp (e ▸ hj)
            have hjl := k.lt (j, false) (k.ppm j hj).1
            rw [hL' j hjl, if_neg hji] at hl2
            have x := st.early j hj hl2 (fun h1 => hn (by simp [h1]))
            refine ⟨by rw [hV1 j hji]; exact x.val, ?_, ?_, x.new⟩
            · cases e : h' (B j) with
              | none => rfl
              | some o =>
                have := st1.fresh (B j) x.off (by rw [e]; simp)
                have := x.lt
                omega
            · rw [st1.keep (B j) x.lt x.off]; exact x.obj
          · intro j1 j2 a1 a2 b1 b2 c1 c2 e
            have hj1 := k.lt (j1, false) (k.ppm j1 a1).1
            have hj2 := k.lt (j2, false) (k.ppm j2 a2).1
            have h1 : j1 ≠ i := fun e => hpp (e ▸ a1)
            have h2 : j2 ≠ i := fun e => hpp (e ▸ a2)
            rw [hL' j1 hj1, if_neg h1] at b1
            rw [hL' j2 hj2, if_neg h2] at b2
            exact st.inj j1 j2 a1 a2 b1 b2 (fun h1 => c1 (by simp [h1])) (fun h1 => c2 (by simp [h1])) e
          · intro j hj ha2
            have hjl : j < ops.size := k.lt (j, true) (by
              rw [st.e]
              simp only [List.mem_append, List.mem_singleton, List.mem_cons] at hj ⊢
              rcases hj with h1 | h1
              · exact .inl h1
              · exact .inr (.inl (by simpa using h1)))
            rw [hL' j hjl]
            by_cases hji : j = i
            · simp [hji]
            · rw [if_neg hji]
              simp only [List.mem_append, List.mem_singleton, Prod.mk.injEq, and_true] at hj
              rcases hj with h1 | h1
              · exact st.act j h1 ha2
              · exact absurd h1 hji
          · intro x1 e y1 e1 hl2
            rcases split_last e1 with ⟨_, rfl, rfl⟩ | ⟨y', _, hπ⟩
            · simp only [hL' i hlt, if_true] at hl2; cases hl2
            · have hel : e.1 < ops.size := k.lt e (by rw [st.e, hπ]; simp)
              rw [hL' e.1 hel] at hl2
              have hei : e.1 ≠ i := fun e2 => by simp [e2] at hl2
              rw [if_neg hei] at hl2
              have hole := st.hole x1 e y' hπ hl2
              have hvx : ∀ j, (j, true) ∈ x1 → V j = V1 j := fun j hj => (hV1 j (fun e2 => hnt (by rw [hπ]; simp [← e2, hj]))).symm
              rcases hl with ⟨hl, rfl⟩ | ⟨rfl, hl⟩
              · -- it is ordered against all that reads: none is open
                have ee : view ops T0 V (mn x1) = view ops T0 V1 (mn x1) := view_congr (fun _ _ => rfl) (fun i hi => hvx i (mn_iff.1 hi))
                unfold Hole at hole ⊢
                rw [← ee]
                cases h2 : e.2 with
                | false => simp only [h2] at hole ⊢; exact hole
                | true =>
                  simp only [h2] at hole ⊢
                  rw [hV1 _ hei]
                  intro hep hea
                  have hole := hole hep hea
                  split
                  · rename_i hwn
                    simp only [hwn, if_true] at hole
                    split
                    · rename_i hrd
                      exfalso
                      have han := k.rd π r' (i, true) st.e e (by rw [hπ]; simp) h2 hrd hea rfl hl
                      have := han.ready (L := fun n => listed.getD n false = true) hc hp
                      rw [hl2] at this; cases this
                    · rename_i hrd; simpa [hrd] using hole
                  · rename_i hwn; simpa [hwn] using hole
              · exact Hole.congr hvx (fun _ => (hV1 _ hei).symm) (fun _ => rfl) (fun _ h => h) hole
        have s := st.s
        simp only [sdraw, hpp, if_false] at s
        rw [hw]
        cases hwant : want ops (view ops T0 V (mn π)) (opAt ops i) with
        | false =>
          simp only [hwant, Bool.false_eq_true, if_false] at s ⊢
          exact next undef h w _ F s (.inr ⟨rfl, fun _ _ h => h⟩) st.rel (Step.refl _ _) (ra.put _ (hd i hlt) _)
        | true =>
          simp only [hwant, if_true, ha] at s ⊢
          refine .inl ?_
          unfold Oper.wp
          rw [hex]
          have s2 : SOp P (opAt ops i) (ev (view ops T0 V (mn π))) h (fun v h' => ∃ F', sdraw P N ops pp loud Q r' (put (view ops T0 V (mn π)) (opAt ops i).dst v) h' F' E ∧
              ((i ∈ loud ∧ F' = []) ∨ (F' = F ∧ ∀ A ∈ F, A.on h → A.on h'))) := by
            by_cases hl : i ∈ loud
            · simp only [hl, if_true] at s
              exact s.mono fun v h' x => ⟨[], x, .inl ⟨hl, rfl⟩⟩
            · simp only [hl, if_false] at s
              exact s.mono fun v h' x => ⟨F, x.2, .inr ⟨rfl, x.1⟩⟩
          rcases s2 w st.rel with ⟨v, w', h', e1 | ⟨rfl, e1⟩, ⟨F', s', hl⟩, r1, st1⟩ | ⟨f, args, w', e1, hh1, ho1, ht1, hu1, c⟩
          · rw [e1]; exact next v h' w' _ F' s' hl r1 st1 (ra.put _ (hd i hlt) v)
          · rw [e1]; exact next _ h' w' _ F' s' hl r1 st1 (ra.put _ (hd i hlt) _)
          · rw [e1]
            refine (c w' (fun b o eb => by rw [hh1]; exact st.rel b o eb)).mono ?_
            rintro e' w'' ⟨v, h', rfl, ⟨F', s', hl⟩, r1, st1⟩
            refine next v h' w'' _ F' s' hl r1 ⟨st1.os.trans ho1, st1.tape.trans ht1, st1.output.trans hu1, by rw [← hh1]; exact st1.size, fun b hb hn => ?_, fun b h1 h2 => by rw [← hh1]; exact st1.fresh b h1 h2⟩ (ra.put _ (hd i hlt) v)
            rw [← hh1] at hb ⊢
            exact st1.keep b hb hn

/-- A region that draws its order comes to what the one order gives. -/
theorem s_draw {id : Nat} {Q : Exit → Tm → Heap → Prop} {T : Tm} {h : Heap} (τ : List Ent) (pp loud : List Nat) (hm : P.follows .mixedOrders = true) (hk : drawOk ops τ pp loud = true)
    (hdN : (List.range ops.size).all (fun i => match (opAt ops i).dst with | some t => t < N | none => true) = true)
    (s : sdraw P N ops pp loud (Q .normal) τ T h [] (fun _ => default)) : SCode P N (.region id ops true) Q T h := fun w a r ra => by
  have k := drawOk_spec hk
  have hd : ∀ i, i < ops.size → ∀ t, (opAt ops i).dst = some t → t < N := by
    intro i hi t ht
    have := List.all_eq_true.1 hdN i (List.mem_range.2 hi)
    simpa [ht] using this
  refine wp_region_any hm ?_
  have v0 : view ops T (fun _ => undef) (mn []) = T := by funext t; unfold view; cases writer ops t <;> simp [mn]
  have hL : ∀ i, (Array.replicate ops.size false).getD i false = false := by
    intro i; simp only [Array.getD_eq_getD_getElem?]
    rcases Nat.lt_or_ge i ops.size with h1 | h1
    · simp [h1]
    · rw [Array.getElem?_eq_none (by simpa using h1)]; rfl
  have st0 : St P N ops pp loud (Q .normal) τ T w (fun i => (Array.replicate ops.size false).getD i false) w (fun _ => 0) (fun _ => undef) (fun _ => default) [] [] τ h := by
    refine ⟨rfl, by rw [v0]; exact s, r, ?_, ?_, ?_, ?_, ?_, by simp⟩
    · intro i _ hi; simp only [hL i] at hi; cases hi
    · intro i _ hi; simp only [hL i] at hi; cases hi
    · intro i _ _ _ hi; simp only [hL i] at hi; cases hi
    · intro i hi; cases hi
    · intro x e y e1; simp at e1
  obtain ⟨V', E', F', π', r', h', st', sk, _, hf⟩ := advance k _ _ _ _ _ _ st0
  refine draw_any (T0 := T) (h0 := h) (w0 := w) k (Q := Q .normal) (fun T' h' a' w' q r' st ra' => ⟨T', h', q, r', st, ra'⟩) hd _ _ _ _ (by simp) ?_ ?_
  · exact Nat.le_trans (List.countP_le_length) (by simp)
  · refine ⟨fun _ => 0, V', E', F', π', r', h', ?_, sk, ?_, ?_, ?_⟩
    · exact { e := st'.e, s := st'.s, rel := st'.rel, lp := st'.lp, early := fun i a b c => let x := st'.early i a b c; ⟨x.val, x.off, x.obj, x.new⟩, inj := st'.inj, act := st'.act, hole := st'.hole, f := st'.f }
    · exact ⟨rfl, rfl, rfl, Nat.le_refl _, fun _ _ _ => rfl, fun b e1 e2 => hf b e1 e2⟩
    · have : view ops T V' (fun i => (Array.replicate ops.size false).getD i false) = T := by
        funext t; unfold view
        cases writer ops t with
        | none => rfl
        | some i => simp only [hL i]; rfl
      rw [this]; exact ⟨ra.size, ra.at_, ra.out, ra.defers⟩
    · intro i j hi; simp only [hL i] at hi; cases hi
end
end Go.Proofs.Ytielfejpnkcjbaa.Sl

/- The rules for single operations: what is reckoned of slots alone, what is read, what acts. -/
set_option linter.unusedVariables false
set_option linter.unusedSimpArgs false
namespace Go.Proofs.Ytielfejpnkcjbaa.Sl

/-! ### 1. What is reckoned of the slots alone -/
def intBin (op : BinOp) (k : IntKind) (a b : Int) : Option Value :=
  match op with
  | .add => some (.int k (k.wrap (a + b)))
  | .sub => some (.int k (k.wrap (a - b)))
  | .mul => some (.int k (k.wrap (a * b)))
  | .and => some (.int k (k.wrap (BitVec.ofInt k.bits a &&& BitVec.ofInt k.bits b).toNat))
  | .or => some (.int k (k.wrap (BitVec.ofInt k.bits a ||| BitVec.ofInt k.bits b).toNat))
  | .xor => some (.int k (k.wrap (BitVec.ofInt k.bits a ^^^ BitVec.ofInt k.bits b).toNat))
  | .andNot => some (.int k (k.wrap (BitVec.ofInt k.bits a &&& ~~~(BitVec.ofInt k.bits b)).toNat))
  | .eql => some (.bool (a == b))
  | .neq => some (.bool (a != b))
  | .lss => some (.bool (decide (a < b)))
  | .leq => some (.bool (decide (a ≤ b)))
  | .gtr => some (.bool (decide (a > b)))
  | .geq => some (.bool (decide (a ≥ b)))
  | _ => none
def binVal (op : BinOp) (a b : Value) : Option Value :=
  match op, a, b with
  | .shl, _, _ | .shr, _, _ => none
  | op, .int k a, .int k' b => if k = k' then intBin op k a b else none
  | _, _, _ => none
def pval (P : Program) (ρ : Operand → Value) : Op → Option Value
  | .move x | .assign x => some (ρ x)
  | .pick c a b => match ρ c with
    | .bool t => some (bif t then ρ a else ρ b)
    | _ => none
  | .binOp op _ x y _ => binVal op (ρ x) (ρ y)
  | .unOp .not _ x => match ρ x with
    | .bool b => some (.bool (!b))
    | _ => none
  | .nilCheck x => match ρ x with
    | .pointer (some a) => some (.pointer (some a))
    | .func (.func f) first captured => some (.func (.func f) first captured)
    | _ => none
  | .fieldAddr t x f => match ρ x, P.underlying t with
    | .pointer (some ⟨b, off, none⟩), some (.struct fs) => match fs[f]? with
      | some fd => if P.cellsOf fd.type = 0 then none else some (.pointer (some ⟨b, off + fd.offset, none⟩))
      | none => none
    | _, _ => none
  | .field t x f => match ρ x, P.underlying t with
    | .agg cs, some (.struct fs) => match fs[f]? with
      | some fd => match P.underlying fd.type with
        | some (.struct _) | some (.array _ _) => some (.agg (cs.extract fd.offset (fd.offset + P.cellsOf fd.type)))
        | some _ => cs[fd.offset]?
        | none => none
      | none => none
    | _, _ => none
  | .extract t i => match ρ t with
    | .tuple vs => vs[i]?
    | _ => none
  | .build t parts => (P.built t (parts.map fun (i, x) => (i, ρ x)).toList).map .agg
  | .makeFunc fn first captured => some (.func fn (first.map ρ) (captured.map ρ))
  | .makeInterface t x => match P.underlying t with
    | some (.interface _) => none
    | some _ => some (.iface t (ρ x))
    | none => none
  | _ => none
section
variable {P : Program} {o : Oper} {ρ : Operand → Value} {h : Heap}
theorem run_cellsOf (t : TypeId) (w : World) (ht : (P.info? t).isSome = true) : (sizeOf t).run P w = .ok (P.cellsOf t) w := by
  obtain ⟨i, hi⟩ := Option.isSome_iff_exists.1 ht
  simp [sizeOf, typeInfo, hi, Program.cellsOf]
theorem info_of_underlying {t : TypeId} {d : TypeDesc} (h : P.underlying t = some d) : (P.info? t).isSome = true := by
  unfold Program.underlying at h
  cases hi : P.info? t with
  | none => rw [hi] at h; cases h
  | some i => rfl
theorem run_intBin {op : BinOp} {k : IntKind} {a b : Int} {v : Value} (hv : intBin op k a b = some v) (t : TypeId) (x y : Operand) (w : World) :
    (do eqGuard op t x y (.int k a) (.int k b); binOp op t (.int k a) (.int k b) : Sem Value).run P w = .ok v w := by
  cases op <;> simp only [intBin, Option.some.injEq, reduceCtorEq] at hv <;> subst hv <;>
    first
      | (simp [eqGuard, binOp, Op.intArith]; done)
      | (simp [eqGuard, binOp, Op.intBits]; done)
      | (simp [eqGuard, binOp, Op.intCmp]; done)
theorem p_val {v : Value} (hv : pval P ρ o.op = some v) : PureOp P o ρ v := by
  intro w
  obtain ⟨dst, op, type, pos, after, guard⟩ := o
  simp only at hv
  cases op <;> simp only [pval, reduceCtorEq] at hv
  case move x => simp only [Option.some.injEq] at hv; subst hv; simp [execOp]
  case assign x => simp only [Option.some.injEq] at hv; subst hv; simp [execOp]
  case pick c a b =>
    cases hc : ρ c <;> (try simp only [hc, reduceCtorEq] at hv)
    rename_i t
    simp only [Option.some.injEq] at hv; subst hv
    cases t <;> simp [execOp, hc, asBool]
  case binOp op t x y ty =>
    simp only [execOp]
    unfold binVal at hv
    split at hv <;> (try simp only [reduceCtorEq] at hv)
    rename_i op k a k' b h1 h2 hx hy
    split at hv
    · rename_i hk
      subst hk
      have := run_intBin (P := P) hv t x y w
      rw [hx, hy]
      simp only [Sem.run_bind, this, Result.andThen_ok, Sem.run_pure]
    · cases hv
  case unOp u t x =>
    cases u <;> (try simp only [reduceCtorEq] at hv)
    cases hx : ρ x <;> (try simp only [hx, reduceCtorEq] at hv)
    simp only [Option.some.injEq] at hv; subst hv
    simp [execOp, hx, Op.unary]
  case nilCheck x =>
    cases hx : ρ x <;> (try simp only [hx, reduceCtorEq] at hv)
    · rename_i a
      cases a <;> (try simp only [reduceCtorEq] at hv)
      simp only [Option.some.injEq] at hv; subst hv
      simp [execOp, hx]
    · rename_i fn first captured
      cases fn <;> (try simp only [reduceCtorEq] at hv)
      simp only [Option.some.injEq] at hv; subst hv
      simp [execOp, hx]
  case fieldAddr t x f =>
    split at hv <;> (try simp only [reduceCtorEq] at hv)
    rename_i b off fs hx hu
    split at hv <;> (try simp only [reduceCtorEq] at hv)
    rename_i fd hf
    split at hv
    · cases hv
    · rename_i hz
      simp only [Option.some.injEq] at hv; subst hv
      have hs : (sizeOf fd.type).run P w = .ok (P.cellsOf fd.type) w := by
        refine run_cellsOf _ _ ?_
        cases hi : P.info? fd.type with
        | none => simp [Program.cellsOf, hi] at hz
        | some i => rfl
      have ha : (Addr.mk b off none).add fd.offset = ⟨b, off + fd.offset, none⟩ := by unfold Addr.add; split <;> simp_all
      simp only [execOp, Instr.fieldAt, Sem.run_bind, run_underlying hu, Result.andThen_ok, hf, Instr.sureAddr, hx, Sem.run_pure, fieldPlace, hs, Sem.run_ite, if_neg hz, ha]
  case field t x f =>
    split at hv <;> (try simp only [reduceCtorEq] at hv)
    rename_i cs fs hx hu
    split at hv <;> (try simp only [reduceCtorEq] at hv)
    rename_i fd hf
    simp only [execOp, Instr.field, Sem.run_bind, run_underlying hu, Result.andThen_ok, hf, asAgg, hx, Sem.run_pure, part, isAgg]
    split at hv
    · rename_i hu2
      simp only [Option.some.injEq] at hv; subst hv
      simp [run_underlying hu2, run_cellsOf _ _ (info_of_underlying hu2)]
    · rename_i hu2
      simp only [Option.some.injEq] at hv; subst hv
      simp [run_underlying hu2, run_cellsOf _ _ (info_of_underlying hu2)]
    · rename_i d h1 h2 hu2
      rw [run_underlying hu2]
      cases d <;> simp_all
    · cases hv
  case extract t i =>
    cases hx : ρ t <;> (try simp only [hx, reduceCtorEq] at hv)
    simp [execOp, hx, Instr.extract, hv]
  case build t parts =>
    cases hb : P.built t (parts.map fun (i, x) => (i, ρ x)).toList with
    | none => rw [hb] at hv; cases hv
    | some cells =>
      rw [hb] at hv
      simp only [Option.map_some, Option.some.injEq] at hv; subst hv
      simp only [execOp, Sem.run_bind, run_build w t _ cells hb, Result.andThen_ok, Sem.run_pure]
  case makeFunc fn first captured =>
    simp only [Option.some.injEq] at hv; subst hv
    simp [execOp, Instr.makeFunc]
  case makeInterface t x =>
    split at hv
    · cases hv
    · rename_i d h1 hu
      simp only [Option.some.injEq] at hv; subst hv
      simp only [execOp, Instr.makeInterface, Sem.run_bind, run_underlying hu, Result.andThen_ok]
      cases d <;> first | (simp_all; done) | rfl
    · cases hv

/-! ### 2. What is read -/
theorem Rel.cell {w : World} (r : Rel h w) {b : Nat} {cs : Array Value} {e : TypeId} {fz : Nat × Nat} (hb : h b = some (.cells cs e fz)) (j : Nat) : w.cell? ⟨b, j, none⟩ = cs[j]? := by
  have := r b _ hb
  simp [World.cell?, this]
/-- A load of one cell. -/
theorem r_load1 {t : TypeId} {x : Operand} {b off : Nat} {cs : Array Value} {e : TypeId} {fz : Nat × Nat} {v : Value} {d : TypeDesc} (ho : o.op = .load t x) (hu : P.underlying t = some d) (hd : (match d with | .struct _ | .array _ _ => false | _ => true) = true)
    (hx : ρ x = .pointer (some ⟨b, off, none⟩)) (hb : h b = some (.cells cs e fz)) (hc : cs[off]? = some v) : ReadOp P o ρ h v := by
  intro w r
  have hcell := (r.cell hb off).trans hc
  cases d <;> first | (simp at hd; done) | simp [execOp, ho, Instr.loadAt, loadVar, isAgg, run_underlying hu, Instr.sureAddr, hx, load, Sem.run, hcell]
/-- A load of a struct or an array. -/
theorem r_loadN {t : TypeId} {x : Operand} {b off : Nat} {cs : Array Value} {e : TypeId} {fz : Nat × Nat} {d : TypeDesc} (ho : o.op = .load t x) (hu : P.underlying t = some d) (hd : (match d with | .struct _ | .array _ _ => true | _ => false) = true)
    (hx : ρ x = .pointer (some ⟨b, off, none⟩)) (hb : h b = some (.cells cs e fz)) {n : Nat} (hn : P.cellsOf t = n) (hc : off + n ≤ cs.size) : ReadOp P o ρ h (.agg (cs.extract off (off + n))) := by
  intro w r
  subst hn
  have hl : (loadCells ⟨b, off, none⟩ (P.cellsOf t)).run P w = .ok (cs.extract off (off + P.cellsOf t)) w := by
    have hs : (cs.extract off (off + P.cellsOf t)).toList.length = P.cellsOf t := by simp; omega
    have := run_loadCells_list (P := P) (w := w) ⟨b, off, none⟩ (cs.extract off (off + P.cellsOf t)).toList (fun j v hj => by
      have ha : (Addr.mk b off none).add j = ⟨b, off + j, none⟩ := by unfold Addr.add; split <;> simp_all
      rw [ha, r.cell hb]
      rw [Array.getElem?_toList, Array.getElem?_extract] at hj
      split at hj
      · exact hj
      · cases hj)
    rw [hs, Array.toArray_toList] at this
    exact this
  cases d <;> first | (simp at hd; done) | simp [execOp, ho, Instr.loadAt, loadVar, isAgg, run_underlying hu, Instr.sureAddr, hx, run_cellsOf _ _ (info_of_underlying hu), hl]
/-- An element's address in a slice. -/
theorem p_indexAddr {t e : TypeId} {x ix : Operand} {b off n c : Nat} {k : IntKind} {i : Int} {sz : Nat} (ho : o.op = .indexAddr t x ix) (hu : P.underlying t = some (.slice e)) (hs : P.cellsOf e = sz) (he : (P.info? e).isSome = true)
    (hx : ρ x = .slice (some ⟨b, off, none⟩) n c) (hi : ρ ix = .int k i) (h0 : 0 ≤ i) (h1 : i < n) : PureOp P o ρ (.pointer (some ⟨b, off + i.toNat * sz, none⟩)) := by
  intro w
  subst hs
  have ha : (Addr.mk b off none).add (i.toNat * P.cellsOf e) = ⟨b, off + i.toNat * P.cellsOf e, none⟩ := by unfold Addr.add; split <;> simp_all
  have hc : 0 ≤ i ∧ i < n := ⟨h0, h1⟩
  simp [execOp, ho, Instr.indexAt, hi, asIntOf, run_underlying hu, hx, hc, run_cellsOf _ _ he, ha]
/-- An element's address in an array. -/
theorem p_indexAddrA {t e : TypeId} {x ix : Operand} {b off n : Nat} {k : IntKind} {i : Int} {sz : Nat} (ho : o.op = .indexAddr t x ix) (hu : P.underlying t = some (.array n e)) (hs : P.cellsOf e = sz) (he : (P.info? e).isSome = true)
    (hx : ρ x = .pointer (some ⟨b, off, none⟩)) (hi : ρ ix = .int k i) (h0 : 0 ≤ i) (h1 : i < n) : PureOp P o ρ (.pointer (some ⟨b, off + i.toNat * sz, none⟩)) := by
  intro w
  subst hs
  have ha : (Addr.mk b off none).add (i.toNat * P.cellsOf e) = ⟨b, off + i.toNat * P.cellsOf e, none⟩ := by unfold Addr.add; split <;> simp_all
  have hc : 0 ≤ i ∧ i < n := ⟨h0, h1⟩
  simp [execOp, ho, Instr.indexAt, hi, asIntOf, run_underlying hu, hx, hc, run_cellsOf _ _ he, ha, Instr.sureAddr]
theorem r_len_slice {x : Operand} {t e : TypeId} {a : Option Addr} {n c : Nat} (ho : o.op = .call ⟨.builtin .len, #[x], #[t]⟩) (hu : P.underlying t = some (.slice e)) (hx : ρ x = .slice a n c) :
    ReadOp P o ρ h (.int .i64 n) := by
  intro w r
  simp [execOp, ho, resolve, invoke, builtin, Builtin.len_, hx, run_underlying hu, goInt]
theorem r_len_string {x : Operand} {t : TypeId} {s : ByteArray} (ho : o.op = .call ⟨.builtin .len, #[x], #[t]⟩) (hu : P.underlying t = some .string) (hx : ρ x = .string s) :
    ReadOp P o ρ h (.int .i64 s.size) := by
  intro w r
  simp [execOp, ho, resolve, invoke, builtin, Builtin.len_, hx, run_underlying hu, goInt]
theorem r_len_map {x : Operand} {t k e : TypeId} {b : Nat} {es : Array MapEntry} {cl : Nat} (ho : o.op = .call ⟨.builtin .len, #[x], #[t]⟩) (hu : P.underlying t = some (.map k e)) (hx : ρ x = .map (some b)) (hb : h b = some (.map es cl)) :
    ReadOp P o ρ h (.int .i64 es.size) := by
  intro w r
  have := r b _ hb
  simp [execOp, ho, resolve, invoke, builtin, Builtin.len_, hx, run_underlying hu, goInt, getObj, Sem.run, this]
theorem r_len_map_nil {x : Operand} {t k e : TypeId} (ho : o.op = .call ⟨.builtin .len, #[x], #[t]⟩) (hu : P.underlying t = some (.map k e)) (hx : ρ x = .map none) : ReadOp P o ρ h (.int .i64 0) := by
  intro w r
  simp [execOp, ho, resolve, invoke, builtin, Builtin.len_, hx, run_underlying hu, goInt]
theorem r_min2 {x y : Operand} {tys : Array TypeId} {k : IntKind} {a b : Int} (ho : o.op = .call ⟨.builtin .min, #[x, y], tys⟩) (hx : ρ x = .int k a) (hy : ρ y = .int k b) : ReadOp P o ρ h (.int k (if b < a then b else a)) := by
  intro w r
  simp [execOp, ho, resolve, invoke, builtin, Builtin.min_, hx, hy, Builtin.min2]
theorem r_max2 {x y : Operand} {tys : Array TypeId} {k : IntKind} {a b : Int} (ho : o.op = .call ⟨.builtin .max, #[x, y], tys⟩) (hx : ρ x = .int k a) (hy : ρ y = .int k b) : ReadOp P o ρ h (.int k (if b > a then b else a)) := by
  intro w r
  simp [execOp, ho, resolve, invoke, builtin, Builtin.max_, hx, hy, Builtin.max2]
theorem r_nilcheck {x : Operand} {a : Addr} (ho : o.op = .nilCheck x) (hx : ρ x = .pointer (some a)) : ReadOp P o ρ h (.pointer (some a)) := by
  intro w r
  simp [execOp, ho, hx]
theorem r_convert_int {s d : TypeId} {x : Operand} {k k' : IntKind} {n : Int} {sd : TypeDesc} (ho : o.op = .convert s d x) (hs : P.underlying s = some sd) (hd : P.underlying d = some (.int k)) (hx : ρ x = .int k' n) (hsd : (match sd with | .int _ => true | _ => false) = true) :
    ReadOp P o ρ h (.int k (k.wrap n)) := by
  intro w r
  cases sd <;> first | (simp at hsd; done) | simp [execOp, ho, convert, run_underlying hs, run_underlying hd, hx, Conv.intToInt]

/-! ### 3. What lays a block -/
theorem a_box {t : TypeId} {x : Operand} (ho : o.op = .box t x) : AllocOp P o ρ (.cells (ρ x).cells t) (fun b => .pointer (some ⟨b, 0, none⟩)) := by
  intro w
  simp [execOp, ho, Instr.box, newVar, newRow, newObj, Sem.run]
theorem a_alloc {t : TypeId} {i : TypeInfo} {z : Value} (ho : o.op = .alloc t) (hi : P.info? t = some i) (hz : i.zero = some z) : AllocOp P o ρ (.cells z.cells t) (fun b => .pointer (some ⟨b, 0, none⟩)) := by
  intro w
  simp [execOp, ho, Instr.alloc, newVar, newRow, newObj, Sem.run, zeroValue, typeInfo, hi, hz]
theorem a_makeMap {t : TypeId} (ho : o.op = .makeMap t none) : AllocOp P o ρ (.map #[] 0) (fun b => .map (some b)) := by
  intro w
  simp [execOp, ho, Instr.makeMap, newObj, Sem.run]
def sliceLit (P : Program) (e len : Nat) (parts : List (Nat × Value)) : Option (Array Value) :=
  match P.info? e with
  | some i => match i.zero with
    | some z => Instr.fill (fun j => some (j * i.size, i.size)) ((Array.range (len * i.size)).map (fun j => z.cells[j % z.cells.size]!)) parts
    | none => none
  | none => none
theorem a_buildSlice {t e len : Nat} {parts : Array (Nat × Operand)} {cells : Array Value} (ho : o.op = .buildSlice t len parts) (hu : P.underlying t = some (.slice e))
    (hc : sliceLit P e len (parts.map fun (i, x) => (i, ρ x)).toList = some cells) (hn : len * P.cellsOf e ≤ 16777216) (hz : len * P.cellsOf e ≠ 0) : AllocOp P o ρ (.cells cells e) (fun b => .slice (some ⟨b, 0, none⟩) len len) := by
  intro w
  unfold sliceLit at hc
  cases hi : P.info? e with
  | none => rw [hi] at hc; cases hc
  | some i =>
    simp only [hi] at hc
    cases hzz : i.zero with
    | none => rw [hzz] at hc; cases hc
    | some z =>
      simp only [hzz] at hc
      have hcell : P.cellsOf e = i.size := by simp [Program.cellsOf, hi]
      rw [hcell] at hn hz
      have hn' : ¬ (len * i.size > 2 ^ 24) := by omega
      have hc' : Instr.fill (fun j => some (j * i.size, i.size)) ((Array.range (len * i.size)).map (fun j => z.cells[j % z.cells.size]!)) (parts.map fun (i, x) => (i, ρ x)).toList = some cells := hc
      simp only [execOp, ho, Instr.buildSlice, Sem.run_bind, run_underlying hu, Result.andThen_ok, sizeOf, typeInfo, program, Sem.run, hi, Sem.run_pure, if_neg hn', Sem.run_ite, if_neg hz, zeroValue, hzz]
      simp only [hc', Sem.run_bind, newRow, newObj, Sem.run, Result.andThen_ok, Sem.run_pure]
      rfl
theorem AllocOp.sop {obj : Obj} {vf : Nat → Value} {K : Value → Heap → Prop} (p : AllocOp P o ρ obj vf) (k : ∀ b, h b = none → K (vf b) (h.set b obj)) : SOp P o ρ h K := by
  intro w r
  have hn : h w.heap.size = none := by
    cases e : h w.heap.size with
    | none => rfl
    | some o => have := r.lt e; omega
  refine .inl ⟨_, _, _, .inl (p w), k _ hn, ?_, ?_⟩
  · intro b o' e
    by_cases hb : b = w.heap.size
    · subst hb; rw [Heap.set_same] at e; rw [heap_alloc_new]; exact e
    · rw [Heap.set_other _ _ hb] at e; rw [heap_alloc _ _ _ (r.lt e)]; exact r b o' e
  · refine ⟨rfl, rfl, rfl, by rw [size_alloc]; omega, fun b hb _ => heap_alloc _ _ _ hb, fun b h1 h2 => ?_⟩
    by_cases hb : b = w.heap.size
    · omega
    · rw [Heap.set_other _ _ hb] at h2; exact absurd h1 h2
end
end Go.Proofs.Ytielfejpnkcjbaa.Sl

/- The rules for single operations (second part): equality, cuts, stores, append, calls. -/
set_option linter.unusedVariables false
set_option linter.unusedSimpArgs false
namespace Go.Proofs.Ytielfejpnkcjbaa.Sl

/-! ### 1. Equality -/
def partV (P : Program) (t : TypeId) (cs : Array Value) (off : Nat) : Option Value :=
  match P.underlying t with
  | some (.struct _) | some (.array _ _) => some (.agg (cs.extract off (off + P.cellsOf t)))
  | some _ => cs[off]?
  | none => none
theorem run_partV {P : Program} {t : TypeId} {cs : Array Value} {off : Nat} {v : Value} (h : partV P t cs off = some v) (w : World) : (part t cs off).run P w = .ok v w := by
  unfold partV at h
  split at h
  · rename_i hu; simp only [Option.some.injEq] at h; subst h
    simp [part, isAgg, run_underlying hu, run_cellsOf _ _ (info_of_underlying hu)]
  · rename_i hu; simp only [Option.some.injEq] at h; subst h
    simp [part, isAgg, run_underlying hu, run_cellsOf _ _ (info_of_underlying hu)]
  · rename_i d h1 h2 hu
    cases d <;> simp_all [part, isAgg, run_underlying hu]
  · cases h
mutual
def eqv (P : Program) : Nat → TypeId → Value → Value → Option Bool
  | 0, _, _, _ => none
  | d + 1, t, x, y => match P.underlying t, x, y with
    | some .bool, .bool a, .bool b => some (a == b)
    | some (.int _), .int k a, .int k' b => if k = k' then some (a == b) else none
    | some .string, .string a, .string b => some (a == b)
    | some (.pointer _), .pointer none, .pointer b => some b.isNone
    | some (.pointer _), .pointer (some _), .pointer none => some false
    | some (.slice _), .slice none _ _, .slice b _ _ => some b.isNone
    | some (.slice _), .slice (some _) _ _, .slice none _ _ => some false
    | some (.map _ _), .map none, .map b => some b.isNone
    | some (.map _ _), .map (some _), .map none => some false
    | some (.interface _), .nilIface, .nilIface => some true
    | some (.interface _), .nilIface, .iface _ _ => some false
    | some (.interface _), .iface _ _, .nilIface => some false
    | some (.struct fs), .agg xs, .agg ys => if P.stoodInHeld t then none else eqvFields P d xs ys fs.toList
    | _, _, _ => none
def eqvFields (P : Program) : Nat → Array Value → Array Value → List Field → Option Bool
  | _, _, _, [] => some true
  | d, xs, ys, f :: r =>
    if f.name = "_" then eqvFields P d xs ys r
    else match partV P f.type xs f.offset, partV P f.type ys f.offset with
      | some a, some b => match eqv P d f.type a b, eqvFields P d xs ys r with
        | some e, some e' => some (e && e')
        | _, _ => none
      | _, _ => none
end
section
variable {P : Program} {o : Oper} {ρ : Operand → Value} {h : Heap}
theorem run_eqv : ∀ (d : Nat), (∀ (t : TypeId) (x y : Value) (r : Bool) (w : World), eqv P d t x y = some r → (Op.equalIn d t x y).run P w = .ok r w) := by
  intro d
  induction d with
  | zero => intro t x y r w h; simp [eqv] at h
  | succ d ih =>
    have hf : ∀ (fs : List Field) (xs ys : Array Value) (r : Bool) (w : World), eqvFields P d xs ys fs = some r → (Op.eqFields d xs ys fs).run P w = .ok r w := by
      intro fs
      induction fs with
      | nil => intro xs ys r w h; simp only [eqvFields, Option.some.injEq] at h; subst h; simp [Op.eqFields]
      | cons f fs ihf =>
        intro xs ys r w h
        simp only [eqvFields] at h
        by_cases hn : f.name = "_"
        · rw [if_pos hn] at h
          simp [Op.eqFields, hn, ihf xs ys r w h]
        · rw [if_neg hn] at h
          split at h <;> (try simp only [reduceCtorEq] at h)
          rename_i a b ha hb
          split at h <;> (try simp only [reduceCtorEq] at h)
          rename_i e e' he he'
          simp only [Option.some.injEq] at h; subst h
          simp only [Op.eqFields, hn, ne_eq, not_false_eq_true, if_true, Sem.run_bind, run_partV ha, run_partV hb, Result.andThen_ok, ih _ _ _ _ _ he]
          cases e
          · simp
          · simp [ihf xs ys e' w he']
    intro t x y r w h
    unfold eqv at h
    split at h <;> (try simp only [reduceCtorEq] at h)
    case h_1 a b hu => simp only [Option.some.injEq] at h; subst h; simp [Op.equalIn, run_underlying hu]
    case h_2 k0 k a k' b hu =>
      split at h
      · rename_i hk; simp only [Option.some.injEq] at h; subst h; simp [Op.equalIn, run_underlying hu, hk]
      · cases h
    case h_3 a b hu => simp only [Option.some.injEq] at h; subst h; simp [Op.equalIn, run_underlying hu]
    case h_4 e b hu => simp only [Option.some.injEq] at h; subst h; simp [Op.equalIn, run_underlying hu]
    case h_5 e a hu => simp only [Option.some.injEq] at h; subst h; simp [Op.equalIn, run_underlying hu]
    case h_6 e _ _ b _ _ hu => simp only [Option.some.injEq] at h; subst h; simp [Op.equalIn, run_underlying hu]
    case h_7 e a _ _ _ _ hu => simp only [Option.some.injEq] at h; subst h; simp [Op.equalIn, run_underlying hu]
    case h_8 k e b hu => simp only [Option.some.injEq] at h; subst h; simp [Op.equalIn, run_underlying hu]
    case h_9 k e a hu => simp only [Option.some.injEq] at h; subst h; simp [Op.equalIn, run_underlying hu]
    case h_10 m hu => simp only [Option.some.injEq] at h; subst h; simp [Op.equalIn, run_underlying hu]
    case h_11 m _ _ hu => simp only [Option.some.injEq] at h; subst h; simp [Op.equalIn, run_underlying hu]
    case h_12 m _ _ hu => simp only [Option.some.injEq] at h; subst h; simp [Op.equalIn, run_underlying hu]
    case h_13 fs xs ys hu =>
      split at h
      · cases h
      · rename_i hp
        have hp : P.stoodInHeld t = false := by simpa using hp
        have hfs : P.fieldsOf t = fs := by simp [Program.fieldsOf, hu]
        rw [run_equalIn_agg w d t xs ys (by rw [hfs]; exact hu) hp, hfs]
        exact hf _ _ _ _ _ h
def isLit : Operand → Bool
  | .const _ => true
  | _ => false
/-- '==' and '!=' of what is no two whole numbers. -/
theorem r_eql {t ty : TypeId} {x y : Operand} {u v : Value} {b : Bool} (ho : o.op = .binOp .eql t x y ty) (hx : ρ x = u) (hy : ρ y = v) (hk : (match u, v with | .int _ _, .int _ _ => false | .agg _, .agg _ => !P.eqGuardType P.depth t | .nilIface, .nilIface => isLit x || isLit y | _, _ => true) = true)
    (he : eqv P 10000 t u v = some b) (hn : (match u with | .int _ _ | .float _ _ | .complex _ _ _ | .string _ => false | _ => true) = true) : ReadOp P o ρ h (.bool b) := by
  intro w r
  have hq : (Op.equal t u v).run P w = .ok b w := run_eqv 10000 t u v b w he
  have hg : (eqGuard .eql t x y u v).run P w = .ok () w := by
    unfold eqGuard
    cases u <;> cases v <;> simp at hk ⊢
    · rcases hk with hk | hk
      · cases x <;> simp [isLit] at hk ⊢
      · cases y <;> simp [isLit] at hk ⊢
    · simp [program, Sem.run, hk]
  have hb : (binOp .eql t u v).run P w = .ok (.bool b) w := by
    have hbo : binOp .eql t u v = (do pure (.bool (← Op.equal t u v))) := by
      cases u <;> cases v <;> first | (simp at hn; done) | rfl
    rw [hbo]; simp [hq]
  simp only [execOp, ho, hx, hy, Sem.run_bind, hg, hb, Result.andThen_ok, Sem.run_pure]
theorem r_neq {t ty : TypeId} {x y : Operand} {u v : Value} {b : Bool} (ho : o.op = .binOp .neq t x y ty) (hx : ρ x = u) (hy : ρ y = v) (hk : (match u, v with | .int _ _, .int _ _ => false | .agg _, .agg _ => !P.eqGuardType P.depth t | .nilIface, .nilIface => isLit x || isLit y | _, _ => true) = true)
    (he : eqv P 10000 t u v = some b) (hn : (match u with | .int _ _ | .float _ _ | .complex _ _ _ | .string _ => false | _ => true) = true) : ReadOp P o ρ h (.bool (!b)) := by
  intro w r
  have hq : (Op.equal t u v).run P w = .ok b w := run_eqv 10000 t u v b w he
  have hg : (eqGuard .neq t x y u v).run P w = .ok () w := by
    unfold eqGuard
    cases u <;> cases v <;> simp at hk ⊢
    · rcases hk with hk | hk
      · cases x <;> simp [isLit] at hk ⊢
      · cases y <;> simp [isLit] at hk ⊢
    · simp [program, Sem.run, hk]
  have hb : (binOp .neq t u v).run P w = .ok (.bool (!b)) w := by
    have hbo : binOp .neq t u v = (do pure (.bool (!(← Op.equal t u v)))) := by
      cases u <;> cases v <;> first | (simp at hn; done) | rfl
    rw [hbo]; simp [hq]
  simp only [execOp, ho, hx, hy, Sem.run_bind, hg, hb, Result.andThen_ok, Sem.run_pure]
/-- Strings. -/
theorem r_eql_str {t ty : TypeId} {x y : Operand} {a b : ByteArray} (ho : o.op = .binOp .eql t x y ty) (hx : ρ x = .string a) (hy : ρ y = .string b) : ReadOp P o ρ h (.bool (a.toList == b.toList)) := by
  intro w r
  simp [execOp, ho, hx, hy, eqGuard, binOp, Op.stringOp]
theorem r_neq_str {t ty : TypeId} {x y : Operand} {a b : ByteArray} (ho : o.op = .binOp .neq t x y ty) (hx : ρ x = .string a) (hy : ρ y = .string b) : ReadOp P o ρ h (.bool (!(a.toList == b.toList))) := by
  intro w r
  simp [execOp, ho, hx, hy, eqGuard, binOp, Op.stringOp]
/-- A quotient, a rest, a shift of whole numbers. -/
theorem r_quo {t ty : TypeId} {x y : Operand} {k : IntKind} {a b : Int} (ho : o.op = .binOp .quo t x y ty) (hx : ρ x = .int k a) (hy : ρ y = .int k b) (hb : b ≠ 0) : ReadOp P o ρ h (.int k (k.wrap (a.tdiv b))) := by
  intro w r
  simp [execOp, ho, hx, hy, eqGuard, binOp, Op.intDiv, hb]
theorem r_rem {t ty : TypeId} {x y : Operand} {k : IntKind} {a b : Int} (ho : o.op = .binOp .rem t x y ty) (hx : ρ x = .int k a) (hy : ρ y = .int k b) (hb : b ≠ 0) : ReadOp P o ρ h (.int k (a.tmod b)) := by
  intro w r
  simp [execOp, ho, hx, hy, eqGuard, binOp, Op.intDiv, hb]
theorem r_shl {t ty : TypeId} {x y : Operand} {k k' : IntKind} {a b : Int} (ho : o.op = .binOp .shl t x y ty) (hx : ρ x = .int k a) (hy : ρ y = .int k' b) (hb : 0 ≤ b) : ReadOp P o ρ h (.int k (k.wrap (a * 2 ^ (min b.toNat k.bits)))) := by
  intro w r
  have hb' : ¬ b < 0 := by omega
  simp [execOp, ho, hx, hy, eqGuard, binOp, Op.shift, hb']
theorem r_shr {t ty : TypeId} {x y : Operand} {k k' : IntKind} {a b : Int} (ho : o.op = .binOp .shr t x y ty) (hx : ρ x = .int k a) (hy : ρ y = .int k' b) (hb : 0 ≤ b) : ReadOp P o ρ h (.int k (a.fdiv (2 ^ (min b.toNat k.bits)))) := by
  intro w r
  have hb' : ¬ b < 0 := by omega
  simp [execOp, ho, hx, hy, eqGuard, binOp, Op.shift, hb']
theorem r_bnot {t : TypeId} {x : Operand} {k : IntKind} {a : Int} (ho : o.op = .unOp .xor t x) (hx : ρ x = .int k a) : ReadOp P o ρ h (.int k (k.wrap (BitVec.ofInt k.bits (if k.signed then -1 else k.max) ^^^ BitVec.ofInt k.bits a).toNat)) := by
  intro w r
  simp [execOp, ho, hx, Op.unary, Op.intBits]
end
end Go.Proofs.Ytielfejpnkcjbaa.Sl
