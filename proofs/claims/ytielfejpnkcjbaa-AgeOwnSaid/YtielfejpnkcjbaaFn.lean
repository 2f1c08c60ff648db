/- Functions: how one is entered, what it hands back. Wrappers for the walk. -/
import Derived.Test.YtielfejpnkcjbaaOpsC
set_option linter.unusedVariables false
set_option linter.unusedSimpArgs false
namespace Go.Proofs.Ytielfejpnkcjbaa.Sl
section
variable {P : Program} {N : Nat} {ops : Array Oper} {Q : Tm → Heap → Prop} {T : Tm} {h : Heap}
/-! ### 1. Results -/
def ResOne (P : Program) (T : Tm) (h : Heap) : ResultVar → Value → Prop
  | .tmp t, v => T t = v
  | .cell a ty, v => ∃ o : Oper, ∃ x, o.op = .load ty x ∧ ReadOp P o (fun _ => T a) h v ∧ ∃ ad, T a = .pointer (some ad)
def Res (P : Program) (fn : Func) (T : Tm) (h : Heap) (v : Value) : Prop := ∀ w a, Rel h w → Reads fn.ntmps T a → (results fn a.tmps).run P w = .ok v w
def resSem (tmps : Array Value) : ResultVar → Sem Value
  | .tmp t => pure (tmps.getD t undef)
  | .cell a t => do loadVar t (← asAddr (tmps.getD a undef))
theorem results_eq (fn : Func) (tmps : Array Value) : results fn tmps = (do let vs ← fn.results.mapM (resSem tmps); pure (if h : vs.size = 1 then vs[0] else .tuple vs)) := by
  unfold results
  congr 2
theorem resOne_run {r : ResultVar} {v : Value} (x : ResOne P T h r v) {w : World} {a : Act} {N : Nat} (rw_ : Rel h w) (ra : Reads N T a) : (resSem a.tmps r).run P w = .ok v w := by
  have hT : ∀ t, a.tmps.getD t undef = T t := fun t => congrFun ra.eval (.tmp t)
  cases r with
  | tmp t => simp only [ResOne] at x; simp [resSem, hT t, x]
  | cell ad ty =>
    obtain ⟨o, y, ho, hr, p, hp⟩ := x
    have := hr w rw_
    simp only [execOp, ho, Instr.loadAt, hp, Instr.sureAddr, Sem.run_bind, Sem.run_pure, Result.andThen_ok] at this
    simp only [resSem, hT, hp, asAddr, Sem.run_bind, Sem.run_pure, Result.andThen_ok]
    cases hl : (loadVar ty p).run P w with
    | ok v' w' => rw [hl] at this; simp at this; rw [this.1, this.2]
    | halt x w' => rw [hl] at this; simp at this
theorem res_one {fn : Func} {r : ResultVar} {v : Value} (hr : fn.results = #[r]) (x : ResOne P T h r v) : Res P fn T h v := by
  intro w a rw_ ra
  have := resOne_run x rw_ ra
  rw [results_eq, hr, Array.mapM_eq_mapM_toList]
  simp only [List.mapM_cons, List.mapM_nil, Sem.run_bind, Sem.run_map, this, Result.andThen_ok, Sem.run_pure]
  rfl
inductive ResAll (P : Program) (T : Tm) (h : Heap) : List ResultVar → List Value → Prop where
  | nil : ResAll P T h [] []
  | cons {r : ResultVar} {v : Value} {rs : List ResultVar} {vs : List Value} : ResOne P T h r v → ResAll P T h rs vs → ResAll P T h (r :: rs) (v :: vs)
theorem res_many {fn : Func} {rs : List ResultVar} {vs : List Value} (hr : fn.results = rs.toArray) (hn : rs.length ≠ 1) (x : ResAll P T h rs vs) : Res P fn T h (.tuple vs.toArray) := by
  intro w a rw_ ra
  have key : ((rs.mapM (resSem a.tmps)).run P w = .ok vs w) ∧ vs.length = rs.length := by
    clear hr hn
    induction x with
    | nil => simp
    | cons h1 h2 ih =>
      have := resOne_run h1 rw_ ra
      simp only [List.mapM_cons, Sem.run_bind, this, Result.andThen_ok, ih.1, Sem.run_pure, List.length_cons, ih.2, and_self]
  rw [results_eq, hr, Array.mapM_eq_mapM_toList]
  simp only [Sem.run_bind, Sem.run_map, key.1, Result.andThen_ok, Sem.run_pure]
  have : vs.toArray.size ≠ 1 := by simpa [key.2] using hn
  rw [dif_neg this]
def retQ (P : Program) (fn : Func) (R : Value → Heap → Prop) : Exit → Tm → Heap → Prop
  | .normal, T, h | .ret, T, h => ∃ v, Res P fn T h v ∧ R v h
  | _, _, _ => False
def T0 (args : Array Value) : Tm := fun t => args.getD t undef
theorem s_enter {f : FuncId} {fn : Func} {c : Code} {args : Array Value} {R : Value → Heap → Prop} (hf : P.funcs[f]? = some fn) (hb : fn.body = some c) (hN : args.size ≤ fn.ntmps)
    (s : SCode P fn.ntmps c (retQ P fn R) (T0 args) h) : SCalls P f args h R := by
  intro w r
  refine calls_of_wp hf hb (wp_mono (s w _ r ?_) ?_)
  · refine ⟨by simp; omega, fun t ht => ?_, fun t ht => ?_, rfl⟩
    · simp only [T0, Array.getD_eq_getD_getElem?]
      rcases Nat.lt_or_ge t args.size with h1 | h1
      · simp [Array.getElem?_append_left h1, h1]
      · rw [Array.getElem?_append_right h1, Array.getElem?_eq_none h1, Array.getElem?_replicate, if_pos (by omega)]; rfl
    · simp only [T0, Array.getD_eq_getD_getElem?]; rw [Array.getElem?_eq_none (Nat.le_trans hN ht)]; rfl
  · rintro e a' w' ⟨T', h', q, r', st, ra'⟩
    cases e with
    | normal => obtain ⟨v, hr, hR⟩ := q; exact ⟨ra'.defers, v, hr w' a' r' ra', v, h', rfl, hR, r', st⟩
    | ret => obtain ⟨v, hr, hR⟩ := q; exact ⟨ra'.defers, v, hr w' a' r' ra', v, h', rfl, hR, r', st⟩
    | _ => exact q.elim

/-! ### 2. One operation of a region in the order of its text -/
theorem w_nil (q : Q T h) : sops P N ops Q [] T h := q
theorem w_pure {o : Oper} {r : List Oper} {v : Value} (hd : (match o.dst with | some t => decide (t < N) | none => true) = true) (hg : o.guard = none) (p : PureOp P o (ev T) v) (s : sops P N ops Q r (put T o.dst v) h) : sops P N ops Q (o :: r) T h := by
  refine ⟨fun t ht => by simpa [ht] using hd, ?_⟩
  have : want ops T o = true := by simp [want, hg]
  rw [this]
  exact (p.read h).sop s
theorem w_read {o : Oper} {r : List Oper} {v : Value} (hd : (match o.dst with | some t => decide (t < N) | none => true) = true) (hg : o.guard = none) (p : ReadOp P o (ev T) h v) (s : sops P N ops Q r (put T o.dst v) h) : sops P N ops Q (o :: r) T h := by
  refine ⟨fun t ht => by simpa [ht] using hd, ?_⟩
  have : want ops T o = true := by simp [want, hg]
  rw [this]
  exact p.sop s
theorem w_act {o : Oper} {r : List Oper} (hd : (match o.dst with | some t => decide (t < N) | none => true) = true) (hg : o.guard = none) (p : SOp P o (ev T) h (fun v h' => sops P N ops Q r (put T o.dst v) h')) : sops P N ops Q (o :: r) T h := by
  refine ⟨fun t ht => by simpa [ht] using hd, ?_⟩
  have : want ops T o = true := by simp [want, hg]
  rw [this]
  exact p
theorem w_alloc {o : Oper} {r : List Oper} {obj : Obj} {vf : Nat → Value} (hd : (match o.dst with | some t => decide (t < N) | none => true) = true) (hg : o.guard = none) (p : AllocOp P o (ev T) obj vf)
    (s : ∀ b, h b = none → sops P N ops Q r (put T o.dst (vf b)) (h.set b obj)) : sops P N ops Q (o :: r) T h := w_act hd hg (p.sop s)
/-- An operation under a guard: the guard lets it, or not. -/
theorem w_skip {o : Oper} {r : List Oper} (hd : (match o.dst with | some t => decide (t < N) | none => true) = true) (hg : want ops T o = false) (s : sops P N ops Q r (put T o.dst undef) h) : sops P N ops Q (o :: r) T h := by
  refine ⟨fun t ht => by simpa [ht] using hd, ?_⟩
  rw [hg]
  exact s
theorem w_let {o : Oper} {r : List Oper} (hg : want ops T o = true) (s : sops P N ops Q ({ o with guard := none } :: r) T h) : sops P N ops Q (o :: r) T h := by
  obtain ⟨hd, s⟩ := s
  refine ⟨hd, ?_⟩
  rw [hg]
  have : want ops T { o with guard := none } = true := rfl
  rw [this] at s
  exact s

/-! ### 3. One entry of a region that draws its order -/
variable {pp loud : List Nat} {F : List RdA} {E : Env}
theorem d_nil (q : Q T h) : sdraw P N ops pp loud Q [] T h F E := q
theorem d_pure {i : Nat} {r : List Ent} {o : Oper} {v : Value} (ho : opAt ops i = o) (hp : i ∉ pp) (ha : isAct o.op = false) (hr : isRead o.op = false) (hg : o.guard = none) (p : PureOp P o (ev T) v) (s : sdraw P N ops pp loud Q r (put T o.dst v) h F E) :
    sdraw P N ops pp loud Q ((i, true) :: r) T h F E := by
  subst ho
  have hw : want ops T (opAt ops i) = true := by simp [want, hg]
  simp only [sdraw, hp, if_false, hw, if_true, ha, hr, Bool.false_eq_true]
  exact ⟨v, p, s⟩
theorem d_act {i : Nat} {r : List Ent} {o : Oper} (ho : opAt ops i = o) (hp : i ∉ pp) (hl : i ∉ loud) (ha : isAct o.op = true) (hg : o.guard = none) (p : SOp P o (ev T) h (fun v h' => (∀ A ∈ F, A.on h → A.on h') ∧ sdraw P N ops pp loud Q r (put T o.dst v) h' F E)) :
    sdraw P N ops pp loud Q ((i, true) :: r) T h F E := by
  subst ho
  have hw : want ops T (opAt ops i) = true := by simp [want, hg]
  simp only [sdraw, hp, hl, if_false, hw, if_true, ha]
  exact p
theorem d_loud {i : Nat} {r : List Ent} {o : Oper} (ho : opAt ops i = o) (hp : i ∉ pp) (hl : i ∈ loud) (ha : isAct o.op = true) (hg : o.guard = none) (p : SOp P o (ev T) h (fun v h' => sdraw P N ops pp loud Q r (put T o.dst v) h' [] E)) :
    sdraw P N ops pp loud Q ((i, true) :: r) T h F E := by
  subst ho
  have hw : want ops T (opAt ops i) = true := by simp [want, hg]
  simp only [sdraw, hp, hl, if_false, hw, if_true, ha]
  exact p
theorem d_prep {i : Nat} {r : List Ent} {o : Oper} {obj : Obj} {vf : Nat → Value} (ho : opAt ops i = o) (p : AllocOp P o (ev T) obj vf) (s : sdraw P N ops pp loud Q r T h F (E.put i (obj, vf))) : sdraw P N ops pp loud Q ((i, false) :: r) T h F E := by
  subst ho
  simp only [sdraw]
  exact ⟨obj, vf, p, s⟩
theorem d_bind {i : Nat} {r : List Ent} {o : Oper} {obj : Obj} {vf : Nat → Value} (ho : opAt ops i = o) (hp : i ∈ pp) (hE : E i = (obj, vf)) (s : ∀ b, h b = none → sdraw P N ops pp loud Q r (put T o.dst (vf b)) (h.set b obj) F E) : sdraw P N ops pp loud Q ((i, true) :: r) T h F E := by
  subst ho
  simp only [sdraw, hp, if_true, hE]
  exact s
theorem d_skip {i : Nat} {r : List Ent} {o : Oper} (ho : opAt ops i = o) (hp : i ∉ pp) (hg : want ops T o = false) (s : sdraw P N ops pp loud Q r (put T o.dst undef) h F E) : sdraw P N ops pp loud Q ((i, true) :: r) T h F E := by
  subst ho
  simp only [sdraw, hp, if_false, hg, Bool.false_eq_true]
  exact s
end
end Go.Proofs.Ytielfejpnkcjbaa.Sl
