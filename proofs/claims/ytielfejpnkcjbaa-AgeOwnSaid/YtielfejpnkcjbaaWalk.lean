/- What the walk's printed lines cite. -/
import Derived.Test.YtielfejpnkcjbaaAuto
set_option linter.unusedVariables false
set_option linter.unusedSimpArgs false
namespace Go.Proofs.Ytielfejpnkcjbaa.Sl
section
variable {P : Program} {N : Nat} {ops : Array Oper} {Q : Tm → Heap → Prop} {T : Tm} {h : Heap} {o : Oper} {r : List Oper} {d : Nat} {v : Value}
theorem want_none (hg : o.guard = none) : want ops T o = true := by simp [want, hg]
theorem want_let {j t : Nat} {b : Bool} (hg : o.guard = some (j, b)) (hj : ((ops[j]?).bind (·.dst)) = some t) (hT : T t = .bool b) : want ops T o = true := by simp [want, hg, hj, hT]
theorem want_not {j t : Nat} {b b' : Bool} (hg : o.guard = some (j, b)) (hj : ((ops[j]?).bind (·.dst)) = some t) (hT : T t = .bool b') (hb : (b' == b) = false) : want ops T o = false := by simp only [want, hg, hj, hT]; exact hb
theorem w_ac (hd : o.dst = some d) (hN : d < N) (hg : want ops T o = true) (p : SOp P o (ev T) h (fun v h' => sops P N ops Q r (upd T d v) h')) : sops P N ops Q (o :: r) T h := by
  refine ⟨fun t ht => by rw [hd] at ht; cases ht; exact hN, ?_⟩
  rw [hg, hd]; exact p
theorem w_rd (hd : o.dst = some d) (hN : d < N) (hg : want ops T o = true) (p : ReadOp P o (ev T) h v) (s : sops P N ops Q r (upd T d v) h) : sops P N ops Q (o :: r) T h := w_ac hd hN hg (p.sop s)
theorem w_pv (hd : o.dst = some d) (hN : d < N) (hg : want ops T o = true) (p : PureOp P o (ev T) v) (s : sops P N ops Q r (upd T d v) h) : sops P N ops Q (o :: r) T h := w_ac hd hN hg ((p.read h).sop s)
theorem w_al {obj : Obj} {vf : Nat → Value} (hd : o.dst = some d) (hN : d < N) (hg : want ops T o = true) (p : AllocOp P o (ev T) obj vf) (s : ∀ b, h b = none → sops P N ops Q r (upd T d (vf b)) (h.set b obj)) : sops P N ops Q (o :: r) T h := w_ac hd hN hg (p.sop s)
theorem w_st (hd : o.dst = none) (hg : want ops T o = true) (p : SOp P o (ev T) h (fun _ h' => sops P N ops Q r T h')) : sops P N ops Q (o :: r) T h := by
  refine ⟨fun t ht => (by rw [hd] at ht; cases ht), ?_⟩
  rw [hg, hd]; exact p
theorem w_skp (hd : o.dst = some d) (hN : d < N) (hg : want ops T o = false) (s : sops P N ops Q r (upd T d undef) h) : sops P N ops Q (o :: r) T h := by
  refine ⟨fun t ht => by rw [hd] at ht; cases ht; exact hN, ?_⟩
  rw [hg, hd]; exact s
variable {pp loud : List Nat} {F : List RdA} {E : Env} {i : Nat} {re : List Ent}
theorem d_pv (ho : opAt ops i = o) (hd : o.dst = some d) (hp : i ∉ pp) (ha : isAct o.op = false) (hr : isRead o.op = false) (hw : want ops T o = true) (p : PureOp P o (ev T) v) (s : sdraw P N ops pp loud Q re (upd T d v) h F E) : sdraw P N ops pp loud Q ((i, true) :: re) T h F E := by
  subst ho
  simp only [sdraw, hp, if_false, hw, if_true, ha, hr, Bool.false_eq_true, hd]
  exact ⟨v, p, s⟩
theorem d_rdA (A : RdA) (ho : opAt ops i = o) (hd : o.dst = some d) (hp : i ∉ pp) (ha : isAct o.op = false) (hr : isRead o.op = true) (hw : want ops T o = true) (hA : A.on h) (p : ∀ g, A.on g → ReadOp P o (ev T) g v) (s : sdraw P N ops pp loud Q re (upd T d v) h (A :: F) E) : sdraw P N ops pp loud Q ((i, true) :: re) T h F E := by
  subst ho
  simp only [sdraw, hp, if_false, hw, if_true, ha, hr, Bool.false_eq_true, hd]
  exact ⟨v, A, hA, p, s⟩
def rdNone : RdA := ⟨fun _ => True, fun _ _ _ h => h⟩
def rdAt (S : List Nat) (h : Heap) : RdA := ⟨fun g => ∀ b, b ∈ S → ∀ x, h b = some x → g b = some x, fun g g' l a b hb x e => l b x (a b hb x e)⟩
theorem d_rd0 (ho : opAt ops i = o) (hd : o.dst = some d) (hp : i ∉ pp) (ha : isAct o.op = false) (hr : isRead o.op = true) (hw : want ops T o = true) (p : ∀ g, ReadOp P o (ev T) g v) (s : sdraw P N ops pp loud Q re (upd T d v) h (rdNone :: F) E) : sdraw P N ops pp loud Q ((i, true) :: re) T h F E :=
  d_rdA rdNone ho hd hp ha hr hw trivial (fun g _ => p g) s
theorem d_rd (S : List Nat) (ho : opAt ops i = o) (hd : o.dst = some d) (hp : i ∉ pp) (ha : isAct o.op = false) (hr : isRead o.op = true) (hw : want ops T o = true) (p : ReadOp P o (ev T) (fun b => if b ∈ S then h b else none) v) (s : sdraw P N ops pp loud Q re (upd T d v) h (rdAt S h :: F) E) : sdraw P N ops pp loud Q ((i, true) :: re) T h F E :=
  d_rdA (rdAt S h) ho hd hp ha hr hw (fun _ _ _ e => e) (fun g hg w r => p w (fun b x e => by
    dsimp only at e
    split at e
    · rename_i hb; exact r b x (hg b hb x e)
    · cases e)) s
/-- Two ways come together. -/
def joinQ (J : Tm → Heap → Prop) : Exit → Tm → Heap → Prop
  | .normal => J
  | _ => fun _ _ => False
theorem s_join {Q : Exit → Tm → Heap → Prop} {c : Code} (J : Tm → Heap → Prop) (a : SCode P N c (joinQ J) T h) (b : ∀ T' h', J T' h' → Q .normal T' h') : SCode P N c Q T h := a.mono fun e T' h' q => by
  cases e with
  | normal => exact b T' h' q
  | _ => exact q.elim
theorem restr1 {b : Nat} {x : Obj} {l : List Nat} (e : h b = some x) : (fun k => if k ∈ b :: l then h k else none) b = some x := by simpa using e
theorem ReadOp.pure0 {ρ : Operand → Value} (hr : ReadOp P o ρ (fun _ => none) v) : PureOp P o ρ v := fun w => hr w (fun b o e => by cases e)
theorem d_pr (ho : opAt ops i = o) (hd : o.dst = some d) (hp : i ∉ pp) (ha : isAct o.op = false) (hr : isRead o.op = false) (hg : want ops T o = true) (p : ReadOp P o (ev T) (fun _ => none) v) (s : sdraw P N ops pp loud Q re (upd T d v) h F E) : sdraw P N ops pp loud Q ((i, true) :: re) T h F E :=
  d_pv ho hd hp ha hr hg p.pure0 s
theorem d_skp (ho : opAt ops i = o) (hd : o.dst = some d) (hp : i ∉ pp) (hw : want ops T o = false) (s : sdraw P N ops pp loud Q re (upd T d undef) h F E) : sdraw P N ops pp loud Q ((i, true) :: re) T h F E := by
  subst ho
  simp only [sdraw, hp, if_false, hw, Bool.false_eq_true, hd]
  exact s
theorem d_lac (ho : opAt ops i = o) (hd : o.dst = some d) (hp : i ∉ pp) (hl : i ∈ loud) (ha : isAct o.op = true) (hw : want ops T o = true) (p : SOp P o (ev T) h (fun v h' => sdraw P N ops pp loud Q re (upd T d v) h' [] E)) : sdraw P N ops pp loud Q ((i, true) :: re) T h F E := by
  subst ho
  simp only [sdraw, hp, hl, if_false, hw, if_true, ha, hd]
  exact p
theorem d_qac (ho : opAt ops i = o) (hd : o.dst = some d) (hp : i ∉ pp) (hl : i ∉ loud) (ha : isAct o.op = true) (hw : want ops T o = true) (p : SOp P o (ev T) h (fun v h' => (∀ A ∈ F, A.on h → A.on h') ∧ sdraw P N ops pp loud Q re (upd T d v) h' F E)) : sdraw P N ops pp loud Q ((i, true) :: re) T h F E := by
  subst ho
  simp only [sdraw, hp, hl, if_false, hw, if_true, ha, hd]
  exact p
theorem d_lst (ho : opAt ops i = o) (hd : o.dst = none) (hp : i ∉ pp) (hl : i ∈ loud) (ha : isAct o.op = true) (hw : want ops T o = true) (p : SOp P o (ev T) h (fun _ h' => sdraw P N ops pp loud Q re T h' [] E)) : sdraw P N ops pp loud Q ((i, true) :: re) T h F E := by
  subst ho
  simp only [sdraw, hp, hl, if_false, hw, if_true, ha, hd]
  exact p
theorem d_qst (ho : opAt ops i = o) (hd : o.dst = none) (hp : i ∉ pp) (hl : i ∉ loud) (ha : isAct o.op = true) (hw : want ops T o = true) (p : SOp P o (ev T) h (fun _ h' => (∀ A ∈ F, A.on h → A.on h') ∧ sdraw P N ops pp loud Q re T h' F E)) : sdraw P N ops pp loud Q ((i, true) :: re) T h F E := by
  subst ho
  simp only [sdraw, hp, hl, if_false, hw, if_true, ha, hd]
  exact p
theorem d_lal {obj : Obj} {vf : Nat → Value} (ho : opAt ops i = o) (hd : o.dst = some d) (hp : i ∉ pp) (hl : i ∈ loud) (ha : isAct o.op = true) (hg : want ops T o = true) (p : AllocOp P o (ev T) obj vf) (s : ∀ b, h b = none → sdraw P N ops pp loud Q re (upd T d (vf b)) (h.set b obj) [] E) : sdraw P N ops pp loud Q ((i, true) :: re) T h F E :=
  d_lac ho hd hp hl ha hg (p.sop s)
theorem d_qal {obj : Obj} {vf : Nat → Value} (ho : opAt ops i = o) (hd : o.dst = some d) (hp : i ∉ pp) (hl : i ∉ loud) (ha : isAct o.op = true) (hg : want ops T o = true) (p : AllocOp P o (ev T) obj vf) (s : ∀ b, h b = none → sdraw P N ops pp loud Q re (upd T d (vf b)) (h.set b obj) F E) : sdraw P N ops pp loud Q ((i, true) :: re) T h F E :=
  d_qac ho hd hp hl ha hg (p.sop fun b hb => ⟨fun A _ e => A.mono _ _ (Heap.le_set obj hb) e, s b hb⟩)
theorem d_prp {obj : Obj} {vf : Nat → Value} (ho : opAt ops i = o) (p : AllocOp P o (ev T) obj vf) (s : sdraw P N ops pp loud Q re T h F (E.put i (obj, vf))) : sdraw P N ops pp loud Q ((i, false) :: re) T h F E := d_prep ho p s
theorem d_bnd {obj : Obj} {vf : Nat → Value} (ho : opAt ops i = o) (hd : o.dst = some d) (hp : i ∈ pp) (hE : E i = (obj, vf)) (s : ∀ b, h b = none → sdraw P N ops pp loud Q re (upd T d (vf b)) (h.set b obj) F E) : sdraw P N ops pp loud Q ((i, true) :: re) T h F E := by
  refine d_bind ho hp hE ?_
  rw [hd]; exact s
theorem genS {Q : Exit → Tm → Heap → Prop} {c : Code} (H : ∀ T', (∀ t, T' t = T t) → SCode P N c Q T' h) : SCode P N c Q T h := H T (fun _ => rfl)
/-- Looking a block up. -/
theorem Heap.set_old {b k : Nat} {x y : Obj} (hb : h b = none) (hk : h k = some x) : h.set b y k = some x := by
  have : k ≠ b := fun e => by rw [e, hb] at hk; cases hk
  rw [Heap.set_other _ _ this]; exact hk
theorem Heap.set_oth {b k : Nat} {x y : Obj} (hb : k ≠ b) (hk : h k = some x) : h.set b y k = some x := by
  rw [Heap.set_other _ _ hb]; exact hk
variable {ρ : Operand → Value}
def fieldOff (P : Program) (t f : Nat) : Option Nat := match P.underlying t with
  | some (.struct fs) => match fs[f]? with
    | some fd => if P.cellsOf fd.type = 0 then none else some fd.offset
    | none => none
  | _ => none
theorem p_fieldAddr {t f b off k : Nat} {x : Operand} (ho : o.op = .fieldAddr t x f) (hx : ρ x = .pointer (some ⟨b, off, none⟩)) (hk : fieldOff P t f = some k) : PureOp P o ρ (.pointer (some ⟨b, off + k, none⟩)) := by
  refine p_val ?_
  rw [ho]
  simp only [pval, hx]
  unfold fieldOff at hk
  split at hk
  · rename_i fs hu
    simp only [hu]
    split at hk
    · rename_i fd hf
      simp only [hf]
      split at hk
      · cases hk
      · rename_i hz
        simp only [Option.some.injEq] at hk
        rw [if_neg hz, hk]
    · cases hk
  · cases hk
/-- A field of a value: one cell, or several. -/
def fieldPart (P : Program) (t f : Nat) : Option (Nat × Nat × Bool) := match P.underlying t with
  | some (.struct fs) => match fs[f]? with
    | some fd => match P.underlying fd.type with
      | some (.struct _) | some (.array _ _) => some (fd.offset, P.cellsOf fd.type, true)
      | some _ => some (fd.offset, 1, false)
      | none => none
    | none => none
  | _ => none
theorem p_field1 {t f k : Nat} {x : Operand} {cs : Array Value} (ho : o.op = .field t x f) (hx : ρ x = .agg cs) (hk : fieldPart P t f = some (k, 1, false)) (hv : cs[k]? = some v) : PureOp P o ρ v := by
  refine p_val ?_
  rw [ho]
  simp only [pval, hx]
  unfold fieldPart at hk
  split at hk <;> (try simp only [reduceCtorEq] at hk)
  rename_i fs hu
  simp only [hu]
  split at hk <;> (try simp only [reduceCtorEq] at hk)
  rename_i fd hf
  simp only [hf]
  split at hk <;> (try simp only [Option.some.injEq, Prod.mk.injEq, Bool.true_eq_false, and_false, reduceCtorEq] at hk)
  rename_i d h1 h2 hd
  simp only [hd]
  obtain ⟨rfl, _⟩ := hk
  cases d <;> first | (exact hv) | (exfalso; first | exact h1 _ rfl | exact h2 _ _ rfl)
theorem p_fieldN {t f k n : Nat} {x : Operand} {cs : Array Value} (ho : o.op = .field t x f) (hx : ρ x = .agg cs) (hk : fieldPart P t f = some (k, n, true)) : PureOp P o ρ (.agg (cs.extract k (k + n))) := by
  refine p_val ?_
  rw [ho]
  simp only [pval, hx]
  unfold fieldPart at hk
  split at hk <;> (try simp only [reduceCtorEq] at hk)
  rename_i fs hu
  simp only [hu]
  split at hk <;> (try simp only [reduceCtorEq] at hk)
  rename_i fd hf
  simp only [hf]
  split at hk <;> (try simp only [Option.some.injEq, Prod.mk.injEq, Bool.false_eq_true, and_false, reduceCtorEq] at hk)
  · rename_i hd
    simp only [hd]
    obtain ⟨rfl, rfl, _⟩ := hk
    rfl
  · rename_i hd
    simp only [hd]
    obtain ⟨rfl, rfl, _⟩ := hk
    rfl
theorem a_box1 {t : TypeId} {x : Operand} (ho : o.op = .box t x) (hx : ρ x = v) (hv : v.oneCell' = true) : AllocOp P o ρ (.cells #[v] t) (fun b => .pointer (some ⟨b, 0, none⟩)) := by
  have := a_box (P := P) (ρ := ρ) ho
  have hc : v.cells = #[v] := by cases v <;> simp [Value.oneCell'] at hv <;> rfl
  rw [hx, hc] at this
  exact this
theorem a_boxN {t : TypeId} {x : Operand} {cs : Array Value} (ho : o.op = .box t x) (hx : ρ x = .agg cs) : AllocOp P o ρ (.cells cs t) (fun b => .pointer (some ⟨b, 0, none⟩)) := by
  have := a_box (P := P) (ρ := ρ) ho
  rw [hx] at this
  exact this
theorem p_build {t : TypeId} {parts : Array (Nat × Operand)} {vs : List (Nat × Value)} {cells : Array Value} (ho : o.op = .build t parts) (hv : (parts.map fun (i, x) => (i, ρ x)).toList = vs) (hb : P.built t vs = some cells) : PureOp P o ρ (.agg cells) := by
  refine p_val ?_
  rw [ho]
  simp only [pval, hv, hb, Option.map_some]
theorem a_buildSlice0 {t e : Nat} (ho : o.op = .buildSlice t 0 #[]) (hu : P.underlying t = some (.slice e)) (he : (P.info? e).isSome = true) : AllocOp P o ρ (.cells #[] e) (fun b => .slice (some ⟨b, 0, none⟩) 0 0) := by
  intro w
  simp [execOp, ho, Instr.buildSlice, run_underlying hu, run_cellsOf _ _ he, Instr.fill, newRow, newObj, Sem.run, show Array.range 0 = #[] from rfl]
/-- What a struct's literal is made of: its fields' places, its zero. -/
def placesOf (P : Program) (t : Nat) : Option (List (Nat × Nat)) := match P.underlying t with
  | some (.struct fs) => fs.toList.mapM fun f => (P.info? f.type).map fun i => (f.offset, i.size)
  | _ => none
def zeroOf (P : Program) (t : Nat) : Option (Array Value) := ((P.info? t).bind (·.zero)).map (·.cells)
theorem p_buildW {t : TypeId} {parts : Array (Nat × Operand)} {vs : List (Nat × Value)} {places : List (Nat × Nat)} {z cells : Array Value} (ho : o.op = .build t parts) (hv : (parts.map fun (i, x) => (i, ρ x)).toList = vs)
    (hp : placesOf P t = some places) (hz : zeroOf P t = some z) (hc : Instr.fill (places.toArray[·]?) z vs = some cells) : PureOp P o ρ (.agg cells) := by
  refine p_build ho hv ?_
  unfold placesOf at hp
  unfold zeroOf at hz
  split at hp <;> (try simp only [reduceCtorEq] at hp)
  rename_i fs hu
  unfold Program.built
  cases hi : P.info? t with
  | none => simp [hi] at hz
  | some i =>
    cases hzz : i.zero with
    | none => simp [hi, hzz] at hz
    | some zz =>
      simp only [hi, hzz, Option.bind_some, Option.map_some, Option.some.injEq] at hz
      subst hz
      simp only [hu, hzz, hp]
      exact hc
end
end Go.Proofs.Ytielfejpnkcjbaa.Sl
