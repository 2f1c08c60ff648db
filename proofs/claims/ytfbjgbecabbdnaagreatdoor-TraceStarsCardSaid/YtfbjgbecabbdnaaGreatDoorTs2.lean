import Derived.Test.YtfbjgbecabbdnaaGreatDoorTs1
/- A region that draws its order (second part): the theorem. -/
set_option linter.unusedVariables false
set_option linter.unusedSimpArgs false
namespace Go.Proofs.YtfbjgbecabbdnaaGreatDoor.Sl
section
variable {P : Program} {N : Nat} {ops : Array Oper} {pp loud : List Nat} {Q : Tm → Heap → Prop} {τ : List Ent} {T0 : Tm}

structure DOk (ops : Array Oper) (τ : List Ent) (pp loud : List Nat) : Prop where
  lt : ∀ x ∈ τ, x.1 < ops.size
  pre : ∀ x ∈ τ, x.2 = true ∨ x.1 ∈ pp
  all : ∀ i, i < ops.size → (i, true) ∈ τ
  sel : Region.noSelect ops = true
  ppm : ∀ i ∈ pp, (i, false) ∈ τ ∧ isAct (opAt ops i).op = true ∧ (opAt ops i).guard = none
  edge : ∀ i j, j ∈ preds ops i → j < i
  dst : ∀ i j, i < ops.size → j < ops.size → j ≠ i → (opAt ops j).dst ≠ (opAt ops i).dst ∨ (opAt ops i).dst = none
  ne : ∀ (x y : List Ent) (e : Ent), τ = x ++ e :: y → ∀ d ∈ x, d ≠ e ∧ ¬ (d.1 = e.1 ∧ d.2 = true)
  ext : ∀ (x y : List Ent) (e : Ent), τ = x ++ e :: y → ∀ d ∈ x, d.2 = true → isAct (opAt ops d.1).op = true → ¬ (e.2 = true ∧ e.1 ∈ pp) → Anc ops e.1 d.1
  nam1 : ∀ (x y : List Ent) (e : Ent), τ = x ++ e :: y → ∀ d ∈ x, d.2 = true → looksHere pp e = true → looksDst ops e.1 d.1 = true → Anc ops e.1 d.1
  nam2 : ∀ (x y : List Ent) (e : Ent), τ = x ++ e :: y → ∀ d ∈ x, looksHere pp d = true → e.2 = true → looksDst ops d.1 e.1 = true → d.1 ≠ e.1 → Anc ops e.1 d.1
  rd : ∀ (x y : List Ent) (e : Ent), τ = x ++ e :: y → ∀ d ∈ x, d.2 = true → isRead (opAt ops d.1).op = true → isAct (opAt ops d.1).op = false → e.2 = true → e.1 ∈ loud → Anc ops e.1 d.1
theorem range_split {n i j : Nat} (hj : j < i) (hi : i < n) : ∃ x y, List.range n = x ++ i :: y ∧ j ∈ x := by
  refine ⟨List.range i, List.range' (i + 1) (n - i - 1), ?_, List.mem_range.2 hj⟩
  have : n = i + (1 + (n - i - 1)) := by omega
  conv => lhs; rw [this]
  rw [List.range_eq_range', List.range_eq_range', ← List.range'_append_1, ← List.range'_append_1]
  simp
theorem drawOk_spec (h : drawOk ops τ pp loud = true) : DOk ops τ pp loud := by
  unfold drawOk at h
  simp only [Bool.and_eq_true] at h
  obtain ⟨⟨⟨⟨⟨⟨⟨⟨⟨⟨h1, h2⟩, h3⟩, h4⟩, h5⟩, h6⟩, h7⟩, h8⟩, h9⟩, h10⟩, h11⟩ := h
  refine ⟨?_, ?_, ?_, h3, ?_, ?_, ?_, ?_, ?_, ?_, ?_, ?_⟩
  · intro x hx; have := List.all_eq_true.1 h1 x hx; simp only [Bool.and_eq_true, decide_eq_true_eq] at this; exact this.1
  · intro x hx; have := List.all_eq_true.1 h1 x hx; simp only [Bool.and_eq_true, Bool.or_eq_true, List.contains_eq_mem, decide_eq_true_eq] at this; exact this.2
  · intro i hi; simpa using List.all_eq_true.1 h2 i (List.mem_range.2 hi)
  · intro i hi
    have := List.all_eq_true.1 h4 i hi
    simp only [Bool.and_eq_true, List.contains_eq_mem, decide_eq_true_eq, Option.isNone_iff_eq_none] at this
    exact ⟨this.1.1, this.1.2, this.2⟩
  · intro i j hj
    have hi : i < ops.size := by
      unfold preds at hj
      cases ho : ops[i]? with
      | none => rw [ho] at hj; cases hj
      | some o => exact (Array.getElem?_eq_some_iff.1 ho).1
    have := List.all_eq_true.1 h5 i (List.mem_range.2 hi)
    simpa using List.all_eq_true.1 this j hj
  · have key : ∀ i j, i < ops.size → j < i → (opAt ops i).dst ≠ (opAt ops j).dst ∨ (opAt ops i).dst = none := by
      intro i j hi hj
      obtain ⟨x, y, e, hm⟩ := range_split hj hi
      have := pairs_spec h6 x y i e j hm
      simp only [Bool.or_eq_true, bne_iff_ne, ne_eq, beq_iff_eq] at this
      exact this
    intro i j hi hj hne
    rcases Nat.lt_or_gt_of_ne hne with h | h
    · rcases key i j hi h with h1 | h1
      · exact .inl (fun e => h1 e.symm)
      · exact .inr h1
    · rcases key j i hj h with h1 | h1
      · exact .inl h1
      · by_cases h2 : (opAt ops i).dst = none
        · exact .inr h2
        · exact .inl (fun e => h2 (e ▸ h1))
  · intro x y e he d hd
    have := pairs_spec h7 x y e he d hd
    simp only [Bool.and_eq_true, bne_iff_ne, ne_eq, Bool.not_eq_true', Bool.and_eq_false_iff, beq_eq_false_iff_ne] at this
    refine ⟨this.1, fun hc => ?_⟩
    rcases this.2 with h | h
    · exact h hc.1
    · rw [hc.2] at h; cases h
  · intro x y e he d hd h1 h2 h3
    have := pairs_spec h8 x y e he d hd
    have hb : (e.2 && pp.contains e.1) = false := by
      cases hx : (e.2 && pp.contains e.1) with
      | false => rfl
      | true => simp only [Bool.and_eq_true, List.contains_eq_mem, decide_eq_true_eq] at hx; exact absurd hx h3
    simp only [h1, h2, hb, Bool.and_true, Bool.not_true, Bool.false_or] at this
    exact before_anc _ _ _ this
  · intro x y e he d hd h1 h2 h3
    have := pairs_spec h9 x y e he d hd
    simp only [h1, h2, h3, Bool.and_true, Bool.not_true, Bool.false_or] at this
    exact before_anc _ _ _ this
  · intro x y e he d hd h1 h2 h3 h4
    have := pairs_spec h10 x y e he d hd
    have hb : (d.1 != e.1) = true := by simpa using h4
    simp only [h1, h2, h3, hb, Bool.and_true, Bool.not_true, Bool.false_or] at this
    exact before_anc _ _ _ this
  · intro x y e he d hd h1 h2 h3 h4 h5
    have := pairs_spec h11 x y e he d hd
    have hc : loud.contains e.1 = true := by simpa using h5
    simp only [h1, h2, h3, h4, hc, Bool.not_false, Bool.and_true, Bool.not_true, Bool.false_or] at this
    exact before_anc _ _ _ this
theorem DOk.notin (k : DOk ops τ pp loud) {x y : List Ent} {e : Ent} (h : τ = x ++ e :: y) : e ∉ x := fun hi => (k.ne x y e h e hi).1 rfl
theorem DOk.notin2 (k : DOk ops τ pp loud) {x y : List Ent} {e d : Ent} (h : τ = x ++ e :: y) (hd : d ∈ y) : d ∉ x := fun hi => by
  obtain ⟨y1, y2, rfl⟩ := List.append_of_mem hd
  exact (k.ne (x ++ e :: y1) y2 d (by rw [h]; simp) d (by simp [hi])).1 rfl
def mn (l : List Ent) : Nat → Bool := fun i => l.contains (i, true)
theorem mn_iff {l : List Ent} {i : Nat} : mn l i = true ↔ (i, true) ∈ l := by simp [mn]
theorem mn_false {l : List Ent} {i : Nat} : mn l i = false ↔ (i, true) ∉ l := by simp [mn]
/-- What is known of an entry that the one order has passed and the drawn one has not. -/
def Hole (P : Program) (ops : Array Oper) (pp : List Nat) (T0 : Tm) (V : Nat → Value) (E : Env) (F : List RdA) (pre : List Ent) (e : Ent) : Prop :=
  match e.2 with
  | false => AllocOp P (opAt ops e.1) (ev (view ops T0 V (mn pre))) (E e.1).1 (E e.1).2
  | true => e.1 ∉ pp → isAct (opAt ops e.1).op = false →
    if want ops (view ops T0 V (mn pre)) (opAt ops e.1) then
      (if isRead (opAt ops e.1).op then ∃ A ∈ F, ∀ g, RdA.on A g → ReadOp P (opAt ops e.1) (ev (view ops T0 V (mn pre))) g (V e.1)
      else PureOp P (opAt ops e.1) (ev (view ops T0 V (mn pre))) (V e.1))
    else V e.1 = undef
theorem Hole.congr {V V' : Nat → Value} {E E' : Env} {F F' : List RdA} {pre : List Ent} {e : Ent} (hv : ∀ i, (i, true) ∈ pre → V i = V' i) (hj : e.2 = true → V e.1 = V' e.1) (hE : e.2 = false → E e.1 = E' e.1)
    (hF : ∀ b, b ∈ F → b ∈ F') (x : Hole P ops pp T0 V E F pre e) : Hole P ops pp T0 V' E' F' pre e := by
  have ee : view ops T0 V (mn pre) = view ops T0 V' (mn pre) := view_congr (fun _ _ => rfl) (fun i hi => hv i (mn_iff.1 hi))
  unfold Hole at *
  rw [← ee]
  cases h2 : e.2 with
  | false => simp only [h2] at x ⊢; rw [← hE h2]; exact x
  | true =>
    simp only [h2] at x ⊢
    rw [← hj h2]
    intro hp ha
    have y := x hp ha
    split
    · rename_i hw
      simp only [hw, if_true] at y
      split
      · rename_i hr
        simp only [hr, if_true] at y
        obtain ⟨g, p, q⟩ := y
        exact ⟨g, hF g p, q⟩
      · rename_i hr
        simpa [hr] using y
    · rename_i hw
      simpa [hw] using y

structure Early (V : Nat → Value) (E : Env) (B : Nat → Nat) (h : Heap) (w w0 : World) (i : Nat) : Prop where
  val : V i = (E i).2 (B i)
  off : h (B i) = none
  obj : w.heap[B i]? = some (E i).1
  new : w0.heap.size ≤ B i
theorem Early.lt {V : Nat → Value} {E : Env} {B : Nat → Nat} {h : Heap} {w w0 : World} {i : Nat} (e : Early V E B h w w0 i) : B i < w.heap.size := (Array.getElem?_eq_some_iff.1 e.obj).1
structure St (P : Program) (N : Nat) (ops : Array Oper) (pp loud : List Nat) (Q : Tm → Heap → Prop) (τ : List Ent) (T0 : Tm) (w0 : World) (L : Nat → Bool) (w : World) (B : Nat → Nat)
    (V : Nat → Value) (E : Env) (F : List RdA) (π r : List Ent) (h : Heap) : Prop where
  e : τ = π ++ r
  s : sdraw P N ops pp loud Q r (view ops T0 V (mn π)) h F E
  rel : Rel h w
  lp : ∀ i, i < ops.size → L i = true → (i, true) ∈ π ∨ (i ∈ pp ∧ (i, false) ∈ π)
  early : ∀ i, i ∈ pp → L i = true → (i, true) ∉ π → Early V E B h w w0 i
  inj : ∀ i j, i ∈ pp → j ∈ pp → L i = true → L j = true → (i, true) ∉ π → (j, true) ∉ π → B i = B j → i = j
  act : ∀ i, (i, true) ∈ π → isAct (opAt ops i).op = true → L i = true
  hole : ∀ x e y, π = x ++ e :: y → L e.1 = false → Hole P ops pp T0 V E F x e
  f : ∀ A ∈ F, A.on h
def Stuck (ops : Array Oper) (pp : List Nat) (L : Nat → Bool) (r : List Ent) : Prop := r = [] ∨ ∃ i s, r = (i, true) :: s ∧ isAct (opAt ops i).op = true ∧ (i ∈ pp → L i = false)

theorem split_last {α : Type} {π : List α} {a e : α} {x y : List α} (h : π ++ [a] = x ++ e :: y) : (y = [] ∧ x = π ∧ e = a) ∨ ∃ y', y = y' ++ [a] ∧ π = x ++ e :: y' := by
  rcases List.eq_nil_or_concat y with rfl | ⟨y', z, rfl⟩
  · left
    have h1 := List.append_inj_left' h rfl
    have h2 := List.append_inj_right' h rfl
    simp at h2
    exact ⟨rfl, h1.symm, h2.symm⟩
  · right
    have h3 : π ++ [a] = (x ++ e :: y') ++ [z] := by rw [h]; simp
    have h1 := List.append_inj_left' h3 rfl
    have h2 := List.append_inj_right' h3 rfl
    simp at h2
    exact ⟨y', by rw [h2, List.concat_eq_append], h1⟩
/-- The one order goes on to what acts next. -/
theorem advance (k : DOk ops τ pp loud) {w0 w : World} {L : Nat → Bool} {B : Nat → Nat} : ∀ (r π : List Ent) (V : Nat → Value) (E : Env) (F : List RdA) (h : Heap), St P N ops pp loud Q τ T0 w0 L w B V E F π r h →
    ∃ V' E' F' π' r' h', St P N ops pp loud Q τ T0 w0 L w B V' E' F' π' r' h' ∧ Stuck ops pp L r' ∧ (∀ j, j < ops.size → L j = true → V' j = V j) ∧ (∀ b, h b = none → h' b ≠ none → w0.heap.size ≤ b) := by
  intro r
  induction r with
  | nil => intro π V E F h st; exact ⟨V, E, F, π, [], h, st, .inl rfl, fun _ _ _ => rfl, fun b h1 h2 => absurd h1 h2⟩
  | cons d r ih =>
    intro π V E F h st
    obtain ⟨i, ph⟩ := d
    have hi : i < ops.size := k.lt (i, ph) (by rw [st.e]; simp)
    have hnp : (i, ph) ∉ π := k.notin st.e
    have fin : ∀ (V1 : Nat → Value) (E1 : Env) (F1 : List RdA) (h1 : Heap), St P N ops pp loud Q τ T0 w0 L w B V1 E1 F1 (π ++ [(i, ph)]) r h1 → (∀ j, j < ops.size → L j = true → V1 j = V j) → (∀ b, h b = none → h1 b ≠ none → w0.heap.size ≤ b) →
        ∃ V' E' F' π' r' h', St P N ops pp loud Q τ T0 w0 L w B V' E' F' π' r' h' ∧ Stuck ops pp L r' ∧ (∀ j, j < ops.size → L j = true → V' j = V j) ∧ (∀ b, h b = none → h' b ≠ none → w0.heap.size ≤ b) := by
      intro V1 E1 F1 h1 st1 hV hf
      obtain ⟨V', E', F', π', r', h', st', sk, hV', hf'⟩ := ih _ V1 E1 F1 h1 st1
      refine ⟨V', E', F', π', r', h', st', sk, fun j hj hl => (hV' j hj hl).trans (hV j hj hl), fun b e1 e2 => ?_⟩
      by_cases e3 : h1 b = none
      · exact hf' b e3 e2
      · exact hf b e1 e3
    cases ph with
    | false =>
      -- its operands are looked at
      have hnt : (i, true) ∉ π := fun hm => (k.ne π r (i, false) st.e (i, true) hm).2 ⟨rfl, rfl⟩
      have hL : L i = false := by
        cases hl : L i with
        | false => rfl
        | true =>
          rcases st.lp i hi hl with h1 | h1
          · exact absurd h1 hnt
          · exact absurd h1.2 hnp
      have s := st.s
      simp only [sdraw] at s
      obtain ⟨obj, vf, al, s⟩ := s
      have hEo : ∀ j, j ≠ i → (E.put i (obj, vf)) j = E j := fun j hj => by simp [Env.put, hj]
      have hmn : mn (π ++ [(i, false)]) = mn π := by funext j; simp [mn]
      refine fin V (E.put i (obj, vf)) F h ⟨by rw [st.e]; simp, by rw [hmn]; exact s, st.rel, ?_, ?_, ?_, ?_, ?_, st.f⟩ (fun _ _ _ => rfl) (fun b h1 h2 => absurd h1 h2)
      · intro j hj hl
        rcases st.lp j hj hl with h1 | h1
        · exact .inl (by simp [h1])
        · exact .inr ⟨h1.1, by simp [h1.2]⟩
      · intro j hj hl hn
        have hji : j ≠ i := fun e => by rw [e, hL] at hl; cases hl
        have x := st.early j hj hl (fun h1 => hn (by simp [h1]))
        exact ⟨by rw [hEo j hji]; exact x.val, x.off, by rw [hEo j hji]; exact x.obj, x.new⟩
      · intro j1 j2 a b c d e1 e2
        exact st.inj j1 j2 a b c d (fun h1 => e1 (by simp [h1])) (fun h1 => e2 (by simp [h1]))
      · intro j hj ha
        exact st.act j (by simpa using hj) ha
      · intro x e y hx hl
        rcases split_last hx with ⟨_, rfl, rfl⟩ | ⟨y', _, hπ⟩
        · unfold Hole
          simp only [Env.put, if_true]
          exact al
        · refine Hole.congr (fun _ _ => rfl) (fun _ => rfl) (fun h2 => ?_) (fun _ h => h) (st.hole x e y' hπ hl)
          have hei : e.1 ≠ i := fun e1 => hnp (by rw [hπ]; have : e = (i, false) := Prod.ext e1 h2; simp [this])
          exact (hEo _ hei).symm
    | true =>
      by_cases hpp : i ∈ pp
      · -- an allocation's place has come
        cases hl : L i with
        | false => exact ⟨V, E, F, π, (i, true) :: r, h, st, .inr ⟨i, r, rfl, (k.ppm i hpp).2.1, fun _ => hl⟩, fun _ _ _ => rfl, fun b h1 h2 => absurd h1 h2⟩
        | true =>
          have ea := st.early i hpp hl hnp
          have s := st.s
          simp only [sdraw, hpp, if_true] at s
          have s := s (B i) ea.off
          have hview : view ops T0 V (mn (π ++ [(i, true)])) = put (view ops T0 V (mn π)) (opAt ops i).dst (V i) :=
            view_put hi (fun j hj hne => k.dst i j hi hj hne) (by simp [mn]) (fun j hj hne => by simp [mn, hne])
          rw [← ea.val, ← hview] at s
          have hle : h.le (h.set (B i) (E i).1) := Heap.le_set _ ea.off
          refine fin V E F (h.set (B i) (E i).1) ⟨by rw [st.e]; simp, s, ?_, ?_, ?_, ?_, ?_, ?_, fun A hA => A.mono _ _ hle (st.f A hA)⟩ (fun _ _ _ => rfl) ?_
          · intro b o e
            by_cases hb : b = B i
            · subst hb; rw [Heap.set_same] at e; rw [ea.obj]; exact e
            · rw [Heap.set_other _ _ hb] at e; exact st.rel b o e
          · intro j hj hl2
            rcases st.lp j hj hl2 with h1 | h1
            · exact .inl (by simp [h1])
            · exact .inr ⟨h1.1, by simp [h1.2]⟩
          · intro j hj hl2 hn
            have hn1 : (j, true) ∉ π := fun h1 => hn (by simp [h1])
            have hji : j ≠ i := fun e => hn (by simp [e])
            have x := st.early j hj hl2 hn1
            refine ⟨x.val, ?_, x.obj, x.new⟩
            rw [Heap.set_other _ _ (fun e => hji (st.inj j i hj hpp hl2 hl hn1 hnp e))]
            exact x.off
          · intro j1 j2 a b c d e1 e2
            exact st.inj j1 j2 a b c d (fun h1 => e1 (by simp [h1])) (fun h1 => e2 (by simp [h1]))
          · intro j hj ha
            simp only [List.mem_append, List.mem_singleton, Prod.mk.injEq, and_true] at hj
            rcases hj with h1 | h1
            · exact st.act j h1 ha
            · rw [h1]; exact hl
          · intro x e y hx hl2
            rcases split_last hx with ⟨_, rfl, rfl⟩ | ⟨y', _, hπ⟩
            · rw [hl] at hl2; cases hl2
            · exact Hole.congr (fun _ _ => rfl) (fun _ => rfl) (fun _ => rfl) (fun _ h => h) (st.hole x e y' hπ hl2)
          · intro b h1 h2
            by_cases hb : b = B i
            · rw [hb]; exact ea.new
            · rw [Heap.set_other _ _ hb] at h2; exact absurd h1 h2
      · cases ha : isAct (opAt ops i).op with
        | true => exact ⟨V, E, F, π, (i, true) :: r, h, st, .inr ⟨i, r, rfl, ha, fun h1 => absurd h1 hpp⟩, fun _ _ _ => rfl, fun b h1 h2 => absurd h1 h2⟩
        | false =>
          have hL : L i = false := by
            cases hl : L i with
            | false => rfl
            | true =>
              rcases st.lp i hi hl with h1 | h1
              · exact absurd h1 hnp
              · exact absurd h1.1 hpp
          have hval : ∃ v F1, (∀ b, b ∈ F → b ∈ F1) ∧ (∀ A ∈ F1, RdA.on A h) ∧ sdraw P N ops pp loud Q r (put (view ops T0 V (mn π)) (opAt ops i).dst v) h F1 E ∧
              (if want ops (view ops T0 V (mn π)) (opAt ops i) then
                (if isRead (opAt ops i).op then ∃ A ∈ F1, ∀ g, RdA.on A g → ReadOp P (opAt ops i) (ev (view ops T0 V (mn π))) g v
                else PureOp P (opAt ops i) (ev (view ops T0 V (mn π))) v)
              else v = undef) := by
            have s := st.s
            simp only [sdraw, hpp, if_false] at s
            cases hw : want ops (view ops T0 V (mn π)) (opAt ops i) with
            | false => simp only [hw, Bool.false_eq_true, if_false] at s ⊢; exact ⟨undef, F, fun _ h => h, st.f, s, rfl⟩
            | true =>
              simp only [hw, if_true, ha, Bool.false_eq_true, if_false] at s ⊢
              cases hr : isRead (opAt ops i).op with
              | true =>
                simp only [hr, if_true] at s ⊢
                obtain ⟨v, A, hA, p, s⟩ := s
                refine ⟨v, A :: F, fun b hb => by simp [hb], fun B hB => ?_, s, A, by simp, p⟩
                rcases List.mem_cons.1 hB with rfl | hB
                · exact hA
                · exact st.f B hB
              | false => simp only [hr, Bool.false_eq_true, if_false] at s ⊢; obtain ⟨v, p, s⟩ := s; exact ⟨v, F, fun _ h => h, st.f, s, p⟩
          obtain ⟨v, F1, hF, hF1, s1, hv⟩ := hval
          let V1 : Nat → Value := fun j => if j = i then v else V j
          have hVi : V1 i = v := by simp [V1]
          have hV1 : ∀ j, j ≠ i → V1 j = V j := fun j hj => by simp [V1, hj]
          have evw : view ops T0 V (mn π) = view ops T0 V1 (mn π) := view_congr (fun _ _ => rfl) (fun j hj => (hV1 j (fun e => hnp (e ▸ mn_iff.1 hj))).symm)
          have hput : view ops T0 V1 (mn (π ++ [(i, true)])) = put (view ops T0 V (mn π)) (opAt ops i).dst v := by
            rw [evw, ← hVi]
            exact view_put hi (fun j hj hne => k.dst i j hi hj hne) (by simp [mn]) (fun j hj hne => by simp [mn, hne])
          rw [← hput] at s1
          refine fin V1 E F1 h ⟨by rw [st.e]; simp, s1, st.rel, ?_, ?_, ?_, ?_, ?_, hF1⟩ (fun j _ hl => hV1 j (fun e => by rw [e, hL] at hl; cases hl)) (fun b h1 h2 => absurd h1 h2)
          · intro j hj hl
            rcases st.lp j hj hl with h1 | h1
            · exact .inl (by simp [h1])
            · exact .inr ⟨h1.1, by simp [h1.2]⟩
          · intro j hj hl hn
            have hji : j ≠ i := fun e => hn (by simp [e])
            have x := st.early j hj hl (fun h1 => hn (by simp [h1]))
            exact ⟨by rw [hV1 j hji]; exact x.val, x.off, x.obj, x.new⟩
          · intro j1 j2 a b c d e1 e2
            exact st.inj j1 j2 a b c d (fun h1 => e1 (by simp [h1])) (fun h1 => e2 (by simp [h1]))
          · intro j hj ha2
            simp only [List.mem_append, List.mem_singleton, Prod.mk.injEq, and_true] at hj
            rcases hj with h1 | h1
            · exact st.act j h1 ha2
            · rw [h1, ha] at ha2; cases ha2
          · intro x e y hx hl
            rcases split_last hx with ⟨_, rfl, rfl⟩ | ⟨y', _, hπ⟩
            · refine Hole.congr (V := V1) (E := E) (F := F1) (fun _ _ => rfl) (fun _ => rfl) (fun _ => rfl) (fun _ h => h) ?_
              unfold Hole
              intro _ _
              rw [← evw, hVi]
              exact hv
            · refine Hole.congr (fun j hj => (hV1 j (fun e1 => hnp (by rw [hπ]; simp [← e1, hj]))).symm) (fun h2 => (hV1 _ (fun e1 => hnp (by rw [hπ]; have : e = (i, true) := Prod.ext e1 h2; simp [this]))).symm) (fun _ => rfl) hF (st.hole x e y' hπ hl)

structure DInv (P : Program) (N : Nat) (D : List Deferred) (ops : Array Oper) (pp loud : List Nat) (Q : Tm → Heap → Prop) (τ : List Ent) (T0 : Tm) (h0 : Heap) (w0 : World) (L : Nat → Bool) (a : Act) (w : World) : Prop where
  mk :: (out : ∃ B V E F π r h, St P N ops pp loud Q τ T0 w0 L w B V E F π r h ∧ Stuck ops pp L r ∧ Step h0 h w0 w ∧ Reads N (view ops T0 V L) a D ∧ (∀ i j, L i = true → j ∈ preds ops i → L j = true))

theorem looks_of {i j t : Nat} (ht : t ∈ (opAt ops i).looksAt ops) (hd : (opAt ops j).dst = some t) : looksDst ops i j = true := by
  simp only [looksDst, hd]; simpa using ht
/-- What an operation looks at is by the drawn order what it is by the one order. -/
theorem same_looks (k : DOk ops τ pp loud) {V : Nat → Value} {L : Nat → Bool} (hc : ∀ i j, L i = true → j ∈ preds ops i → L j = true) {x y : List Ent} {e : Ent} (he : τ = x ++ e :: y) (hlk : looksHere pp e = true)
    (hi : L e.1 = false) (hp : ∀ j ∈ preds ops e.1, L j = true) : ∀ t ∈ (opAt ops e.1).looksAt ops, view ops T0 V (mn x) t = view ops T0 V L t := by
  intro t ht
  unfold view
  cases hw : writer ops t with
  | none => rfl
  | some j =>
    obtain ⟨hj, hd⟩ := writer_spec hw
    have hl := looks_of (i := e.1) (j := j) ht hd
    have hjm := k.all j hj
    rw [he] at hjm
    rcases List.mem_append.1 hjm with h | h
    · have := (k.nam1 x y e he (j, true) h rfl hlk hl).ready (L := fun n => L n = true) hc hp
      simp only [mn_iff.2 h, if_true, this]
    · have hnx : (j, true) ∉ x := by
        rcases List.mem_cons.1 h with h1 | h1
        · rw [h1]; exact k.notin he
        · exact k.notin2 he h1
      have hL : L j = false := by
        rcases List.mem_cons.1 h with h1 | h1
        · rw [show j = e.1 from by rw [← h1]]; exact hi
        · by_cases hje : j = e.1
          · rw [hje]; exact hi
          · obtain ⟨y1, y2, rfl⟩ := List.append_of_mem h1
            have ha := k.nam2 (x ++ e :: y1) y2 (j, true) (by rw [he]; simp) e (by simp) hlk rfl hl (fun e1 => hje e1.symm)
            cases hLj : L j with
            | false => rfl
            | true =>
              have := ha.closed (L := fun n => L n = true) hc hLj
              rw [hi] at this; cases this
      simp [mn_false.2 hnx, hL]
theorem nosel (k : DOk ops τ pp loud) {i : Nat} (hi : i < ops.size) : ∀ cs b, (opAt ops i).op ≠ .select cs b := fun cs b =>
  Region.noSelect_spec k.sel i (opAt ops i) cs b (by simp [opAt, hi])
theorem getD_eq {listed : Array Bool} {n i : Nat} (hs : listed.size = n) (hi : i < n) : listed.getD i true = listed.getD i false := by
  simp [Array.getD_eq_getD_getElem?, hs, hi]
end
end Go.Proofs.YtfbjgbecabbdnaaGreatDoor.Sl
