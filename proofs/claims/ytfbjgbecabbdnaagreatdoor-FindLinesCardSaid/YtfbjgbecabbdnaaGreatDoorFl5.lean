import Derived.Test.YtfbjgbecabbdnaaGreatDoorFl4
/- The evaluator's blocks; how they stand to the heap; what turns them. -/
set_option linter.unusedVariables false
set_option linter.unusedSimpArgs false
namespace Go.Proofs.YtfbjgbecabbdnaaGreatDoor.Ce
open Go.Proofs.YtfbjgbecabbdnaaGreatDoor.Sl
/-! ### 1. Blocks -/
/-- st: when it was turned last. -/
inductive CO where
  | dead (st : Nat)
  | cells (st : Nat) (t : Nat) (cs : List CV)
  | map (st : Nat) (t : Nat) (es : List (List Int × CV))
  | lp (st : Nat) (busy : Bool) (f : Pos) (T : SL CV)
abbrev CH := Ht CO
def dead3 : Pg (Pg (Pg CO)) := Pg.all (Pg.all (Pg.all (.dead 0)))
abbrev ch0 : CH := .e
def CO.st : CO → Nat
  | .dead s | .cells s _ _ | .map s _ _ | .lp s _ _ _ => s
def CO.live : CO → Bool
  | .dead _ => false
  | _ => true
noncomputable def hget (p : Id) (H : CH) : CO := iget dead3 p H
noncomputable def hset (p : Id) (o : CO) (H : CH) : CH := iset dead3 p o H
theorem hget_nil (p : Id) : hget p ch0 = .dead 0 := by
  obtain ⟨pg, c, b, a⟩ := p
  show Pg.get a (Pg.get b (Pg.get c (Tr.get dead3 pg .e))) = _
  rw [Tr.get_e]
  show Pg.get a (Pg.get b (Pg.get c (Pg.all (Pg.all (Pg.all (CO.dead 0)))))) = _
  rw [Pg.get_all, Pg.get_all, Pg.get_all]
theorem hget_set (p q : Id) (o : CO) (H : CH) : hget q (hset p o H) = if q = p then o else hget q H := iget_iset _ _ _ _ _
theorem hget_same (p : Id) (o : CO) (H : CH) : hget p (hset p o H) = o := by rw [hget_set, if_pos rfl]
theorem hget_ne {p q : Id} (h : q ≠ p) (o : CO) (H : CH) : hget q (hset p o H) = hget q H := by rw [hget_set, if_neg h]
/-- Which keys a map type's keys are: one number, a struct of numbers. -/
inductive Sh where
  | int (k : IntKind)
  | agg (ks : List IntKind)
def Sh.n : Sh → Nat
  | .int _ => 1
  | .agg ks => ks.length
def zipK : List IntKind → List Int → List Value
  | k :: ks, n :: ns => .int k n :: zipK ks ns
  | _, _ => []
abbrev Sh.key (s : Sh) : Type := { l : List Int // l.length = s.n }
def Sh.enc (s : Sh) (l : s.key) : Value := match s with
  | .int k => .int k (l.1.headD 0)
  | .agg ks => .agg (zipK ks l.1).toArray
/-- What is known of the program's types of keys: type of the map, of the keys, their shape. -/
structure Ky (P : Program) where
  ξ : Nat → Value
  sh : TypeId → Option Sh
  law : ∀ t s, sh t = some s → ∃ kt et d, P.underlying t = some (.map kt et) ∧ P.underlying kt = some d ∧ KeyLaw P kt s.enc
variable {P : Program}
/-- A map's entries: born in the order of the list (nothing is deleted here). -/
def MB {κ : Type} (enc : κ → Value) (l : List (κ × Value)) : List MapEntry := l.zipIdx.map fun p => { key := enc p.1.1, val := p.1.2, born := p.2 }
/-- The loop over a function that a function's code holds. -/
def rfC : Code → Option (Array Tmp × Code × Code)
  | .rangeFunc _ ps a b => some (ps, a, b)
  | .seq x y => match rfC x with
    | some r => some r
    | none => rfC y
  | .block _ x => rfC x
  | _ => none
def rfP (P : Program) (f : FuncId) : Option (Array Tmp × Code × Code) := ((P.funcs[f]?).bind (·.body)).bind rfC
def ntP (P : Program) (f : FuncId) : Nat := ((P.funcs[f]?).map (·.ntmps)).getD 0
/-- How a block lies. -/
inductive ORp (K : Ky P) (β : Bk) (h : Heap) (x : Blk) : CO → Prop where
  | dead (st : Nat) : ORp K β h x (.dead st)
  | cells {st t : Nat} {cs : List CV} {vs tl : List Value} (hb : h x.b = some (.cells (vs ++ tl).toArray t (0, 0))) (hl : (vs ++ tl).length = x.len) (hr : VRs β cs vs) (h1 : cs.all CV.one = true) : ORp K β h x (.cells st t cs)
  | map {st t : Nat} {es : List (List Int × CV)} (s : Sh) (hs : K.sh t = some s) (l : List (s.key × Value)) (hb : h x.b = some (.map (MB s.enc l).toArray l.length)) (n1 : Keys1 l) (hk : l.map (fun p => p.1.1) = es.map (·.1)) (hr : VRs β (es.map (·.2)) (l.map (·.2))) : ORp K β h x (.map st t es)
  | lp {st : Nat} {busy : Bool} {f : Pos} {T : SL CV} {r : Loop} {Tc : Tm} (hb : h x.b = some (.loop r)) (hs : r.state = bif busy then .busy else .ready) (hp : r.pending = none) (hr : rfP P (f.nat - 1) = some (r.params, r.assign, r.body)) (hT : TR β T Tc) (ht : Reads (ntP P (f.nat - 1)) Tc { tmps := r.tmps, defers := [] } []) : ORp K β h x (.lp st busy f T)
structure HR (K : Ky P) (β : Bk) (H : CH) (n : Id) (ck : Nat) (h : Heap) : Prop where
  has : ∀ p, (hget p H).live = true → ∃ x, β p = some x
  obj : ∀ p x, β p = some x → ORp K β h x (hget p H)
  inj : ∀ p q x y, (hget p H).live = true → (hget q H).live = true → β p = some x → β q = some y → x.b = y.b → p = q
  new : ∀ p, n.nat ≤ p.nat → β p = none
  ck : ∀ p, (hget p H).st ≤ ck
  new0 : ∀ p, n.nat ≤ p.nat → (hget p H).st = 0
  xs : β.x = K.ξ
/-- What was not turned is as it was. -/
def Keep (β : Bk) (H H' : CH) (h h' : Heap) : Prop := ∀ p x, β p = some x → (hget p H).live = true → (hget p H).st ≤ (hget p H').st ∧ ((hget p H').st = (hget p H).st → hget p H' = hget p H ∧ h' x.b = h x.b)
theorem Keep.refl (β : Bk) (H : CH) (h : Heap) : Keep β H H h h := fun _ _ _ _ => ⟨Nat.le_refl _, fun _ => ⟨rfl, rfl⟩⟩
theorem Keep.trans {β β' : Bk} {H H1 H2 : CH} {h h1 h2 : Heap} (a : Keep β H H1 h h1) (l : β.le β') (b : Keep β' H1 H2 h1 h2) (m : ∀ p, (hget p H1).st ≤ (hget p H2).st) : Keep β H H2 h h2 := fun p x e hl => by
  have ha := a p x e hl
  refine ⟨Nat.le_trans ha.1 (m p), fun e1 => ?_⟩
  have h2 := m p
  obtain ⟨h3, h4⟩ := ha.2 (by omega)
  obtain ⟨h5, h6⟩ := (b p x (l _ _ e) (by rw [h3]; exact hl)).2 (by omega)
  exact ⟨h5.trans h3, h6.trans h4⟩
section
variable {K : Ky P} {β β' : Bk} {H : CH} {n : Id} {ck st : Nat} {h h' : Heap} {x : Blk}
theorem ORp.le (l : β.le β') {o : CO} (r : ORp K β h x o) (e : h' x.b = h x.b) : ORp K β' h' x o := by
  cases r with
  | dead st => exact .dead st
  | cells hb hl hr h1 => exact .cells (by rw [e]; exact hb) hl (hr.le l) h1
  | map s hs l' hb n1 hk hr => exact .map s hs l' (by rw [e]; exact hb) n1 hk (hr.le l)
  | lp hb hs hp hr hT ht => exact .lp (by rw [e]; exact hb) hs hp hr (hT.le l) ht
/-- A new block. -/
noncomputable def Bk.put (β : Bk) (p : Id) (x : Blk) : Bk := ⟨fun q => if q = p then some x else β q, β.x⟩
theorem HR.nn (r : HR K β H n ck h) : β n = none := r.new n (Nat.le_refl _)
theorem HR.put_le (r : HR K β H n ck h) (x : Blk) : β.le (β.put n x) := ⟨fun p y e => by
  show (if p = n then some x else β p) = some y
  by_cases hp : p = n
  · rw [hp, r.nn] at e; cases e
  · rw [if_neg hp]; exact e, rfl⟩
theorem Bk.put_same (β : Bk) (p : Id) (x : Blk) : β.put p x p = some x := by simp [Bk.put]
theorem ORp.some {o : CO} (r : ORp K β h x o) (hl : o.live = true) : h x.b ≠ none := by
  cases r with
  | dead st => cases hl
  | cells hb hl hr h1 => rw [hb]; simp
  | map s hs l' hb n1 hk hr => rw [hb]; simp
  | lp hb hs hp hr hT ht => rw [hb]; simp
theorem HR.at_ (r : HR K β H n ck h) (p : Id) (x : Blk) (e : β p = some x) (hl : (hget p H).live = true) : h x.b ≠ none := (r.obj p x e).some hl
theorem ORp.dead_of {o : CO} (hl : o.live = false) : ORp K β h x o := by
  cases o with
  | dead st => exact .dead st
  | cells _ _ _ => cases hl
  | map _ _ _ => cases hl
  | lp _ _ _ _ => cases hl
/-- Blocks that do not matter may turn. -/
theorem HR.same (r : HR K β H n ck h) (e : ∀ p x, β p = some x → (hget p H).live = true → h' x.b = h x.b) : HR K β H n ck h' :=
  ⟨r.has, fun p x hx => by
    cases hl : (hget p H).live with
    | true => exact (r.obj p x hx).le (Bk.le_refl _) (e p x hx hl)
    | false => exact .dead_of hl, r.inj, r.new, r.ck, r.new0, r.xs⟩
theorem HR.fresh (r : HR K β H n ck h) {b : Nat} (hb : h b = none) (ob : Obj) : HR K β H n ck (h.set b ob) ∧ Keep β H H h (h.set b ob) := by
  have e : ∀ p x, β p = some x → (hget p H).live = true → (h.set b ob) x.b = h x.b := fun p x hx hl => Heap.set_other _ _ fun e1 => r.at_ p x hx hl (by rw [e1]; exact hb)
  exact ⟨r.same e, fun p x hx hl => ⟨Nat.le_refl _, fun _ => ⟨rfl, e p x hx hl⟩⟩⟩
theorem HR.alloc (r : HR K β H n ck h) {b : Nat} {ob : Obj} {o : CO} {len : Nat} (hb : h b = none) (ho : ORp K (β.put n ⟨b, len⟩) (h.set b ob) ⟨b, len⟩ o) (hst : o.st ≤ ck) : HR K (β.put n ⟨b, len⟩) (hset n o H) n.succ ck (h.set b ob) := by
  have old : ∀ p x, β p = some x → p ≠ n ∧ ((hget p H).live = true → x.b ≠ b) := fun p x e => ⟨fun e1 => (by rw [e1, r.nn] at e; cases e), fun hl e1 => r.at_ p x e hl (by rw [e1]; exact hb)⟩
  have inv : ∀ p y, β.put n ⟨b, len⟩ p = some y → (p = n ∧ y = ⟨b, len⟩) ∨ (p ≠ n ∧ β p = some y) := fun p y e => by
    replace e : (if p = n then some ⟨b, len⟩ else β p) = some y := e
    split at e
    · rename_i hp; cases e; exact .inl ⟨hp, rfl⟩
    · rename_i hp; exact .inr ⟨hp, e⟩
  refine ⟨fun p hp => ?_, fun p y e => ?_, fun p q y z hp hq e1 e2 e3 => ?_, fun p hp => ?_, fun p => ?_, fun p hp => ?_, r.xs⟩
  · by_cases e : p = n
    · subst e; exact ⟨_, Bk.put_same _ _ _⟩
    · rw [hget_ne e] at hp
      obtain ⟨y, hy⟩ := r.has p hp
      exact ⟨y, r.put_le _ _ _ hy⟩
  · rcases inv p y e with ⟨rfl, rfl⟩ | ⟨hne, e⟩
    · rw [hget_same]; exact ho
    · rw [hget_ne hne]
      cases hl : (hget p H).live with
      | true => exact (r.obj p y e).le (r.put_le _) (Heap.set_other _ _ ((old p y e).2 hl))
      | false => exact .dead_of hl
  · rcases inv p y e1 with ⟨a1, a2⟩ | ⟨a1, a2⟩ <;> rcases inv q z e2 with ⟨b1, b2⟩ | ⟨b1, b2⟩
    · rw [a1, b1]
    · rw [a2] at e3; rw [hget_ne b1] at hq; exact absurd e3.symm ((old q z b2).2 hq)
    · rw [b2] at e3; rw [hget_ne a1] at hp; exact absurd e3 ((old p y a2).2 hp)
    · rw [hget_ne a1] at hp; rw [hget_ne b1] at hq; exact r.inj p q y z hp hq a2 b2 e3
  · rw [Id.nat_succ] at hp
    have hne : p ≠ n := fun e => by rw [e] at hp; omega
    show (if p = n then some ⟨b, len⟩ else β p) = none
    rw [if_neg hne]; exact r.new p (by omega)
  · by_cases e : p = n
    · subst e; rw [hget_same]; exact hst
    · rw [hget_ne e]; exact r.ck p
  · rw [Id.nat_succ] at hp
    have hne : p ≠ n := fun e => by rw [e] at hp; omega
    rw [hget_ne hne]; exact r.new0 p (by omega)
theorem HR.alloc_keep (r : HR K β H n ck h) {b : Nat} {ob : Obj} (o : CO) (hb : h b = none) : Keep β H (hset n o H) h (h.set b ob) := fun p x e hl => by
  have hne : p ≠ n := fun e1 => by rw [e1, r.nn] at e; cases e
  rw [hget_ne hne]
  exact ⟨Nat.le_refl _, fun _ => ⟨rfl, Heap.set_other _ _ fun e1 => r.at_ p x e hl (by rw [e1]; exact hb)⟩⟩
theorem Keep.set {p : Id} (hp : (hget p H).st < st) {o : CO} (ho : o.st = st) (e : ∀ q y, q ≠ p → β q = some y → (hget q H).live = true → h' y.b = h y.b) : Keep β H (hset p o H) h h' := fun q y hy hl => by
  by_cases hq : q = p
  · subst hq; rw [hget_same]; exact ⟨by omega, fun e1 => by omega⟩
  · rw [hget_ne hq]; exact ⟨Nat.le_refl _, fun _ => ⟨rfl, e q y hq hy hl⟩⟩
theorem HR.oth (r : HR K β H n ck h) {p : Id} (hx : β p = some x) (hp : (hget p H).live = true) : ∀ q y, q ≠ p → β q = some y → (hget q H).live = true → y.b ≠ x.b := fun q y hne e hq e1 => hne (r.inj q p y x hq hp e hx e1)
/-- A live block is turned. -/
theorem HR.turn (r : HR K β H n ck h) {p : Id} (hx : β p = some x) (hp : (hget p H).live = true) {ob : Obj} {o : CO} (ho : ORp K β (h.set x.b ob) x o) (hst : o.st = ck + 1) : HR K β (hset p o H) n (ck + 1) (h.set x.b ob) ∧ Keep β H (hset p o H) h (h.set x.b ob) := by
  have oth := r.oth hx hp
  refine ⟨⟨fun q hq => ?_, fun q y e => ?_, fun a c y z ha hc e1 e2 e3 => ?_, r.new, fun q => ?_, fun q hq => ?_, r.xs⟩, Keep.set (st := ck + 1) (by have := r.ck p; omega) hst fun q y hne e hl => Heap.set_other _ _ (oth q y hne e hl)⟩
  · by_cases e : q = p
    · subst e; exact ⟨_, hx⟩
    · rw [hget_ne e] at hq; exact r.has q hq
  · by_cases e1 : q = p
    · subst e1; rw [hx] at e; cases e; rw [hget_same]; exact ho
    · rw [hget_ne e1]
      cases hl : (hget q H).live with
      | true => exact (r.obj q y e).le (Bk.le_refl _) (Heap.set_other _ _ (oth q y e1 e hl))
      | false => exact .dead_of hl
  · have hl : ∀ q, (hget q (hset p o H)).live = true → (hget q H).live = true := fun q hq => by
      by_cases e : q = p
      · subst e; exact hp
      · rw [hget_ne e] at hq; exact hq
    exact r.inj a c y z (hl a ha) (hl c hc) e1 e2 e3
  · by_cases e : q = p
    · subst e; rw [hget_same]; omega
    · rw [hget_ne e]; exact Nat.le_succ_of_le (r.ck q)
  · have hne : q ≠ p := fun e => by rw [e] at hq; rw [r.new p hq] at hx; cases hx
    rw [hget_ne hne]; exact r.new0 q hq
/-- A live block is given up; what it held lies on, in it or in a new one, by another name. -/
theorem HR.moved (r : HR K β H n ck h) {p : Id} (hx : β p = some x) (hp : (hget p H).live = true) {y : Blk} (hy : y.b = x.b ∨ h y.b = none) {o : CO} (hst : o.st = ck + 1) (ho : ORp K (β.put n y) h' y o) (same : ∀ b ob, h b = some ob → b ≠ x.b → h' b = some ob) :
    HR K (β.put n y) (hset n o (hset p (.dead (ck + 1)) H)) n.succ (ck + 1) h' ∧ Keep β H (hset n o (hset p (.dead (ck + 1)) H)) h h' := by
  have oth := r.oth hx hp
  have hpn : p ≠ n := fun e1 => by rw [e1, r.nn] at hx; cases hx
  have kp : ∀ q z, q ≠ p → β q = some z → (hget q H).live = true → h' z.b = h z.b := fun q z hne e hl => by
    cases e1 : h z.b with
    | none => exact absurd e1 (r.at_ q z e hl)
    | some ob => exact same _ _ e1 (oth q z hne e hl)
  have inv : ∀ q z, β.put n y q = some z → (q = n ∧ z = y) ∨ (q ≠ n ∧ β q = some z) := fun q z e => by
    replace e : (if q = n then some y else β q) = some z := e
    split at e
    · rename_i hq; cases e; exact .inl ⟨hq, rfl⟩
    · rename_i hq; exact .inr ⟨hq, e⟩
  have lv : ∀ q, q ≠ n → (hget q (hset n o (hset p (.dead (ck + 1)) H))).live = true → q ≠ p ∧ (hget q H).live = true := fun q hq hl => by
    rw [hget_ne hq] at hl
    by_cases e : q = p
    · subst e; rw [hget_same] at hl; cases hl
    · rw [hget_ne e] at hl; exact ⟨e, hl⟩
  have yne : ∀ q z, q ≠ p → β q = some z → (hget q H).live = true → z.b ≠ y.b := fun q z hne e hl e1 => by
    rcases hy with hy | hy
    · exact oth q z hne e hl (e1.trans hy)
    · exact r.at_ q z e hl (by rw [e1]; exact hy)
  refine ⟨⟨fun q hq => ?_, fun q z e => ?_, fun a c z w ha hc e1 e2 e3 => ?_, fun q hq => ?_, fun q => ?_, fun q hq => ?_, r.xs⟩, fun q z e hl => ?_⟩
  · by_cases e : q = n
    · subst e; exact ⟨_, Bk.put_same _ _ _⟩
    · obtain ⟨z, hz⟩ := r.has q (lv q e hq).2
      exact ⟨z, r.put_le _ _ _ hz⟩
  · rcases inv q z e with ⟨rfl, rfl⟩ | ⟨hne, e⟩
    · rw [hget_same]; exact ho
    · rw [hget_ne hne]
      by_cases e1 : q = p
      · subst e1; rw [hget_same]; exact .dead _
      · rw [hget_ne e1]
        cases hl : (hget q H).live with
        | true => exact (r.obj q z e).le (r.put_le _) (kp q z e1 e hl)
        | false => exact .dead_of hl
  · rcases inv a z e1 with ⟨a1, a2⟩ | ⟨a1, a2⟩ <;> rcases inv c w e2 with ⟨b1, b2⟩ | ⟨b1, b2⟩
    · rw [a1, b1]
    · obtain ⟨h1, h2⟩ := lv c b1 hc
      rw [a2] at e3; exact absurd e3.symm (yne c w h1 b2 h2)
    · obtain ⟨h1, h2⟩ := lv a a1 ha
      rw [b2] at e3; exact absurd e3 (yne a z h1 a2 h2)
    · exact r.inj a c z w (lv a a1 ha).2 (lv c b1 hc).2 a2 b2 e3
  · rw [Id.nat_succ] at hq
    have hne : q ≠ n := fun e => by rw [e] at hq; omega
    show (if q = n then some y else β q) = none
    rw [if_neg hne]; exact r.new q (by omega)
  · by_cases e : q = n
    · subst e; rw [hget_same]; omega
    · rw [hget_ne e]
      by_cases e1 : q = p
      · subst e1; rw [hget_same]; exact Nat.le_refl _
      · rw [hget_ne e1]; exact Nat.le_succ_of_le (r.ck q)
  · rw [Id.nat_succ] at hq
    have hne : q ≠ n := fun e => by rw [e] at hq; omega
    have hne2 : q ≠ p := fun e => by
      rw [e] at hq
      rw [r.new p (by omega)] at hx; cases hx
    rw [hget_ne hne, hget_ne hne2]; exact r.new0 q (by omega)
  · have hne : q ≠ n := fun e1 => by rw [e1, r.nn] at e; cases e
    rw [hget_ne hne]
    by_cases e1 : q = p
    · subst e1; rw [hget_same]
      have := r.ck q
      exact ⟨by show _ ≤ ck + 1; omega, fun e2 => by change ck + 1 = _ at e2; omega⟩
    · rw [hget_ne e1]; exact ⟨Nat.le_refl _, fun _ => ⟨rfl, kp q z e1 e hl⟩⟩
end
end Go.Proofs.YtfbjgbecabbdnaaGreatDoor.Ce

/- Values told without memory: frozen values (what they point to stays), objects of the function's own by their names; how these stand to slots and heap. -/
set_option linter.unusedVariables false
set_option linter.unusedSimpArgs false
namespace Go.Proofs.YtfbjgbecabbdnaaGreatDoor.Ab
open Go.Proofs.YtfbjgbecabbdnaaGreatDoor.Sl
/-- A frozen value: a value; cells; a slice (how many rows, each row's cells); a pointer (the cells behind it); several results; a value with its type; a function with what it bears. -/
inductive FV where
  | val (v : Value)
  | agg (cs : List FV)
  | sl (n : Nat) (f : Nat → List FV)
  | fp (cs : List FV)
  | tup (cs : List FV)
  | ifc (t : TypeId) (x : FV)
  | fn (f : FuncId) (first cap : List FV)
/-- Does it lie in one cell? -/
def FV.one : FV → Bool
  | .val v => v.oneCell'
  | .agg _ | .tup _ => false
  | _ => true
inductive FRep (h : Heap) : FV → Value → Prop where
  | val (v : Value) : FRep h (.val v) v
  | agg {cs : List FV} {vs : List Value} (hl : vs.length = cs.length) (hr : ∀ (j : Nat) (c : FV) (v : Value), cs[j]? = some c → vs[j]? = some v → FRep h c v) : FRep h (.agg cs) (.agg vs.toArray)
  | sl0 (f : Nat → List FV) (a : Option Addr) (c : Nat) : FRep h (.sl 0 f) (.slice a 0 c)
  | sl {n : Nat} {f : Nat → List FV} {b off c sz : Nat} {full : Array Value} {e : TypeId} {fz : Nat × Nat} (hb : h b = some (.cells full e fz)) (hnc : n ≤ c) (hsz : ∀ i, i < n → (f i).length = sz) (h1 : ∀ i, i < n → (f i).all FV.one = true) (hs : off + n * sz ≤ full.size)
      (hr : ∀ (i j : Nat) (c : FV) (v : Value), i < n → (f i)[j]? = some c → full[off + i * sz + j]? = some v → FRep h c v) : FRep h (.sl n f) (.slice (some ⟨b, off, none⟩) n c)
  | fp {cs : List FV} {b off : Nat} {full : Array Value} {e : TypeId} {fz : Nat × Nat} (hb : h b = some (.cells full e fz)) (hs : off + cs.length ≤ full.size)
      (hr : ∀ (j : Nat) (c : FV) (v : Value), cs[j]? = some c → full[off + j]? = some v → FRep h c v) : FRep h (.fp cs) (.pointer (some ⟨b, off, none⟩))
  | tup {cs : List FV} {vs : List Value} (hl : vs.length = cs.length) (hr : ∀ (j : Nat) (c : FV) (v : Value), cs[j]? = some c → vs[j]? = some v → FRep h c v) : FRep h (.tup cs) (.tuple vs.toArray)
  | ifc {t : TypeId} {x : FV} {v : Value} (hx : FRep h x v) : FRep h (.ifc t x) (.iface t v)
  | fn {f : FuncId} {a b : List FV} {va vb : List Value} (hl : va.length = a.length) (hl2 : vb.length = b.length) (hr : ∀ (j : Nat) (c : FV) (v : Value), a[j]? = some c → va[j]? = some v → FRep h c v) (hr2 : ∀ (j : Nat) (c : FV) (v : Value), b[j]? = some c → vb[j]? = some v → FRep h c v) :
      FRep h (.fn f a b) (.func (.func f) va.toArray vb.toArray)
theorem FRep.le {h h' : Heap} (l : h.le h') {x : FV} {v : Value} (r : FRep h x v) : FRep h' x v := by
  induction r with
  | val v => exact .val v
  | agg hl _ ih => exact .agg hl ih
  | sl0 f a c => exact .sl0 f a c
  | sl hb hnc hsz h1 hs _ ih => exact .sl (l _ _ hb) hnc hsz h1 hs ih
  | fp hb hs _ ih => exact .fp (l _ _ hb) hs ih
  | tup hl _ ih => exact .tup hl ih
  | ifc _ ih => exact .ifc ih
  | fn hl hl2 _ _ ih ih2 => exact .fn hl hl2 ih ih2
theorem FRep.one {h : Heap} {x : FV} {v : Value} (r : FRep h x v) (h1 : x.one = true) : v.oneCell' = true := by
  cases r <;> first | exact h1 | rfl | cases h1
def FReps (h : Heap) (cs : List FV) (vs : List Value) : Prop := vs.length = cs.length ∧ ∀ (j : Nat) (c : FV) (v : Value), cs[j]? = some c → vs[j]? = some v → FRep h c v
theorem FReps.le {h h' : Heap} (l : h.le h') {cs : List FV} {vs : List Value} (r : FReps h cs vs) : FReps h' cs vs := ⟨r.1, fun j c v a b => (r.2 j c v a b).le l⟩
theorem FReps.nil (h : Heap) : FReps h [] [] := ⟨rfl, fun j c v a => by simp at a⟩
theorem FReps.cons {h : Heap} {c : FV} {v : Value} {cs : List FV} {vs : List Value} (a : FRep h c v) (b : FReps h cs vs) : FReps h (c :: cs) (v :: vs) :=
  ⟨by simp [b.1], fun j x y e1 e2 => by
    cases j with
    | zero => simp only [List.getElem?_cons_zero, Option.some.injEq] at e1 e2; subst e1; subst e2; exact a
    | succ j => exact b.2 j x y (by simpa using e1) (by simpa using e2)⟩
/-- A value in a slot, or in a cell of an object: frozen; an object's slice; a pointer to an object's cell (of row i, rows of sz cells). -/
inductive AV where
  | hid
  | fz (x : FV)
  | os (id : Nat)
  | oe (id sz i off : Nat)
def baseOf : Value → Option Nat
  | .pointer (some ⟨b, 0, none⟩) => some b
  | .slice (some ⟨b, 0, none⟩) _ _ => some b
  | .map (some b) => some b
  | _ => none
inductive ARep (β : Nat → Value) (h : Heap) : AV → Value → Prop where
  | hid (v : Value) : ARep β h .hid v
  | fz {x : FV} {v : Value} (r : FRep h x v) : ARep β h (.fz x) v
  | os (id : Nat) : ARep β h (.os id) (β id)
  | oe {id sz i off b : Nat} (hb : baseOf (β id) = some b) : ARep β h (.oe id sz i off) (.pointer (some ⟨b, i * sz + off, none⟩))
def AV.nm : AV → Option Nat
  | .hid | .fz _ => none
  | .os id => some id
  | .oe id _ _ _ => some id
theorem ARep.to {β β' : Nat → Value} {h h' : Heap} {x : AV} {v : Value} (r : ARep β h x v) (l : h.le h') (e : ∀ id, x.nm = some id → β' id = β id) : ARep β' h' x v := by
  cases r with
  | hid v => exact .hid v
  | fz r => exact .fz (r.le l)
  | os id => rw [← e id rfl]; exact .os id
  | oe hb => exact .oe (by rw [e _ rfl]; exact hb)
def AReps (β : Nat → Value) (h : Heap) (cs : List AV) (vs : List Value) : Prop := vs.length = cs.length ∧ ∀ (j : Nat) (c : AV) (v : Value), cs[j]? = some c → vs[j]? = some v → ARep β h c v
theorem AReps.to {β β' : Nat → Value} {h h' : Heap} {cs : List AV} {vs : List Value} (r : AReps β h cs vs) (l : h.le h') (e : ∀ c ∈ cs, ∀ id, c.nm = some id → β' id = β id) : AReps β' h' cs vs :=
  ⟨r.1, fun j c v a b => (r.2 j c v a b).to l (e c (List.mem_of_getElem? a))⟩
theorem AReps.fz {β : Nat → Value} {h : Heap} {cs : List FV} {vs : List Value} (r : FReps h cs vs) : AReps β h (cs.map .fz) vs :=
  ⟨by rw [List.length_map]; exact r.1, fun j c v a b => by
    rw [List.getElem?_map] at a
    cases e : cs[j]? with
    | none => rw [e] at a; cases a
    | some x => rw [e] at a; cases a; exact .fz (r.2 j x v e b)⟩
/-- An object of the function's own: cells (behind a pointer); the rows of a slice. -/
inductive OO where
  | box (t : TypeId) (cells : List AV)
  | ext (D : Nat → Prop) (Φ : Value → Heap → Prop)
  | rows (t : TypeId) (sz : Nat) (rows : List (List FV))
def OO.cells : OO → List AV
  | .box _ cs => cs
  | _ => []
/-- Its blocks. -/
def fpOf (v : Value) : OO → Nat → Prop
  | .ext D _, b => D b
  | _, b => baseOf v = some b
/-- What was there at the beginning; what objects of names from 1000 on are by value. -/
structure Gd where
  h : Heap
  fx : Nat → Value
abbrev AS := List (Nat × OO)
abbrev AT := List (Nat × AV)
abbrev AL := List (Nat × Option (Nat × Bool) × AV)
def OOk (β : Nat → Value) (hF h : Heap) (id : Nat) : OO → Prop
  | .box t cells => ∃ b vs, β id = .pointer (some ⟨b, 0, none⟩) ∧ h b = some (.cells (List.toArray vs) t (0, 0)) ∧ AReps β hF cells vs
  | .ext D Φ => (∀ b, baseOf (β id) = some b → D b) ∧ (∀ b, D b → h b ≠ none) ∧ ∀ h', (∀ b, D b → h' b = h b) → Φ (β id) h'
  | .rows t sz rows => ∃ vs, Own h t sz (β id) rows.length vs ∧ (∀ r ∈ rows, r.length = sz) ∧ (∀ r ∈ rows, r.all FV.one = true) ∧ FReps hF rows.flatten vs
structure Ok (h0 : Gd) (β : Nat → Value) (hF h : Heap) (σ : AS) : Prop where
  le0 : h0.h.le hF
  le : hF.le h
  ok : ∀ e ∈ σ, OOk β hF h e.1 e.2
  out : ∀ e ∈ σ, ∀ b, fpOf (β e.1) e.2 b → hF b = none
  sep : ∀ e ∈ σ, ∀ e' ∈ σ, ∀ b, e.1 ≠ e'.1 → fpOf (β e.1) e.2 b → ¬ fpOf (β e'.1) e'.2 b
  fix : ∀ id, 1000 ≤ id → β id = h0.fx id
  nd : (σ.map (·.1)).Nodup
def GOk (Tc : Tm) (g : Option (Nat × Bool)) (A : Prop) (v : Value) : Prop := match g with
  | none => A
  | some (s, p) => (Tc s = .bool p → A) ∧ (Tc s ≠ .bool p → v = undef)
structure Sem (h0 : Gd) (β : Nat → Value) (hF h : Heap) (Tc : Tm) (T : AT) (L : AL) (σ : AS) : Prop where
  ok : Ok h0 β hF h σ
  t : ∀ e ∈ T, (∀ e' ∈ L, e'.1 ≠ e.1) → ARep β hF e.2 (Tc e.1)
  l : ∀ e ∈ L, GOk Tc e.2.1 (ARep β hF e.2.2 (Tc e.1)) (Tc e.1)
  g : ∀ e ∈ L, ∀ s p, e.2.1 = some (s, p) → ∃ e' ∈ L, e'.1 = s
/-! ### Lookups -/
def lookS : AS → Nat → Option OO
  | [], _ => none
  | e :: r, t => if e.1 = t then some e.2 else lookS r t
theorem lookS_mem {t : Nat} {x : OO} : ∀ {σ : AS}, lookS σ t = some x → (t, x) ∈ σ
  | [], h => by cases h
  | (a, y) :: r, h => by
    unfold lookS at h
    split at h
    · rename_i e; cases h; cases e; exact List.mem_cons_self
    · exact List.mem_cons_of_mem _ (lookS_mem h)
section
variable {h0 : Gd} {β : Nat → Value} {hF h : Heap} {Tc : Tm} {T : AT} {L : AL} {σ : AS}
/-- A new slot. -/
theorem Sem.put (s : Sem h0 β hF h Tc T L σ) {d : Nat} {g : Option (Nat × Bool)} {x : AV} {v : Value} (hd : ∀ e ∈ L, e.1 ≠ d) (hg : ∀ a p, g = some (a, p) → ∃ e ∈ L, e.1 = a) (hv : GOk Tc g (ARep β hF x v) v) : Sem h0 β hF h (upd Tc d v) T ((d, g, x) :: L) σ where
  ok := s.ok
  t := fun e he hne => by
    have h1 : e.1 ≠ d := fun e1 => hne _ List.mem_cons_self e1.symm
    simp only [upd, if_neg h1]
    exact s.t e he fun e' he' => hne e' (List.mem_cons_of_mem _ he')
  l := fun e he => by
    rcases List.mem_cons.1 he with rfl | he
    · simp only [upd, if_true]
      cases g with
      | none => exact hv
      | some a =>
        obtain ⟨a, p⟩ := a
        obtain ⟨e', he', h1⟩ := hg a p rfl
        have : a ≠ d := fun e2 => hd e' he' (h1.trans e2)
        simp only [GOk, upd, if_neg this] at hv ⊢
        exact hv
    · have h1 : e.1 ≠ d := hd e he
      have := s.l e he
      simp only [upd, if_neg h1]
      cases hge : e.2.1 with
      | none => rw [hge] at this; exact this
      | some a =>
        obtain ⟨a, p⟩ := a
        rw [hge] at this
        obtain ⟨e', he', h2⟩ := s.g e he a p hge
        have hne : a ≠ d := fun e2 => hd e' he' (h2.trans e2)
        have hu : upd Tc d v a = Tc a := by simp [upd, hne]
        simp only [GOk, hu]
        exact this
  g := fun e he a p hga => by
    rcases List.mem_cons.1 he with rfl | he
    · obtain ⟨e', he', h1⟩ := hg a p hga
      exact ⟨e', List.mem_cons_of_mem _ he', h1⟩
    · obtain ⟨e', he', h1⟩ := s.g e he a p hga
      exact ⟨e', List.mem_cons_of_mem _ he', h1⟩
end
/-! ### Operands -/
end Go.Proofs.YtfbjgbecabbdnaaGreatDoor.Ab

/- Operations told short; what is reckoned or read of frozen values and of objects. -/
set_option linter.unusedVariables false
set_option linter.unusedSimpArgs false
namespace Go.Proofs.YtfbjgbecabbdnaaGreatDoor.Ab
open Go.Proofs.YtfbjgbecabbdnaaGreatDoor.Sl
/-- An operation, with what the program's types say of it. -/
inductive K where
  | mv (x : Operand) | asg (x : Operand) | pick (c : Nat) (a b : Operand)
  | bin (op : BinOp) (t : TypeId) (x y : Operand) (ty : TypeId)
  | eqs (t : TypeId) (x y : Operand) (ty : TypeId) | nes (t : TypeId) (x y : Operand) (ty : TypeId)
  | eqb (c : Nat) (t : TypeId) (x y : Operand) (ty : TypeId) | neb (c : Nat) (t : TypeId) (x y : Operand) (ty : TypeId)
  | not (t : TypeId) (x : Operand) | bnot (t : TypeId) (x : Operand)
  | conv (s d : TypeId) (x : Operand) (k : IntKind) | nilc (x : Operand)
  | fa (t : TypeId) (x : Operand) (f off n : Nat) | fd1 (t : TypeId) (x : Operand) (f off : Nat) | fdN (t : TypeId) (x : Operand) (f off n : Nat)
  | ix (t : TypeId) (x i : Operand) (e sz : Nat) | ixa (t : TypeId) (x i : Operand) (e sz n : Nat)
  | ld (t : TypeId) (x : Operand) | ldN (t : TypeId) (x : Operand) (n : Nat)
  | len (t : TypeId) (x : Operand) (e : TypeId) | lens (t : TypeId) (x : Operand) | cmin (x y : Operand) (t : TypeId) | cmax (x y : Operand) (t : TypeId)
  | bld (t : TypeId) (parts : List (Nat × Operand)) (pl : List (Nat × Nat)) (z : List Value)
  | ext (x : Operand) (i : Nat) | mkf (f : FuncId) (a b : List Operand) | mki (t : TypeId) (x : Operand)
  | sli (t : TypeId) (x : Operand) (lo hi : Option Operand) (e sz : Nat)
  | box (t : TypeId) (x : Operand) (z : Bool) | alc (t : TypeId) (zs : List Value) (z : Bool)
  | st (t : TypeId) (x y : Operand) | stN (t : TypeId) (x y : Operand) (n : Nat)
  | app (t tx : TypeId) (x y : Operand) (e e' sz : Nat)
  | bsl (t : TypeId) (n : Nat) (parts : List (Nat × Operand)) (e sz : Nat) (z : Bool) | mks (t : TypeId) (x y : Operand) (e sz : Nat) (zs : List Value)
  | call (f : FuncId) (args : List Operand) (tys : List TypeId) | callv (x : Operand) (args : List Operand) (tys : List TypeId)
  | other (op : Op)
def K.op : K → Op
  | .mv x => .move x | .asg x => .assign x | .pick c a b => .pick (.tmp c) a b
  | .bin op t x y ty => .binOp op t x y ty
  | .eqs t x y ty => .binOp .eql t x y ty | .nes t x y ty => .binOp .neq t x y ty
  | .eqb _ t x y ty => .binOp .eql t x y ty | .neb _ t x y ty => .binOp .neq t x y ty
  | .not t x => .unOp .not t x | .bnot t x => .unOp .xor t x
  | .conv s d x _ => .convert s d x | .nilc x => .nilCheck x
  | .fa t x f _ _ => .fieldAddr t x f | .fd1 t x f _ => .field t x f | .fdN t x f _ _ => .field t x f
  | .ix t x i _ _ => .indexAddr t x i | .ixa t x i _ _ _ => .indexAddr t x i
  | .ld t x => .load t x | .ldN t x _ => .load t x
  | .len t x _ => .call ⟨.builtin .len, #[x], #[t]⟩ | .lens t x => .call ⟨.builtin .len, #[x], #[t]⟩
  | .cmin x y t => .call ⟨.builtin .min, #[x, y], #[t, t]⟩ | .cmax x y t => .call ⟨.builtin .max, #[x, y], #[t, t]⟩
  | .bld t parts _ _ => .build t parts.toArray
  | .ext x i => .extract x i | .mkf f a b => .makeFunc (.func f) a.toArray b.toArray | .mki t x => .makeInterface t x
  | .sli t x lo hi _ _ => .slice t x lo hi none
  | .box t x _ => .box t x | .alc t _ _ => .alloc t
  | .st t x y => .store t x y | .stN t x y _ => .store t x y
  | .app t tx x y _ _ _ => .call ⟨.builtin .append, #[x, y], #[t, tx]⟩
  | .bsl t n parts _ _ _ => .buildSlice t n parts.toArray | .mks t x y _ _ _ => .makeSlice t x y
  | .call f args tys => .call ⟨.value (.func f), args.toArray, tys.toArray⟩ | .callv x args tys => .call ⟨.value x, args.toArray, tys.toArray⟩
  | .other op => op
/-- What is asked of the program's types. -/
def isEq (P : Program) (c : Nat) (t : TypeId) (y : Operand) : Bool := match c, P.underlying t with
  | 0, some .bool => true
  | 1, some (.pointer _) => true
  | 2, some (.interface _) => isLit y
  | _, _ => false
def isOne (P : Program) (t : TypeId) : Bool := match P.underlying t with
  | some (.struct _) | some (.array _ _) | none => false
  | _ => true
def isMany (P : Program) (t : TypeId) : Bool := match P.underlying t with
  | some (.struct _) | some (.array _ _) => true
  | _ => false
def isSl (P : Program) (t e : TypeId) : Bool := match P.underlying t with
  | some (.slice e') => e' == e
  | _ => false
def isArr (P : Program) (t n e : TypeId) : Bool := match P.underlying t with
  | some (.array n' e') => e' == e && n' == n
  | _ => false
def isIntT (P : Program) (t : TypeId) : Bool := match P.underlying t with
  | some (.int _) => true
  | _ => false
def isStr (P : Program) (t : TypeId) : Bool := match P.underlying t with
  | some .string => true
  | _ => false
def sameZ : Value → Value → Bool
  | .int k n, .int k' n' => decide (k = k') && decide (n = n')
  | .bool a, .bool b => a == b
  | .string a, .string b => a.size == 0 && b.size == 0
  | .pointer none, .pointer none => true
  | .slice none 0 0, .slice none 0 0 => true
  | .map none, .map none => true
  | .nilFunc, .nilFunc => true
  | .nilIface, .nilIface => true
  | _, _ => false
theorem ba_empty {a : ByteArray} (h : (a.size == 0) = true) : a = ByteArray.empty := by
  cases a with
  | mk d =>
    simp only [beq_iff_eq, ByteArray.size] at h
    have : d = #[] := Array.size_eq_zero_iff.1 h
    subst this; rfl
theorem sameZ_eq {a b : Value} (h : sameZ a b = true) : a = b := by
  unfold sameZ at h
  split at h
  · simp only [Bool.and_eq_true, decide_eq_true_eq] at h; rw [h.1, h.2]
  · simp only [beq_iff_eq] at h; rw [h]
  · simp only [Bool.and_eq_true] at h; rw [ba_empty h.1, ba_empty h.2]
  all_goals first | rfl | cases h
def sameZs : List Value → List Value → Bool
  | [], [] => true
  | a :: x, b :: y => sameZ a b && sameZs x y
  | _, _ => false
theorem sameZs_eq : ∀ {a b : List Value}, sameZs a b = true → a = b
  | [], [], _ => rfl
  | a :: x, b :: y, h => by
    simp only [sameZs, Bool.and_eq_true] at h
    rw [sameZ_eq h.1, sameZs_eq h.2]
  | [], _ :: _, h => by cases h
  | _ :: _, [], h => by cases h
def zeroIs (P : Program) (t : TypeId) (z : List Value) : Bool := match zeroOf P t with
  | some zs => sameZs zs.toList z
  | none => false
theorem zeroIs_eq {P : Program} {t : TypeId} {z : List Value} (h : zeroIs P t z = true) : zeroOf P t = some z.toArray := by
  unfold zeroIs at h
  split at h
  · rename_i zs e; rw [e, ← sameZs_eq h]
  · cases h
def okCall (P : Program) (f : FuncId) : Bool := match P.funcs[f]? with
  | some fn => !(fn.name == "runtime.NumGoroutine") && !fn.body.isNone
  | none => false
def K.side (P : Program) : K → Bool
  | .fa t _ f off n => fieldOff P t f == some off
  | .fd1 t _ f off => fieldPart P t f == some (off, 1, false)
  | .fdN t _ f off n => fieldPart P t f == some (off, n, true)
  | .ix t _ _ e sz => isSl P t e && P.cellsOf e == sz && (P.info? e).isSome
  | .ixa t _ _ e sz n => isArr P t n e && P.cellsOf e == sz && (P.info? e).isSome
  | .ld t _ => isOne P t
  | .ldN t _ n => isMany P t && P.cellsOf t == n
  | .conv s d _ k => isIntT P s && (match P.underlying d with | some (.int k') => k' == k | _ => false)
  | .len t _ e => isSl P t e
  | .eqb c t _ y _ | .neb c t _ y _ => isEq P c t y
  | .lens t _ => isStr P t
  | .mki t _ => match P.underlying t with
    | some (.interface _) | none => false
    | _ => true
  | .bld t _ pl z => placesOf P t == some pl && zeroIs P t z
  | .alc t zs _ => zeroIs P t zs && !zs.isEmpty
  | .st t _ _ => P.cellsOf t == 1 && (P.info? t).isSome
  | .stN t _ _ n => P.cellsOf t == n && (P.info? t).isSome
  | .app t tx _ _ e e' sz => isSl P t e && isSl P tx e' && infoOk P e sz
  | .bsl t n parts e sz _ => isSl P t e && infoOk P e sz && decide (n = parts.length) && decide (parts.map (·.1) = List.range n) && decide (0 < sz) && decide (n * sz ≤ 65536)
  | .call f _ _ => okCall P f
  | .mks t _ _ e sz zs => isSl P t e && infoOk P e sz && zeroIs P e zs && zs.all (·.oneCell')
  | .sli t _ _ _ e sz => isSl P t e && P.cellsOf e == sz && (P.info? e).isSome
  | _ => true
/-- An operation of a region: its slot, its guard (slot, sign), its kind; q: it acts, and is not ordered behind all reads ahead of it. -/
structure AO where
  dst : Option Nat
  g : Option (Nat × Bool)
  k : K
  q : Bool
/-! ### What is reckoned -/
def FV.cells : FV → List FV
  | .agg cs => cs
  | .val v => v.cells.toList.map .val
  | x => [x]
def bnd (o : Operand → Option AV) (n : Int) : Option Operand → Option Int
  | none => some n
  | some x => match o x with
    | some (.fz (.val (.int _ j))) => some j
    | _ => none
structure R where
  ob : Prop
  v : AV
  rd : Option Nat
end Go.Proofs.YtfbjgbecabbdnaaGreatDoor.Ab

/- What is reckoned or read: that the operations give just this. -/
set_option linter.unusedVariables false
set_option linter.unusedSimpArgs false
namespace Go.Proofs.YtfbjgbecabbdnaaGreatDoor.Ab
open Go.Proofs.YtfbjgbecabbdnaaGreatDoor.Sl
section
variable {P : Program} {h0 : Gd} {β : Nat → Value} {hF h : Heap} {Tc : Tm} {T : AT} {L : AL} {σ : AS} {o : Oper} {r : R}
theorem FReps.take {cs : List FV} {vs : List Value} (r : FReps hF cs vs) (k n : Nat) : FReps hF ((cs.drop k).take n) ((vs.drop k).take n) :=
  ⟨by simp [r.1], fun j c v a b => by
    rw [List.getElem?_take] at a b
    split at a
    · rename_i hj
      rw [if_pos hj] at b
      rw [List.getElem?_drop] at a b
      exact r.2 _ c v a b
    · cases a⟩
theorem flat_get {α : Type} {sz : Nat} : ∀ {rows : List (List α)}, (∀ r ∈ rows, r.length = sz) → ∀ (i j : Nat), j < sz → rows.flatten[i * sz + j]? = (rows[i]?).bind (·[j]?)
  | [], _, i, j, _ => by simp
  | r :: rows, h, 0, j, hj => by
    have h1 := h r (by simp)
    simp only [List.flatten_cons, Nat.zero_mul, Nat.zero_add, List.getElem?_cons_zero, Option.bind_some]
    rw [List.getElem?_append_left (by omega)]
  | r :: rows, h, i + 1, j, hj => by
    have h1 := h r (by simp)
    have ih := flat_get (rows := rows) (fun x hx => h x (by simp [hx])) i j hj
    rw [List.flatten_cons, List.getElem?_append_right (by rw [Nat.succ_mul]; omega), h1, show (i + 1) * sz + j - sz = i * sz + j by rw [Nat.succ_mul]; omega, ih]
    rfl
theorem flat_len {α : Type} {sz : Nat} : ∀ {rows : List (List α)}, (∀ r ∈ rows, r.length = sz) → rows.flatten.length = rows.length * sz
  | [], _ => by simp
  | r :: rows, h => by
    have ih := flat_len (rows := rows) (fun x hx => h x (by simp [hx]))
    have h1 := h r (by simp)
    rw [List.flatten_cons, List.length_append, ih, h1, List.length_cons, Nat.succ_mul]; omega
theorem FReps.app {a b : List FV} {x y : List Value} (r : FReps hF a x) (q : FReps hF b y) : FReps hF (a ++ b) (x ++ y) :=
  ⟨by simp [r.1, q.1], fun j c v e1 e2 => by
    rcases Nat.lt_or_ge j a.length with hj | hj
    · rw [List.getElem?_append_left hj] at e1
      rw [List.getElem?_append_left (by rw [r.1]; exact hj)] at e2
      exact r.2 j c v e1 e2
    · rw [List.getElem?_append_right hj] at e1
      rw [List.getElem?_append_right (by rw [r.1]; exact hj), r.1] at e2
      exact q.2 _ c v e1 e2⟩
end
end Go.Proofs.YtfbjgbecabbdnaaGreatDoor.Ab

/- What is reckoned or read: the theorem. -/
set_option linter.unusedVariables false
set_option linter.unusedSimpArgs false
namespace Go.Proofs.YtfbjgbecabbdnaaGreatDoor.Ab
open Go.Proofs.YtfbjgbecabbdnaaGreatDoor.Sl
section
variable {P : Program} {h0 : Gd} {β : Nat → Value} {hF h : Heap} {Tc : Tm} {T : AT} {L : AL} {σ : AS} {o : Oper} {r : R}
theorem isOne_spec {t : TypeId} (hs : isOne P t = true) : ∃ d, P.underlying t = some d ∧ (match d with | .struct _ | .array _ _ => false | _ => true) = true := by
  unfold isOne at hs
  cases hu : P.underlying t with
  | none => rw [hu] at hs; cases hs
  | some d => rw [hu] at hs; exact ⟨d, rfl, by cases d <;> first | rfl | cases hs⟩
theorem isMany_spec {t : TypeId} (hs : isMany P t = true) : ∃ d, P.underlying t = some d ∧ (match d with | .struct _ | .array _ _ => true | _ => false) = true := by
  unfold isMany at hs
  cases hu : P.underlying t with
  | none => rw [hu] at hs; cases hs
  | some d => rw [hu] at hs; exact ⟨d, rfl, by cases d <;> first | rfl | cases hs⟩
theorem r_ld1 {ρ : Operand → Value} {t : TypeId} {x : Operand} {b off : Nat} {cs : Array Value} {e : TypeId} {fz : Nat × Nat} {v : Value} (ho : o.op = .load t x) (hs : isOne P t = true) (hx : ρ x = .pointer (some ⟨b, off, none⟩)) {g : Heap} (hb : g b = some (.cells cs e fz)) (hc : cs[off]? = some v) : ReadOp P o ρ g v := by
  obtain ⟨d, hu, hd⟩ := isOne_spec hs
  exact r_load1 ho hu (by cases d <;> exact hd) hx hb hc
theorem r_ldN {ρ : Operand → Value} {t : TypeId} {x : Operand} {b off : Nat} {cs : Array Value} {e : TypeId} {fz : Nat × Nat} (ho : o.op = .load t x) (hs : isMany P t = true) (hx : ρ x = .pointer (some ⟨b, off, none⟩)) {g : Heap} (hb : g b = some (.cells cs e fz)) {n : Nat} (hn : P.cellsOf t = n) (hc : off + n ≤ cs.size) : ReadOp P o ρ g (.agg (cs.extract off (off + n))) := by
  obtain ⟨d, hu, hd⟩ := isMany_spec hs
  exact r_loadN ho hu (by cases d <;> exact hd) hx hb hn hc
theorem isSl_spec {t e : TypeId} (hs : isSl P t e = true) : P.underlying t = some (.slice e) := by
  unfold isSl at hs
  split at hs
  · rename_i e' hu; simp only [beq_iff_eq] at hs; rw [hu, hs]
  · cases hs
theorem isArr_spec {t n e : TypeId} (hs : isArr P t n e = true) : P.underlying t = some (.array n e) := by
  unfold isArr at hs
  split at hs
  · rename_i n' e' hu; simp only [Bool.and_eq_true, beq_iff_eq] at hs; rw [hu, hs.1, hs.2]
  · cases hs
theorem isStr_spec {t : TypeId} (hs : isStr P t = true) : P.underlying t = some .string := by
  unfold isStr at hs
  split at hs
  · assumption
  · cases hs
theorem intBin_of {op : BinOp} {k : IntKind} {a b : Int} {v : Value} (h : intBin op k a b = some v) {t ty : TypeId} {x y : Operand} (hop : o.op = .binOp op t x y ty) (hx : ev Tc x = .int k a) (hy : ev Tc y = .int k b) : PureOp P o (ev Tc) v := by
  refine p_val ?_
  rw [hop]
  simp only [pval, hx, hy, binVal]
  cases op <;> simp only [intBin, reduceCtorEq] at h <;> simpa [intBin] using h
/-- What the test is asked. -/
def EqFit (P : Program) (t : TypeId) (x y : Operand) (u v : Value) (q : Bool) : Prop :=
  (match u, v with | .int _ _, .int _ _ => false | .agg _, .agg _ => !P.eqGuardType P.depth t | .nilIface, .nilIface => isLit x || isLit y | _, _ => true) = true ∧ eqv P 10000 t u v = some q ∧ (match u with | .int _ _ | .float _ _ | .complex _ _ _ | .string _ => false | _ => true) = true
theorem p_slice {t e : TypeId} {x : Operand} {lo hi : Option Operand} {a : Option Addr} {n c l k : Nat} {sz : Nat} (hop : o.op = .slice t x lo hi none) (hu : P.underlying t = some (.slice e)) (he : (P.info? e).isSome = true) (hs : P.cellsOf e = sz) (hx : ev Tc x = .slice a n c) (hnc : n ≤ c)
    (hl : (lo = none ∧ (l : Int) = 0) ∨ ∃ y kk, lo = some y ∧ ev Tc y = .int kk l) (hk : (hi = none ∧ (k : Int) = n) ∨ ∃ y kk, hi = some y ∧ ev Tc y = .int kk k) (hlk : l ≤ k) (hkn : k ≤ n) :
    PureOp P o (ev Tc) (.slice (if c = l then a else a.map (·.add (l * sz))) (k - l) (c - l)) := by
  intro w
  subst hs
  have hkc : k ≤ c := Nat.le_trans hkn hnc
  have h1 : ∀ y : Nat, ∀ kk : IntKind, ∀ m : Nat, ∀ bc : BoundsCode, y ≤ m → (Instr.sliceBound (.int kk (y : Int)) m bc).run P w = .ok y w := fun y kk m bc hm => by
    have : (0 : Int) ≤ (y : Int) ∧ (y : Int) ≤ (m : Int) := by omega
    simp [Instr.sliceBound, asIntOf, this] <;> omega
  have hb : (Instr.sliceBounds true n c (lo.map (ev Tc)) (hi.map (ev Tc)) none).run P w = .ok (l, k, c) w := by
    rcases hl with ⟨rfl, h2⟩ | ⟨y, kk, rfl, h2⟩ <;> rcases hk with ⟨rfl, h3⟩ | ⟨z, kz, rfl, h3⟩
    · have : l = 0 := by omega
      have : k = n := by omega
      subst_vars; simp [Instr.sliceBounds]
    · have : l = 0 := by omega
      subst this
      simp [Instr.sliceBounds, h3, h1 k kz c _ hkc]
    · have : k = n := by omega
      subst this
      simp [Instr.sliceBounds, h2, h1 l kk k _ hlk]
    · simp [Instr.sliceBounds, h2, h3, h1 l kk k _ hlk, h1 k kz c _ hkc]
  simp only [execOp, hop, Instr.sliceAt, Sem.run_bind, run_underlying hu, Result.andThen_ok, Instr.slice, hx, Option.map_none, hb, run_cellsOf _ _ he, Sem.run_pure]
end
end Go.Proofs.YtfbjgbecabbdnaaGreatDoor.Ab

/- The evaluator's operations: how they stand to the program's; what is reckoned, what is read. -/
set_option linter.unusedVariables false
set_option linter.unusedSimpArgs false
namespace Go.Proofs.YtfbjgbecabbdnaaGreatDoor.Ce
/-! ### 0. Lists, by recursors: quick for the kernel -/
section
variable {α : Type}
noncomputable def dropR (l : List α) : Nat → List α := List.rec (motive := fun _ => Nat → List α) (fun _ => []) (fun c r ih j => Nat.rec (c :: r) (fun j _ => ih j) j) l
theorem dropR_eq (l : List α) : ∀ j, dropR l j = l.drop j := by
  induction l with
  | nil => intro j; simp [dropR]
  | cons c r ih =>
    intro j
    cases j with
    | zero => rfl
    | succ j => exact ih j
noncomputable def takeR (l : List α) : Nat → List α := List.rec (motive := fun _ => Nat → List α) (fun _ => []) (fun c _ ih j => Nat.rec [] (fun j _ => c :: ih j) j) l
theorem takeR_eq (l : List α) : ∀ j, takeR l j = l.take j := by
  induction l with
  | nil => intro j; simp [takeR]
  | cons c r ih =>
    intro j
    cases j with
    | zero => rfl
    | succ j => show c :: takeR r j = _; rw [ih]; rfl
noncomputable def appR (l k : List α) : List α := List.rec (motive := fun _ => List α) k (fun c _ ih => c :: ih) l
theorem appR_eq (l k : List α) : appR l k = l ++ k := by
  induction l with
  | nil => rfl
  | cons c r ih => show c :: appR r k = _; rw [ih]; rfl
noncomputable def lenR (l : List α) : Nat := List.rec (motive := fun _ => Nat) 0 (fun _ _ ih => Nat.add ih 1) l
theorem lenR_eq (l : List α) : lenR l = l.length := by
  induction l with
  | nil => rfl
  | cons c r ih => show lenR r + 1 = _; rw [ih]; rfl
/-- At least so many. -/
noncomputable def leR (n : Nat) (l : List α) : Bool := List.rec (motive := fun _ => Nat → Bool) (fun n => Nat.beq n 0) (fun _ _ ih n => Nat.rec true (fun n _ => ih n) n) l n
theorem leR_eq : ∀ (n : Nat) (l : List α), leR n l = Nat.ble n l.length := by
  intro n l
  induction l generalizing n with
  | nil => cases n <;> rfl
  | cons c r ih =>
    cases n with
    | zero => rfl
    | succ n => exact ih n
noncomputable def setR (v : α) (l : List α) : Nat → List α := List.rec (motive := fun _ => Nat → List α) (fun _ => []) (fun c r ih j => Nat.rec (v :: r) (fun j _ => c :: ih j) j) l
theorem setR_eq (v : α) (l : List α) : ∀ j, setR v l j = l.set j v := by
  induction l with
  | nil => intro j; simp [setR]
  | cons c r ih =>
    intro j
    cases j with
    | zero => rfl
    | succ j => show c :: setR v r j = _; rw [ih]; rfl
theorem leR_lt (n : Nat) (l : List α) : leR (n + 1) l = Nat.blt n l.length := leR_eq _ _
end
open Go.Proofs.YtfbjgbecabbdnaaGreatDoor.Sl
open Ab (isOne isMany isSl isArr isIntT isStr zeroIs okCall)
/-! ### 1. Operands -/
mutual
def CV.val : CV → Value
  | .b x => .bool x
  | .i k n => .int k n
  | .s l => .string (byt l)
  | .np => .pointer none
  | .g n => .pointer (some ⟨n, 0, none⟩)
  | .ns => .slice none 0 0
  | .nm => .map none
  | .fn f x y => .func (.func (f.nat - 1)) (CV.vals x).toArray (CV.vals y).toArray
  | .nf => .nilFunc
  | .ifc t x => .iface t x.val
  | .ni => .nilIface
  | .agg cs => .agg (CV.vals cs).toArray
  | .tup cs => .tuple (CV.vals cs).toArray
  | _ => undef
def CV.vals : List CV → List Value
  | [] => []
  | c :: cs => c.val :: CV.vals cs
end
mutual
def CV.shut : CV → Bool
  | .p _ _ | .sl _ _ _ _ _ | .z _ | .m _ | .xi _ | .yl _ => false
  | .s l => l.all (fun x => Nat.blt x 256)
  | .fn _ x y => CV.shuts x && CV.shuts y
  | .ifc _ x => x.shut
  | .agg cs => cs.all CV.one && CV.shuts cs
  | .tup cs => CV.shuts cs
  | _ => true
def CV.shuts : List CV → Bool
  | [] => true
  | c :: cs => c.shut && CV.shuts cs
end
mutual
theorem shut_ok (β : Bk) : ∀ c : CV, c.shut = true → VR β c c.val
  | .u, _ => .u
  | .b x, _ => .b x
  | .i k n, _ => .i k n
  | .s l, h => .s l (by simpa [CV.shut] using h)
  | .p _ _, h => by simp [CV.shut] at h
  | .np, _ => .np
  | .g n, _ => .g n
  | .sl _ _ _ _ _, h => by simp [CV.shut] at h
  | .z _, h => by simp [CV.shut] at h
  | .ns, _ => .ns
  | .m _, h => by simp [CV.shut] at h
  | .xi _, h => by simp [CV.shut] at h
  | .yl _, h => by simp [CV.shut] at h
  | .nm, _ => .nm
  | .fn f x y, h => by
    simp only [CV.shut, Bool.and_eq_true] at h
    exact .fn f (shuts_ok β x h.1) (shuts_ok β y h.2)
  | .nf, _ => .nf
  | .ifc t x, h => by simp only [CV.shut] at h; exact .ifc t (shut_ok β x h)
  | .ni, _ => .ni
  | .agg cs, h => by
    simp only [CV.shut, Bool.and_eq_true] at h
    exact .agg h.1 (shuts_ok β cs h.2)
  | .tup cs, h => by simp only [CV.shut] at h; exact .tup (shuts_ok β cs h)
theorem shuts_ok (β : Bk) : ∀ cs : List CV, CV.shuts cs = true → VRs β cs (CV.vals cs)
  | [], _ => .nil
  | c :: cs, h => by
    simp only [CV.shuts, Bool.and_eq_true] at h
    exact .cons (shut_ok β c h.1) (shuts_ok β cs h.2)
end
inductive CP where
  | t (p : Sp) | c (v : CV) | f (n : Pos) | g (n : Nat)
noncomputable def CP.gf (x : CP) : Bx (SL CV → CV) := CP.rec Sp.gf (fun v => .mk fun _ => v) (fun n => .mk fun _ => .fn n [] []) (fun n => .mk fun _ => .g n) x
noncomputable def CP.get (x : CP) (T : SL CV) : CV := x.gf.f T
def CP.op : CP → Operand
  | .t p => .tmp (p.nat - 1)
  | .c v => .const v.val
  | .f n => .func (n.nat - 1)
  | .g n => .global n
def CP.ok : CP → Bool
  | .c v => v.shut
  | _ => true
theorem CP.get_ok {β : Bk} {T : SL CV} {Tc : Tm} (r : TR β T Tc) (x : CP) (h : x.ok = true) : VR β (x.get T) (Sl.ev Tc x.op) := by
  cases x with
  | t p =>
    show VR β (p.gf.f T) (Tc (p.nat - 1))
    rw [Sp.gf_eq]; exact r.at p
  | c v => exact shut_ok β v h
  | f n => exact .fn (va := []) (vb := []) n .nil .nil
  | g n => exact .g n
/-! ### 2. Numbers -/
def iltb : Int → Int → Bool
  | .ofNat m, .ofNat n => Nat.blt m n
  | .ofNat _, .negSucc _ => false
  | .negSucc _, .ofNat _ => true
  | .negSucc m, .negSucc n => Nat.blt n m
def ieqb : Int → Int → Bool
  | .ofNat m, .ofNat n => Nat.beq m n
  | .negSucc m, .negSucc n => Nat.beq m n
  | _, _ => false
theorem iltb_eq (a b : Int) : iltb a b = decide (a < b) := by
  rw [Bool.eq_iff_iff, decide_eq_true_eq]
  cases a <;> cases b <;> simp only [iltb, Nat.blt, Nat.ble_eq, Bool.false_eq_true, false_iff, true_iff, Int.ofNat_eq_natCast, Int.negSucc_eq] <;> omega
theorem ieqb_eq (a b : Int) : ieqb a b = (a == b) := by
  rw [Bool.eq_iff_iff, beq_iff_eq]
  cases a <;> cases b <;> simp only [ieqb, Nat.beq_eq, Bool.false_eq_true, false_iff, Int.ofNat_eq_natCast, Int.negSucc_eq] <;> omega
def wrF (k : IntKind) (n : Int) : Int := match n with
  | .ofNat m => bif Nat.ble m (match k with | .i8 => 127 | .u8 => 255 | .i16 => 32767 | .u16 => 65535 | .i32 => 2147483647 | .u32 => 4294967295 | .i64 => 9223372036854775807 | .u64 => 18446744073709551615) then .ofNat m else k.wrap (.ofNat m)
  | .negSucc m => k.wrap (.negSucc m)
theorem wrF_eq (k : IntKind) (n : Int) : wrF k n = k.wrap n := by
  cases n with
  | negSucc m => rfl
  | ofNat m =>
    unfold wrF
    simp only
    cases h : Nat.ble m (match k with | .i8 => 127 | .u8 => 255 | .i16 => 32767 | .u16 => 65535 | .i32 => 2147483647 | .u32 => 4294967295 | .i64 => 9223372036854775807 | .u64 => 18446744073709551615) with
    | false => rfl
    | true =>
      simp only [cond_true]
      have h2 := Nat.le_of_ble_eq_true h
      cases k <;> simp [IntKind.wrap, IntKind.signed, IntKind.bits, Int.ofNat_eq_natCast] at h2 ⊢ <;> omega
end Go.Proofs.YtfbjgbecabbdnaaGreatDoor.Ce
