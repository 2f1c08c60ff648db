import Derived.Test.YtielfejpnkcjbaaQh2
import Derived.Laws.MakeOwn
/- Values told without memory: frozen values (what they point to stays), objects of the function's own by their names; how these stand to slots and heap. -/
set_option linter.unusedVariables false
set_option linter.unusedSimpArgs false
namespace Go.Proofs.Ytielfejpnkcjbaa.Ab
open Go.Proofs.Ytielfejpnkcjbaa.Sl
/-- A frozen value: a value; cells; a slice (how many rows, each row's cells); a pointer (the cells behind it); several results; a value with its type; a function with what it bears. -/
inductive FV where
  | val (v : Value)
  | agg (cs : List FV)
  | sl (n : Nat) (f : Nat → List FV)
  | fp (cs : List FV)
  | tup (cs : List FV)
  | ifc (t : TypeId) (x : FV)
  | fn (f : FuncId) (first cap : List FV)
/-- Does it lie in one cell? -/
def FV.one : FV → Bool
  | .val v => v.oneCell'
  | .agg _ | .tup _ => false
  | _ => true
inductive FRep (h : Heap) : FV → Value → Prop where
  | val (v : Value) : FRep h (.val v) v
  | agg {cs : List FV} {vs : List Value} (hl : vs.length = cs.length) (hr : ∀ (j : Nat) (c : FV) (v : Value), cs[j]? = some c → vs[j]? = some v → FRep h c v) : FRep h (.agg cs) (.agg vs.toArray)
  | sl0 (f : Nat → List FV) (a : Option Addr) (c : Nat) : FRep h (.sl 0 f) (.slice a 0 c)
  | sl {n : Nat} {f : Nat → List FV} {b off c sz : Nat} {full : Array Value} {e : TypeId} {fz : Nat × Nat} (hb : h b = some (.cells full e fz)) (hnc : n ≤ c) (hsz : ∀ i, i < n → (f i).length = sz) (h1 : ∀ i, i < n → (f i).all FV.one = true) (hs : off + n * sz ≤ full.size)
      (hr : ∀ (i j : Nat) (c : FV) (v : Value), i < n → (f i)[j]? = some c → full[off + i * sz + j]? = some v → FRep h c v) : FRep h (.sl n f) (.slice (some ⟨b, off, none⟩) n c)
  | fp {cs : List FV} {b off : Nat} {full : Array Value} {e : TypeId} {fz : Nat × Nat} (hb : h b = some (.cells full e fz)) (hs : off + cs.length ≤ full.size)
      (hr : ∀ (j : Nat) (c : FV) (v : Value), cs[j]? = some c → full[off + j]? = some v → FRep h c v) : FRep h (.fp cs) (.pointer (some ⟨b, off, none⟩))
  | tup {cs : List FV} {vs : List Value} (hl : vs.length = cs.length) (hr : ∀ (j : Nat) (c : FV) (v : Value), cs[j]? = some c → vs[j]? = some v → FRep h c v) : FRep h (.tup cs) (.tuple vs.toArray)
  | ifc {t : TypeId} {x : FV} {v : Value} (hx : FRep h x v) : FRep h (.ifc t x) (.iface t v)
  | fn {f : FuncId} {a b : List FV} {va vb : List Value} (hl : va.length = a.length) (hl2 : vb.length = b.length) (hr : ∀ (j : Nat) (c : FV) (v : Value), a[j]? = some c → va[j]? = some v → FRep h c v) (hr2 : ∀ (j : Nat) (c : FV) (v : Value), b[j]? = some c → vb[j]? = some v → FRep h c v) :
      FRep h (.fn f a b) (.func (.func f) va.toArray vb.toArray)
theorem FRep.le {h h' : Heap} (l : h.le h') {x : FV} {v : Value} (r : FRep h x v) : FRep h' x v := by
  induction r with
  | val v => exact .val v
  | agg hl _ ih => exact .agg hl ih
  | sl0 f a c => exact .sl0 f a c
  | sl hb hnc hsz h1 hs _ ih => exact .sl (l _ _ hb) hnc hsz h1 hs ih
  | fp hb hs _ ih => exact .fp (l _ _ hb) hs ih
  | tup hl _ ih => exact .tup hl ih
  | ifc _ ih => exact .ifc ih
  | fn hl hl2 _ _ ih ih2 => exact .fn hl hl2 ih ih2
theorem FRep.one {h : Heap} {x : FV} {v : Value} (r : FRep h x v) (h1 : x.one = true) : v.oneCell' = true := by
  cases r <;> first | exact h1 | rfl | cases h1
/-- A slice of things of a kind; of rows. -/
def slOf {α : Type} [Inhabited α] (enc : α → List FV) (xs : List α) : FV := .sl xs.length fun i => enc (xs.getD i default)
def slL (rows : List (List FV)) : FV := .sl rows.length fun i => rows.getD i []
def asSl : FV → Option (Nat × (Nat → List FV))
  | .sl n f => some (n, f)
  | .val (.slice none 0 0) => some (0, fun _ => [])
  | _ => none
theorem asSl_of {α : Type} [Inhabited α] (enc : α → List FV) (xs : List α) : asSl (slOf enc xs) = some (xs.length, fun i => enc (xs.getD i default)) := rfl
theorem asSl_sl (n : Nat) (f : Nat → List FV) : asSl (.sl n f) = some (n, f) := rfl
theorem asSl_nil : asSl (.val (.slice none 0 0)) = some (0, fun _ => []) := rfl
theorem asSl_L (rows : List (List FV)) : asSl (slL rows) = some (rows.length, fun i => rows.getD i []) := rfl
def FReps (h : Heap) (cs : List FV) (vs : List Value) : Prop := vs.length = cs.length ∧ ∀ (j : Nat) (c : FV) (v : Value), cs[j]? = some c → vs[j]? = some v → FRep h c v
theorem FReps.le {h h' : Heap} (l : h.le h') {cs : List FV} {vs : List Value} (r : FReps h cs vs) : FReps h' cs vs := ⟨r.1, fun j c v a b => (r.2 j c v a b).le l⟩
theorem FReps.nil (h : Heap) : FReps h [] [] := ⟨rfl, fun j c v a => by simp at a⟩
theorem FReps.cons {h : Heap} {c : FV} {v : Value} {cs : List FV} {vs : List Value} (a : FRep h c v) (b : FReps h cs vs) : FReps h (c :: cs) (v :: vs) :=
  ⟨by simp [b.1], fun j x y e1 e2 => by
    cases j with
    | zero => simp only [List.getElem?_cons_zero, Option.some.injEq] at e1 e2; subst e1; subst e2; exact a
    | succ j => exact b.2 j x y (by simpa using e1) (by simpa using e2)⟩
theorem FReps.uncons {h : Heap} {c : FV} {cs : List FV} {vs : List Value} (r : FReps h (c :: cs) vs) : ∃ v ws, vs = v :: ws ∧ FRep h c v ∧ FReps h cs ws := by
  cases vs with
  | nil => simp [FReps] at r
  | cons v ws => exact ⟨v, ws, rfl, r.2 0 c v rfl rfl, by simpa using r.1, fun j x y e1 e2 => r.2 (j + 1) x y (by simpa using e1) (by simpa using e2)⟩
/-- A value in a slot, or in a cell of an object: frozen; an object's slice; a pointer to an object's cell (of row i, rows of sz cells). -/
inductive AV where
  | hid
  | fz (x : FV)
  | os (id : Nat)
  | oe (id sz i off : Nat)
def baseOf : Value → Option Nat
  | .pointer (some ⟨b, 0, none⟩) => some b
  | .slice (some ⟨b, 0, none⟩) _ _ => some b
  | .map (some b) => some b
  | _ => none
inductive ARep (β : Nat → Value) (h : Heap) : AV → Value → Prop where
  | hid (v : Value) : ARep β h .hid v
  | fz {x : FV} {v : Value} (r : FRep h x v) : ARep β h (.fz x) v
  | os (id : Nat) : ARep β h (.os id) (β id)
  | oe {id sz i off b : Nat} (hb : baseOf (β id) = some b) : ARep β h (.oe id sz i off) (.pointer (some ⟨b, i * sz + off, none⟩))
def AV.nm : AV → Option Nat
  | .hid | .fz _ => none
  | .os id => some id
  | .oe id _ _ _ => some id
theorem ARep.to {β β' : Nat → Value} {h h' : Heap} {x : AV} {v : Value} (r : ARep β h x v) (l : h.le h') (e : ∀ id, x.nm = some id → β' id = β id) : ARep β' h' x v := by
  cases r with
  | hid v => exact .hid v
  | fz r => exact .fz (r.le l)
  | os id => rw [← e id rfl]; exact .os id
  | oe hb => exact .oe (by rw [e _ rfl]; exact hb)
def AReps (β : Nat → Value) (h : Heap) (cs : List AV) (vs : List Value) : Prop := vs.length = cs.length ∧ ∀ (j : Nat) (c : AV) (v : Value), cs[j]? = some c → vs[j]? = some v → ARep β h c v
theorem AReps.to {β β' : Nat → Value} {h h' : Heap} {cs : List AV} {vs : List Value} (r : AReps β h cs vs) (l : h.le h') (e : ∀ c ∈ cs, ∀ id, c.nm = some id → β' id = β id) : AReps β' h' cs vs :=
  ⟨r.1, fun j c v a b => (r.2 j c v a b).to l (e c (List.mem_of_getElem? a))⟩
theorem AReps.fz {β : Nat → Value} {h : Heap} {cs : List FV} {vs : List Value} (r : FReps h cs vs) : AReps β h (cs.map .fz) vs :=
  ⟨by rw [List.length_map]; exact r.1, fun j c v a b => by
    rw [List.getElem?_map] at a
    cases e : cs[j]? with
    | none => rw [e] at a; cases a
    | some x => rw [e] at a; cases a; exact .fz (r.2 j x v e b)⟩
theorem AReps.unfz {β : Nat → Value} {h : Heap} {cs : List FV} {vs : List Value} (r : AReps β h (cs.map .fz) vs) : FReps h cs vs :=
  ⟨by have := r.1; rwa [List.length_map] at this, fun j c v a b => by
    have := r.2 j (.fz c) v (by rw [List.getElem?_map, a]; rfl) b
    cases this with
    | fz r => exact r⟩
/-- An object of the function's own: cells (behind a pointer); the rows of a slice. -/
inductive OO where
  | box (t : TypeId) (cells : List AV)
  | ext (D : Nat → Prop) (Φ : Value → Heap → Prop)
  | rows (t : TypeId) (sz : Nat) (rows : List (List FV))
def OO.cells : OO → List AV
  | .box _ cs => cs
  | _ => []
/-- Its blocks. -/
def fpOf (v : Value) : OO → Nat → Prop
  | .ext D _, b => D b
  | _, b => baseOf v = some b
/-- What was there at the beginning; what objects of names from 1000 on are by value. -/
structure Gd where
  h : Heap
  fx : Nat → Value
abbrev AS := List (Nat × OO)
abbrev AT := List (Nat × AV)
abbrev AL := List (Nat × Option (Nat × Bool) × AV)
def OOk (β : Nat → Value) (hF h : Heap) (id : Nat) : OO → Prop
  | .box t cells => ∃ b vs, β id = .pointer (some ⟨b, 0, none⟩) ∧ h b = some (.cells (List.toArray vs) t (0, 0)) ∧ AReps β hF cells vs
  | .ext D Φ => (∀ b, baseOf (β id) = some b → D b) ∧ (∀ b, D b → h b ≠ none) ∧ ∀ h', (∀ b, D b → h' b = h b) → Φ (β id) h'
  | .rows t sz rows => ∃ vs, Own h t sz (β id) rows.length vs ∧ (∀ r ∈ rows, r.length = sz) ∧ (∀ r ∈ rows, r.all FV.one = true) ∧ FReps hF rows.flatten vs
structure Ok (h0 : Gd) (β : Nat → Value) (hF h : Heap) (σ : AS) : Prop where
  le0 : h0.h.le hF
  le : hF.le h
  ok : ∀ e ∈ σ, OOk β hF h e.1 e.2
  out : ∀ e ∈ σ, ∀ b, fpOf (β e.1) e.2 b → hF b = none
  sep : ∀ e ∈ σ, ∀ e' ∈ σ, ∀ b, e.1 ≠ e'.1 → fpOf (β e.1) e.2 b → ¬ fpOf (β e'.1) e'.2 b
  fix : ∀ id, 1000 ≤ id → β id = h0.fx id
  nd : (σ.map (·.1)).Nodup
def GOk (Tc : Tm) (g : Option (Nat × Bool)) (A : Prop) (v : Value) : Prop := match g with
  | none => A
  | some (s, p) => (Tc s = .bool p → A) ∧ (Tc s ≠ .bool p → v = undef)
structure Sem (h0 : Gd) (β : Nat → Value) (hF h : Heap) (Tc : Tm) (T : AT) (L : AL) (σ : AS) : Prop where
  ok : Ok h0 β hF h σ
  t : ∀ e ∈ T, (∀ e' ∈ L, e'.1 ≠ e.1) → ARep β hF e.2 (Tc e.1)
  l : ∀ e ∈ L, GOk Tc e.2.1 (ARep β hF e.2.2 (Tc e.1)) (Tc e.1)
  g : ∀ e ∈ L, ∀ s p, e.2.1 = some (s, p) → ∃ e' ∈ L, e'.1 = s
/-! ### Lookups -/
def lookL : AL → Nat → Option (Option (Nat × Bool) × AV)
  | [], _ => none
  | e :: r, t => if e.1 = t then some e.2 else lookL r t
def lookT : AT → Nat → Option AV
  | [], _ => none
  | e :: r, t => if e.1 = t then some e.2 else lookT r t
def lookV (L : AL) (T : AT) (t : Nat) : Option (Option (Nat × Bool) × AV) := match lookL L t with
  | some x => some x
  | none => match lookT T t with
    | some av => some (none, av)
    | none => none
def lookS : AS → Nat → Option OO
  | [], _ => none
  | e :: r, t => if e.1 = t then some e.2 else lookS r t
theorem lookL_mem {t : Nat} {x : Option (Nat × Bool) × AV} : ∀ {L : AL}, lookL L t = some x → (t, x) ∈ L
  | [], h => by cases h
  | (a, y) :: r, h => by
    unfold lookL at h
    split at h
    · rename_i e; cases h; cases e; exact List.mem_cons_self
    · exact List.mem_cons_of_mem _ (lookL_mem h)
theorem lookL_none {t : Nat} : ∀ {L : AL}, lookL L t = none → ∀ e ∈ L, e.1 ≠ t
  | [], _, e, he => by cases he
  | (a, y) :: r, h, e, he => by
    unfold lookL at h
    split at h
    · cases h
    · rename_i hne
      rcases List.mem_cons.1 he with rfl | he
      · exact hne
      · exact lookL_none h e he
theorem lookT_mem {t : Nat} {x : AV} : ∀ {T : AT}, lookT T t = some x → (t, x) ∈ T
  | [], h => by cases h
  | (a, y) :: r, h => by
    unfold lookT at h
    split at h
    · rename_i e; cases h; cases e; exact List.mem_cons_self
    · exact List.mem_cons_of_mem _ (lookT_mem h)
theorem lookS_mem {t : Nat} {x : OO} : ∀ {σ : AS}, lookS σ t = some x → (t, x) ∈ σ
  | [], h => by cases h
  | (a, y) :: r, h => by
    unfold lookS at h
    split at h
    · rename_i e; cases h; cases e; exact List.mem_cons_self
    · exact List.mem_cons_of_mem _ (lookS_mem h)
section
variable {h0 : Gd} {β : Nat → Value} {hF h : Heap} {Tc : Tm} {T : AT} {L : AL} {σ : AS}
theorem Sem.lk (s : Sem h0 β hF h Tc T L σ) {t : Nat} {g : Option (Nat × Bool)} {x : AV} (e : lookV L T t = some (g, x)) : GOk Tc g (ARep β hF x (Tc t)) (Tc t) := by
  unfold lookV at e
  split at e
  · rename_i y hy
    cases e
    exact s.l _ (lookL_mem hy)
  · rename_i hn
    split at e
    · rename_i av hav
      cases e
      exact s.t _ (lookT_mem hav) (fun e' he' => lookL_none hn e' he')
    · cases e
/-- A new slot. -/
theorem Sem.put (s : Sem h0 β hF h Tc T L σ) {d : Nat} {g : Option (Nat × Bool)} {x : AV} {v : Value} (hd : ∀ e ∈ L, e.1 ≠ d) (hg : ∀ a p, g = some (a, p) → ∃ e ∈ L, e.1 = a) (hv : GOk Tc g (ARep β hF x v) v) : Sem h0 β hF h (upd Tc d v) T ((d, g, x) :: L) σ where
  ok := s.ok
  t := fun e he hne => by
    have h1 : e.1 ≠ d := fun e1 => hne _ List.mem_cons_self e1.symm
    simp only [upd, if_neg h1]
    exact s.t e he fun e' he' => hne e' (List.mem_cons_of_mem _ he')
  l := fun e he => by
    rcases List.mem_cons.1 he with rfl | he
    · simp only [upd, if_true]
      cases g with
      | none => exact hv
      | some a =>
        obtain ⟨a, p⟩ := a
        obtain ⟨e', he', h1⟩ := hg a p rfl
        have : a ≠ d := fun e2 => hd e' he' (h1.trans e2)
        simp only [GOk, upd, if_neg this] at hv ⊢
        exact hv
    · have h1 : e.1 ≠ d := hd e he
      have := s.l e he
      simp only [upd, if_neg h1]
      cases hge : e.2.1 with
      | none => rw [hge] at this; exact this
      | some a =>
        obtain ⟨a, p⟩ := a
        rw [hge] at this
        obtain ⟨e', he', h2⟩ := s.g e he a p hge
        have hne : a ≠ d := fun e2 => hd e' he' (h2.trans e2)
        have hu : upd Tc d v a = Tc a := by simp [upd, hne]
        simp only [GOk, hu]
        exact this
  g := fun e he a p hga => by
    rcases List.mem_cons.1 he with rfl | he
    · obtain ⟨e', he', h1⟩ := hg a p hga
      exact ⟨e', List.mem_cons_of_mem _ he', h1⟩
    · obtain ⟨e', he', h1⟩ := s.g e he a p hga
      exact ⟨e', List.mem_cons_of_mem _ he', h1⟩
end
/-! ### Operands -/
def absC : Value → FV
  | .agg cs => .agg (cs.toList.map .val)
  | v => .val v
theorem absC_rep (h : Heap) (v : Value) : FRep h (absC v) v := by
  cases v with
  | agg cs =>
    have : FRep h (.agg (cs.toList.map .val)) (.agg cs.toList.toArray) := .agg (by simp) (fun j c v a b => by
      rw [List.getElem?_map] at a
      rw [b] at a; cases a; exact .val v)
    simpa [absC] using this
  | _ => exact .val _
/-- The guards under which a slot may be read, where guard g holds. -/
def chain (L : AL) : Nat → Option (Nat × Bool) → List (Nat × Bool)
  | _, none => []
  | 0, some g => [g]
  | k + 1, some g => g :: (match lookL L g.1 with
    | some x => chain L k x.1
    | none => [])
theorem chain_ok {h0 : Gd} {β : Nat → Value} {hF h : Heap} {Tc : Tm} {T : AT} {L : AL} {σ : AS} (s : Sem h0 β hF h Tc T L σ) : ∀ (k : Nat) (g : Option (Nat × Bool)), (∀ a p, g = some (a, p) → Tc a = .bool p) → ∀ x ∈ chain L k g, Tc x.1 = .bool x.2
  | k, none, _, x, hx => by cases k <;> simp [chain] at hx
  | 0, some (a, p), hg, x, hx => by simp only [chain, List.mem_singleton] at hx; subst hx; exact hg a p rfl
  | k + 1, some (a, p), hg, x, hx => by
    simp only [chain, List.mem_cons] at hx
    rcases hx with rfl | hx
    · exact hg a p rfl
    · split at hx
      · rename_i y hy
        refine chain_ok s k _ (fun a' p' e => ?_) x hx
        have h1 := s.l _ (lookL_mem hy)
        simp only [e, GOk] at h1
        rcases Classical.em (Tc a' = .bool p') with h2 | h2
        · exact h2
        · have := h1.2 h2
          rw [hg a p rfl] at this; cases this
      · cases hx
def inCh (g : Option (Nat × Bool)) (ch : List (Nat × Bool)) : Bool := match g with
  | none => true
  | some g => ch.any fun x => x.1 == g.1 && x.2 == g.2
def opd (L : AL) (T : AT) (ch : List (Nat × Bool)) : Operand → Option AV
  | .tmp t => match lookV L T t with
    | some (g, x) => if inCh g ch then some x else none
    | none => none
  | .const v => some (.fz (absC v))
  | .global g => some (.fz (.val (.pointer (some ⟨g, 0, none⟩))))
  | .func f => some (.fz (.fn f [] []))
theorem opd_ok {h0 : Gd} {β : Nat → Value} {hF h : Heap} {Tc : Tm} {T : AT} {L : AL} {σ : AS} (s : Sem h0 β hF h Tc T L σ) {ch : List (Nat × Bool)} (hch : ∀ x ∈ ch, Tc x.1 = .bool x.2) {x : Operand} {av : AV} (e : opd L T ch x = some av) : ARep β hF av (ev Tc x) := by
  cases x with
  | tmp t =>
    simp only [opd] at e
    split at e
    · rename_i g y hy
      split at e
      · rename_i hin
        cases e
        have h1 := s.lk hy
        cases g with
        | none => exact h1
        | some g =>
          obtain ⟨a, p⟩ := g
          simp only [inCh, List.any_eq_true, Bool.and_eq_true, beq_iff_eq] at hin
          obtain ⟨z, hz, h2, h3⟩ := hin
          have := hch z hz
          rw [h2, h3] at this
          exact h1.1 this
      · cases e
    · cases e
  | const v => cases e; exact .fz (absC_rep _ v)
  | global g => cases e; exact .fz (.val _)
  | func f => cases e; exact .fz (.fn (va := []) (vb := []) rfl rfl (fun j c v a => by simp at a) (fun j c v a => by simp at a))
end Go.Proofs.Ytielfejpnkcjbaa.Ab

/- Operations told short; what is reckoned or read of frozen values and of objects. -/
set_option linter.unusedVariables false
set_option linter.unusedSimpArgs false
namespace Go.Proofs.Ytielfejpnkcjbaa.Ab
open Go.Proofs.Ytielfejpnkcjbaa.Sl
/-- An operation, with what the program's types say of it. -/
inductive K where
  | mv (x : Operand) | asg (x : Operand) | pick (c : Nat) (a b : Operand)
  | bin (op : BinOp) (t : TypeId) (x y : Operand) (ty : TypeId)
  | eqs (t : TypeId) (x y : Operand) (ty : TypeId) | nes (t : TypeId) (x y : Operand) (ty : TypeId)
  | eqb (c : Nat) (t : TypeId) (x y : Operand) (ty : TypeId) | neb (c : Nat) (t : TypeId) (x y : Operand) (ty : TypeId)
  | not (t : TypeId) (x : Operand) | bnot (t : TypeId) (x : Operand)
  | conv (s d : TypeId) (x : Operand) (k : IntKind) | nilc (x : Operand)
  | fa (t : TypeId) (x : Operand) (f off n : Nat) | fd1 (t : TypeId) (x : Operand) (f off : Nat) | fdN (t : TypeId) (x : Operand) (f off n : Nat)
  | ix (t : TypeId) (x i : Operand) (e sz : Nat) | ixa (t : TypeId) (x i : Operand) (e sz n : Nat)
  | ld (t : TypeId) (x : Operand) | ldN (t : TypeId) (x : Operand) (n : Nat)
  | len (t : TypeId) (x : Operand) (e : TypeId) | lens (t : TypeId) (x : Operand) | cmin (x y : Operand) (t : TypeId) | cmax (x y : Operand) (t : TypeId)
  | bld (t : TypeId) (parts : List (Nat × Operand)) (pl : List (Nat × Nat)) (z : List Value)
  | ext (x : Operand) (i : Nat) | mkf (f : FuncId) (a b : List Operand) | mki (t : TypeId) (x : Operand)
  | sli (t : TypeId) (x : Operand) (lo hi : Option Operand) (e sz : Nat)
  | box (t : TypeId) (x : Operand) (z : Bool) | alc (t : TypeId) (zs : List Value) (z : Bool)
  | st (t : TypeId) (x y : Operand) | stN (t : TypeId) (x y : Operand) (n : Nat)
  | app (t tx : TypeId) (x y : Operand) (e e' sz : Nat)
  | bsl (t : TypeId) (n : Nat) (parts : List (Nat × Operand)) (e sz : Nat) (z : Bool) | mks (t : TypeId) (x y : Operand) (e sz : Nat) (zs : List Value)
  | call (f : FuncId) (args : List Operand) (tys : List TypeId) | callv (x : Operand) (args : List Operand) (tys : List TypeId)
  | other (op : Op)
def K.op : K → Op
  | .mv x => .move x | .asg x => .assign x | .pick c a b => .pick (.tmp c) a b
  | .bin op t x y ty => .binOp op t x y ty
  | .eqs t x y ty => .binOp .eql t x y ty | .nes t x y ty => .binOp .neq t x y ty
  | .eqb _ t x y ty => .binOp .eql t x y ty | .neb _ t x y ty => .binOp .neq t x y ty
  | .not t x => .unOp .not t x | .bnot t x => .unOp .xor t x
  | .conv s d x _ => .convert s d x | .nilc x => .nilCheck x
  | .fa t x f _ _ => .fieldAddr t x f | .fd1 t x f _ => .field t x f | .fdN t x f _ _ => .field t x f
  | .ix t x i _ _ => .indexAddr t x i | .ixa t x i _ _ _ => .indexAddr t x i
  | .ld t x => .load t x | .ldN t x _ => .load t x
  | .len t x _ => .call ⟨.builtin .len, #[x], #[t]⟩ | .lens t x => .call ⟨.builtin .len, #[x], #[t]⟩
  | .cmin x y t => .call ⟨.builtin .min, #[x, y], #[t, t]⟩ | .cmax x y t => .call ⟨.builtin .max, #[x, y], #[t, t]⟩
  | .bld t parts _ _ => .build t parts.toArray
  | .ext x i => .extract x i | .mkf f a b => .makeFunc (.func f) a.toArray b.toArray | .mki t x => .makeInterface t x
  | .sli t x lo hi _ _ => .slice t x lo hi none
  | .box t x _ => .box t x | .alc t _ _ => .alloc t
  | .st t x y => .store t x y | .stN t x y _ => .store t x y
  | .app t tx x y _ _ _ => .call ⟨.builtin .append, #[x, y], #[t, tx]⟩
  | .bsl t n parts _ _ _ => .buildSlice t n parts.toArray | .mks t x y _ _ _ => .makeSlice t x y
  | .call f args tys => .call ⟨.value (.func f), args.toArray, tys.toArray⟩ | .callv x args tys => .call ⟨.value x, args.toArray, tys.toArray⟩
  | .other op => op
/-- What is asked of the program's types. -/
def isEq (P : Program) (c : Nat) (t : TypeId) (y : Operand) : Bool := match c, P.underlying t with
  | 0, some .bool => true
  | 1, some (.pointer _) => true
  | 2, some (.interface _) => isLit y
  | _, _ => false
def isOne (P : Program) (t : TypeId) : Bool := match P.underlying t with
  | some (.struct _) | some (.array _ _) | none => false
  | _ => true
def isMany (P : Program) (t : TypeId) : Bool := match P.underlying t with
  | some (.struct _) | some (.array _ _) => true
  | _ => false
def isSl (P : Program) (t e : TypeId) : Bool := match P.underlying t with
  | some (.slice e') => e' == e
  | _ => false
def isArr (P : Program) (t n e : TypeId) : Bool := match P.underlying t with
  | some (.array n' e') => e' == e && n' == n
  | _ => false
def isIntT (P : Program) (t : TypeId) : Bool := match P.underlying t with
  | some (.int _) => true
  | _ => false
def isStr (P : Program) (t : TypeId) : Bool := match P.underlying t with
  | some .string => true
  | _ => false
def sameZ : Value → Value → Bool
  | .int k n, .int k' n' => decide (k = k') && decide (n = n')
  | .bool a, .bool b => a == b
  | .string a, .string b => a.size == 0 && b.size == 0
  | .pointer none, .pointer none => true
  | .slice none 0 0, .slice none 0 0 => true
  | .map none, .map none => true
  | .nilFunc, .nilFunc => true
  | .nilIface, .nilIface => true
  | _, _ => false
theorem ba_empty {a : ByteArray} (h : (a.size == 0) = true) : a = ByteArray.empty := by
  cases a with
  | mk d =>
    simp only [beq_iff_eq, ByteArray.size] at h
    have : d = #[] := Array.size_eq_zero_iff.1 h
    subst this; rfl
theorem sameZ_eq {a b : Value} (h : sameZ a b = true) : a = b := by
  unfold sameZ at h
  split at h
  · simp only [Bool.and_eq_true, decide_eq_true_eq] at h; rw [h.1, h.2]
  · simp only [beq_iff_eq] at h; rw [h]
  · simp only [Bool.and_eq_true] at h; rw [ba_empty h.1, ba_empty h.2]
  all_goals first | rfl | cases h
def sameZs : List Value → List Value → Bool
  | [], [] => true
  | a :: x, b :: y => sameZ a b && sameZs x y
  | _, _ => false
theorem sameZs_eq : ∀ {a b : List Value}, sameZs a b = true → a = b
  | [], [], _ => rfl
  | a :: x, b :: y, h => by
    simp only [sameZs, Bool.and_eq_true] at h
    rw [sameZ_eq h.1, sameZs_eq h.2]
  | [], _ :: _, h => by cases h
  | _ :: _, [], h => by cases h
def zeroIs (P : Program) (t : TypeId) (z : List Value) : Bool := match zeroOf P t with
  | some zs => sameZs zs.toList z
  | none => false
theorem zeroIs_eq {P : Program} {t : TypeId} {z : List Value} (h : zeroIs P t z = true) : zeroOf P t = some z.toArray := by
  unfold zeroIs at h
  split at h
  · rename_i zs e; rw [e, ← sameZs_eq h]
  · cases h
def okCall (P : Program) (f : FuncId) : Bool := match P.funcs[f]? with
  | some fn => !(fn.name == "runtime.NumGoroutine") && !fn.body.isNone
  | none => false
def K.side (P : Program) : K → Bool
  | .fa t _ f off n => fieldOff P t f == some off
  | .fd1 t _ f off => fieldPart P t f == some (off, 1, false)
  | .fdN t _ f off n => fieldPart P t f == some (off, n, true)
  | .ix t _ _ e sz => isSl P t e && P.cellsOf e == sz && (P.info? e).isSome
  | .ixa t _ _ e sz n => isArr P t n e && P.cellsOf e == sz && (P.info? e).isSome
  | .ld t _ => isOne P t
  | .ldN t _ n => isMany P t && P.cellsOf t == n
  | .conv s d _ k => isIntT P s && (match P.underlying d with | some (.int k') => k' == k | _ => false)
  | .len t _ e => isSl P t e
  | .eqb c t _ y _ | .neb c t _ y _ => isEq P c t y
  | .lens t _ => isStr P t
  | .mki t _ => match P.underlying t with
    | some (.interface _) | none => false
    | _ => true
  | .bld t _ pl z => placesOf P t == some pl && zeroIs P t z
  | .alc t zs _ => zeroIs P t zs && !zs.isEmpty
  | .st t _ _ => P.cellsOf t == 1 && (P.info? t).isSome
  | .stN t _ _ n => P.cellsOf t == n && (P.info? t).isSome
  | .app t tx _ _ e e' sz => isSl P t e && isSl P tx e' && infoOk P e sz
  | .bsl t n parts e sz _ => isSl P t e && infoOk P e sz && decide (n = parts.length) && decide (parts.map (·.1) = List.range n) && decide (0 < sz) && decide (n * sz ≤ 65536)
  | .call f _ _ => okCall P f
  | .mks t _ _ e sz zs => isSl P t e && infoOk P e sz && zeroIs P e zs && zs.all (·.oneCell')
  | .sli t _ _ _ e sz => isSl P t e && P.cellsOf e == sz && (P.info? e).isSome
  | _ => true
/-- An operation of a region: its slot, its guard (slot, sign), its kind; q: it acts, and is not ordered behind all reads ahead of it. -/
structure AO where
  dst : Option Nat
  g : Option (Nat × Bool)
  k : K
  q : Bool
/-! ### What is reckoned -/
def sint (op : BinOp) (k : IntKind) (a b : Int) : Option (Prop × Value) := match op with
  | .quo => some (b ≠ 0, .int k (k.wrap (a.tdiv b)))
  | .rem => some (b ≠ 0, .int k (a.tmod b))
  | op => (intBin op k a b).map fun v => (True, v)
def ibin (op : BinOp) (k k' : IntKind) (a b : Int) : Option (Prop × Value) := match op with
  | .shl => some (0 ≤ b, .int k (k.wrap (a * 2 ^ (min b.toNat k.bits))))
  | .shr => some (0 ≤ b, .int k (a.fdiv (2 ^ (min b.toNat k.bits))))
  | op => if k = k' then sint op k a b else none
/-- Equality of what is no whole number and no string. -/
def feq : Nat → AV → AV → Option Bool
  | 0, .fz (.val (.bool a)), .fz (.val (.bool b)) => some (a == b)
  | 1, .fz (.val (.pointer none)), .fz (.val (.pointer none)) => some true
  | 1, .fz (.fp _), .fz (.val (.pointer none)) => some false
  | 1, .oe _ _ _ _, .fz (.val (.pointer none)) => some false
  | 2, .fz (.val .nilIface), .fz (.val .nilIface) => some true
  | 2, .fz (.ifc _ _), .fz (.val .nilIface) => some false
  | _, _, _ => none
def FV.cells : FV → List FV
  | .agg cs => cs
  | .val v => v.cells.toList.map .val
  | x => [x]
def fillF (places : List (Nat × Nat)) : List FV → List (Nat × FV) → Option (List FV)
  | cs, [] => some cs
  | cs, (i, x) :: r => match places[i]? with
    | none => none
    | some (off, size) => if x.cells.length = size ∧ off + size ≤ cs.length then fillF places (cs.take off ++ x.cells ++ cs.drop (off + size)) r else none
def ofz : Option AV → Option FV
  | some (.fz x) => some x
  | _ => none
def ofzs (o : Operand → Option AV) : List Operand → Option (List FV)
  | [] => some []
  | x :: r => match o x with
    | some (.fz y) => match ofzs o r with
      | some ys => some (y :: ys)
      | none => none
    | _ => none
def ofzp (o : Operand → Option AV) : List (Nat × Operand) → Option (List (Nat × FV))
  | [] => some []
  | (i, x) :: r => match o x with
    | some (.fz y) => match ofzp o r with
      | some ys => some ((i, y) :: ys)
      | none => none
    | _ => none
def bnd (o : Operand → Option AV) (n : Int) : Option Operand → Option Int
  | none => some n
  | some x => match o x with
    | some (.fz (.val (.int _ j))) => some j
    | _ => none
def unfz : List AV → Option (List FV)
  | [] => some []
  | .fz x :: r => match unfz r with
    | some xs => some (x :: xs)
    | none => none
  | _ :: _ => none
theorem unfz_eq : ∀ {l : List AV} {xs : List FV}, unfz l = some xs → l = xs.map .fz
  | [], xs, h => by cases h; rfl
  | .fz x :: r, xs, h => by
    unfold unfz at h
    split at h
    · rename_i ys hy; cases h; rw [unfz_eq hy]; rfl
    · cases h
  | .hid :: _, _, h => by cases h
  | .os _ :: _, _, h => by cases h
  | .oe _ _ _ _ :: _, _, h => by cases h
theorem unfz_map (xs : List FV) : unfz (xs.map .fz) = some xs := by
  induction xs with
  | nil => rfl
  | cons x xs ih => simp only [List.map_cons, unfz, ih]
structure R where
  ob : Prop
  v : AV
  rd : Option Nat
/-- What an operation that only reckons or reads gives: what it asks, its value, the object that it reads. o: operands under further guards. -/
def pv (σ : AS) (o : List (Nat × Bool) → Operand → Option AV) : K → Option R
  | .mv x => match o [] x with
    | some v => some ⟨True, v, none⟩
    | none => none
  | .asg x => match o [] x with
    | some v => some ⟨True, v, none⟩
    | none => none
  | .pick c a b => match o [] (.tmp c), o [(c, true)] a, o [(c, false)] b with
    | some (.fz (.val (.bool t))), some (.fz (.val (.bool x))), some (.fz (.val (.bool y))) => some ⟨True, .fz (.val (.bool (bif t then x else y))), none⟩
    | _, _, _ => none
  | .bin op _ x y _ => match o [] x, o [] y with
    | some (.fz (.val (.int k a))), some (.fz (.val (.int k' b))) => match ibin op k k' a b with
      | some r => some ⟨r.1, .fz (.val r.2), none⟩
      | none => none
    | _, _ => none
  | .eqs _ x y _ => match o [] x, o [] y with
    | some (.fz (.val (.string a))), some (.fz (.val (.string b))) => some ⟨True, .fz (.val (.bool (a.toList == b.toList))), none⟩
    | _, _ => none
  | .nes _ x y _ => match o [] x, o [] y with
    | some (.fz (.val (.string a))), some (.fz (.val (.string b))) => some ⟨True, .fz (.val (.bool (!(a.toList == b.toList)))), none⟩
    | _, _ => none
  | .not _ x => match o [] x with
    | some (.fz (.val (.bool b))) => some ⟨True, .fz (.val (.bool (!b))), none⟩
    | _ => none
  | .bnot _ x => match o [] x with
    | some (.fz (.val (.int k a))) => some ⟨True, .fz (.val (.int k (k.wrap (BitVec.ofInt k.bits (if k.signed then -1 else k.max) ^^^ BitVec.ofInt k.bits a).toNat))), none⟩
    | _ => none
  | .conv _ _ x k => match o [] x with
    | some (.fz (.val (.int _ a))) => some ⟨True, .fz (.val (.int k (k.wrap a))), none⟩
    | _ => none
  | .nilc x => match o [] x with
    | some (.fz (.fp cs)) => some ⟨True, .fz (.fp cs), none⟩
    | some (.oe id sz i off) => some ⟨True, .oe id sz i off, none⟩
    | some (.fz (.fn f a b)) => some ⟨True, .fz (.fn f a b), none⟩
    | _ => none
  | .fa _ x _ off n => match o [] x with
    | some (.fz (.fp cs)) => some ⟨off + n ≤ cs.length, .fz (.fp ((cs.drop off).take n)), none⟩
    | some (.oe id sz i p) => some ⟨True, .oe id sz i (p + off), none⟩
    | _ => none
  | .fd1 _ x _ off => match o [] x with
    | some (.fz (.agg cs)) => match cs.drop off with
      | c :: _ => some ⟨True, .fz c, none⟩
      | [] => none
    | _ => none
  | .fdN _ x _ off n => match o [] x with
    | some (.fz (.agg cs)) => some ⟨off + n ≤ cs.length, .fz (.agg ((cs.drop off).take n)), none⟩
    | _ => none
  | .ix _ x i _ sz => match o [] x, o [] i with
    | some (.fz y), some (.fz (.val (.int _ j))) => match asSl y with
      | some (n, f) => some ⟨(0 ≤ j ∧ j < n) ∧ (f j.toNat).length = sz, .fz (.fp (f j.toNat)), none⟩
      | none => none
    | some (.os id), some (.fz (.val (.int _ j))) => match lookS σ id with
      | some (.rows _ sz' rows) => if sz' = sz then some ⟨0 ≤ j ∧ j < rows.length, .oe id sz j.toNat 0, none⟩ else none
      | _ => none
    | _, _ => none
  | .ixa _ x i _ sz n => match o [] x, o [] i with
    | some (.fz (.fp cs)), some (.fz (.val (.int _ j))) => some ⟨(0 ≤ j ∧ j < n) ∧ n * sz ≤ cs.length, .fz (.fp ((cs.drop (j.toNat * sz)).take sz)), none⟩
    | some (.oe id sz' i' p), some (.fz (.val (.int _ j))) => some ⟨0 ≤ j ∧ j < n, .oe id sz' i' (p + j.toNat * sz), none⟩
    | _, _ => none
  | .ld _ x => match o [] x with
    | some (.fz (.fp cs)) => match cs with
      | c :: _ => some ⟨True, .fz c, none⟩
      | [] => none
    | some (.oe id sz i p) => match lookS σ id with
      | some (.box _ cells) => if i = 0 then match cells.drop p with
          | c :: _ => some ⟨True, c, some id⟩
          | [] => none
        else none
      | some (.rows _ sz' rows) => if sz' = sz then some ⟨i < rows.length ∧ p < sz, .fz ((rows.getD i []).getD p (.val undef)), some id⟩ else none
      | _ => none
    | _ => none
  | .ldN _ x n => match o [] x with
    | some (.fz (.fp cs)) => some ⟨n ≤ cs.length, .fz (.agg (cs.take n)), none⟩
    | some (.oe id sz i p) => match lookS σ id with
      | some (.box _ cells) => if i = 0 then match unfz ((cells.drop p).take n) with
          | some cs => some ⟨p + n ≤ cells.length, .fz (.agg cs), some id⟩
          | none => none
        else none
      | some (.rows _ sz' rows) => if sz' = sz ∧ p = 0 ∧ n = sz then some ⟨i < rows.length, .fz (.agg (rows.getD i [])), some id⟩ else none
      | _ => none
    | _ => none
  | .len _ x _ => match o [] x with
    | some (.fz y) => match asSl y with
      | some (n, _) => some ⟨True, .fz (.val (.int .i64 n)), none⟩
      | none => none
    | some (.os id) => match lookS σ id with
      | some (.rows _ _ rows) => some ⟨True, .fz (.val (.int .i64 rows.length)), none⟩
      | _ => none
    | _ => none
  | .lens _ x => match o [] x with
    | some (.fz (.val (.string s))) => some ⟨True, .fz (.val (.int .i64 s.size)), none⟩
    | _ => none
  | .cmin x y _ => match o [] x, o [] y with
    | some (.fz (.val (.int k a))), some (.fz (.val (.int k' b))) => if k = k' then some ⟨True, .fz (.val (.int k (if b < a then b else a))), none⟩ else none
    | _, _ => none
  | .cmax x y _ => match o [] x, o [] y with
    | some (.fz (.val (.int k a))), some (.fz (.val (.int k' b))) => if k = k' then some ⟨True, .fz (.val (.int k (if b > a then b else a))), none⟩ else none
    | _, _ => none
  | .bld _ parts pl z => match ofzp (o []) parts with
    | some ps => match fillF pl (z.map .val) ps with
      | some cs => some ⟨True, .fz (.agg cs), none⟩
      | none => none
    | none => none
  | .ext x i => match o [] x with
    | some (.fz (.tup cs)) => match cs.drop i with
      | c :: _ => some ⟨True, .fz c, none⟩
      | [] => none
    | _ => none
  | .mkf f a b => match ofzs (o []) a, ofzs (o []) b with
    | some xs, some ys => some ⟨True, .fz (.fn f xs ys), none⟩
    | _, _ => none
  | .mki t x => match o [] x with
    | some (.fz y) => some ⟨True, .fz (.ifc t y), none⟩
    | _ => none
  | .sli _ x lo hi _ sz => match o [] x with
    | some (.fz y) => match asSl y with
      | some (n, f) => match bnd (o []) 0 lo, bnd (o []) n hi with
        | some l, some k => some ⟨(0 ≤ l ∧ l ≤ k ∧ k ≤ n) ∧ ∀ i, i < n → (f i).length = sz, .fz (.sl (k - l).toNat fun i => f (l.toNat + i)), none⟩
        | _, _ => none
      | none => none
    | _ => none
  | .eqb c _ x y _ => match o [] x, o [] y with
    | some a, some b => match feq c a b with
      | some r => some ⟨True, .fz (.val (.bool r)), none⟩
      | none => none
    | _, _ => none
  | .neb c _ x y _ => match o [] x, o [] y with
    | some a, some b => match feq c a b with
      | some r => some ⟨True, .fz (.val (.bool (!r))), none⟩
      | none => none
    | _, _ => none
  | _ => none
end Go.Proofs.Ytielfejpnkcjbaa.Ab

/- What is reckoned or read: that the operations give just this. -/
set_option linter.unusedVariables false
set_option linter.unusedSimpArgs false
namespace Go.Proofs.Ytielfejpnkcjbaa.Ab
open Go.Proofs.Ytielfejpnkcjbaa.Sl
def PvOk (P : Program) (β : Nat → Value) (hF h : Heap) (Tc : Tm) (o : Oper) (r : R) : Prop :=
  ∃ v, ARep β hF r.v v ∧ (isRead o.op = false → PureOp P o (ev Tc) v) ∧ (∀ g, hF.le g → (∀ id b, r.rd = some id → baseOf (β id) = some b → g b = h b) → ReadOp P o (ev Tc) g v)
section
variable {P : Program} {h0 : Gd} {β : Nat → Value} {hF h : Heap} {Tc : Tm} {T : AT} {L : AL} {σ : AS} {o : Oper} {r : R}
theorem fin_pure {v : Value} (hv : ARep β hF r.v v) (p : PureOp P o (ev Tc) v) : PvOk P β hF h Tc o r := ⟨v, hv, fun _ => p, fun g _ _ => p.read g⟩
theorem fin_pr {v : Value} (hv : ARep β hF r.v v) (p : ReadOp P o (ev Tc) (fun _ => none) v) : PvOk P β hF h Tc o r := fin_pure hv p.pure0
theorem fin_read {v : Value} (hv : ARep β hF r.v v) (hr : isRead o.op = true) (p : ∀ g, hF.le g → (∀ id b, r.rd = some id → baseOf (β id) = some b → g b = h b) → ReadOp P o (ev Tc) g v) : PvOk P β hF h Tc o r :=
  ⟨v, hv, fun e => (by rw [hr] at e; cases e), p⟩
theorem fz_int {k : IntKind} {a : Int} {v : Value} (r : ARep β hF (.fz (.val (.int k a))) v) : v = .int k a := by cases r with | fz r => cases r; rfl
theorem fz_val {u v : Value} (r : ARep β hF (.fz (.val u)) v) : v = u := by cases r with | fz r => cases r; rfl
theorem fz_fz {x : FV} {v : Value} (r : ARep β hF (.fz x) v) : FRep hF x v := by cases r with | fz r => exact r
theorem getElem?_drop_cons {α : Type} {l : List α} {k : Nat} {c : α} {t : List α} (h : l.drop k = c :: t) : l[k]? = some c := by
  have := congrArg (·[0]?) h
  simpa using this
theorem frep_fp {cs : List FV} {v : Value} (r : FRep hF (.fp cs) v) : ∃ b off full e fz, v = .pointer (some ⟨b, off, none⟩) ∧ hF b = some (.cells full e fz) ∧ off + cs.length ≤ full.size ∧ ∀ (j : Nat) (c : FV) (u : Value), cs[j]? = some c → full[off + j]? = some u → FRep hF c u := by
  cases r with
  | fp hb hs hr => exact ⟨_, _, _, _, _, rfl, hb, hs, hr⟩
theorem frep_agg {cs : List FV} {v : Value} (r : FRep hF (.agg cs) v) : ∃ vs : List Value, v = .agg vs.toArray ∧ FReps hF cs vs := by
  cases r with
  | agg hl hr => exact ⟨_, rfl, hl, hr⟩
theorem frep_tup {cs : List FV} {v : Value} (r : FRep hF (.tup cs) v) : ∃ vs : List Value, v = .tuple vs.toArray ∧ FReps hF cs vs := by
  cases r with
  | tup hl hr => exact ⟨_, rfl, hl, hr⟩
theorem FReps.take {cs : List FV} {vs : List Value} (r : FReps hF cs vs) (k n : Nat) : FReps hF ((cs.drop k).take n) ((vs.drop k).take n) :=
  ⟨by simp [r.1], fun j c v a b => by
    rw [List.getElem?_take] at a b
    split at a
    · rename_i hj
      rw [if_pos hj] at b
      rw [List.getElem?_drop] at a b
      exact r.2 _ c v a b
    · cases a⟩
theorem sub_fp {cs : List FV} {full : Array Value} {off k n : Nat} (hs : off + cs.length ≤ full.size) (hr : ∀ (j : Nat) (c : FV) (u : Value), cs[j]? = some c → full[off + j]? = some u → FRep hF c u) :
    ∀ (j : Nat) (c : FV) (u : Value), ((cs.drop k).take n)[j]? = some c → full[off + k + j]? = some u → FRep hF c u := fun j c u a b => by
  rw [List.getElem?_take] at a
  split at a
  · rw [List.getElem?_drop] at a
    exact hr (k + j) c u a (by rw [← b]; congr 1; omega)
  · cases a
theorem FReps.of_fp {cs : List FV} {full : Array Value} {off n : Nat} (hs : off + cs.length ≤ full.size) (hn : n ≤ cs.length) (hr : ∀ (j : Nat) (c : FV) (u : Value), cs[j]? = some c → full[off + j]? = some u → FRep hF c u) : FReps hF (cs.take n) (full.extract off (off + n)).toList :=
  ⟨by simp; omega, fun j c v a b => by
    rw [List.getElem?_take] at a
    split at a
    · rename_i hj
      rw [Array.getElem?_toList, Array.getElem?_extract_of_lt (by omega)] at b
      exact hr j c v a (by rw [Array.getElem?_eq_getElem (by omega)]; exact b)
    · cases a⟩
theorem flat_get {α : Type} {sz : Nat} : ∀ {rows : List (List α)}, (∀ r ∈ rows, r.length = sz) → ∀ (i j : Nat), j < sz → rows.flatten[i * sz + j]? = (rows[i]?).bind (·[j]?)
  | [], _, i, j, _ => by simp
  | r :: rows, h, 0, j, hj => by
    have h1 := h r (by simp)
    simp only [List.flatten_cons, Nat.zero_mul, Nat.zero_add, List.getElem?_cons_zero, Option.bind_some]
    rw [List.getElem?_append_left (by omega)]
  | r :: rows, h, i + 1, j, hj => by
    have h1 := h r (by simp)
    have ih := flat_get (rows := rows) (fun x hx => h x (by simp [hx])) i j hj
    rw [List.flatten_cons, List.getElem?_append_right (by rw [Nat.succ_mul]; omega), h1, show (i + 1) * sz + j - sz = i * sz + j by rw [Nat.succ_mul]; omega, ih]
    rfl
theorem flat_len {α : Type} {sz : Nat} : ∀ {rows : List (List α)}, (∀ r ∈ rows, r.length = sz) → rows.flatten.length = rows.length * sz
  | [], _ => by simp
  | r :: rows, h => by
    have ih := flat_len (rows := rows) (fun x hx => h x (by simp [hx]))
    have h1 := h r (by simp)
    rw [List.flatten_cons, List.length_append, ih, h1, List.length_cons, Nat.succ_mul]; omega
/-- A row of an object's slice. -/
theorem rows_at {id sz : Nat} {t : TypeId} {rows : List (List FV)} (ok : OOk β hF h id (.rows t sz rows)) {i : Nat} (hi : i < rows.length) : ∃ b n c full, β id = .slice (some ⟨b, 0, none⟩) n c ∧ h b = some (.cells full t (0, 0)) ∧ rows.length * sz ≤ full.size ∧ (rows.getD i []).length = sz ∧
    ∀ (p : Nat) (c : FV) (u : Value), (rows.getD i [])[p]? = some c → full[i * sz + p]? = some u → FRep hF c u := by
  obtain ⟨vs, own, hlen, hone, reps⟩ := ok
  have hrow : rows.getD i [] ∈ rows := by rw [List.getD_eq_getElem?_getD, List.getElem?_eq_getElem hi]; exact List.getElem_mem hi
  generalize hβ : β id = v at own
  generalize hn : rows.length = n at own hi
  cases own with
  | nil => omega
  | @at_ b n c full cs hb hl hnc hcap hc =>
    have h1 : n * sz ≤ full.size := Nat.le_trans (Nat.mul_le_mul_right _ hnc) hcap
    refine ⟨b, _, _, full, rfl, hb, h1, hlen _ hrow, fun p c u a e => ?_⟩
    have hp : p < sz := by
      have h5 := (List.getElem?_eq_some_iff.1 a).1
      have h6 := hlen _ hrow
      omega
    refine reps.2 (i * sz + p) c u ?_ ?_
    · rw [flat_get hlen i p hp]
      rw [List.getD_eq_getElem?_getD] at a
      have hri : rows[i]? = some (rows[i]'(by omega)) := List.getElem?_eq_getElem (by omega)
      rw [hri] at a ⊢
      exact a
    · have h2 : i * sz + p < n * sz := by
        have : (i + 1) * sz ≤ n * sz := Nat.mul_le_mul_right _ hi
        rw [Nat.succ_mul] at this; omega
      rw [← hc, List.getElem?_take_of_lt h2, Array.getElem?_toList]; exact e
theorem ofzs_ok {o : Operand → Option AV} (ho : ∀ x av, o x = some av → ARep β hF av (ev Tc x)) : ∀ {l : List Operand} {xs : List FV}, ofzs o l = some xs → FReps hF xs (l.map (ev Tc))
  | [], xs, e => by cases e; exact FReps.nil _
  | x :: l, xs, e => by
    unfold ofzs at e
    split at e
    · rename_i y hy
      split at e
      · rename_i ys hys
        cases e
        exact FReps.cons (fz_fz (ho x _ hy)) (ofzs_ok ho hys)
      · cases e
    · cases e
theorem ofzp_ok {o : Operand → Option AV} (ho : ∀ x av, o x = some av → ARep β hF av (ev Tc x)) : ∀ {l : List (Nat × Operand)} {xs : List (Nat × FV)}, ofzp o l = some xs →
    (l.map (·.1) = xs.map (·.1)) ∧ FReps hF (xs.map (·.2)) (l.map fun p => ev Tc p.2)
  | [], xs, e => by cases e; exact ⟨rfl, FReps.nil _⟩
  | (i, x) :: l, xs, e => by
    unfold ofzp at e
    split at e
    · rename_i y hy
      split at e
      · rename_i ys hys
        cases e
        obtain ⟨h1, h2⟩ := ofzp_ok ho hys
        exact ⟨by simp [h1], FReps.cons (fz_fz (ho x _ hy)) h2⟩
      · cases e
    · cases e
theorem cells_ok {x : FV} {v : Value} (r : FRep hF x v) : FReps hF x.cells v.cells.toList := by
  cases r with
  | val v => exact ⟨by simp [FV.cells], fun j c u a b => by
      simp only [FV.cells] at a
      rw [List.getElem?_map, b] at a
      cases a; exact .val u⟩
  | agg hl hr => exact ⟨by simpa [FV.cells, Value.cells] using hl, fun j c u a b => hr j c u (by simpa [FV.cells] using a) (by simpa [Value.cells] using b)⟩
  | sl0 f a c => exact FReps.cons (.sl0 f a c) (FReps.nil _)
  | sl hb hnc hsz h1 hs hr => exact FReps.cons (.sl hb hnc hsz h1 hs hr) (FReps.nil _)
  | fp hb hs hr => exact FReps.cons (.fp hb hs hr) (FReps.nil _)
  | tup hl hr => exact FReps.cons (.tup hl hr) (FReps.nil _)
  | ifc hx => exact FReps.cons (.ifc hx) (FReps.nil _)
  | fn a b c d => exact FReps.cons (.fn a b c d) (FReps.nil _)
theorem FReps.app {a b : List FV} {x y : List Value} (r : FReps hF a x) (q : FReps hF b y) : FReps hF (a ++ b) (x ++ y) :=
  ⟨by simp [r.1, q.1], fun j c v e1 e2 => by
    rcases Nat.lt_or_ge j a.length with hj | hj
    · rw [List.getElem?_append_left hj] at e1
      rw [List.getElem?_append_left (by rw [r.1]; exact hj)] at e2
      exact r.2 j c v e1 e2
    · rw [List.getElem?_append_right hj] at e1
      rw [List.getElem?_append_right (by rw [r.1]; exact hj), r.1] at e2
      exact q.2 _ c v e1 e2⟩
theorem fill_ok {pl : List (Nat × Nat)} : ∀ {ps : List (Nat × FV)} {vs : List (Nat × Value)} {cs : List FV} {us : List Value} {cs' : List FV}, FReps hF cs us → ps.map (·.1) = vs.map (·.1) → FReps hF (ps.map (·.2)) (vs.map (·.2)) → fillF pl cs ps = some cs' →
    ∃ us', fillL pl us vs = some us' ∧ FReps hF cs' us'
  | [], vs, cs, us, cs', r, e1, r2, e => by
    cases vs with
    | nil => cases e; exact ⟨us, rfl, r⟩
    | cons p vs => simp at e1
  | (i, x) :: ps, vs, cs, us, cs', r, e1, r2, e => by
    cases vs with
    | nil => simp at e1
    | cons p vs =>
      obtain ⟨i', v⟩ := p
      simp only [List.map_cons, List.cons.injEq] at e1
      obtain ⟨rfl, e1⟩ := e1
      obtain ⟨v', ws, hv, rx, rs⟩ := FReps.uncons r2
      simp only [List.map_cons, List.cons.injEq] at hv
      obtain ⟨rfl, rfl⟩ := hv
      unfold fillF at e
      unfold fillL
      split at e
      · cases e
      · rename_i off size hp
        have rc := cells_ok rx
        split at e
        · rename_i hc
          simp only [hp]
          rw [if_pos ⟨by rw [← hc.1, ← rc.1, Array.length_toList], by rw [r.1]; exact hc.2⟩]
          refine fill_ok ?_ e1 rs e
          have h1 := FReps.take r 0 off
          have h2 := FReps.take r (off + size) cs.length
          rw [List.drop_zero, List.drop_zero] at h1
          rw [List.take_of_length_le (by simp), List.take_of_length_le (by simp [r.1])] at h2
          have hsz : v.cells.size = size := by rw [← hc.1, ← rc.1, Array.length_toList]
          try rw [hsz]
          exact (h1.app rc).app h2
        · cases e
end
end Go.Proofs.Ytielfejpnkcjbaa.Ab

/- What is reckoned or read: the theorem. -/
set_option linter.unusedVariables false
set_option linter.unusedSimpArgs false
namespace Go.Proofs.Ytielfejpnkcjbaa.Ab
open Go.Proofs.Ytielfejpnkcjbaa.Sl
section
variable {P : Program} {h0 : Gd} {β : Nat → Value} {hF h : Heap} {Tc : Tm} {T : AT} {L : AL} {σ : AS} {o : Oper} {r : R}
theorem isOne_spec {t : TypeId} (hs : isOne P t = true) : ∃ d, P.underlying t = some d ∧ (match d with | .struct _ | .array _ _ => false | _ => true) = true := by
  unfold isOne at hs
  cases hu : P.underlying t with
  | none => rw [hu] at hs; cases hs
  | some d => rw [hu] at hs; exact ⟨d, rfl, by cases d <;> first | rfl | cases hs⟩
theorem isMany_spec {t : TypeId} (hs : isMany P t = true) : ∃ d, P.underlying t = some d ∧ (match d with | .struct _ | .array _ _ => true | _ => false) = true := by
  unfold isMany at hs
  cases hu : P.underlying t with
  | none => rw [hu] at hs; cases hs
  | some d => rw [hu] at hs; exact ⟨d, rfl, by cases d <;> first | rfl | cases hs⟩
theorem r_ld1 {ρ : Operand → Value} {t : TypeId} {x : Operand} {b off : Nat} {cs : Array Value} {e : TypeId} {fz : Nat × Nat} {v : Value} (ho : o.op = .load t x) (hs : isOne P t = true) (hx : ρ x = .pointer (some ⟨b, off, none⟩)) {g : Heap} (hb : g b = some (.cells cs e fz)) (hc : cs[off]? = some v) : ReadOp P o ρ g v := by
  obtain ⟨d, hu, hd⟩ := isOne_spec hs
  exact r_load1 ho hu (by cases d <;> exact hd) hx hb hc
theorem r_ldN {ρ : Operand → Value} {t : TypeId} {x : Operand} {b off : Nat} {cs : Array Value} {e : TypeId} {fz : Nat × Nat} (ho : o.op = .load t x) (hs : isMany P t = true) (hx : ρ x = .pointer (some ⟨b, off, none⟩)) {g : Heap} (hb : g b = some (.cells cs e fz)) {n : Nat} (hn : P.cellsOf t = n) (hc : off + n ≤ cs.size) : ReadOp P o ρ g (.agg (cs.extract off (off + n))) := by
  obtain ⟨d, hu, hd⟩ := isMany_spec hs
  exact r_loadN ho hu (by cases d <;> exact hd) hx hb hn hc
theorem isSl_spec {t e : TypeId} (hs : isSl P t e = true) : P.underlying t = some (.slice e) := by
  unfold isSl at hs
  split at hs
  · rename_i e' hu; simp only [beq_iff_eq] at hs; rw [hu, hs]
  · cases hs
theorem isArr_spec {t n e : TypeId} (hs : isArr P t n e = true) : P.underlying t = some (.array n e) := by
  unfold isArr at hs
  split at hs
  · rename_i n' e' hu; simp only [Bool.and_eq_true, beq_iff_eq] at hs; rw [hu, hs.1, hs.2]
  · cases hs
theorem isStr_spec {t : TypeId} (hs : isStr P t = true) : P.underlying t = some .string := by
  unfold isStr at hs
  split at hs
  · assumption
  · cases hs
theorem intBin_of {op : BinOp} {k : IntKind} {a b : Int} {v : Value} (h : intBin op k a b = some v) {t ty : TypeId} {x y : Operand} (hop : o.op = .binOp op t x y ty) (hx : ev Tc x = .int k a) (hy : ev Tc y = .int k b) : PureOp P o (ev Tc) v := by
  refine p_val ?_
  rw [hop]
  simp only [pval, hx, hy, binVal]
  cases op <;> simp only [intBin, reduceCtorEq] at h <;> simpa [intBin] using h
theorem ibin_ok {op : BinOp} {k k' : IntKind} {a b : Int} {q : Prop × Value} (h : ibin op k k' a b = some q) (ob : q.1) {t ty : TypeId} {x y : Operand} (hop : o.op = .binOp op t x y ty) (hx : ev Tc x = .int k a) (hy : ev Tc y = .int k' b) : PureOp P o (ev Tc) q.2 := by
  unfold ibin at h
  split at h
  · cases h; exact (r_shl hop hx hy ob).pure0
  · cases h; exact (r_shr hop hx hy ob).pure0
  · split at h
    · rename_i hk
      subst hk
      unfold sint at h
      split at h
      · cases h; exact (r_quo hop hx hy ob).pure0
      · cases h; exact (r_rem hop hx hy ob).pure0
      · cases hi : intBin op k a b with
        | none => rw [hi] at h; cases h
        | some v => rw [hi] at h; cases h; exact intBin_of hi hop hx hy
    · cases h
theorem isEq_spec {c : Nat} {t : TypeId} {y : Operand} (h : isEq P c t y = true) : (c = 0 ∧ P.underlying t = some .bool) ∨ (c = 1 ∧ ∃ e, P.underlying t = some (.pointer e)) ∨ (c = 2 ∧ (∃ e, P.underlying t = some (.interface e)) ∧ isLit y = true) := by
  unfold isEq at h
  split at h
  · rename_i hu; exact .inl ⟨rfl, hu⟩
  · rename_i hu; exact .inr (.inl ⟨rfl, _, hu⟩)
  · rename_i hu; exact .inr (.inr ⟨rfl, ⟨_, hu⟩, h⟩)
  · cases h
/-- What the test is asked. -/
def EqFit (P : Program) (t : TypeId) (x y : Operand) (u v : Value) (q : Bool) : Prop :=
  (match u, v with | .int _ _, .int _ _ => false | .agg _, .agg _ => !P.eqGuardType P.depth t | .nilIface, .nilIface => isLit x || isLit y | _, _ => true) = true ∧ eqv P 10000 t u v = some q ∧ (match u with | .int _ _ | .float _ _ | .complex _ _ _ | .string _ => false | _ => true) = true
theorem feq_fit {c : Nat} {a b : AV} {q : Bool} (h : feq c a b = some q) {u v : Value} (hu : ARep β hF a u) (hv : ARep β hF b v) {t : TypeId} {x y : Operand} (ht : isEq P c t y = true) : EqFit P t x y u v q := by
  have ht := isEq_spec ht
  unfold feq at h
  split at h
  · obtain ⟨_, h1⟩ | ⟨h1, _⟩ | ⟨h1, _⟩ := ht
    · cases h; rw [fz_val hu, fz_val hv]; exact ⟨rfl, by simp [eqv, h1], rfl⟩
    · cases h1
    · cases h1
  · obtain ⟨h1, _⟩ | ⟨_, e, h1⟩ | ⟨h1, _⟩ := ht
    · cases h1
    · cases h; rw [fz_val hu, fz_val hv]; exact ⟨rfl, by simp [eqv, h1], rfl⟩
    · cases h1
  · obtain ⟨h1, _⟩ | ⟨_, e, h1⟩ | ⟨h1, _⟩ := ht
    · cases h1
    · cases h; rw [fz_val hv]
      obtain ⟨b, off, full, ty, fz, hw, _⟩ := frep_fp (fz_fz hu)
      rw [hw]; exact ⟨rfl, by simp [eqv, h1], rfl⟩
    · cases h1
  · obtain ⟨h1, _⟩ | ⟨_, e, h1⟩ | ⟨h1, _⟩ := ht
    · cases h1
    · cases h; rw [fz_val hv]
      cases hu with
      | oe hb => exact ⟨rfl, by simp [eqv, h1], rfl⟩
    · cases h1
  · obtain ⟨h1, _⟩ | ⟨h1, _⟩ | ⟨_, ⟨e, h1⟩, h2⟩ := ht
    · cases h1
    · cases h1
    · cases h; rw [fz_val hu, fz_val hv]; exact ⟨by simp [h2], by simp [eqv, h1], rfl⟩
  · obtain ⟨h1, _⟩ | ⟨h1, _⟩ | ⟨_, ⟨e, h1⟩, h2⟩ := ht
    · cases h1
    · cases h1
    · cases h; rw [fz_val hv]
      have := fz_fz hu
      cases this with
      | ifc hx => exact ⟨rfl, by simp [eqv, h1], rfl⟩
  · cases h
theorem bnd_ok {oo : Operand → Option AV} (ho : ∀ x av, oo x = some av → ARep β hF av (ev Tc x)) {n : Int} {x : Option Operand} {j : Int} (e : bnd oo n x = some j) : (x = none ∧ j = n) ∨ ∃ y k, x = some y ∧ ev Tc y = .int k j := by
  unfold bnd at e
  split at e
  · cases e; exact .inl ⟨rfl, rfl⟩
  · split at e
    · rename_i y _ k j' hy; cases e; exact .inr ⟨y, k, rfl, fz_val (ho _ _ hy)⟩
    · cases e
theorem p_slice {t e : TypeId} {x : Operand} {lo hi : Option Operand} {a : Option Addr} {n c l k : Nat} {sz : Nat} (hop : o.op = .slice t x lo hi none) (hu : P.underlying t = some (.slice e)) (he : (P.info? e).isSome = true) (hs : P.cellsOf e = sz) (hx : ev Tc x = .slice a n c) (hnc : n ≤ c)
    (hl : (lo = none ∧ (l : Int) = 0) ∨ ∃ y kk, lo = some y ∧ ev Tc y = .int kk l) (hk : (hi = none ∧ (k : Int) = n) ∨ ∃ y kk, hi = some y ∧ ev Tc y = .int kk k) (hlk : l ≤ k) (hkn : k ≤ n) :
    PureOp P o (ev Tc) (.slice (if c = l then a else a.map (·.add (l * sz))) (k - l) (c - l)) := by
  intro w
  subst hs
  have hkc : k ≤ c := Nat.le_trans hkn hnc
  have h1 : ∀ y : Nat, ∀ kk : IntKind, ∀ m : Nat, ∀ bc : BoundsCode, y ≤ m → (Instr.sliceBound (.int kk (y : Int)) m bc).run P w = .ok y w := fun y kk m bc hm => by
    have : (0 : Int) ≤ (y : Int) ∧ (y : Int) ≤ (m : Int) := by omega
    simp [Instr.sliceBound, asIntOf, this] <;> omega
  have hb : (Instr.sliceBounds true n c (lo.map (ev Tc)) (hi.map (ev Tc)) none).run P w = .ok (l, k, c) w := by
    rcases hl with ⟨rfl, h2⟩ | ⟨y, kk, rfl, h2⟩ <;> rcases hk with ⟨rfl, h3⟩ | ⟨z, kz, rfl, h3⟩
    · have : l = 0 := by omega
      have : k = n := by omega
      subst_vars; simp [Instr.sliceBounds]
    · have : l = 0 := by omega
      subst this
      simp [Instr.sliceBounds, h3, h1 k kz c _ hkc]
    · have : k = n := by omega
      subst this
      simp [Instr.sliceBounds, h2, h1 l kk k _ hlk]
    · simp [Instr.sliceBounds, h2, h3, h1 l kk k _ hlk, h1 k kz c _ hkc]
  simp only [execOp, hop, Instr.sliceAt, Sem.run_bind, run_underlying hu, Result.andThen_ok, Instr.slice, hx, Option.map_none, hb, run_cellsOf _ _ he, Sem.run_pure]
theorem pv_ok (s : Sem h0 β hF h Tc T L σ) {ch : List (Nat × Bool)} (hch : ∀ x ∈ ch, Tc x.1 = .bool x.2) {k : K} (hop : o.op = k.op) (hs : k.side P = true) (e : pv σ (fun ex => opd L T (ex ++ ch)) k = some r) (hob : r.ob) : PvOk P β hF h Tc o r := by
  have ho : ∀ x av, opd L T ([] ++ ch) x = some av → ARep β hF av (ev Tc x) := fun x av e => opd_ok s hch e
  cases k with
  | mv x =>
    simp only [pv] at e
    split at e
    · rename_i v hv; cases e; exact fin_pure (ho _ _ hv) (p_val (by rw [hop]; rfl))
    · cases e
  | asg x =>
    simp only [pv] at e
    split at e
    · rename_i v hv; cases e; exact fin_pure (ho _ _ hv) (p_val (by rw [hop]; rfl))
    · cases e
  | pick c a b =>
    simp only [pv] at e
    split at e
    · rename_i t x y hc ha hb
      cases e
      have h1 := fz_val (ho _ _ hc)
      refine fin_pure (v := .bool (bif t then x else y)) (.fz (.val _)) (p_val ?_)
      rw [hop]
      simp only [K.op, pval, h1]
      cases t with
      | true =>
        have := fz_val (opd_ok s (ch := [(c, true)] ++ ch) (by
          intro z hz
          rcases List.mem_cons.1 hz with rfl | hz
          · exact h1
          · exact hch z hz) ha)
        simp [this]
      | false =>
        have := fz_val (opd_ok s (ch := [(c, false)] ++ ch) (by
          intro z hz
          rcases List.mem_cons.1 hz with rfl | hz
          · exact h1
          · exact hch z hz) hb)
        simp [this]
    · cases e
  | bin op t x y ty =>
    simp only [pv] at e
    split at e
    · rename_i k a k' b hx hy
      split at e
      · rename_i q hq
        cases e
        exact fin_pure (.fz (.val _)) (ibin_ok hq hob hop (fz_val (ho _ _ hx)) (fz_val (ho _ _ hy)))
      · cases e
    · cases e
  | eqs t x y ty =>
    simp only [pv] at e
    split at e
    · rename_i a b hx hy
      cases e
      exact fin_pr (.fz (.val _)) (r_eql_str hop (fz_val (ho _ _ hx)) (fz_val (ho _ _ hy)))
    · cases e
  | nes t x y ty =>
    simp only [pv] at e
    split at e
    · rename_i a b hx hy
      cases e
      exact fin_pr (.fz (.val _)) (r_neq_str hop (fz_val (ho _ _ hx)) (fz_val (ho _ _ hy)))
    · cases e
  | eqb c t x y ty =>
    simp only [pv] at e
    split at e
    · rename_i a b hx hy
      split at e
      · rename_i q hq
        cases e
        obtain ⟨h1, h2, h3⟩ := feq_fit (x := x) (y := y) hq (ho _ _ hx) (ho _ _ hy) hs
        generalize hu : ev Tc x = u at h1 h2 h3
        generalize hv : ev Tc y = v at h1 h2
        exact fin_pr (.fz (.val _)) (r_eql hop hu hv (by cases u <;> cases v <;> exact h1) h2 (by cases u <;> exact h3))
      · cases e
    · cases e
  | neb c t x y ty =>
    simp only [pv] at e
    split at e
    · rename_i a b hx hy
      split at e
      · rename_i q hq
        cases e
        obtain ⟨h1, h2, h3⟩ := feq_fit (x := x) (y := y) hq (ho _ _ hx) (ho _ _ hy) hs
        generalize hu : ev Tc x = u at h1 h2 h3
        generalize hv : ev Tc y = v at h1 h2
        exact fin_pr (.fz (.val _)) (r_neq hop hu hv (by cases u <;> cases v <;> exact h1) h2 (by cases u <;> exact h3))
      · cases e
    · cases e
  | not t x =>
    simp only [pv] at e
    split at e
    · rename_i b hx
      cases e
      refine fin_pure (.fz (.val _)) (p_val ?_)
      rw [hop]
      simp only [K.op, pval, fz_val (ho _ _ hx)]
    · cases e
  | bnot t x =>
    simp only [pv] at e
    split at e
    · rename_i k a hx
      cases e
      exact fin_pr (.fz (.val _)) (r_bnot hop (fz_val (ho _ _ hx)))
    · cases e
  | conv s d x k =>
    simp only [pv] at e
    split at e
    · rename_i k' a hx
      cases e
      simp only [K.side, Bool.and_eq_true] at hs
      obtain ⟨h1, h2⟩ := hs
      split at h2
      · rename_i k'' hd
        simp only [beq_iff_eq] at h2
        subst h2
        unfold isIntT at h1
        split at h1
        · rename_i kk hsd
          exact fin_read (.fz (.val _)) (by rw [hop]; rfl) (fun g _ _ => r_convert_int hop hsd hd (fz_val (ho _ _ hx)) rfl)
        · cases h1
      · cases h2
    · cases e
  | nilc x =>
    simp only [pv] at e
    split at e
    · rename_i cs hx
      cases e
      have h1 := ho _ _ hx
      obtain ⟨b, off, full, ty, fz, hv, _⟩ := frep_fp (fz_fz h1)
      refine fin_pure h1 (p_val ?_)
      rw [hop]; simp only [K.op, pval, hv]
    · rename_i id sz i off hx
      cases e
      have h1 := ho _ _ hx
      refine fin_pure h1 (p_val ?_)
      rw [hop]
      simp only [K.op, pval]
      generalize ev Tc x = v at h1
      cases h1 with
      | oe hb => rfl
    · rename_i f a b hx
      cases e
      have h1 := ho _ _ hx
      refine fin_pure h1 (p_val ?_)
      rw [hop]
      simp only [K.op, pval]
      have h2 := fz_fz h1
      generalize ev Tc x = v at h2
      cases h2 with
      | fn hl hl2 hr hr2 => rfl
    · cases e
  | fa t x f off n =>
    simp only [pv] at e
    simp only [K.side, beq_iff_eq] at hs
    split at e
    · rename_i cs hx
      cases e
      obtain ⟨b, o1, full, ty, fz, hv, hb, hsz, hr⟩ := frep_fp (fz_fz (ho _ _ hx))
      refine fin_pure (.fz ?_) (p_fieldAddr hop hv hs)
      have hob' : off + n ≤ cs.length := hob
      exact .fp hb (by simp; omega) (sub_fp hsz hr)
    · rename_i id sz i p hx
      cases e
      have h1 := ho _ _ hx
      generalize hv : ev Tc x = v at h1
      cases h1 with
      | @oe _ _ _ _ b hb =>
        refine fin_pure (v := .pointer (some ⟨b, i * sz + (p + off), none⟩)) (.oe hb) ?_
        rw [← Nat.add_assoc]
        exact p_fieldAddr hop hv hs
    · cases e
  | fd1 t x f off =>
    simp only [pv] at e
    simp only [K.side, beq_iff_eq] at hs
    split at e
    · rename_i cs hx
      split at e
      · rename_i c rest hd
        cases e
        obtain ⟨vs, hv, hl, hr⟩ := frep_agg (fz_fz (ho _ _ hx))
        have hc := getElem?_drop_cons hd
        have hlt : off < vs.length := by rw [hl]; exact (List.getElem?_eq_some_iff.1 hc).1
        exact fin_pure (.fz (hr off c _ hc (List.getElem?_eq_getElem hlt))) (p_field1 hop hv hs (by simp [List.getElem?_eq_getElem hlt]))
      · cases e
    · cases e
  | fdN t x f off n =>
    simp only [pv] at e
    simp only [K.side, beq_iff_eq] at hs
    split at e
    · rename_i cs hx
      cases e
      obtain ⟨vs, hv, hl, hr⟩ := frep_agg (fz_fz (ho _ _ hx))
      refine fin_pure (.fz ?_) (p_fieldN hop hv hs)
      have h1 := FReps.take ⟨hl, hr⟩ off n
      have h2 : vs.toArray.extract off (off + n) = ((vs.drop off).take n).toArray := by simp
      rw [h2]
      exact .agg h1.1 h1.2
    · cases e
  | ix t x i ty sz =>
    simp only [pv] at e
    simp only [K.side, Bool.and_eq_true, beq_iff_eq] at hs
    obtain ⟨⟨h1, h2⟩, h3⟩ := hs
    have hu := isSl_spec h1
    split at e
    · rename_i y k j hx hi
      split at e
      case h_2 => cases e
      rename_i n f hy
      cases e
      obtain ⟨⟨hj0, hj1⟩, hl⟩ := hob
      have hxv := fz_fz (ho _ _ hx)
      unfold asSl at hy
      split at hy
      case h_3 => cases hy
      case h_2 => cases hy; exfalso; simp at hj1; omega
      cases hy
      generalize hv : ev Tc x = v at hxv
      cases hxv with
      | sl0 f a c => exfalso; simp at hj1; omega
      | @sl n f b off c sz' full e' fz hb hnc hsz h1' hs' hr =>
        have hjn : j.toNat < n := by omega
        have : sz' = sz := by rw [← hl]; exact (hsz _ hjn).symm
        subst this
        refine fin_pure (.fz ?_) (p_indexAddr hop hu h2 h3 hv (fz_val (ho _ _ hi)) hj0 hj1)
        refine .fp hb ?_ (fun q c u a b => hr j.toNat q c u hjn a (by rw [← b]))
        rw [hl]
        have : (j.toNat + 1) * sz' ≤ n * sz' := Nat.mul_le_mul_right _ hjn
        rw [Nat.succ_mul] at this; omega
    · rename_i id k j hx hi
      split at e
      · rename_i t' sz' rows hσ
        split at e
        · rename_i hsz
          subst hsz
          cases e
          obtain ⟨hj0, hj1⟩ := hob
          have hjn : j.toNat < rows.length := by omega
          have ok := s.ok.ok _ (lookS_mem hσ)
          obtain ⟨b, n, c, full, hβ, hb, hcap, _, _⟩ := rows_at ok hjn
          have hn : n = rows.length := by
            obtain ⟨vs, own, _⟩ := ok
            simp only at own
            rw [hβ] at own
            cases own; rfl
          subst hn
          have hxv := ho _ _ hx
          generalize hv : ev Tc x = v at hxv
          cases hxv
          refine fin_pure (v := .pointer (some ⟨b, j.toNat * sz' + 0, none⟩)) (.oe (by rw [hβ]; rfl)) ?_
          have := p_indexAddr (P := P) hop hu h2 h3 (hv.trans hβ) (fz_val (ho _ _ hi)) hj0 hj1
          rw [Nat.zero_add] at this
          exact this
        · cases e
      · cases e
    · cases e
  | ixa t x i ty sz n =>
    simp only [pv] at e
    simp only [K.side, Bool.and_eq_true, beq_iff_eq] at hs
    obtain ⟨⟨h1, h2⟩, h3⟩ := hs
    have hu := isArr_spec h1
    split at e
    · rename_i cs k j hx hi
      cases e
      obtain ⟨⟨hj0, hj1⟩, hl⟩ := hob
      obtain ⟨b, o1, full, ty', fz, hv, hb, hsz, hr⟩ := frep_fp (fz_fz (ho _ _ hx))
      refine fin_pure (.fz ?_) (p_indexAddrA hop hu h2 h3 hv (fz_val (ho _ _ hi)) hj0 hj1)
      refine .fp hb ?_ (sub_fp hsz hr)
      have hjn : j.toNat < n := by omega
      have : (j.toNat + 1) * sz ≤ n * sz := Nat.mul_le_mul_right _ hjn
      rw [Nat.succ_mul] at this
      simp; omega
    · rename_i id sz' i' p k j hx hi
      cases e
      obtain ⟨hj0, hj1⟩ := hob
      have h4 := ho _ _ hx
      generalize hv : ev Tc x = v at h4
      cases h4 with
      | @oe _ _ _ _ b hb =>
        refine fin_pure (v := .pointer (some ⟨b, i' * sz' + (p + j.toNat * sz), none⟩)) (.oe hb) ?_
        rw [← Nat.add_assoc]
        exact p_indexAddrA hop hu h2 h3 hv (fz_val (ho _ _ hi)) hj0 hj1
    · cases e
  | ld t x =>
    simp only [pv] at e
    split at e
    · rename_i cs hx
      split at e
      · rename_i c rest
        cases e
        obtain ⟨b, o1, full, ty', fz, hv, hb, hsz, hr⟩ := frep_fp (fz_fz (ho _ _ hx))
        have hlt : o1 < full.size := by simp at hsz; omega
        refine fin_read (v := full[o1]) (.fz (hr 0 c _ rfl (by rw [Nat.add_zero]; exact Array.getElem?_eq_getElem hlt))) (by rw [hop]; rfl) (fun g hg _ => r_ld1 hop hs hv (hg _ _ hb) (Array.getElem?_eq_getElem hlt))
      · cases e
    · rename_i id sz i p hx
      have h4 := ho _ _ hx
      generalize hv : ev Tc x = v at h4
      cases h4 with
      | @oe _ _ _ _ b hb =>
        split at e
        · rename_i t' cells hσ
          split at e
          · rename_i hi0
            split at e
            · rename_i c rest hc
              cases e
              have ok := s.ok.ok _ (lookS_mem hσ)
              obtain ⟨b', vs, hβ, hh, hl, hr⟩ := ok
              have hbb : b' = b := by simp only [hβ, baseOf, Option.some.injEq] at hb; exact hb
              subst hbb
              have hcc := getElem?_drop_cons hc
              have hlt : p < vs.length := by rw [hl]; exact (List.getElem?_eq_some_iff.1 hcc).1
              refine fin_read (v := vs[p]) (hr p c _ hcc (List.getElem?_eq_getElem hlt)) (by rw [hop]; rfl) (fun g hg hrd => ?_)
              have hgb : g b' = some (.cells vs.toArray t' (0, 0)) := (hrd id b' rfl hb).trans hh
              subst hi0
              exact r_ld1 hop hs hv hgb (by simp [List.getElem?_eq_getElem hlt])
            · cases e
          · cases e
        · rename_i t' sz' rows hσ
          split at e
          · rename_i hsz
            subst hsz
            cases e
            obtain ⟨hi, hp⟩ := hob
            obtain ⟨b', n, c, full, hβ, hh, hcap, hlen, hr⟩ := rows_at (s.ok.ok _ (lookS_mem hσ)) hi
            have hbb : b' = b := by simp only [hβ, baseOf, Option.some.injEq] at hb; exact hb
            subst hbb
            have hlt : i * sz' + p < full.size := by
              have : (i + 1) * sz' ≤ rows.length * sz' := Nat.mul_le_mul_right _ hi
              rw [Nat.succ_mul] at this; omega
            refine fin_read (v := full[i * sz' + p]) (.fz ?_) (by rw [hop]; rfl) (fun g hg hrd => ?_)
            · refine hr p _ _ ?_ (Array.getElem?_eq_getElem hlt)
              rw [List.getD_eq_getElem?_getD (l := rows.getD i []), List.getElem?_eq_getElem (by omega)]; rfl
            · have hgb : g b' = some (.cells full t' (0, 0)) := (hrd id b' rfl hb).trans hh
              exact r_ld1 hop hs hv hgb (Array.getElem?_eq_getElem hlt)
          · cases e
        · cases e
    · cases e
  | ldN t x n =>
    simp only [pv] at e
    simp only [K.side, Bool.and_eq_true, beq_iff_eq] at hs
    have hn := hs.2
    split at e
    · rename_i cs hx
      cases e
      have hob' : n ≤ cs.length := hob
      obtain ⟨b, o1, full, ty', fz, hv, hb, hsz, hr⟩ := frep_fp (fz_fz (ho _ _ hx))
      have h1 := FReps.of_fp hsz hob' hr
      refine fin_read (v := .agg (full.extract o1 (o1 + n))) (.fz ?_) (by rw [hop]; rfl) (fun g hg _ => r_ldN hop hs.1 hv (hg _ _ hb) hn (by omega))
      have h2 := FRep.agg h1.1 h1.2
      rwa [Array.toArray_toList] at h2
    · rename_i id sz i p hx
      have h4 := ho _ _ hx
      generalize hv : ev Tc x = v at h4
      cases h4 with
      | @oe _ _ _ _ b hb =>
        split at e
        · rename_i t' cells hσ
          split at e
          · rename_i hi0
            subst hi0
            split at e
            · rename_i cs hc
              cases e
              have hob' : p + n ≤ cells.length := hob
              obtain ⟨b', vs, hβ, hh, hl, hr⟩ := s.ok.ok _ (lookS_mem hσ)
              have hbb : b' = b := by simp only [hβ, baseOf, Option.some.injEq] at hb; exact hb
              subst hbb
              have hcs := unfz_eq hc
              have h1 : FReps hF cs ((vs.drop p).take n) := by
                refine AReps.unfz (β := β) ?_
                rw [← hcs]
                exact ⟨by simp [hl], fun j c v a b => by
                  rw [List.getElem?_take] at a b
                  split at a
                  · rename_i hj
                    rw [if_pos hj] at b
                    rw [List.getElem?_drop] at a b
                    exact hr _ c v a b
                  · cases a⟩
              refine fin_read (v := .agg ((vs.drop p).take n).toArray) (.fz (.agg h1.1 h1.2)) (by rw [hop]; rfl) (fun g hg hrd => ?_)
              have hgb : g b' = some (.cells vs.toArray t' (0, 0)) := (hrd id b' rfl hb).trans hh
              have h5 := r_ldN (P := P) hop hs.1 hv hgb hn (by simp; omega)
              have h6 : vs.toArray.extract (0 * sz + p) (0 * sz + p + n) = ((vs.drop p).take n).toArray := by simp
              rwa [h6] at h5
            · cases e
          · cases e
        · rename_i t' sz' rows hσ
          split at e
          · rename_i hsz
            obtain ⟨hsz, hp0, hnz⟩ := hsz
            subst hsz
            subst hp0
            subst hnz
            cases e
            have hi : i < rows.length := hob
            obtain ⟨b', n', c, full, hβ, hh, hcap, hlen, hr⟩ := rows_at (s.ok.ok _ (lookS_mem hσ)) hi
            have hbb : b' = b := by simp only [hβ, baseOf, Option.some.injEq] at hb; exact hb
            subst hbb
            have hle : i * n + n ≤ full.size := by
              have : (i + 1) * n ≤ rows.length * n := Nat.mul_le_mul_right _ hi
              rw [Nat.succ_mul] at this; omega
            have h1 : FReps hF (rows.getD i []) (full.extract (i * n) (i * n + n)).toList :=
              ⟨by rw [hlen]; simp; omega, fun j c v a b => by
                have hj : j < n := by have := (List.getElem?_eq_some_iff.1 a).1; rwa [hlen] at this
                rw [Array.getElem?_toList, Array.getElem?_extract_of_lt (by omega)] at b
                exact hr j c v a (by rw [Array.getElem?_eq_getElem (by omega)]; exact b)⟩
            refine fin_read (v := .agg (full.extract (i * n) (i * n + n))) (.fz ?_) (by rw [hop]; rfl) (fun g hg hrd => ?_)
            · have h2 := FRep.agg h1.1 h1.2
              rwa [Array.toArray_toList] at h2
            · have hgb : g b' = some (.cells full t' (0, 0)) := (hrd id b' rfl hb).trans hh
              exact r_ldN hop hs.1 hv hgb hn (by omega)
          · cases e
        · cases e
    · cases e
  | len t x ty =>
    simp only [pv] at e
    have hu := isSl_spec hs
    split at e
    · rename_i y hx
      split at e
      case h_2 => cases e
      rename_i n f hy
      cases e
      have hxv := fz_fz (ho _ _ hx)
      unfold asSl at hy
      split at hy
      case h_3 => cases hy
      case h_2 =>
        cases hy
        exact fin_read (.fz (.val _)) (by rw [hop]; rfl) (fun g _ _ => r_len_slice hop hu (fz_val (ho _ _ hx)))
      cases hy
      generalize hv : ev Tc x = v at hxv
      cases hxv with
      | sl0 f a c => exact fin_read (.fz (.val _)) (by rw [hop]; rfl) (fun g _ _ => r_len_slice hop hu hv)
      | sl hb hnc hsz h1' hs' hr => exact fin_read (.fz (.val _)) (by rw [hop]; rfl) (fun g _ _ => r_len_slice hop hu hv)
    · rename_i id hx
      split at e
      · rename_i t' sz' rows hσ
        cases e
        obtain ⟨vs, own, _⟩ := s.ok.ok _ (lookS_mem hσ)
        have h4 := ho _ _ hx
        generalize hv : ev Tc x = v at h4
        cases h4
        simp only at own
        generalize hn : rows.length = n at own
        generalize hβ : β id = v at own hv
        refine fin_read (.fz (.val _)) (by rw [hop]; rfl) (fun g _ _ => ?_)
        cases own with
        | nil => exact r_len_slice hop hu hv
        | at_ => exact r_len_slice hop hu hv
      · cases e
    · cases e
  | lens t x =>
    simp only [pv] at e
    split at e
    · rename_i s' hx
      cases e
      exact fin_read (.fz (.val _)) (by rw [hop]; rfl) (fun g _ _ => r_len_string hop (isStr_spec hs) (fz_val (ho _ _ hx)))
    · cases e
  | cmin x y t =>
    simp only [pv] at e
    split at e
    · rename_i k a k' b hx hy
      split at e
      · rename_i hk
        subst hk
        cases e
        exact fin_read (.fz (.val _)) (by rw [hop]; rfl) (fun g _ _ => r_min2 hop (fz_val (ho _ _ hx)) (fz_val (ho _ _ hy)))
      · cases e
    · cases e
  | cmax x y t =>
    simp only [pv] at e
    split at e
    · rename_i k a k' b hx hy
      split at e
      · rename_i hk
        subst hk
        cases e
        exact fin_read (.fz (.val _)) (by rw [hop]; rfl) (fun g _ _ => r_max2 hop (fz_val (ho _ _ hx)) (fz_val (ho _ _ hy)))
      · cases e
    · cases e
  | bld t parts pl z =>
    simp only [pv] at e
    simp only [K.side, Bool.and_eq_true, beq_iff_eq] at hs
    split at e
    · rename_i ps hps
      split at e
      · rename_i cs hcs
        cases e
        obtain ⟨h1, h2⟩ := ofzp_ok ho hps
        have hz : FReps hF (z.map .val) z := ⟨by simp, fun j c v a b => by rw [List.getElem?_map, b] at a; cases a; exact .val v⟩
        obtain ⟨us, h3, h4⟩ := fill_ok (vs := parts.map fun p => (p.1, ev Tc p.2)) hz (by rw [← h1, List.map_map]; rfl) (by rw [List.map_map]; exact h2) hcs
        exact fin_pure (.fz (.agg h4.1 h4.2)) (p_buildL hop (by simp) hs.1 (zeroIs_eq hs.2) h3)
      · cases e
    · cases e
  | sli t x lo hi ty sz =>
    simp only [pv] at e
    simp only [K.side, Bool.and_eq_true, beq_iff_eq] at hs
    obtain ⟨⟨h1, h2⟩, h3⟩ := hs
    have hu := isSl_spec h1
    split at e
    · rename_i y hx
      split at e
      · rename_i n f hy
        split at e
        · rename_i l k hlo hhi
          cases e
          obtain ⟨⟨h0l, hlk, hkn⟩, hsz'⟩ := hob
          have bl := bnd_ok ho hlo
          have bk := bnd_ok ho hhi
          obtain ⟨l, rfl⟩ := Int.eq_ofNat_of_zero_le h0l
          obtain ⟨k, rfl⟩ := Int.eq_ofNat_of_zero_le (Int.le_trans h0l hlk)
          have hlk' : l ≤ k := Int.ofNat_le.1 hlk
          have hkn' : k ≤ n := Int.ofNat_le.1 hkn
          have hxv := fz_fz (ho _ _ hx)
          have e1 : ((k : Int) - (l : Int)).toNat = k - l := by omega
          unfold asSl at hy
          split at hy
          case h_3 => cases hy
          case h_2 =>
            cases hy
            have hk0 : k = 0 := by omega
            have hl0 : l = 0 := by omega
            subst hk0
            subst hl0
            have hv := fz_val (ho _ _ hx)
            refine fin_pure (.fz ?_) (p_slice hop hu h3 h2 hv (Nat.le_refl _) bl bk hlk' (Nat.le_refl _))
            exact .sl0 _ _ _
          cases hy
          generalize hv : ev Tc x = v at hxv
          cases hxv with
          | sl0 f a c =>
            have hk0 : k = 0 := by omega
            have hl0 : l = 0 := by omega
            subst hk0
            subst hl0
            refine fin_pure (.fz ?_) (p_slice hop hu h3 h2 hv (Nat.zero_le _) bl bk hlk' (Nat.le_refl _))
            exact .sl0 _ _ _
          | @sl n f b off c sz' full e' fz hb hnc hsz h1' hs' hr =>
            refine fin_pure (.fz ?_) (p_slice hop hu h3 h2 hv hnc bl bk hlk' hkn')
            rw [e1]
            simp only [Int.toNat_natCast]
            by_cases hkl : k = l
            · subst hkl; rw [Nat.sub_self]; exact .sl0 _ _ _
            · have hss : sz' = sz := by rw [← hsz 0 (by omega)]; exact hsz' 0 (by omega)
              subst hss
              have hcl : c ≠ l := by omega
              rw [if_neg hcl]
              have ha : (Addr.mk b off none).add (l * sz') = ⟨b, off + l * sz', none⟩ := by unfold Addr.add; split <;> simp_all
              simp only [Option.map_some, ha]
              have hm : (l + (k - l)) * sz' ≤ n * sz' := Nat.mul_le_mul_right _ (by omega)
              refine .sl hb (by omega) (fun i hi => hsz _ (by omega)) (fun i hi => h1' _ (by omega)) (by rw [Nat.add_mul] at hm; omega) (fun i j cc u hi e1 e2 => hr (l + i) j cc u (by omega) e1 ?_)
              rw [← e2, Nat.add_mul]; congr 1; omega
        · cases e
      · cases e
    · cases e
  | ext x i =>
    simp only [pv] at e
    split at e
    · rename_i cs hx
      split at e
      · rename_i c rest hc
        cases e
        obtain ⟨vs, hv, hl, hr⟩ := frep_tup (fz_fz (ho _ _ hx))
        have hcc := getElem?_drop_cons hc
        have hlt : i < vs.length := by rw [hl]; exact (List.getElem?_eq_some_iff.1 hcc).1
        refine fin_pure (.fz (hr i c _ hcc (List.getElem?_eq_getElem hlt))) (p_val ?_)
        rw [hop]
        simp only [K.op, pval, ev] at hv ⊢
        rw [hv]; simp [List.getElem?_eq_getElem hlt]
      · cases e
    · cases e
  | mkf f a b =>
    simp only [pv] at e
    split at e
    · rename_i xs ys h1 h2
      cases e
      have r1 := ofzs_ok ho h1
      have r2 := ofzs_ok ho h2
      refine fin_pure (.fz (.fn r1.1 r2.1 r1.2 r2.2)) (p_val ?_)
      rw [hop]
      simp [K.op, pval]
    · cases e
  | mki t x =>
    simp only [pv] at e
    split at e
    · rename_i y hx
      cases e
      refine fin_pure (.fz (.ifc (fz_fz (ho _ _ hx)))) (p_val ?_)
      rw [hop]
      simp only [K.side] at hs
      simp only [K.op, pval]
      split at hs
      · cases hs
      · cases hs
      · rename_i h1 h2
        cases hu : P.underlying t with
        | none => exact absurd hu h2
        | some d => cases d <;> first | rfl | exact absurd hu (h1 _)
    · cases e
  | _ => simp only [pv, reduceCtorEq] at e
end
end Go.Proofs.Ytielfejpnkcjbaa.Ab

/- Literals of lists of several. -/
set_option linter.unusedVariables false
set_option linter.unusedSimpArgs false
namespace Go.Proofs.Ytielfejpnkcjbaa.Sl
theorem fill_seq : ∀ (vs pre post : List Value), post.length = vs.length → (∀ v ∈ vs, v.cells = #[v]) → Instr.fill (fun j => some (j * 1, 1)) (pre ++ post).toArray ((vs.zipIdx pre.length).map fun x => (x.2, x.1)) = some (pre ++ vs).toArray
  | [], pre, post, hl, _ => by
    have : post = [] := List.eq_nil_of_length_eq_zero hl
    subst this
    simp [Instr.fill]
  | v :: vs, pre, [], hl, _ => by simp at hl
  | v :: vs, pre, p :: post, hl, hv => by
    have hv0 := hv v (by simp)
    rw [List.zipIdx_cons, List.map_cons]
    unfold Instr.fill
    simp only
    have h2 : (decide (v.cells.size ≠ 1) || decide (pre.length * 1 + v.cells.size > (pre ++ p :: post).toArray.size)) = false := by
      rw [hv0]; simp only [Bool.or_eq_false_iff, decide_eq_false_iff_not, List.size_toArray, List.length_append, List.length_cons]
      refine ⟨by simp, ?_⟩
      show ¬ (pre.length * 1 + 1 > _); omega
    rw [h2]
    simp only [Bool.false_eq_true, if_false]
    rw [fill_at (by rw [hv0]; simp), hv0]
    have h3 : ((pre ++ p :: post).toArray.toList.take (pre.length * 1) ++ (#[v] : Array Value).toList ++ (pre ++ p :: post).toArray.toList.drop (pre.length * 1 + (#[v] : Array Value).size)) = (pre ++ [v]) ++ post := by
      rw [Nat.mul_one]
      have h4 : (pre ++ p :: post).drop (pre.length + 1) = post := by
        rw [← List.drop_drop, List.drop_left]; rfl
      show (pre ++ p :: post).take pre.length ++ [v] ++ (pre ++ p :: post).drop (pre.length + 1) = _
      rw [List.take_left, h4]
    rw [h3]
    have ih := fill_seq vs (pre ++ [v]) post (by simpa using hl) (fun u hu => hv u (by simp [hu]))
    simp only [List.length_append, List.length_cons, List.length_nil, Nat.zero_add] at ih
    rw [ih]; simp
theorem a_buildSliceN {P : Program} {o : Oper} {ρ : Operand → Value} {t e n : Nat} {parts : Array (Nat × Operand)} {vs : List Value} (ho : o.op = .buildSlice t n parts) (hu : P.underlying t = some (.slice e)) (hi : infoOk P e 1 = true)
    (hv : (parts.map fun (i, x) => (i, ρ x)).toList = (vs.zipIdx 0).map fun x => (x.2, x.1)) (hn : vs.length = n) (hone : ∀ v ∈ vs, v.cells = #[v]) (h0 : 0 < n) (h1 : n ≤ 1000) : AllocOp P o ρ (.cells vs.toArray e) (fun b => .slice (some ⟨b, 0, none⟩) n n) := by
  obtain ⟨i, z, hi, hz, hs, hz1, hb⟩ := infoOk_spec hi
  have hcell : P.cellsOf e = 1 := by simp [Program.cellsOf, hi, hs]
  refine a_buildSlice (cells := vs.toArray) ho hu ?_ (by rw [hcell]; omega) (by rw [hcell]; omega)
  unfold sliceLit
  simp only [hi, hz, hs]
  rw [hv]
  have := fill_seq vs [] ((Array.range (n * 1)).map (fun j => z.cells[j % z.cells.size]!)).toList (by simp [hn]) hone
  simp only [List.nil_append, Array.toArray_toList, List.length_nil] at this
  exact this
end Go.Proofs.Ytielfejpnkcjbaa.Sl

/- What acts: new cells, stores, appends, slices made: how the objects turn. -/
set_option linter.unusedVariables false
set_option linter.unusedSimpArgs false
namespace Go.Proofs.Ytielfejpnkcjbaa.Ab
open Go.Proofs.Ytielfejpnkcjbaa.Sl
def nmNe (d : Nat) : AV → Bool
  | .os id => !(id == d)
  | .oe id _ _ _ => !(id == d)
  | _ => true
theorem nmNe_spec {d : Nat} {a : AV} (h : nmNe d a = true) : a.nm ≠ some d := by
  cases a <;> simp [nmNe, AV.nm] at h ⊢ <;> exact h
def nmT (d : Nat) : AT → Bool
  | [] => true
  | e :: r => nmNe d e.2 && nmT d r
def nmL (d : Nat) : AL → Bool
  | [] => true
  | e :: r => nmNe d e.2.2 && nmL d r
def nmC (d : Nat) : List AV → Bool
  | [] => true
  | e :: r => nmNe d e && nmC d r
def nmS (d : Nat) : AS → Bool
  | [] => true
  | e :: r => !(e.1 == d) && nmC d e.2.cells && nmS d r
theorem nmT_spec {d : Nat} : ∀ {T : AT}, nmT d T = true → ∀ e ∈ T, e.2.nm ≠ some d
  | [], _, e, he => by cases he
  | x :: r, h, e, he => by
    simp only [nmT, Bool.and_eq_true] at h
    rcases List.mem_cons.1 he with rfl | he
    · exact nmNe_spec h.1
    · exact nmT_spec h.2 e he
theorem nmL_spec {d : Nat} : ∀ {T : AL}, nmL d T = true → ∀ e ∈ T, e.2.2.nm ≠ some d
  | [], _, e, he => by cases he
  | x :: r, h, e, he => by
    simp only [nmL, Bool.and_eq_true] at h
    rcases List.mem_cons.1 he with rfl | he
    · exact nmNe_spec h.1
    · exact nmL_spec h.2 e he
theorem nmC_spec {d : Nat} : ∀ {T : List AV}, nmC d T = true → ∀ e ∈ T, e.nm ≠ some d
  | [], _, e, he => by cases he
  | x :: r, h, e, he => by
    simp only [nmC, Bool.and_eq_true] at h
    rcases List.mem_cons.1 he with rfl | he
    · exact nmNe_spec h.1
    · exact nmC_spec h.2 e he
theorem nmS_spec {d : Nat} : ∀ {T : AS}, nmS d T = true → ∀ e ∈ T, e.1 ≠ d ∧ ∀ c ∈ e.2.cells, c.nm ≠ some d
  | [], _, e, he => by cases he
  | x :: r, h, e, he => by
    simp only [nmS, Bool.and_eq_true] at h
    rcases List.mem_cons.1 he with rfl | he
    · exact ⟨by simpa using h.1.1, nmC_spec h.1.2⟩
    · exact nmS_spec h.2 e he
def okNew (d : Nat) (T : AT) (L : AL) (σ : AS) : Bool := nmT d T && nmL d L && nmS d σ && decide (d < 1000)
def setS : AS → Nat → OO → AS
  | [], _, _ => []
  | e :: r, id, x => if e.1 = id then (id, x) :: r else e :: setS r id x
/-- What was known of an object by name is known no more. -/
def pA (id : Nat) : AV → AV
  | .os j => if j = id then .hid else .os j
  | .oe j sz i p => if j = id then .hid else .oe j sz i p
  | a => a
def pT (id : Nat) : AT → AT
  | [] => []
  | e :: r => (e.1, pA id e.2) :: pT id r
def pL (id : Nat) : AL → AL
  | [] => []
  | e :: r => (e.1, e.2.1, pA id e.2.2) :: pL id r
def pC (id : Nat) : List AV → List AV
  | [] => []
  | a :: r => pA id a :: pC id r
def pO (id : Nat) : OO → OO
  | .box t cs => .box t (pC id cs)
  | x => x
def pS (id : Nat) : AS → AS
  | [] => []
  | e :: r => (e.1, pO id e.2) :: pS id r
def rowsOf (n : Nat) (f : Nat → List FV) : List (List FV) := (List.range n).map f
def srcRows (σ : AS) (sz : Nat) : Option AV → Option (Prop × List (List FV))
  | some (.fz y) => match asSl y with
    | some (n, f) => some (∀ i, i < n → (f i).length = sz, rowsOf n f)
    | none => none
  | some (.os id) => match lookS σ id with
    | some (.rows _ sz' rows) => if sz' = sz then some (True, rows) else none
    | _ => none
  | _ => none
def row1 : AV → Option (List FV)
  | .fz y => some y.cells
  | _ => none
def rowsP (o : Operand → Option AV) : List (Nat × Operand) → Option (List (List FV))
  | [] => some []
  | (_, x) :: r => match o x with
    | some (.fz y) => match rowsP o r with
      | some ys => some (y.cells :: ys)
      | none => none
    | _ => none
structure RA where
  ob : Prop
  v : AV
  σ : AS
  md : Option Nat
  nw : Option Nat
  pg : Option Nat
def pa (T : AT) (L : AL) (σ : AS) (o : Operand → Option AV) (d : Option Nat) : K → Option RA
  | .box t x z => match o x, d with
    | some (.fz y), some d => if z then some ⟨True, .fz (.fp y.cells), σ, none, none, none⟩
      else if okNew d T L σ then some ⟨True, .oe d y.cells.length 0 0, (d, .box t (y.cells.map .fz)) :: σ, none, some d, none⟩ else none
    | some (.os id), some d => match lookS σ id with
      | some (.rows _ _ _) => if okNew d T L σ then some ⟨True, .oe d 1 0 0, (d, .box t [.os id]) :: σ, none, some d, none⟩ else none
      | _ => none
    | some (.oe id sz i p), some d => if okNew d T L σ then some ⟨True, .oe d 1 0 0, (d, .box t [.oe id sz i p]) :: σ, none, some d, none⟩ else none
    | _, _ => none
  | .alc t zs z => match d with
    | some d => if z then some ⟨True, .fz (.fp (zs.map .val)), σ, none, none, none⟩
      else if okNew d T L σ then some ⟨True, .oe d zs.length 0 0, (d, .box t (zs.map fun v => .fz (.val v))) :: σ, none, some d, none⟩ else none
    | none => none
  | .st _ x y => match o x, o y with
    | some (.oe id sz i p), some a => match lookS σ id with
      | some (.box t cells) => match a with
        | .fz y => if i = 0 then some ⟨p < cells.length ∧ y.one = true, .hid, setS σ id (.box t (cells.set p (.fz y))), some id, none, none⟩ else none
        | .hid => none
        | .os j => match lookS σ j with
          | some (.rows _ _ _) => if i = 0 then some ⟨p < cells.length, .hid, setS σ id (.box t (cells.set p (.os j))), some id, none, none⟩ else none
          | _ => none
        | .oe a b c e => if i = 0 then some ⟨p < cells.length, .hid, setS σ id (.box t (cells.set p (.oe a b c e))), some id, none, none⟩ else none
      | some (.rows t sz' rows) => match a with
        | .fz y => if sz' = sz then some ⟨(i < rows.length ∧ p < sz) ∧ y.one = true, .hid, setS σ id (.rows t sz (rows.set i ((rows.getD i []).set p y))), some id, none, none⟩ else none
        | _ => none
      | _ => none
    | _, _ => none
  | .stN _ x y n => match o x, o y with
    | some (.oe id sz i p), some (.fz (.agg cs)) => match lookS σ id with
      | some (.box t cells) => if i = 0 then some ⟨(p + n ≤ cells.length ∧ cs.length = n) ∧ cs.all FV.one = true, .hid, setS σ id (.box t (cells.take p ++ cs.map .fz ++ cells.drop (p + n))), some id, none, none⟩ else none
      | some (.rows t sz' rows) => if sz' = sz ∧ p = 0 ∧ n = sz then some ⟨(i < rows.length ∧ cs.length = n) ∧ cs.all FV.one = true, .hid, setS σ id (.rows t sz (rows.set i cs)), some id, none, none⟩ else none
      | _ => none
    | _, _ => none
  | .app _ _ x y e _ sz => match o x, srcRows σ sz (o y), d with
    | some (.fz (.val (.slice none 0 0))), some (q, news), some d => if okNew d T L σ then some ⟨(q ∧ news.length ≤ 34359738368) ∧ ∀ r ∈ news, r.all FV.one = true, .os d, (d, .rows e sz news) :: σ, none, some d, none⟩ else none
    | some (.os id), some (q, news), some _ => match lookS σ id with
      | some (.rows t sz' rows) => if (t = e ∧ sz' = sz) ∧ id < 1000 then some ⟨(q ∧ rows.length + news.length ≤ 34359738368) ∧ ∀ r ∈ news, r.all FV.one = true, .os id, setS (pS id σ) id (.rows e sz (rows ++ news)), some id, none, some id⟩ else none
      | _ => none
    | _, _, _ => none
  | .bsl _ n parts e sz z => match rowsP o parts, d with
    | some rows, some d => if z then some ⟨(∀ r ∈ rows, r.length = sz) ∧ ∀ r ∈ rows, r.all FV.one = true, .fz (slL rows), σ, none, none, none⟩
      else if okNew d T L σ then some ⟨(∀ r ∈ rows, r.length = sz) ∧ ∀ r ∈ rows, r.all FV.one = true, .os d, (d, .rows e sz rows) :: σ, none, some d, none⟩ else none
    | _, _ => none
  | .mks _ x y e sz zs => match o x, o y, d with
    | some (.fz (.val (.int _ l))), some (.fz (.val (.int _ c))), some d => if okNew d T L σ then some ⟨0 ≤ l ∧ l ≤ c ∧ c ≤ 1000000, .os d, (d, .rows e sz (List.replicate l.toNat (zs.map .val))) :: σ, none, some d, none⟩ else none
    | _, _, _ => none
  | _ => none
end Go.Proofs.Ytielfejpnkcjbaa.Ab

/- What acts: that the operations turn the objects just so. -/
set_option linter.unusedVariables false
set_option linter.unusedSimpArgs false
namespace Go.Proofs.Ytielfejpnkcjbaa.Ab
open Go.Proofs.Ytielfejpnkcjbaa.Sl
section
variable {P : Program} {h0 : Gd} {β β' : Nat → Value} {hF hF' h h' : Heap} {Tc : Tm} {T : AT} {L : AL} {σ : AS} {o : Oper}
theorem OOk.fr {id : Nat} {x : OO} (k : OOk β hF h id x) (l : hF.le hF') (e : ∀ b, fpOf (β id) x b → h' b = h b) (e1 : β' id = β id) (e2 : ∀ c ∈ x.cells, ∀ j, c.nm = some j → β' j = β j) : OOk β' hF' h' id x := by
  cases x with
  | box t cells =>
    obtain ⟨b, vs, h1, h2, h3⟩ := k
    exact ⟨b, vs, by rw [e1, h1], by rw [e b (by rw [h1]; rfl)]; exact h2, h3.to l e2⟩
  | ext D Φ =>
    obtain ⟨h1, h2, h3⟩ := k
    exact ⟨fun b hb => h1 b (by rw [← e1]; exact hb), fun b hb => by rw [e b hb]; exact h2 b hb, fun h'' he => by rw [e1]; exact h3 h'' fun b hb => (he b hb).trans (e b hb)⟩
  | rows t sz rows =>
    obtain ⟨vs, own, h2, h3, h4⟩ := k
    refine ⟨vs, ?_, h2, h3, h4.le l⟩
    rw [e1]
    generalize rows.length = n at own
    simp only [fpOf] at e
    generalize β id = v at own e
    cases own with
    | nil => exact .nil
    | at_ hb hl hnc hcap hc => exact .at_ (by rw [e _ rfl]; exact hb) hl hnc hcap hc
theorem OOk.blk {id : Nat} {x : OO} (k : OOk β hF h id x) {b : Nat} (e : fpOf (β id) x b) : ∃ ob, h b = some ob := by
  cases x with
  | ext D Φ =>
    cases e1 : h b with
    | none => exact absurd e1 (k.2.1 b e)
    | some ob => exact ⟨ob, rfl⟩
  | box t cells =>
    obtain ⟨b', vs, h1, h2, h3⟩ := k
    simp only [fpOf] at e
    rw [h1] at e; cases e; exact ⟨_, h2⟩
  | rows t sz rows =>
    obtain ⟨vs, own, _⟩ := k
    simp only [fpOf] at e
    generalize rows.length = n at own
    generalize β id = v at own e
    cases own with
    | nil => cases e
    | at_ hb => cases e; exact ⟨_, hb⟩
theorem OOk.fp {id : Nat} {x : OO} (k : OOk β hF h id x) {b : Nat} (e : baseOf (β id) = some b) : fpOf (β id) x b := by
  cases x with
  | ext D Φ => exact k.1 b e
  | _ => exact e
theorem Ok.fnone (k : Ok h0 β hF h σ) {b : Nat} (hb : h b = none) : hF b = none := by
  cases e : hF b with
  | none => rfl
  | some ob => rw [k.le b ob e] at hb; cases hb
theorem Ok.ne (k : Ok h0 β hF h σ) {b b' : Nat} (hb : h b = none) {e : Nat × OO} (he : e ∈ σ) (e1 : fpOf (β e.1) e.2 b') : b' ≠ b := fun e2 => by
  obtain ⟨ob, h1⟩ := (k.ok e he).blk e1
  rw [e2, hb] at h1; cases h1
theorem Ok.newF (k : Ok h0 β hF h σ) {b : Nat} (hb : h b = none) (ob : Obj) : Ok h0 β (hF.set b ob) (h.set b ob) σ ∧ hF.le (hF.set b ob) := by
  have hn := k.fnone hb
  have l := Heap.le_set ob hn
  refine ⟨⟨Heap.le_trans k.le0 l, ?_, fun e he => ?_, fun e he b' e1 => ?_, k.sep, k.fix, k.nd⟩, l⟩
  · intro q ob' e
    by_cases hq : q = b
    · subst hq; rw [Heap.set_same] at e ⊢; exact e
    · rw [Heap.set_other _ _ hq] at e ⊢; exact k.le q ob' e
  · exact (k.ok e he).fr l (fun b' e1 => Heap.set_other _ _ (k.ne hb he e1)) rfl (fun _ _ _ _ => rfl)
  · rw [Heap.set_other _ _ (k.ne hb he e1)]; exact k.out e he b' e1
theorem Ok.newO (k : Ok h0 β hF h σ) {d : Nat} (hd : nmS d σ = true) {v : Value} {x : OO} (same : ∀ b ob, h b = some ob → h' b = some ob) (hv : ∀ b, fpOf v x b → h b = none) (h1000 : d < 1000) (hx : OOk (upd β d v) hF h' d x) : Ok h0 (upd β d v) hF h' ((d, x) :: σ) := by
  have hd := nmS_spec hd
  have hu : ∀ j, j ≠ d → upd β d v j = β j := fun j e => by simp [upd, e]
  have hud : upd β d v d = v := by simp [upd]
  refine ⟨k.le0, fun q ob e => same q ob (k.le q ob e), fun e he => ?_, fun e he b e1 => ?_, fun e he e' he' b hne e1 => ?_, fun id hid => by rw [hu id (by omega)]; exact k.fix id hid, ?_⟩
  · rcases List.mem_cons.1 he with rfl | he
    · exact hx
    · refine (k.ok e he).fr (Heap.le_refl _) (fun b e1 => ?_) (hu _ (hd e he).1) (fun c hc j hj => hu _ fun e2 => (hd e he).2 c hc (by rw [← e2]; exact hj))
      obtain ⟨ob, h1⟩ := (k.ok e he).blk e1
      rw [h1, same b ob h1]
  · rcases List.mem_cons.1 he with rfl | he
    · simp only [hud] at e1; exact k.fnone (hv b e1)
    · rw [hu _ (hd e he).1] at e1; exact k.out e he b e1
  · rcases List.mem_cons.1 he with rfl | he <;> rcases List.mem_cons.1 he' with rfl | he'
    · exact absurd rfl hne
    · simp only [hud] at e1
      rw [hu _ (hd e' he').1]
      intro e2
      exact k.ne (hv b e1) he' e2 rfl
    · rw [hu _ (hd e he).1] at e1
      simp only [hud]
      intro e2
      exact k.ne (hv b e2) he e1 rfl
    · rw [hu _ (hd e he).1] at e1
      rw [hu _ (hd e' he').1]
      exact k.sep e he e' he' b hne e1
  · simp only [List.map_cons, List.nodup_cons]
    refine ⟨fun hm => ?_, k.nd⟩
    obtain ⟨e, he, e1⟩ := List.mem_map.1 hm
    exact (hd e he).1 e1
theorem setS_mem {id : Nat} {x : OO} : ∀ {σ : AS}, (σ.map (·.1)).Nodup → ∀ e ∈ setS σ id x, e = (id, x) ∨ (e ∈ σ ∧ e.1 ≠ id)
  | [], _, e, he => by cases he
  | a :: r, nd, e, he => by
    simp only [List.map_cons, List.nodup_cons] at nd
    unfold setS at he
    split at he
    · rename_i h1
      rcases List.mem_cons.1 he with rfl | he
      · exact .inl rfl
      · exact .inr ⟨List.mem_cons_of_mem _ he, fun e2 => nd.1 (by rw [h1, ← e2]; exact List.mem_map.2 ⟨e, he, rfl⟩)⟩
    · rename_i h1
      rcases List.mem_cons.1 he with rfl | he
      · exact .inr ⟨List.mem_cons_self, h1⟩
      · rcases setS_mem nd.2 e he with h2 | ⟨h2, h3⟩
        · exact .inl h2
        · exact .inr ⟨List.mem_cons_of_mem _ h2, h3⟩
theorem setS_keys {id : Nat} {x : OO} : ∀ (σ : AS), (setS σ id x).map (·.1) = σ.map (·.1)
  | [] => rfl
  | a :: r => by
    unfold setS
    split
    · rename_i h1; simp [h1]
    · simp [setS_keys r]
/-- Cells behind a pointer, or rows. -/
def plain : OO → Bool
  | .ext _ _ => false
  | _ => true
theorem plain_fp {x : OO} (h : plain x = true) (v : Value) (b : Nat) : fpOf v x b ↔ baseOf v = some b := by
  cases x with
  | ext D Φ => cases h
  | _ => exact Iff.rfl
theorem Ok.put (k : Ok h0 β hF h σ) {id : Nat} {x : OO} (hl : lookS σ id = some x) (px : plain x = true) {b : Nat} (hb : baseOf (β id) = some b) {ob : Obj} {x' : OO} (px' : plain x' = true) (hx : OOk β hF (h.set b ob) id x') : Ok h0 β hF (h.set b ob) (setS σ id x') := by
  have hm := lookS_mem hl
  have hbf := (plain_fp px (β id) b).2 hb
  have conv : ∀ b', fpOf (β id) x' b' → fpOf (β id) x b' := fun b' h => (plain_fp px _ _).2 ((plain_fp px' _ _).1 h)
  refine ⟨k.le0, fun q ob' e => ?_, fun e he => ?_, fun e he b' e1 => ?_, fun e he e' he' b' hne e1 => ?_, k.fix, by rw [setS_keys]; exact k.nd⟩
  · have : q ≠ b := fun e2 => by rw [e2, k.out _ hm b hbf] at e; cases e
    rw [Heap.set_other _ _ this]; exact k.le q ob' e
  · rcases setS_mem k.nd e he with rfl | ⟨he, hne⟩
    · exact hx
    · exact (k.ok e he).fr (Heap.le_refl _) (fun b' e1 => Heap.set_other _ _ fun e2 => k.sep e he _ hm b' hne e1 (by rw [e2]; exact hbf)) rfl (fun _ _ _ _ => rfl)
  · rcases setS_mem k.nd e he with rfl | ⟨he, hne⟩
    · exact k.out _ hm b' (conv _ e1)
    · exact k.out e he b' e1
  · rcases setS_mem k.nd e he with rfl | ⟨he, hn1⟩ <;> rcases setS_mem k.nd e' he' with rfl | ⟨he', hn2⟩
    · exact absurd rfl hne
    · exact k.sep _ hm e' he' b' (Ne.symm hn2) (conv _ e1)
    · exact fun h2 => k.sep e he _ hm b' hn1 e1 (conv _ h2)
    · exact k.sep e he e' he' b' hne e1
theorem pA_nm {id : Nat} {a : AV} {j : Nat} (h : (pA id a).nm = some j) : a.nm = some j ∧ j ≠ id := by
  cases a with
  | hid => cases h
  | fz x => cases h
  | os i =>
    simp only [pA] at h
    split at h
    · cases h
    · rename_i hne; simp only [AV.nm, Option.some.injEq] at h ⊢; subst h; exact ⟨rfl, hne⟩
  | oe i s a b =>
    simp only [pA] at h
    split at h
    · cases h
    · rename_i hne; simp only [AV.nm, Option.some.injEq] at h ⊢; subst h; exact ⟨rfl, hne⟩
theorem pA_rep {id : Nat} {a : AV} {v : Value} (r : ARep β hF a v) : ARep β hF (pA id a) v := by
  cases r with
  | hid v => exact .hid v
  | fz r => exact .fz r
  | os j => simp only [pA]; split
            · exact .hid _
            · exact .os j
  | oe hb => simp only [pA]; split
             · exact .hid _
             · exact .oe hb
theorem pC_eq (id : Nat) : ∀ cs : List AV, pC id cs = cs.map (pA id)
  | [] => rfl
  | a :: r => by simp [pC, pC_eq id r]
theorem pS_eq (id : Nat) : ∀ σ : AS, pS id σ = σ.map fun e => (e.1, pO id e.2)
  | [] => rfl
  | a :: r => by simp [pS, pS_eq id r]
theorem pT_eq (id : Nat) : ∀ σ : AT, pT id σ = σ.map fun e => (e.1, pA id e.2)
  | [] => rfl
  | a :: r => by simp [pT, pT_eq id r]
theorem pL_eq (id : Nat) : ∀ σ : AL, pL id σ = σ.map fun e => (e.1, e.2.1, pA id e.2.2)
  | [] => rfl
  | a :: r => by simp [pL, pL_eq id r]
theorem AReps.pC {id : Nat} {cs : List AV} {vs : List Value} (r : AReps β hF cs vs) : AReps β hF (pC id cs) vs := by
  rw [pC_eq]
  refine ⟨by simp [r.1], fun j c v a b => ?_⟩
  rw [List.getElem?_map] at a
  cases e : cs[j]? with
  | none => rw [e] at a; cases a
  | some x => rw [e] at a; cases a; exact pA_rep (r.2 j x v e b)
theorem OOk.pO {id j : Nat} {x : OO} (k : OOk β hF h j x) : OOk β hF h j (pO id x) := by
  cases x with
  | box t cells => obtain ⟨b, vs, h1, h2, h3⟩ := k; exact ⟨b, vs, h1, h2, h3.pC⟩
  | ext D Φ => exact k
  | rows t sz rows => exact k
theorem pO_nm {id : Nat} {x : OO} {c : AV} (hc : c ∈ (pO id x).cells) {j : Nat} (hj : c.nm = some j) : j ≠ id := by
  cases x with
  | box t cells =>
    simp only [Ab.pO, OO.cells, pC_eq, List.mem_map] at hc
    obtain ⟨a, _, rfl⟩ := hc
    exact (pA_nm hj).2
  | ext D Φ => cases hc
  | rows t sz rows => cases hc
theorem pO_fp (id : Nat) (x : OO) (v : Value) (b : Nat) : fpOf v (pO id x) b ↔ fpOf v x b := by cases x <;> exact Iff.rfl
/-- An object's slice is appended to: its value turns; its rows may lie elsewhere. -/
theorem Ok.app (k : Ok h0 β hF h σ) {id : Nat} {x : OO} (hl : lookS σ id = some x) (px : plain x = true) (h1000 : id < 1000) {v' : Value} (same : ∀ b ob, h b = some ob → baseOf (β id) ≠ some b → h' b = some ob) (hv : ∀ b, baseOf v' = some b → baseOf (β id) = some b ∨ h b = none) {x' : OO} (px' : plain x' = true) (hx : OOk (upd β id v') hF h' id x') :
    Ok h0 (upd β id v') hF h' (setS (pS id σ) id x') := by
  have hm := lookS_mem hl
  have hu : ∀ j, j ≠ id → upd β id v' j = β j := fun j e => by simp [upd, e]
  have hud : upd β id v' id = v' := by simp [upd]
  have hkeys : (pS id σ).map (·.1) = σ.map (·.1) := by rw [pS_eq, List.map_map]; rfl
  have hin : ∀ e ∈ setS (pS id σ) id x', e = (id, x') ∨ ∃ y, (e.1, y) ∈ σ ∧ e.2 = pO id y ∧ e.1 ≠ id := fun e he => by
    rcases setS_mem (by rw [hkeys]; exact k.nd) e he with h1 | ⟨h1, h2⟩
    · exact .inl h1
    · rw [pS_eq] at h1
      obtain ⟨y, hy, rfl⟩ := List.mem_map.1 h1
      exact .inr ⟨y.2, hy, rfl, h2⟩
  have fx : ∀ b, baseOf (β id) = some b → fpOf (β id) x b := fun b h => (plain_fp px _ _).2 h
  have fx' : ∀ b, fpOf v' x' b → baseOf v' = some b := fun b h => (plain_fp px' _ _).1 h
  refine ⟨k.le0, fun q ob e => same q ob (k.le q ob e) (fun e1 => by rw [k.out _ hm q (fx q e1)] at e; cases e), fun e he => ?_, fun e he b e1 => ?_, fun e he e' he' b hne e1 => ?_, fun j hj => by rw [hu j (by omega)]; exact k.fix j hj, by rw [setS_keys, hkeys]; exact k.nd⟩
  · rcases hin e he with rfl | ⟨y, hy, h2, hne⟩
    · exact hx
    · rw [h2]
      refine (OOk.pO (k.ok _ hy)).fr (Heap.le_refl _) (fun b e1 => ?_) (hu _ hne) (fun c hc j hj => hu _ (pO_nm hc hj))
      have e1 := (pO_fp id y _ b).1 e1
      obtain ⟨ob, h1⟩ := (k.ok _ hy).blk e1
      rw [h1, same b ob h1 fun e2 => k.sep _ hy _ hm b hne e1 (fx b e2)]
  · rcases hin e he with rfl | ⟨y, hy, h2, hne⟩
    · simp only [hud] at e1
      rcases hv b (fx' b e1) with h3 | h3
      · exact k.out _ hm b (fx b h3)
      · exact k.fnone h3
    · rw [hu _ hne, h2] at e1; exact k.out _ hy b ((pO_fp id y _ b).1 e1)
  · rcases hin e he with rfl | ⟨y, hy, h2, hn1⟩ <;> rcases hin e' he' with rfl | ⟨y', hy', h2', hn2⟩
    · exact absurd rfl hne
    · simp only [hud] at e1
      rw [hu _ hn2, h2']
      intro e2
      have e2 := (pO_fp id y' _ b).1 e2
      rcases hv b (fx' b e1) with h3 | h3
      · exact k.sep _ hm _ hy' b (Ne.symm hn2) (fx b h3) e2
      · exact k.ne h3 hy' e2 rfl
    · rw [hu _ hn1, h2] at e1
      have e1 := (pO_fp id y _ b).1 e1
      simp only [hud]
      intro e2
      rcases hv b (fx' b e2) with h3 | h3
      · exact k.sep _ hy _ hm b hn1 e1 (fx b h3)
      · exact k.ne h3 hy e1 rfl
    · rw [hu _ hn1, h2] at e1
      have e1 := (pO_fp id y _ b).1 e1
      rw [hu _ hn2, h2']
      exact fun e2 => k.sep _ hy _ hy' b hne e1 ((pO_fp id y' _ b).1 e2)
end
end Go.Proofs.Ytielfejpnkcjbaa.Ab

/- What acts: the theorem. -/
set_option linter.unusedVariables false
set_option linter.unusedSimpArgs false
namespace Go.Proofs.Ytielfejpnkcjbaa.Ab
open Go.Proofs.Ytielfejpnkcjbaa.Sl
/-! ### Literals of slices -/
theorem fill_seqG (sz : Nat) : ∀ (vs : List Value) (pre post : List Value) (k : Nat), pre.length = k * sz → post.length = vs.length * sz → (∀ v ∈ vs, v.cells.size = sz) →
    Instr.fill (fun j => some (j * sz, sz)) (pre ++ post).toArray ((vs.zipIdx k).map fun x => (x.2, x.1)) = some (pre ++ vs.flatMap (·.cells.toList)).toArray
  | [], pre, post, k, hk, hl, _ => by
    have : post = [] := List.eq_nil_of_length_eq_zero (by simpa using hl)
    subst this
    simp [Instr.fill]
  | v :: vs, pre, post, k, hk, hl, hv => by
    have hv0 := hv v (by simp)
    rw [List.zipIdx_cons, List.map_cons]
    unfold Instr.fill
    simp only
    rw [List.length_cons, Nat.succ_mul] at hl
    have h2 : (decide (v.cells.size ≠ sz) || decide (k * sz + v.cells.size > (pre ++ post).toArray.size)) = false := by
      rw [hv0]; simp only [Bool.or_eq_false_iff, decide_eq_false_iff_not, List.size_toArray, List.length_append]
      refine ⟨by simp, ?_⟩
      show ¬ (k * sz + sz > _); omega
    rw [h2]
    simp only [Bool.false_eq_true, if_false]
    rw [fill_at (by rw [hv0]; simp; omega)]
    have h3 : (pre ++ post).toArray.toList.take (k * sz) ++ v.cells.toList ++ (pre ++ post).toArray.toList.drop (k * sz + v.cells.size) = (pre ++ v.cells.toList) ++ post.drop sz := by
      show (pre ++ post).take (k * sz) ++ v.cells.toList ++ (pre ++ post).drop (k * sz + v.cells.size) = _
      rw [← hk, hv0, List.take_left, ← List.drop_drop, List.drop_left]
    rw [h3]
    have ih := fill_seqG sz vs (pre ++ v.cells.toList) (post.drop sz) (k + 1) (by rw [List.length_append, hk, Array.length_toList, hv0, Nat.succ_mul]) (by rw [List.length_drop]; omega) (fun u hu => hv u (by simp [hu]))
    rw [ih]; simp
theorem a_buildSliceG {P : Program} {o : Oper} {ρ : Operand → Value} {t e n sz : Nat} {parts : Array (Nat × Operand)} {vs : List Value} (ho : o.op = .buildSlice t n parts) (hu : P.underlying t = some (.slice e)) (hi : infoOk P e sz = true)
    (hv : (parts.map fun (i, x) => (i, ρ x)).toList = (vs.zipIdx 0).map fun x => (x.2, x.1)) (hn : vs.length = n) (hone : ∀ v ∈ vs, v.cells.size = sz) (h0 : 0 < n) (hs0 : 0 < sz) (h1 : n * sz ≤ 65536) : AllocOp P o ρ (.cells (vs.flatMap (·.cells.toList)).toArray e) (fun b => .slice (some ⟨b, 0, none⟩) n n) := by
  obtain ⟨i, z, hi, hz, hs, hz1, hb⟩ := infoOk_spec hi
  have hcell : P.cellsOf e = sz := by simp [Program.cellsOf, hi, hs]
  refine a_buildSlice (cells := (vs.flatMap (·.cells.toList)).toArray) ho hu ?_ (by rw [hcell]; omega) (by rw [hcell]; exact Nat.ne_of_gt (Nat.mul_pos h0 hs0))
  unfold sliceLit
  simp only [hi, hz, hs]
  rw [hv]
  have := fill_seqG sz vs [] ((Array.range (n * sz)).map (fun j => z.cells[j % z.cells.size]!)).toList 0 (by simp) (by simp [hn]) hone
  simp only [List.nil_append, Array.toArray_toList] at this
  exact this
theorem take_splice {α : Type} (A us : List α) (a N : Nat) (h1 : a + us.length ≤ N) (h2 : a ≤ A.length) : (A.take a ++ us ++ A.drop (a + us.length)).take N = (A.take N).take a ++ us ++ (A.take N).drop (a + us.length) := by
  have hx : (A.take a ++ us).length = a + us.length := by rw [List.length_append, List.length_take, Nat.min_eq_left h2]
  rw [List.take_append, List.take_of_length_le (by rw [hx]; exact h1), hx, List.take_take, Nat.min_eq_left (by omega), List.drop_take]
/-! ### An element of a slice of one's own is told anew -/
theorem own_splice {h : Heap} {e : TypeId} {sz n : Nat} {v : Value} {cs : List Value} (x : Own h e sz v n cs) {i p k : Nat} (hi : i < n) (hp : p + k ≤ sz) :
    ∃ b c full, v = .slice (some ⟨b, 0, none⟩) n c ∧ h b = some (.cells full e (0, 0)) ∧ i * sz + p + k ≤ full.size ∧
      ∀ us : List Value, us.length = k → Own (h.set b (.cells (splice full (i * sz + p) us) e (0, 0))) e sz v n (cs.take (i * sz + p) ++ us ++ cs.drop (i * sz + p + k)) := by
  cases x with
  | nil => omega
  | @at_ b n c full cs hb hl hnc hcap hc =>
    have h1 : (i + 1) * sz ≤ n * sz := Nat.mul_le_mul_right _ hi
    rw [Nat.succ_mul] at h1
    have h2 : n * sz ≤ c * sz := Nat.mul_le_mul_right _ hnc
    refine ⟨b, c, full, rfl, hb, by omega, fun us hus => .at_ (Heap.set_same _ _ _) ?_ hnc ?_ ?_⟩
    · simp [hl, hus]; omega
    · simp [splice, hus]; omega
    · subst hus
      rw [← hc]
      unfold splice
      exact take_splice full.toList us (i * sz + p) (n * sz) (by omega) (by rw [Array.length_toList]; omega)
theorem splice_one (cs : Array Value) (i : Nat) (v : Value) (h : i < cs.size) : splice cs i [v] = cs.setIfInBounds i v := by
  unfold splice
  apply Array.ext'
  simp only [Array.toList_setIfInBounds, List.length_singleton]
  rw [List.set_eq_take_append_cons_drop]
  simp [h]
theorem flat_set {α : Type} {sz : Nat} : ∀ {rows : List (List α)}, (∀ r ∈ rows, r.length = sz) → ∀ (i : Nat), i < rows.length → ∀ (r' : List α), r'.length = sz → (rows.set i r').flatten = rows.flatten.take (i * sz) ++ r' ++ rows.flatten.drop (i * sz + sz)
  | [], _, i, hi, _, _ => by simp at hi
  | r :: rows, h, 0, hi, r', hr => by
    have h1 := h r (by simp)
    rw [List.set_cons_zero, List.flatten_cons, List.flatten_cons, Nat.zero_mul, List.take_zero, List.nil_append, Nat.zero_add, ← h1, List.drop_left]
  | r :: rows, h, i + 1, hi, r', hr => by
    have h1 := h r (by simp)
    have ih := flat_set (rows := rows) (fun x hx => h x (by simp [hx])) i (by simpa using hi) r' hr
    rw [List.set_cons_succ, List.flatten_cons, ih, List.flatten_cons, Nat.succ_mul, show i * sz + sz = sz + i * sz by omega]
    have e1 : (r ++ rows.flatten).take (sz + i * sz) = r ++ rows.flatten.take (i * sz) := by rw [← h1, List.take_length_add_append]
    have e2 : (r ++ rows.flatten).drop (sz + i * sz + sz) = rows.flatten.drop (sz + i * sz) := by rw [show sz + i * sz + sz = r.length + (sz + i * sz) by omega, List.drop_length_add_append]
    rw [e1, e2]; simp only [List.append_assoc]
theorem set_eq_splice {α : Type} (l : List α) (p : Nat) (y : α) (h : p < l.length) : l.set p y = l.take p ++ [y] ++ l.drop (p + 1) := by
  rw [List.set_eq_take_append_cons_drop, if_pos h]; simp
def AcOk (h0 : Gd) (β : Nat → Value) (hF h : Heap) (σ : AS) (ra : RA) (v : Value) (h' : Heap) : Prop :=
  ∃ β' hF', Ok h0 β' hF' h' ra.σ ∧ hF.le hF' ∧ (∀ id, ra.nw ≠ some id → ra.pg ≠ some id → β' id = β id) ∧ ARep β' hF' ra.v v ∧ ∀ e ∈ σ, ra.md ≠ some e.1 → ∀ b, fpOf (β e.1) e.2 b → h' b = h b
section
variable {P : Program} {h0 : Gd} {β : Nat → Value} {hF h : Heap} {Tc : Tm} {T : AT} {L : AL} {σ : AS} {o : Oper} {ra : RA}
theorem opd_nm {d : Nat} {ch : List (Nat × Bool)} {x : Operand} {av : AV} (hn : okNew d T L σ = true) (e : opd L T ch x = some av) : av.nm ≠ some d := by
  simp only [okNew, Bool.and_eq_true] at hn
  replace hn := hn.1
  cases x with
  | tmp t =>
    simp only [opd] at e
    split at e
    · rename_i g y hy
      split at e
      · cases e
        unfold lookV at hy
        split at hy
        · rename_i z hz
          cases hy
          exact nmL_spec hn.1.2 _ (lookL_mem hz)
        · split at hy
          · rename_i z hz
            cases hy
            exact nmT_spec hn.1.1 _ (lookT_mem hz)
          · cases hy
      · cases e
    · cases e
  | const v => cases e; simp [AV.nm]
  | global g => cases e; simp [AV.nm]
  | func f => cases e; simp [AV.nm]
/-- New frozen cells. -/
theorem ac_new {obj : Obj} {vf : Nat → Value} {v : AV} (s : Ok h0 β hF h σ) (p : AllocOp P o (ev Tc) obj vf) (hv : ∀ b, h b = none → ARep β (hF.set b obj) v (vf b)) (hra : ra = ⟨ra.ob, v, σ, none, none, none⟩) : SOp P o (ev Tc) h (AcOk h0 β hF h σ ra) := by
  refine p.sop fun b hb => ?_
  obtain ⟨k, l⟩ := s.newF hb obj
  rw [hra]
  exact ⟨β, _, k, l, fun _ _ _ => rfl, hv b hb, fun e he _ b' e1 => Heap.set_other _ _ (s.ne hb he e1)⟩
/-- A new object. -/
theorem ac_obj {obj : Obj} {vf : Nat → Value} {v : AV} {d : Nat} {x : OO} (s : Ok h0 β hF h σ) (hd : okNew d T L σ = true) (p : AllocOp P o (ev Tc) obj vf) (px : plain x = true) (hb0 : ∀ b, baseOf (vf b) = some b) (hx : ∀ b, h b = none → OOk (upd β d (vf b)) hF (h.set b obj) d x) (hv : ∀ b, ARep (upd β d (vf b)) hF v (vf b))
    (hra : ra = ⟨ra.ob, v, (d, x) :: σ, none, some d, none⟩) : SOp P o (ev Tc) h (AcOk h0 β hF h σ ra) := by
  simp only [okNew, Bool.and_eq_true] at hd
  have h1000 : d < 1000 := of_decide_eq_true hd.2
  replace hd := hd.1
  refine p.sop fun b hb => ?_
  rw [hra]
  refine ⟨upd β d (vf b), hF, s.newO hd.2 (fun b' ob e => (Heap.set_old hb e)) (fun b' e => ?_) h1000 (hx b hb), Heap.le_refl _, fun id e _ => ?_, hv b, fun e he _ b' e1 => Heap.set_other _ _ (s.ne hb he e1)⟩
  · have e := (plain_fp px _ _).1 e
    rw [hb0 b] at e; cases e; exact hb
  · have : id ≠ d := fun e2 => e (by rw [e2])
    simp [upd, this]
theorem zeroIs_V {t : TypeId} {zs : List Value} (h : zeroIs P t zs = true) : ∃ z, zeroV P t = some z ∧ z.cells = zs.toArray := by
  have h1 := zeroIs_eq h
  unfold zeroOf at h1
  unfold zeroV
  cases hz : (P.info? t).bind (·.zero) with
  | none => rw [hz] at h1; cases h1
  | some z => rw [hz] at h1; simp only [Option.map_some, Option.some.injEq] at h1; exact ⟨z, rfl, h1⟩
end
end Go.Proofs.Ytielfejpnkcjbaa.Ab
