import Derived.Test.YtgjeojgfefdajaaGreatDoorWr6
/- An evaluator that the kernel can run: values and blocks by names of its own; how these stand to the model's. -/
set_option linter.unusedVariables false
set_option linter.unusedSimpArgs false
namespace Go.Proofs.YtgjeojgfefdajaaGreatDoor.Ce
open Go.Proofs.YtgjeojgfefdajaaGreatDoor.Sl
/-! ### 1. Names, tables by names -/
inductive Pos where
  | h | o (p : Pos) | i (p : Pos)
  deriving DecidableEq
noncomputable def Pos.succ (p : Pos) : Pos := Pos.rec (.o .h) (fun p _ => .i p) (fun _ ih => .o ih) p
def Pos.nat : Pos → Nat
  | .h => 1
  | .o p => 2 * p.nat
  | .i p => 2 * p.nat + 1
theorem Pos.pos : ∀ p : Pos, 0 < p.nat
  | .h => Nat.one_pos
  | .o p => by have := p.pos; simp only [Pos.nat]; omega
  | .i p => by simp only [Pos.nat]; omega
theorem Pos.nat_succ : ∀ p : Pos, p.succ.nat = p.nat + 1
  | .h => rfl
  | .o p => rfl
  | .i p => by
    show 2 * p.succ.nat = 2 * p.nat + 1 + 1
    rw [p.nat_succ]; omega
theorem Pos.nat_inj : ∀ {p q : Pos}, p.nat = q.nat → p = q
  | .h, .h, _ => rfl
  | .h, .o q, e => by have := q.pos; simp only [Pos.nat] at e; omega
  | .h, .i q, e => by have := q.pos; simp only [Pos.nat] at e; omega
  | .o p, .h, e => by have := p.pos; simp only [Pos.nat] at e; omega
  | .o p, .o q, e => by rw [Pos.nat_inj (p := p) (q := q) (by simp only [Pos.nat] at e; omega)]
  | .o p, .i q, e => by simp only [Pos.nat] at e; omega
  | .i p, .h, e => by have := p.pos; simp only [Pos.nat] at e; omega
  | .i p, .o q, e => by simp only [Pos.nat] at e; omega
  | .i p, .i q, e => by rw [Pos.nat_inj (p := p) (q := q) (by simp only [Pos.nat] at e; omega)]
noncomputable def pos : Nat → Pos
  | 0 => .h
  | t + 1 => (pos t).succ
theorem pos_nat : ∀ t, (pos t).nat = t + 1
  | 0 => rfl
  | t + 1 => by rw [pos, Pos.nat_succ, pos_nat t]
theorem pos_of (p : Pos) : pos (p.nat - 1) = p := Pos.nat_inj (by rw [pos_nat]; have := p.pos; omega)
theorem pos_ne {t : Nat} {p : Pos} : t = p.nat - 1 ↔ pos t = p := ⟨fun e => by rw [e, pos_of], fun e => by rw [← e, pos_nat]; rfl⟩
inductive Tr (α : Type) where
  | e | n (v : α) (l r : Tr α)
section
variable {α : Type}
noncomputable def Tr.get (d : α) (p : Pos) : Tr α → α :=
  Pos.rec (motive := fun _ => Tr α → α) (fun t => Tr.rec d (fun v _ _ _ _ => v) t) (fun _ ih t => Tr.rec d (fun _ l _ _ _ => ih l) t) (fun _ ih t => Tr.rec d (fun _ _ r _ _ => ih r) t) p
noncomputable def Tr.set (d : α) (p : Pos) (x : α) : Tr α → Tr α :=
  Pos.rec (motive := fun _ => Tr α → Tr α) (fun t => Tr.rec (.n x .e .e) (fun _ l r _ _ => .n x l r) t) (fun _ ih t => Tr.rec (.n d (ih .e) .e) (fun v l r _ _ => .n v (ih l) r) t) (fun _ ih t => Tr.rec (.n d .e (ih .e)) (fun v l r _ _ => .n v l (ih r)) t) p
theorem Tr.get_e (d : α) (p : Pos) : Tr.get d p .e = d := by cases p <;> rfl
theorem Tr.get_set (d : α) (x : α) : ∀ (p q : Pos) (t : Tr α), Tr.get d q (Tr.set d p x t) = if q = p then x else Tr.get d q t
  | .h, .h, .e => rfl
  | .h, .h, .n _ _ _ => rfl
  | .h, .o q, .e => by rw [if_neg (by simp)]; exact Tr.get_e d q
  | .h, .i q, .e => by rw [if_neg (by simp)]; exact Tr.get_e d q
  | .h, .o q, .n _ _ _ => by rw [if_neg (by simp)]; rfl
  | .h, .i q, .n _ _ _ => by rw [if_neg (by simp)]; rfl
  | .o p, .h, .e => by rw [if_neg (by simp)]; rfl
  | .o p, .h, .n _ _ _ => by rw [if_neg (by simp)]; rfl
  | .i p, .h, .e => by rw [if_neg (by simp)]; rfl
  | .i p, .h, .n _ _ _ => by rw [if_neg (by simp)]; rfl
  | .o p, .i q, .e => by rw [if_neg (by simp)]; exact Tr.get_e d q
  | .o p, .i q, .n _ _ _ => by rw [if_neg (by simp)]; rfl
  | .i p, .o q, .e => by rw [if_neg (by simp)]; exact Tr.get_e d q
  | .i p, .o q, .n _ _ _ => by rw [if_neg (by simp)]; rfl
  | .o p, .o q, .e => by
    show Tr.get d q (Tr.set d p x .e) = _
    rw [Tr.get_set d x p q .e, Tr.get_e, Tr.get_e]; simp
  | .o p, .o q, .n v l r => by
    show Tr.get d q (Tr.set d p x l) = _
    rw [Tr.get_set d x p q l]; simp; rfl
  | .i p, .i q, .e => by
    show Tr.get d q (Tr.set d p x .e) = _
    rw [Tr.get_set d x p q .e, Tr.get_e, Tr.get_e]; simp
  | .i p, .i q, .n v l r => by
    show Tr.get d q (Tr.set d p x r) = _
    rw [Tr.get_set d x p q r]; simp; rfl
end
/-! ### 2. Values -/
inductive CV where
  | u | b (x : Bool) | i (k : IntKind) (n : Int) | s (l : List Nat)
  | p (id : Pos) (off : Nat) | np | g (n : Nat)
  | sl (id : Pos) (off n sz : Nat) (c : Option Nat) | z (c : Option Nat) | ns
  | m (id : Pos) | nm
  | fn (f : Pos) (a b : List CV) | nf
  | ifc (t : Nat) (x : CV) | ni
  | agg (cs : List CV) | tup (cs : List CV) | xi (j : Nat)
def CV.one : CV → Bool
  | .u | .agg _ | .tup _ => false
  | _ => true
def byt (l : List Nat) : ByteArray := ⟨(l.map UInt8.ofNat).toArray⟩
structure Blk where
  b : Nat
  len : Nat
/-- Where blocks lie; values that came in and are not looked at. -/
structure Bk where
  f : Pos → Option Blk
  x : Nat → Value
instance : CoeFun Bk (fun _ => Pos → Option Blk) := ⟨Bk.f⟩
mutual
inductive VR (β : Bk) : CV → Value → Prop where
  | u : VR β .u undef
  | b (x : Bool) : VR β (.b x) (.bool x)
  | i (k : IntKind) (n : Int) : VR β (.i k n) (.int k n)
  | s (l : List Nat) (h : l.all (fun x => Nat.blt x 256) = true) : VR β (.s l) (.string (byt l))
  | p {id : Pos} (off : Nat) {x : Blk} (h : β id = some x) : VR β (.p id off) (.pointer (some ⟨x.b, off, none⟩))
  | np : VR β .np (.pointer none)
  | g (n : Nat) : VR β (.g n) (.pointer (some ⟨n, 0, none⟩))
  | sl {id : Pos} {off n sz : Nat} {c : Option Nat} {x : Blk} {k : Nat} (h : β id = some x) (hn : n ≤ k) (hc : off + k * sz ≤ x.len) (he : c = none ∨ c = some k) : VR β (.sl id off n sz c) (.slice (some ⟨x.b, off, none⟩) n k)
  | z {a : Addr} {k : Nat} {c : Option Nat} (he : c = none ∨ c = some k) : VR β (.z c) (.slice (some a) 0 k)
  | ns : VR β .ns (.slice none 0 0)
  | m {id : Pos} {x : Blk} (h : β id = some x) : VR β (.m id) (.map (some x.b))
  | nm : VR β .nm (.map none)
  | fn (f : Pos) {a b : List CV} {va vb : List Value} (ha : VRs β a va) (hb : VRs β b vb) : VR β (.fn f a b) (.func (.func (f.nat - 1)) va.toArray vb.toArray)
  | nf : VR β .nf .nilFunc
  | ifc (t : Nat) {x : CV} {v : Value} (h : VR β x v) : VR β (.ifc t x) (.iface t v)
  | ni : VR β .ni .nilIface
  | agg {cs : List CV} {vs : List Value} (h1 : cs.all CV.one = true) (h : VRs β cs vs) : VR β (.agg cs) (.agg vs.toArray)
  | tup {cs : List CV} {vs : List Value} (h : VRs β cs vs) : VR β (.tup cs) (.tuple vs.toArray)
  | xi (j : Nat) (h : (β.x j).oneCell' = true) : VR β (.xi j) (β.x j)
inductive VRs (β : Bk) : List CV → List Value → Prop where
  | nil : VRs β [] []
  | cons {c : CV} {v : Value} {cs : List CV} {vs : List Value} (h : VR β c v) (r : VRs β cs vs) : VRs β (c :: cs) (v :: vs)
end
structure Bk.le (β β' : Bk) : Prop where
  f : ∀ p x, β p = some x → β' p = some x
  x : β'.x = β.x
instance (β β' : Bk) : CoeFun (Bk.le β β') (fun _ => ∀ p x, β p = some x → β' p = some x) := ⟨Bk.le.f⟩
theorem Bk.le_refl (β : Bk) : β.le β := ⟨fun _ _ e => e, rfl⟩
theorem Bk.le_trans {β β' β'' : Bk} (a : β.le β') (b : β'.le β'') : β.le β'' := ⟨fun p x e => b p x (a p x e), b.x.trans a.x⟩
section
variable {β β' : Bk}
theorem VR.le (l : β.le β') {c : CV} {v : Value} (r : VR β c v) : VR β' c v :=
  VR.rec (motive_1 := fun c v _ => VR β' c v) (motive_2 := fun cs vs _ => VRs β' cs vs) .u (fun x => .b x) (fun k n => .i k n) (fun l h => .s l h) (fun off _ h => .p off (l _ _ h)) .np (fun n => .g n)
    (fun h hn hc he => .sl (l _ _ h) hn hc he) (fun he => .z he) .ns (fun h => .m (l _ _ h)) .nm (fun f _ _ _ _ _ _ ha hb => .fn f ha hb) .nf (fun t _ _ _ h => .ifc t h) .ni (fun h1 _ h => .agg h1 h) (fun _ h => .tup h) (fun j h => by rw [← l.x] at h ⊢; exact .xi j h) .nil (fun _ _ h r => .cons h r) r
theorem VRs.le (l : β.le β') : ∀ {cs : List CV} {vs : List Value}, VRs β cs vs → VRs β' cs vs
  | _, _, .nil => .nil
  | _, _, .cons h r => .cons (h.le l) (VRs.le l r)
theorem VRs.len : ∀ {cs : List CV} {vs : List Value}, VRs β cs vs → vs.length = cs.length
  | _, _, .nil => rfl
  | _, _, .cons _ r => by simp [r.len]
theorem VR.one {c : CV} {v : Value} (r : VR β c v) (h1 : c.one = true) : v.oneCell' = true := by
  cases r <;> first | rfl | assumption | cases h1
theorem VRs.one : ∀ {cs : List CV} {vs : List Value}, VRs β cs vs → cs.all CV.one = true → ∀ v ∈ vs, v.oneCell' = true
  | _, _, .nil, _, v, hv => by cases hv
  | _, _, .cons h r, h1, v, hv => by
    simp only [List.all_cons, Bool.and_eq_true] at h1
    rcases List.mem_cons.1 hv with rfl | hv
    · exact h.one h1.1
    · exact r.one h1.2 v hv
theorem VRs.get : ∀ {cs : List CV} {vs : List Value}, VRs β cs vs → ∀ {j : Nat} {c : CV}, cs[j]? = some c → ∃ v, vs[j]? = some v ∧ VR β c v
  | _, _, .nil, j, c, e => by simp at e
  | _, _, .cons h r, 0, c, e => by simp at e; subst e; exact ⟨_, rfl, h⟩
  | _, _, .cons h r, j + 1, c, e => by simpa using r.get (by simpa using e)
theorem VRs.append : ∀ {cs : List CV} {vs : List Value} {cs' : List CV} {vs' : List Value}, VRs β cs vs → VRs β cs' vs' → VRs β (cs ++ cs') (vs ++ vs')
  | _, _, _, _, .nil, b => b
  | _, _, _, _, .cons h r, b => .cons h (r.append b)
theorem VRs.take : ∀ {cs : List CV} {vs : List Value} (n : Nat), VRs β cs vs → VRs β (cs.take n) (vs.take n)
  | _, _, 0, _ => by simp; exact .nil
  | _, _, n + 1, .nil => by simp; exact .nil
  | _, _, n + 1, .cons h r => by simpa using .cons h (r.take n)
theorem VRs.drop : ∀ {cs : List CV} {vs : List Value} (n : Nat), VRs β cs vs → VRs β (cs.drop n) (vs.drop n)
  | _, _, 0, r => by simpa using r
  | _, _, n + 1, .nil => by simp; exact .nil
  | _, _, n + 1, .cons h r => by simpa using r.drop n
theorem VRs.split : ∀ {cs cs' : List CV} {vs : List Value}, VRs β (cs ++ cs') vs → ∃ a b, vs = a ++ b ∧ VRs β cs a ∧ VRs β cs' b
  | [], cs', vs, r => ⟨[], vs, rfl, .nil, r⟩
  | c :: cs, cs', _, .cons h r => by
    obtain ⟨a, b, rfl, ra, rb⟩ := VRs.split (cs := cs) r
    exact ⟨_ :: a, b, rfl, .cons h ra, rb⟩
theorem VRs.mk : ∀ {cs : List CV} {vs : List Value}, vs.length = cs.length → (∀ (j : Nat) (c : CV) (v : Value), cs[j]? = some c → vs[j]? = some v → VR β c v) → VRs β cs vs
  | [], [], _, _ => .nil
  | [], _ :: _, h, _ => by simp at h
  | _ :: _, [], h, _ => by simp at h
  | c :: cs, v :: vs, h, k => .cons (k 0 c v rfl rfl) (VRs.mk (by simpa using h) fun j c v a b => k (j + 1) c v (by simpa using a) (by simpa using b))
/-- The cells of a value. -/
def CV.cells : CV → List CV
  | .agg cs => cs
  | c => [c]
theorem VR.cells {c : CV} {v : Value} (r : VR β c v) : VRs β c.cells v.cells.toList := by
  cases r
  case agg h1 h => simpa [CV.cells, Value.cells] using h
  case xi j h =>
    have hv : (β.x j).cells = #[β.x j] := by generalize β.x j = v at h; cases v <;> first | rfl | cases h
    rw [hv]
    exact .cons (.xi j h) .nil
  all_goals exact .cons (by first | exact .u | constructor <;> assumption | constructor) .nil
end
/-! ### 3. Slots -/
noncomputable def tget (p : Pos) (T : Tr CV) : CV := Tr.get .u p T
def TR (β : Bk) (T : Tr CV) (Tc : Tm) : Prop := ∀ t, VR β (Tr.get .u (pos t) T) (Tc t)
theorem TR.le {β β' : Bk} {T : Tr CV} {Tc : Tm} (r : TR β T Tc) (l : β.le β') : TR β' T Tc := fun t => (r t).le l
theorem TR.at {β : Bk} {T : Tr CV} {Tc : Tm} (r : TR β T Tc) (p : Pos) : VR β (Tr.get .u p T) (Tc (p.nat - 1)) := by
  have := r (p.nat - 1)
  rwa [pos_of] at this
theorem TR.put {β : Bk} {T : Tr CV} {Tc : Tm} (r : TR β T Tc) (p : Pos) {c : CV} {v : Value} (h : VR β c v) : TR β (Tr.set .u p c T) (upd Tc (p.nat - 1) v) := fun t => by
  rw [Tr.get_set]
  unfold upd
  by_cases e : t = p.nat - 1
  · rw [if_pos (pos_ne.1 e), if_pos e]; exact h
  · rw [if_neg (fun e1 => e (pos_ne.2 e1)), if_neg e]; exact r t
theorem TR.nil {β : Bk} : TR β .e (fun _ => undef) := fun t => by rw [Tr.get_e]; exact .u
end Go.Proofs.YtgjeojgfefdajaaGreatDoor.Ce

/- The evaluator's blocks; how they stand to the heap; what turns them. -/
set_option linter.unusedVariables false
set_option linter.unusedSimpArgs false
namespace Go.Proofs.YtgjeojgfefdajaaGreatDoor.Ce
open Go.Proofs.YtgjeojgfefdajaaGreatDoor.Sl
/-! ### 1. Blocks -/
/-- st: when it was turned last. -/
inductive CO where
  | dead (st : Nat)
  | cells (st : Nat) (t : Nat) (cs : List CV)
  | map (st : Nat) (t : Nat) (es : List (List Int × CV))
abbrev CH := Tr CO
def CO.st : CO → Nat
  | .dead s | .cells s _ _ | .map s _ _ => s
def CO.live : CO → Bool
  | .dead _ => false
  | _ => true
noncomputable def hget (p : Pos) (H : CH) : CO := Tr.get (.dead 0) p H
noncomputable def hset (p : Pos) (o : CO) (H : CH) : CH := Tr.set (.dead 0) p o H
theorem hget_set (p q : Pos) (o : CO) (H : CH) : hget q (hset p o H) = if q = p then o else hget q H := Tr.get_set _ _ _ _ _
theorem hget_same (p : Pos) (o : CO) (H : CH) : hget p (hset p o H) = o := by rw [hget_set, if_pos rfl]
theorem hget_ne {p q : Pos} (h : q ≠ p) (o : CO) (H : CH) : hget q (hset p o H) = hget q H := by rw [hget_set, if_neg h]
/-- Which keys a map type's keys are: one number, a struct of numbers. -/
inductive Sh where
  | int (k : IntKind)
  | agg (ks : List IntKind)
def Sh.n : Sh → Nat
  | .int _ => 1
  | .agg ks => ks.length
def zipK : List IntKind → List Int → List Value
  | k :: ks, n :: ns => .int k n :: zipK ks ns
  | _, _ => []
def zipC : List IntKind → List Int → List CV
  | k :: ks, n :: ns => .i k n :: zipC ks ns
  | _, _ => []
abbrev Sh.key (s : Sh) : Type := { l : List Int // l.length = s.n }
def Sh.enc (s : Sh) (l : s.key) : Value := match s with
  | .int k => .int k (l.1.headD 0)
  | .agg ks => .agg (zipK ks l.1).toArray
/-- What is known of the program's types of keys: type of the map, of the keys, their shape. -/
structure Ky (P : Program) where
  ξ : Nat → Value
  sh : TypeId → Option Sh
  law : ∀ t s, sh t = some s → ∃ kt et d, P.underlying t = some (.map kt et) ∧ P.underlying kt = some d ∧ KeyLaw P kt s.enc
variable {P : Program}
/-- A map's entries: born in the order of the list (nothing is deleted here). -/
def MB {κ : Type} (enc : κ → Value) (l : List (κ × Value)) : List MapEntry := l.zipIdx.map fun p => { key := enc p.1.1, val := p.1.2, born := p.2 }
/-- How a block lies. -/
inductive ORp (K : Ky P) (β : Bk) (h : Heap) (x : Blk) : CO → Prop where
  | dead (st : Nat) : ORp K β h x (.dead st)
  | cells {st t : Nat} {cs : List CV} {vs tl : List Value} (hb : h x.b = some (.cells (vs ++ tl).toArray t (0, 0))) (hl : (vs ++ tl).length = x.len) (hr : VRs β cs vs) (h1 : cs.all CV.one = true) : ORp K β h x (.cells st t cs)
  | map {st t : Nat} {es : List (List Int × CV)} (s : Sh) (hs : K.sh t = some s) (l : List (s.key × Value)) (hb : h x.b = some (.map (MB s.enc l).toArray l.length)) (n1 : Keys1 l) (hk : l.map (fun p => p.1.1) = es.map (·.1)) (hr : VRs β (es.map (·.2)) (l.map (·.2))) : ORp K β h x (.map st t es)
structure HR (K : Ky P) (β : Bk) (H : CH) (n : Pos) (ck : Nat) (h : Heap) : Prop where
  has : ∀ p, (hget p H).live = true → ∃ x, β p = some x
  obj : ∀ p x, β p = some x → ORp K β h x (hget p H)
  inj : ∀ p q x y, (hget p H).live = true → (hget q H).live = true → β p = some x → β q = some y → x.b = y.b → p = q
  new : ∀ p, n.nat ≤ p.nat → β p = none
  ck : ∀ p, (hget p H).st ≤ ck
  new0 : ∀ p, n.nat ≤ p.nat → (hget p H).st = 0
  xs : β.x = K.ξ
/-- What was not turned is as it was. -/
def Keep (β : Bk) (H H' : CH) (h h' : Heap) : Prop := ∀ p x, β p = some x → (hget p H).live = true → (hget p H).st ≤ (hget p H').st ∧ ((hget p H').st = (hget p H).st → hget p H' = hget p H ∧ h' x.b = h x.b)
theorem Keep.refl (β : Bk) (H : CH) (h : Heap) : Keep β H H h h := fun _ _ _ _ => ⟨Nat.le_refl _, fun _ => ⟨rfl, rfl⟩⟩
theorem Keep.trans {β β' : Bk} {H H1 H2 : CH} {h h1 h2 : Heap} (a : Keep β H H1 h h1) (l : β.le β') (b : Keep β' H1 H2 h1 h2) (m : ∀ p, (hget p H1).st ≤ (hget p H2).st) : Keep β H H2 h h2 := fun p x e hl => by
  have ha := a p x e hl
  refine ⟨Nat.le_trans ha.1 (m p), fun e1 => ?_⟩
  have h2 := m p
  obtain ⟨h3, h4⟩ := ha.2 (by omega)
  obtain ⟨h5, h6⟩ := (b p x (l _ _ e) (by rw [h3]; exact hl)).2 (by omega)
  exact ⟨h5.trans h3, h6.trans h4⟩
section
variable {K : Ky P} {β β' : Bk} {H : CH} {n : Pos} {ck st : Nat} {h h' : Heap} {x : Blk}
theorem ORp.le (l : β.le β') {o : CO} (r : ORp K β h x o) (e : h' x.b = h x.b) : ORp K β' h' x o := by
  cases r with
  | dead st => exact .dead st
  | cells hb hl hr h1 => exact .cells (by rw [e]; exact hb) hl (hr.le l) h1
  | map s hs l' hb n1 hk hr => exact .map s hs l' (by rw [e]; exact hb) n1 hk (hr.le l)
/-- A new block. -/
noncomputable def Bk.put (β : Bk) (p : Pos) (x : Blk) : Bk := ⟨fun q => if q = p then some x else β q, β.x⟩
theorem HR.nn (r : HR K β H n ck h) : β n = none := r.new n (Nat.le_refl _)
theorem HR.put_le (r : HR K β H n ck h) (x : Blk) : β.le (β.put n x) := ⟨fun p y e => by
  show (if p = n then some x else β p) = some y
  by_cases hp : p = n
  · rw [hp, r.nn] at e; cases e
  · rw [if_neg hp]; exact e, rfl⟩
theorem Bk.put_same (β : Bk) (p : Pos) (x : Blk) : β.put p x p = some x := by simp [Bk.put]
theorem ORp.some {o : CO} (r : ORp K β h x o) (hl : o.live = true) : h x.b ≠ none := by
  cases r with
  | dead st => cases hl
  | cells hb hl hr h1 => rw [hb]; simp
  | map s hs l' hb n1 hk hr => rw [hb]; simp
theorem HR.at_ (r : HR K β H n ck h) (p : Pos) (x : Blk) (e : β p = some x) (hl : (hget p H).live = true) : h x.b ≠ none := (r.obj p x e).some hl
theorem ORp.dead_of {o : CO} (hl : o.live = false) : ORp K β h x o := by
  cases o with
  | dead st => exact .dead st
  | cells _ _ _ => cases hl
  | map _ _ _ => cases hl
/-- Blocks that do not matter may turn. -/
theorem HR.same (r : HR K β H n ck h) (e : ∀ p x, β p = some x → (hget p H).live = true → h' x.b = h x.b) : HR K β H n ck h' :=
  ⟨r.has, fun p x hx => by
    cases hl : (hget p H).live with
    | true => exact (r.obj p x hx).le (Bk.le_refl _) (e p x hx hl)
    | false => exact .dead_of hl, r.inj, r.new, r.ck, r.new0, r.xs⟩
theorem HR.fresh (r : HR K β H n ck h) {b : Nat} (hb : h b = none) (ob : Obj) : HR K β H n ck (h.set b ob) ∧ Keep β H H h (h.set b ob) := by
  have e : ∀ p x, β p = some x → (hget p H).live = true → (h.set b ob) x.b = h x.b := fun p x hx hl => Heap.set_other _ _ fun e1 => r.at_ p x hx hl (by rw [e1]; exact hb)
  exact ⟨r.same e, fun p x hx hl => ⟨Nat.le_refl _, fun _ => ⟨rfl, e p x hx hl⟩⟩⟩
theorem HR.alloc (r : HR K β H n ck h) {b : Nat} {ob : Obj} {o : CO} {len : Nat} (hb : h b = none) (ho : ORp K (β.put n ⟨b, len⟩) (h.set b ob) ⟨b, len⟩ o) (hst : o.st ≤ ck) : HR K (β.put n ⟨b, len⟩) (hset n o H) n.succ ck (h.set b ob) := by
  have old : ∀ p x, β p = some x → p ≠ n ∧ ((hget p H).live = true → x.b ≠ b) := fun p x e => ⟨fun e1 => (by rw [e1, r.nn] at e; cases e), fun hl e1 => r.at_ p x e hl (by rw [e1]; exact hb)⟩
  have inv : ∀ p y, β.put n ⟨b, len⟩ p = some y → (p = n ∧ y = ⟨b, len⟩) ∨ (p ≠ n ∧ β p = some y) := fun p y e => by
    replace e : (if p = n then some ⟨b, len⟩ else β p) = some y := e
    split at e
    · rename_i hp; cases e; exact .inl ⟨hp, rfl⟩
    · rename_i hp; exact .inr ⟨hp, e⟩
  refine ⟨fun p hp => ?_, fun p y e => ?_, fun p q y z hp hq e1 e2 e3 => ?_, fun p hp => ?_, fun p => ?_, fun p hp => ?_, r.xs⟩
  · by_cases e : p = n
    · subst e; exact ⟨_, Bk.put_same _ _ _⟩
    · rw [hget_ne e] at hp
      obtain ⟨y, hy⟩ := r.has p hp
      exact ⟨y, r.put_le _ _ _ hy⟩
  · rcases inv p y e with ⟨rfl, rfl⟩ | ⟨hne, e⟩
    · rw [hget_same]; exact ho
    · rw [hget_ne hne]
      cases hl : (hget p H).live with
      | true => exact (r.obj p y e).le (r.put_le _) (Heap.set_other _ _ ((old p y e).2 hl))
      | false => exact .dead_of hl
  · rcases inv p y e1 with ⟨a1, a2⟩ | ⟨a1, a2⟩ <;> rcases inv q z e2 with ⟨b1, b2⟩ | ⟨b1, b2⟩
    · rw [a1, b1]
    · rw [a2] at e3; rw [hget_ne b1] at hq; exact absurd e3.symm ((old q z b2).2 hq)
    · rw [b2] at e3; rw [hget_ne a1] at hp; exact absurd e3 ((old p y a2).2 hp)
    · rw [hget_ne a1] at hp; rw [hget_ne b1] at hq; exact r.inj p q y z hp hq a2 b2 e3
  · rw [Pos.nat_succ] at hp
    have hne : p ≠ n := fun e => by rw [e] at hp; omega
    show (if p = n then some ⟨b, len⟩ else β p) = none
    rw [if_neg hne]; exact r.new p (by omega)
  · by_cases e : p = n
    · subst e; rw [hget_same]; exact hst
    · rw [hget_ne e]; exact r.ck p
  · rw [Pos.nat_succ] at hp
    have hne : p ≠ n := fun e => by rw [e] at hp; omega
    rw [hget_ne hne]; exact r.new0 p (by omega)
theorem HR.alloc_keep (r : HR K β H n ck h) {b : Nat} {ob : Obj} (o : CO) (hb : h b = none) : Keep β H (hset n o H) h (h.set b ob) := fun p x e hl => by
  have hne : p ≠ n := fun e1 => by rw [e1, r.nn] at e; cases e
  rw [hget_ne hne]
  exact ⟨Nat.le_refl _, fun _ => ⟨rfl, Heap.set_other _ _ fun e1 => r.at_ p x e hl (by rw [e1]; exact hb)⟩⟩
theorem Keep.set {p : Pos} (hp : (hget p H).st < st) {o : CO} (ho : o.st = st) (e : ∀ q y, q ≠ p → β q = some y → (hget q H).live = true → h' y.b = h y.b) : Keep β H (hset p o H) h h' := fun q y hy hl => by
  by_cases hq : q = p
  · subst hq; rw [hget_same]; exact ⟨by omega, fun e1 => by omega⟩
  · rw [hget_ne hq]; exact ⟨Nat.le_refl _, fun _ => ⟨rfl, e q y hq hy hl⟩⟩
theorem HR.oth (r : HR K β H n ck h) {p : Pos} (hx : β p = some x) (hp : (hget p H).live = true) : ∀ q y, q ≠ p → β q = some y → (hget q H).live = true → y.b ≠ x.b := fun q y hne e hq e1 => hne (r.inj q p y x hq hp e hx e1)
/-- A live block is turned. -/
theorem HR.turn (r : HR K β H n ck h) {p : Pos} (hx : β p = some x) (hp : (hget p H).live = true) {ob : Obj} {o : CO} (ho : ORp K β (h.set x.b ob) x o) (hst : o.st = ck + 1) : HR K β (hset p o H) n (ck + 1) (h.set x.b ob) ∧ Keep β H (hset p o H) h (h.set x.b ob) := by
  have oth := r.oth hx hp
  refine ⟨⟨fun q hq => ?_, fun q y e => ?_, fun a c y z ha hc e1 e2 e3 => ?_, r.new, fun q => ?_, fun q hq => ?_, r.xs⟩, Keep.set (st := ck + 1) (by have := r.ck p; omega) hst fun q y hne e hl => Heap.set_other _ _ (oth q y hne e hl)⟩
  · by_cases e : q = p
    · subst e; exact ⟨_, hx⟩
    · rw [hget_ne e] at hq; exact r.has q hq
  · by_cases e1 : q = p
    · subst e1; rw [hx] at e; cases e; rw [hget_same]; exact ho
    · rw [hget_ne e1]
      cases hl : (hget q H).live with
      | true => exact (r.obj q y e).le (Bk.le_refl _) (Heap.set_other _ _ (oth q y e1 e hl))
      | false => exact .dead_of hl
  · have hl : ∀ q, (hget q (hset p o H)).live = true → (hget q H).live = true := fun q hq => by
      by_cases e : q = p
      · subst e; exact hp
      · rw [hget_ne e] at hq; exact hq
    exact r.inj a c y z (hl a ha) (hl c hc) e1 e2 e3
  · by_cases e : q = p
    · subst e; rw [hget_same]; omega
    · rw [hget_ne e]; exact Nat.le_succ_of_le (r.ck q)
  · have hne : q ≠ p := fun e => by rw [e] at hq; rw [r.new p hq] at hx; cases hx
    rw [hget_ne hne]; exact r.new0 q hq
/-- A live block is given up; what it held lies on, in it or in a new one, by another name. -/
theorem HR.moved (r : HR K β H n ck h) {p : Pos} (hx : β p = some x) (hp : (hget p H).live = true) {y : Blk} (hy : y.b = x.b ∨ h y.b = none) {o : CO} (hst : o.st = ck + 1) (ho : ORp K (β.put n y) h' y o) (same : ∀ b ob, h b = some ob → b ≠ x.b → h' b = some ob) :
    HR K (β.put n y) (hset n o (hset p (.dead (ck + 1)) H)) n.succ (ck + 1) h' ∧ Keep β H (hset n o (hset p (.dead (ck + 1)) H)) h h' := by
  have oth := r.oth hx hp
  have hpn : p ≠ n := fun e1 => by rw [e1, r.nn] at hx; cases hx
  have kp : ∀ q z, q ≠ p → β q = some z → (hget q H).live = true → h' z.b = h z.b := fun q z hne e hl => by
    cases e1 : h z.b with
    | none => exact absurd e1 (r.at_ q z e hl)
    | some ob => exact same _ _ e1 (oth q z hne e hl)
  have inv : ∀ q z, β.put n y q = some z → (q = n ∧ z = y) ∨ (q ≠ n ∧ β q = some z) := fun q z e => by
    replace e : (if q = n then some y else β q) = some z := e
    split at e
    · rename_i hq; cases e; exact .inl ⟨hq, rfl⟩
    · rename_i hq; exact .inr ⟨hq, e⟩
  have lv : ∀ q, q ≠ n → (hget q (hset n o (hset p (.dead (ck + 1)) H))).live = true → q ≠ p ∧ (hget q H).live = true := fun q hq hl => by
    rw [hget_ne hq] at hl
    by_cases e : q = p
    · subst e; rw [hget_same] at hl; cases hl
    · rw [hget_ne e] at hl; exact ⟨e, hl⟩
  have yne : ∀ q z, q ≠ p → β q = some z → (hget q H).live = true → z.b ≠ y.b := fun q z hne e hl e1 => by
    rcases hy with hy | hy
    · exact oth q z hne e hl (e1.trans hy)
    · exact r.at_ q z e hl (by rw [e1]; exact hy)
  refine ⟨⟨fun q hq => ?_, fun q z e => ?_, fun a c z w ha hc e1 e2 e3 => ?_, fun q hq => ?_, fun q => ?_, fun q hq => ?_, r.xs⟩, fun q z e hl => ?_⟩
  · by_cases e : q = n
    · subst e; exact ⟨_, Bk.put_same _ _ _⟩
    · obtain ⟨z, hz⟩ := r.has q (lv q e hq).2
      exact ⟨z, r.put_le _ _ _ hz⟩
  · rcases inv q z e with ⟨rfl, rfl⟩ | ⟨hne, e⟩
    · rw [hget_same]; exact ho
    · rw [hget_ne hne]
      by_cases e1 : q = p
      · subst e1; rw [hget_same]; exact .dead _
      · rw [hget_ne e1]
        cases hl : (hget q H).live with
        | true => exact (r.obj q z e).le (r.put_le _) (kp q z e1 e hl)
        | false => exact .dead_of hl
  · rcases inv a z e1 with ⟨a1, a2⟩ | ⟨a1, a2⟩ <;> rcases inv c w e2 with ⟨b1, b2⟩ | ⟨b1, b2⟩
    · rw [a1, b1]
    · obtain ⟨h1, h2⟩ := lv c b1 hc
      rw [a2] at e3; exact absurd e3.symm (yne c w h1 b2 h2)
    · obtain ⟨h1, h2⟩ := lv a a1 ha
      rw [b2] at e3; exact absurd e3 (yne a z h1 a2 h2)
    · exact r.inj a c z w (lv a a1 ha).2 (lv c b1 hc).2 a2 b2 e3
  · rw [Pos.nat_succ] at hq
    have hne : q ≠ n := fun e => by rw [e] at hq; omega
    show (if q = n then some y else β q) = none
    rw [if_neg hne]; exact r.new q (by omega)
  · by_cases e : q = n
    · subst e; rw [hget_same]; omega
    · rw [hget_ne e]
      by_cases e1 : q = p
      · subst e1; rw [hget_same]; exact Nat.le_refl _
      · rw [hget_ne e1]; exact Nat.le_succ_of_le (r.ck q)
  · rw [Pos.nat_succ] at hq
    have hne : q ≠ n := fun e => by rw [e] at hq; omega
    have hne2 : q ≠ p := fun e => by
      rw [e] at hq
      rw [r.new p (by omega)] at hx; cases hx
    rw [hget_ne hne, hget_ne hne2]; exact r.new0 q (by omega)
  · have hne : q ≠ n := fun e1 => by rw [e1, r.nn] at e; cases e
    rw [hget_ne hne]
    by_cases e1 : q = p
    · subst e1; rw [hget_same]
      have := r.ck q
      exact ⟨by show _ ≤ ck + 1; omega, fun e2 => by change ck + 1 = _ at e2; omega⟩
    · rw [hget_ne e1]; exact ⟨Nat.le_refl _, fun _ => ⟨rfl, kp q z e1 e hl⟩⟩
end
end Go.Proofs.YtgjeojgfefdajaaGreatDoor.Ce

/- Values told without memory: frozen values (what they point to stays), objects of the function's own by their names; how these stand to slots and heap. -/
set_option linter.unusedVariables false
set_option linter.unusedSimpArgs false
namespace Go.Proofs.YtgjeojgfefdajaaGreatDoor.Ab
open Go.Proofs.YtgjeojgfefdajaaGreatDoor.Sl
/-- A frozen value: a value; cells; a slice (how many rows, each row's cells); a pointer (the cells behind it); several results; a value with its type; a function with what it bears. -/
inductive FV where
  | val (v : Value)
  | agg (cs : List FV)
  | sl (n : Nat) (f : Nat → List FV)
  | fp (cs : List FV)
  | tup (cs : List FV)
  | ifc (t : TypeId) (x : FV)
  | fn (f : FuncId) (first cap : List FV)
/-- Does it lie in one cell? -/
def FV.one : FV → Bool
  | .val v => v.oneCell'
  | .agg _ | .tup _ => false
  | _ => true
inductive FRep (h : Heap) : FV → Value → Prop where
  | val (v : Value) : FRep h (.val v) v
  | agg {cs : List FV} {vs : List Value} (hl : vs.length = cs.length) (hr : ∀ (j : Nat) (c : FV) (v : Value), cs[j]? = some c → vs[j]? = some v → FRep h c v) : FRep h (.agg cs) (.agg vs.toArray)
  | sl0 (f : Nat → List FV) (a : Option Addr) (c : Nat) : FRep h (.sl 0 f) (.slice a 0 c)
  | sl {n : Nat} {f : Nat → List FV} {b off c sz : Nat} {full : Array Value} {e : TypeId} {fz : Nat × Nat} (hb : h b = some (.cells full e fz)) (hnc : n ≤ c) (hsz : ∀ i, i < n → (f i).length = sz) (h1 : ∀ i, i < n → (f i).all FV.one = true) (hs : off + n * sz ≤ full.size)
      (hr : ∀ (i j : Nat) (c : FV) (v : Value), i < n → (f i)[j]? = some c → full[off + i * sz + j]? = some v → FRep h c v) : FRep h (.sl n f) (.slice (some ⟨b, off, none⟩) n c)
  | fp {cs : List FV} {b off : Nat} {full : Array Value} {e : TypeId} {fz : Nat × Nat} (hb : h b = some (.cells full e fz)) (hs : off + cs.length ≤ full.size)
      (hr : ∀ (j : Nat) (c : FV) (v : Value), cs[j]? = some c → full[off + j]? = some v → FRep h c v) : FRep h (.fp cs) (.pointer (some ⟨b, off, none⟩))
  | tup {cs : List FV} {vs : List Value} (hl : vs.length = cs.length) (hr : ∀ (j : Nat) (c : FV) (v : Value), cs[j]? = some c → vs[j]? = some v → FRep h c v) : FRep h (.tup cs) (.tuple vs.toArray)
  | ifc {t : TypeId} {x : FV} {v : Value} (hx : FRep h x v) : FRep h (.ifc t x) (.iface t v)
  | fn {f : FuncId} {a b : List FV} {va vb : List Value} (hl : va.length = a.length) (hl2 : vb.length = b.length) (hr : ∀ (j : Nat) (c : FV) (v : Value), a[j]? = some c → va[j]? = some v → FRep h c v) (hr2 : ∀ (j : Nat) (c : FV) (v : Value), b[j]? = some c → vb[j]? = some v → FRep h c v) :
      FRep h (.fn f a b) (.func (.func f) va.toArray vb.toArray)
theorem FRep.le {h h' : Heap} (l : h.le h') {x : FV} {v : Value} (r : FRep h x v) : FRep h' x v := by
  induction r with
  | val v => exact .val v
  | agg hl _ ih => exact .agg hl ih
  | sl0 f a c => exact .sl0 f a c
  | sl hb hnc hsz h1 hs _ ih => exact .sl (l _ _ hb) hnc hsz h1 hs ih
  | fp hb hs _ ih => exact .fp (l _ _ hb) hs ih
  | tup hl _ ih => exact .tup hl ih
  | ifc _ ih => exact .ifc ih
  | fn hl hl2 _ _ ih ih2 => exact .fn hl hl2 ih ih2
theorem FRep.one {h : Heap} {x : FV} {v : Value} (r : FRep h x v) (h1 : x.one = true) : v.oneCell' = true := by
  cases r <;> first | exact h1 | rfl | cases h1
/-- A slice of things of a kind; of rows. -/
def slOf {α : Type} [Inhabited α] (enc : α → List FV) (xs : List α) : FV := .sl xs.length fun i => enc (xs.getD i default)
def slL (rows : List (List FV)) : FV := .sl rows.length fun i => rows.getD i []
def asSl : FV → Option (Nat × (Nat → List FV))
  | .sl n f => some (n, f)
  | .val (.slice none 0 0) => some (0, fun _ => [])
  | _ => none
theorem asSl_of {α : Type} [Inhabited α] (enc : α → List FV) (xs : List α) : asSl (slOf enc xs) = some (xs.length, fun i => enc (xs.getD i default)) := rfl
theorem asSl_sl (n : Nat) (f : Nat → List FV) : asSl (.sl n f) = some (n, f) := rfl
theorem asSl_nil : asSl (.val (.slice none 0 0)) = some (0, fun _ => []) := rfl
theorem asSl_L (rows : List (List FV)) : asSl (slL rows) = some (rows.length, fun i => rows.getD i []) := rfl
def FReps (h : Heap) (cs : List FV) (vs : List Value) : Prop := vs.length = cs.length ∧ ∀ (j : Nat) (c : FV) (v : Value), cs[j]? = some c → vs[j]? = some v → FRep h c v
theorem FReps.le {h h' : Heap} (l : h.le h') {cs : List FV} {vs : List Value} (r : FReps h cs vs) : FReps h' cs vs := ⟨r.1, fun j c v a b => (r.2 j c v a b).le l⟩
theorem FReps.nil (h : Heap) : FReps h [] [] := ⟨rfl, fun j c v a => by simp at a⟩
theorem FReps.cons {h : Heap} {c : FV} {v : Value} {cs : List FV} {vs : List Value} (a : FRep h c v) (b : FReps h cs vs) : FReps h (c :: cs) (v :: vs) :=
  ⟨by simp [b.1], fun j x y e1 e2 => by
    cases j with
    | zero => simp only [List.getElem?_cons_zero, Option.some.injEq] at e1 e2; subst e1; subst e2; exact a
    | succ j => exact b.2 j x y (by simpa using e1) (by simpa using e2)⟩
theorem FReps.uncons {h : Heap} {c : FV} {cs : List FV} {vs : List Value} (r : FReps h (c :: cs) vs) : ∃ v ws, vs = v :: ws ∧ FRep h c v ∧ FReps h cs ws := by
  cases vs with
  | nil => simp [FReps] at r
  | cons v ws => exact ⟨v, ws, rfl, r.2 0 c v rfl rfl, by simpa using r.1, fun j x y e1 e2 => r.2 (j + 1) x y (by simpa using e1) (by simpa using e2)⟩
/-- A value in a slot, or in a cell of an object: frozen; an object's slice; a pointer to an object's cell (of row i, rows of sz cells). -/
inductive AV where
  | hid
  | fz (x : FV)
  | os (id : Nat)
  | oe (id sz i off : Nat)
def baseOf : Value → Option Nat
  | .pointer (some ⟨b, 0, none⟩) => some b
  | .slice (some ⟨b, 0, none⟩) _ _ => some b
  | .map (some b) => some b
  | _ => none
inductive ARep (β : Nat → Value) (h : Heap) : AV → Value → Prop where
  | hid (v : Value) : ARep β h .hid v
  | fz {x : FV} {v : Value} (r : FRep h x v) : ARep β h (.fz x) v
  | os (id : Nat) : ARep β h (.os id) (β id)
  | oe {id sz i off b : Nat} (hb : baseOf (β id) = some b) : ARep β h (.oe id sz i off) (.pointer (some ⟨b, i * sz + off, none⟩))
def AV.nm : AV → Option Nat
  | .hid | .fz _ => none
  | .os id => some id
  | .oe id _ _ _ => some id
theorem ARep.to {β β' : Nat → Value} {h h' : Heap} {x : AV} {v : Value} (r : ARep β h x v) (l : h.le h') (e : ∀ id, x.nm = some id → β' id = β id) : ARep β' h' x v := by
  cases r with
  | hid v => exact .hid v
  | fz r => exact .fz (r.le l)
  | os id => rw [← e id rfl]; exact .os id
  | oe hb => exact .oe (by rw [e _ rfl]; exact hb)
def AReps (β : Nat → Value) (h : Heap) (cs : List AV) (vs : List Value) : Prop := vs.length = cs.length ∧ ∀ (j : Nat) (c : AV) (v : Value), cs[j]? = some c → vs[j]? = some v → ARep β h c v
theorem AReps.to {β β' : Nat → Value} {h h' : Heap} {cs : List AV} {vs : List Value} (r : AReps β h cs vs) (l : h.le h') (e : ∀ c ∈ cs, ∀ id, c.nm = some id → β' id = β id) : AReps β' h' cs vs :=
  ⟨r.1, fun j c v a b => (r.2 j c v a b).to l (e c (List.mem_of_getElem? a))⟩
theorem AReps.fz {β : Nat → Value} {h : Heap} {cs : List FV} {vs : List Value} (r : FReps h cs vs) : AReps β h (cs.map .fz) vs :=
  ⟨by rw [List.length_map]; exact r.1, fun j c v a b => by
    rw [List.getElem?_map] at a
    cases e : cs[j]? with
    | none => rw [e] at a; cases a
    | some x => rw [e] at a; cases a; exact .fz (r.2 j x v e b)⟩
theorem AReps.unfz {β : Nat → Value} {h : Heap} {cs : List FV} {vs : List Value} (r : AReps β h (cs.map .fz) vs) : FReps h cs vs :=
  ⟨by have := r.1; rwa [List.length_map] at this, fun j c v a b => by
    have := r.2 j (.fz c) v (by rw [List.getElem?_map, a]; rfl) b
    cases this with
    | fz r => exact r⟩
/-- An object of the function's own: cells (behind a pointer); the rows of a slice. -/
inductive OO where
  | box (t : TypeId) (cells : List AV)
  | ext (D : Nat → Prop) (Φ : Value → Heap → Prop)
  | rows (t : TypeId) (sz : Nat) (rows : List (List FV))
def OO.cells : OO → List AV
  | .box _ cs => cs
  | _ => []
/-- Its blocks. -/
def fpOf (v : Value) : OO → Nat → Prop
  | .ext D _, b => D b
  | _, b => baseOf v = some b
/-- What was there at the beginning; what objects of names from 1000 on are by value. -/
structure Gd where
  h : Heap
  fx : Nat → Value
abbrev AS := List (Nat × OO)
abbrev AT := List (Nat × AV)
abbrev AL := List (Nat × Option (Nat × Bool) × AV)
def OOk (β : Nat → Value) (hF h : Heap) (id : Nat) : OO → Prop
  | .box t cells => ∃ b vs, β id = .pointer (some ⟨b, 0, none⟩) ∧ h b = some (.cells (List.toArray vs) t (0, 0)) ∧ AReps β hF cells vs
  | .ext D Φ => (∀ b, baseOf (β id) = some b → D b) ∧ (∀ b, D b → h b ≠ none) ∧ ∀ h', (∀ b, D b → h' b = h b) → Φ (β id) h'
  | .rows t sz rows => ∃ vs, Own h t sz (β id) rows.length vs ∧ (∀ r ∈ rows, r.length = sz) ∧ (∀ r ∈ rows, r.all FV.one = true) ∧ FReps hF rows.flatten vs
structure Ok (h0 : Gd) (β : Nat → Value) (hF h : Heap) (σ : AS) : Prop where
  le0 : h0.h.le hF
  le : hF.le h
  ok : ∀ e ∈ σ, OOk β hF h e.1 e.2
  out : ∀ e ∈ σ, ∀ b, fpOf (β e.1) e.2 b → hF b = none
  sep : ∀ e ∈ σ, ∀ e' ∈ σ, ∀ b, e.1 ≠ e'.1 → fpOf (β e.1) e.2 b → ¬ fpOf (β e'.1) e'.2 b
  fix : ∀ id, 1000 ≤ id → β id = h0.fx id
  nd : (σ.map (·.1)).Nodup
def GOk (Tc : Tm) (g : Option (Nat × Bool)) (A : Prop) (v : Value) : Prop := match g with
  | none => A
  | some (s, p) => (Tc s = .bool p → A) ∧ (Tc s ≠ .bool p → v = undef)
structure Sem (h0 : Gd) (β : Nat → Value) (hF h : Heap) (Tc : Tm) (T : AT) (L : AL) (σ : AS) : Prop where
  ok : Ok h0 β hF h σ
  t : ∀ e ∈ T, (∀ e' ∈ L, e'.1 ≠ e.1) → ARep β hF e.2 (Tc e.1)
  l : ∀ e ∈ L, GOk Tc e.2.1 (ARep β hF e.2.2 (Tc e.1)) (Tc e.1)
  g : ∀ e ∈ L, ∀ s p, e.2.1 = some (s, p) → ∃ e' ∈ L, e'.1 = s
/-! ### Lookups -/
def lookL : AL → Nat → Option (Option (Nat × Bool) × AV)
  | [], _ => none
  | e :: r, t => if e.1 = t then some e.2 else lookL r t
def lookT : AT → Nat → Option AV
  | [], _ => none
  | e :: r, t => if e.1 = t then some e.2 else lookT r t
def lookV (L : AL) (T : AT) (t : Nat) : Option (Option (Nat × Bool) × AV) := match lookL L t with
  | some x => some x
  | none => match lookT T t with
    | some av => some (none, av)
    | none => none
def lookS : AS → Nat → Option OO
  | [], _ => none
  | e :: r, t => if e.1 = t then some e.2 else lookS r t
theorem lookL_mem {t : Nat} {x : Option (Nat × Bool) × AV} : ∀ {L : AL}, lookL L t = some x → (t, x) ∈ L
  | [], h => by cases h
  | (a, y) :: r, h => by
    unfold lookL at h
    split at h
    · rename_i e; cases h; cases e; exact List.mem_cons_self
    · exact List.mem_cons_of_mem _ (lookL_mem h)
theorem lookL_none {t : Nat} : ∀ {L : AL}, lookL L t = none → ∀ e ∈ L, e.1 ≠ t
  | [], _, e, he => by cases he
  | (a, y) :: r, h, e, he => by
    unfold lookL at h
    split at h
    · cases h
    · rename_i hne
      rcases List.mem_cons.1 he with rfl | he
      · exact hne
      · exact lookL_none h e he
theorem lookT_mem {t : Nat} {x : AV} : ∀ {T : AT}, lookT T t = some x → (t, x) ∈ T
  | [], h => by cases h
  | (a, y) :: r, h => by
    unfold lookT at h
    split at h
    · rename_i e; cases h; cases e; exact List.mem_cons_self
    · exact List.mem_cons_of_mem _ (lookT_mem h)
theorem lookS_mem {t : Nat} {x : OO} : ∀ {σ : AS}, lookS σ t = some x → (t, x) ∈ σ
  | [], h => by cases h
  | (a, y) :: r, h => by
    unfold lookS at h
    split at h
    · rename_i e; cases h; cases e; exact List.mem_cons_self
    · exact List.mem_cons_of_mem _ (lookS_mem h)
section
variable {h0 : Gd} {β : Nat → Value} {hF h : Heap} {Tc : Tm} {T : AT} {L : AL} {σ : AS}
theorem Sem.lk (s : Sem h0 β hF h Tc T L σ) {t : Nat} {g : Option (Nat × Bool)} {x : AV} (e : lookV L T t = some (g, x)) : GOk Tc g (ARep β hF x (Tc t)) (Tc t) := by
  unfold lookV at e
  split at e
  · rename_i y hy
    cases e
    exact s.l _ (lookL_mem hy)
  · rename_i hn
    split at e
    · rename_i av hav
      cases e
      exact s.t _ (lookT_mem hav) (fun e' he' => lookL_none hn e' he')
    · cases e
/-- A new slot. -/
theorem Sem.put (s : Sem h0 β hF h Tc T L σ) {d : Nat} {g : Option (Nat × Bool)} {x : AV} {v : Value} (hd : ∀ e ∈ L, e.1 ≠ d) (hg : ∀ a p, g = some (a, p) → ∃ e ∈ L, e.1 = a) (hv : GOk Tc g (ARep β hF x v) v) : Sem h0 β hF h (upd Tc d v) T ((d, g, x) :: L) σ where
  ok := s.ok
  t := fun e he hne => by
    have h1 : e.1 ≠ d := fun e1 => hne _ List.mem_cons_self e1.symm
    simp only [upd, if_neg h1]
    exact s.t e he fun e' he' => hne e' (List.mem_cons_of_mem _ he')
  l := fun e he => by
    rcases List.mem_cons.1 he with rfl | he
    · simp only [upd, if_true]
      cases g with
      | none => exact hv
      | some a =>
        obtain ⟨a, p⟩ := a
        obtain ⟨e', he', h1⟩ := hg a p rfl
        have : a ≠ d := fun e2 => hd e' he' (h1.trans e2)
        simp only [GOk, upd, if_neg this] at hv ⊢
        exact hv
    · have h1 : e.1 ≠ d := hd e he
      have := s.l e he
      simp only [upd, if_neg h1]
      cases hge : e.2.1 with
      | none => rw [hge] at this; exact this
      | some a =>
        obtain ⟨a, p⟩ := a
        rw [hge] at this
        obtain ⟨e', he', h2⟩ := s.g e he a p hge
        have hne : a ≠ d := fun e2 => hd e' he' (h2.trans e2)
        have hu : upd Tc d v a = Tc a := by simp [upd, hne]
        simp only [GOk, hu]
        exact this
  g := fun e he a p hga => by
    rcases List.mem_cons.1 he with rfl | he
    · obtain ⟨e', he', h1⟩ := hg a p hga
      exact ⟨e', List.mem_cons_of_mem _ he', h1⟩
    · obtain ⟨e', he', h1⟩ := s.g e he a p hga
      exact ⟨e', List.mem_cons_of_mem _ he', h1⟩
end
/-! ### Operands -/
def absC : Value → FV
  | .agg cs => .agg (cs.toList.map .val)
  | v => .val v
theorem absC_rep (h : Heap) (v : Value) : FRep h (absC v) v := by
  cases v with
  | agg cs =>
    have : FRep h (.agg (cs.toList.map .val)) (.agg cs.toList.toArray) := .agg (by simp) (fun j c v a b => by
      rw [List.getElem?_map] at a
      rw [b] at a; cases a; exact .val v)
    simpa [absC] using this
  | _ => exact .val _
/-- The guards under which a slot may be read, where guard g holds. -/
def chain (L : AL) : Nat → Option (Nat × Bool) → List (Nat × Bool)
  | _, none => []
  | 0, some g => [g]
  | k + 1, some g => g :: (match lookL L g.1 with
    | some x => chain L k x.1
    | none => [])
theorem chain_ok {h0 : Gd} {β : Nat → Value} {hF h : Heap} {Tc : Tm} {T : AT} {L : AL} {σ : AS} (s : Sem h0 β hF h Tc T L σ) : ∀ (k : Nat) (g : Option (Nat × Bool)), (∀ a p, g = some (a, p) → Tc a = .bool p) → ∀ x ∈ chain L k g, Tc x.1 = .bool x.2
  | k, none, _, x, hx => by cases k <;> simp [chain] at hx
  | 0, some (a, p), hg, x, hx => by simp only [chain, List.mem_singleton] at hx; subst hx; exact hg a p rfl
  | k + 1, some (a, p), hg, x, hx => by
    simp only [chain, List.mem_cons] at hx
    rcases hx with rfl | hx
    · exact hg a p rfl
    · split at hx
      · rename_i y hy
        refine chain_ok s k _ (fun a' p' e => ?_) x hx
        have h1 := s.l _ (lookL_mem hy)
        simp only [e, GOk] at h1
        rcases Classical.em (Tc a' = .bool p') with h2 | h2
        · exact h2
        · have := h1.2 h2
          rw [hg a p rfl] at this; cases this
      · cases hx
def inCh (g : Option (Nat × Bool)) (ch : List (Nat × Bool)) : Bool := match g with
  | none => true
  | some g => ch.any fun x => x.1 == g.1 && x.2 == g.2
def opd (L : AL) (T : AT) (ch : List (Nat × Bool)) : Operand → Option AV
  | .tmp t => match lookV L T t with
    | some (g, x) => if inCh g ch then some x else none
    | none => none
  | .const v => some (.fz (absC v))
  | .global g => some (.fz (.val (.pointer (some ⟨g, 0, none⟩))))
  | .func f => some (.fz (.fn f [] []))
theorem opd_ok {h0 : Gd} {β : Nat → Value} {hF h : Heap} {Tc : Tm} {T : AT} {L : AL} {σ : AS} (s : Sem h0 β hF h Tc T L σ) {ch : List (Nat × Bool)} (hch : ∀ x ∈ ch, Tc x.1 = .bool x.2) {x : Operand} {av : AV} (e : opd L T ch x = some av) : ARep β hF av (ev Tc x) := by
  cases x with
  | tmp t =>
    simp only [opd] at e
    split at e
    · rename_i g y hy
      split at e
      · rename_i hin
        cases e
        have h1 := s.lk hy
        cases g with
        | none => exact h1
        | some g =>
          obtain ⟨a, p⟩ := g
          simp only [inCh, List.any_eq_true, Bool.and_eq_true, beq_iff_eq] at hin
          obtain ⟨z, hz, h2, h3⟩ := hin
          have := hch z hz
          rw [h2, h3] at this
          exact h1.1 this
      · cases e
    · cases e
  | const v => cases e; exact .fz (absC_rep _ v)
  | global g => cases e; exact .fz (.val _)
  | func f => cases e; exact .fz (.fn (va := []) (vb := []) rfl rfl (fun j c v a => by simp at a) (fun j c v a => by simp at a))
end Go.Proofs.YtgjeojgfefdajaaGreatDoor.Ab
