import Derived.Test.YtfbjgbecabbdnaaGreatDoorTs16
/- The evaluator: a region's entries one behind the other. -/
set_option linter.unusedVariables false
set_option linter.unusedSimpArgs false
namespace Go.Proofs.YtfbjgbecabbdnaaGreatDoor.Ce
open Go.Proofs.YtfbjgbecabbdnaaGreatDoor.Sl
open Ab (isOne isMany isSl isArr isIntT isStr zeroIs okCall)
variable {P : Program}
def strip3 (ops : Array Oper) (o : Oper) : Option Nat × Op × Option (Nat × Bool) := (o.dst, o.op, match o.guard with
  | none => none
  | some (j, b) => match (ops[j]?).bind (·.dst) with
    | some t => some (t, b)
    | none => some (1000000000, b))
theorem okCall_spec {f : FuncId} (h : okCall P f = true) : ∃ fn, P.funcs[f]? = some fn ∧ (fn.name == "runtime.NumGoroutine") = false ∧ fn.body.isNone = false := by
  unfold Ab.okCall at h
  split at h
  · rename_i fn hf
    simp only [Bool.and_eq_true, Bool.not_eq_true'] at h
    exact ⟨fn, hf, h.1, h.2⟩
  · cases h
def Sem (N : Kn P) (β : Bk) (s : St) (h : Heap) (Tc : Tm) : Prop := TR β s.T Tc ∧ HR N.toKy β s.H s.n s.ck h
structure After (N : Kn P) (β : Bk) (s : St) (h : Heap) (s' : St) (Tc' : Tm) (h' : Heap) : Prop where
  out : ∃ β', β.le β' ∧ Sem N β' s' h' Tc'
  keep : Keep β s.H s'.H h h'
  mono : ∀ p, (hget p s.H).st ≤ (hget p s'.H).st
section
variable {N : Kn P} {β β' : Bk} {s s' s1 : St} {h h' h1 : Heap} {Tc Tc' : Tm} {o : Oper} {cf : CF}
theorem After.here (x : Sem N β s h Tc) : After N β s h s Tc h := ⟨⟨β, Bk.le_refl _, x⟩, Keep.refl _ _ _, fun _ => Nat.le_refl _⟩
theorem After.trans (l : β.le β') (k : Keep β s.H s1.H h h1) (m : ∀ p, (hget p s.H).st ≤ (hget p s1.H).st) (b : After N β' s1 h1 s' Tc' h') : After N β s h s' Tc' h' := by
  obtain ⟨⟨β2, l2, x⟩, k2, m2⟩ := b
  exact ⟨⟨β2, Bk.le_trans l l2, x⟩, Keep.trans k l k2 m2, fun p => Nat.le_trans (m p) (m2 p)⟩
def CfOk1 (N : Kn P) (cf : CF1) : Prop := ∀ (f : Pos) (args : List CV) (vs : List Value) (H : CH) (n : Id) (ck : Nat) (β : Bk) (h : Heap) (v : CV) (H' : CH) (n' : Id) (ck' : Nat),
  cf f args H n ck = .ok v H' n' ck' → HR N.toKy β H n ck h → VRs β args vs → okCall P (f.nat - 1) = true ∧ SCalls P (f.nat - 1) vs.toArray h (Aft N β H ck h v H' n' ck')
def YfOk (N : Kn P) (cf : YF) : Prop := ∀ (id : Id) (args : List CV) (vs : List Value) (H : CH) (n : Id) (ck : Nat) (β : Bk) (h : Heap) (v : CV) (H' : CH) (n' : Id) (ck' : Nat) (x : Blk),
  cf id args H n ck = .ok v H' n' ck' → HR N.toKy β H n ck h → VRs β args vs → β id = some x → ∃ r : Loop, h x.b = some (.loop r) ∧ vs.length = r.params.size ∧ SRound P x.b r.fn (setPs r.params vs.toArray r.tmps) r.assign r.body h (Aft N β H ck h v H' n' ck')
def CfOk (N : Kn P) (cf : CF) : Prop := CfOk1 N cf.c ∧ YfOk N cf.y
theorem put_dn {β : Bk} {T : SL CV} {Tc : Tm} (r : TR β T Tc) (d : Option Sp) {c : CV} {v : Value} (hv : VR β c v) : TR β (putC d c T) (put Tc (dn d) v) := by
  cases d with
  | none => exact r
  | some p => exact r.put p hv
theorem aft_after {s : St} {d : Option Sp} {q : Bool} {v : CV} {H : CH} {n : Id} {ck : Nat} (x : Sem N β s h Tc) (e : aft d q s (.ok v H n ck) = some s') {u : Value} {h' : Heap} (a : Aft N β s.H s.ck h v H n ck u h') : After N β s h s' (put Tc (dn d) u) h' ∧ s'.H = H ∧ s'.E = s.E ∧ (q = true → quietOk s.rs H = true ∧ s'.rs = s.rs) ∧ (q = false → s'.rs = []) := by
  obtain ⟨⟨β', l, hr, hv⟩, k, m⟩ := a
  have key : ∀ rs', After N β s h ⟨putC d v s.T, H, n, ck, rs', s.E⟩ (put Tc (dn d) u) h' := fun rs' => ⟨⟨β', l, put_dn (x.1.le l) d hv, hr⟩, k, m⟩
  rw [aft_eq] at e
  cases q with
  | false => cases e; exact ⟨key _, rfl, rfl, fun e => (by cases e), fun _ => rfl⟩
  | true =>
    simp only [cond_true] at e
    cases hq : quietOk s.rs H with
    | false => rw [hq] at e; cases e
    | true => rw [hq] at e; cases e; exact ⟨key _, rfl, rfl, fun _ => ⟨rfl, rfl⟩, fun e => by cases e⟩
/-- A plain act. -/
theorem act_sop (hc : CfOk N cf) (x : Sem N β s h Tc) {y : EN} (hp : ∀ d k q, y ≠ .r d k q) (hpl : y.plain = true) (hs : y.side N = true) (hop : o.op = y.op) (e : y.go cf s = some s') :
    ∃ (d : Option Sp) (q : Bool) (v : CV) (H : CH) (n : Id) (ck : Nat), d = y.d ∧ aft d q s (.ok v H n ck) = some s' ∧ isAct o.op = true ∧ SOp P o (ev Tc) h (Aft N β s.H s.ck h v H n ck) ∧ (match y with | .a _ _ q' | .cl _ _ _ _ q' | .cv _ _ _ _ q' => q' = q | _ => False) := by
  cases y with
  | r d k q => exact absurd rfl (hp d k q)
  | a d k q =>
    have e : aft d q s (k.ac s.T s.H s.n s.ck) = some s' := e
    have ok := ac_ok (N := N) x.1 x.2 (k := k) hs hop
    have hact := isAct_ac (k := k) (T := s.T) (H := s.H) (n0 := s.n) (ck := s.ck)
    cases ha : k.ac s.T s.H s.n s.ck with
    | no => rw [ha] at e; cases e
    | ok v H n ck =>
      rw [ha] at e ok hact
      exact ⟨d, q, v, H, n, ck, rfl, e, by rw [hop]; exact hact (by simp), ok, rfl⟩
  | cl d f args tys q =>
    have e : aft d q s (cf.c f (gets args s.T) s.H s.n s.ck) = some s' := e
    cases ha : cf.c f (gets args s.T) s.H s.n s.ck with
    | no => rw [ha] at e; cases e
    | ok v H n ck =>
      rw [ha] at e
      simp only [EN.side, K.side, Bool.and_eq_true] at hs
      obtain ⟨ho, c⟩ := hc.1 f _ _ _ _ _ β h v H n ck ha x.2 (gets_ok x.1 hs.1)
      obtain ⟨fn, h1, h2, h3⟩ := okCall_spec ho
      refine ⟨d, q, v, H, n, ck, rfl, e, by rw [hop]; rfl, ?_, rfl⟩
      exact s_call hop rfl h1 h2 h3 (by simp [Function.comp_def]) c
  | cv d f args tys q =>
    have e : aft d q s (cvF cf (f.get s.T) (gets args s.T) s.H s.n s.ck) = some s' := e
    unfold cvF at e
    simp only [appR_eq] at e
    simp only [EN.side, K.side, Bool.and_eq_true] at hs
    split at e
    · rename_i g xs ys hg
      have hv := CP.get_ok x.1 f hs.1
      rw [hg] at hv
      generalize hu : ev Tc f.op = u at hv
      cases hv with
      | @fn _ _ _ va vb ra rb =>
        cases ha : cf.c g (xs ++ (gets args s.T ++ ys)) s.H s.n s.ck with
        | no => rw [ha] at e; cases e
        | ok v H n ck =>
          rw [ha] at e
          obtain ⟨ho, c⟩ := hc.1 g _ _ _ _ _ β h v H n ck ha x.2 (ra.append ((gets_ok x.1 hs.2).append rb))
          obtain ⟨fn, h1, h2, h3⟩ := okCall_spec ho
          refine ⟨d, q, v, H, n, ck, rfl, e, by rw [hop]; rfl, ?_, rfl⟩
          exact s_callv hop hu h1 h2 h3 (by simp [Function.comp_def]) c
    · rename_i id hg
      have hv := CP.get_ok x.1 f hs.1
      rw [hg] at hv
      generalize hu : ev Tc f.op = u at hv
      cases hv with
      | @yl _ y hy =>
        cases ha : cf.y id (gets args s.T) s.H s.n s.ck with
        | no => rw [ha] at e; cases e
        | ok v H n ck =>
          rw [ha] at e
          obtain ⟨r, h1, h2, c⟩ := hc.2 id _ _ _ _ _ β h v H n ck y ha x.2 (gets_ok x.1 hs.2) hy
          refine ⟨d, q, v, H, n, ck, rfl, e, by rw [hop]; rfl, ?_, rfl⟩
          exact s_yield hop hu h1 (by simp [Function.comp_def]) (by rw [List.size_toArray]; exact h2) c
    · cases e
  | pre i d k => cases hpl
  | bnd i d k => cases hpl
  | gd p b y => cases hpl
/-- A plain read. -/
theorem rd_sop (x : Sem N β s h Tc) {d : Sp} {k : K} {q : Bool} (hs : k.side N = true) (hop : o.op = k.op) (e : (EN.r d k q).go cf s = some s') :
    isAct o.op = false ∧ ∃ (c : CV) (rs' : RS) (v : Value), s' = ⟨sset d c s.T, s.H, s.n, s.ck, rs', s.E⟩ ∧ VR β c v ∧
      ((rs' = s.rs ∧ PureOp P o (ev Tc) v) ∨ (∃ id y, (rs' = if q = true then (id, (hget id s.H).st) :: s.rs else s.rs) ∧ β id = some y ∧ (hget id s.H).live = true ∧ isRead o.op = true ∧ ∀ g : Heap, g y.b = h y.b → ReadOp P o (ev Tc) g v)) := by
  have e : stR d k q cf s = some s' := e
  rw [stR_eq] at e
  have ok := rd_ok (N := N) x.1 x.2 (k := k) hs hop
  have hact := isAct_rd (k := k) (T := s.T) (H := s.H)
  split at e
  · cases e
  · rename_i v hr
    rw [hr] at ok hact
    obtain ⟨u, hv, hp⟩ := ok
    cases e
    exact ⟨by rw [hop]; exact hact (by simp), v, _, u, rfl, hv, .inl ⟨rfl, hp⟩⟩
  · rename_i v id hr
    rw [hr] at ok hact
    obtain ⟨u, hv, hrd, y, hy, hlive, hp⟩ := ok
    cases q with
    | true => cases e; exact ⟨by rw [hop]; exact hact (by simp), v, _, u, rfl, hv, .inr ⟨id, y, rfl, hy, hlive, hrd, hp⟩⟩
    | false => cases e; exact ⟨by rw [hop]; exact hact (by simp), v, _, u, rfl, hv, .inr ⟨id, y, rfl, hy, hlive, hrd, hp⟩⟩
/-! ### In the order of the text -/
theorem strip_spec {ops : Array Oper} {y : EN} (h : strip3 ops o = y.strip) (hg : (match y.gu with | some (t, _) => decide (t < 1000000000) | none => true) = true) : o.dst = dn y.d ∧ o.op = y.op ∧ (y.gu = none → o.guard = none) ∧ ∀ t b, y.gu = some (t, b) → ∃ j, o.guard = some (j, b) ∧ ((ops[j]?).bind (·.dst)) = some t := by
  simp only [strip3, EN.strip, Prod.mk.injEq] at h
  obtain ⟨h1, h2, h3⟩ := h
  refine ⟨h1, h2, fun e => ?_, fun t b e => ?_⟩
  · rw [e] at h3
    cases ho : o.guard with
    | none => rfl
    | some z =>
      obtain ⟨j, b⟩ := z
      rw [ho] at h3
      simp only at h3
      split at h3 <;> cases h3
  · rw [e] at h3 hg
    cases ho : o.guard with
    | none => rw [ho] at h3; cases h3
    | some z =>
      obtain ⟨j, b'⟩ := z
      rw [ho] at h3
      simp only at h3
      split at h3
      · rename_i t' ht'; cases h3; exact ⟨j, rfl, ht'⟩
      · cases h3; simp at hg
/-- What a guard says. -/
theorem gd_go (x : Sem N β s h Tc) {p : Sp} {b : Bool} {y : EN} (e : (EN.gd p b y).go cf s = some s') : (Tc (p.nat - 1) = .bool b ∧ y.go cf s = some s') ∨ ((∀ b', Tc (p.nat - 1) = .bool b' → (b' == b) = false) ∧ s' = ⟨putC y.d .u s.T, s.H, s.n, s.ck, s.rs, s.E⟩) := by
  have e : (match sget p s.T with
    | .b t => bif t == b then y.go cf s else some ⟨putC y.d .u s.T, s.H, s.n, s.ck, s.rs, s.E⟩
    | .u => some ⟨putC y.d .u s.T, s.H, s.n, s.ck, s.rs, s.E⟩
    | _ => none) = some s' := e
  have hv := x.1.at p
  split at e
  · rename_i t ht
    rw [ht] at hv
    generalize Tc (p.nat - 1) = u at hv
    cases hv
    cases htb : t == b with
    | true =>
      rw [htb] at e
      exact .inl ⟨by rw [(beq_iff_eq.1 htb)], e⟩
    | false =>
      rw [htb] at e
      cases e
      exact .inr ⟨fun b' e1 => by cases e1; exact htb, rfl⟩
  · rename_i ht
    rw [ht] at hv
    generalize Tc (p.nat - 1) = u at hv
    cases hv
    cases e
    exact .inr ⟨fun b' e1 => (by cases e1), rfl⟩
  · cases e
theorem want_gd {ops : Array Oper} {t : Nat} {b : Bool} (hg : ∃ j, o.guard = some (j, b) ∧ ((ops[j]?).bind (·.dst)) = some t) : (Tc t = .bool b → want ops Tc o = true) ∧ ((∀ b', Tc t = .bool b' → (b' == b) = false) → want ops Tc o = false) := by
  obtain ⟨j, h1, h2⟩ := hg
  unfold want
  rw [h1]
  simp only [h2]
  refine ⟨fun e => by rw [e]; simp, fun e => ?_⟩
  cases ht : Tc t with
  | bool b' => simpa using e b' ht
  | _ => rfl
theorem skip_after (x : Sem N β s h Tc) (d : Option Sp) : Sem N β ⟨putC d .u s.T, s.H, s.n, s.ck, s.rs, s.E⟩ h (put Tc (dn d) undef) := ⟨put_dn x.1 d .u, x.2⟩
/-- A plain entry. -/
theorem plain_sop (hc : CfOk N cf) (x : Sem N β s h Tc) {y : EN} (hpl : y.plain = true) (hs : y.side N = true) (hop : o.op = y.op) (e : y.go cf s = some s') : SOp P o (ev Tc) h (fun v h' => After N β s h s' (put Tc (dn y.d) v) h') := by
  by_cases hr : ∃ d k q, y = .r d k q
  · obtain ⟨d, k, q, rfl⟩ := hr
    obtain ⟨_, c, rs', v, rfl, hv, hp⟩ := rd_sop x hs hop e
    have fin : After N β s h ⟨sset d c s.T, s.H, s.n, s.ck, rs', s.E⟩ (put Tc (dn (some d)) v) h := ⟨⟨β, Bk.le_refl _, put_dn x.1 (some d) hv, x.2⟩, Keep.refl _ _ _, fun _ => Nat.le_refl _⟩
    rcases hp with ⟨_, hp⟩ | ⟨id, z, _, _, _, _, hp⟩
    · exact (hp.read h).sop fin
    · exact (hp h rfl).sop fin
  · obtain ⟨d, q, v, H, n, ck, hd, ea, _, sop, _⟩ := act_sop hc x (fun d k q e => hr ⟨d, k, q, e⟩) hpl hs hop e
    exact sop.mono fun u h' a => by rw [← hd]; exact (aft_after x ea a).1
theorem gos_sops {M : Nat} {ops : Array Oper} {Q : Tm → Heap → Prop} (hc : CfOk N cf) : ∀ (l : List EN) (os : List Oper) {s s' : St} {β : Bk} {h : Heap} {Tc : Tm}, os.map (strip3 ops) = l.map EN.strip → l.all (fun y => y.side N && y.okN M && (y.plain || (match y with | .gd _ _ _ => true | _ => false))) = true →
    Sem N β s h Tc → gos cf l s = some s' → (∀ T' h', After N β s h s' T' h' → Q T' h') → sops P M ops Q os Tc h
  | [], os, s, s', β, h, Tc, hm, _, x, e, hq => by
    cases os with
    | cons o os => simp at hm
    | nil => cases e; exact hq _ _ (.here x)
  | y :: l, os, s, s', β, h, Tc, hm, hl, x, e, hq => by
    cases os with
    | nil => simp at hm
    | cons o os =>
      simp only [List.map_cons, List.cons.injEq] at hm
      simp only [List.all_cons, Bool.and_eq_true] at hl
      obtain ⟨⟨⟨hside, hok⟩, hform⟩, hl⟩ := hl
      rw [gos_cons] at e
      simp only [EN.okN, Bool.and_eq_true] at hok
      obtain ⟨f1, f2, f3, f4⟩ := strip_spec hm.1 hok.2
      cases hgo : y.go cf s with
      | none => rw [hgo] at e; cases e
      | some s1 =>
        rw [hgo] at e
        simp only at e
        have next : ∀ v h1, After N β s h s1 (put Tc o.dst v) h1 → sops P M ops Q os (put Tc o.dst v) h1 := fun v h1 a => by
          obtain ⟨⟨β1, l1, x1⟩, k1, m1⟩ := a
          exact gos_sops hc l os hm.2 hl x1 e fun T' h' b => hq T' h' (b.trans l1 k1 m1)
        refine ⟨fun t ht => ?_, ?_⟩
        · rw [f1] at ht
          cases hd : y.d with
          | none => rw [hd] at ht; cases ht
          | some p => rw [hd] at ht; cases ht; have := hok.1; rw [hd] at this; exact of_decide_eq_true this
        cases hpl : y.plain with
        | true =>
          have hgn : y.gu = none := by cases y <;> first | rfl | cases hpl
          have hw : want ops Tc o = true := Sl.want_none (f3 hgn)
          rw [hw]
          exact (plain_sop hc x hpl hside f2 hgo).mono fun v h' a => next v h' (by rw [f1]; exact a)
        | false =>
          rw [hpl] at hform
          cases y with
          | gd p b z =>
            simp only [EN.side, Bool.and_eq_true] at hside
            obtain ⟨w1, w2⟩ := want_gd (Tc := Tc) (f4 _ _ rfl)
            rcases gd_go x hgo with ⟨h1, h2⟩ | ⟨h1, h2⟩
            · rw [w1 h1]
              exact (plain_sop hc x hside.1 hside.2 f2 h2).mono fun v h' a => next v h' (by rw [f1]; exact a)
            · rw [w2 h1]
              simp only [Bool.false_eq_true, if_false]
              refine next _ _ ?_
              rw [f1, h2]
              have := After.here (N := N) (skip_after x z.d)
              obtain ⟨⟨β2, l2, x2⟩, k2, m2⟩ := this
              exact ⟨⟨β2, l2, x2⟩, k2, m2⟩
          | _ => cases hform
end
end Go.Proofs.YtfbjgbecabbdnaaGreatDoor.Ce

/- The evaluator: a region that draws its order. -/
set_option linter.unusedVariables false
set_option linter.unusedSimpArgs false
namespace Go.Proofs.YtfbjgbecabbdnaaGreatDoor.Ce
open Go.Proofs.YtfbjgbecabbdnaaGreatDoor.Sl
open Ab (isOne isMany isSl isArr isIntT isStr zeroIs okCall)
variable {P : Program}
def RsOk (β : Bk) (s : St) : Prop := ∀ e ∈ s.rs, (hget e.1 s.H).live = true ∧ (hget e.1 s.H).st = e.2 ∧ ∃ x, β e.1 = some x
def FOk (F : List RdA) (β : Bk) (s : St) (h : Heap) : Prop := ∀ A ∈ F, ∀ g : Heap, (∀ e ∈ s.rs, ∀ x, β e.1 = some x → g x.b = h x.b) → A.on g
def EOk (N : Kn P) (E : Env) (β : Bk) (s : St) : Prop := ∀ i y, lookE i s.E = some y → ∃ len, y.o.st = 0 ∧ ∀ (β' : Bk) (n : Id) (b : Nat) (h : Heap), β.le (β'.put n ⟨b, len⟩) → ORp N.toKy (β'.put n ⟨b, len⟩) (h.set b (E i).1) ⟨b, len⟩ y.o ∧ VR (β'.put n ⟨b, len⟩) (y.v n) ((E i).2 b)
/-- A read that is noted, an act that is quiet, or not. -/
def EN.qOk (loud : List Nat) (i : Nat) : EN → Bool
  | .r _ _ q => q
  | .a _ _ q | .cl _ _ _ _ q | .cv _ _ _ _ q => loud.contains i == !q
  | _ => false
def dside (N : Kn P) (pp loud : List Nat) : Nat × EN → Bool
  | (i, .pre j d k) => Nat.beq i j && k.side N
  | (i, .bnd j d k) => Nat.beq i j && pp.contains i
  | (i, .gd p b y) => !pp.contains i && y.plain && y.side N && y.qOk loud i && decide (p.nat - 1 < 1000000000)
  | (i, y) => !pp.contains i && y.side N && y.qOk loud i
def ent : Nat × EN → Ent
  | (i, .pre _ _ _) => (i, false)
  | (i, _) => (i, true)
theorem ent_plain {i : Nat} {y : EN} (h : y.plain = true) : ent (i, y) = (i, true) := by cases y <;> first | rfl | cases h
theorem dside_plain {N : Kn P} {pp loud : List Nat} {i : Nat} {y : EN} (h : y.plain = true) (hd : dside N pp loud (i, y) = true) : i ∉ pp ∧ y.side N = true ∧ y.qOk loud i = true := by
  cases y <;> first | (cases h; done) | (simp only [dside, Bool.and_eq_true, Bool.not_eq_true', List.contains_eq_mem, decide_eq_false_iff_not] at hd; exact ⟨hd.1.1, hd.1.2, hd.2⟩)
section
variable {N : Kn P} {β β' : Bk} {s s' s1 : St} {h h' h1 : Heap} {Tc Tc' : Tm} {o : Oper} {cf : CF} {M : Nat} {ops : Array Oper} {pp loud : List Nat} {Q : Tm → Heap → Prop} {F : List RdA} {E : Env}
theorem EOk.le (x : EOk N E β s) (l : β.le β') (e : s'.E = s.E) : EOk N E β' s' := fun i y hy => by
  rw [e] at hy
  obtain ⟨len, h0, h1⟩ := x i y hy
  exact ⟨len, h0, fun β2 n b h le => h1 β2 n b h (Bk.le_trans l le)⟩
theorem lookE_cons (i j : Nat) (y : Al) (l : List (Nat × Al)) : lookE i ((j, y) :: l) = if i = j then some y else lookE i l := by
  show (bif Nat.beq i j then some y else lookE i l) = _
  by_cases e : i = j
  · subst e; rw [Nat.beq_refl]; simp
  · rw [if_neg e]
    cases hb : Nat.beq i j with
    | true => exact absurd (Nat.eq_of_beq_eq_true hb) e
    | false => rfl
/-- A plain entry whose guard lets it. -/
theorem draw_plain (hc : CfOk N cf) {i : Nat} {y : EN} {r : List Ent} (hpl : y.plain = true) (hpp : i ∉ pp) (hs : y.side N = true) (hq : y.qOk loud i = true) (hop : (opAt ops i).op = y.op) (hdst : (opAt ops i).dst = dn y.d) (hw : want ops Tc (opAt ops i) = true)
    (x : Sem N β s h Tc) (rs : RsOk β s) (fo : FOk F β s h) (eo : EOk N E β s) (e : y.go cf s = some s1)
    (next : ∀ (β1 : Bk) (h1 : Heap) (v : Value) (F1 : List RdA), β.le β1 → Sem N β1 s1 h1 (put Tc (dn y.d) v) → RsOk β1 s1 → FOk F1 β1 s1 h1 → EOk N E β1 s1 → Keep β s.H s1.H h h1 → (∀ p, (hget p s.H).st ≤ (hget p s1.H).st) → sdraw P M ops pp loud Q r (put Tc (dn y.d) v) h1 F1 E) :
    sdraw P M ops pp loud Q ((i, true) :: r) Tc h F E := by
  simp only [sdraw, hpp, if_false, hw, if_true, hdst]
  by_cases hr : ∃ d k q, y = .r d k q
  · obtain ⟨d, k, q, rfl⟩ := hr
    have hq : q = true := hq
    subst hq
    obtain ⟨hact, c, rs', v, hs1, hv, hp⟩ := rd_sop x hs hop e
    have sem1 : Sem N β s1 h (put Tc (dn (some d)) v) := by rw [hs1]; exact ⟨put_dn x.1 (some d) hv, x.2⟩
    have kp : Keep β s.H s1.H h h := by rw [hs1]; exact Keep.refl _ _ _
    have mo : ∀ p, (hget p s.H).st ≤ (hget p s1.H).st := by rw [hs1]; exact fun p => Nat.le_refl _
    have eo1 : EOk N E β s1 := eo.le (Bk.le_refl _) (by rw [hs1])
    simp only [hact, Bool.false_eq_true, if_false]
    rcases hp with ⟨hrs, hp⟩ | ⟨id, z, hrs, hz, hlive, hisr, hp⟩
    · have rs1 : RsOk β s1 := by rw [hs1, hrs]; exact rs
      split
      · refine ⟨v, rdNone, trivial, fun g _ => hp.read g, next β h v _ (Bk.le_refl _) sem1 rs1 (fun A hA g hg => ?_) eo1 kp mo⟩
        rcases List.mem_cons.1 hA with rfl | hA
        · trivial
        · exact fo A hA g (by rw [hs1, hrs] at hg; exact hg)
      · refine ⟨v, hp, next β h v F (Bk.le_refl _) sem1 rs1 (fun A hA g hg => fo A hA g (by rw [hs1, hrs] at hg; exact hg)) eo1 kp mo⟩
    · simp only [if_true] at hrs
      rw [hisr]
      simp only [if_true]
      have hsome := x.2.at_ id z hz hlive
      obtain ⟨ob, hob⟩ : ∃ ob, h z.b = some ob := by
        cases e1 : h z.b with
        | none => exact absurd e1 hsome
        | some ob => exact ⟨ob, rfl⟩
      refine ⟨v, rdAt [z.b] h, fun b hb y' e1 => e1, fun g hg => hp g ?_, next β h v _ (Bk.le_refl _) sem1 ?_ (fun A hA g hg => ?_) eo1 kp mo⟩
      · rw [hob]; exact hg z.b (by simp) ob hob
      · rw [hs1, hrs]
        intro e1 he1
        rcases List.mem_cons.1 he1 with rfl | he1
        · exact ⟨hlive, rfl, z, hz⟩
        · exact rs e1 he1
      · rw [hs1, hrs] at hg
        rcases List.mem_cons.1 hA with rfl | hA
        · intro b hb y' e1
          have hb : b = z.b := by simpa using hb
          subst hb
          rw [hg _ List.mem_cons_self z hz]; exact e1
        · exact fo A hA g fun e1 he1 => hg e1 (List.mem_cons_of_mem _ he1)
  · obtain ⟨d, q, v, H, n, ck, hd, ea, hact, sop, hqq⟩ := act_sop hc x (fun d k q e => hr ⟨d, k, q, e⟩) hpl hs hop e
    have hloud : loud.contains i = !q := by
      cases y <;> first | (cases hpl; done) | (exact absurd ⟨_, _, _, rfl⟩ hr) | (simp only [EN.qOk, beq_iff_eq] at hq; simp only at hqq; subst hqq; exact hq)
    simp only [hact, if_true]
    cases q with
    | false =>
      have hin : i ∈ loud := by simpa using hloud
      rw [if_pos hin]
      refine sop.mono fun u h2 a => ?_
      obtain ⟨⟨⟨β2, l2, x2⟩, k2, m2⟩, eH, eE, _, er⟩ := aft_after x ea a
      rw [← hd]
      rw [← hd] at next
      exact next β2 h2 u [] l2 x2 (fun e1 he1 => by rw [er rfl] at he1; cases he1) (fun A hA => by cases hA) (eo.le l2 eE) k2 m2
    | true =>
      have hin : i ∉ loud := by simpa using hloud
      rw [if_neg hin]
      refine sop.mono fun u h2 a => ?_
      obtain ⟨⟨⟨β2, l2, x2⟩, k2, m2⟩, eH, eE, eq, _⟩ := aft_after x ea a
      obtain ⟨eq1, eq2⟩ := eq rfl
      have st : ∀ e1 ∈ s.rs, hget e1.1 s1.H = hget e1.1 s.H ∧ ∀ z, β e1.1 = some z → h2 z.b = h z.b := fun e1 he1 => by
        obtain ⟨r1, r2, z, r3⟩ := rs e1 he1
        rw [quietOk_eq] at eq1
        have q1 := List.all_eq_true.1 eq1 e1 he1
        have q1 := Nat.eq_of_beq_eq_true q1
        rw [← eH] at q1
        obtain ⟨k3, k4⟩ := (k2 e1.1 z r3 r1).2 (by rw [q1, r2])
        exact ⟨k3, fun z' hz' => by rw [r3] at hz'; cases hz'; exact k4⟩
      refine ⟨fun A hA _ => fo A hA h2 fun e1 he1 z hz => (st e1 he1).2 z hz, ?_⟩
      rw [← hd]
      rw [← hd] at next
      refine next β2 h2 u F l2 x2 (fun e1 he1 => ?_) (fun A hA g hg => ?_) (eo.le l2 eE) k2 m2
      · rw [eq2] at he1
        obtain ⟨r1, r2, z, r3⟩ := rs e1 he1
        rw [(st e1 he1).1]
        exact ⟨r1, r2, z, l2 _ _ r3⟩
      · refine fo A hA g fun e1 he1 z hz => ?_
        rw [hg e1 (by rw [eq2]; exact he1) z (l2 _ _ hz), (st e1 he1).2 z hz]
theorem gos_sdraw (hc : CfOk N cf) : ∀ (l : List (Nat × EN)) {s s' : St} {β : Bk} {h : Heap} {Tc : Tm} {F : List RdA} {E : Env}, (∀ e ∈ l, strip3 ops (opAt ops e.1) = e.2.strip) → l.all (dside N pp loud) = true →
    Sem N β s h Tc → RsOk β s → FOk F β s h → EOk N E β s → gos cf (l.map (·.2)) s = some s' → (∀ T' h', After N β s h s' T' h' → Q T' h') → sdraw P M ops pp loud Q (l.map ent) Tc h F E
  | [], s, s', β, h, Tc, F, E, _, _, x, _, _, _, e, hq => by cases e; exact hq _ _ (.here x)
  | (i, y) :: l, s, s', β, h, Tc, F, E, hm, hl, x, rs, fo, eo, e, hq => by
    simp only [List.all_cons, Bool.and_eq_true] at hl
    have hstrip := hm _ List.mem_cons_self
    have hm' : ∀ e ∈ l, strip3 ops (opAt ops e.1) = e.2.strip := fun e he => hm e (List.mem_cons_of_mem _ he)
    simp only [List.map_cons] at e
    rw [gos_cons] at e
    cases hgo : y.go cf s with
    | none => rw [hgo] at e; cases e
    | some s1 =>
      rw [hgo] at e
      simp only at e
      have ih : ∀ {β1 : Bk} {h1 : Heap} {T1 : Tm} {F1 : List RdA} {E1 : Env}, β.le β1 → Sem N β1 s1 h1 T1 → RsOk β1 s1 → FOk F1 β1 s1 h1 → EOk N E1 β1 s1 → Keep β s.H s1.H h h1 → (∀ p, (hget p s.H).st ≤ (hget p s1.H).st) → sdraw P M ops pp loud Q (l.map ent) T1 h1 F1 E1 :=
        fun l1 x1 r1 f1 e1 k1 m1 => gos_sdraw hc l hm' hl.2 x1 r1 f1 e1 e fun T' h' b => hq T' h' (b.trans l1 k1 m1)
      by_cases hpl : y.plain = true
      · obtain ⟨g1, g2, g3⟩ := dside_plain hpl hl.1
        have hgn : y.gu = none := by cases y <;> first | rfl | cases hpl
        obtain ⟨f1, f2, f3, f4⟩ := strip_spec hstrip (by rw [hgn])
        simp only [List.map_cons]
        rw [ent_plain hpl]
        exact draw_plain hc hpl g1 g2 g3 f2 f1 (Sl.want_none (f3 hgn)) x rs fo eo hgo fun β1 h1 v F1 l1 x1 r1 fo1 eo1 k1 m1 => ih l1 x1 r1 fo1 eo1 k1 m1
      · cases y with
        | r _ _ _ => exact absurd rfl hpl
        | a _ _ _ => exact absurd rfl hpl
        | cl _ _ _ _ _ => exact absurd rfl hpl
        | cv _ _ _ _ _ => exact absurd rfl hpl
        | gd p b y =>
          have hd := hl.1
          simp only [dside, Bool.and_eq_true, Bool.not_eq_true', List.contains_eq_mem, decide_eq_false_iff_not] at hd
          obtain ⟨⟨⟨⟨d1, d2⟩, d3⟩, d4⟩, d5⟩ := hd
          obtain ⟨f1, f2, f3, f4⟩ := strip_spec hstrip d5
          obtain ⟨w1, w2⟩ := want_gd (Tc := Tc) (f4 _ _ rfl)
          show sdraw P M ops pp loud Q ((i, true) :: l.map ent) Tc h F E
          rcases gd_go x hgo with ⟨h1, h2⟩ | ⟨h1, h2⟩
          · exact draw_plain hc d2 d1 d3 d4 f2 f1 (w1 h1) x rs fo eo h2 fun β1 h1 v F1 l1 x1 r1 fo1 eo1 k1 m1 => ih l1 x1 r1 fo1 eo1 k1 m1
          · simp only [sdraw, d1, if_false, w2 h1, Bool.false_eq_true]
            have f1' : (opAt ops i).dst = dn y.d := f1
            rw [f1']
            have sk := skip_after x y.d
            rw [← h2] at sk
            exact ih (Bk.le_refl _) sk (by rw [h2]; exact rs) (fun A hA g hg => fo A hA g (by rw [h2] at hg; exact hg)) (eo.le (Bk.le_refl _) (by rw [h2])) (by rw [h2]; exact Keep.refl _ _ _) (by rw [h2]; exact fun p => Nat.le_refl _)
        | pre j d k =>
          have hd := hl.1
          simp only [dside, Bool.and_eq_true] at hd
          have hij := Nat.eq_of_beq_eq_true hd.1
          subst hij
          obtain ⟨f1, f2, f3, f4⟩ := strip_spec (o := opAt ops i) hstrip rfl
          have e0 : stPre i d k cf s = some s1 := hgo
          rw [stPre_eq] at e0
          have ok := al_ok (N := N) (ck := 0) x.1 hd.2 f2
          split at e0
          · rename_i z hz
            rw [hz] at ok
            cases e0
            obtain ⟨obj, vf, len, al, hst, hk⟩ := ok
            show sdraw P M ops pp loud Q ((i, false) :: l.map ent) Tc h F E
            refine ⟨obj, vf, al, ih (Bk.le_refl _) x rs fo (fun i' y' hy' => ?_) (Keep.refl _ _ _) (fun p => Nat.le_refl _)⟩
            rw [lookE_cons] at hy'
            by_cases hii : i' = i
            · rw [if_pos hii] at hy'
              cases hy'
              refine ⟨len, hst, ?_⟩
              simp only [Env.put, hii, if_true]
              exact hk
            · rw [if_neg hii] at hy'
              simp only [Env.put, hii, if_false]
              exact eo i' y' hy'
          · cases e0
        | bnd j d k =>
          have hd := hl.1
          simp only [dside, Bool.and_eq_true, List.contains_eq_mem, decide_eq_true_eq] at hd
          have hij := Nat.eq_of_beq_eq_true hd.1
          subst hij
          obtain ⟨f1, f2, f3, f4⟩ := strip_spec (o := opAt ops i) hstrip rfl
          have e0 : stBnd i d k cf s = some s1 := hgo
          rw [stBnd_eq] at e0
          split at e0
          · rename_i z hz
            cases e0
            obtain ⟨len, hst, hk⟩ := eo i z hz
            show sdraw P M ops pp loud Q ((i, true) :: l.map ent) Tc h F E
            simp only [sdraw, hd.2, if_true]
            intro b hb
            obtain ⟨o1, o2⟩ := hk β s.n b h (x.2.put_le _)
            have hr := x.2.alloc hb o1 (by rw [hst]; exact Nat.zero_le _)
            have f1' : (opAt ops i).dst = dn (some d) := f1
            rw [f1']
            have ne : ∀ e1 ∈ s.rs, e1.1 ≠ s.n := fun e1 he1 e2 => by
              obtain ⟨_, _, z', hz'⟩ := rs e1 he1
              rw [e2, x.2.nn] at hz'; cases hz'
            refine ih (x.2.put_le _) ⟨(x.1.le (x.2.put_le _)).put d o2, hr⟩ (fun e1 he1 => ?_) (fun A hA g hg => fo A hA g fun e1 he1 z' hz' => ?_) (eo.le (x.2.put_le _) rfl) (x.2.alloc_keep _ hb) (st_new x.2 _)
            · obtain ⟨r1, r2, z', r3⟩ := rs e1 he1
              show (hget e1.1 (hset s.n z.o s.H)).live = true ∧ _
              rw [hget_ne (ne e1 he1)]
              exact ⟨r1, r2, z', x.2.put_le _ _ _ r3⟩
            · rw [hg e1 he1 z' (x.2.put_le _ _ _ hz')]
              obtain ⟨r1, _⟩ := rs e1 he1
              exact Heap.set_other _ _ fun e2 => x.2.at_ e1.1 z' hz' r1 (by rw [e2]; exact hb)
          · cases e0
end
end Go.Proofs.YtfbjgbecabbdnaaGreatDoor.Ce
