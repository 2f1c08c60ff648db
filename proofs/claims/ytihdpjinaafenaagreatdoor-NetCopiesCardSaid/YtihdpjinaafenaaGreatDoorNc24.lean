import Derived.Test.YtihdpjinaafenaaGreatDoorNc23
import Derived.Test.YtihdpjinaafenaaGreatDoorProg
noncomputable section
/- An empty slice of one's own. -/
set_option linter.unusedVariables false
set_option linter.unusedSimpArgs false
namespace Go.Proofs.YtihdpjinaafenaaGreatDoor.Ab
open Go.Proofs.YtihdpjinaafenaaGreatDoor.Sl
def setT : AT → Nat → AV → AT
 | [], _, _ => []
 | e :: r, i, x => if e.1 = i then (i, x) :: r else e :: setT r i x
theorem setT_mem {i : Nat} {x : AV} : ∀ {T : AT}, ∀ e ∈ setT T i x, e ∈ T ∨ e = (i, x)
 | [], e, he => by cases he
 | a :: r, e, he => by
  unfold setT at he
  split at he
  ·rcases List.mem_cons.1 he with rfl | he
   ·exact .inr rfl
   ·exact .inl (List.mem_cons_of_mem _ he)
  ·rcases List.mem_cons.1 he with rfl | he
   ·exact .inl List.mem_cons_self
   ·exact (setT_mem e he).imp (List.mem_cons_of_mem _) id
theorem lookT_mem' {T : AT} {i : Nat} {x : AV} (h : lookT T i = some x) : (i, x) ∈ T := by
 induction T with
 | nil => cases h
 | cons e r ih =>
  unfold lookT at h
  split at h
  ·rename_i h1
   cases h
   rw [← h1]; exact List.mem_cons_self
  ·exact List.mem_cons_of_mem _ (ih h)
section
variable {P : Program} {N : Nat} {h0 : Gd} {Q : Exit → Tm → Heap → Prop} {T : AT} {σ : AS} {r : List Code}
theorem a_nilown (i id : Nat) (t : TypeId) (sz : Nat) (e : lookT T i = some (.fz (.val (.slice none 0 0)))) (hd : okNew id T [] σ = true) (k : AC P N h0 r Q (setT T i (.os id)) ((id, .rows t sz []) :: σ)) : AC P N h0 r Q T σ := by
 intro β hF h Tc sem
 simp only [okNew, Bool.and_eq_true] at hd
 obtain ⟨⟨⟨hT, _⟩, hS⟩, hid⟩ := hd
 have hid := of_decide_eq_true hid
 have hT := nmT_spec hT
 have hS := nmS_spec hS
 have hb : ∀ j, j ≠ id → (fun j => if j = id then Value.slice none 0 0 else β j) j = β j := fun j hj => if_neg hj
 generalize hβ : (fun j => if j = id then Value.slice none 0 0 else β j) = β' at hb
 have hbi : β' id = .slice none 0 0 := by rw [← hβ]; exact if_pos rfl
 have nofp : ∀ b, ¬ fpOf (β' id) (.rows t sz []) b := fun b h => by simp only [fpOf, hbi, baseOf] at h; cases h
 refine k β' hF h Tc ⟨⟨sem.ok.le0, sem.ok.le, fun e he => ?_, fun e he b h1 => ?_, fun e he e' he' b hne h1 => ?_, fun j hj => by rw [hb j (by omega)]; exact sem.ok.fix j hj, ?_⟩, fun e he hl => ?_, fun e he => (by cases he), fun e he => (by cases he)⟩
 ·rcases List.mem_cons.1 he with rfl | he
  ·exact ⟨[], by simp only [hbi]; exact .nil, by simp, by simp, ⟨rfl, fun j c v a => by simp at a⟩⟩
  ·exact (sem.ok.ok e he).fr (Heap.le_refl _) (fun _ _ => rfl) (hb _ (hS e he).1) (fun c hc j hj => hb j fun e1 => (hS e he).2 c hc (by rw [hj, e1]))
 ·rcases List.mem_cons.1 he with rfl | he
  ·exact absurd h1 (nofp b)
  ·rw [hb _ (hS e he).1] at h1; exact sem.ok.out e he b h1
 ·rcases List.mem_cons.1 he with rfl | he
  ·exact absurd h1 (nofp b)
  ·rcases List.mem_cons.1 he' with rfl | he'
   ·exact nofp b
   ·rw [hb _ (hS e he).1] at h1
    rw [hb _ (hS e' he').1]
    exact sem.ok.sep e he e' he' b hne h1
 ·simp only [List.map_cons, List.nodup_cons]
  refine ⟨fun h1 => ?_, sem.ok.nd⟩
  obtain ⟨e, he, h2⟩ := List.mem_map.1 h1
  exact (hS e he).1 h2
 ·rcases setT_mem e he with he | rfl
  ·exact (sem.t e he (fun _ h => by cases h)).to (Heap.le_refl _) fun j hj => hb j fun e1 => hT e he (by rw [hj, e1])
  ·have h1 := sem.t _ (lookT_mem' e) (fun _ h => by cases h)
   have h2 := fz_val h1
   simp only at h2 ⊢
   rw [h2, ← hbi]
   exact .os _
theorem a_shrink {id : Nat} {D D' : Nat → Prop} {Φ Φ' : Value → Heap → Prop} (hσ : lookS σ id = some (.ext D' Φ')) (sub : ∀ b, D b → D' b) (hb : ∀ β : Nat → Value, ∀ h, Φ' (β id) h → ∀ b, baseOf (β id) = some b → D b) (hs : ∀ v h, Φ' v h → Φ v h) (hst : ∀ v h h', Φ v h → (∀ b, D b → h' b = h b) → Φ v h') (k : AC P N h0 r Q T (setS σ id (.ext D Φ))) : AC P N h0 r Q T σ := by
 intro β hF h Tc sem
 have hm := lookS_mem hσ
 obtain ⟨k1, k2, k3⟩ := sem.ok.ok _ hm
 have hΦ := k3 h fun _ _ => rfl
 refine k β hF h Tc ⟨⟨sem.ok.le0, sem.ok.le, fun e he => ?_, fun e he b h1 => ?_, fun e he e' he' b hne h1 => ?_, sem.ok.fix, by rw [setS_keys]; exact sem.ok.nd⟩, sem.t, sem.l, sem.g⟩
 ·rcases setS_mem sem.ok.nd e he with rfl | ⟨he, hne⟩
  ·exact ⟨fun b h1 => hb β h hΦ b h1, fun b h1 => k2 b (sub b h1), fun h' h1 => hst _ h h' (hs _ _ hΦ) h1⟩
  ·exact sem.ok.ok e he
 ·rcases setS_mem sem.ok.nd e he with rfl | ⟨he, hne⟩
  ·exact sem.ok.out _ hm b (sub b h1)
  ·exact sem.ok.out e he b h1
 ·rcases setS_mem sem.ok.nd e he with rfl | ⟨he, hn1⟩ <;> rcases setS_mem sem.ok.nd e' he' with rfl | ⟨he', hn2⟩
  ·exact absurd rfl hne
  ·exact sem.ok.sep _ hm e' he' b hne (sub b h1)
  ·exact fun h2 => sem.ok.sep e he _ hm b hne h1 (sub b h2)
  ·exact sem.ok.sep e he e' he' b hne h1
def delS (id : Nat) : AS → AS
 | [] => []
 | e :: r => if e.1 = id then delS id r else e :: delS id r
end
end Go.Proofs.YtihdpjinaafenaaGreatDoor.Ab

/- The order of things; those of a kind; what All answers. -/
set_option linter.unusedVariables false
set_option linter.unusedSimpArgs false
namespace Go.Proofs.YtihdpjinaafenaaGreatDoor
open Sl Ab Go.Sort
def addB (D : Nat → Prop) (it b : Nat) : Prop := D b ∨ b = it
def restOf (K V : Ey ThK → FV) : Option (Ey ThK) → List FV
 | none => []
 | some e => [K e, V e]
def seenOf (seen : List Nat) : Option (Ey ThK) → List Nat
 | none => seen
 | some e => seen ++ [e.born]
theorem compare_p (a b : ThK) : PureCall Tryz.prog 142 [.agg (encTh a), .agg (encTh b)] (vI (cmpT a b)) := by
 intro h vs r
 obtain ⟨v1, vs, rfl, r1, r⟩ := r.uncons
 obtain ⟨v2, vs, rfl, r2, r⟩ := r.uncons
 have : vs = [] := List.length_eq_zero_iff.1 r.1
 subst this
 cases thV_of r1
 cases thV_of r2
 refine (compare_ok a b h).mono ?_
 rintro r h' ⟨hle, rfl⟩
 exact ⟨hle, .val _⟩
instance : Inhabited AT := ⟨⟨kzero, 0, mzero⟩⟩
def cmpA (x y : AT) : Int := cmpT x.key y.key
theorem cmpT_lt (a b : ThK) : cmpT a b < 0 ↔ a.1.1 < b.1.1 ∨ (a.1.1 = b.1.1 ∧ (a.1.2.1 < b.1.2.1 ∨ (a.1.2.1 = b.1.2.1 ∧ (a.2.2 < b.2.2 ∨ (a.2.2 = b.2.2 ∧ (a.2.1 < b.2.1 ∨ (a.2.1 = b.2.1 ∧ a.1.2.2 < b.1.2.2))))))) := by
 unfold cmpT
 have h : ∀ (x y : Int) (l : List Int), orI (cmpI x y :: l) < 0 ↔ x < y ∨ (x = y ∧ orI l < 0) := by
  intro x y l
  unfold cmpI orI
  rcases Int.lt_trichotomy x y with h | h | h
  ·simp [h]
  ·subst h; simp
  ·have h1 : ¬ x < y := by omega
   have h2 : ¬ x = y := by omega
   simp [h1, h2, h]
 rw [h, h, h, h, h]
 simp [orI]
theorem swoA : SWO (ltOf cmpA) where
 irrefl x := by
  simp only [ltOf, cmpA, cmpT_lt, decide_eq_false_iff_not]; omega
 trans x y z h1 h2 := by
  simp only [ltOf, cmpA, cmpT_lt, decide_eq_true_eq] at *; omega
 ntrans x y z h1 h2 := by
  simp only [ltOf, cmpA, cmpT_lt, decide_eq_false_iff_not] at *; omega
def ofKind (kind : Int) (x : AT) : Bool := x.key.1.1 == kind
def selR (kind : Int) (seen : List Nat) (rs : List Rc) : List Rc := rs.filter fun r => decide (r.born ∈ seen) && ofKind kind r.t
theorem selR_step {kind : Int} {rs : List Rc} (nb : (rs.map Rc.born).Nodup) {r : Rc} (hr : r ∈ rs) {seen : List Nat} (hs : r.born ∉ seen) : (selR kind (seen ++ [r.born]) rs).Perm (if ofKind kind r.t = true then selR kind seen rs ++ [r] else selR kind seen rs) := by
 unfold selR
 induction rs with
 | nil => cases hr
 | cons a t ih =>
  simp only [List.map_cons, List.nodup_cons] at nb
  have other : ∀ x ∈ t, x.born = r.born → a ≠ r := fun x hx e e1 => nb.1 (by rw [e1, ← e]; exact List.mem_map.2 ⟨x, hx, rfl⟩)
  by_cases ha : a = r
  ·subst ha
   have htail : (t.filter fun x => decide (x.born ∈ seen ++ [a.born]) && ofKind kind x.t) = t.filter fun x => decide (x.born ∈ seen) && ofKind kind x.t := by
    apply List.filter_congr
    intro x hx
    have : ¬ x.born = a.born := fun e => other x hx e rfl
    simp [this]
   rw [List.filter_cons, List.filter_cons, htail]
   have h1 : decide (a.born ∈ seen) = false := by simpa using hs
   rw [h1]
   simp only [List.mem_append, List.mem_singleton, or_true, decide_true, Bool.true_and, Bool.false_and, Bool.false_eq_true, if_false]
   split
   ·exact (List.perm_append_singleton a _).symm
   ·exact .refl _
  ·have hr' : r ∈ t := by
    rcases List.mem_cons.1 hr with h | h
    ·exact absurd h.symm ha
    ·exact h
   have hab : ¬ a.born = r.born := fun e => nb.1 (by rw [e]; exact List.mem_map.2 ⟨r, hr', rfl⟩)
   have ih' := ih nb.2 hr'
   rw [List.filter_cons, List.filter_cons]
   have h1 : decide (a.born ∈ seen ++ [r.born]) = decide (a.born ∈ seen) := by simp [hab]
   rw [h1]
   by_cases hc : (decide (a.born ∈ seen) && ofKind kind a.t) = true
   ·rw [if_pos hc, if_pos hc]
    by_cases hk : ofKind kind r.t = true
    ·rw [if_pos hk] at ih' ⊢; exact ih'.cons a
    ·rw [if_neg hk] at ih' ⊢; exact ih'.cons a
   ·rw [if_neg hc, if_neg hc]; exact ih'
theorem selR_all {kind : Int} {rs : List Rc} {seen : List Nat} (h : ∀ r ∈ rs, r.born ∈ seen) : selR kind seen rs = rs.filter fun r => ofKind kind r.t := by
 unfold selR
 apply List.filter_congr
 intro x hx
 simp [h x hx]
def AllAns (ts : List AT) (kind : Int) (l : List AT) : Prop := l.Perm (ts.filter (ofKind kind)) ∧ ∀ i j, i < j → j < l.length → ¬ cmpA (l.getD j default) (l.getD i default) < 0
theorem ans_of {ts : List AT} {kind : Int} {out : List AT} (hp : out.Perm (ts.filter (ofKind kind))) {d : Array AT} (hd : PermIn 0 out.toArray.size out.toArray d ∧ SortedIn (ltOf cmpA) 0 out.toArray.size d) : AllAns ts kind d.toList := by
 obtain ⟨⟨hsz, _, hpm⟩, hs⟩ := hd
 have e1 : d.extract 0 out.toArray.size = d := by rw [← hsz]; simp
 have e2 : out.toArray.extract 0 out.toArray.size = out.toArray := by simp
 rw [e1, e2] at hpm
 refine ⟨hpm.trans hp, fun i j hij hj h => ?_⟩
 have := hs i j (Nat.zero_le _) hij (by rw [← hsz]; simpa using hj)
 simp only [ltOf, decide_eq_false_iff_not] at this
 have g : ∀ k, k < d.toList.length → d.toList.getD k default = d[k]! := fun k hk => by
  have hk' : k < d.size := by simpa using hk
  simp [hk', List.getD_eq_getElem?_getD]
 rw [g i (by omega), g j hj] at h
 exact this h
end Go.Proofs.YtihdpjinaafenaaGreatDoor

/- The table gone through: rules; what else is known of the heap stays. -/
set_option linter.unusedVariables false
set_option linter.unusedSimpArgs false
namespace Go.Proofs.YtihdpjinaafenaaGreatDoor
open Sl Ab
def phX (X : Heap → Prop) (tl : List Value) (p : Nat) (ty : TypeId) (mv : Value) (l : List (Ey ThK)) (cl : Nat) (io : Option (Nat × List Nat)) (v : Value) (h : Heap) : Prop :=
 v = .pointer (some ⟨p, 0, none⟩) ∧ h p = some (.cells (mv :: tl).toArray ty (0, 0)) ∧ MapV thV h mv l cl ∧ (∀ it seen, io = some (it, seen) → ItV h it mv cl seen) ∧ X h
section
variable {p cl : Nat} {ty : TypeId} {mv : Value} {l : List (Ey ThK)} {D : Nat → Prop} {X : Heap → Prop} {tl : List Value}
theorem phX.same {io : Option (Nat × List Nat)} {v : Value} {h h' : Heap} (x : phX X tl p ty mv l cl io v h) (hp : h' p = h p) (hm : ∀ b, mvB mv b → h' b = h b) (hi : ∀ it seen, io = some (it, seen) → h' it = h it) (hx : X h → X h') : phX X tl p ty mv l cl io v h' :=
 ⟨x.1, by rw [hp]; exact x.2.1, x.2.2.1.same hm, fun it seen e => (x.2.2.2.1 it seen e).same (hi it seen e), hx x.2.2.2.2⟩
variable {N : Nat} {ops : Array Oper} {h0 : Gd} {Qr : Tm → Heap → Prop} {s : St} {az : List AO} {d : Nat} {q : Bool}
theorem oe_base {β : Nat → Value} {hF : Heap} {v : Value} {id p : Nat} (r : ARep β hF (.oe id 1 0 0) v) (hb : β id = .pointer (some ⟨p, 0, none⟩)) : v = .pointer (some ⟨p, 0, none⟩) := by
 cases r with
 | oe h => rw [hb] at h; simp only [baseOf, Option.some.injEq] at h; rw [h]
theorem r_ldX {t : TypeId} {x : Operand} (hs : isOne Tryz.prog t = true) (hDp : D p) (hDm : ∀ b, mvB mv b → D b) (hX : ∀ h h' : Heap, (∀ b, D b → h' b = h b) → X h → X h') (hσ : lookS s.σ 1000 = some (.ext D (phX X tl p ty mv l cl none))) (hx : opd s.L s.T [] x = some (.oe 1000 1 0 0))
  (r : Reg Tryz.prog N ops none h0 Qr az ⟨s.T, (d, none, .fz (.val mv)) :: s.L, setS s.σ 1000 (.ext D (phX X tl p ty mv l cl none)), if q = true then s.rs else []⟩) : Reg Tryz.prog N ops none h0 Qr (⟨some d, none, .ld t x, q⟩ :: az) s := by
 refine ext_act hσ (Y := Unit) (fun _ => True) (fun _ => D) (fun _ => phX X tl p ty mv l cl none) (fun _ => .val mv) (fun o ho β hF h Tc sem hΦ dom => ?_) (fun _ _ => r)
 have hv := oe_base (opd_ok sem (ch := []) (fun x hx => by cases hx) hx) hΦ.1
 exact (r_ld1 ho hs hv hΦ.2.1 rfl).sop ⟨(), trivial, .val _, fun _ _ _ e => e, fun _ e => e, fun _ e => .inl e, dom, fun h'' e => hΦ.same (e p hDp) (fun b hb => e b (hDm b hb)) (fun _ _ e => by cases e) (hX _ _ e)⟩
theorem r_rangeX {t e kt : TypeId} {x : Operand} (ht : Tryz.prog.underlying t = some (.map kt e)) (hDp : D p) (hDm : ∀ b, mvB mv b → D b) (hX : ∀ h h' : Heap, (∀ b, D b → h' b = h b) → X h → X h') (hσ : lookS s.σ 1000 = some (.ext D (phX X tl p ty mv l cl none))) (hx : opd s.L s.T [] x = some (.fz (.val mv)))
  (r : ∀ it, ¬ D it → Reg Tryz.prog N ops none h0 Qr az ⟨s.T, (d, none, .fz (.val (.pointer (some ⟨it, 0, none⟩)))) :: s.L, setS s.σ 1000 (.ext (addB D it) (phX X tl p ty mv l cl (some (it, [])))), if q = true then s.rs else []⟩) : Reg Tryz.prog N ops none h0 Qr (⟨some d, none, .other (.range t x), q⟩ :: az) s := by
 refine ext_act hσ (Y := Nat) (fun it => ¬ D it) (fun it => addB D it) (fun it => phX X tl p ty mv l cl (some (it, []))) (fun it => .val (.pointer (some ⟨it, 0, none⟩))) (fun o ho β hF h Tc sem hΦ dom => ?_) (fun it hit => r it hit)
 have hv := fz_val (opd_ok sem (ch := []) (fun x hx => by cases hx) hx)
 refine s_rangeV ho ht hv hΦ.2.2.1 fun it ob hit hI => ?_
 have hnD : ¬ D it := fun hd => dom it hd hit
 have hoth : ∀ b, D b → h.set it ob b = h b := fun b hb => Heap.set_other _ _ fun e => hnD (by rw [← e]; exact hb)
 refine ⟨it, hnD, .val _, fun b o _ e => Heap.le_set ob hit b o e, fun b hb => .inl hb, fun b hb => hb.imp id fun e => by rw [e]; exact hit, fun b hb => ?_, fun h'' e => ?_⟩
 ·rcases hb with hb | rfl
  ·rw [hoth b hb]; exact dom b hb
  ·rw [Heap.set_same]; simp
 ·refine ⟨hΦ.1, by rw [e p (.inl hDp), hoth p hDp]; exact hΦ.2.1, hΦ.2.2.1.same fun b hb => by rw [e b (.inl (hDm b hb)), hoth b (hDm b hb)], fun it' seen e1 => ?_, hX _ _ (fun b hb => by rw [e b (.inl hb), hoth b hb]) hΦ.2.2.2.2⟩
  cases e1
  exact hI.same (e it (.inr rfl))
theorem r_nextX {x : Operand} {it : Nat} {seen : List Nat} (K V : Ey ThK → FV) (hK : ∀ e ∈ l, FRep h0.h (K e) (thV e.key) ∧ FRep h0.h (V e) e.val) (hDp : D p) (hDm : ∀ b, mvB mv b → D b) (hX : ∀ h h' : Heap, (∀ b, D b → h' b = h b) → X h → X h') (hnD : ¬ D it) (hσ : lookS s.σ 1000 = some (.ext (addB D it) (phX X tl p ty mv l cl (some (it, seen))))) (hx : opd s.L s.T [] x = some (.fz (.val (.pointer (some ⟨it, 0, none⟩)))))
  (over : (∀ e ∈ l, e.born ∈ seen) → Reg Tryz.prog N ops none h0 Qr az ⟨s.T, (d, none, .fz (.tup [vB false])) :: s.L, setS s.σ 1000 (.ext (addB D it) (phX X tl p ty mv l cl (some (it, seen)))), if q = true then s.rs else []⟩)
  (step : ∀ e ∈ l, e.born ∉ seen → Reg Tryz.prog N ops none h0 Qr az ⟨s.T, (d, none, .fz (.tup [vB true, K e, V e])) :: s.L, setS s.σ 1000 (.ext (addB D it) (phX X tl p ty mv l cl (some (it, seen ++ [e.born])))), if q = true then s.rs else []⟩) : Reg Tryz.prog N ops none h0 Qr (⟨some d, none, .other (.next x false), q⟩ :: az) s := by
 refine ext_act hσ (Y := Option (Ey ThK)) (fun y => match y with | none => ∀ e ∈ l, e.born ∈ seen | some e => e ∈ l ∧ e.born ∉ seen) (fun _ => addB D it) (fun y => match y with | none => phX X tl p ty mv l cl (some (it, seen)) | some e => phX X tl p ty mv l cl (some (it, seen ++ [e.born]))) (fun y => match y with | none => .tup [vB false] | some e => .tup [vB true, K e, V e]) (fun o ho β hF h Tc sem hΦ dom => ?_) (fun y hy => ?_)
 ·have hv := fz_val (opd_ok sem (ch := []) (fun x hx => by cases hx) hx)
  refine s_nextV ho hv (hΦ.2.2.2.1 it seen rfl) hΦ.2.2.1 (fun hall => ?_) (fun e ob he hs hI => ?_)
  ·have h2 : FReps h0.h [vB false] [.bool false] := .cons (.val _) FReps.nil'
   exact ⟨none, hall, .tup h2.1 h2.2, fun _ _ _ e => e, fun _ e => e, fun _ e => .inl e, dom, fun h'' e => hΦ.same (e p (.inl hDp)) (fun b hb => e b (.inl (hDm b hb))) (fun _ _ e1 => by cases e1; exact e it (.inr rfl)) (hX _ _ fun b hb => e b (.inl hb))⟩
  ·have h2 : FReps h0.h [vB true, K e, V e] [.bool true, thV e.key, e.val] := .cons (.val _) (.cons (hK e he).1 (.cons (hK e he).2 FReps.nil'))
   have hoth : ∀ b, b ≠ it → h.set it ob b = h b := fun b hb => Heap.set_other _ _ hb
   have hpit : p ≠ it := fun e => hnD (by rw [← e]; exact hDp)
   have hmit : ∀ b, mvB mv b → b ≠ it := fun b hb e => hnD (by rw [← e]; exact hDm b hb)
   refine ⟨some e, ⟨he, hs⟩, .tup h2.1 h2.2, fun b o hb e => by rw [hoth b fun e1 => hb (.inr e1)]; exact e, fun _ e => e, fun _ e => .inl e, fun b hb => ?_, fun h'' e1 => ?_⟩
   ·by_cases hbi : b = it
    ·rw [hbi, Heap.set_same]; simp
    ·rw [hoth b hbi]; exact dom b hb
   ·refine ⟨hΦ.1, by rw [e1 p (.inl hDp), hoth p hpit]; exact hΦ.2.1, hΦ.2.2.1.same fun b hb => by rw [e1 b (.inl (hDm b hb)), hoth b (hmit b hb)], fun it' seen' e2 => ?_, hX _ _ (fun b hb => by rw [e1 b (.inl hb), hoth b fun e => hnD (by rw [← e]; exact hb)]) hΦ.2.2.2.2⟩
    cases e2
    exact hI.same (e1 it (.inr rfl))
 ·cases y with
  | none => exact over hy
  | some e => exact step e hy.1 hy.2
theorem r_nextYX {x : Operand} {it : Nat} {seen : List Nat} (K V : Ey ThK → FV) (hK : ∀ e ∈ l, FRep h0.h (K e) (thV e.key) ∧ FRep h0.h (V e) e.val) (hDp : D p) (hDm : ∀ b, mvB mv b → D b) (hX : ∀ h h' : Heap, (∀ b, D b → h' b = h b) → X h → X h') (hnD : ¬ D it) (hσ : lookS s.σ 1000 = some (.ext (addB D it) (phX X tl p ty mv l cl (some (it, seen))))) (hx : opd s.L s.T [] x = some (.fz (.val (.pointer (some ⟨it, 0, none⟩)))))
  (r : ∀ y : Option (Ey ThK), (y = none → ∀ e ∈ l, e.born ∈ seen) → (∀ e, y = some e → e ∈ l ∧ e.born ∉ seen) → Reg Tryz.prog N ops none h0 Qr az ⟨s.T, (d, none, .fz (.tup (vB y.isSome :: restOf K V y))) :: s.L, setS s.σ 1000 (.ext (addB D it) (phX X tl p ty mv l cl (some (it, seenOf seen y)))), if q = true then s.rs else []⟩) : Reg Tryz.prog N ops none h0 Qr (⟨some d, none, .other (.next x false), q⟩ :: az) s :=
 r_nextX K V hK hDp hDm hX hnD hσ hx (fun h => r none (fun _ => h) (fun _ e => by cases e)) (fun e h1 h2 => r (some e) (fun e => by cases e) (fun e' h => by cases h; exact ⟨h1, h2⟩))
theorem r_entryX {x : Operand} {it β' : Nat} {seen : List Nat} {e : Ey ThK} (K V : FV) (hK : FRep h0.h K (thV e.key)) (hV : FRep h0.h V e.val) (he : e ∈ l) (heb : e.born = β') (hDp : D p) (hDm : ∀ b, mvB mv b → D b) (hX : ∀ h h' : Heap, (∀ b, D b → h' b = h b) → X h → X h') (hσ : lookS s.σ 1000 = some (.ext (addB D it) (phX X tl p ty mv l cl (some (it, seen ++ [β']))))) (hx : opd s.L s.T [] x = some (.fz (.val (.pointer (some ⟨it, 0, none⟩)))))
  (r : Reg Tryz.prog N ops none h0 Qr az ⟨s.T, (d, none, .fz (.tup [K, V])) :: s.L, setS s.σ 1000 (.ext (addB D it) (phX X tl p ty mv l cl (some (it, seen ++ [β'])))), if q = true then s.rs else []⟩) : Reg Tryz.prog N ops none h0 Qr (⟨some d, none, .other (.entry x), q⟩ :: az) s := by
 refine ext_act hσ (Y := Unit) (fun _ => True) (fun _ => addB D it) (fun _ => phX X tl p ty mv l cl (some (it, seen ++ [β']))) (fun _ => .tup [K, V]) (fun o ho β hF h Tc sem hΦ dom => ?_) (fun _ _ => r)
 have hv := fz_val (opd_ok sem (ch := []) (fun x hx => by cases hx) hx)
 have h2 : FReps h0.h [K, V] [thV e.key, e.val] := .cons hK (.cons hV FReps.nil')
 exact (r_entryV ho hv (hΦ.2.2.2.1 it _ rfl) hΦ.2.2.1 he heb).sop ⟨(), trivial, .tup h2.1 h2.2, fun _ _ _ e => e, fun _ e => e, fun _ e => .inl e, dom, fun h'' e => hΦ.same (e p (.inl hDp)) (fun b hb => e b (.inl (hDm b hb))) (fun _ _ e1 => by cases e1; exact e it (.inr rfl)) (hX _ _ fun b hb => e b (.inl hb))⟩
end
end Go.Proofs.YtihdpjinaafenaaGreatDoor

/- Sorting rivulet/age.Entry: the walks. -/
set_option linter.unusedVariables false
set_option linter.unusedSimpArgs false
namespace Go.Proofs.YtihdpjinaafenaaGreatDoor.SortE
open Sl Ab Go.Sort
section
variable {α : Type} [Inhabited α] {e : Enc α 15} {cmp : α → α → Int}
theorem ins_ok (c : CmpFn Tryz.prog e cmp) (d : Array α) (a b : Nat) (hb : b ≤ d.size) (hs : d.size ≤ 1000000000) (ha : a ≤ d.size) : GCall Tryz.prog 270 [.os 1000, .fz (vI a), .fz (vI b), .fz c.fv] [(1000, .rows 153 15 (rw e d))] (Array α) (fun d' => d' = insertionSort (ltOf cmp) d a b) (fun d' => [(1000, .rows 153 15 (rw e d'))]) (fun _ => .tup []) := by
 refine g_enter1 Tryz.func270 rfl (fun h0 => ?_)
 simp only [argG]
 have hR : ∀ d : Array α, (rw e d).length = d.size := fun _ => rw_length
 have hw : IntKind.i64.wrap ((a : Int) + 1) = ((a + 1 : Nat) : Int) := wrap64_nat _ _ (by omega) (by omega)
 refine a_seq ?_
 refine a_reg [⟨some 10, none, .mv (tm 1), false⟩, ⟨some 11, none, .bin .add 3 (tm 10) (ci 1) 3, false⟩, ⟨some 8, none, .asg (tm 11), false⟩] kR kR ?_
 refine r_run ?_
 refine r_end [0, 1, 2, 3, 8, 9, 14, 34] ?_
 refine a_block ?_
 refine c_weak [0, 1, 2, 3, 8] ?_
 refine a_loop (fun m T σ => ∃ (i : Nat) (d1 : Array α), m = b - i ∧ a < i ∧ d1.size = d.size ∧ insOuter (ltOf cmp) a b i d1 = insertionSort (ltOf cmp) d a b ∧ T = [(0, .os 1000), (1, .fz (vI a)), (2, .fz (vI b)), (3, .fz c.fv), (8, .fz (vI i))] ∧ σ = [(1000, .rows 153 15 (rw e d1))]) (b - (a + 1)) (⟨a + 1, d, rfl, by omega, rfl, rfl, rfl, rfl⟩) ?_
 rintro m T σ ⟨i, d1, hmi, hi, hs1, heq, rfl, rfl⟩
 refine a_seq ?_
 refine a_seq ?_
 refine a_reg [⟨some 12, none, .mv (tm 8), false⟩, ⟨some 13, none, .mv (tm 2), false⟩, ⟨some 14, none, .bin .lss 3 (tm 12) (tm 13) 3, false⟩] kR kR ?_
 refine r_run ?_
 refine r_end [0, 1, 2, 3, 8, 9, 14, 34] ?_
 refine c_cond (fun hb0 => ?_) (fun hb0 => ?_)
 ·have hb0' : i < b := by simpa using hb0
  have hwi : IntKind.i64.wrap ((i : Int) + 1) = ((i + 1 : Nat) : Int) := wrap64_nat _ _ (by omega) (by omega)
  refine a_skip ?_
  refine a_seq ?_
  refine a_block ?_
  refine a_seq ?_
  refine a_reg [⟨some 17, none, .mv (tm 8), false⟩, ⟨some 9, none, .asg (tm 17), false⟩] kR kR ?_
  refine r_run ?_
  refine r_end [0, 1, 2, 3, 8, 9, 14, 34] ?_
  refine a_block ?_
  refine c_weak [0, 1, 2, 3, 8, 9] ?_
  refine a_loop (fun m T σ => ∃ (j : Nat) (d2 : Array α), m = j ∧ a ≤ j ∧ j ≤ i ∧ d2.size = d.size ∧ insInner (ltOf cmp) a j d2 = insInner (ltOf cmp) a i d1 ∧ T = [(0, .os 1000), (1, .fz (vI a)), (2, .fz (vI b)), (3, .fz c.fv), (8, .fz (vI i)), (9, .fz (vI j))] ∧ σ = [(1000, .rows 153 15 (rw e d2))]) (i) (⟨i, d1, rfl, by omega, by omega, hs1, rfl, rfl, rfl⟩) ?_
  rintro m T σ ⟨j, d2, hmj, hj1, hj2, hs2, heq2, rfl, rfl⟩
  have hwj : IntKind.i64.wrap ((j : Int) - 1) = (j : Int) - 1   := wrap64_in _ (by omega) (by omega)
  have htj : ((j : Int) - 1).toNat = j - 1 := by omega
  refine a_seq ?_
  refine a_seq ?_
  refine a_regd [0, 1, 2, 3, 4, 5, 6, 7, 8, 9, 10, 11, 12, 13, 14, 15, 16] [14] [⟨some 18, none, .mv (tm 9), true⟩, ⟨some 19, none, .mv (tm 1), true⟩, ⟨some 20, none, .bin .gtr 3 (tm 18) (tm 19) 3, true⟩, ⟨some 21, none, .mv (tm 20), true⟩, ⟨some 22, some (21, true), .mv (tm 3), true⟩, ⟨some 23, some (21, true), .mv (tm 0), true⟩, ⟨some 24, some (21, true), .mv (tm 9), true⟩, ⟨some 25, some (21, true), .ix 151 (tm 23) (tm 24) 153 15, true⟩, ⟨some 26, some (21, true), .ldN 153 (tm 25) 15, true⟩, ⟨some 27, some (21, true), .mv (tm 0), true⟩, ⟨some 28, some (21, true), .mv (tm 9), true⟩, ⟨some 29, some (21, true), .bin .sub 3 (tm 28) (ci 1) 3, true⟩, ⟨some 30, some (21, true), .ix 151 (tm 27) (tm 29) 153 15, true⟩, ⟨some 31, some (21, true), .ldN 153 (tm 30) 15, true⟩, ⟨some 32, some (21, true), .callv (tm 22) [(tm 26), (tm 31)] [153, 153], false⟩, ⟨some 33, some (21, true), .bin .lss 3 (tm 32) (ci 0) 3, true⟩, ⟨some 34, none, .pick 21 (tm 33) (.const (Value.bool false)), true⟩] kR kR kR kR kR ?_
  refine r_runO ?_ ?_
  ·(simp only [decide_eq_true_eq]; omega)
  refine r_callg (c.at (d := d2) j (j - 1) (by omega) (by omega)) (hc := c.ok) ?_
  refine r_run ?_
  refine r_end [0, 1, 2, 3, 8, 9, 14, 34] ?_
  refine c_cond (fun hb1 => ?_) (fun hb1 => ?_)
  ·simp only [Bool.and_eq_true, decide_eq_true_eq] at hb1
   have hc1 : (j : Int) - 1 = ((j - 1 : Nat) : Int) := by omega
   have hw1 : IntKind.i64.wrap ((j - 1 : Nat) : Int) = ((j - 1 : Nat) : Int) := wrap64_nat _ _ rfl (by omega)
   refine a_skip ?_
   refine a_seq ?_
   refine a_block ?_
   refine a_regd [0, 1, 2, 3, 4, 5, 6, 7, 8, 9, 10, 11, 12, 13, 14, 15, 16, 17] [15, 17] [⟨some 37, none, .mv (tm 0), true⟩, ⟨some 38, none, .mv (tm 9), true⟩, ⟨some 39, none, .mv (tm 0), true⟩, ⟨some 40, none, .mv (tm 9), true⟩, ⟨some 41, none, .bin .sub 3 (tm 40) (ci 1) 3, true⟩, ⟨some 42, none, .mv (tm 0), true⟩, ⟨some 43, none, .mv (tm 9), true⟩, ⟨some 44, none, .bin .sub 3 (tm 43) (ci 1) 3, true⟩, ⟨some 45, none, .ix 151 (tm 42) (tm 44) 153 15, true⟩, ⟨some 46, none, .ldN 153 (tm 45) 15, true⟩, ⟨some 47, none, .mv (tm 0), true⟩, ⟨some 48, none, .mv (tm 9), true⟩, ⟨some 49, none, .ix 151 (tm 47) (tm 48) 153 15, true⟩, ⟨some 50, none, .ldN 153 (tm 49) 15, true⟩, ⟨some 51, none, .ix 151 (tm 37) (tm 38) 153 15, true⟩, ⟨none, none, .stN 153 (tm 51) (tm 46) 15, false⟩, ⟨some 52, none, .ix 151 (tm 39) (tm 41) 153 15, true⟩, ⟨none, none, .stN 153 (tm 52) (tm 50) 15, false⟩] kR kR kR kR kR ?_
   refine r_runO ?_ ?_
   ·(repeat' (first | exact rw_len (by omega) | exact rw_one (by omega) | refine ⟨?_, ?_⟩ | omega | trivial | (simp only [List.length_set, rw_length]; omega)))
   refine r_end [0, 1, 2, 3, 8, 9, 14, 34] ?_
   refine a_nil ?_
   refine x_end ?_
   refine a_reg [⟨some 35, none, .mv (tm 9), false⟩, ⟨some 36, none, .bin .sub 3 (tm 35) (ci 1) 3, false⟩, ⟨some 9, none, .asg (tm 36), false⟩] kR kR ?_
   refine r_run ?_
   refine r_end [0, 1, 2, 3, 8, 9, 14, 34] ?_
   refine a_nil ?_
   refine x_weak [0, 1, 2, 3, 8, 9] ?_
   exact x_next (j - 1) (by omega) (⟨j - 1, swp d2 j (j - 1), rfl, by omega, by omega, (size_swp _ _ _).trans hs2, (insInner_go hb1.1 hb1.2).trans heq2, rfl, by rw [rw_swp (by omega) (by omega)]⟩)
  ·refine a_exit ?_
   refine x_then ?_
   refine x_here ?_
   refine a_nil ?_
   refine x_end ?_
   refine a_reg [⟨some 15, none, .mv (tm 8), false⟩, ⟨some 16, none, .bin .add 3 (tm 15) (ci 1) 3, false⟩, ⟨some 8, none, .asg (tm 16), false⟩] kR kR ?_
   refine r_run ?_
   refine r_end [0, 1, 2, 3, 8, 9, 14, 34] ?_
   refine a_nil ?_
   refine x_weak [0, 1, 2, 3, 8] ?_
   exact x_next (b - (i + 1)) (by omega) (⟨i + 1, d2, rfl, by omega, hs2, by rw [← heq, insOuter_go hb0', ← heq2, insInner_stop (by simpa using hb1)], rfl, rfl⟩)
 ·refine a_exit ?_
  refine x_then ?_
  refine x_here ?_
  refine a_nil ?_
  refine y_retG [] (insertionSort (ltOf cmp) d a b) [1000] ?_ ?_ ?_
  ·exact rfl
  ·exact by rw [← heq, insOuter_end (by simpa using hb0)]
  ·exact frep_of rfl
end
end Go.Proofs.YtihdpjinaafenaaGreatDoor.SortE

/- How many bits a number has. -/
set_option linter.unusedVariables false
set_option linter.unusedSimpArgs false
namespace Go.Proofs.YtihdpjinaafenaaGreatDoor
open Sl Ab Go.Sort
theorem bitsLen_shift {x k : Nat} (h : 2 ^ k ≤ x) : bitsLen x = k + bitsLen (x / 2 ^ k) := by
 have e1 : k ≤ bitsLen x := by
  rcases Nat.lt_or_ge (bitsLen x) k with h1 | h1
  ·have h2 := (bitsLen_le_iff x (k - 1)).1 (by omega)
   have h3 : 2 ^ (k - 1) ≤ 2 ^ k := Nat.pow_le_pow_right (by omega) (by omega)
   omega
  ·exact h1
 have h2 := lt_two_pow_bitsLen x
 have h3 := lt_two_pow_bitsLen (x / 2 ^ k)
 apply Nat.le_antisymm
 ·rw [bitsLen_le_iff, Nat.pow_add]
  rw [Nat.mul_comm]; exact (Nat.div_lt_iff_lt_mul (Nat.two_pow_pos k)).1 h3
 ·have : bitsLen (x / 2 ^ k) ≤ bitsLen x - k := by
   rw [bitsLen_le_iff, Nat.div_lt_iff_lt_mul (Nat.two_pow_pos k), ← Nat.pow_add, Nat.sub_add_cancel e1]
   exact h2
  omega
def len8 : ByteArray := ⟨((List.range 256).map fun n => UInt8.ofNat (bitsLen n)).toArray⟩
theorem len8_at {s : ByteArray} (hs : s = len8) {j : Nat} (h : j < 256) : s[j]? = some (UInt8.ofNat (bitsLen j)) := by
 subst hs
 show len8.data[j]? = _
 simp [len8, h]
theorem bitsLen_le8 {j : Nat} (h : j < 256) : bitsLen j ≤ 8 := (bitsLen_le_iff j 8).2 h
theorem len8_toNat {j : Nat} (h : j < 256) : (UInt8.ofNat (bitsLen j)).toNat = bitsLen j := by
 have := bitsLen_le8 h
 rw [UInt8.toNat_ofNat']; omega
abbrev vQ (n : Int) : FV := .val (.int .u64 n)
theorem wrapU64 (n : Nat) (h : n < 18446744073709551616) : IntKind.u64.wrap (n : Int) = (n : Int) := by
 simp [IntKind.wrap, IntKind.bits, IntKind.signed]; omega
theorem wrapU8 (n : Nat) (h : n < 256) : IntKind.u8.wrap (n : Int) = (n : Int) := by
 simp [IntKind.wrap, IntKind.bits, IntKind.signed]; omega
theorem len64_ok (x : Nat) (hx : x < 4294967296) : PureCall Tryz.prog 211 [vQ x] (vI (bitsLen x)) := by
 refine p_enter Tryz.func211 rfl (fun h0 => ?_)
 simp only [argT]
 have h16 : (x : Int).fdiv (2 ^ min (16 : Int).toNat IntKind.u64.bits) = ((x / 65536 : Nat) : Int) := by rw [Int.fdiv_eq_ediv_of_nonneg _ (by decide)]; rfl
 refine a_seq ?_
 refine a_reg [⟨some 2, none, .asg (ci 0), false⟩] kR kR ?_
 refine r_run ?_
 refine r_end [0, 2, 4, 8, 14] ?_
 refine a_seq ?_
 refine a_seq ?_
 have hlt : ¬ ((x : Int) ≥ 4294967296) := by omega
 have hz : ((0 : Nat) : Int) = 0 := rfl
 refine a_reg [⟨some 3, none, .mv (tm 0), false⟩, ⟨some 4, none, .bin .geq 320 (tm 3) (.const (Value.int IntKind.u64 4294967296)) 320, false⟩] kR kR ?_
 refine r_run ?_
 refine r_end [0, 2, 4, 8, 14] ?_
 refine c_false ?_
 refine a_skip ?_
 refine a_seq ?_
 refine a_seq ?_
 refine a_reg [⟨some 7, none, .mv (tm 0), false⟩, ⟨some 8, none, .bin .geq 320 (tm 7) (.const (Value.int IntKind.u64 65536)) 320, false⟩] kR kR ?_
 refine r_run ?_
 refine r_end [0, 2, 4, 8, 14] ?_
 refine a_join (fun T σ => ∃ y n : Nat, y < 65536 ∧ n ≤ 16 ∧ n + bitsLen y = bitsLen x ∧ T = [(0, .fz (vQ y)), (2, .fz (vI n))] ∧ σ = []) ?_ ?_
 ·refine c_cond (fun hb1 => ?_) (fun hb1 => ?_)
  ·simp only [decide_eq_true_eq] at hb1
   have hw1 : IntKind.u64.wrap ((x / 65536 : Nat) : Int) = ((x / 65536 : Nat) : Int) := wrapU64 _ (by omega)
   have hw2 : IntKind.i64.wrap ((0 : Int) + 16) = ((16 : Nat) : Int) := rfl
   refine a_seq ?_
   refine a_reg [⟨some 9, none, .mv (tm 0), false⟩, ⟨some 10, none, .bin .shr 320 (tm 9) (.const (Value.int IntKind.u64 16)) 141, false⟩, ⟨some 0, none, .asg (tm 10), false⟩] kR kR ?_
   refine r_run ?_
   refine r_end [0, 2, 4, 8, 14] ?_
   refine a_reg [⟨some 11, none, .mv (tm 2), false⟩, ⟨some 12, none, .bin .add 3 (tm 11) (ci 16) 3, false⟩, ⟨some 2, none, .asg (tm 12), false⟩] kR kR ?_
   refine r_run ?_
   refine r_end [0, 2, 4, 8, 14] ?_
   refine a_nil ?_
   refine x_weak [0, 2] ?_
   exact x_join (⟨x / 65536, 16, by omega, by omega, (bitsLen_shift (k := 16) (by omega)).symm, rfl, rfl⟩)
  ·simp only [decide_eq_false_iff_not] at hb1
   refine a_skip ?_
   refine a_nil ?_
   refine x_weak [0, 2] ?_
   exact x_join (⟨x, 0, by omega, by omega, by omega, rfl, rfl⟩)
 ·rintro T σ ⟨y, n, hy, hn, hb, rfl, rfl⟩
  refine a_seq ?_
  refine a_seq ?_
  refine a_reg [⟨some 13, none, .mv (tm 0), false⟩, ⟨some 14, none, .bin .geq 320 (tm 13) (.const (Value.int IntKind.u64 256)) 320, false⟩] kR kR ?_
  refine r_run ?_
  refine r_end [0, 2, 4, 8, 14] ?_
  refine a_join (fun T σ => ∃ z p : Nat, z < 256 ∧ p ≤ 24 ∧ p + bitsLen z = bitsLen x ∧ T = [(0, .fz (vQ z)), (2, .fz (vI p))] ∧ σ = []) ?_ ?_
  ·refine c_cond (fun hb2 => ?_) (fun hb2 => ?_)
   ·simp only [decide_eq_true_eq] at hb2
    have h8 : (y : Int).fdiv (2 ^ min (8 : Int).toNat IntKind.u64.bits) = ((y / 256 : Nat) : Int) := by rw [Int.fdiv_eq_ediv_of_nonneg _ (by decide)]; rfl
    have hw1 : IntKind.u64.wrap ((y / 256 : Nat) : Int) = ((y / 256 : Nat) : Int) := wrapU64 _ (by omega)
    have hw2 : IntKind.i64.wrap ((n : Int) + 8) = ((n + 8 : Nat) : Int) := wrap64_nat _ _ (by omega) (by omega)
    refine a_seq ?_
    refine a_reg [⟨some 15, none, .mv (tm 0), false⟩, ⟨some 16, none, .bin .shr 320 (tm 15) (.const (Value.int IntKind.u64 8)) 141, false⟩, ⟨some 0, none, .asg (tm 16), false⟩] kR kR ?_
    refine r_run ?_
    refine r_end [0, 2, 4, 8, 14] ?_
    refine a_reg [⟨some 17, none, .mv (tm 2), false⟩, ⟨some 18, none, .bin .add 3 (tm 17) (ci 8) 3, false⟩, ⟨some 2, none, .asg (tm 18), false⟩] kR kR ?_
    refine r_run ?_
    refine r_end [0, 2, 4, 8, 14] ?_
    refine a_nil ?_
    refine x_weak [0, 2] ?_
    exact x_join (⟨y / 256, n + 8, by omega, by omega, by rw [← hb, bitsLen_shift (x := y) (k := 8) (by omega), Nat.add_assoc], rfl, rfl⟩)
   ·simp only [decide_eq_false_iff_not] at hb2
    refine a_skip ?_
    refine a_nil ?_
    refine x_weak [0, 2] ?_
    exact x_join (⟨y, n, by omega, by omega, hb, rfl, rfl⟩)
  ·rintro T σ ⟨z, p, hz1, hp, hbz, rfl, rfl⟩
   refine a_seq ?_
   have hw1 : IntKind.u8.wrap (z : Int) = (z : Int) := wrapU8 _ (by omega)
   have hl8 := bitsLen_le8 hz1
   have hw2 : IntKind.i64.wrap (bitsLen z : Int) = (bitsLen z : Int) := wrap64_nat _ _ (by omega) (by omega)
   have hw3 : IntKind.i64.wrap ((p : Int) + (bitsLen z : Int)) = (bitsLen x : Int) := wrap64_nat _ _ (by omega) (by omega)
   refine a_reg [⟨some 19, none, .mv (tm 2), false⟩, ⟨some 20, none, .mv (tm 0), false⟩, ⟨some 21, none, .conv 320 5 (tm 20) .u8, false⟩, ⟨some 22, none, .other (Op.index 9 (Operand.const (Value.string len8)) (Operand.tmp 21)), false⟩, ⟨some 23, none, .conv 5 3 (tm 22) .i64, false⟩, ⟨some 24, none, .bin .add 3 (tm 19) (tm 23) 3, false⟩, ⟨some 2, none, .asg (tm 24), false⟩] kR kR ?_
   refine r_run ?_
   refine r_ixs (j := z) (UInt8.ofNat (bitsLen z)) (len8_at rfl hz1) ?_ Tryz.underlying9
   rw [len8_toNat hz1]
   refine r_run ?_
   refine r_end [0, 2, 4, 8, 14] ?_
   refine a_ret ?_
   refine y_ret1 (.tmp 2) (none) ?_
   exact frep_of rfl
theorem blen_ok (x : Nat) (hx : x < 4294967296) : PureCall Tryz.prog 128 [vQ x] (vI (bitsLen x)) := by
 refine p_enter Tryz.func128 rfl (fun h0 => ?_)
 simp only [argT]
 refine a_seq ?_
 refine a_reg [⟨some 2, none, .asg (ci 0), false⟩] kR kR ?_
 refine r_run ?_
 refine r_end [0, 2] ?_
 refine a_seq ?_
 refine c_false ?_
 refine a_skip ?_
 refine a_seq ?_
 refine a_reg [⟨some 6, none, .mv (tm 0), false⟩, ⟨some 7, none, .call 211 [(tm 6)] [320], false⟩, ⟨some 2, none, .asg (tm 7), false⟩] kR kR ?_
 refine r_run ?_
 refine r_call (len64_ok x hx) ?_
 refine r_run ?_
 refine r_end [0, 2] ?_
 refine a_ret ?_
 refine y_ret1 (.tmp 2) (none) ?_
 exact frep_of rfl
end Go.Proofs.YtihdpjinaafenaaGreatDoor

/- Sorting rivulet/age.Entry: few. -/
set_option linter.unusedVariables false
set_option linter.unusedSimpArgs false
namespace Go.Proofs.YtihdpjinaafenaaGreatDoor.SortE
open Sl Ab Go.Sort
section
variable {α : Type} [Inhabited α] {e : Enc α 15} {cmp : α → α → Int}
theorem pdqs_ok (c : CmpFn Tryz.prog e cmp) (hS : SWO (ltOf cmp)) (d : Array α) (a b l0 : Nat) (hn : b - a ≤ 12) (hab : a ≤ b) (hb : b ≤ d.size) (hs : d.size ≤ 1000000000) :
  GCall Tryz.prog 216 [.os 1000, .fz (vI a), .fz (vI b), .fz (vI l0), .fz c.fv] [(1000, .rows 153 15 (rw e d))] (Array α) (fun d' => PermIn a b d d' ∧ SortedIn (ltOf cmp) a b d') (fun d' => [(1000, .rows 153 15 (rw e d'))]) (fun _ => .tup []) := by
 refine g_enter1 Tryz.func216 rfl (fun h0 => ?_)
 simp only [argG]
 have hR : ∀ d : Array α, (rw e d).length = d.size := fun _ => rw_length
 have hw1 : IntKind.i64.wrap ((b : Int) - (a : Int)) = ((b - a : Nat) : Int) := wrap64_nat _ _ (by omega) (by omega)
 refine a_seq ?_
 refine a_reg [⟨some 10, none, .asg (.const (Value.bool true)), false⟩] kR kR ?_
 refine r_run ?_
 refine r_end [0, 1, 2, 3, 4, 10, 11, 12, 13, 14, 15, 16, 17, 18, 19, 20, 25, 32, 39, 56, 75, 80, 97, 125] ?_
 refine a_seq ?_
 refine a_reg [⟨some 11, none, .asg (.const (Value.bool true)), false⟩] kR kR ?_
 refine r_run ?_
 refine r_end [0, 1, 2, 3, 4, 10, 11, 12, 13, 14, 15, 16, 17, 18, 19, 20, 25, 32, 39, 56, 75, 80, 97, 125] ?_
 refine a_block ?_
 refine c_weak [0, 1, 2, 3, 4, 10, 11] ?_
 refine a_loop (fun m T σ => ∃ (wb wp : Bool), T = [(0, .os 1000), (1, .fz (vI a)), (2, .fz (vI b)), (3, .fz (vI l0)), (4, .fz c.fv), (10, .fz (vB wb)), (11, .fz (vB wp))] ∧ σ = [(1000, .rows 153 15 (rw e d))]) (0) (⟨true, true, rfl, rfl⟩) ?_
 rintro m T σ ⟨wb, wp, rfl, rfl⟩
 refine a_block ?_
 refine a_seq ?_
 refine a_reg [⟨some 21, none, .mv (tm 2), false⟩, ⟨some 22, none, .mv (tm 1), false⟩, ⟨some 23, none, .bin .sub 3 (tm 21) (tm 22) 3, false⟩, ⟨some 12, none, .asg (tm 23), false⟩] kR kR ?_
 refine r_run ?_
 refine r_end [0, 1, 2, 3, 4, 10, 11, 12, 13, 14, 15, 16, 17, 18, 19, 20, 25, 32, 39, 56, 75, 80, 97, 125] ?_
 refine a_seq ?_
 refine a_seq ?_
 refine a_reg [⟨some 24, none, .mv (tm 12), false⟩, ⟨some 25, none, .bin .leq 3 (tm 24) (ci 12) 3, false⟩] kR kR ?_
 refine r_run ?_
 refine r_end [0, 1, 2, 3, 4, 10, 11, 12, 13, 14, 15, 16, 17, 18, 19, 20, 25, 32, 39, 56, 75, 80, 97, 125] ?_
 refine c_cond (fun hb0 => ?_) (fun hb0 => ?_)
 ·refine a_seq ?_
  refine a_reg [⟨some 26, none, .mv (tm 0), false⟩, ⟨some 27, none, .mv (tm 1), false⟩, ⟨some 28, none, .mv (tm 2), false⟩, ⟨some 29, none, .mv (tm 4), false⟩, ⟨some 30, none, .call 270 [(tm 26), (tm 27), (tm 28), (tm 29)] [151, 3, 3, 239], false⟩] kR kR ?_
  refine r_run ?_
  refine r_callG [1000] (ins_ok c d a b (by omega) (by omega) (by omega)) (fun d2 hd2 => ?_)
  have hI := insertionSort_holds hS d a b (by omega) (by omega)
  rw [← hd2] at hI
  clear hd2
  refine r_run ?_
  refine r_end [0, 1, 2, 3, 4, 10, 11, 12, 13, 14, 15, 16, 17, 18, 19, 20, 25, 32, 39, 56, 75, 80, 97, 125] ?_
  refine a_ret ?_
  refine y_retG [] (d2) [1000] ?_ ?_ ?_
  ·exact hI
  ·exact rfl
  ·exact frep_of rfl
 ·simp only [decide_eq_false_iff_not] at hb0; omega
theorem sorts_ok (c : CmpFn Tryz.prog e cmp) (hS : SWO (ltOf cmp)) (d : Array α) (hs : d.size ≤ 12) :
  GCall Tryz.prog 140 [.os 1000, .fz c.fv] [(1000, .rows 153 15 (rw e d))] (Array α) (fun d' => PermIn 0 d.size d d' ∧ SortedIn (ltOf cmp) 0 d.size d') (fun d' => [(1000, .rows 153 15 (rw e d'))]) (fun _ => .tup []) := by
 refine g_enter1 Tryz.func140 rfl (fun h0 => ?_)
 simp only [argG]
 have hR : ∀ d : Array α, (rw e d).length = d.size := fun _ => rw_length
 have hw : IntKind.u64.wrap (d.size : Int) = (d.size : Int) := wrapU64 _ (by omega)
 refine a_seq ?_
 refine a_reg [⟨some 5, none, .mv (tm 0), false⟩, ⟨some 6, none, .len 151 (tm 5) 153, false⟩, ⟨some 4, none, .asg (tm 6), false⟩] kR kR ?_
 refine r_run ?_
 refine r_end [0, 1, 4] ?_
 refine a_reg [⟨some 7, none, .mv (tm 0), false⟩, ⟨some 8, none, .mv (tm 4), false⟩, ⟨some 9, none, .mv (tm 4), false⟩, ⟨some 10, none, .conv 3 141 (tm 9) .u64, false⟩, ⟨some 11, none, .call 128 [(tm 10)] [141], false⟩, ⟨some 12, none, .mv (tm 1), false⟩, ⟨some 13, none, .call 216 [(tm 7), (ci 0), (tm 8), (tm 11), (tm 12)] [151, 3, 3, 3, 239], false⟩] kR kR ?_
 refine r_run ?_
 refine r_call (blen_ok d.size (by omega)) ?_
 refine r_run ?_
 refine r_callG [1000] (pdqs_ok c hS d 0 d.size (bitsLen d.size) (by omega) (by omega) (by omega) (by omega)) (fun d2 hd2 => ?_)
 refine r_run ?_
 refine r_end [0, 1, 4] ?_
 refine a_nil ?_
 refine y_retG [] (d2) [1000] ?_ ?_ ?_
 ·exact hd2
 ·exact rfl
 ·exact frep_of rfl
end
end Go.Proofs.YtihdpjinaafenaaGreatDoor.SortE
