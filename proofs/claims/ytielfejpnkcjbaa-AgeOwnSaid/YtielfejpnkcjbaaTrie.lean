/- The trie in memory. -/
import Derived.Test.YtielfejpnkcjbaaMapsB
import Derived.Test.YtielfejpnkcjbaaSmall
set_option linter.unusedVariables false
set_option linter.unusedSimpArgs false
namespace Go.Proofs.Ytielfejpnkcjbaa.Sl
mutual
def ckv (P : Program) : Nat → TypeId → Value → Bool
  | 0, _, _ => false
  | n + 1, t, v => match P.underlying t, v with
    | some (.struct fs), .agg cs => ckvF P n cs fs.toList
    | some (.int _), _ => true
    | some .string, _ => true
    | some .bool, _ => true
    | _, _ => false
def ckvF (P : Program) : Nat → Array Value → List Field → Bool
  | _, _, [] => true
  | n, cs, f :: r => (if f.name = "_" then true else match partV P f.type cs f.offset with | some a => ckv P n f.type a | none => false) && ckvF P n cs r
end
theorem run_ckv {P : Program} : ∀ (n : Nat) (t : TypeId) (v : Value) (emp : Bool) (w : World), ckv P n t v = true → (Instr.checkKey emp n t v).run P w = .ok () w := by
  intro n
  induction n with
  | zero => intro t v emp w h; simp [ckv] at h
  | succ n ih =>
    have ihF : ∀ (fs : List Field) (cs : Array Value) (emp : Bool) (w : World), ckvF P n cs fs = true → (forIn (m := Sem) fs PUnit.unit fun f __s => if f.name = "_" then pure (ForInStep.yield PUnit.unit) else do
        let x ← part f.type cs f.offset
        (fun a => ForInStep.yield PUnit.unit) <$> Instr.checkKey emp n f.type x).run P w = .ok PUnit.unit w := by
      intro fs
      induction fs with
      | nil => intro cs emp w h; rfl
      | cons f r ihr =>
        intro cs emp w h
        simp only [ckvF, Bool.and_eq_true] at h
        obtain ⟨h1, h2⟩ := h
        have ih2 := ihr cs emp w h2
        simp only [List.forIn_cons, Sem.run_bind]
        by_cases hf : f.name = "_"
        · simp only [hf, if_true, Sem.run_pure, Result.andThen_ok]; exact ih2
        · simp only [hf, if_false] at h1
          cases hp : partV P f.type cs f.offset with
          | none => rw [hp] at h1; cases h1
          | some a =>
            rw [hp] at h1
            simp only [hf, if_false, Sem.run_bind, run_partV hp, Result.andThen_ok, Sem.run_map, ih f.type a emp w h1, Sem.run_pure]
            exact ih2
    intro t v emp w h
    unfold ckv at h
    split at h
    · rename_i fs cs hu
      simp only [Instr.checkKey, Sem.run_bind, run_underlying hu, Result.andThen_ok]
      have := ihF fs.toList cs emp w h
      rw [Array.forIn_toList] at this
      simp [this]
    all_goals first | (rename_i hu; simp [Instr.checkKey, run_underlying hu]; done) | (cases h; done)
end Go.Proofs.Ytielfejpnkcjbaa.Sl
namespace Go.Proofs.Ytielfejpnkcjbaa
open Sl
theorem pfx_key : KeyLaw Try.prog 37 (fun k : Int × Int => pfxV k.1 k.2) where
  now := by
    intro d hd
    rw [Try.underlying37] at hd
    cases hd
    exact .inr fun _ _ => rfl
  eq := by
    intro k k' w
    refine run_eqv 10000 _ _ _ _ w ?_
    obtain ⟨a, b⟩ := k
    obtain ⟨c, d⟩ := k'
    simp [eqv, eqvFields, partV, pfxV]
    rw [Bool.eq_iff_iff]; simp
  check := fun emp k w => run_ckv 10000 _ _ emp w (by simp [ckv, ckvF, partV, pfxV]; done)
  bits := by intro k; simp [Instr.sameBits, pfxV]
theorem Sl.Own.only {h h' : Heap} {e : TypeId} {sz n : Nat} {v : Value} {cs : List Value} (x : Own h e sz v n cs) (k : ∀ r o, blockOf v = some r → h r = some o → h' r = some o) : Own h' e sz v n cs := by
  cases x with
  | nil => exact .nil
  | at_ hb hl hnc hcap hc => exact .at_ (k _ _ rfl hb) hl hnc hcap hc
theorem Sl.Cells.only {h h' : Heap} {sz n : Nat} {v : Value} {cs : List Value} (x : Cells h sz v n cs) (k : ∀ r o, blockOf v = some r → h r = some o → h' r = some o) : Cells h' sz v n cs := by
  cases x with
  | zero a c => exact .zero a c
  | at_ hb hl hnc hc => exact .at_ (k _ _ rfl hb) hl hnc hc
theorem Sl.Own.oneC {h : Heap} {e : TypeId} {sz n : Nat} {v : Value} {cs : List Value} (x : Own h e sz v n cs) : v.oneCell' = true := by
  cases x with
  | nil => rfl
  | at_ => rfl
theorem Sl.Own.blk {h : Heap} {e : TypeId} {sz n : Nat} {v : Value} {cs : List Value} (x : Own h e sz v n cs) {r : Nat} (hr : blockOf v = some r) : ∃ o, h r = some o := by
  cases x with
  | nil => cases hr
  | at_ hb hl hnc hcap hc => cases hr; exact ⟨_, hb⟩
theorem get_set_self {a : Array Value} {i : Nat} {v : Value} (h : i < a.size) : (a.setIfInBounds i v)[i]? = some v := by simp [h]
/-! ### The knots -/
inductive Role where
  | no | node (q : List Bool) | row (q : List Bool) | map
  deriving DecidableEq
structure TrieS where
  A : List Bool → Option Nat
  row : List Bool → Value
  mv : Value
  role : Nat → Role
def ptrTo (x : Option Nat) : Value := .pointer (x.map fun b => ⟨b, 0, none⟩)
/-- A count list that a map is of. -/
abbrev Cnt := List ((Int × Int) × Value)
structure TrieH (h : Heap) (S : TrieS) (p : Nat) (nums : List Bool → List Int) (l : Cnt) : Prop where
  root : S.A [] = some p
  rnode : ∀ q b, S.A q = some b → S.role b = .node q
  node : ∀ q b, S.A q = some b → ∃ full ty, h b = some (.cells full ty (0, 0)) ∧ 3 ≤ full.size ∧ full[0]? = some (ptrTo (S.A (q ++ [false]))) ∧ full[1]? = some (ptrTo (S.A (q ++ [true]))) ∧ full[2]? = some (S.row q) ∧ (q = [] → full[3]? = some S.mv)
  rown : ∀ q b, S.A q = some b → Own h 3 1 (S.row q) (nums q).length ((nums q).map (.int .i64))
  rrole : ∀ q b r, S.A q = some b → blockOf (S.row q) = some r → S.role r = .row q
  none_ : ∀ q, S.A q = none → nums q = []
  closed : ∀ q x b, S.A (q ++ [x]) = some b → S.A q ≠ none
  map : (S.mv = .map none ∧ l = []) ∨ ∃ mb, S.mv = .map (some mb) ∧ S.role mb = .map ∧ IsMap h mb (fun k : Int × Int => pfxV k.1 k.2) l
  dom : ∀ b, S.role b ≠ .no → h b ≠ none
/-- What a step changes: what is not the object's stays; what becomes the object's was it, or was not there. -/
structure Chg (D D' : Nat → Prop) (h h' : Heap) : Prop where
  keep : ∀ b o, ¬ D b → h b = some o → h' b = some o
  ext : ∀ b, D' b → D b ∨ h b = none
theorem Chg.refl (D : Nat → Prop) (h : Heap) : Chg D D h h := ⟨fun _ _ _ e => e, fun _ d => .inl d⟩
theorem Chg.trans {D D1 D2 : Nat → Prop} {h h1 h2 : Heap} (a : Chg D D1 h h1) (b : Chg D1 D2 h1 h2) : Chg D D2 h h2 where
  keep := fun k o hn e => b.keep k o (fun d => by
    rcases a.ext k d with d | d
    · exact hn d
    · rw [d] at e; cases e) (a.keep k o hn e)
  ext := fun k d => by
    rcases b.ext k d with d | d
    · exact a.ext k d
    · by_cases hd : D k
      · exact .inl hd
      · cases e : h k with
        | none => exact .inr rfl
        | some o => rw [a.keep k o hd e] at d; cases d
theorem Chg.le {D D' : Nat → Prop} {h h' h2 : Heap} (a : Chg D D' h h') (l : h'.le h2) : Chg D D' h h2 := ⟨fun b o hn e => l b o (a.keep b o hn e), a.ext⟩
theorem Chg.of_le {D D' : Nat → Prop} {h h1 h2 : Heap} (l : h.le h1) (a : Chg D D' h1 h2) : Chg D D' h h2 := ⟨fun b o hn e => a.keep b o hn (l b o e), fun b d => (a.ext b d).imp id fun e => by
  cases e1 : h b with
  | none => rfl
  | some o => rw [l b o e1] at e; cases e⟩
def TrieS.dom (S : TrieS) (b : Nat) : Prop := S.role b ≠ .no
theorem TrieH.le {h h' : Heap} {S : TrieS} {p : Nat} {nums : List Bool → List Int} {l : Cnt} (t : TrieH h S p nums l) (le : h.le h') : TrieH h' S p nums l where
  root := t.root
  rnode := t.rnode
  node := fun q b e => by obtain ⟨full, ty, hb, r⟩ := t.node q b e; exact ⟨full, ty, le _ _ hb, r⟩
  rown := fun q b e => (t.rown q b e).le le
  rrole := t.rrole
  none_ := t.none_
  closed := t.closed
  map := t.map.imp id fun ⟨mb, e, r, m⟩ => ⟨mb, e, r, m.le le⟩
  dom := fun b hb => by
    cases e : h b with
    | none => exact absurd e (t.dom b hb)
    | some o => rw [le b o e]; simp
/-- What holds of a heap holds of one that is the same at the object's blocks. -/
theorem TrieH.only {h h' : Heap} {S : TrieS} {p : Nat} {nums : List Bool → List Int} {l : Cnt} (t : TrieH h S p nums l) (e : ∀ b o, S.role b ≠ .no → h b = some o → h' b = some o) : TrieH h' S p nums l where
  root := t.root
  rnode := t.rnode
  node := fun q b e1 => by obtain ⟨full, ty, hb, r⟩ := t.node q b e1; exact ⟨full, ty, e _ _ (by rw [t.rnode q b e1]; simp) hb, r⟩
  rown := fun q b e1 => (t.rown q b e1).only fun r o hr e2 => e r o (by rw [t.rrole q b r e1 hr]; simp) e2
  rrole := t.rrole
  none_ := t.none_
  closed := t.closed
  map := t.map.imp id fun ⟨mb, e1, r, m⟩ => ⟨mb, e1, r, by obtain ⟨es, cl, e2, x⟩ := m.out; exact ⟨es, cl, e _ _ (by rw [r]; simp) e2, x⟩⟩
  dom := fun b hb => by
    cases e1 : h b with
    | none => exact absurd e1 (t.dom b hb)
    | some o => rw [e b o hb e1]; simp
/-- A new trie. -/
theorem TrieH.new (h : Heap) (p : Nat) (ty : TypeId) : TrieH (h.set p (.cells #[.pointer none, .pointer none, .slice none 0 0, .map none] ty (0, 0))) ⟨fun q => if q = [] then some p else none, fun _ => .slice none 0 0, .map none, fun b => if b = p then .node [] else .no⟩ p (fun _ => []) [] where
  root := rfl
  rnode := fun q b e => by
    simp only at e ⊢
    split at e
    · rename_i hq; cases e; simp [hq]
    · cases e
  node := fun q b e => by
    simp only at e ⊢
    split at e
    · rename_i hq
      cases e
      exact ⟨_, _, Heap.set_same _ _ _, by simp, by simp [ptrTo], by simp [ptrTo], by simp, by simp⟩
    · cases e
  rown := fun q b e => .nil
  rrole := fun q b r e e1 => by simp [blockOf] at e1
  none_ := fun _ _ => rfl
  closed := fun q x b e => by simp at e
  map := .inl ⟨rfl, rfl⟩
  dom := fun b hb => by
    simp only at hb
    split at hb
    · rename_i hq; rw [hq, Heap.set_same]; simp
    · exact absurd rfl hb
section
variable {h : Heap} {S : TrieS} {p : Nat} {nums : List Bool → List Int} {l : Cnt}
theorem TrieH.free (t : TrieH h S p nums l) {b : Nat} (hb : h b = none) : S.role b = .no := by
  cases e : S.role b with
  | no => rfl
  | _ => exact absurd hb (t.dom b (by rw [e]; simp))
theorem TrieH.inj (t : TrieH h S p nums l) {q q' : List Bool} {b : Nat} (h1 : S.A q = some b) (h2 : S.A q' = some b) : q = q' := by
  have := (t.rnode q b h1).symm.trans (t.rnode q' b h2)
  simpa using this
/-- A knot below a knot. -/
theorem TrieH.grow (t : TrieH h S p nums l) {q : List Bool} {x : Bool} {b nb : Nat} {full : Array Value} {ty ty' : TypeId} (hq : S.A q = some b) (hx : S.A (q ++ [x]) = none) (hb : h b = some (.cells full ty (0, 0))) (hnb : h nb = none) :
    ∃ S', TrieH ((h.set nb (.cells #[.pointer none, .pointer none, .slice none 0 0] ty' (0, 0))).set b (.cells (full.setIfInBounds (if x then 1 else 0) (.pointer (some ⟨nb, 0, none⟩))) ty (0, 0))) S' p nums l ∧ S'.A (q ++ [x]) = some nb ∧
      Chg S.dom S'.dom h ((h.set nb (.cells #[.pointer none, .pointer none, .slice none 0 0] ty' (0, 0))).set b (.cells (full.setIfInBounds (if x then 1 else 0) (.pointer (some ⟨nb, 0, none⟩))) ty (0, 0))) := by
  obtain ⟨full', ty2, hb', h3, hf0, hf1, hf2, hf3⟩ := t.node q b hq
  rw [hb] at hb'
  cases hb'
  have hnr := t.free hnb
  have hbn : b ≠ nb := fun e => by rw [e, hnb] at hb; cases hb
  have hother : ∀ k, k ≠ b → k ≠ nb → ((h.set nb (.cells #[.pointer none, .pointer none, .slice none 0 0] ty' (0, 0))).set b (.cells (full.setIfInBounds (if x then 1 else 0) (.pointer (some ⟨nb, 0, none⟩))) ty (0, 0))) k = h k := fun k h1 h2 => by
    rw [Heap.set_other _ _ h1, Heap.set_other _ _ h2]
  have hatn : ((h.set nb (.cells #[.pointer none, .pointer none, .slice none 0 0] ty' (0, 0))).set b (.cells (full.setIfInBounds (if x then 1 else 0) (.pointer (some ⟨nb, 0, none⟩))) ty (0, 0))) nb = some (.cells #[.pointer none, .pointer none, .slice none 0 0] ty' (0, 0)) := by
    rw [Heap.set_other _ _ (Ne.symm hbn), Heap.set_same]
  have hatb := Heap.set_same (h.set nb (.cells #[.pointer none, .pointer none, .slice none 0 0] ty' (0, 0))) b (.cells (full.setIfInBounds (if x then 1 else 0) (.pointer (some ⟨nb, 0, none⟩))) ty (0, 0))
  generalize ((h.set nb (.cells #[.pointer none, .pointer none, .slice none 0 0] ty' (0, 0))).set b (.cells (full.setIfInBounds (if x then 1 else 0) (.pointer (some ⟨nb, 0, none⟩))) ty (0, 0))) = h2 at hother hatn hatb ⊢
  have hdeep : ∀ y, S.A (q ++ [x, y]) = none := fun y => by
    rw [show q ++ [x, y] = q ++ [x] ++ [y] by simp]
    cases e : S.A (q ++ [x] ++ [y]) with
    | none => rfl
    | some c => exact absurd hx (t.closed _ _ _ e)
  have hne : ∀ k, S.role k ≠ .no → k ≠ nb := fun k hk e => hk (by rw [e]; exact hnr)
  refine ⟨⟨fun r => if r = q ++ [x] then some nb else S.A r, fun r => if r = q ++ [x] then .slice none 0 0 else S.row r, S.mv, fun k => if k = nb then .node (q ++ [x]) else S.role k⟩, ⟨?_, ?_, ?_, ?_, ?_, ?_, ?_, ?_, ?_⟩, by simp, ⟨?_, ?_⟩⟩
  · simp [t.root]
  · intro r c e
    simp only at e ⊢
    split at e
    · rename_i hr; cases e; simp [hr]
    · have := t.rnode r c e
      have : c ≠ nb := hne c (by rw [this]; simp)
      rw [if_neg this]; exact t.rnode r c e
  · intro r c e
    simp only at e ⊢
    split at e
    · rename_i hr
      cases e
      subst hr
      refine ⟨_, _, hatn, by simp, ?_, ?_, ?_, ?_⟩
      · rw [if_neg (by simp)]; simp [hdeep, ptrTo]
      · rw [if_neg (by simp)]; simp [hdeep, ptrTo]
      · simp
      · simp
    · rename_i hr
      have hcr := t.rnode r c e
      have hcn : c ≠ nb := hne c (by rw [hcr]; simp)
      by_cases hcb : c = b
      · subst hcb
        have hrq := t.inj e hq
        subst hrq
        refine ⟨_, _, hatb, by simpa using h3, ?_, ?_, ?_, ?_⟩
        · cases x with
          | false => simp only [if_true, Bool.false_eq_true, if_false]; exact get_set_self (by omega)
          | true => simpa using hf0
        · cases x with
          | false => simpa using hf1
          | true => simp only [if_true]; exact get_set_self (by omega)
        · rw [if_neg hr]; cases x <;> simpa using hf2
        · intro hr0; cases x <;> simpa using hf3 hr0
      · obtain ⟨f, ty2, hf, r3, r4, r5, r6, r7⟩ := t.node r c e
        refine ⟨f, ty2, by rw [hother c hcb hcn]; exact hf, r3, ?_, ?_, ?_, r7⟩
        · have : ¬ (r ++ [false] = q ++ [x]) := by
            intro e1
            have := (List.append_inj' e1 rfl).1
            rw [this, hq] at e; cases e; exact hcb rfl
          rw [if_neg this]; exact r4
        · have : ¬ (r ++ [true] = q ++ [x]) := by
            intro e1
            have := (List.append_inj' e1 rfl).1
            rw [this, hq] at e; cases e; exact hcb rfl
          rw [if_neg this]; exact r5
        · rw [if_neg hr]; exact r6
  · intro r c e
    simp only at e ⊢
    split at e
    · rename_i hr
      rw [if_pos hr, hr, t.none_ _ hx]; exact .nil
    · rename_i hr
      rw [if_neg hr]
      refine (t.rown r c e).only fun k o hk ho => ?_
      have hkr := t.rrole r c k e hk
      rw [hother k ?_ (hne k (by rw [hkr]; simp))]; exact ho
      intro e1
      rw [e1, t.rnode q b hq] at hkr; cases hkr
  · intro r c k e e1
    simp only at e e1 ⊢
    split at e
    · rename_i hr; rw [if_pos hr] at e1; cases e1
    · rename_i hr
      rw [if_neg hr] at e1
      have hkr := t.rrole r c k e e1
      rw [if_neg (hne k (by rw [hkr]; simp))]; exact hkr
  · intro r e
    simp only at e
    split at e
    · cases e
    · exact t.none_ r e
  · intro r y c e
    simp only at e ⊢
    split
    · simp
    · split at e
      · rename_i hr
        have := (List.append_inj' hr rfl).1
        rw [this, hq]; simp
      · exact t.closed r y c e
  · refine t.map.imp id fun ⟨mb, e1, r, m⟩ => ⟨mb, e1, ?_, m.of (hother mb ?_ (hne mb (by rw [r]; simp)))⟩
    · simp only; rw [if_neg (hne mb (by rw [r]; simp))]; exact r
    · intro e2; rw [e2, t.rnode q b hq] at r; cases r
  · intro k hk
    simp only at hk
    split at hk
    · rename_i e; rw [e, hatn]; simp
    · by_cases hkb : k = b
      · rw [hkb, hatb]; simp
      · rw [hother k hkb (hne k hk)]; exact t.dom k hk
  · intro k o hk e
    have h1 : k ≠ b := fun e1 => hk (by show S.role k ≠ .no; rw [e1, t.rnode q b hq]; simp)
    have h2 : k ≠ nb := fun e1 => by rw [e1, hnb] at e; cases e
    rw [hother k h1 h2]; exact e
  · intro k hk
    by_cases h1 : k = nb
    · exact .inr (by rw [h1]; exact hnb)
    · left
      show S.role k ≠ .no
      have : (if k = nb then Role.node (q ++ [x]) else S.role k) ≠ .no := hk
      rwa [if_neg h1] at this
/-- A number is put into a knot's row. -/
theorem TrieH.push (t : TrieH h S p nums l) {q : List Bool} {b : Nat} {full : Array Value} {ty : TypeId} {v' : Value} {h1 : Heap} {n : Int} (hq : S.A q = some b) (hb : h b = some (.cells full ty (0, 0))) (own : Own h1 3 1 v' ((nums q).length + 1) ((nums q).map (.int .i64) ++ [.int .i64 n])) (g : Grew h h1 (S.row q) v') :
    h1 b = some (.cells full ty (0, 0)) ∧ ∃ S', TrieH (h1.set b (.cells (full.setIfInBounds 2 v') ty (0, 0))) S' p (fun r => if r = q then nums q ++ [n] else nums r) l ∧ S'.mv = S.mv ∧ Chg S.dom S'.dom h (h1.set b (.cells (full.setIfInBounds 2 v') ty (0, 0))) := by
  obtain ⟨full', ty2, hb', h3, hf0, hf1, hf2, hf3⟩ := t.node q b hq
  rw [hb] at hb'
  cases hb'
  have hrow : ∀ r, blockOf (S.row q) = some r → S.role r = .row q := fun r e => t.rrole q b r hq e
  have hold : ∀ k o, S.role k ≠ .row q → h k = some o → h1 k = some o := fun k o hk e => g.same k o e fun e1 => hk (hrow k e1.symm)
  have hb1 : h1 b = some (.cells full ty (0, 0)) := hold b _ (by rw [t.rnode q b hq]; simp) hb
  refine ⟨hb1, ?_⟩
  -- the block of the new row
  have hnew : ∀ r, blockOf v' = some r → S.role r = .row q ∨ h r = none := by
    intro r e
    rcases g.blk with e1 | ⟨r', e1, e2⟩
    · exact .inl (hrow r (by rw [← e1]; exact e))
    · rw [e] at e1; cases e1; exact .inr e2
  have hnb : ∀ r, blockOf v' = some r → r ≠ b := by
    intro r e e1
    rcases hnew r e with h2 | h2
    · rw [e1, t.rnode q b hq] at h2; cases h2
    · rw [e1, hb] at h2; cases h2
  have hat := Heap.set_same h1 b (.cells (full.setIfInBounds 2 v') ty (0, 0))
  have hoth : ∀ k, k ≠ b → (h1.set b (.cells (full.setIfInBounds 2 v') ty (0, 0))) k = h1 k := fun k hk => Heap.set_other _ _ hk
  generalize (h1.set b (.cells (full.setIfInBounds 2 v') ty (0, 0))) = h2 at hat hoth ⊢
  refine ⟨⟨S.A, fun r => if r = q then v' else S.row r, S.mv, fun k => if blockOf v' = some k then .row q else if S.role k = .row q then .no else S.role k⟩, ⟨t.root, ?_, ?_, ?_, ?_, ?_, t.closed, ?_, ?_⟩, rfl, ⟨?_, ?_⟩⟩
  · intro r c e
    have hr := t.rnode r c e
    have h4 : ¬ blockOf v' = some c := fun e1 => by
      rcases hnew c e1 with h2 | h2
      · rw [hr] at h2; cases h2
      · obtain ⟨f, ty2, hf, _⟩ := t.node r c e; rw [hf] at h2; cases h2
    simp only
    rw [if_neg h4, hr]; simp
  · intro r c e
    simp only at e ⊢
    by_cases hcb : c = b
    · subst hcb
      have hrq := t.inj e hq
      subst hrq
      exact ⟨_, _, hat, by simpa using h3, by simpa using hf0, by simpa using hf1, by simp only [if_true]; exact get_set_self (by omega), fun e1 => by simpa using hf3 e1⟩
    · obtain ⟨f, ty2, hf, r3, r4, r5, r6, r7⟩ := t.node r c e
      have : r ≠ q := fun e1 => hcb (by rw [e1, hq] at e; cases e; rfl)
      exact ⟨f, ty2, by rw [hoth c hcb]; exact hold c _ (by rw [t.rnode r c e]; simp) hf, r3, r4, r5, by rw [if_neg this]; exact r6, r7⟩
  · intro r c e
    simp only at e ⊢
    by_cases hrq : r = q
    · subst hrq
      simp only [if_true, List.map_append, List.map_cons, List.map_nil, List.length_append, List.length_cons, List.length_nil]
      exact own.only fun k o hk ho => by rw [hoth k (hnb k hk)]; exact ho
    · simp only [if_neg hrq]
      refine (t.rown r c e).only fun k o hk ho => ?_
      have hkr := t.rrole r c k e hk
      rw [hoth k (fun e1 => by rw [e1, t.rnode q b hq] at hkr; cases hkr)]
      exact hold k o (by rw [hkr]; simpa using hrq) ho
  · intro r c k e e1
    simp only at e e1 ⊢
    by_cases hrq : r = q
    · rw [if_pos hrq] at e1; rw [if_pos e1, hrq]
    · rw [if_neg hrq] at e1
      have hkr := t.rrole r c k e e1
      have h4 : ¬ blockOf v' = some k := fun e2 => by
        rcases hnew k e2 with h2 | h2
        · rw [hkr] at h2; simp at h2; exact hrq h2
        · obtain ⟨o, ho⟩ := (t.rown r c e).blk e1; rw [ho] at h2; cases h2
      rw [if_neg h4, hkr, if_neg (by simpa using hrq)]
  · intro r e
    simp only at e ⊢
    have : r ≠ q := fun e1 => by rw [e1, hq] at e; cases e
    rw [if_neg this]; exact t.none_ r e
  · refine t.map.imp id fun ⟨mb, e1, r, m⟩ => ⟨mb, e1, ?_, ?_⟩
    · have h4 : ¬ blockOf v' = some mb := fun e2 => by
        rcases hnew mb e2 with h2 | h2
        · rw [r] at h2; cases h2
        · obtain ⟨o, ho⟩ := m.some; rw [ho] at h2; cases h2
      simp only
      rw [if_neg h4, r]; simp
    · obtain ⟨es, cl, e2, x⟩ := m.out
      refine ⟨es, cl, ?_, x⟩
      rw [hoth mb (fun e3 => by rw [e3, t.rnode q b hq] at r; cases r)]
      exact hold mb _ (by rw [r]; simp) e2
  · intro k hk
    simp only at hk
    by_cases hkb : k = b
    · rw [hkb, hat]; simp
    · rw [hoth k hkb]
      split at hk
      · rename_i e; obtain ⟨o, ho⟩ := own.blk e; rw [ho]; simp
      · split at hk
        · exact absurd rfl hk
        · rename_i h5
          cases e : h k with
          | none => exact absurd e (t.dom k hk)
          | some o => rw [hold k o h5 e]; simp
  · intro k o hk e
    have h0 : S.role k = .no := by
      cases e1 : S.role k with
      | no => rfl
      | _ => exact absurd (show S.role k ≠ .no by rw [e1]; simp) hk
    have h5 : k ≠ b := fun e1 => by rw [e1, t.rnode q b hq] at h0; cases h0
    rw [hoth k h5]; exact hold k o (by rw [h0]; simp) e
  · intro k hk
    have hk : (if blockOf v' = some k then Role.row q else if S.role k = .row q then .no else S.role k) ≠ .no := hk
    split at hk
    · rename_i e
      rcases hnew k e with h2 | h2
      · left; show S.role k ≠ .no; rw [h2]; simp
      · exact .inr h2
    · split at hk
      · exact absurd rfl hk
      · exact .inl hk
/-- The map is made. -/
theorem TrieH.mkmap (t : TrieH h S p nums []) {full : Array Value} {ty : TypeId} {mb : Nat} (hb : h p = some (.cells full ty (0, 0))) (hmb : h mb = none) (hsz : 3 < full.size) :
    ∃ S', TrieH ((h.set mb (.map #[] 0)).set p (.cells (full.setIfInBounds 3 (.map (some mb))) ty (0, 0))) S' p nums [] ∧ S'.mv = .map (some mb) ∧ Chg S.dom S'.dom h ((h.set mb (.map #[] 0)).set p (.cells (full.setIfInBounds 3 (.map (some mb))) ty (0, 0))) := by
  obtain ⟨full', ty2, hb', h3, hf0, hf1, hf2, hf3⟩ := t.node [] p t.root
  rw [hb] at hb'
  cases hb'
  have hnr := t.free hmb
  have hpm : p ≠ mb := fun e => by rw [e, hmb] at hb; cases hb
  have hne : ∀ k, S.role k ≠ .no → k ≠ mb := fun k hk e => hk (by rw [e]; exact hnr)
  have hat := Heap.set_same (h.set mb (.map #[] 0)) p (.cells (full.setIfInBounds 3 (.map (some mb))) ty (0, 0))
  have hatm : ((h.set mb (.map #[] 0)).set p (.cells (full.setIfInBounds 3 (.map (some mb))) ty (0, 0))) mb = some (.map #[] 0) := by rw [Heap.set_other _ _ (Ne.symm hpm), Heap.set_same]
  have hoth : ∀ k, k ≠ p → k ≠ mb → ((h.set mb (.map #[] 0)).set p (.cells (full.setIfInBounds 3 (.map (some mb))) ty (0, 0))) k = h k := fun k h1 h2 => by rw [Heap.set_other _ _ h1, Heap.set_other _ _ h2]
  generalize ((h.set mb (.map #[] 0)).set p (.cells (full.setIfInBounds 3 (.map (some mb))) ty (0, 0))) = h2 at hat hatm hoth ⊢
  refine ⟨⟨S.A, S.row, .map (some mb), fun k => if k = mb then .map else S.role k⟩, ⟨t.root, ?_, ?_, ?_, ?_, t.none_, t.closed, .inr ⟨mb, rfl, by simp, ⟨#[], 0, hatm, rfl, by simp, by simp⟩⟩, ?_⟩, rfl, ⟨?_, ?_⟩⟩
  · intro r c e
    have hr := t.rnode r c e
    simp only
    rw [if_neg (hne c (by rw [hr]; simp))]; exact hr
  · intro r c e
    simp only at e ⊢
    by_cases hcp : c = p
    · subst hcp
      have := t.inj e t.root
      subst this
      exact ⟨_, _, hat, by simpa using h3, by simpa using hf0, by simpa using hf1, by simpa using hf2, fun _ => get_set_self (by omega)⟩
    · obtain ⟨f, ty2, hf, r3, r4, r5, r6, r7⟩ := t.node r c e
      exact ⟨f, ty2, by rw [hoth c hcp (hne c (by rw [t.rnode r c e]; simp))]; exact hf, r3, r4, r5, r6, fun e1 => absurd (by rw [e1, t.root] at e; cases e; rfl) hcp⟩
  · intro r c e
    refine (t.rown r c e).only fun k o hk ho => ?_
    have hkr := t.rrole r c k e hk
    rw [hoth k (fun e1 => by rw [e1, t.rnode [] p t.root] at hkr; cases hkr) (hne k (by rw [hkr]; simp))]; exact ho
  · intro r c k e e1
    have hkr := t.rrole r c k e e1
    simp only
    rw [if_neg (hne k (by rw [hkr]; simp))]; exact hkr
  · intro k hk
    simp only at hk
    split at hk
    · rename_i e; rw [e, hatm]; simp
    · by_cases hkp : k = p
      · rw [hkp, hat]; simp
      · rw [hoth k hkp (hne k hk)]; exact t.dom k hk
  · intro k o hk e
    have h0 : S.role k = .no := by
      cases e1 : S.role k with
      | no => rfl
      | _ => exact absurd (show S.role k ≠ .no by rw [e1]; simp) hk
    have h1 : k ≠ p := fun e1 => by rw [e1, t.rnode [] p t.root] at h0; cases h0
    have h2 : k ≠ mb := fun e1 => by rw [e1, hmb] at e; cases e
    rw [hoth k h1 h2]; exact e
  · intro k hk
    by_cases h1 : k = mb
    · exact .inr (by rw [h1]; exact hmb)
    · left
      have : (if k = mb then Role.map else S.role k) ≠ .no := hk
      rwa [if_neg h1] at this
/-- The map has other entries. -/
theorem TrieH.setmap (t : TrieH h S p nums l) {mb : Nat} (hm : S.mv = .map (some mb)) {ob : Obj} {l' : Cnt} (im : IsMap (h.set mb ob) mb (fun k : Int × Int => pfxV k.1 k.2) l') : TrieH (h.set mb ob) S p nums l' ∧ Chg S.dom S.dom h (h.set mb ob) := by
  have hrole : S.role mb = .map := by
    rcases t.map with ⟨e, _⟩ | ⟨mb', e, r, _⟩
    · rw [e] at hm; cases hm
    · rw [e] at hm; cases hm; exact r
  have hoth : ∀ k, k ≠ mb → (h.set mb ob) k = h k := fun k h1 => Heap.set_other _ _ h1
  have hat := Heap.set_same h mb ob
  generalize h.set mb ob = h2 at hoth hat im ⊢
  have hne : ∀ k, S.role k ≠ .map → k ≠ mb := fun k hk e => hk (by rw [e]; exact hrole)
  refine ⟨⟨t.root, t.rnode, ?_, ?_, t.rrole, t.none_, t.closed, .inr ⟨mb, hm, hrole, im⟩, ?_⟩, ⟨?_, fun k hk => .inl hk⟩⟩
  · intro r c e
    obtain ⟨f, ty2, hf, x⟩ := t.node r c e
    exact ⟨f, ty2, by rw [hoth c (hne c (by rw [t.rnode r c e]; simp))]; exact hf, x⟩
  · intro r c e
    refine (t.rown r c e).only fun k o hk ho => ?_
    rw [hoth k (hne k (by rw [t.rrole r c k e hk]; simp))]; exact ho
  · intro k hk
    by_cases h1 : k = mb
    · rw [h1, hat]; simp
    · rw [hoth k h1]; exact t.dom k hk
  · intro k o hk e
    have : k ≠ mb := fun e1 => hk (by show S.role k ≠ .no; rw [e1, hrole]; simp)
    rw [hoth k this]; exact e
end
end Go.Proofs.Ytielfejpnkcjbaa
