import Derived.Test.YtfbjgbecabbdnaaGreatDoorSs15
import Derived.ProofKit
import Derived.OpenShut
import Derived.Carry
/- The evaluator: the whole; a call from outside. -/
set_option linter.unusedVariables false
set_option linter.unusedSimpArgs false
namespace Go.Proofs.YtfbjgbecabbdnaaGreatDoor.Ce
open Go.Proofs.YtfbjgbecabbdnaaGreatDoor.Sl
open Ab (isOne isMany isSl isArr isIntT isStr zeroIs okCall)
variable {P : Program} {N : Kn P} {G : CG} {ω : Om}
def OmOk (N : Kn P) (ω : Om) : Prop := ∀ f args v, ω f args = some v → okCall P (f.nat - 1) = true ∧ ∀ (β : Bk) (h : Heap) (vs : List Value), β.x = N.ξ → VRs β args vs → SCalls P (f.nat - 1) vs.toArray h (fun r h' => h.le h' ∧ VR β v r)
theorem argT_ok {β : Bk} : ∀ {args : List CV} {vs pre : List Value} {T : Tr CV} {p : Pos}, VRs β args vs → p = pos pre.length → TR β T (T0 pre.toArray) → TR β (argT p args T) (T0 (pre ++ vs).toArray)
  | [], _, pre, T, p, .nil, _, r => by simpa [argT] using r
  | c :: args, _, pre, T, p, .cons (v := v) (vs := vs) h rs, hp, r => by
    have e : T0 (pre ++ [v]).toArray = upd (T0 pre.toArray) (p.nat - 1) v := by
      have hp1 : p.nat - 1 = pre.length := by rw [hp, pos_nat]; rfl
      funext t
      unfold T0 upd
      rw [hp1]
      by_cases ht : t = pre.length
      · subst ht; rw [if_pos rfl]; simp
      · rw [if_neg ht]
        simp only [Array.getD_eq_getD_getElem?, List.getElem?_toArray]
        rcases Nat.lt_or_ge t pre.length with h1 | h1
        · rw [List.getElem?_append_left h1]
        · rw [List.getElem?_eq_none (by simp; omega), List.getElem?_eq_none h1]
    have := argT_ok (pre := pre ++ [v]) (T := Tr.set .u p c T) (p := p.succ) rs (by rw [hp]; simp [pos]) (by rw [e]; exact r.put p h)
    simpa [argT] using this
theorem resC_ok {β : Bk} {s : St} {h : Heap} {Tc : Tm} (x : Sem N β s h Tc) {r : CR} (hs : r.side P = true) {c : CV} (e : resC s r = some c) : ∃ v, VR β c v ∧ ResOne P Tc h r.rv v := by
  cases r with
  | t p =>
    cases e
    exact ⟨_, x.1.at p, rfl⟩
  | c1 p ty =>
    simp only [resC] at e
    have hp := x.1.at p
    split at e
    · rename_i id off hv
      rw [hv] at hp
      generalize hT : Tc (p.nat - 1) = u at hp
      cases hp with
      | p off hy =>
        split at e
        · rename_i st t cs hc
          obtain ⟨vs, tl, hb, hl, rv, _⟩ := x.2.cells hc hy
          obtain ⟨v, h1, h2⟩ := rv.get (nth_some e)
          refine ⟨v, h2, { (default : Oper) with op := .load ty (.tmp (p.nat - 1)) }, .tmp (p.nat - 1), rfl, ?_, _, hT⟩
          refine Ab.r_ld1 rfl hs hT hb ?_
          have hlt : off < vs.length := (List.getElem?_eq_some_iff.1 h1).1
          simp only [List.getElem?_toArray]
          rw [List.getElem?_append_left hlt]; exact h1
        · cases e
    · cases e
  | cN p ty n =>
    simp only [resC] at e
    simp only [CR.side, Bool.and_eq_true, beq_iff_eq] at hs
    have hp := x.1.at p
    split at e
    · rename_i id off hv
      rw [hv] at hp
      generalize hT : Tc (p.nat - 1) = u at hp
      cases hp with
      | p off hy =>
        split at e
        · rename_i st t cs hc
          cases hb : Nat.ble (off + n) cs.length with
          | false => rw [hb] at e; cases e
          | true =>
            rw [hb] at e
            cases e
            have hle := Nat.le_of_ble_eq_true hb
            obtain ⟨vs, tl, hb, hl, rv, h1⟩ := x.2.cells hc hy
            have hlen := rv.len
            refine ⟨_, .agg (all_sub h1) ((rv.drop off).take n), { (default : Oper) with op := .load ty (.tmp (p.nat - 1)) }, .tmp (p.nat - 1), rfl, ?_, _, hT⟩
            have := Ab.r_ldN (P := P) (o := { (default : Oper) with op := .load ty (.tmp (p.nat - 1)) }) (ρ := fun _ => Tc (p.nat - 1)) rfl hs.1 hT hb hs.2 (by simp; omega)
            have h6 : (vs ++ tl).toArray.extract off (off + n) = ((vs.drop off).take n).toArray := by
              simp only [List.extract_toArray, List.extract_eq_take_drop]
              congr 1
              rw [Nat.add_sub_cancel_left, List.drop_append_of_le_length (by omega), List.take_append_of_le_length (by simp; omega)]
            rwa [h6] at this
        · cases e
    · cases e
theorem resCs_ok {β : Bk} {s : St} {h : Heap} {Tc : Tm} (x : Sem N β s h Tc) : ∀ {l : List CR} {cs : List CV}, l.all (CR.side P) = true → resCs s l = some cs → ∃ vs, VRs β cs vs ∧ ResAll P Tc h (l.map CR.rv) vs
  | [], cs, _, e => by cases e; exact ⟨[], .nil, .nil⟩
  | r :: l, cs, hs, e => by
    simp only [List.all_cons, Bool.and_eq_true] at hs
    unfold resCs at e
    split at e
    · rename_i v hv
      split at e
      · rename_i vs hvs
        cases e
        obtain ⟨u, h1, h2⟩ := resC_ok x hs.1 hv
        obtain ⟨us, h3, h4⟩ := resCs_ok x hs.2 hvs
        exact ⟨u :: us, .cons h1 h3, .cons h2 h4⟩
      · cases e
    · cases e
theorem resF_ok {β : Bk} {s : St} {h : Heap} {Tc : Tm} {fn : Func} (x : Sem N β s h Tc) {l : List CR} (hs : l.all (CR.side P) = true) (hr : fn.results = (l.map CR.rv).toArray) {c : CV} (e : resF s l = some c) : ∃ v, VR β c v ∧ Res P fn Tc h v := by
  unfold resF at e
  split at e
  · rename_i r
    simp only [List.all_cons, List.all_nil, Bool.and_true] at hs
    obtain ⟨v, h1, h2⟩ := resC_ok x hs e
    exact ⟨v, h1, res_one (by simpa using hr) h2⟩
  · rename_i l hne
    split at e
    · rename_i vs hvs
      cases e
      obtain ⟨us, h1, h2⟩ := resCs_ok x hs hvs
      refine ⟨_, .tup h1, res_many hr ?_ h2⟩
      rw [List.length_map]
      intro e1
      obtain ⟨r, rfl⟩ := List.length_eq_one_iff.1 e1
      exact hne r rfl
    · cases e
theorem retF_ok {β : Bk} {s s' : St} {h h' : Heap} {Tc : Tm} {fn : Func} {l : List CR} (hs : l.all (CR.side P) = true) (hr : fn.results = (l.map CR.rv).toArray) (a : After N β s h s' Tc h') {c : CV} {H' : CH} {n' : Pos} {ck' : Nat} (e : retF l s' = .ok c H' n' ck') : ∃ v, Res P fn Tc h' v ∧ Aft N β s.H s.ck h c H' n' ck' v h' := by
  unfold retF at e
  split at e
  · rename_i v hv
    cases e
    obtain ⟨⟨β', l', x⟩, k, m⟩ := a
    obtain ⟨u, h1, h2⟩ := resF_ok x hs hr hv
    exact ⟨u, h2, ⟨⟨β', l', x.2, h1⟩, k, m⟩⟩
  · cases e
/-- A function's code that may hold a loop over a function. -/
theorem rangeS_ok {cf : CF1} (hcf : CfOk1 N cf) {f : Pos} {g : CP} {x : Operand} {ps : Array Tmp} {A Bd : Code} {β : Bk} {s : St} {h : Heap} {Tc : Tm} (hgo : g.ok = true) (hx : x = g.op) (hrf : rfP P (f.nat - 1) = some (ps, A, Bd)) (xs : Sem N β s h Tc) (hne : rangeS cf f g s ≠ .no) :
    SCodeM P (ntP P (f.nat - 1)) (.rangeFunc x ps A Bd) false (fun e m T' h' => Got N β s h (rangeS cf f g s) e T' h') Tc h := by
  obtain ⟨ex, hex⟩ : ∃ ex, rangeS cf f g s = ex := ⟨_, rfl⟩
  rw [hex] at hne ⊢
  unfold rangeS at hex
  split at hex
  · rename_i g' xa ya hg
    split at hex
    · rename_i v H n ck hcall
      split at hex
      · rename_i st1 f1 T1 hlp
        subst hex
        have hv := CP.get_ok xs.1 g hgo
        rw [hg] at hv
        generalize hu : ev Tc g.op = u at hv
        cases hv with
        | @fn _ _ _ va vb ra rb =>
        have key : ∀ (l k : Nat) (tmps : Array Value) (D : Nat), h l = none → Reads (ntP P (f.nat - 1)) Tc { tmps := tmps, defers := [] } [] →
            HR N.toKy (β.put s.n ⟨l, 0⟩) (hset s.n (.lp s.ck false f s.T) s.H) s.n.succ s.ck (h.set l (.loop (loop0 k tmps ps A Bd D))) := fun l k tmps D hl hrd =>
          xs.2.alloc hl (.lp (r := loop0 k tmps ps A Bd D) (Heap.set_same _ _ _) rfl rfl hrf (xs.1.le (xs.2.put_le _)) hrd) (Nat.le_refl _)
        have vrs : ∀ l, VRs (β.put s.n ⟨l, 0⟩) (xa ++ (.yl s.n :: ya)) (va ++ (.func (.yield l) #[] #[] :: vb)) := fun l =>
          (ra.le (xs.2.put_le ⟨l, 0⟩)).append (.cons (.yl (x := ⟨l, 0⟩) (Bk.put_same _ _ _)) (rb.le (xs.2.put_le ⟨l, 0⟩)))
        by_cases hsome : ∃ (l k : Nat) (tmps : Array Value) (D : Nat), h l = none ∧ Reads (ntP P (f.nat - 1)) Tc { tmps := tmps, defers := [] } []
        · obtain ⟨l0, k0, tm0, D0, hl0, hrd0⟩ := hsome
          have ho := (hcf g' _ _ _ _ _ _ _ _ _ _ _ hcall (key l0 k0 tm0 D0 hl0 hrd0) (vrs l0)).1
          obtain ⟨fn, h1, h2, h3⟩ := okCall_spec ho
          refine m_range (by rw [hx]; exact hu) h1 h2 h3 fun l k tmps D hl hrd => ?_
          have hr1 := key l k tmps D hl hrd
          have c := (hcf g' _ _ _ _ _ _ _ _ _ _ _ hcall hr1 (vrs l)).2
          have ea : va.toArray ++ #[.func (.yield l) #[] #[]] ++ vb.toArray = (va ++ (.func (.yield l) #[] #[] :: vb)).toArray := by simp
          rw [ea]
          refine c.mono fun u h2 a => ?_
          obtain ⟨⟨β2, l2, hr2, _⟩, k2, m2⟩ := a
          have hb2 : β2 s.n = some ⟨l, 0⟩ := l2 _ _ (Bk.put_same _ _ _)
          have ob := hr2.obj _ _ hb2
          have hlive : (hget s.n H).live = true := by rw [hlp]; rfl
          have tn := fun (r : Loop) => hr2.turn (ob := .loop { r with state := .exhausted }) (o := .dead (ck + 1)) hb2 hlive (.dead _) rfl
          rw [hlp] at ob
          cases ob with
          | @lp _ _ _ _ r Tc' hb hs hp hr' hT ht =>
          refine ⟨r, hb, by rw [hs]; simp, hp, ?_⟩
          obtain ⟨hr3, k3⟩ := tn r
          have lle : β.le β2 := Bk.le_trans (xs.2.put_le _) l2
          have m1 : ∀ p, (hget p s.H).st ≤ (hget p (hset s.n (.lp s.ck false f s.T) s.H)).st := fun p => by
            by_cases hpn : p = s.n
            · subst hpn; rw [hget_same]; exact xs.2.ck _
            · rw [hget_ne hpn]; exact Nat.le_refl _
          have m3 : ∀ p, (hget p H).st ≤ (hget p (hset s.n (.dead (ck + 1)) H)).st := fun p => by
            by_cases hpn : p = s.n
            · subst hpn; rw [hget_same]; have := hr2.ck s.n; show _ ≤ ck + 1; omega
            · rw [hget_ne hpn]; exact Nat.le_refl _
          exact ⟨⟨β2, lle, xs.1.le lle, hr3⟩, Keep.trans (Keep.trans (xs.2.alloc_keep _ hl) (xs.2.put_le ⟨l, 0⟩) k2 m2) lle k3 m3, fun p => Nat.le_trans (m1 p) (Nat.le_trans (m2 p) (m3 p))⟩
        · intro B D w a hB rl ra' hD
          exfalso
          refine hsome ⟨w.heap.size, 0, a.tmps, 0, ?_, ra'.size, ra'.at_, ra'.out, rfl⟩
          cases e : h w.heap.size with
          | none => rfl
          | some o => have := rl.lt e; omega
      · exact absurd hex.symm hne
    · exact absurd hex.symm hne
  · exact absurd hex.symm hne
theorem rfI_none {M : Nat} : ∀ {c : Code} {x : SP}, shapeS N M c x = true → x.rfI = none → rfC c = none := by
  intro c x
  induction x generalizing c with
  | c a => intro h _; rw [shapeS_c] at h; exact rfC_none h
  | seq a b iha ihb =>
    intro h hn
    cases c <;> first | (cases h; done) | skip
    simp only [shapeS, Bool.and_eq_true] at h
    simp only [SP.rfI] at hn
    split at hn
    · cases hn
    · rename_i ha; simp [rfC, iha h.1.1 ha, ihb h.1.2 hn]
  | block id a iha =>
    intro h hn
    cases c <;> first | (cases h; done) | skip
    simp only [shapeS, Bool.and_eq_true] at h
    have := iha h.2 hn
    simpa [rfC] using this
  | rf g ps A B => intro h hn; cases hn
theorem evS_ok {cf : CF1} {ih : CC → St → Ex} (hcf : CfOk1 N cf) (hih : CodeOk N ih) {f : Pos} : ∀ (x : SP) (c : Code) (m : Bool) (β : Bk) (s : St) (h : Heap) (Tc : Tm), FitS N (ntP P (f.nat - 1)) c x → (∀ r, rfC c = some r → rfP P (f.nat - 1) = some r) → (m = true → x.rfI = none) → Sem N β s h Tc → evS cf ih f x s ≠ .no →
    SCodeM P (ntP P (f.nat - 1)) c m (fun e m' T' h' => (x.rfI = none → m' = m) ∧ Got N β s h (evS cf ih f x s) e T' h') Tc h := by
  intro x
  induction x with
  | c a =>
    intro c m β s h Tc fit _ _ x hne
    have fc : Fit N (ntP P (f.nat - 1)) c a := ⟨by have := fit.sh; rwa [shapeS_c] at this, by have := fit.eq; rwa [lhsS_c] at this⟩
    exact (m_plain (hih c a _ β s h Tc fc x hne)).mono fun e m' T' h' q => ⟨fun _ => q.1, q.2⟩
  | seq a b iha ihb =>
    intro c m β s h Tc fit hrf hm x hne
    cases c <;> first | (exact absurd fit.sh Bool.false_ne_true) | skip
    rename_i c1 c2
    obtain ⟨fa, fb, hor⟩ := fitS_seq fit
    have hrf1 : ∀ r, rfC c1 = some r → rfP P (f.nat - 1) = some r := fun r e => hrf r (by simp [rfC, e])
    have hrf2 : ∀ r, rfC c2 = some r → rfP P (f.nat - 1) = some r := fun r e => by
      rcases hor with h1 | h1
      · exact hrf r (by simp [rfC, rfI_none fa.sh h1, e])
      · rw [rfI_none fb.sh h1] at e; cases e
    have hnone : (SP.seq a b).rfI = none ↔ a.rfI = none ∧ b.rfI = none := by
      simp only [SP.rfI]
      cases a.rfI <;> simp
    have hma : m = true → a.rfI = none := fun e => (hnone.1 (hm e)).1
    have he : evS cf ih f (.seq a b) s = match evS cf ih f a s with | .nrm s' => evS cf ih f b s' | x => x := by
      show Ex.rec (motive := fun _ => Ex) .no (fun s => evS cf ih f b s) .ex .rt (evS cf ih f a s) = _
      cases evS cf ih f a s <;> rfl
    rw [he] at hne ⊢
    have ka := iha c1 m β s h Tc fa hrf1 hma x
    cases hg : evS cf ih f a s with
    | no => rw [hg] at hne; exact absurd rfl hne
    | nrm s1 =>
      rw [hg] at hne ka
      refine m_seq ((ka (by simp)).mono fun e m1 T1 h1 q => ?_)
      obtain ⟨qm, q⟩ := q
      cases e <;> simp only [Got] at q
      obtain ⟨⟨β1, l1, x1⟩, k1, mo1⟩ := q
      have hmb : m1 = true → b.rfI = none := fun e1 => by
        rcases hor with h2 | h2
        · exact (hnone.1 (hm ((qm h2).symm.trans e1))).2
        · exact h2
      exact (ihb c2 m1 β1 s1 h1 T1 fb hrf2 hmb x1 hne).mono fun e m2 T2 h2 q => ⟨fun hn => (q.1 (hnone.1 hn).2).trans (qm (hnone.1 hn).1), q.2.trans l1 k1 mo1⟩
    | ex id s1 =>
      rw [hg] at ka
      refine m_seq ((ka (by simp)).mono fun e m1 T1 h1 q => ?_)
      obtain ⟨qm, q⟩ := q
      cases e <;> simp only [Got] at q
      exact ⟨fun hn => qm (hnone.1 hn).1, q⟩
    | rt s1 =>
      rw [hg] at ka
      refine m_seq ((ka (by simp)).mono fun e m1 T1 h1 q => ?_)
      obtain ⟨qm, q⟩ := q
      cases e <;> simp only [Got] at q
      exact ⟨fun hn => qm (hnone.1 hn).1, q⟩
  | block id a iha =>
    intro c m β s h Tc fit hrf hm x hne
    cases c <;> first | (exact absurd fit.sh Bool.false_ne_true) | skip
    rename_i id' c1
    have sh := fit.sh
    simp only [shapeS, Bool.and_eq_true] at sh
    have hid := Nat.eq_of_beq_eq_true sh.1
    subst hid
    have fa : FitS N (ntP P (f.nat - 1)) c1 a := ⟨sh.2, fit.eq⟩
    have he : evS cf ih f (.block id' a) s = match evS cf ih f a s with | .nrm s' => .nrm s' | .ex k s' => bif Nat.beq k id' then .nrm s' else .ex k s' | x => x := by
      show Ex.rec (motive := fun _ => Ex) .no .nrm (fun k s => bif Nat.beq k id' then .nrm s else .ex k s) .rt (evS cf ih f a s) = _
      cases evS cf ih f a s <;> rfl
    rw [he] at hne ⊢
    have ka := iha c1 m β s h Tc fa hrf hm x
    cases hg : evS cf ih f a s with
    | no => rw [hg] at hne; exact absurd rfl hne
    | nrm s1 =>
      rw [hg] at ka
      refine m_block ((ka (by simp)).mono fun e m1 T1 h1 q => ?_)
      obtain ⟨qm, q⟩ := q
      cases e <;> simp only [Got] at q
      exact ⟨qm, q⟩
    | ex k s1 =>
      rw [hg] at ka
      refine m_block ((ka (by simp)).mono fun e m1 T1 h1 q => ?_)
      obtain ⟨qm, q⟩ := q
      cases e <;> simp only [Got] at q
      rename_i j
      obtain ⟨rfl, q⟩ := q
      simp only [blockM]
      cases hk : Nat.beq k id' with
      | true => rw [if_pos (Nat.eq_of_beq_eq_true hk)]; exact ⟨qm, q⟩
      | false =>
        rw [if_neg (fun e => by rw [e, Nat.beq_refl] at hk; cases hk)]
        exact ⟨qm, rfl, q⟩
    | rt s1 =>
      rw [hg] at ka
      refine m_block ((ka (by simp)).mono fun e m1 T1 h1 q => ?_)
      obtain ⟨qm, q⟩ := q
      cases e <;> simp only [Got] at q
      exact ⟨qm, q⟩
  | rf g ps A B =>
    intro c m β s h Tc fit hrf hm x hne
    cases c <;> first | (exact absurd fit.sh Bool.false_ne_true) | skip
    rename_i g' ps' A' B'
    have hmf : m = false := by
      cases m with
      | false => rfl
      | true => cases hm rfl
    subst hmf
    have sh := fit.sh
    simp only [shapeS, Bool.and_eq_true] at sh
    have eq := fit.eq
    simp only [lhsS, rhsS, List.cons.injEq, Prod.mk.injEq, Op.move.injEq] at eq
    exact (rangeS_ok hcf sh.1.1.1.1 eq.1.2.1 (hrf _ rfl) x hne).mono fun e m' T' h' q => ⟨fun hn => (by cases hn), q⟩
theorem callF1_ok {cf : CF1} {ih : CC → St → Ex} (hcf : CfOk1 N cf) (hω : OmOk N ω) (hG : GFit N G) (hih : CodeOk N ih) : CfOk1 N (callF1 cf ω G ih) := by
  intro f args vs H n ck β h v H' n' ck' e hr rv
  unfold callF1 at e
  cases ho : ω f args with
  | some c =>
    rw [ho] at e
    cases e
    obtain ⟨h1, h2⟩ := hω f args _ ho
    refine ⟨h1, (h2 β h vs hr.xs rv).mono fun r h' ⟨hle, hv⟩ => ?_⟩
    have es : ∀ p x, β p = some x → (hget p H).live = true → h' x.b = h x.b := fun p x hx hl => by
      cases e1 : h x.b with
      | none => exact absurd e1 (hr.at_ p x hx hl)
      | some ob => exact hle _ _ e1
    exact ⟨⟨β, Bk.le_refl _, hr.same es, hv⟩, fun p x hx hl => ⟨Nat.le_refl _, fun _ => ⟨rfl, es p x hx hl⟩⟩, fun _ => Nat.le_refl _⟩
  | none =>
  rw [ho] at e
  simp only at e
  split at e
  · rename_i g hg
    cases hle : Nat.ble args.length g.nt with
    | false => rw [hle] at e; cases e
    | true =>
    rw [hle] at e
    simp only [cond_true] at e
    obtain ⟨hok, heq1, heq2⟩ := hG f g hg
    unfold fnOk at hok
    split at hok
    · rename_i fn hfn
      split at hok
      · rename_i c hc
        simp only [Bool.and_eq_true] at hok
        obtain ⟨⟨⟨hsh, hcall⟩, hres⟩, hnt⟩ := hok
        rw [hfn] at heq1 heq2
        simp only [Option.bind_some, hc, Option.map_some, Option.some.injEq] at heq1 heq2
        have hlr := heq1
        have hrs := heq2
        refine ⟨hcall, ?_⟩
        have hntp : ntP P (f.nat - 1) = fn.ntmps := by simp [ntP, hfn]
        have hrfp : ∀ r, rfC c = some r → rfP P (f.nat - 1) = some r := fun r e => by simp [rfP, hfn, hc, e]
        have x : Sem N β ⟨argT .h args .e, H, n, ck, [], []⟩ h (T0 vs.toArray) := ⟨by
          have := argT_ok (pre := []) (T := .e) (p := .h) rv rfl (by
            have : T0 ([] : List Value).toArray = fun _ => undef := by funext t; simp [T0]
            rw [this]; exact TR.nil)
          simpa using this, hr⟩
        have ka := evS_ok (f := f) hcf hih g.code c false β _ h _ ⟨by rw [hntp]; exact hsh, hlr⟩ hrfp (fun e => by cases e) x
        rw [hntp] at ka
        have hN : vs.toArray.size ≤ fn.ntmps := by
          rw [List.size_toArray, rv.len]
          exact Nat.le_trans (Nat.le_of_ble_eq_true hle) (Nat.le_of_ble_eq_true hnt)
        refine s_enterM hfn hc hN ?_
        cases hg2 : evS cf ih f g.code ⟨argT .h args .e, H, n, ck, [], []⟩ with
        | no => rw [hg2] at e; cases e
        | ex id s' => rw [hg2] at e; cases e
        | nrm s' =>
          rw [hg2] at e ka
          refine (ka (by simp)).mono fun ex m' T' h' q => ?_
          have q := q.2
          cases ex <;> simp only [Got] at q
          exact retF_ok hres hrs q e
        | rt s' =>
          rw [hg2] at e ka
          refine (ka (by simp)).mono fun ex m' T' h' q => ?_
          have q := q.2
          cases ex <;> simp only [Got] at q
          exact retF_ok hres hrs q e
      · cases hok
    · cases hok
  · cases e
theorem rfI_some {M : Nat} : ∀ {c : Code} {x : SP} {r : List Pos × CC × CC}, FitS N M c x → x.rfI = some r → ∃ ps A B, rfC c = some (ps, A, B) ∧ Fit N M A r.2.1 ∧ Fit N M B r.2.2 ∧ ps.toList = r.1.map (fun p => p.nat - 1) ∧ ∀ t ∈ ps.toList, t < M := by
  intro c x
  induction x generalizing c with
  | c a => intro r fit e; cases e
  | seq a b iha ihb =>
    intro r fit e
    cases c <;> first | (exact absurd fit.sh Bool.false_ne_true) | skip
    obtain ⟨fa, fb, hor⟩ := fitS_seq fit
    simp only [SP.rfI] at e
    split at e
    · rename_i r' ha
      cases e
      obtain ⟨ps, A, B, h1, h2⟩ := iha fa ha
      exact ⟨ps, A, B, by simp [rfC, h1], h2⟩
    · rename_i ha
      obtain ⟨ps, A, B, h1, h2⟩ := ihb fb e
      exact ⟨ps, A, B, by simp [rfC, rfI_none fa.sh ha, h1], h2⟩
  | block id a iha =>
    intro r fit e
    cases c <;> first | (exact absurd fit.sh Bool.false_ne_true) | skip
    have sh := fit.sh
    simp only [shapeS, Bool.and_eq_true] at sh
    obtain ⟨ps, A, B, h1, h2⟩ := iha ⟨sh.2, fit.eq⟩ e
    exact ⟨ps, A, B, by simp [rfC, h1], h2⟩
  | rf g ps A B =>
    intro r fit e
    cases e
    cases c <;> first | (exact absurd fit.sh Bool.false_ne_true) | skip
    rename_i g' ps' A' B'
    have sh := fit.sh
    simp only [shapeS, Bool.and_eq_true] at sh
    obtain ⟨⟨⟨⟨_, sA⟩, sB⟩, sl⟩, sp⟩ := sh
    have sl := Nat.eq_of_beq_eq_true sl
    have eq := fit.eq
    simp only [lhsS, rhsS, List.cons.injEq] at eq
    obtain ⟨e1, e2⟩ := List.append_inj eq.2 (by simp [sl])
    obtain ⟨e3, e4⟩ := List.append_inj e2 (lhs_len sA)
    have ep : ps'.toList = ps.map (fun p => p.nat - 1) := by
      have := congrArg (List.map (fun z : T3 => z.1.getD 0)) e1
      simpa [Function.comp_def] using this
    refine ⟨ps', A', B', rfl, ⟨sA, e3⟩, ⟨sB, e4⟩, ep, fun t ht => ?_⟩
    rw [ep] at ht
    obtain ⟨p, hp, rfl⟩ := List.mem_map.1 ht
    have := List.all_eq_true.1 sp p hp
    simpa using this
theorem setPT_ok {β : Bk} : ∀ {ps : List Pos} {args : List CV} {vs : List Value} {T : Tr CV} {Tc : Tm}, VRs β args vs → TR β T Tc → TR β (setPT ps args T) (setTs ((ps.map (fun p => p.nat - 1)).zip vs) Tc)
  | [], _, _, _, _, _, r => by simpa [setPT, setTs] using r
  | p :: ps, _, _, _, _, .nil, r => by simpa [setPT, setTs] using r
  | p :: ps, _, _, _, _, .cons h rs, r => by
    have := setPT_ok (ps := ps) rs (r.put p h)
    simpa [setPT, setTs] using this
theorem yieldF_ok {ih : CC → St → Ex} (hG : GFit N G) (hih : CodeOk N ih) : YfOk N (yieldF G ih) := by
  intro id args vs H n ck β h v H' n' ck' x e hr rv hx
  unfold yieldF at e
  split at e
  · rename_i st f T hlp
    split at e
    · rename_i r hrr
      cases hlen : Nat.beq r.1.length args.length with
      | false => rw [hlen] at e; cases e
      | true =>
      rw [hlen] at e
      simp only [cond_true] at e
      have hlen := Nat.eq_of_beq_eq_true hlen
      split at hrr
      · rename_i g hg
        obtain ⟨hok, heq1, heq2⟩ := hG f g hg
        unfold fnOk at hok
        split at hok
        · rename_i fn hfn
          split at hok
          · rename_i c hc
            simp only [Bool.and_eq_true] at hok
            obtain ⟨⟨⟨hsh, hcall⟩, hres⟩, hnt⟩ := hok
            rw [hfn] at heq1
            simp only [Option.bind_some, hc, Option.map_some, Option.some.injEq] at heq1
            obtain ⟨ps, A, B, h1, fA, fB, hps, hpM⟩ := rfI_some ⟨hsh, heq1⟩ hrr
            have hrfp : rfP P (f.nat - 1) = some (ps, A, B) := by simp [rfP, hfn, hc, h1]
            have hntp : ntP P (f.nat - 1) = fn.ntmps := by simp [ntP, hfn]
            have ob := hr.obj _ _ hx
            rw [hlp] at ob
            cases ob with
            | @lp _ _ _ _ r0 Tc hb hs hp hr' hT ht =>
            rw [hrfp] at hr'
            simp only [Option.some.injEq, Prod.mk.injEq] at hr'
            obtain ⟨e1, e2, e3⟩ := hr'
            rw [hntp] at ht
            have hvl : vs.length = r0.params.size := by
              have : r0.params.toList.length = r.1.length := by rw [← e1, hps, List.length_map]
              rw [rv.len, ← hlen, ← this]; simp
            refine ⟨r0, hb, hvl, ?_⟩
            have rd := reads_setPs (ps := r0.params) (vs := vs.toArray) (by rw [← e1]; exact hpM) ht
            have hT2 : TR β (setPT r.1 args T) (setTs (r0.params.toList.zip vs.toArray.toList) Tc) := by
              have := setPT_ok (ps := r.1) rv hT
              rw [← e1, hps]; simpa using this
            split at e
            · rename_i s1 hs1
              split at e
              · rename_i st1 f1 T1 hl1
                split at e
                · rename_i s2 hs2
                  split at e
                  · rename_i st2 bz f2 T2 hl2
                    cases e
                    have ka := hih A r.2.1 fn.ntmps β ⟨setPT r.1 args T, H, n, ck, [], []⟩ h _ fA ⟨hT2, hr⟩ (by rw [hs1]; simp)
                    rw [hs1] at ka
                    refine s_round rd (by
                      rw [← e2]
                      refine ka.mono fun ex Ta ha q => ?_
                      cases ex <;> simp only [Got] at q
                      refine ⟨rfl, ?_⟩
                      obtain ⟨⟨β1, l1, x1⟩, k1, m1⟩ := q
                      have hx1 := l1 _ _ hx
                      have ob1 := x1.2.obj _ _ hx1
                      have hlive1 : (hget id s1.H).live = true := by rw [hl1]; rfl
                      have tn1 := fun (ob : Obj) (o : CO) => x1.2.turn (ob := ob) (o := o) hx1 hlive1
                      rw [hl1] at ob1
                      cases ob1 with
                      | @lp _ _ _ _ r1 Tc1 hb1 hs1' hp1 hr1 hTT1 ht1 =>
                      refine ⟨r1, hb1, hs1', ?_⟩
                      obtain ⟨hr3, k3⟩ := tn1 (.loop { r1 with state := .busy }) (.lp (s1.ck + 1) true f1 T1) (.lp (r := { r1 with state := .busy }) (Heap.set_same _ _ _) rfl hp1 hr1 hTT1 ht1) rfl
                      have m3 : ∀ p, (hget p s1.H).st ≤ (hget p (hset id (.lp (s1.ck + 1) true f1 T1) s1.H)).st := fun p => by
                        by_cases hpn : p = id
                        · subst hpn; rw [hget_same]; have := x1.2.ck p; show _ ≤ s1.ck + 1; omega
                        · rw [hget_ne hpn]; exact Nat.le_refl _
                      have kb := hih B r.2.2 fn.ntmps β1 ⟨s1.T, hset id (.lp (s1.ck + 1) true f1 T1) s1.H, s1.n, s1.ck + 1, [], []⟩ _ Ta fB ⟨x1.1, hr3⟩ (by rw [hs2]; simp)
                      rw [hs2] at kb
                      rw [← e3]
                      refine kb.mono fun ex Tb hb' q => ?_
                      cases ex <;> simp only [Got] at q
                      refine ⟨rfl, ?_⟩
                      obtain ⟨⟨β2, l2, x2⟩, k2, m2⟩ := q
                      have hx2 := l2 _ _ hx1
                      have ob2 := x2.2.obj _ _ hx2
                      have hlive2 : (hget id s2.H).live = true := by rw [hl2]; rfl
                      have tn2 := fun (ob : Obj) (o : CO) => x2.2.turn (ob := ob) (o := o) hx2 hlive2
                      rw [hl2] at ob2
                      cases ob2 with
                      | @lp _ _ _ _ r2 Tc2 hb2 hs2' hp2 hr2 hTT2 ht2 =>
                      refine ⟨r2, hb2, ?_⟩
                      obtain ⟨hr4, k4⟩ := tn2 (.loop { r2 with state := .ready, pending := none }) (.lp (s2.ck + 1) false f2 T2) (.lp (r := { r2 with state := .ready, pending := none }) (Heap.set_same _ _ _) rfl rfl hr2 hTT2 ht2) rfl
                      have m4 : ∀ p, (hget p s2.H).st ≤ (hget p (hset id (.lp (s2.ck + 1) false f2 T2) s2.H)).st := fun p => by
                        by_cases hpn : p = id
                        · subst hpn; rw [hget_same]; have := x2.2.ck p; show _ ≤ s2.ck + 1; omega
                        · rw [hget_ne hpn]; exact Nat.le_refl _
                      have l12 := Bk.le_trans l1 l2
                      exact ⟨⟨β2, l12, hr4, .b true⟩, Keep.trans (Keep.trans (Keep.trans k1 l1 k3 m3) l1 k2 m2) l12 k4 m4, fun p => Nat.le_trans (m1 p) (Nat.le_trans (m3 p) (Nat.le_trans (m2 p) (m4 p)))⟩)
                  · cases e
                · cases e
              · cases e
            · cases e
          · cases hok
        · cases hok
      · cases hrr
    · cases e
  · cases e
theorem callF_ok {ih : CC → St → Ex} (hω : OmOk N ω) (hG : GFit N G) (hih : CodeOk N ih) : CfOk N (callF ω G ih) :=
  ⟨callF1_ok (callF1_ok (fun _ _ _ _ _ _ _ _ _ _ _ _ e => by cases e) hω hG hih) hω hG hih, yieldF_ok hG hih⟩
theorem evC_ok (hm : P.follows .mixedOrders = true) (hω : OmOk N ω) (hG : GFit N G) (n : Nat) : CodeOk N (evC ω G n) := by
  induction n using Nat.strongRecOn with
  | _ n ih =>
    cases n with
    | zero => intro c c' M β s h Tc _ _ hne; exact absurd rfl hne
    | succ n =>
      have ihn := ih n (Nat.lt_succ_self n)
      show CodeOk N (stepC (callF ω G (evC ω G n)) (evC ω G n))
      refine step_ok hm (callF_ok hω hG ihn) ihn fun c c' M β s h Tc fit x hne => ?_
      have fc : Fit N M c c' := ⟨fit.sh, fit.eq⟩
      show SCode P M (.loop c) (Got N β s h (evC ω G (n + 1) (.loop c') s)) Tc h
      have hne : evC ω G (n + 1) (.loop c') s ≠ .no := hne
      obtain ⟨ex, hex⟩ : ∃ ex, evC ω G (n + 1) (.loop c') s = ex := ⟨_, rfl⟩
      rw [hex] at hne ⊢
      refine s_loop (fun m T1 h1 => m ≤ n + 1 ∧ ∃ β1 s1, β.le β1 ∧ Sem N β1 s1 h1 T1 ∧ Keep β s.H s1.H h h1 ∧ (∀ p, (hget p s.H).st ≤ (hget p s1.H).st) ∧ evC ω G m (.loop c') s1 = ex) (n0 := n + 1) ⟨Nat.le_refl _, β, s, Bk.le_refl _, x, Keep.refl _ _ _, fun p => Nat.le_refl _, hex⟩ ?_
      rintro m T1 h1 ⟨hmn, β1, s1, l1, x1, k1, m1, e1⟩
      cases m with
      | zero => exact absurd e1.symm hne
      | succ m =>
        have he : evC ω G (m + 1) (.loop c') s1 = match evC ω G m c' s1 with | .nrm s' => evC ω G m (.loop c') s' | x => x := by
          show Ex.rec (motive := fun _ => Ex) .no (fun s => evC ω G m (.loop c') s) .ex .rt (evC ω G m c' s1) = _
          cases evC ω G m c' s1 <;> rfl
        rw [he] at e1
        have ka := ih m (by omega) c c' M β1 s1 h1 T1 fc x1
        cases hg : evC ω G m c' s1 with
        | no => rw [hg] at e1; exact absurd e1.symm hne
        | nrm s2 =>
          rw [hg] at e1 ka
          refine (ka (by simp)).mono fun e T2 h2 q => ?_
          cases e <;> simp only [Got] at q
          obtain ⟨⟨β2, l2, x2⟩, k2, m2⟩ := q
          exact ⟨m, Nat.lt_succ_self m, by omega, β2, s2, Bk.le_trans l1 l2, x2, Keep.trans k1 l1 k2 m2, fun p => Nat.le_trans (m1 p) (m2 p), e1⟩
        | ex id s2 =>
          rw [hg] at e1 ka
          refine (ka (by simp)).mono fun e T2 h2 q => ?_
          have q' : Got N β s h ex e T2 h2 := by rw [← e1]; exact Got.trans l1 k1 m1 q
          cases e <;> first | exact q' | (simp only [Got] at q)
        | rt s2 =>
          rw [hg] at e1 ka
          refine (ka (by simp)).mono fun e T2 h2 q => ?_
          have q' : Got N β s h ex e T2 h2 := by rw [← e1]; exact Got.trans l1 k1 m1 q
          cases e <;> first | exact q' | (simp only [Got] at q)
/-- A function's call, from outside: nothing of ours lies in the heap yet. -/
theorem HR.empty (h : Heap) : HR N.toKy ⟨fun _ => none, N.ξ⟩ .e .h 0 h := by
  have e : ∀ p, hget p .e = .dead 0 := fun p => Tr.get_e _ p
  exact ⟨fun p hp => (by rw [e] at hp; cases hp), fun p x hx => (by cases hx), fun p q x y hp => (by rw [e] at hp; cases hp), fun p hp => rfl, fun p => (by rw [e]; exact Nat.le_refl _), fun p _ => (by rw [e]; rfl), rfl⟩
/-- THE CALL: what the evaluator says of a function, told values that are closed or not looked at, comes of the program. -/
theorem call_of (hm : P.follows .mixedOrders = true) (hω : OmOk N ω) (hG : GFit N G) {n : Nat} {f : Pos} {args : List CV} {v : CV} {H : CH} {m : Pos} {ck : Nat} (e : callF ω G (evC ω G n) false f args .e .h 0 = .ok v H m ck) {vs : List Value} (rv : VRs ⟨fun _ => none, N.ξ⟩ args vs) (h : Heap) :
    SCalls P (f.nat - 1) vs.toArray h (fun r h' => ∃ β : Bk, VR β v r) :=
  (((callF_ok hω hG (evC_ok hm hω hG n)).1 f args vs _ _ _ _ h v H m ck e (HR.empty h) rv).2).mono fun r h' a => by
    obtain ⟨⟨β, _, _, hv⟩, _, _⟩ := a
    exact ⟨β, hv⟩
end Go.Proofs.YtfbjgbecabbdnaaGreatDoor.Ce

/- The evaluator: which keys are which; from a call to what a row asks. -/
set_option linter.unusedVariables false
set_option linter.unusedSimpArgs false
namespace Go.Proofs.YtfbjgbecabbdnaaGreatDoor.Ce
open Go.Proofs.YtfbjgbecabbdnaaGreatDoor.Sl Go.RowKit
variable {P : Program}
mutual
def ckv (P : Program) : Nat → TypeId → Value → Bool
  | 0, _, _ => false
  | n + 1, t, v => match P.underlying t, v with
    | some (.struct fs), .agg cs => ckvF P n cs fs.toList
    | some (.int _), _ => true
    | _, _ => false
def ckvF (P : Program) : Nat → Array Value → List Field → Bool
  | _, _, [] => true
  | n, cs, f :: r => (if f.name = "_" then true else match partV P f.type cs f.offset with | some a => ckv P n f.type a | none => false) && ckvF P n cs r
end
theorem run_ckv : ∀ (n : Nat) (t : TypeId) (v : Value) (emp : Bool) (w : World), ckv P n t v = true → (Instr.checkKey emp n t v).run P w = .ok () w := by
  intro n
  induction n with
  | zero => intro t v emp w h; simp [ckv] at h
  | succ n ih =>
    have ihF : ∀ (fs : List Field) (cs : Array Value) (emp : Bool) (w : World), ckvF P n cs fs = true → (forIn (m := Go.Sem) fs PUnit.unit fun f __s => if f.name = "_" then pure (ForInStep.yield PUnit.unit) else do
        let x ← part f.type cs f.offset
        (fun a => ForInStep.yield PUnit.unit) <$> Instr.checkKey emp n f.type x).run P w = .ok PUnit.unit w := by
      intro fs
      induction fs with
      | nil => intro cs emp w h; rfl
      | cons f r ihr =>
        intro cs emp w h
        simp only [ckvF, Bool.and_eq_true] at h
        obtain ⟨h1, h2⟩ := h
        have ih2 := ihr cs emp w h2
        simp only [List.forIn_cons, Sem.run_bind]
        by_cases hf : f.name = "_"
        · simp only [hf, if_true, Sem.run_pure, Result.andThen_ok]; exact ih2
        · simp only [hf, if_false] at h1
          cases hp : partV P f.type cs f.offset with
          | none => rw [hp] at h1; cases h1
          | some a =>
            rw [hp] at h1
            simp only [hf, if_false, Sem.run_bind, run_partV hp, Result.andThen_ok, Sem.run_map, ih f.type a emp w h1, Sem.run_pure]
            exact ih2
    intro t v emp w h
    unfold ckv at h
    split at h
    · rename_i fs cs hu
      simp only [Instr.checkKey, Sem.run_bind, run_underlying hu, Result.andThen_ok]
      have := ihF fs.toList cs emp w h
      rw [Array.forIn_toList] at this
      simp [this]
    · rename_i hu; simp [Instr.checkKey, run_underlying hu]
    · cases h
theorem law_int {kt : TypeId} {k : IntKind} (hu : P.underlying kt = some (.int k)) : KeyLaw P kt (Sh.int k).enc where
  now := by
    intro d hd
    rw [hu] at hd
    cases hd
    refine .inl fun a b => ?_
    obtain ⟨a, ha⟩ := a
    obtain ⟨b, hb⟩ := b
    obtain ⟨a, rfl⟩ := List.length_eq_one_iff.1 ha
    obtain ⟨b, rfl⟩ := List.length_eq_one_iff.1 hb
    simp only [Sh.enc, Instr.sameNow, if_true, List.headD_cons]
    congr 1
    rw [Bool.eq_iff_iff, beq_iff_eq, decide_eq_true_eq]
    exact ⟨fun e => by subst e; rfl, fun e => by have := congrArg Subtype.val e; simpa using this⟩
  eq := by
    intro a b w
    obtain ⟨a, ha⟩ := a
    obtain ⟨b, hb⟩ := b
    obtain ⟨a, rfl⟩ := List.length_eq_one_iff.1 ha
    obtain ⟨b, rfl⟩ := List.length_eq_one_iff.1 hb
    refine run_eqv 10000 _ _ _ _ w ?_
    have : eqv P 10000 kt (.int k a) (.int k b) = some (a == b) := by unfold eqv; simp [hu]
    show eqv P 10000 kt (.int k a) (.int k b) = _
    rw [this]
    congr 1
    rw [Bool.eq_iff_iff, beq_iff_eq, decide_eq_true_eq]
    exact ⟨fun e => by subst e; rfl, fun e => by have := congrArg Subtype.val e; simpa using this⟩
  check := fun emp a w => run_ckv 10000 _ _ emp w (by unfold ckv; simp [hu])
  bits := fun a => by simp [Sh.enc, Instr.sameBits]
theorem zipK_bits : ∀ (n : Nat) (ks : List IntKind) (l : List Int), ((zipK ks l).zip (zipK ks l)).all (fun (x, y) => Instr.sameBits n x y) = true
  | n, [], l => by simp [zipK]
  | n, k :: ks, [] => by simp [zipK]
  | n, k :: ks, a :: l => by
    simp only [zipK, List.zip_cons_cons, List.all_cons, zipK_bits n ks l, Bool.and_true]
    cases n <;> simp [Instr.sameBits]
theorem law_agg {kt : TypeId} {ks : List IntKind} {fs : Array Field} (hu : P.underlying kt = some (.struct fs)) (heq : ∀ a b : List Int, a.length = ks.length → b.length = ks.length → eqv P 10000 kt (.agg (zipK ks a).toArray) (.agg (zipK ks b).toArray) = some (decide (a = b)))
    (hck : ∀ a : List Int, a.length = ks.length → ckv P 10000 kt (.agg (zipK ks a).toArray) = true) : KeyLaw P kt (Sh.agg ks).enc where
  now := by
    intro d hd
    rw [hu] at hd
    cases hd
    exact .inr fun _ _ => rfl
  eq := by
    intro a b w
    refine run_eqv 10000 _ _ _ _ w ?_
    show eqv P 10000 kt (.agg (zipK ks a.1).toArray) (.agg (zipK ks b.1).toArray) = _
    rw [heq a.1 b.1 a.2 b.2]
    congr 1
    rw [Bool.eq_iff_iff, decide_eq_true_eq, decide_eq_true_eq]
    exact ⟨fun e => Subtype.ext e, fun e => congrArg Subtype.val e⟩
  check := fun emp a w => run_ckv 10000 _ _ emp w (hck a.1 a.2)
  bits := fun a => by
    have := zipK_bits 9999 ks a.1
    show Instr.sameBits 10000 (.agg (zipK ks a.1).toArray) (.agg (zipK ks a.1).toArray) = true
    simpa [Instr.sameBits] using this
theorem KeyLaw.ex {t kt et : TypeId} {s : Sh} {d : TypeDesc} (h1 : P.underlying t = some (.map kt et)) (h2 : P.underlying kt = some d) (l : KeyLaw P kt s.enc) : ∃ kt et d, P.underlying t = some (.map kt et) ∧ P.underlying kt = some d ∧ KeyLaw P kt s.enc := ⟨kt, et, d, h1, h2, l⟩
/-- A call over the empty heap that says true: the world's blocks lie as they lay. -/
theorem calls_true {f : FuncId} {args : Array Value} (c : SCalls P f args (fun _ => none) (fun r _ => r = .bool true)) (w : World) : Calls P f args w fun e w' => e = .returned (.bool true) ∧ Below w.heap.size w w' := by
  refine (c w (fun b o e => by cases e)).mono ?_
  rintro e w' ⟨v, h', rfl, rfl, r, st⟩
  exact ⟨rfl, st.os, st.tape, st.output, st.size, fun k hk => (st.keep k hk rfl)⟩
def isTrue : Ao → Bool
  | .ok (.b true) _ _ _ => true
  | _ => false
/-- THE CALL THAT SAYS TRUE. -/
theorem true_of {N : Kn P} {G : CG} {ω : Om} (hm : P.follows .mixedOrders = true) (hω : OmOk N ω) (hG : GFit N G) {n : Nat} {f : Pos} {args : List CV} (e : isTrue (callF ω G (evC ω G n) false f args .e .h 0) = true) {vs : List Value} (rv : VRs ⟨fun _ => none, N.ξ⟩ args vs) :
    SCalls P (f.nat - 1) vs.toArray (fun _ => none) (fun r _ => r = .bool true) := by
  generalize hc : callF ω G (evC ω G n) false f args .e .h 0 = a at e
  unfold isTrue at e
  split at e
  · refine (call_of hm hω hG hc rv _).mono fun r h' ⟨β, hv⟩ => ?_
    cases hv; rfl
  · cases e
end Go.Proofs.YtfbjgbecabbdnaaGreatDoor.Ce
