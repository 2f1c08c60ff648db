/- Put. -/
import Derived.Test.YtielfejpnkcjbaaTrie
set_option linter.unusedVariables false
set_option linter.unusedSimpArgs false
namespace Go.Proofs.Ytielfejpnkcjbaa
open Sl
section
variable {κ : Type} [DecidableEq κ]
theorem Sl.getK_map (l : List (κ × Value)) (k k' : κ) (v : Value) : getK (l.map fun p => if k = p.1 then (p.1, v) else p) k' = if k' = k then (if hasK l k then some v else none) else getK l k' := by
  induction l with
  | nil => simp [getK, hasK]
  | cons p r ih =>
    obtain ⟨a, u⟩ := p
    unfold getK hasK at *
    simp only [List.map_cons, List.any_cons]
    by_cases h1 : k = a
    · subst h1
      by_cases h2 : k' = k
      · subst h2; simp
      · simp [h2]; simpa [h2] using ih
    · simp only [if_neg h1]
      by_cases h2 : k' = a
      · subst h2; simp [Ne.symm h1]
      · simp only [List.find?_cons, decide_eq_false h2, decide_eq_false h1, Bool.false_or]
        exact ih
theorem Sl.getK_putK (l : List (κ × Value)) (k k' : κ) (v : Value) : getK (putK l k v) k' = if k' = k then some v else getK l k' := by
  unfold putK
  split
  · rename_i hh
    rw [getK_map, hh]; simp
  · rename_i hh
    have hn : getK l k = none := (getK_none l k).2 (by simpa using hh)
    by_cases h2 : k' = k
    · subst h2
      unfold getK at *
      rw [List.find?_append]
      cases hf : l.find? (fun p => decide (k' = p.1)) with
      | none => simp
      | some p => rw [hf] at hn; cases hn
    · unfold getK
      rw [List.find?_append]
      cases hf : l.find? (fun p => decide (k' = p.1)) with
      | none => simp [h2]
      | some p => simp [h2]
end
abbrev Puts := List ((Nat × Nat) × Int)
def numsOf (ps : Puts) (q : List Bool) : List Int := (ps.filter fun x => decide (path x.1.1 x.1.2 = q)).map (·.2)
def countOf (ps : Puts) (k : Int × Int) : Nat := (ps.filter fun x => decide (((x.1.1 : Int), (x.1.2 : Int)) = k)).length
structure CntOk (ps : Puts) (l : Cnt) : Prop where
  get : ∀ k, getK l k = if countOf ps k = 0 then none else some (.int .i64 (countOf ps k))
  one : Keys1 l
theorem CntOk.nil : CntOk [] [] := ⟨fun k => rfl, by simp [Keys1]⟩
theorem countOf_put (ps : Puts) (x : (Nat × Nat) × Int) (k : Int × Int) : countOf (ps ++ [x]) k = countOf ps k + if k = ((x.1.1 : Int), (x.1.2 : Int)) then 1 else 0 := by
  unfold countOf
  rw [List.filter_append, List.length_append]
  congr 1
  by_cases h : k = ((x.1.1 : Int), (x.1.2 : Int))
  · simp [h]
  · simp [h, Ne.symm h]
theorem CntOk.put {ps : Puts} {l : Cnt} (c : CntOk ps l) (x : (Nat × Nat) × Int) : CntOk (ps ++ [x]) (putK l ((x.1.1 : Int), (x.1.2 : Int)) (.int .i64 ((countOf ps ((x.1.1 : Int), (x.1.2 : Int)) + 1 : Nat)))) := by
  refine ⟨fun k => ?_, putK_keys _ c.one _ _⟩
  rw [getK_putK, countOf_put]
  by_cases h : k = ((x.1.1 : Int), (x.1.2 : Int))
  · simp [h]
  · simp [h, c.get k]
theorem numsOf_put (ps : Puts) (x : (Nat × Nat) × Int) : numsOf (ps ++ [x]) = fun r => if r = path x.1.1 x.1.2 then numsOf ps (path x.1.1 x.1.2) ++ [x.2] else numsOf ps r := by
  funext r
  unfold numsOf
  rw [List.filter_append, List.map_append]
  by_cases h : r = path x.1.1 x.1.2
  · simp [h]
  · simp [h, Ne.symm h]
structure TrieAt (h : Heap) (D : Nat → Prop) (p : Nat) (ps : Puts) : Prop where
  out : ∃ S l, TrieH h S p (numsOf ps) l ∧ CntOk ps l ∧ D = S.dom
  ok : ∀ x ∈ ps, x.1.1 < 4294967296 ∧ x.1.2 ≤ 32 ∧ cut x.1.1 x.1.2 = x.1.1
  few : ps.length ≤ 1000000
theorem numsOf_len (ps : Puts) (q : List Bool) : (numsOf ps q).length ≤ ps.length := by
  unfold numsOf; rw [List.length_map]; exact List.length_filter_le _ _
theorem TrieAt.le {h h' : Heap} {D : Nat → Prop} {p : Nat} {ps : Puts} (t : TrieAt h D p ps) (le : h.le h') : TrieAt h' D p ps := by
  obtain ⟨S, l, a, b, c⟩ := t.out
  exact ⟨⟨S, l, a.le le, b, c⟩, t.ok, t.few⟩
theorem TrieAt.only {h h' : Heap} {D : Nat → Prop} {p : Nat} {ps : Puts} (t : TrieAt h D p ps) (e : ∀ b o, D b → h b = some o → h' b = some o) : TrieAt h' D p ps := by
  obtain ⟨S, l, a, b, c⟩ := t.out
  subst c
  exact ⟨⟨S, l, a.only e, b, rfl⟩, t.ok, t.few⟩
theorem TrieAt.new (h : Heap) (p : Nat) (ty : TypeId) : TrieAt (h.set p (.cells #[.pointer none, .pointer none, .slice none 0 0, .map none] ty (0, 0))) (fun b => b = p) p [] :=
  ⟨⟨_, _, TrieH.new h p ty, CntOk.nil, by funext b; by_cases e : b = p <;> simp [TrieS.dom, e]⟩, by simp, by simp⟩
theorem ptr_eql (x : Option Nat) (f : Nat → Option Bool) : True := trivial
theorem put_ok {h : Heap} {D : Nat → Prop} {p : Nat} {ps : Puts} (A : Nat) (n m : Int) (t : TrieAt h D p ps) (hA : A < 4294967296) (few : ps.length < 1000000) :
    SCalls Try.prog 13 #[.pointer (some ⟨p, 0, none⟩), pfxV A n, .int .i64 m] h (fun v h' => v = .bool (okPfx A n) ∧ ∃ D', Chg D D' h h' ∧ TrieAt h' D' p (if okPfx A n then ps ++ [((A, n.toNat), m)] else ps)) := by
  refine s_enter Try.func13 rfl (by rw [Try.ntmps13]; simp) ?_
  rw [Try.ntmps13]
  generalize hT : T0 #[.pointer (some ⟨p, 0, none⟩), pfxV A n, .int .i64 m] = T
  have h0 : T 0 = .pointer (some ⟨p, 0, none⟩) := by rw [← hT]; rfl
  have h1 : T 1 = .agg #[.int .u32 A, .int .i64 n] := by rw [← hT]; rfl
  have h2 : T 2 = .int .i64 m := by rw [← hT]; rfl
  clear hT
  have hpf : (Value.agg #[.int .u32 A, .int .i64 n]) = pfxV A n := rfl
  repeat refine s_seq ?_
  refine s_region ?_
  refine w_al rfl dC (want_none rfl) (a_boxN rfl evA) ?_
  intro b4 hb4
  refine w_pv rfl dC (want_none rfl) (p_val evA) ?_
  refine w_nil ?_
  repeat refine s_seq ?_
  refine s_region ?_
  refine w_rd rfl dC (want_none rfl) (r_loadN (n := 2) rfl Try.underlying37 rfl evA hpA kR szA) ?_
  refine w_ac rfl dC (want_none rfl) (s_call rfl rfl Try.func43 kR kR evA ?_); refine (addrValid_ok _ _ _).mono ?_; rintro _ hv ⟨hle, rfl⟩
  refine w_pv rfl dC (want_none rfl) (p_val evA) ?_
  refine w_nil ?_
  rw [validB_eq A n hA]
  have hle0 : h.le hv := Heap.le_trans (Heap.le_set _ hb4) hle
  have hb4' := hle _ _ (Heap.set_same _ _ _)
  cases hok : okPfx A n with
  | false =>
    repeat refine s_seq ?_
    refine s_cond (t := true) slA ?_
    repeat refine s_seq ?_
    refine s_region ?_
    refine w_pv rfl dC (want_none rfl) (p_val evA) ?_
    refine w_nil ?_
    refine s_ret ⟨_, res_one rfl rfl, slA, D, Chg.le (Chg.refl D h) hle0, ?_⟩
    exact t.le hle0
  | true =>
    repeat refine s_seq ?_
    refine s_cond (t := false) slA ?_
    repeat refine s_seq ?_
    refine s_skip ?_
    repeat refine s_seq ?_
    refine s_region ?_
    refine w_pv rfl dC (want_none rfl) (p_val evA) ?_
    refine w_pv rfl dC (want_none rfl) (p_val evA) ?_
    refine w_pv rfl dC (want_none rfl) (p_fieldAddr (k := 0) rfl evA kR) ?_
    refine w_pv rfl dC (want_none rfl) (p_val evA) ?_
    refine w_nil ?_
    repeat refine s_seq ?_
    refine s_region ?_
    refine w_pv rfl dC (want_none rfl) (p_fieldAddr (k := 1) rfl evA kR) ?_
    refine w_rd rfl dC (want_none rfl) (r_load1 rfl Try.underlying3 rfl evA hpA ceA) ?_
    refine w_pv rfl dC (want_none rfl) (p_val evA) ?_
    refine w_nil ?_
    obtain ⟨hn0, hn32, hcut⟩ := of_decide_eq_true hok
    obtain ⟨nn, rfl⟩ := Int.eq_ofNat_of_zero_le hn0
    have hnn : nn ≤ 32 := by omega
    simp only [Int.toNat_natCast] at hcut ⊢
    obtain ⟨S, l, th, cn, rfl⟩ := t.out
    have hb4d : ¬ S.dom b4 := fun hd => th.dom b4 hd hb4
    repeat refine s_seq ?_
    refine (s_block (s_loop (fun k T h' => ∃ (i b : Nat) (S' : TrieS), k = nn - i ∧ i ≤ nn ∧ TrieH h' S' p (numsOf ps) l ∧ S'.A (path A i) = some b ∧ ¬ S'.dom b4 ∧ Chg S.dom S'.dom h h' ∧ h' b4 = some (.cells #[.int .u32 A, .int .i64 (nn : Nat)] 37 (0, 0)) ∧
      T 0 = .pointer (some ⟨p, 0, none⟩) ∧ T 2 = .int .i64 m ∧ T 4 = .pointer (some ⟨b4, 0, none⟩) ∧ T 7 = .pointer (some ⟨b, 0, none⟩) ∧ T 17 = .int .i64 (nn : Nat) ∧ T 18 = .int .i64 (i : Nat)) (n0 := nn)
      ⟨0, p, S, by omega, by omega, th.le hle0, th.root, hb4d, (Chg.refl _ h).le hle0, hb4', slA, slA, slA, slA, by simp only [pval, ev, upd, binVal, intBin, Option.map_some, ↓reduceIte, reduceCtorEq, Nat.reduceEqDiff, Nat.reduceBEq, List.map_toArray, List.map_cons, List.map_nil, cond_true, cond_false, decide_true, decide_false, Bool.not_true, Bool.not_false, Bool.true_and, Bool.false_and, Bool.and_true, Bool.and_false, beq_self_eq_true, bne_self_eq_false, List.getElem_toArray, List.getElem_cons_succ, List.getElem_cons_zero, *] <;> rfl, by simp only [pval, ev, upd, binVal, intBin, Option.map_some, ↓reduceIte, reduceCtorEq, Nat.reduceEqDiff, Nat.reduceBEq, List.map_toArray, List.map_cons, List.map_nil, cond_true, cond_false, decide_true, decide_false, Bool.not_true, Bool.not_false, Bool.true_and, Bool.false_and, Bool.and_true, Bool.and_false, beq_self_eq_true, bne_self_eq_false, List.getElem_toArray, List.getElem_cons_succ, List.getElem_cons_zero, *] <;> rfl⟩ ?_))
    clear h0 h1 h2 hle hle0 hb4' T
    rintro k T h' ⟨i, b, S', rfl, hi, th', hA', hd', hchg, hb4', h0, h2, h4, h7, h17, h18⟩
    by_cases hlt : i < nn
    · have e1 : decide ((i : Int) < (nn : Int)) = true := decide_eq_true (by omega)
      have hw3 : IntKind.i64.wrap ((i : Int) + 1) = ((i + 1 : Nat) : Int) := wrap64_nat _ _ (by omega) (by omega)
      obtain ⟨xi, hxi⟩ : ∃ xi : Nat, xi = (if bitI A i then 1 else 0 : Nat) := ⟨_, rfl⟩
      have hxi' : (if bitI A i then 1 else 0 : Int) = ((xi : Nat) : Int) := by rw [hxi]; split <;> rfl
      have hxt : Int.toNat (xi : Int) = xi := by omega
      have hx2 : (xi : Int) < ((2 : Nat) : Int) := by rw [hxi]; split <;> decide
      have hx0 : (0 : Int) ≤ (xi : Int) := by omega
      obtain ⟨full, ty, hb, h3, hf0, hf1, hf2, hf3⟩ := th'.node _ _ hA'
      have hpn : path A i ++ [bitI A i] = path A (i + 1) := rfl
      have hfx : full[xi]? = some (ptrTo (S'.A (path A (i + 1)))) := by
        rw [← hpn, hxi]
        cases hbit : bitI A i with
        | false => exact hf0
        | true => exact hf1
      have hfx' : full[0 + 0 + xi * 1]? = some (ptrTo (S'.A (path A (i + 1)))) := by simpa using hfx
      have hxb : (if bitI A i then 1 else 0) = xi := by rw [hxi]
      clear hxi hfx
      repeat refine s_seq ?_
      refine s_region ?_
      refine w_pv rfl dC (want_none rfl) (p_val evA) ?_
      refine w_nil ?_
      repeat refine s_seq ?_
      refine s_cond (t := true) slA ?_
      repeat refine s_seq ?_
      refine s_skip ?_
      repeat refine s_seq ?_
      refine s_block ?_
      repeat refine s_seq ?_
      refine s_region ?_
      refine w_pv rfl dC (want_none rfl) (p_val evA) ?_
      refine w_pv rfl dC (want_none rfl) (p_val evA) ?_
      refine w_nil ?_
      repeat refine s_seq ?_
      refine s_region ?_
      refine w_pv rfl dC (want_none rfl) (p_fieldAddr (k := 0) rfl evA kR) ?_
      refine w_rd rfl dC (want_none rfl) (r_load1 rfl Try.underlying23 rfl evA hpA ceA) ?_
      refine w_pv rfl dC (want_none rfl) (p_val evA) ?_
      refine w_ac rfl dC (want_none rfl) (s_call rfl rfl Try.func44 kR kR evA ?_); refine (bit_ok A i hA (by omega) _).mono ?_; rintro _ h' ⟨rfl, rfl⟩
      refine w_pv rfl dC (want_none rfl) (p_val evA) ?_
      refine w_nil ?_
      rw [hxi']
      cases hnext : S'.A (path A (i + 1)) with
      | none =>
        rw [hnext] at hfx'
        have hfx' : full[0 + 0 + xi * 1]? = some (.pointer none) := hfx'
        repeat refine s_seq ?_
        refine s_region ?_
        refine w_pv rfl dC (want_none rfl) (p_val evA) ?_
        refine w_pv rfl dC (want_none rfl) (p_val evA) ?_
        refine w_pv rfl dC (want_none rfl) (p_val evA) ?_
        refine w_pv rfl dC (want_none rfl) (p_fieldAddr (k := 0) rfl evA kR) ?_
        refine w_pv rfl dC (want_none rfl) (p_indexAddrA (sz := 1) rfl Try.underlying27 kR kR evA evA hx0 hx2) ?_
        refine w_rd rfl dC (want_none rfl) (r_load1 rfl Try.underlying26 rfl evA hpA ceA) ?_
        refine w_rd rfl dC (want_none rfl) (r_eql rfl evA evA gdA eqA rfl) ?_
        refine w_nil ?_
        repeat refine s_seq ?_
        refine s_cond (t := true) slA ?_
        repeat refine s_seq ?_
        refine s_region ?_
        refine w_pv rfl dC (want_none rfl) (p_val evA) ?_
        refine w_pv rfl dC (want_none rfl) (p_val evA) ?_
        refine w_pv rfl dC (want_none rfl) (p_buildL (places := [(0, 2), (2, 1)]) (z := [.pointer none, .pointer none, .slice none 0 0]) (cells := [.pointer none, .pointer none, .slice none 0 0]) rfl evA kR kR (by rfl)) ?_
        refine w_al rfl dC (want_none rfl) (a_boxN rfl evA) ?_
        intro b35 hb35
        refine w_pv rfl dC (want_none rfl) (p_val evA) ?_
        refine w_pv rfl dC (want_none rfl) (p_fieldAddr (k := 0) rfl evA kR) ?_
        refine w_pv rfl dC (want_none rfl) (p_indexAddrA (sz := 1) rfl Try.underlying27 kR kR evA evA hx0 hx2) ?_
        refine w_st rfl (want_none rfl) (s_store1 rfl evA evA ocA kR kR hpA szA ?_)
        refine w_nil ?_
        have hix : (if bitI A i then 1 else 0) = 0 + 0 + xi * 1 := by rw [hxb]; omega
        obtain ⟨S2, th2, hA2, chg2⟩ := th'.grow (x := bitI A i) (ty' := 30) hA' (by rw [hpn]; exact hnext) hb hb35
        rw [hix] at th2 chg2
        rw [hpn] at hA2
        have hget : (full.setIfInBounds (0 + 0 + xi * 1) (.pointer (some ⟨b35, 0, none⟩)))[0 + 0 + xi * 1]? = some (.pointer (some ⟨b35, 0, none⟩)) := get_set_self (by omega)
        have hbb : b4 ≠ b := fun e => hd' (by show S'.role b4 ≠ .no; rw [e, th'.rnode _ _ hA']; simp)
        have hb35b : b4 ≠ b35 := fun e => by rw [e, hb35] at hb4'; cases hb4'
        have hb42 : ((h'.set b35 (.cells #[.pointer none, .pointer none, .slice none 0 0] 30 (0, 0))).set b (.cells (full.setIfInBounds (0 + 0 + xi * 1) (.pointer (some ⟨b35, 0, none⟩))) ty (0, 0))) b4 = some (.cells #[.int .u32 A, .int .i64 (nn : Nat)] 37 (0, 0)) := by
          rw [Heap.set_other _ _ hbb, Heap.set_other _ _ hb35b]; exact hb4'
        have hd2 : ¬ S2.dom b4 := fun hd => by
          rcases chg2.ext b4 hd with h1 | h1
          · exact hd' h1
          · rw [h1] at hb4'; cases hb4'
        clear hix hxb
        repeat refine s_seq ?_
        refine s_region ?_
        refine w_pv rfl dC (want_none rfl) (p_val evA) ?_
        refine w_pv rfl dC (want_none rfl) (p_val evA) ?_
        refine w_pv rfl dC (want_none rfl) (p_val evA) ?_
        refine w_pv rfl dC (want_none rfl) (p_fieldAddr (k := 0) rfl evA kR) ?_
        refine w_pv rfl dC (want_none rfl) (p_indexAddrA (sz := 1) rfl Try.underlying27 kR kR evA evA hx0 hx2) ?_
        refine w_rd rfl dC (want_none rfl) (r_load1 rfl Try.underlying26 rfl evA hpA ceA) ?_
        refine w_pv rfl dC (want_none rfl) (p_val evA) ?_
        refine w_nil ?_
        repeat refine s_seq ?_
        refine s_region ?_
        refine w_pv rfl dC (want_none rfl) (p_val evA) ?_
        refine w_pv rfl dC (want_none rfl) (p_val evA) ?_
        refine w_nil ?_
        exact ⟨nn - (i + 1), by omega, i + 1, b35, S2, rfl, by omega, th2, hA2, hd2, hchg.trans chg2, hb42, slA, slA, slA, slA, slA, slA⟩
      | some c =>
        rw [hnext] at hfx'
        have hfx' : full[0 + 0 + xi * 1]? = some (.pointer (some ⟨c, 0, none⟩)) := hfx'
        repeat refine s_seq ?_
        refine s_region ?_
        refine w_pv rfl dC (want_none rfl) (p_val evA) ?_
        refine w_pv rfl dC (want_none rfl) (p_val evA) ?_
        refine w_pv rfl dC (want_none rfl) (p_val evA) ?_
        refine w_pv rfl dC (want_none rfl) (p_fieldAddr (k := 0) rfl evA kR) ?_
        refine w_pv rfl dC (want_none rfl) (p_indexAddrA (sz := 1) rfl Try.underlying27 kR kR evA evA hx0 hx2) ?_
        refine w_rd rfl dC (want_none rfl) (r_load1 rfl Try.underlying26 rfl evA hpA ceA) ?_
        refine w_rd rfl dC (want_none rfl) (r_eql rfl evA evA gdA eqA rfl) ?_
        refine w_nil ?_
        repeat refine s_seq ?_
        refine s_cond (t := false) slA ?_
        repeat refine s_seq ?_
        refine s_skip ?_
        repeat refine s_seq ?_
        refine s_region ?_
        refine w_pv rfl dC (want_none rfl) (p_val evA) ?_
        refine w_pv rfl dC (want_none rfl) (p_val evA) ?_
        refine w_pv rfl dC (want_none rfl) (p_val evA) ?_
        refine w_pv rfl dC (want_none rfl) (p_fieldAddr (k := 0) rfl evA kR) ?_
        refine w_pv rfl dC (want_none rfl) (p_indexAddrA (sz := 1) rfl Try.underlying27 kR kR evA evA hx0 hx2) ?_
        refine w_rd rfl dC (want_none rfl) (r_load1 rfl Try.underlying26 rfl evA hpA ceA) ?_
        refine w_pv rfl dC (want_none rfl) (p_val evA) ?_
        refine w_nil ?_
        repeat refine s_seq ?_
        refine s_region ?_
        refine w_pv rfl dC (want_none rfl) (p_val evA) ?_
        refine w_pv rfl dC (want_none rfl) (p_val evA) ?_
        refine w_nil ?_
        exact ⟨nn - (i + 1), by omega, i + 1, c, S', rfl, by omega, th', hnext, hd', hchg, hb4', slA, slA, slA, slA, slA, slA⟩
    · have hin : i = nn := by omega
      subst hin
      have e1 : decide ((i : Int) < (i : Int)) = false := decide_eq_false (by omega)
      obtain ⟨full, ty, hb, h3, hf0, hf1, hf2, hf3⟩ := th'.node _ _ hA'
      have hrow := th'.rown _ _ hA'
      have hlen := numsOf_len ps (path A i)
      have hd4 : ∀ {h2 : Heap} {S2 : TrieS}, Chg S'.dom S2.dom h' h2 → ¬ S2.dom b4 := fun c hd => by
        rcases c.ext b4 hd with h1 | h1
        · exact hd' h1
        · rw [h1] at hb4'; cases hb4'
      repeat refine s_seq ?_
      refine s_region ?_
      refine w_pv rfl dC (want_none rfl) (p_val evA) ?_
      refine w_nil ?_
      repeat refine s_seq ?_
      refine s_cond (t := false) slA ?_
      repeat refine s_seq ?_
      refine s_exit ?_
      repeat refine s_seq ?_
      refine s_region ?_
      refine w_pv rfl dC (want_none rfl) (p_val evA) ?_
      refine w_pv rfl dC (want_none rfl) (p_val evA) ?_
      refine w_pv rfl dC (want_none rfl) (p_val evA) ?_
      refine w_pv rfl dC (want_none rfl) (p_fieldAddr (k := 2) rfl evA kR) ?_
      refine w_rd rfl dC (want_none rfl) (r_load1 rfl Try.underlying28 rfl evA hpA ceA) ?_
      refine w_pv rfl dC (want_none rfl) (p_val evA) ?_
      refine w_al rfl dC (want_none rfl) (a_buildSlice1 (sz := 1) rfl Try.underlying28 evA kR ceA (by decide) (by decide)) ?_
      intro b52 hb52
      have hle52 := Heap.le_set (.cells #[.int .i64 m] 3 (0, 0)) hb52; have th1 := th'.le hle52; refine w_ac rfl dC (want_none rfl) (s_append (sz := 1) rfl Try.underlying28 Try.underlying28 kR evA evA (hrow.le hle52) (.at_ (cs := [.int .i64 m]) (Heap.set_same _ _ _) rfl (Nat.le_refl _) rfl) (by simp [Value.oneCell']) (by omega) ?_); intro v' h1 own' grew; have hone := own'.oneC; obtain ⟨hb1, S2, th2, hmv2, chg2⟩ := th1.push hA' (hle52 _ _ hb) own' grew
      refine w_pv rfl dC (want_none rfl) (p_val evA) ?_
      refine w_pv rfl dC (want_none rfl) (p_fieldAddr (k := 2) rfl evA kR) ?_
      refine w_st rfl (want_none rfl) (s_store1 rfl evA evA ocA kR kR hpA szA ?_)
      refine w_nil ?_
      have hb4b : b4 ≠ b := fun e => hd' (by show S'.role b4 ≠ .no; rw [e, th'.rnode _ _ hA']; simp)
      have hb4x : (h1.set b (.cells (full.setIfInBounds (0 + 2) v') ty (0, 0))) b4 = some (.cells #[.int .u32 A, .int .i64 (i : Nat)] 37 (0, 0)) := by
        rw [Heap.set_other _ _ hb4b]
        refine grew.same _ _ (hle52 _ _ hb4') fun e => ?_
        have := th'.rrole _ _ _ hA' e.symm
        exact hd' (by show S'.role b4 ≠ .no; rw [this]; simp)
      have chgA : Chg S.dom S2.dom h (h1.set b (.cells (full.setIfInBounds (0 + 2) v') ty (0, 0))) := hchg.trans (Chg.of_le hle52 chg2)
      have hd2 := hd4 (Chg.of_le hle52 chg2)
      replace th2 : TrieH (h1.set b (.cells (full.setIfInBounds (0 + 2) v') ty (0, 0))) S2 p _ l := th2
      clear chg2
      generalize (h1.set b (.cells (full.setIfInBounds (0 + 2) v') ty (0, 0))) = hx at th2 hb4x chgA ⊢
      rw [← numsOf_put ps ((A, i), m)] at th2
      clear hb1 hone grew own' h1 th1 hle52 hb52 hrow hf0 hf1 hf2 hf3 h3 hb hd4 hb4b hlen
      obtain ⟨fullp, typ, hp, hp3, _, _, _, hpm⟩ := th2.node [] p th2.root
      replace hpm := hpm rfl
      have hps : 3 < fullp.size := by
        rcases Nat.lt_or_ge 3 fullp.size with h1 | h1
        · exact h1
        · rw [Array.getElem?_eq_none h1] at hpm; cases hpm
      have hpm' : fullp[0 + 3]? = some S2.mv := hpm
      refine s_seq ?_
      refine s_join (fun T h4 => ∃ (S3 : TrieS) (mb : Nat), TrieH h4 S3 p (numsOf (ps ++ [((A, i), m)])) l ∧ S3.mv = .map (some mb) ∧ Chg S.dom S3.dom h h4 ∧ h4 b4 = some (.cells #[.int .u32 A, .int .i64 (i : Nat)] 37 (0, 0)) ∧ ¬ S3.dom b4 ∧ T 0 = .pointer (some ⟨p, 0, none⟩) ∧ T 4 = .pointer (some ⟨b4, 0, none⟩)) ?_ ?_
      · have hb4p : b4 ≠ p := fun e => hd2 (by show S2.role b4 ≠ .no; rw [e, th2.rnode _ _ th2.root]; simp)
        have made : ∀ mb, l = [] → hx mb = none → ∃ S3 : TrieS, TrieH ((hx.set mb (.map #[] 0)).set p (.cells (fullp.setIfInBounds (0 + 3) (.map (some mb))) typ (0, 0))) S3 p (numsOf (ps ++ [((A, i), m)])) l ∧ S3.mv = .map (some mb) ∧ Chg S.dom S3.dom h ((hx.set mb (.map #[] 0)).set p (.cells (fullp.setIfInBounds (0 + 3) (.map (some mb))) typ (0, 0))) ∧ ((hx.set mb (.map #[] 0)).set p (.cells (fullp.setIfInBounds (0 + 3) (.map (some mb))) typ (0, 0))) b4 = some (.cells #[.int .u32 A, .int .i64 (i : Nat)] 37 (0, 0)) ∧ ¬ S3.dom b4 := by
          intro mb hl hmb
          subst hl
          obtain ⟨S3, t3, m3, c3⟩ := th2.mkmap hp hmb hps
          refine ⟨S3, t3, m3, chgA.trans c3, ?_, fun hd => ?_⟩
          · rw [Heap.set_other _ _ hb4p, Heap.set_other _ _ (fun e => by rw [e, hmb] at hb4x; cases hb4x)]; exact hb4x
          · rcases c3.ext b4 hd with h1 | h1
            · exact hd2 h1
            · rw [h1] at hb4x; cases hb4x
        rcases th2.map with ⟨hmv, hl⟩ | ⟨mb, hmv, hrole, him⟩
        · rw [hmv] at hpm'
          repeat refine s_seq ?_
          refine s_region ?_
          refine w_pv rfl dC (want_none rfl) (p_val evA) ?_
          refine w_pv rfl dC (want_none rfl) (p_val evA) ?_
          refine w_pv rfl dC (want_none rfl) (p_fieldAddr (k := 3) rfl evA kR) ?_
          refine w_rd rfl dC (want_none rfl) (r_load1 rfl Try.underlying31 rfl evA hpA ceA) ?_
          refine w_rd rfl dC (want_none rfl) (r_len_map_nil rfl Try.underlying31 evA) ?_
          refine w_pv rfl dC (want_none rfl) (p_val evA) ?_
          refine w_nil ?_
          repeat refine s_seq ?_
          refine s_cond (t := true) slA ?_
          repeat refine s_seq ?_
          refine s_region ?_
          refine w_pv rfl dC (want_none rfl) (p_val evA) ?_
          refine w_al rfl dC (want_none rfl) (a_makeMap rfl) ?_
          intro b63 hb63
          refine w_pv rfl dC (want_none rfl) (p_val evA) ?_
          refine w_pv rfl dC (want_none rfl) (p_fieldAddr (k := 3) rfl evA kR) ?_
          refine w_st rfl (want_none rfl) (s_store1 rfl evA evA ocA kR kR hpA szA ?_)
          refine w_nil ?_
          obtain ⟨S3, t3, m3, c3, e3, d3⟩ := made b63 hl hb63
          exact ⟨S3, b63, t3, m3, c3, e3, d3, slA, slA⟩
        · rw [hmv] at hpm'
          obtain ⟨es, cl, hes, hrep, _⟩ := him.out
          have hll := es_len hrep
          by_cases hz : es.size = 0
          · have hzz : (((es.size : Nat) : Int) == 0) = true := by simpa using hz
            have hl0 := List.eq_nil_of_length_eq_zero (by rw [← hll]; simpa using hz)
            clear hz
            repeat refine s_seq ?_
            refine s_region ?_
            refine w_pv rfl dC (want_none rfl) (p_val evA) ?_
            refine w_pv rfl dC (want_none rfl) (p_val evA) ?_
            refine w_pv rfl dC (want_none rfl) (p_fieldAddr (k := 3) rfl evA kR) ?_
            refine w_rd rfl dC (want_none rfl) (r_load1 rfl Try.underlying31 rfl evA hpA ceA) ?_
            refine w_rd rfl dC (want_none rfl) (r_len_map rfl Try.underlying31 evA hes) ?_
            refine w_pv rfl dC (want_none rfl) (p_val evA) ?_
            refine w_nil ?_
            repeat refine s_seq ?_
            refine s_cond (t := true) slA ?_
            repeat refine s_seq ?_
            refine s_region ?_
            refine w_pv rfl dC (want_none rfl) (p_val evA) ?_
            refine w_al rfl dC (want_none rfl) (a_makeMap rfl) ?_
            intro b63 hb63
            refine w_pv rfl dC (want_none rfl) (p_val evA) ?_
            refine w_pv rfl dC (want_none rfl) (p_fieldAddr (k := 3) rfl evA kR) ?_
            refine w_st rfl (want_none rfl) (s_store1 rfl evA evA ocA kR kR hpA szA ?_)
            refine w_nil ?_
            obtain ⟨S3, t3, m3, c3, e3, d3⟩ := made b63 hl0 hb63
            exact ⟨S3, b63, t3, m3, c3, e3, d3, slA, slA⟩
          · have hzz : (((es.size : Nat) : Int) == 0) = false := by simpa using hz
            repeat refine s_seq ?_
            refine s_region ?_
            refine w_pv rfl dC (want_none rfl) (p_val evA) ?_
            refine w_pv rfl dC (want_none rfl) (p_val evA) ?_
            refine w_pv rfl dC (want_none rfl) (p_fieldAddr (k := 3) rfl evA kR) ?_
            refine w_rd rfl dC (want_none rfl) (r_load1 rfl Try.underlying31 rfl evA hpA ceA) ?_
            refine w_rd rfl dC (want_none rfl) (r_len_map rfl Try.underlying31 evA hes) ?_
            refine w_pv rfl dC (want_none rfl) (p_val evA) ?_
            refine w_nil ?_
            repeat refine s_seq ?_
            refine s_cond (t := false) slA ?_
            repeat refine s_seq ?_
            refine s_skip ?_
            exact ⟨S2, mb, th2, hmv, chgA, hb4x, hd2, slA, slA⟩
      · clear h0 h2 h4 h7 h17 h18 T th2 hb4x chgA hp hpm hpm' hps hmv2 hd2
        rintro T h4 ⟨S3, mb, t3, hmv, chg, hb4x, hd3, h0, h4'⟩
        clear hp3 hn0 hn32 hnn hi hb4' hlt e1 hpf hb4 hb4d hA' hd' hchg th' th
        obtain ⟨fullp, typ, hp, hp3, _, _, _, hpm⟩ := t3.node [] p t3.root
        replace hpm := hpm rfl
        rw [hmv] at hpm
        have hpm' : fullp[0 + 3]? = some (.map (some mb)) := hpm
        have him : IsMap h4 mb (fun k : Int × Int => pfxV k.1 k.2) l ∧ S3.role mb = .map := by
          rcases t3.map with ⟨e, _⟩ | ⟨mb', e, r, i⟩
          · rw [e] at hmv; cases hmv
          · rw [e] at hmv; cases hmv; exact ⟨i, r⟩
        obtain ⟨him, hrole⟩ := him
        have hmbp : mb ≠ p := fun e => by rw [e, t3.rnode _ _ t3.root] at hrole; cases hrole
        have hmb4 : mb ≠ b4 := fun e => hd3 (by show S3.role b4 ≠ .no; rw [← e, hrole]; simp)
        have hget : (getK l ((A : Int), (i : Int))).getD (.int .i64 0) = .int .i64 (countOf ps ((A : Int), (i : Int))) := by
          rw [cn.get]; split
          · rename_i h0; rw [h0]; rfl
          · rfl
        have hcl : countOf ps ((A : Int), (i : Int)) ≤ ps.length := by unfold countOf; exact List.length_filter_le _ _
        have hw : IntKind.i64.wrap (((countOf ps ((A : Int), (i : Int)) : Nat) : Int) + 1) = ((countOf ps ((A : Int), (i : Int)) + 1 : Nat) : Int) := wrap64_nat _ _ (by omega) (by omega)
        have hcn := cn.put ((A, i), m)
        generalize countOf ps ((A : Int), (i : Int)) = c0 at hget hcl hw hcn
        have hag : (Value.agg #[.int .u32 A, .int .i64 (i : Nat)]) = (fun k : Int × Int => pfxV k.1 k.2) ((A : Int), (i : Int)) := rfl
        repeat refine s_seq ?_
        refine s_draw [(0, true), (1, true), (2, true), (3, true), (4, true), (5, true), (6, true), (7, true), (8, true), (9, true)] [] [9] rfl kR kR ?_
        refine d_pv rfl rfl dC rfl rfl (want_none rfl) (p_val evA) ?_
        refine d_rd0 rfl rfl dC rfl rfl (want_none rfl) (fun _ => PureOp.read (p_val evA) _) ?_
        refine d_pv rfl rfl dC rfl rfl (want_none rfl) (p_fieldAddr (k := 3) rfl evA kR) ?_
        refine d_rd [_] rfl rfl dC rfl rfl (want_none rfl) (r_load1 rfl Try.underlying31 rfl evA (restr1 hpA) ceA) ?_
        refine d_rd [_] rfl rfl dC rfl rfl (want_none rfl) (r_loadN (n := 2) rfl Try.underlying37 rfl evA (restr1 hpA) kR szA) ?_
        refine d_rdA (rdMap (fun k : Int × Int => pfxV k.1 k.2) mb ((A : Int), (i : Int)) (.int .i64 0) (.int .i64 c0)) rfl rfl dC rfl rfl (want_none rfl) ⟨l, him, hget⟩ (fun g hg => hg.elim fun l2 i2 => r_lookupV pfx_key rfl Try.underlying31 Try.underlying37 kR evA evA i2.1 i2.2) ?_
        refine d_pv rfl rfl dC rfl rfl (want_none rfl) (p_val evA) ?_
        refine d_qac rfl rfl dC (by decide) rfl (want_none rfl) (s_mapEntryZ (l := l) (k := ((A : Int), (i : Int))) (z := .int .i64 0) pfx_key rfl Try.underlying31 Try.underlying37 kR evA evA him cn.one ?_); intro ob β v hme; refine ⟨?_, ?_⟩; rotate_left
        refine d_pv rfl rfl dC rfl rfl (want_none rfl) (p_val evA) ?_
        refine d_lst rfl rfl dC (by decide) rfl (want_none rfl) (s_entryStore rfl evA evA evA hme (entK_keys _ cn.one _ _) ?_); intro ob2 him2
        refine d_nil ?_
        · rw [set_set, putK_entK] at him2
          rw [set_set]
          obtain ⟨t4, chg4⟩ := t3.setmap hmv him2
          repeat refine s_seq ?_
          refine s_region ?_
          refine w_pv rfl dC (want_none rfl) (p_val evA) ?_
          refine w_nil ?_
          refine s_ret ⟨_, res_one rfl rfl, slA, S3.dom, chg.trans chg4, ⟨⟨S3, _, by simpa using t4, by simpa using hcn, rfl⟩, ?_, by simp; omega⟩⟩
          intro x hx
          simp only [if_true, List.mem_append, List.mem_singleton] at hx
          rcases hx with hx | rfl
          · exact t.ok x hx
          · exact ⟨hA, by show i ≤ 32; have := of_decide_eq_true hok; omega, hcut⟩
        · intro F hF
          simp only [List.mem_cons, List.not_mem_nil, or_false] at hF
          rcases hF with rfl | rfl | rfl | rfl
          · exact fun _ => ⟨_, hme.map, by rw [getK_entK]; exact hget⟩
          · exact rdAt_set (by simpa using hmb4)
          · exact rdAt_set (by simpa using hmbp)
          · exact fun _ => trivial
end Go.Proofs.Ytielfejpnkcjbaa
