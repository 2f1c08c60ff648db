import Derived.Test.YtielfejpnkcjbaaQh6
/- Tick. -/
set_option linter.unusedVariables false
set_option linter.unusedSimpArgs false
namespace Go.Proofs.Ytielfejpnkcjbaa
open Sl
def tickT (x : AT) : Option AT := if x.age + 1 > 3 then none else some { x with age := x.age + 1 }
def goneT (ts : List AT) : Nat := (ts.filter fun x => decide (x.age + 1 > 3)).length
theorem tick_map (rs : List Rc) : (rs.filterMap tickR).map Rc.t = (rs.map Rc.t).filterMap tickT ∧ (rs.filter gone).length = goneT (rs.map Rc.t) := by
  induction rs with
  | nil => exact ⟨rfl, rfl⟩
  | cons r rs ih =>
    unfold goneT at ih ⊢
    rw [List.filterMap_cons, List.map_cons, List.filterMap_cons, List.filter_cons, List.filter_cons]
    cases hg : gone r with
    | true =>
      have hg' : r.age + 1 > 3 := of_decide_eq_true hg
      have : tickT r.t = none := by unfold tickT; rw [if_pos (show r.t.age + 1 > 3 from hg')]
      have h2 : decide (r.t.age + 1 > 3) = true := hg
      simp only [tickR, hg, if_true, this, h2, List.length_cons]
      exact ⟨ih.1, by rw [ih.2]⟩
    | false =>
      have hg' : ¬ r.age + 1 > 3 := of_decide_eq_false hg
      have : tickT r.t = some { r.t with age := r.t.age + 1 } := by unfold tickT; rw [if_neg (show ¬ r.t.age + 1 > 3 from hg')]
      have h2 : decide (r.t.age + 1 > 3) = false := hg
      simp only [tickR, hg, Bool.false_eq_true, if_false, this, h2, List.map_cons]
      exact ⟨by rw [ih.1]; rfl, ih.2⟩
theorem RowD.tick {h : Heap} {D : Nat → Prop} {r y : Rc} {seen : List Nat} (x : RowD h D r) (hm : midR seen r = some y) : RowD h D y := by
  obtain ⟨h1, h2, h3, h4, _⟩ := midR_same hm
  have hage : 0 ≤ y.age ∧ y.age ≤ 3 := by
    have h0 := x.age0
    have h33 := x.age3
    unfold midR at hm
    split at hm
    · unfold tickR at hm
      split at hm
      · cases hm
      · rename_i hg
        cases hm
        have : ¬ r.age + 1 > 3 := fun e => hg (decide_eq_true e)
        show 0 ≤ r.age + 1 ∧ r.age + 1 ≤ 3
        omega
    · cases hm; exact ⟨h0, h33⟩
  exact ⟨by rw [h3, h4]; exact x.cells, by rw [h4]; exact x.blk, by rw [h3]; exact x.len, by rw [h4]; exact x.one, hage.1, hage.2⟩
theorem tick_ok {h : Heap} {D : Nat → Prop} {p : Nat} {ts : List AT} (t : TableAt h D p ts) (few : ts.length ≤ 1000000) :
    SCalls Try.prog 23 #[.pointer (some ⟨p, 0, none⟩)] h (fun r h' => r = .int .i64 (goneT ts : Nat) ∧ Chg D D h h' ∧ TableAt h' D p (ts.filterMap tickT)) := by
  refine s_enter Try.func23 rfl (by rw [Try.ntmps23]; simp) ?_
  rw [Try.ntmps23]
  generalize hT : T0 #[.pointer (some ⟨p, 0, none⟩)] = T
  have h0 : T 0 = .pointer (some ⟨p, 0, none⟩) := by rw [← hT]; rfl
  clear hT
  obtain ⟨mv, ty, hp, hDp, hmap⟩ := t.out
  have hdom := t.dom
  clear t
  rcases hmap with ⟨rfl, rfl⟩ | ⟨mb, rs, cl, rfl, hDm, him, rfl, hrow⟩
  · -- nothing is there
    repeat refine s_seq ?_
    refine s_region ?_
    refine w_pv rfl dC (want_none rfl) (p_val evA) ?_
    refine w_nil ?_
    repeat refine s_seq ?_
    refine s_region ?_
    refine w_pv rfl dC (want_none rfl) (p_val evA) ?_
    refine w_nil ?_
    repeat refine s_seq ?_
    refine s_region ?_
    refine w_pv rfl dC (want_none rfl) (p_val evA) ?_
    refine w_pv rfl dC (want_none rfl) (p_val evA) ?_
    refine w_pv rfl dC (want_none rfl) (p_fieldAddr (k := 0) rfl evA kR) ?_
    refine w_rd rfl dC (want_none rfl) (r_load1 rfl Try.underlying58 rfl evA hpA ceA) ?_
    refine w_ac rfl dC (want_none rfl) (s_range_nil rfl Try.underlying58 evA ?_); intro it hitn
    refine w_nil ?_
    have hle := Heap.le_set (.mapIter none 0 #[] 0) hitn
    have hit := Heap.set_same h it (.mapIter none 0 #[] 0)
    generalize h.set it (.mapIter none 0 #[] 0) = hx at hle hit ⊢
    refine s_join (fun T h' => h' = hx ∧ T 3 = .int .i64 0) ?_ ?_
    · refine (s_block (s_loop (fun m T h' => h' = hx ∧ T 3 = .int .i64 0 ∧ T 10 = .pointer (some ⟨it, 0, none⟩)) (n0 := 0) ⟨rfl, slA, slA⟩ ?_))
      clear h0 T
      rintro m T h' ⟨rfl, h3, h10⟩
      repeat refine s_seq ?_
      refine s_region ?_
      refine w_rd rfl dC (want_none rfl) (r_next_nil rfl evA hit) ?_
      refine w_pv rfl dC (want_none rfl) (p_val evA) ?_
      refine w_nil ?_
      repeat refine s_seq ?_
      refine s_cond (t := false) slA ?_
      repeat refine s_seq ?_
      refine s_exit ?_
      exact ⟨rfl, slA⟩
    · clear h0 T
      rintro T h' ⟨rfl, h3⟩
      repeat refine s_seq ?_
      refine s_region ?_
      refine w_pv rfl dC (want_none rfl) (p_val evA) ?_
      refine w_pv rfl dC (want_none rfl) (p_val evA) ?_
      refine w_nil ?_
      exact s_ret ⟨_, res_one rfl rfl, by simp only [pval, ev, upd, binVal, intBin, Option.map_some, ↓reduceIte, reduceCtorEq, Nat.reduceEqDiff, Nat.reduceBEq, List.map_toArray, List.map_cons, List.map_nil, cond_true, cond_false, decide_true, decide_false, Bool.not_true, Bool.not_false, Bool.true_and, Bool.false_and, Bool.and_true, Bool.and_false, beq_self_eq_true, bne_self_eq_false, List.getElem_toArray, List.getElem_cons_succ, List.getElem_cons_zero, *] <;> rfl, (Chg.refl _ _).le hle, ⟨⟨_, ty, hle _ _ hp, hDp, .inl ⟨rfl, rfl⟩⟩, fun b hb => by
        cases e : h b with
        | none => exact absurd e (hdom b hb)
        | some o => rw [hle b o e]; simp⟩⟩
  · have nb : (rs.map (·.born)).Nodup := by have := him.2.1; rw [List.map_map] at this; exact this
    have nk : (rs.map (·.key)).Nodup := by have := him.2.2.2; rw [List.map_map] at this; exact this
    repeat refine s_seq ?_
    refine s_region ?_
    refine w_pv rfl dC (want_none rfl) (p_val evA) ?_
    refine w_nil ?_
    repeat refine s_seq ?_
    refine s_region ?_
    refine w_pv rfl dC (want_none rfl) (p_val evA) ?_
    refine w_nil ?_
    repeat refine s_seq ?_
    refine s_region ?_
    refine w_pv rfl dC (want_none rfl) (p_val evA) ?_
    refine w_pv rfl dC (want_none rfl) (p_val evA) ?_
    refine w_pv rfl dC (want_none rfl) (p_fieldAddr (k := 0) rfl evA kR) ?_
    refine w_rd rfl dC (want_none rfl) (r_load1 rfl Try.underlying58 rfl evA hpA ceA) ?_
    refine w_ac rfl dC (want_none rfl) (s_range rfl Try.underlying58 evA him ?_); intro it hitn
    refine w_nil ?_
    have hle := Heap.le_set (.mapIter (some mb) cl #[] cl) hitn
    have hit : IsIter (h.set it (.mapIter (some mb) cl #[] cl)) it mb cl [] := Heap.set_same h it (.mapIter (some mb) cl #[] cl)
    generalize h.set it (.mapIter (some mb) cl #[] cl) = hx at hle hit ⊢
    have hlen : rs.length ≤ 1000000 := by simpa using few
    have hdomle : ∀ b, D b → hx b ≠ none := fun b hb => by
      cases e : h b with
      | none => exact absurd e (hdom b hb)
      | some o => rw [hle b o e]; simp
    refine s_join (fun T h' => ∃ seen, (∀ e ∈ (mids rs seen).map Rc.ey, e.born ∈ seen) ∧ IsMapN h' mb thV ((mids rs seen).map Rc.ey) cl ∧ h' p = some (.cells #[.map (some mb)] ty (0, 0)) ∧ (∀ r ∈ rs, RowD h' D r) ∧ Chg D D h h' ∧ (∀ b, D b → h' b ≠ none) ∧ T 3 = .int .i64 (goneN rs seen : Nat)) ?_ ?_
    · refine (s_block (s_loop (fun m T h' => ∃ seen : List Nat, m = rs.length - seen.length ∧ seen.Nodup ∧ (∀ β ∈ seen, β ∈ rs.map (·.born)) ∧ IsIter h' it mb cl seen ∧ IsMapN h' mb thV ((mids rs seen).map Rc.ey) cl ∧ h' p = some (.cells #[.map (some mb)] ty (0, 0)) ∧ (∀ r ∈ rs, RowD h' D r) ∧ Chg D D h h' ∧ (∀ b, D b → h' b ≠ none) ∧ T 0 = .pointer (some ⟨p, 0, none⟩) ∧ T 3 = .int .i64 (goneN rs seen : Nat) ∧ T 10 = .pointer (some ⟨it, 0, none⟩)) (n0 := rs.length)
        ⟨[], by simp, by simp, by simp, hit, by rw [mids_nil]; exact ⟨hle _ _ him.1, him.2⟩, hle _ _ hp, fun r hr => (hrow r hr).only (fun b o _ e _ => hle b o e), (Chg.refl _ _).le hle, hdomle, slA, by rw [goneN_nil]; simp only [pval, ev, upd, binVal, intBin, Option.map_some, ↓reduceIte, reduceCtorEq, Nat.reduceEqDiff, Nat.reduceBEq, List.map_toArray, List.map_cons, List.map_nil, cond_true, cond_false, decide_true, decide_false, Bool.not_true, Bool.not_false, Bool.true_and, Bool.false_and, Bool.and_true, Bool.and_false, beq_self_eq_true, bne_self_eq_false, List.getElem_toArray, List.getElem_cons_succ, List.getElem_cons_zero, *] <;> rfl, slA⟩ ?_))
      clear h0 T hit hp him hrow hle hdomle
      rintro m T h' ⟨seen, rfl, hsn, hsub, hit, him, hp, hrow, hchg, hdm, h0, h3, h10⟩
      repeat refine s_seq ?_
      refine s_region ?_
      refine w_ac rfl dC (want_none rfl) (s_next rfl evA hit him (fun hall => ?_) (fun e he hs => ?_))
      all_goals (refine w_pv rfl dC (want_none rfl) (p_val evA) ?_)
      all_goals (refine w_nil ?_)
      · repeat refine s_seq ?_
        refine s_cond (t := false) slA ?_
        repeat refine s_seq ?_
        refine s_exit ?_
        exact ⟨seen, hall, him, hp, hrow, hchg, hdm, slA⟩
      · obtain ⟨r, hr, rfl, hs'⟩ := mids_at he hs
        have hDit : ¬ D it := fun hd => hdom it hd hitn
        have hne1 : mb ≠ it := fun e => hDit (by rw [← e]; exact hDm)
        have hne2 : p ≠ it := fun e => hDit (by rw [← e]; exact hDp)
        refine genH fun h2 hh => ?_
        have hk : ∀ k, k ≠ it → h2 k = h' k := fun k hk => by rw [hh]; exact Heap.set_other _ _ hk
        have hit2 : IsIter h2 it mb cl (seen ++ [r.born]) := by rw [hh]; exact Heap.set_same _ _ _
        have him2 : IsMapN h2 mb thV ((mids rs seen).map Rc.ey) cl := ⟨by rw [hk _ hne1]; exact him.1, him.2⟩
        have hp2 : h2 p = some (.cells #[.map (some mb)] ty (0, 0)) := by rw [hk _ hne2]; exact hp
        have hrow2 : ∀ r ∈ rs, RowD h2 D r := fun r hr => (hrow r hr).only fun b o hb e _ => by rw [hk _ (fun e => hDit (by rw [← e]; exact hb))]; exact e
        have hchg2 : Chg D D h h2 := ⟨fun b o hd e => by rw [hk b (fun e1 => by rw [e1, hitn] at e; cases e)]; exact hchg.keep b o hd e, fun b hd => .inl hd⟩
        have hdm2 : ∀ b, D b → h2 b ≠ none := fun b hb => by rw [hk b (fun e => hDit (by rw [← e]; exact hb))]; exact hdm b hb
        clear hh
        have hone := (hrow r hr).one
        repeat refine s_seq ?_
        refine s_cond (t := true) slA ?_
        repeat refine s_seq ?_
        refine s_skip ?_
        repeat refine s_seq ?_
        refine s_block ?_
        repeat refine s_seq ?_
        refine s_region ?_
        refine w_rd rfl dC (want_none rfl) (r_entry rfl evA hit2 him2 he rfl) ?_
        refine w_pv rfl dC (want_none rfl) (p_val evA) ?_
        refine w_pv rfl dC (want_none rfl) (p_val evA) ?_
        refine w_al rfl dC (want_none rfl) (a_allocZ (z := .agg #[.int .i64 0, .int .i64 0, .int .u32 0, .int .u32 0, .int .u32 0]) (zs := #[.int .i64 0, .int .i64 0, .int .u32 0, .int .u32 0, .int .u32 0]) rfl kR rfl) ?_
        intro b4 hb4
        refine w_al rfl dC (want_none rfl) (a_allocZ (z := .agg #[.int .i64 0, .int .i64 0, .int .u32 0, .int .u32 0, .int .u32 0, .int .i64 0, .int .i64 0, .int .u32 0, .int .u32 0, .int .u32 0, .int .u32 0, .int .i64 0, .int .i64 0, .bool false, .slice none 0 0]) (zs := #[.int .i64 0, .int .i64 0, .int .u32 0, .int .u32 0, .int .u32 0, .int .i64 0, .int .i64 0, .int .u32 0, .int .u32 0, .int .u32 0, .int .u32 0, .int .i64 0, .int .i64 0, .bool false, .slice none 0 0]) rfl kR rfl) ?_
        intro b5 hb5
        have hne5_4 : b5 ≠ b4 := by rintro rfl; first | (simp [Heap.set] at hb5; done) | (simp [Heap.set] at hb5; split at hb5 <;> simp at hb5; done) | (simp [Heap.set] at hb5; (repeat' (split at hb5)) <;> simp_all)
        have hne4_5 := hne5_4.symm
        refine w_st rfl (want_none rfl) (s_storeN (n := 5) rfl evA evA ocA kR szA kR hpA szA ?_)
        refine w_st rfl (want_none rfl) (s_storeN (n := 15) rfl evA evA ocA kR szA kR hpA szA ?_)
        refine w_nil ?_
        have hb5n : h2 b5 = none := by rw [Heap.set_other _ _ hne5_4] at hb5; exact hb5
        refine genH fun h3 hh => ?_
        have hb5v : h3 b5 = some (.cells #[.int .i64 r.key.1.1, .int .i64 r.key.1.2.1, .int .u32 r.key.1.2.2, .int .u32 r.key.2.1, .int .u32 r.key.2.2, .int .i64 r.age, .int .i64 r.msg.kind, .int .u32 r.msg.frm, .int .u32 r.msg.to, .int .u32 r.msg.src, .int .u32 r.msg.grp, .int .i64 r.msg.rank, .int .i64 r.msg.cost, .bool r.msg.only, r.sv] 64 (0, 0)) := by rw [hh]; exact Heap.set_same _ _ _
        have hb4v : h3 b4 = some (.cells #[.int .i64 r.key.1.1, .int .i64 r.key.1.2.1, .int .u32 r.key.1.2.2, .int .u32 r.key.2.1, .int .u32 r.key.2.2] 57 (0, 0)) := by rw [hh, Heap.set_other _ _ hne4_5]; exact Heap.set_same _ _ _
        have hk3 : ∀ k, k ≠ b4 → k ≠ b5 → h3 k = h2 k := fun k h4 h5 => by rw [hh, Heap.set_other _ _ h5, Heap.set_other _ _ h4, Heap.set_other _ _ h5, Heap.set_other _ _ h4]
        clear hh hb5
        have hnb4 : ∀ k, h2 k ≠ none → k ≠ b4 ∧ k ≠ b5 := fun k hk => ⟨fun e => hk (by rw [e]; exact hb4), fun e => hk (by rw [e]; exact hb5n)⟩
        have hage := (hrow r hr).age0
        have hage3 := (hrow r hr).age3
        have hw : IntKind.i64.wrap (r.age + 1) = r.age + 1 := wrap64_in _ (by omega) (by omega)
        repeat refine s_seq ?_
        refine s_region ?_
        refine w_pv rfl dC (want_none rfl) (p_fieldAddr (k := 5) rfl evA kR) ?_
        refine w_rd rfl dC (want_none rfl) (r_load1 rfl Try.underlying3 rfl evA hpA ceA) ?_
        refine w_pv rfl dC (want_none rfl) (p_val evA) ?_
        refine w_pv rfl dC (want_none rfl) (p_fieldAddr (k := 5) rfl evA kR) ?_
        refine w_st rfl (want_none rfl) (s_store1 rfl evA evA ocA kR kR hpA szA ?_)
        refine w_nil ?_
        repeat refine s_seq ?_
        refine s_region ?_
        refine w_pv rfl dC (want_none rfl) (p_fieldAddr (k := 5) rfl evA kR) ?_
        refine w_rd rfl dC (want_none rfl) (r_load1 rfl Try.underlying3 rfl evA hpA ceA) ?_
        refine w_pv rfl dC (want_none rfl) (p_val evA) ?_
        refine w_nil ?_
        refine genH fun h4 hh => ?_
        have hb5w : h4 b5 = some (.cells #[.int .i64 r.key.1.1, .int .i64 r.key.1.2.1, .int .u32 r.key.1.2.2, .int .u32 r.key.2.1, .int .u32 r.key.2.2, .int .i64 (r.age + 1), .int .i64 r.msg.kind, .int .u32 r.msg.frm, .int .u32 r.msg.to, .int .u32 r.msg.src, .int .u32 r.msg.grp, .int .i64 r.msg.rank, .int .i64 r.msg.cost, .bool r.msg.only, r.sv] 64 (0, 0)) := by rw [hh]; exact Heap.set_same _ _ _
        have hk4 : ∀ k, k ≠ b5 → h4 k = h3 k := fun k h5 => by rw [hh]; exact Heap.set_other _ _ h5
        clear hh
        have hb4w : h4 b4 = some (.cells #[.int .i64 r.key.1.1, .int .i64 r.key.1.2.1, .int .u32 r.key.1.2.2, .int .u32 r.key.2.1, .int .u32 r.key.2.2] 57 (0, 0)) := by rw [hk4 _ hne4_5]; exact hb4v
        have hk24 : ∀ k o, h2 k = some o → h4 k = some o := fun k o e => by
          obtain ⟨h5, h6⟩ := hnb4 k (by rw [e]; simp)
          rw [hk4 k h6, hk3 k h5 h6]; exact e
        have him4 : IsMapN h4 mb thV ((mids rs seen).map Rc.ey) cl := ⟨hk24 _ _ him2.1, him2.2⟩
        have hit4 : IsIter h4 it mb cl (seen ++ [r.born]) := hk24 _ _ hit2
        have hp4 := hk24 _ _ hp2
        have hrow4 : ∀ r ∈ rs, RowD h4 D r := fun r hr => (hrow2 r hr).only fun b o hb e _ => hk24 _ _ e
        have hchg4 : Chg D D h h4 := hchg2.le hk24
        have hdm4 : ∀ b, D b → h4 b ≠ none := fun b hb => by
          cases e : h2 b with
          | none => exact absurd e (hdm2 b hb)
          | some o => rw [hk24 b o e]; simp
        clear hb5v hb4v hk3 hk4 hk24 him2 hit2 hp2 hrow2 hchg2 hdm2 hb4 hb5n hnb4 hit him hp hrow hchg hdm hk
        have hsn' : (seen ++ [r.born]).Nodup := List.nodup_append.2 ⟨hsn, by simp, fun a ha b hb e => hs' (by simp at hb; rw [← hb, ← e]; exact ha)⟩
        have hsub' : ∀ β ∈ seen ++ [r.born], β ∈ rs.map (·.born) := fun β hβ => by
          rcases List.mem_append.1 hβ with h1 | h1
          · exact hsub β h1
          · rw [List.mem_singleton.1 h1]; exact List.mem_map.2 ⟨r, hr, rfl⟩
        have hlt : rs.length - (seen ++ [r.born]).length < rs.length - seen.length := by
          have := List.Nodup.length_le_of_subset hsn' (fun β hβ => hsub' β hβ)
          simp only [List.length_append, List.length_map, List.length_cons, List.length_nil] at this ⊢
          omega
        have hgs := gone_step nb hr hs'
        have hmb : mb ≠ it ∧ mb ≠ p := ⟨hne1, fun e => by have := him4.1; rw [e, hp4] at this; cases this⟩
        cases hg : gone r with
        | true =>
          have hg' : decide (r.age + 1 > 3) = true := hg
          rw [hg] at hgs
          simp only [if_true] at hgs
          have hgn : goneN rs seen + 1 ≤ 1000000 := by rw [← hgs]; exact Nat.le_trans (List.length_filter_le _ _) hlen
          have hwg : IntKind.i64.wrap (((goneN rs seen : Nat) : Int) + 1) = ((goneN rs (seen ++ [r.born]) : Nat) : Int) := by rw [hgs]; exact wrap64_nat _ _ (by omega) (by omega)
          have hdel := mid_del nb nk hr hs' hg
          have hag : (Value.agg #[.int .i64 r.key.1.1, .int .i64 r.key.1.2.1, .int .u32 r.key.1.2.2, .int .u32 r.key.2.1, .int .u32 r.key.2.2]) = thV r.key := rfl
          repeat refine s_seq ?_
          refine s_cond (t := true) slA ?_
          repeat refine s_seq ?_
          refine s_draw [(0, true), (1, true), (2, true), (3, true), (4, true), (5, true)] [] [5] rfl kR kR ?_
          refine d_pv rfl rfl dC rfl rfl (want_none rfl) (p_val evA) ?_
          refine d_rd0 rfl rfl dC rfl rfl (want_none rfl) (fun _ => PureOp.read (p_val evA) _) ?_
          refine d_pv rfl rfl dC rfl rfl (want_none rfl) (p_fieldAddr (k := 0) rfl evA kR) ?_
          refine d_rd [_] rfl rfl dC rfl rfl (want_none rfl) (r_load1 rfl Try.underlying58 rfl evA (restr1 hpA) ceA) ?_
          refine d_rd [_] rfl rfl dC rfl rfl (want_none rfl) (r_loadN (n := 5) rfl Try.underlying57 rfl evA (restr1 hpA) kR szA) ?_
          refine d_lst rfl rfl dC (by decide) rfl (want_none rfl) (s_delete (k := r.key) thing_key rfl Try.underlying58 Try.underlying57 evA evA him4 ?_)
          refine d_nil ?_
          repeat refine s_seq ?_
          refine s_region ?_
          refine w_pv rfl dC (want_none rfl) (p_val evA) ?_
          refine w_pv rfl dC (want_none rfl) (p_val evA) ?_
          refine w_pv rfl dC (want_none rfl) (p_val evA) ?_
          refine w_nil ?_
          have him5 := delN_map (k := r.key) him4
          rw [hdel] at him5
          rw [hdel]
          have hk5 : ∀ k o, k ≠ mb → h4 k = some o → (h4.set mb (.map (((mids rs (seen ++ [r.born])).map Rc.ey).map (mkE thV)).toArray cl)) k = some o := fun k o h1 e => by rw [Heap.set_other _ _ h1]; exact e
          have hsm := Heap.set_same h4 mb (.map (((mids rs (seen ++ [r.born])).map Rc.ey).map (mkE thV)).toArray cl)
          generalize (h4.set mb (.map (((mids rs (seen ++ [r.born])).map Rc.ey).map (mkE thV)).toArray cl)) = h5 at him5 hk5 hsm ⊢
          refine s_exit ?_
          refine ⟨_, hlt, seen ++ [r.born], rfl, hsn', hsub', hk5 _ _ (Ne.symm hmb.1) hit4, him5, hk5 _ _ (Ne.symm hmb.2) hp4, fun r hr => (hrow4 r hr).only (fun b o hb e hnm => hk5 _ _ (fun e1 => hnm _ _ (by rw [e1, him4.1] at e; exact (Option.some.inj e).symm)) e), ⟨fun b o hd e => hk5 _ _ (fun e1 => hd (by rw [e1]; exact hDm)) (hchg4.keep b o hd e), fun b hd => .inl hd⟩, fun b hb => ?_, slA, slA, slA⟩
          by_cases e1 : b = mb
          · rw [e1, hsm]; simp
          · cases e : h4 b with
            | none => exact absurd e (hdm4 b hb)
            | some o => rw [hk5 b o e1 e]; simp
        | false =>
          have hg' : decide (r.age + 1 > 3) = false := hg
          rw [hg] at hgs
          simp only [Bool.false_eq_true, if_false, Nat.add_zero] at hgs
          have hset := mid_set nb nk hr hs' hg
          have hag : (Value.agg #[.int .i64 r.key.1.1, .int .i64 r.key.1.2.1, .int .u32 r.key.1.2.2, .int .u32 r.key.2.1, .int .u32 r.key.2.2]) = thV r.key := rfl
          repeat refine s_seq ?_
          refine s_cond (t := false) slA ?_
          repeat refine s_seq ?_
          refine s_skip ?_
          repeat refine s_seq ?_
          refine s_draw [(0, true), (1, true), (2, true), (3, true), (4, true), (5, true), (6, true)] [] [6] rfl kR kR ?_
          refine d_pv rfl rfl dC rfl rfl (want_none rfl) (p_val evA) ?_
          refine d_rd0 rfl rfl dC rfl rfl (want_none rfl) (fun _ => PureOp.read (p_val evA) _) ?_
          refine d_pv rfl rfl dC rfl rfl (want_none rfl) (p_fieldAddr (k := 0) rfl evA kR) ?_
          refine d_rd [_] rfl rfl dC rfl rfl (want_none rfl) (r_load1 rfl Try.underlying58 rfl evA (restr1 hpA) ceA) ?_
          refine d_rd [_] rfl rfl dC rfl rfl (want_none rfl) (r_loadN (n := 5) rfl Try.underlying57 rfl evA (restr1 hpA) kR szA) ?_
          refine d_rd [_] rfl rfl dC rfl rfl (want_none rfl) (r_loadN (n := 15) rfl Try.underlying64 rfl evA (restr1 hpA) kR szA) ?_
          refine d_lst rfl rfl dC (by decide) rfl (want_none rfl) (s_mapUpdateN (k := r.key) (v := entV r.key (r.age + 1) r.msg r.sv) thing_key rfl Try.underlying58 Try.underlying57 evA evA evA him4 ⟨r.ey, he, rfl⟩ ?_)
          refine d_nil ?_
          have him5 := setN_map (k := r.key) (v := entV r.key (r.age + 1) r.msg r.sv) him4
          rw [hset] at him5
          rw [hset]
          have hk5 : ∀ k o, k ≠ mb → h4 k = some o → (h4.set mb (.map (((mids rs (seen ++ [r.born])).map Rc.ey).map (mkE thV)).toArray cl)) k = some o := fun k o h1 e => by rw [Heap.set_other _ _ h1]; exact e
          have hsm := Heap.set_same h4 mb (.map (((mids rs (seen ++ [r.born])).map Rc.ey).map (mkE thV)).toArray cl)
          generalize (h4.set mb (.map (((mids rs (seen ++ [r.born])).map Rc.ey).map (mkE thV)).toArray cl)) = h5 at him5 hk5 hsm ⊢
          refine ⟨_, hlt, seen ++ [r.born], rfl, hsn', hsub', hk5 _ _ (Ne.symm hmb.1) hit4, him5, hk5 _ _ (Ne.symm hmb.2) hp4, fun r hr => (hrow4 r hr).only (fun b o hb e hnm => hk5 _ _ (fun e1 => hnm _ _ (by rw [e1, him4.1] at e; exact (Option.some.inj e).symm)) e), ⟨fun b o hd e => hk5 _ _ (fun e1 => hd (by rw [e1]; exact hDm)) (hchg4.keep b o hd e), fun b hd => .inl hd⟩, fun b hb => ?_, slA, slA, slA⟩
          by_cases e1 : b = mb
          · rw [e1, hsm]; simp
          · cases e : h4 b with
            | none => exact absurd e (hdm4 b hb)
            | some o => rw [hk5 b o e1 e]; simp
    · clear h0 T hit hp him hrow hle
      rintro T h' ⟨seen, hall, him, hp, hrow, hchg, hdm, h3⟩
      obtain ⟨hm1, hm2⟩ := mids_all hall
      obtain ⟨ht1, ht2⟩ := tick_map rs
      repeat refine s_seq ?_
      refine s_region ?_
      refine w_pv rfl dC (want_none rfl) (p_val evA) ?_
      refine w_pv rfl dC (want_none rfl) (p_val evA) ?_
      refine w_nil ?_
      refine s_ret ⟨_, res_one rfl rfl, slA, hchg, ⟨⟨_, ty, hp, hDp, .inr ⟨mb, rs.filterMap tickR, cl, rfl, hDm, by rw [← hm1]; exact him, ht1.symm, fun y hy => ?_⟩⟩, hdm⟩⟩
      · rw [← hm1] at hy
        obtain ⟨r, hr, hm⟩ := List.mem_filterMap.1 hy
        exact (hrow r hr).tick hm
end Go.Proofs.Ytielfejpnkcjbaa

/- Put. -/
set_option linter.unusedVariables false
set_option linter.unusedSimpArgs false
namespace Go.Proofs.Ytielfejpnkcjbaa
open Sl
section
variable {κ : Type} [DecidableEq κ]
theorem Sl.getK_map (l : List (κ × Value)) (k k' : κ) (v : Value) : getK (l.map fun p => if k = p.1 then (p.1, v) else p) k' = if k' = k then (if hasK l k then some v else none) else getK l k' := by
  induction l with
  | nil => simp [getK, hasK]
  | cons p r ih =>
    obtain ⟨a, u⟩ := p
    unfold getK hasK at *
    simp only [List.map_cons, List.any_cons]
    by_cases h1 : k = a
    · subst h1
      by_cases h2 : k' = k
      · subst h2; simp
      · simp [h2]; simpa [h2] using ih
    · simp only [if_neg h1]
      by_cases h2 : k' = a
      · subst h2; simp [Ne.symm h1]
      · simp only [List.find?_cons, decide_eq_false h2, decide_eq_false h1, Bool.false_or]
        exact ih
theorem Sl.getK_putK (l : List (κ × Value)) (k k' : κ) (v : Value) : getK (putK l k v) k' = if k' = k then some v else getK l k' := by
  unfold putK
  split
  · rename_i hh
    rw [getK_map, hh]; simp
  · rename_i hh
    have hn : getK l k = none := (getK_none l k).2 (by simpa using hh)
    by_cases h2 : k' = k
    · subst h2
      unfold getK at *
      rw [List.find?_append]
      cases hf : l.find? (fun p => decide (k' = p.1)) with
      | none => simp
      | some p => rw [hf] at hn; cases hn
    · unfold getK
      rw [List.find?_append]
      cases hf : l.find? (fun p => decide (k' = p.1)) with
      | none => simp [h2]
      | some p => simp [h2]
end
abbrev Puts := List ((Nat × Nat) × Int)
def numsOf (ps : Puts) (q : List Bool) : List Int := (ps.filter fun x => decide (path x.1.1 x.1.2 = q)).map (·.2)
def countOf (ps : Puts) (k : Int × Int) : Nat := (ps.filter fun x => decide (((x.1.1 : Int), (x.1.2 : Int)) = k)).length
structure CntOk (ps : Puts) (l : Cnt) : Prop where
  get : ∀ k, getK l k = if countOf ps k = 0 then none else some (.int .i64 (countOf ps k))
  one : Keys1 l
theorem CntOk.nil : CntOk [] [] := ⟨fun k => rfl, by simp [Keys1]⟩
theorem countOf_put (ps : Puts) (x : (Nat × Nat) × Int) (k : Int × Int) : countOf (ps ++ [x]) k = countOf ps k + if k = ((x.1.1 : Int), (x.1.2 : Int)) then 1 else 0 := by
  unfold countOf
  rw [List.filter_append, List.length_append]
  congr 1
  by_cases h : k = ((x.1.1 : Int), (x.1.2 : Int))
  · simp [h]
  · simp [h, Ne.symm h]
theorem CntOk.put {ps : Puts} {l : Cnt} (c : CntOk ps l) (x : (Nat × Nat) × Int) : CntOk (ps ++ [x]) (putK l ((x.1.1 : Int), (x.1.2 : Int)) (.int .i64 ((countOf ps ((x.1.1 : Int), (x.1.2 : Int)) + 1 : Nat)))) := by
  refine ⟨fun k => ?_, putK_keys _ c.one _ _⟩
  rw [getK_putK, countOf_put]
  by_cases h : k = ((x.1.1 : Int), (x.1.2 : Int))
  · simp [h]
  · simp [h, c.get k]
theorem numsOf_put (ps : Puts) (x : (Nat × Nat) × Int) : numsOf (ps ++ [x]) = fun r => if r = path x.1.1 x.1.2 then numsOf ps (path x.1.1 x.1.2) ++ [x.2] else numsOf ps r := by
  funext r
  unfold numsOf
  rw [List.filter_append, List.map_append]
  by_cases h : r = path x.1.1 x.1.2
  · simp [h]
  · simp [h, Ne.symm h]
structure TrieAt (h : Heap) (D : Nat → Prop) (p : Nat) (ps : Puts) : Prop where
  out : ∃ S l, TrieH h S p (numsOf ps) l ∧ CntOk ps l ∧ D = S.dom
  ok : ∀ x ∈ ps, x.1.1 < 4294967296 ∧ x.1.2 ≤ 32 ∧ cut x.1.1 x.1.2 = x.1.1
  few : ps.length ≤ 1000000
theorem numsOf_len (ps : Puts) (q : List Bool) : (numsOf ps q).length ≤ ps.length := by
  unfold numsOf; rw [List.length_map]; exact List.length_filter_le _ _
theorem TrieAt.le {h h' : Heap} {D : Nat → Prop} {p : Nat} {ps : Puts} (t : TrieAt h D p ps) (le : h.le h') : TrieAt h' D p ps := by
  obtain ⟨S, l, a, b, c⟩ := t.out
  exact ⟨⟨S, l, a.le le, b, c⟩, t.ok, t.few⟩
theorem TrieAt.only {h h' : Heap} {D : Nat → Prop} {p : Nat} {ps : Puts} (t : TrieAt h D p ps) (e : ∀ b o, D b → h b = some o → h' b = some o) : TrieAt h' D p ps := by
  obtain ⟨S, l, a, b, c⟩ := t.out
  subst c
  exact ⟨⟨S, l, a.only e, b, rfl⟩, t.ok, t.few⟩
theorem TrieAt.new (h : Heap) (p : Nat) (ty : TypeId) : TrieAt (h.set p (.cells #[.pointer none, .pointer none, .slice none 0 0, .map none] ty (0, 0))) (fun b => b = p) p [] :=
  ⟨⟨_, _, TrieH.new h p ty, CntOk.nil, by funext b; by_cases e : b = p <;> simp [TrieS.dom, e]⟩, by simp, by simp⟩
theorem ptr_eql (x : Option Nat) (f : Nat → Option Bool) : True := trivial
theorem put_ok {h : Heap} {D : Nat → Prop} {p : Nat} {ps : Puts} (A : Nat) (n m : Int) (t : TrieAt h D p ps) (hA : A < 4294967296) (few : ps.length < 1000000) :
    SCalls Try.prog 13 #[.pointer (some ⟨p, 0, none⟩), pfxV A n, .int .i64 m] h (fun v h' => v = .bool (okPfx A n) ∧ ∃ D', Chg D D' h h' ∧ TrieAt h' D' p (if okPfx A n then ps ++ [((A, n.toNat), m)] else ps)) := by
  refine s_enter Try.func13 rfl (by rw [Try.ntmps13]; simp) ?_
  rw [Try.ntmps13]
  generalize hT : T0 #[.pointer (some ⟨p, 0, none⟩), pfxV A n, .int .i64 m] = T
  have h0 : T 0 = .pointer (some ⟨p, 0, none⟩) := by rw [← hT]; rfl
  have h1 : T 1 = .agg #[.int .u32 A, .int .i64 n] := by rw [← hT]; rfl
  have h2 : T 2 = .int .i64 m := by rw [← hT]; rfl
  clear hT
  have hpf : (Value.agg #[.int .u32 A, .int .i64 n]) = pfxV A n := rfl
  repeat refine s_seq ?_
  refine s_region ?_
  refine w_al rfl dC (want_none rfl) (a_boxN rfl evA) ?_
  intro b4 hb4
  refine w_pv rfl dC (want_none rfl) (p_val evA) ?_
  refine w_nil ?_
  repeat refine s_seq ?_
  refine s_region ?_
  refine w_rd rfl dC (want_none rfl) (r_loadN (n := 2) rfl Try.underlying37 rfl evA hpA kR szA) ?_
  refine w_ac rfl dC (want_none rfl) (s_call rfl rfl Try.func43 kR kR evA ?_); refine (addrValid_ok _ _ _).mono ?_; rintro _ hv ⟨hle, rfl⟩
  refine w_pv rfl dC (want_none rfl) (p_val evA) ?_
  refine w_nil ?_
  rw [validB_eq A n hA]
  have hle0 : h.le hv := Heap.le_trans (Heap.le_set _ hb4) hle
  have hb4' := hle _ _ (Heap.set_same _ _ _)
  cases hok : okPfx A n with
  | false =>
    repeat refine s_seq ?_
    refine s_cond (t := true) slA ?_
    repeat refine s_seq ?_
    refine s_region ?_
    refine w_pv rfl dC (want_none rfl) (p_val evA) ?_
    refine w_nil ?_
    refine s_ret ⟨_, res_one rfl rfl, slA, D, Chg.le (Chg.refl D h) hle0, ?_⟩
    exact t.le hle0
  | true =>
    repeat refine s_seq ?_
    refine s_cond (t := false) slA ?_
    repeat refine s_seq ?_
    refine s_skip ?_
    repeat refine s_seq ?_
    refine s_region ?_
    refine w_pv rfl dC (want_none rfl) (p_val evA) ?_
    refine w_pv rfl dC (want_none rfl) (p_val evA) ?_
    refine w_pv rfl dC (want_none rfl) (p_fieldAddr (k := 0) rfl evA kR) ?_
    refine w_pv rfl dC (want_none rfl) (p_val evA) ?_
    refine w_nil ?_
    repeat refine s_seq ?_
    refine s_region ?_
    refine w_pv rfl dC (want_none rfl) (p_fieldAddr (k := 1) rfl evA kR) ?_
    refine w_rd rfl dC (want_none rfl) (r_load1 rfl Try.underlying3 rfl evA hpA ceA) ?_
    refine w_pv rfl dC (want_none rfl) (p_val evA) ?_
    refine w_nil ?_
    obtain ⟨hn0, hn32, hcut⟩ := of_decide_eq_true hok
    obtain ⟨nn, rfl⟩ := Int.eq_ofNat_of_zero_le hn0
    have hnn : nn ≤ 32 := by omega
    simp only [Int.toNat_natCast] at hcut ⊢
    obtain ⟨S, l, th, cn, rfl⟩ := t.out
    have hb4d : ¬ S.dom b4 := fun hd => th.dom b4 hd hb4
    repeat refine s_seq ?_
    refine (s_block (s_loop (fun k T h' => ∃ (i b : Nat) (S' : TrieS), k = nn - i ∧ i ≤ nn ∧ TrieH h' S' p (numsOf ps) l ∧ S'.A (path A i) = some b ∧ ¬ S'.dom b4 ∧ Chg S.dom S'.dom h h' ∧ h' b4 = some (.cells #[.int .u32 A, .int .i64 (nn : Nat)] 37 (0, 0)) ∧
      T 0 = .pointer (some ⟨p, 0, none⟩) ∧ T 2 = .int .i64 m ∧ T 4 = .pointer (some ⟨b4, 0, none⟩) ∧ T 7 = .pointer (some ⟨b, 0, none⟩) ∧ T 17 = .int .i64 (nn : Nat) ∧ T 18 = .int .i64 (i : Nat)) (n0 := nn)
      ⟨0, p, S, by omega, by omega, th.le hle0, th.root, hb4d, (Chg.refl _ h).le hle0, hb4', slA, slA, slA, slA, by simp only [pval, ev, upd, binVal, intBin, Option.map_some, ↓reduceIte, reduceCtorEq, Nat.reduceEqDiff, Nat.reduceBEq, List.map_toArray, List.map_cons, List.map_nil, cond_true, cond_false, decide_true, decide_false, Bool.not_true, Bool.not_false, Bool.true_and, Bool.false_and, Bool.and_true, Bool.and_false, beq_self_eq_true, bne_self_eq_false, List.getElem_toArray, List.getElem_cons_succ, List.getElem_cons_zero, *] <;> rfl, by simp only [pval, ev, upd, binVal, intBin, Option.map_some, ↓reduceIte, reduceCtorEq, Nat.reduceEqDiff, Nat.reduceBEq, List.map_toArray, List.map_cons, List.map_nil, cond_true, cond_false, decide_true, decide_false, Bool.not_true, Bool.not_false, Bool.true_and, Bool.false_and, Bool.and_true, Bool.and_false, beq_self_eq_true, bne_self_eq_false, List.getElem_toArray, List.getElem_cons_succ, List.getElem_cons_zero, *] <;> rfl⟩ ?_))
    clear h0 h1 h2 hle hle0 hb4' T
    rintro k T h' ⟨i, b, S', rfl, hi, th', hA', hd', hchg, hb4', h0, h2, h4, h7, h17, h18⟩
    by_cases hlt : i < nn
    · have e1 : decide ((i : Int) < (nn : Int)) = true := decide_eq_true (by omega)
      have hw3 : IntKind.i64.wrap ((i : Int) + 1) = ((i + 1 : Nat) : Int) := wrap64_nat _ _ (by omega) (by omega)
      obtain ⟨xi, hxi⟩ : ∃ xi : Nat, xi = (if bitI A i then 1 else 0 : Nat) := ⟨_, rfl⟩
      have hxi' : (if bitI A i then 1 else 0 : Int) = ((xi : Nat) : Int) := by rw [hxi]; split <;> rfl
      have hxt : Int.toNat (xi : Int) = xi := by omega
      have hx2 : (xi : Int) < ((2 : Nat) : Int) := by rw [hxi]; split <;> decide
      have hx0 : (0 : Int) ≤ (xi : Int) := by omega
      obtain ⟨full, ty, hb, h3, hf0, hf1, hf2, hf3⟩ := th'.node _ _ hA'
      have hpn : path A i ++ [bitI A i] = path A (i + 1) := rfl
      have hfx : full[xi]? = some (ptrTo (S'.A (path A (i + 1)))) := by
        rw [← hpn, hxi]
        cases hbit : bitI A i with
        | false => exact hf0
        | true => exact hf1
      have hfx' : full[0 + 0 + xi * 1]? = some (ptrTo (S'.A (path A (i + 1)))) := by simpa using hfx
      have hxb : (if bitI A i then 1 else 0) = xi := by rw [hxi]
      clear hxi hfx
      repeat refine s_seq ?_
      refine s_region ?_
      refine w_pv rfl dC (want_none rfl) (p_val evA) ?_
      refine w_nil ?_
      repeat refine s_seq ?_
      refine s_cond (t := true) slA ?_
      repeat refine s_seq ?_
      refine s_skip ?_
      repeat refine s_seq ?_
      refine s_block ?_
      repeat refine s_seq ?_
      refine s_region ?_
      refine w_pv rfl dC (want_none rfl) (p_val evA) ?_
      refine w_pv rfl dC (want_none rfl) (p_val evA) ?_
      refine w_nil ?_
      repeat refine s_seq ?_
      refine s_region ?_
      refine w_pv rfl dC (want_none rfl) (p_fieldAddr (k := 0) rfl evA kR) ?_
      refine w_rd rfl dC (want_none rfl) (r_load1 rfl Try.underlying23 rfl evA hpA ceA) ?_
      refine w_pv rfl dC (want_none rfl) (p_val evA) ?_
      refine w_ac rfl dC (want_none rfl) (s_call rfl rfl Try.func44 kR kR evA ?_); refine (bit_ok A i hA (by omega) _).mono ?_; rintro _ h' ⟨rfl, rfl⟩
      refine w_pv rfl dC (want_none rfl) (p_val evA) ?_
      refine w_nil ?_
      rw [hxi']
      cases hnext : S'.A (path A (i + 1)) with
      | none =>
        rw [hnext] at hfx'
        have hfx' : full[0 + 0 + xi * 1]? = some (.pointer none) := hfx'
        repeat refine s_seq ?_
        refine s_region ?_
        refine w_pv rfl dC (want_none rfl) (p_val evA) ?_
        refine w_pv rfl dC (want_none rfl) (p_val evA) ?_
        refine w_pv rfl dC (want_none rfl) (p_val evA) ?_
        refine w_pv rfl dC (want_none rfl) (p_fieldAddr (k := 0) rfl evA kR) ?_
        refine w_pv rfl dC (want_none rfl) (p_indexAddrA (sz := 1) rfl Try.underlying27 kR kR evA evA hx0 hx2) ?_
        refine w_rd rfl dC (want_none rfl) (r_load1 rfl Try.underlying26 rfl evA hpA ceA) ?_
        refine w_rd rfl dC (want_none rfl) (r_eql rfl evA evA gdA eqA rfl) ?_
        refine w_nil ?_
        repeat refine s_seq ?_
        refine s_cond (t := true) slA ?_
        repeat refine s_seq ?_
        refine s_region ?_
        refine w_pv rfl dC (want_none rfl) (p_val evA) ?_
        refine w_pv rfl dC (want_none rfl) (p_val evA) ?_
        refine w_pv rfl dC (want_none rfl) (p_buildL (places := [(0, 2), (2, 1)]) (z := [.pointer none, .pointer none, .slice none 0 0]) (cells := [.pointer none, .pointer none, .slice none 0 0]) rfl evA kR kR (by rfl)) ?_
        refine w_al rfl dC (want_none rfl) (a_boxN rfl evA) ?_
        intro b35 hb35
        refine w_pv rfl dC (want_none rfl) (p_val evA) ?_
        refine w_pv rfl dC (want_none rfl) (p_fieldAddr (k := 0) rfl evA kR) ?_
        refine w_pv rfl dC (want_none rfl) (p_indexAddrA (sz := 1) rfl Try.underlying27 kR kR evA evA hx0 hx2) ?_
        refine w_st rfl (want_none rfl) (s_store1 rfl evA evA ocA kR kR hpA szA ?_)
        refine w_nil ?_
        have hix : (if bitI A i then 1 else 0) = 0 + 0 + xi * 1 := by rw [hxb]; omega
        obtain ⟨S2, th2, hA2, chg2⟩ := th'.grow (x := bitI A i) (ty' := 30) hA' (by rw [hpn]; exact hnext) hb hb35
        rw [hix] at th2 chg2
        rw [hpn] at hA2
        have hget : (full.setIfInBounds (0 + 0 + xi * 1) (.pointer (some ⟨b35, 0, none⟩)))[0 + 0 + xi * 1]? = some (.pointer (some ⟨b35, 0, none⟩)) := get_set_self (by omega)
        have hbb : b4 ≠ b := fun e => hd' (by show S'.role b4 ≠ .no; rw [e, th'.rnode _ _ hA']; simp)
        have hb35b : b4 ≠ b35 := fun e => by rw [e, hb35] at hb4'; cases hb4'
        have hb42 : ((h'.set b35 (.cells #[.pointer none, .pointer none, .slice none 0 0] 30 (0, 0))).set b (.cells (full.setIfInBounds (0 + 0 + xi * 1) (.pointer (some ⟨b35, 0, none⟩))) ty (0, 0))) b4 = some (.cells #[.int .u32 A, .int .i64 (nn : Nat)] 37 (0, 0)) := by
          rw [Heap.set_other _ _ hbb, Heap.set_other _ _ hb35b]; exact hb4'
        have hd2 : ¬ S2.dom b4 := fun hd => by
          rcases chg2.ext b4 hd with h1 | h1
          · exact hd' h1
          · rw [h1] at hb4'; cases hb4'
        clear hix hxb
        repeat refine s_seq ?_
        refine s_region ?_
        refine w_pv rfl dC (want_none rfl) (p_val evA) ?_
        refine w_pv rfl dC (want_none rfl) (p_val evA) ?_
        refine w_pv rfl dC (want_none rfl) (p_val evA) ?_
        refine w_pv rfl dC (want_none rfl) (p_fieldAddr (k := 0) rfl evA kR) ?_
        refine w_pv rfl dC (want_none rfl) (p_indexAddrA (sz := 1) rfl Try.underlying27 kR kR evA evA hx0 hx2) ?_
        refine w_rd rfl dC (want_none rfl) (r_load1 rfl Try.underlying26 rfl evA hpA ceA) ?_
        refine w_pv rfl dC (want_none rfl) (p_val evA) ?_
        refine w_nil ?_
        repeat refine s_seq ?_
        refine s_region ?_
        refine w_pv rfl dC (want_none rfl) (p_val evA) ?_
        refine w_pv rfl dC (want_none rfl) (p_val evA) ?_
        refine w_nil ?_
        exact ⟨nn - (i + 1), by omega, i + 1, b35, S2, rfl, by omega, th2, hA2, hd2, hchg.trans chg2, hb42, slA, slA, slA, slA, slA, slA⟩
      | some c =>
        rw [hnext] at hfx'
        have hfx' : full[0 + 0 + xi * 1]? = some (.pointer (some ⟨c, 0, none⟩)) := hfx'
        repeat refine s_seq ?_
        refine s_region ?_
        refine w_pv rfl dC (want_none rfl) (p_val evA) ?_
        refine w_pv rfl dC (want_none rfl) (p_val evA) ?_
        refine w_pv rfl dC (want_none rfl) (p_val evA) ?_
        refine w_pv rfl dC (want_none rfl) (p_fieldAddr (k := 0) rfl evA kR) ?_
        refine w_pv rfl dC (want_none rfl) (p_indexAddrA (sz := 1) rfl Try.underlying27 kR kR evA evA hx0 hx2) ?_
        refine w_rd rfl dC (want_none rfl) (r_load1 rfl Try.underlying26 rfl evA hpA ceA) ?_
        refine w_rd rfl dC (want_none rfl) (r_eql rfl evA evA gdA eqA rfl) ?_
        refine w_nil ?_
        repeat refine s_seq ?_
        refine s_cond (t := false) slA ?_
        repeat refine s_seq ?_
        refine s_skip ?_
        repeat refine s_seq ?_
        refine s_region ?_
        refine w_pv rfl dC (want_none rfl) (p_val evA) ?_
        refine w_pv rfl dC (want_none rfl) (p_val evA) ?_
        refine w_pv rfl dC (want_none rfl) (p_val evA) ?_
        refine w_pv rfl dC (want_none rfl) (p_fieldAddr (k := 0) rfl evA kR) ?_
        refine w_pv rfl dC (want_none rfl) (p_indexAddrA (sz := 1) rfl Try.underlying27 kR kR evA evA hx0 hx2) ?_
        refine w_rd rfl dC (want_none rfl) (r_load1 rfl Try.underlying26 rfl evA hpA ceA) ?_
        refine w_pv rfl dC (want_none rfl) (p_val evA) ?_
        refine w_nil ?_
        repeat refine s_seq ?_
        refine s_region ?_
        refine w_pv rfl dC (want_none rfl) (p_val evA) ?_
        refine w_pv rfl dC (want_none rfl) (p_val evA) ?_
        refine w_nil ?_
        exact ⟨nn - (i + 1), by omega, i + 1, c, S', rfl, by omega, th', hnext, hd', hchg, hb4', slA, slA, slA, slA, slA, slA⟩
    · have hin : i = nn := by omega
      subst hin
      have e1 : decide ((i : Int) < (i : Int)) = false := decide_eq_false (by omega)
      obtain ⟨full, ty, hb, h3, hf0, hf1, hf2, hf3⟩ := th'.node _ _ hA'
      have hrow := th'.rown _ _ hA'
      have hlen := numsOf_len ps (path A i)
      have hd4 : ∀ {h2 : Heap} {S2 : TrieS}, Chg S'.dom S2.dom h' h2 → ¬ S2.dom b4 := fun c hd => by
        rcases c.ext b4 hd with h1 | h1
        · exact hd' h1
        · rw [h1] at hb4'; cases hb4'
      repeat refine s_seq ?_
      refine s_region ?_
      refine w_pv rfl dC (want_none rfl) (p_val evA) ?_
      refine w_nil ?_
      repeat refine s_seq ?_
      refine s_cond (t := false) slA ?_
      repeat refine s_seq ?_
      refine s_exit ?_
      repeat refine s_seq ?_
      refine s_region ?_
      refine w_pv rfl dC (want_none rfl) (p_val evA) ?_
      refine w_pv rfl dC (want_none rfl) (p_val evA) ?_
      refine w_pv rfl dC (want_none rfl) (p_val evA) ?_
      refine w_pv rfl dC (want_none rfl) (p_fieldAddr (k := 2) rfl evA kR) ?_
      refine w_rd rfl dC (want_none rfl) (r_load1 rfl Try.underlying28 rfl evA hpA ceA) ?_
      refine w_pv rfl dC (want_none rfl) (p_val evA) ?_
      refine w_al rfl dC (want_none rfl) (a_buildSlice1 (sz := 1) rfl Try.underlying28 evA kR ceA (by decide) (by decide)) ?_
      intro b52 hb52
      have hle52 := Heap.le_set (.cells #[.int .i64 m] 3 (0, 0)) hb52; have th1 := th'.le hle52; refine w_ac rfl dC (want_none rfl) (s_append (sz := 1) rfl Try.underlying28 Try.underlying28 kR evA evA (hrow.le hle52) (.at_ (cs := [.int .i64 m]) (Heap.set_same _ _ _) rfl (Nat.le_refl _) rfl) (by simp [Value.oneCell']) (by omega) ?_); intro v' h1 own' grew; have hone := own'.oneC; obtain ⟨hb1, S2, th2, hmv2, chg2⟩ := th1.push hA' (hle52 _ _ hb) own' grew
      refine w_pv rfl dC (want_none rfl) (p_val evA) ?_
      refine w_pv rfl dC (want_none rfl) (p_fieldAddr (k := 2) rfl evA kR) ?_
      refine w_st rfl (want_none rfl) (s_store1 rfl evA evA ocA kR kR hpA szA ?_)
      refine w_nil ?_
      have hb4b : b4 ≠ b := fun e => hd' (by show S'.role b4 ≠ .no; rw [e, th'.rnode _ _ hA']; simp)
      have hb4x : (h1.set b (.cells (full.setIfInBounds (0 + 2) v') ty (0, 0))) b4 = some (.cells #[.int .u32 A, .int .i64 (i : Nat)] 37 (0, 0)) := by
        rw [Heap.set_other _ _ hb4b]
        refine grew.same _ _ (hle52 _ _ hb4') fun e => ?_
        have := th'.rrole _ _ _ hA' e.symm
        exact hd' (by show S'.role b4 ≠ .no; rw [this]; simp)
      have chgA : Chg S.dom S2.dom h (h1.set b (.cells (full.setIfInBounds (0 + 2) v') ty (0, 0))) := hchg.trans (Chg.of_le hle52 chg2)
      have hd2 := hd4 (Chg.of_le hle52 chg2)
      replace th2 : TrieH (h1.set b (.cells (full.setIfInBounds (0 + 2) v') ty (0, 0))) S2 p _ l := th2
      clear chg2
      generalize (h1.set b (.cells (full.setIfInBounds (0 + 2) v') ty (0, 0))) = hx at th2 hb4x chgA ⊢
      rw [← numsOf_put ps ((A, i), m)] at th2
      clear hb1 hone grew own' h1 th1 hle52 hb52 hrow hf0 hf1 hf2 hf3 h3 hb hd4 hb4b hlen
      obtain ⟨fullp, typ, hp, hp3, _, _, _, hpm⟩ := th2.node [] p th2.root
      replace hpm := hpm rfl
      have hps : 3 < fullp.size := by
        rcases Nat.lt_or_ge 3 fullp.size with h1 | h1
        · exact h1
        · rw [Array.getElem?_eq_none h1] at hpm; cases hpm
      have hpm' : fullp[0 + 3]? = some S2.mv := hpm
      refine s_seq ?_
      refine s_join (fun T h4 => ∃ (S3 : TrieS) (mb : Nat), TrieH h4 S3 p (numsOf (ps ++ [((A, i), m)])) l ∧ S3.mv = .map (some mb) ∧ Chg S.dom S3.dom h h4 ∧ h4 b4 = some (.cells #[.int .u32 A, .int .i64 (i : Nat)] 37 (0, 0)) ∧ ¬ S3.dom b4 ∧ T 0 = .pointer (some ⟨p, 0, none⟩) ∧ T 4 = .pointer (some ⟨b4, 0, none⟩)) ?_ ?_
      · have hb4p : b4 ≠ p := fun e => hd2 (by show S2.role b4 ≠ .no; rw [e, th2.rnode _ _ th2.root]; simp)
        have made : ∀ mb, l = [] → hx mb = none → ∃ S3 : TrieS, TrieH ((hx.set mb (.map #[] 0)).set p (.cells (fullp.setIfInBounds (0 + 3) (.map (some mb))) typ (0, 0))) S3 p (numsOf (ps ++ [((A, i), m)])) l ∧ S3.mv = .map (some mb) ∧ Chg S.dom S3.dom h ((hx.set mb (.map #[] 0)).set p (.cells (fullp.setIfInBounds (0 + 3) (.map (some mb))) typ (0, 0))) ∧ ((hx.set mb (.map #[] 0)).set p (.cells (fullp.setIfInBounds (0 + 3) (.map (some mb))) typ (0, 0))) b4 = some (.cells #[.int .u32 A, .int .i64 (i : Nat)] 37 (0, 0)) ∧ ¬ S3.dom b4 := by
          intro mb hl hmb
          subst hl
          obtain ⟨S3, t3, m3, c3⟩ := th2.mkmap hp hmb hps
          refine ⟨S3, t3, m3, chgA.trans c3, ?_, fun hd => ?_⟩
          · rw [Heap.set_other _ _ hb4p, Heap.set_other _ _ (fun e => by rw [e, hmb] at hb4x; cases hb4x)]; exact hb4x
          · rcases c3.ext b4 hd with h1 | h1
            · exact hd2 h1
            · rw [h1] at hb4x; cases hb4x
        rcases th2.map with ⟨hmv, hl⟩ | ⟨mb, hmv, hrole, him⟩
        · rw [hmv] at hpm'
          repeat refine s_seq ?_
          refine s_region ?_
          refine w_pv rfl dC (want_none rfl) (p_val evA) ?_
          refine w_pv rfl dC (want_none rfl) (p_val evA) ?_
          refine w_pv rfl dC (want_none rfl) (p_fieldAddr (k := 3) rfl evA kR) ?_
          refine w_rd rfl dC (want_none rfl) (r_load1 rfl Try.underlying31 rfl evA hpA ceA) ?_
          refine w_rd rfl dC (want_none rfl) (r_len_map_nil rfl Try.underlying31 evA) ?_
          refine w_pv rfl dC (want_none rfl) (p_val evA) ?_
          refine w_nil ?_
          repeat refine s_seq ?_
          refine s_cond (t := true) slA ?_
          repeat refine s_seq ?_
          refine s_region ?_
          refine w_pv rfl dC (want_none rfl) (p_val evA) ?_
          refine w_al rfl dC (want_none rfl) (a_makeMap rfl) ?_
          intro b63 hb63
          refine w_pv rfl dC (want_none rfl) (p_val evA) ?_
          refine w_pv rfl dC (want_none rfl) (p_fieldAddr (k := 3) rfl evA kR) ?_
          refine w_st rfl (want_none rfl) (s_store1 rfl evA evA ocA kR kR hpA szA ?_)
          refine w_nil ?_
          obtain ⟨S3, t3, m3, c3, e3, d3⟩ := made b63 hl hb63
          exact ⟨S3, b63, t3, m3, c3, e3, d3, slA, slA⟩
        · rw [hmv] at hpm'
          obtain ⟨es, cl, hes, hrep, _⟩ := him.out
          have hll := es_len hrep
          by_cases hz : es.size = 0
          · have hzz : (((es.size : Nat) : Int) == 0) = true := by simpa using hz
            have hl0 := List.eq_nil_of_length_eq_zero (by rw [← hll]; simpa using hz)
            clear hz
            repeat refine s_seq ?_
            refine s_region ?_
            refine w_pv rfl dC (want_none rfl) (p_val evA) ?_
            refine w_pv rfl dC (want_none rfl) (p_val evA) ?_
            refine w_pv rfl dC (want_none rfl) (p_fieldAddr (k := 3) rfl evA kR) ?_
            refine w_rd rfl dC (want_none rfl) (r_load1 rfl Try.underlying31 rfl evA hpA ceA) ?_
            refine w_rd rfl dC (want_none rfl) (r_len_map rfl Try.underlying31 evA hes) ?_
            refine w_pv rfl dC (want_none rfl) (p_val evA) ?_
            refine w_nil ?_
            repeat refine s_seq ?_
            refine s_cond (t := true) slA ?_
            repeat refine s_seq ?_
            refine s_region ?_
            refine w_pv rfl dC (want_none rfl) (p_val evA) ?_
            refine w_al rfl dC (want_none rfl) (a_makeMap rfl) ?_
            intro b63 hb63
            refine w_pv rfl dC (want_none rfl) (p_val evA) ?_
            refine w_pv rfl dC (want_none rfl) (p_fieldAddr (k := 3) rfl evA kR) ?_
            refine w_st rfl (want_none rfl) (s_store1 rfl evA evA ocA kR kR hpA szA ?_)
            refine w_nil ?_
            obtain ⟨S3, t3, m3, c3, e3, d3⟩ := made b63 hl0 hb63
            exact ⟨S3, b63, t3, m3, c3, e3, d3, slA, slA⟩
          · have hzz : (((es.size : Nat) : Int) == 0) = false := by simpa using hz
            repeat refine s_seq ?_
            refine s_region ?_
            refine w_pv rfl dC (want_none rfl) (p_val evA) ?_
            refine w_pv rfl dC (want_none rfl) (p_val evA) ?_
            refine w_pv rfl dC (want_none rfl) (p_fieldAddr (k := 3) rfl evA kR) ?_
            refine w_rd rfl dC (want_none rfl) (r_load1 rfl Try.underlying31 rfl evA hpA ceA) ?_
            refine w_rd rfl dC (want_none rfl) (r_len_map rfl Try.underlying31 evA hes) ?_
            refine w_pv rfl dC (want_none rfl) (p_val evA) ?_
            refine w_nil ?_
            repeat refine s_seq ?_
            refine s_cond (t := false) slA ?_
            repeat refine s_seq ?_
            refine s_skip ?_
            exact ⟨S2, mb, th2, hmv, chgA, hb4x, hd2, slA, slA⟩
      · clear h0 h2 h4 h7 h17 h18 T th2 hb4x chgA hp hpm hpm' hps hmv2 hd2
        rintro T h4 ⟨S3, mb, t3, hmv, chg, hb4x, hd3, h0, h4'⟩
        clear hp3 hn0 hn32 hnn hi hb4' hlt e1 hpf hb4 hb4d hA' hd' hchg th' th
        obtain ⟨fullp, typ, hp, hp3, _, _, _, hpm⟩ := t3.node [] p t3.root
        replace hpm := hpm rfl
        rw [hmv] at hpm
        have hpm' : fullp[0 + 3]? = some (.map (some mb)) := hpm
        have him : IsMap h4 mb (fun k : Int × Int => pfxV k.1 k.2) l ∧ S3.role mb = .map := by
          rcases t3.map with ⟨e, _⟩ | ⟨mb', e, r, i⟩
          · rw [e] at hmv; cases hmv
          · rw [e] at hmv; cases hmv; exact ⟨i, r⟩
        obtain ⟨him, hrole⟩ := him
        have hmbp : mb ≠ p := fun e => by rw [e, t3.rnode _ _ t3.root] at hrole; cases hrole
        have hmb4 : mb ≠ b4 := fun e => hd3 (by show S3.role b4 ≠ .no; rw [← e, hrole]; simp)
        have hget : (getK l ((A : Int), (i : Int))).getD (.int .i64 0) = .int .i64 (countOf ps ((A : Int), (i : Int))) := by
          rw [cn.get]; split
          · rename_i h0; rw [h0]; rfl
          · rfl
        have hcl : countOf ps ((A : Int), (i : Int)) ≤ ps.length := by unfold countOf; exact List.length_filter_le _ _
        have hw : IntKind.i64.wrap (((countOf ps ((A : Int), (i : Int)) : Nat) : Int) + 1) = ((countOf ps ((A : Int), (i : Int)) + 1 : Nat) : Int) := wrap64_nat _ _ (by omega) (by omega)
        have hcn := cn.put ((A, i), m)
        generalize countOf ps ((A : Int), (i : Int)) = c0 at hget hcl hw hcn
        have hag : (Value.agg #[.int .u32 A, .int .i64 (i : Nat)]) = (fun k : Int × Int => pfxV k.1 k.2) ((A : Int), (i : Int)) := rfl
        repeat refine s_seq ?_
        refine s_draw [(0, true), (1, true), (2, true), (3, true), (4, true), (5, true), (6, true), (7, true), (8, true), (9, true)] [] [9] rfl kR kR ?_
        refine d_pv rfl rfl dC rfl rfl (want_none rfl) (p_val evA) ?_
        refine d_rd0 rfl rfl dC rfl rfl (want_none rfl) (fun _ => PureOp.read (p_val evA) _) ?_
        refine d_pv rfl rfl dC rfl rfl (want_none rfl) (p_fieldAddr (k := 3) rfl evA kR) ?_
        refine d_rd [_] rfl rfl dC rfl rfl (want_none rfl) (r_load1 rfl Try.underlying31 rfl evA (restr1 hpA) ceA) ?_
        refine d_rd [_] rfl rfl dC rfl rfl (want_none rfl) (r_loadN (n := 2) rfl Try.underlying37 rfl evA (restr1 hpA) kR szA) ?_
        refine d_rdA (rdMap (fun k : Int × Int => pfxV k.1 k.2) mb ((A : Int), (i : Int)) (.int .i64 0) (.int .i64 c0)) rfl rfl dC rfl rfl (want_none rfl) ⟨l, him, hget⟩ (fun g hg => hg.elim fun l2 i2 => r_lookupV pfx_key rfl Try.underlying31 Try.underlying37 kR evA evA i2.1 i2.2) ?_
        refine d_pv rfl rfl dC rfl rfl (want_none rfl) (p_val evA) ?_
        refine d_qac rfl rfl dC (by decide) rfl (want_none rfl) (s_mapEntryZ (l := l) (k := ((A : Int), (i : Int))) (z := .int .i64 0) pfx_key rfl Try.underlying31 Try.underlying37 kR evA evA him cn.one ?_); intro ob β v hme; refine ⟨?_, ?_⟩; rotate_left
        refine d_pv rfl rfl dC rfl rfl (want_none rfl) (p_val evA) ?_
        refine d_lst rfl rfl dC (by decide) rfl (want_none rfl) (s_entryStore rfl evA evA evA hme (entK_keys _ cn.one _ _) ?_); intro ob2 him2
        refine d_nil ?_
        · rw [set_set, putK_entK] at him2
          rw [set_set]
          obtain ⟨t4, chg4⟩ := t3.setmap hmv him2
          repeat refine s_seq ?_
          refine s_region ?_
          refine w_pv rfl dC (want_none rfl) (p_val evA) ?_
          refine w_nil ?_
          refine s_ret ⟨_, res_one rfl rfl, slA, S3.dom, chg.trans chg4, ⟨⟨S3, _, by simpa using t4, by simpa using hcn, rfl⟩, ?_, by simp; omega⟩⟩
          intro x hx
          simp only [if_true, List.mem_append, List.mem_singleton] at hx
          rcases hx with hx | rfl
          · exact t.ok x hx
          · exact ⟨hA, by show i ≤ 32; have := of_decide_eq_true hok; omega, hcut⟩
        · intro F hF
          simp only [List.mem_cons, List.not_mem_nil, or_false] at hF
          rcases hF with rfl | rfl | rfl | rfl
          · exact fun _ => ⟨_, hme.map, by rw [getK_entK]; exact hget⟩
          · exact rdAt_set (by simpa using hmb4)
          · exact rdAt_set (by simpa using hmbp)
          · exact fun _ => trivial
end Go.Proofs.Ytielfejpnkcjbaa

/- Clone, Look, Len, Get. -/
set_option linter.unusedVariables false
set_option linter.unusedSimpArgs false
namespace Go.Proofs.Ytielfejpnkcjbaa
open Sl
theorem cloneInts_ok {h : Heap} {v : Value} {n : Nat} {cs : List Value} (x : Cells h 1 v n cs) (hn : n ≤ 34359738368) (h1 : ∀ u ∈ cs, u.oneCell' = true) :
    SCalls Try.prog 46 #[v] h (fun r h' => h.le h' ∧ Own h' 3 1 r n cs ∧ ∀ b, blockOf r = some b → h b = none) := by
  refine s_enter Try.func46 rfl (by rw [Try.ntmps46]; simp) ?_
  rw [Try.ntmps46]
  generalize hT : T0 #[v] = T
  have h0 : T 0 = v := by rw [← hT]; rfl
  clear hT
  obtain ⟨a, c, rfl⟩ := x.form
  cases a with
  | none =>
    obtain ⟨rfl, rfl⟩ : n = 0 ∧ cs = [] := by cases x; exact ⟨rfl, rfl⟩
    repeat refine s_seq ?_
    refine s_region ?_
    refine w_pv rfl dC (want_none rfl) (p_val evA) ?_
    refine w_nil ?_
    repeat refine s_seq ?_
    refine s_region ?_
    refine w_pv rfl dC (want_none rfl) (p_val evA) ?_
    refine w_rd rfl dC (want_none rfl) (r_eql rfl evA evA gdA eqA rfl) ?_
    refine w_nil ?_
    repeat refine s_seq ?_
    refine s_cond (t := true) slA ?_
    repeat refine s_seq ?_
    refine s_region ?_
    refine w_pv rfl dC (want_none rfl) (p_val evA) ?_
    refine w_nil ?_
    exact s_ret ⟨_, res_one rfl rfl, Heap.le_refl _, by simp only [pval, ev, upd, binVal, intBin, Option.map_some, ↓reduceIte, reduceCtorEq, Nat.reduceEqDiff, Nat.reduceBEq, List.map_toArray, List.map_cons, List.map_nil, cond_true, cond_false, decide_true, decide_false, Bool.not_true, Bool.not_false, Bool.true_and, Bool.false_and, Bool.and_true, Bool.and_false, beq_self_eq_true, bne_self_eq_false, List.getElem_toArray, List.getElem_cons_succ, List.getElem_cons_zero, *]; exact .nil, fun b e => by simp only [pval, ev, upd, binVal, intBin, Option.map_some, ↓reduceIte, reduceCtorEq, Nat.reduceEqDiff, Nat.reduceBEq, List.map_toArray, List.map_cons, List.map_nil, cond_true, cond_false, decide_true, decide_false, Bool.not_true, Bool.not_false, Bool.true_and, Bool.false_and, Bool.and_true, Bool.and_false, beq_self_eq_true, bne_self_eq_false, List.getElem_toArray, List.getElem_cons_succ, List.getElem_cons_zero, *] at e; cases e⟩
  | some ad =>
    repeat refine s_seq ?_
    refine s_region ?_
    refine w_pv rfl dC (want_none rfl) (p_val evA) ?_
    refine w_nil ?_
    repeat refine s_seq ?_
    refine s_region ?_
    refine w_pv rfl dC (want_none rfl) (p_val evA) ?_
    refine w_rd rfl dC (want_none rfl) (r_eql rfl evA evA gdA eqA rfl) ?_
    refine w_nil ?_
    repeat refine s_seq ?_
    refine s_cond (t := false) slA ?_
    repeat refine s_seq ?_
    refine s_skip ?_
    repeat refine s_seq ?_
    refine s_region ?_
    refine w_al rfl dC (want_none rfl) (a_buildSlice0 rfl Try.underlying28 kR) ?_
    intro b5 hb5
    refine w_pv rfl dC (want_none rfl) (p_val evA) ?_
    have hle5 := Heap.le_set (.cells #[] 3 (0, 0)) hb5; refine w_ac rfl dC (want_none rfl) (s_append (sz := 1) rfl Try.underlying28 Try.underlying28 kR evA evA (.at_ (n := 0) (c := 0) (cs := []) (Heap.set_same _ _ _) rfl (Nat.le_refl _) (by simp) (by simp)) (x.le hle5) h1 (by omega) ?_); intro v' h2 own grew
    refine w_pv rfl dC (want_none rfl) (p_val evA) ?_
    refine w_nil ?_
    have hle : h.le h2 := fun k o e => grew.same k o (hle5 k o e) fun e1 => by
      have : k = b5 := by simpa [blockOf] using e1
      rw [this, hb5] at e; cases e
    refine s_ret ⟨_, res_one rfl rfl, hle, by simp only [pval, ev, upd, binVal, intBin, Option.map_some, ↓reduceIte, reduceCtorEq, Nat.reduceEqDiff, Nat.reduceBEq, List.map_toArray, List.map_cons, List.map_nil, cond_true, cond_false, decide_true, decide_false, Bool.not_true, Bool.not_false, Bool.true_and, Bool.false_and, Bool.and_true, Bool.and_false, beq_self_eq_true, bne_self_eq_false, List.getElem_toArray, List.getElem_cons_succ, List.getElem_cons_zero, *]; simpa using own, fun b e => ?_⟩
    simp only [pval, ev, upd, binVal, intBin, Option.map_some, ↓reduceIte, reduceCtorEq, Nat.reduceEqDiff, Nat.reduceBEq, List.map_toArray, List.map_cons, List.map_nil, cond_true, cond_false, decide_true, decide_false, Bool.not_true, Bool.not_false, Bool.true_and, Bool.false_and, Bool.and_true, Bool.and_false, beq_self_eq_true, bne_self_eq_false, List.getElem_toArray, List.getElem_cons_succ, List.getElem_cons_zero, *] at e
    rcases grew.blk with e1 | ⟨b', e1, e2⟩
    · rw [e] at e1; simp only [blockOf, Option.some.injEq] at e1; rw [e1]; exact hb5
    · rw [e] at e1; cases e1
      cases e3 : h b with
      | none => rfl
      | some o => rw [hle5 b o e3] at e2; cases e2
theorem len_ok {h : Heap} {D : Nat → Prop} {p : Nat} {ps : Puts} (t : TrieAt h D p ps) :
    SCalls Try.prog 17 #[.pointer (some ⟨p, 0, none⟩)] h (fun r h' => h' = h ∧ ∃ l, CntOk ps l ∧ r = .int .i64 (l.length : Nat)) := by
  refine s_enter Try.func17 rfl (by rw [Try.ntmps17]; simp) ?_
  rw [Try.ntmps17]
  generalize hT : T0 #[.pointer (some ⟨p, 0, none⟩)] = T
  have h0 : T 0 = .pointer (some ⟨p, 0, none⟩) := by rw [← hT]; rfl
  clear hT
  obtain ⟨S, l, th, cn, rfl⟩ := t.out
  obtain ⟨full, ty, hp, h3, _, _, _, hm⟩ := th.node [] p th.root
  replace hm := hm rfl
  rcases th.map with ⟨hmv, hl⟩ | ⟨mb, hmv, hrole, him⟩
  · rw [hmv] at hm
    have hm' : full[0 + 3]? = some (.map none) := hm
    repeat refine s_seq ?_
    refine s_region ?_
    refine w_pv rfl dC (want_none rfl) (p_val evA) ?_
    refine w_nil ?_
    repeat refine s_seq ?_
    refine s_region ?_
    refine w_pv rfl dC (want_none rfl) (p_val evA) ?_
    refine w_pv rfl dC (want_none rfl) (p_val evA) ?_
    refine w_pv rfl dC (want_none rfl) (p_fieldAddr (k := 3) rfl evA kR) ?_
    refine w_rd rfl dC (want_none rfl) (r_load1 rfl Try.underlying31 rfl evA hpA ceA) ?_
    refine w_rd rfl dC (want_none rfl) (r_len_map_nil rfl Try.underlying31 evA) ?_
    refine w_pv rfl dC (want_none rfl) (p_val evA) ?_
    refine w_nil ?_
    exact s_ret ⟨_, res_one rfl rfl, rfl, l, cn, by simp only [pval, ev, upd, binVal, intBin, Option.map_some, ↓reduceIte, reduceCtorEq, Nat.reduceEqDiff, Nat.reduceBEq, List.map_toArray, List.map_cons, List.map_nil, cond_true, cond_false, decide_true, decide_false, Bool.not_true, Bool.not_false, Bool.true_and, Bool.false_and, Bool.and_true, Bool.and_false, beq_self_eq_true, bne_self_eq_false, List.getElem_toArray, List.getElem_cons_succ, List.getElem_cons_zero, hl]; rfl⟩
  · rw [hmv] at hm
    have hm' : full[0 + 3]? = some (.map (some mb)) := hm
    obtain ⟨es, cl, hes, hrep, _⟩ := him.out
    have hll := es_len hrep
    repeat refine s_seq ?_
    refine s_region ?_
    refine w_pv rfl dC (want_none rfl) (p_val evA) ?_
    refine w_nil ?_
    repeat refine s_seq ?_
    refine s_region ?_
    refine w_pv rfl dC (want_none rfl) (p_val evA) ?_
    refine w_pv rfl dC (want_none rfl) (p_val evA) ?_
    refine w_pv rfl dC (want_none rfl) (p_fieldAddr (k := 3) rfl evA kR) ?_
    refine w_rd rfl dC (want_none rfl) (r_load1 rfl Try.underlying31 rfl evA hpA ceA) ?_
    refine w_rd rfl dC (want_none rfl) (r_len_map rfl Try.underlying31 evA hes) ?_
    refine w_pv rfl dC (want_none rfl) (p_val evA) ?_
    refine w_nil ?_
    exact s_ret ⟨_, res_one rfl rfl, rfl, l, cn, by simp only [pval, ev, upd, binVal, intBin, Option.map_some, ↓reduceIte, reduceCtorEq, Nat.reduceEqDiff, Nat.reduceBEq, List.map_toArray, List.map_cons, List.map_nil, cond_true, cond_false, decide_true, decide_false, Bool.not_true, Bool.not_false, Bool.true_and, Bool.false_and, Bool.and_true, Bool.and_false, beq_self_eq_true, bne_self_eq_false, List.getElem_toArray, List.getElem_cons_succ, List.getElem_cons_zero]; rw [← hll]; simp⟩
/-- The longest of so many first bits of an address at which something stands. -/
def bestOf (nums : List Bool → List Int) (A : Nat) : Nat → Option Nat
  | 0 => none
  | j + 1 => if nums (path A j) ≠ [] then some j else bestOf nums A j
theorem bestOf_lt {nums : List Bool → List Int} {A : Nat} : ∀ {j i : Nat}, bestOf nums A j = some i → i < j ∧ nums (path A i) ≠ []
  | 0, i, h => by cases h
  | j + 1, i, h => by
    unfold bestOf at h
    split at h
    · cases h; exact ⟨by omega, by assumption⟩
    · have := bestOf_lt h; exact ⟨by omega, this.2⟩
theorem bestOf_over {nums : List Bool → List Int} {A : Nat} : ∀ {j k : Nat}, (∀ i, j ≤ i → i < k → nums (path A i) = []) → j ≤ k → bestOf nums A k = bestOf nums A j
  | j, 0, _, h => by rw [show j = 0 by omega]
  | j, k + 1, he, h => by
    by_cases e : j = k + 1
    · rw [e]
    · have h1 := he k (by omega) (by omega)
      have h2 : bestOf nums A (k + 1) = bestOf nums A k := by simp [bestOf, h1]
      rw [h2]
      exact bestOf_over (fun i a b => he i a (by omega)) (by omega)
theorem TrieH.deep {h : Heap} {S : TrieS} {p : Nat} {nums : List Bool → List Int} {l : Cnt} (t : TrieH h S p nums l) {A j : Nat} (e : S.A (path A j) = none) : ∀ i, j ≤ i → S.A (path A i) = none := by
  intro i hi
  induction i with
  | zero => rw [show j = 0 by omega] at e; exact e
  | succ i ih =>
    by_cases h1 : j = i + 1
    · rw [← h1]; exact e
    · have := ih (by omega)
      cases e2 : S.A (path A (i + 1)) with
      | none => rfl
      | some c => exact absurd this (t.closed _ _ _ e2)
theorem Sl.Heap.le_set_of {h h' : Heap} {b : Nat} (l : h.le h') (hb : h b = none) (o : Obj) : h.le (h'.set b o) := fun k x e => by
  have : k ≠ b := fun e1 => by rw [e1, hb] at e; cases e
  rw [Heap.set_other _ _ this]; exact l k x e
theorem Sl.res_cellN {P : Program} {T : Tm} {h : Heap} {a b n : Nat} {ty : TypeId} {cs : Array Value} {e : TypeId} {fz : Nat × Nat} {d : TypeDesc} (hu : P.underlying ty = some d) (hd : (match d with | .struct _ | .array _ _ => true | _ => false) = true) (hT : T a = .pointer (some ⟨b, 0, none⟩)) (hb : h b = some (.cells cs e fz)) (hn : P.cellsOf ty = n) (hs : cs.size = n) : ResOne P T h (.cell a ty) (.agg cs) := by
  refine ⟨⟨none, .load ty (.tmp 0), 0, "", #[], none⟩, .tmp 0, rfl, ?_, _, hT⟩
  have := r_loadN (P := P) (o := ⟨none, .load ty (.tmp 0), 0, "", #[], none⟩) (ρ := fun _ => T a) (h := h) (n := n) rfl hu hd hT hb hn (by omega)
  have e : cs.extract 0 (0 + n) = cs := by rw [Nat.zero_add, ← hs]; exact Array.extract_size
  rwa [e] at this
def bitsV (o : Option Nat) : Int := match o with | none => -1 | some j => (j : Int)
def rowV (S : TrieS) (A : Nat) (o : Option Nat) : Value := match o with | none => .slice none 0 0 | some j => S.row (path A j)
theorem look_ok {h : Heap} {D : Nat → Prop} {p : Nat} {ps : Puts} (A : Nat) (t : TrieAt h D p ps) (hA : A < 4294967296) :
    SCalls Try.prog 15 #[.pointer (some ⟨p, 0, none⟩), .int .u32 A] h (fun r h' => h.le h' ∧ match bestOf (numsOf ps) A 33 with
      | none => r = .tuple #[pfxV 0 0, .slice none 0 0, .bool false]
      | some i => ∃ v, r = .tuple #[pfxV (cut A i : Nat) (i : Nat), v, .bool true] ∧ Own h' 3 1 v (numsOf ps (path A i)).length ((numsOf ps (path A i)).map (.int .i64)) ∧ ∀ b, blockOf v = some b → h b = none) := by
  refine s_enter Try.func15 rfl (by rw [Try.ntmps15]; simp) ?_
  rw [Try.ntmps15]
  generalize hT : T0 #[.pointer (some ⟨p, 0, none⟩), .int .u32 A] = T
  have h0 : T 0 = .pointer (some ⟨p, 0, none⟩) := by rw [← hT]; rfl
  have h1 : T 1 = .int .u32 A := by rw [← hT]; rfl
  clear hT
  obtain ⟨S, l, th, cn, rfl⟩ := t.out
  have few := t.few
  clear t cn
  repeat refine s_seq ?_
  refine s_region ?_
  refine w_al rfl dC (want_none rfl) (a_allocZ (z := .agg #[.int .u32 0, .int .i64 0]) (zs := #[.int .u32 0, .int .i64 0]) rfl kR rfl) ?_
  intro b4 hb4
  refine w_pv rfl dC (want_none rfl) (p_val evA) ?_
  refine w_pv rfl dC (want_none rfl) (p_val evA) ?_
  refine w_nil ?_
  repeat refine s_seq ?_
  refine s_region ?_
  refine w_pv rfl dC (want_none rfl) (p_val evA) ?_
  refine w_pv rfl dC (want_none rfl) (p_val evA) ?_
  refine w_pv rfl dC (want_none rfl) (p_fieldAddr (k := 0) rfl evA kR) ?_
  refine w_pv rfl dC (want_none rfl) (p_val evA) ?_
  refine w_nil ?_
  repeat refine s_seq ?_
  refine s_region ?_
  refine w_pv rfl dC (want_none rfl) (p_val evA) ?_
  refine w_nil ?_
  repeat refine s_seq ?_
  refine s_region ?_
  refine w_pv rfl dC (want_none rfl) (p_val evA) ?_
  refine w_nil ?_
  repeat refine s_seq ?_
  refine s_region ?_
  refine w_pv rfl dC (want_none rfl) (p_val evA) ?_
  refine w_nil ?_
  have hle := Heap.le_set (.cells #[.int .u32 0, .int .i64 0] 37 (0, 0)) hb4
  have hat : (h.set b4 (.cells #[.int .u32 0, .int .i64 0] 37 (0, 0))) b4 = _ := Heap.set_same _ _ _
  replace th := th.le hle
  have hnew : ∀ b, (h.set b4 (.cells #[.int .u32 0, .int .i64 0] 37 (0, 0))) b = none → h b = none := fun b e => by
    cases e1 : h b with
    | none => rfl
    | some o => rw [hle b o e1] at e; cases e
  change SCode _ _ _ _ _ (h.set b4 (.cells #[.int .u32 0, .int .i64 0] 37 (0, 0)))
  generalize (h.set b4 (.cells #[.int .u32 0, .int .i64 0] 37 (0, 0))) = hx at hle hat th hnew ⊢
  refine s_join (fun T h' => h' = hx ∧ T 1 = .int .u32 A ∧ T 4 = .pointer (some ⟨b4, 0, none⟩) ∧ T 8 = .int .i64 (bitsV (bestOf (numsOf ps) A 33)) ∧ T 9 = rowV S A (bestOf (numsOf ps) A 33)) ?_ ?_
  · refine (s_block (s_loop (fun m T h' => ∃ i : Nat, m = 33 - i ∧ i ≤ 32 ∧ h' = hx ∧ T 1 = .int .u32 A ∧ T 4 = .pointer (some ⟨b4, 0, none⟩) ∧ T 7 = ptrTo (S.A (path A i)) ∧ T 8 = .int .i64 (bitsV (bestOf (numsOf ps) A i)) ∧ T 9 = rowV S A (bestOf (numsOf ps) A i) ∧ T 10 = .int .i64 (i : Nat)) (n0 := 33)
      ⟨0, by omega, by omega, rfl, slA, slA, by simp only [pval, ev, upd, binVal, intBin, Option.map_some, ↓reduceIte, reduceCtorEq, Nat.reduceEqDiff, Nat.reduceBEq, List.map_toArray, List.map_cons, List.map_nil, cond_true, cond_false, decide_true, decide_false, Bool.not_true, Bool.not_false, Bool.true_and, Bool.false_and, Bool.and_true, Bool.and_false, beq_self_eq_true, bne_self_eq_false, List.getElem_toArray, List.getElem_cons_succ, List.getElem_cons_zero, *]; rw [show S.A (path A 0) = some p from th.root]; rfl, by simp only [pval, ev, upd, binVal, intBin, Option.map_some, ↓reduceIte, reduceCtorEq, Nat.reduceEqDiff, Nat.reduceBEq, List.map_toArray, List.map_cons, List.map_nil, cond_true, cond_false, decide_true, decide_false, Bool.not_true, Bool.not_false, Bool.true_and, Bool.false_and, Bool.and_true, Bool.and_false, beq_self_eq_true, bne_self_eq_false, List.getElem_toArray, List.getElem_cons_succ, List.getElem_cons_zero, *] <;> rfl, by simp only [pval, ev, upd, binVal, intBin, Option.map_some, ↓reduceIte, reduceCtorEq, Nat.reduceEqDiff, Nat.reduceBEq, List.map_toArray, List.map_cons, List.map_nil, cond_true, cond_false, decide_true, decide_false, Bool.not_true, Bool.not_false, Bool.true_and, Bool.false_and, Bool.and_true, Bool.and_false, beq_self_eq_true, bne_self_eq_false, List.getElem_toArray, List.getElem_cons_succ, List.getElem_cons_zero, *] <;> rfl, by simp only [pval, ev, upd, binVal, intBin, Option.map_some, ↓reduceIte, reduceCtorEq, Nat.reduceEqDiff, Nat.reduceBEq, List.map_toArray, List.map_cons, List.map_nil, cond_true, cond_false, decide_true, decide_false, Bool.not_true, Bool.not_false, Bool.true_and, Bool.false_and, Bool.and_true, Bool.and_false, beq_self_eq_true, bne_self_eq_false, List.getElem_toArray, List.getElem_cons_succ, List.getElem_cons_zero, *] <;> rfl⟩ ?_))
    clear h0 h1 T
    rintro m T h' ⟨i, rfl, hi, rfl, h1, h4, h7, h8, h9, h10⟩
    cases hA' : S.A (path A i) with
    | none =>
      rw [hA'] at h7
      replace h7 : T 7 = .pointer none := h7
      have hbest := bestOf_over (nums := numsOf ps) (A := A) (j := i) (k := 33) (fun k hk _ => th.none_ _ (th.deep hA' k hk)) (by omega)
      repeat refine s_seq ?_
      refine s_region ?_
      refine w_pv rfl dC (want_none rfl) (p_val evA) ?_
      refine w_rd rfl dC (want_none rfl) (r_neq rfl evA evA gdA eqA rfl) ?_
      refine w_nil ?_
      repeat refine s_seq ?_
      refine s_cond (t := false) slA ?_
      repeat refine s_seq ?_
      refine s_exit ?_
      refine ⟨rfl, slA, slA, by rw [hbest]; simp only [pval, ev, upd, binVal, intBin, Option.map_some, ↓reduceIte, reduceCtorEq, Nat.reduceEqDiff, Nat.reduceBEq, List.map_toArray, List.map_cons, List.map_nil, cond_true, cond_false, decide_true, decide_false, Bool.not_true, Bool.not_false, Bool.true_and, Bool.false_and, Bool.and_true, Bool.and_false, beq_self_eq_true, bne_self_eq_false, List.getElem_toArray, List.getElem_cons_succ, List.getElem_cons_zero, *], by rw [hbest]; simp only [pval, ev, upd, binVal, intBin, Option.map_some, ↓reduceIte, reduceCtorEq, Nat.reduceEqDiff, Nat.reduceBEq, List.map_toArray, List.map_cons, List.map_nil, cond_true, cond_false, decide_true, decide_false, Bool.not_true, Bool.not_false, Bool.true_and, Bool.false_and, Bool.and_true, Bool.and_false, beq_self_eq_true, bne_self_eq_false, List.getElem_toArray, List.getElem_cons_succ, List.getElem_cons_zero, *]⟩
    | some b =>
      rw [hA'] at h7
      replace h7 : T 7 = .pointer (some ⟨b, 0, none⟩) := h7
      obtain ⟨full, ty, hb, h3, hf0, hf1, hf2, hf3⟩ := th.node _ _ hA'
      have hrow := th.rown _ _ hA'
      obtain ⟨ra, rc, hrv⟩ := hrow.cells.form
      have hf2' : full[0 + 2]? = some (.slice ra (numsOf ps (path A i)).length rc) := by rw [← hrv]; exact hf2
      have hstep : ∃ v8 v9, v8 = Value.int .i64 (bitsV (bestOf (numsOf ps) A (i + 1))) ∧ v9 = rowV S A (bestOf (numsOf ps) A (i + 1)) := ⟨_, _, rfl, rfl⟩
      repeat refine s_seq ?_
      refine s_region ?_
      refine w_pv rfl dC (want_none rfl) (p_val evA) ?_
      refine w_rd rfl dC (want_none rfl) (r_neq rfl evA evA gdA eqA rfl) ?_
      refine w_nil ?_
      repeat refine s_seq ?_
      refine s_cond (t := true) slA ?_
      repeat refine s_seq ?_
      refine s_skip ?_
      repeat refine s_seq ?_
      refine s_block ?_
      refine s_seq ?_
      refine s_join (fun T h2 => h2 = h' ∧ T 1 = .int .u32 A ∧ T 4 = .pointer (some ⟨b4, 0, none⟩) ∧ T 7 = .pointer (some ⟨b, 0, none⟩) ∧ T 8 = .int .i64 (bitsV (bestOf (numsOf ps) A (i + 1))) ∧ T 9 = rowV S A (bestOf (numsOf ps) A (i + 1)) ∧ T 10 = .int .i64 (i : Nat)) ?_ ?_
      · by_cases hne : numsOf ps (path A i) = []
        · have hbest : bestOf (numsOf ps) A (i + 1) = bestOf (numsOf ps) A i := by simp [bestOf, hne]
          rw [hbest]
          have hgt : decide ((((numsOf ps (path A i)).length : Nat) : Int) > 0) = false := by simp [hne]
          clear hne
          repeat refine s_seq ?_
          refine s_region ?_
          refine w_pv rfl dC (want_none rfl) (p_val evA) ?_
          refine w_pv rfl dC (want_none rfl) (p_val evA) ?_
          refine w_pv rfl dC (want_none rfl) (p_fieldAddr (k := 2) rfl evA kR) ?_
          refine w_rd rfl dC (want_none rfl) (r_load1 rfl Try.underlying28 rfl evA hpA ceA) ?_
          refine w_rd rfl dC (want_none rfl) (r_len_slice rfl Try.underlying28 evA) ?_
          refine w_pv rfl dC (want_none rfl) (p_val evA) ?_
          refine w_nil ?_
          repeat refine s_seq ?_
          refine s_cond (t := false) slA ?_
          repeat refine s_seq ?_
          refine s_skip ?_
          exact ⟨rfl, slA, slA, slA, slA, slA, slA⟩
        · have hbest : bestOf (numsOf ps) A (i + 1) = some i := by simp [bestOf, hne]
          rw [hbest]
          have hgt : decide ((((numsOf ps (path A i)).length : Nat) : Int) > 0) = true := by
            have := List.length_pos_iff.2 hne
            simp; omega
          clear hne
          repeat refine s_seq ?_
          refine s_region ?_
          refine w_pv rfl dC (want_none rfl) (p_val evA) ?_
          refine w_pv rfl dC (want_none rfl) (p_val evA) ?_
          refine w_pv rfl dC (want_none rfl) (p_fieldAddr (k := 2) rfl evA kR) ?_
          refine w_rd rfl dC (want_none rfl) (r_load1 rfl Try.underlying28 rfl evA hpA ceA) ?_
          refine w_rd rfl dC (want_none rfl) (r_len_slice rfl Try.underlying28 evA) ?_
          refine w_pv rfl dC (want_none rfl) (p_val evA) ?_
          refine w_nil ?_
          repeat refine s_seq ?_
          refine s_cond (t := true) slA ?_
          repeat refine s_seq ?_
          refine s_draw [(0, true), (1, true), (2, true), (3, true), (4, true), (5, true), (6, true)] [] [] rfl kR kR ?_
          refine d_pv rfl rfl dC rfl rfl (want_none rfl) (p_val evA) ?_
          refine d_pv rfl rfl dC rfl rfl (want_none rfl) (p_val evA) ?_
          refine d_rd0 rfl rfl dC rfl rfl (want_none rfl) (fun _ => PureOp.read (p_val evA) _) ?_
          refine d_pv rfl rfl dC rfl rfl (want_none rfl) (p_fieldAddr (k := 2) rfl evA kR) ?_
          refine d_rd [_] rfl rfl dC rfl rfl (want_none rfl) (r_load1 rfl Try.underlying28 rfl evA (restr1 hpA) ceA) ?_
          refine d_pv rfl rfl dC rfl rfl (want_none rfl) (p_val evA) ?_
          refine d_pv rfl rfl dC rfl rfl (want_none rfl) (p_val evA) ?_
          refine d_nil ?_
          exact ⟨rfl, slA, slA, slA, by simp only [pval, ev, upd, binVal, intBin, Option.map_some, ↓reduceIte, reduceCtorEq, Nat.reduceEqDiff, Nat.reduceBEq, List.map_toArray, List.map_cons, List.map_nil, cond_true, cond_false, decide_true, decide_false, Bool.not_true, Bool.not_false, Bool.true_and, Bool.false_and, Bool.and_true, Bool.and_false, beq_self_eq_true, bne_self_eq_false, List.getElem_toArray, List.getElem_cons_succ, List.getElem_cons_zero, *, bitsV], by simp only [pval, ev, upd, binVal, intBin, Option.map_some, ↓reduceIte, reduceCtorEq, Nat.reduceEqDiff, Nat.reduceBEq, List.map_toArray, List.map_cons, List.map_nil, cond_true, cond_false, decide_true, decide_false, Bool.not_true, Bool.not_false, Bool.true_and, Bool.false_and, Bool.and_true, Bool.and_false, beq_self_eq_true, bne_self_eq_false, List.getElem_toArray, List.getElem_cons_succ, List.getElem_cons_zero, *, rowV], slA⟩
      · clear h1 h4 h7 h8 h9 h10 T hstep hf2' hrv hrow
        rintro T h2 ⟨rfl, h1, h4, h7, h8, h9, h10⟩
        by_cases h32 : i = 32
        · subst h32
          have e1 : (((32 : Nat) : Int) == 32) = true := by decide
          repeat refine s_seq ?_
          refine s_region ?_
          refine w_pv rfl dC (want_none rfl) (p_val evA) ?_
          refine w_pv rfl dC (want_none rfl) (p_val evA) ?_
          refine w_nil ?_
          repeat refine s_seq ?_
          refine s_cond (t := true) slA ?_
          repeat refine s_seq ?_
          refine s_exit ?_
          exact ⟨rfl, slA, slA, slA, slA⟩
        · have e1 : (((i : Nat) : Int) == 32) = false := by simpa using fun e => h32 (by omega)
          have hw3 : IntKind.i64.wrap ((i : Int) + 1) = ((i + 1 : Nat) : Int) := wrap64_nat _ _ (by omega) (by omega)
          obtain ⟨xi, hxi⟩ : ∃ xi : Nat, xi = (if bitI A i then 1 else 0 : Nat) := ⟨_, rfl⟩
          have hxi' : (if bitI A i then 1 else 0 : Int) = ((xi : Nat) : Int) := by rw [hxi]; split <;> rfl
          have hxt : Int.toNat (xi : Int) = xi := by omega
          have hx2 : (xi : Int) < ((2 : Nat) : Int) := by rw [hxi]; split <;> decide
          have hx0 : (0 : Int) ≤ (xi : Int) := by omega
          have hpn : path A i ++ [bitI A i] = path A (i + 1) := rfl
          have hfx : full[xi]? = some (ptrTo (S.A (path A (i + 1)))) := by
            rw [← hpn, hxi]
            cases hbit : bitI A i with
            | false => exact hf0
            | true => exact hf1
          have hfx' : full[0 + 0 + xi * 1]? = some (ptrTo (S.A (path A (i + 1)))) := by simpa using hfx
          have hi31 : i ≤ 31 := by omega
          clear hxi hfx h32
          repeat refine s_seq ?_
          refine s_region ?_
          refine w_pv rfl dC (want_none rfl) (p_val evA) ?_
          refine w_pv rfl dC (want_none rfl) (p_val evA) ?_
          refine w_nil ?_
          repeat refine s_seq ?_
          refine s_cond (t := false) slA ?_
          repeat refine s_seq ?_
          refine s_skip ?_
          repeat refine s_seq ?_
          refine s_draw [(0, true), (1, true), (2, true), (4, true), (5, true), (3, true), (6, true), (7, true), (8, true)] [] [] rfl kR kR ?_
          refine d_pv rfl rfl dC rfl rfl (want_none rfl) (p_val evA) ?_
          refine d_pv rfl rfl dC rfl rfl (want_none rfl) (p_val evA) ?_
          refine d_pv rfl rfl dC rfl rfl (want_none rfl) (p_val evA) ?_
          refine d_rd0 rfl rfl dC rfl rfl (want_none rfl) (fun _ => PureOp.read (p_val evA) _) ?_
          refine d_pv rfl rfl dC rfl rfl (want_none rfl) (p_fieldAddr (k := 0) rfl evA kR) ?_
          refine d_qac rfl rfl dC (by decide) rfl (want_none rfl) (s_call rfl rfl Try.func44 kR kR evA ?_); refine (bit_ok A i hA (by omega) _).mono ?_; rintro _ h2 ⟨rfl, rfl⟩; refine ⟨(fun _ _ h => h), ?_⟩; rw [hxi']
          refine d_pv rfl rfl dC rfl rfl (want_none rfl) (p_indexAddrA (sz := 1) rfl Try.underlying27 kR kR evA evA hx0 hx2) ?_
          refine d_rd [_] rfl rfl dC rfl rfl (want_none rfl) (r_load1 rfl Try.underlying26 rfl evA (restr1 hpA) ceA) ?_
          refine d_pv rfl rfl dC rfl rfl (want_none rfl) (p_val evA) ?_
          refine d_nil ?_
          repeat refine s_seq ?_
          refine s_region ?_
          refine w_pv rfl dC (want_none rfl) (p_val evA) ?_
          refine w_pv rfl dC (want_none rfl) (p_val evA) ?_
          refine w_pv rfl dC (want_none rfl) (p_val evA) ?_
          refine w_nil ?_
          exact ⟨33 - (i + 1), by omega, i + 1, rfl, by omega, rfl, slA, slA, slA, slA, slA, slA⟩
  · clear h0 h1 T
    rintro T h' ⟨rfl, h1, h4, h8, h9⟩
    cases hbest : bestOf (numsOf ps) A 33 with
    | none =>
      rw [hbest] at h8 h9
      replace h8 : T 8 = .int .i64 (-1) := h8
      have e0 : decide ((-1 : Int) < 0) = true := by decide
      repeat refine s_seq ?_
      refine s_region ?_
      refine w_pv rfl dC (want_none rfl) (p_val evA) ?_
      refine w_pv rfl dC (want_none rfl) (p_val evA) ?_
      refine w_nil ?_
      repeat refine s_seq ?_
      refine s_cond (t := true) slA ?_
      repeat refine s_seq ?_
      refine s_region ?_
      refine w_pv rfl dC (want_none rfl) (p_buildL (places := [(0, 1), (1, 1)]) (z := [.int .u32 0, .int .i64 0]) (cells := [.int .u32 0, .int .i64 0]) rfl evA kR kR (by rfl)) ?_
      refine w_st rfl (want_none rfl) (s_storeN (n := 2) rfl evA evA ocA kR szA kR hpA szA ?_)
      refine w_pv rfl dC (want_none rfl) (p_val evA) ?_
      refine w_pv rfl dC (want_none rfl) (p_val evA) ?_
      refine w_nil ?_
      refine s_ret ⟨_, res_many (rs := [.cell 4 37, .tmp 5, .tmp 6]) rfl (by simp) (.cons (res_cellN Try.underlying37 rfl slA (Heap.set_same _ _ _) kR rfl) (.cons rfl (.cons rfl .nil))), Heap.le_set_of hle hb4 _, rfl⟩
    | some j =>
      rw [hbest] at h8 h9
      replace h8 : T 8 = .int .i64 (j : Nat) := h8
      replace h9 : T 9 = S.row (path A j) := h9
      obtain ⟨hj, hjn⟩ := bestOf_lt hbest
      have hj32 : j ≤ 32 := by omega
      have e0 : decide (((j : Nat) : Int) < 0) = false := decide_eq_false (by omega)
      have hand : IntKind.u32.wrap ((BitVec.ofInt IntKind.u32.bits (A : Int) &&& BitVec.ofInt IntKind.u32.bits (maskN (clip ((j : Nat) : Int)))).toNat : Int) = ((cut A j : Nat) : Int) := by
        rw [clip_of j hj32, maskN_nat j hj32, bv_and A _ hA (maskNat_lt j)]; rfl
      have hrow : ∃ b, S.A (path A j) = some b := by
        cases e : S.A (path A j) with
        | none => exact absurd (th.none_ _ e) hjn
        | some b => exact ⟨b, rfl⟩
      obtain ⟨bj, hbj⟩ := hrow
      have hown := th.rown _ _ hbj
      have hlen := numsOf_len ps (path A j)
      repeat refine s_seq ?_
      refine s_region ?_
      refine w_pv rfl dC (want_none rfl) (p_val evA) ?_
      refine w_pv rfl dC (want_none rfl) (p_val evA) ?_
      refine w_nil ?_
      repeat refine s_seq ?_
      refine s_cond (t := false) slA ?_
      repeat refine s_seq ?_
      refine s_skip ?_
      repeat refine s_seq ?_
      refine s_region ?_
      refine w_pv rfl dC (want_none rfl) (p_val evA) ?_
      refine w_pv rfl dC (want_none rfl) (p_val evA) ?_
      refine w_ac rfl dC (want_none rfl) (s_call rfl rfl Try.func45 kR kR evA ?_); refine (mask_ok _ _).mono ?_; rintro _ h' ⟨rfl, rfl⟩
      refine w_pv rfl dC (want_none rfl) (p_val evA) ?_
      refine w_pv rfl dC (want_none rfl) (p_val evA) ?_
      refine w_pv rfl dC (want_none rfl) (p_buildL (places := [(0, 1), (1, 1)]) (z := [.int .u32 0, .int .i64 0]) (cells := [_, _]) rfl evA kR kR (by rfl)) ?_
      refine w_pv rfl dC (want_none rfl) (p_val evA) ?_
      refine w_ac rfl dC (want_none rfl) (s_call rfl rfl Try.func46 kR kR evA ?_); refine (cloneInts_ok hown.cells (by omega) (by simp [Value.oneCell'])).mono ?_; rintro vr h2 ⟨hle2, hown2, hnew2⟩; have hat2 := hle2 _ _ hat
      refine w_st rfl (want_none rfl) (s_storeN (n := 2) rfl evA evA ocA kR szA kR hpA szA ?_)
      refine w_pv rfl dC (want_none rfl) (p_val evA) ?_
      refine w_pv rfl dC (want_none rfl) (p_val evA) ?_
      refine w_nil ?_
      have hne4 : ∀ b, blockOf vr = some b → b ≠ b4 := fun b e e1 => by
        have := hnew2 b e
        rw [e1, hat] at this; cases this
      refine s_ret ⟨_, res_many (rs := [.cell 4 37, .tmp 5, .tmp 6]) rfl (by simp) (.cons (res_cellN Try.underlying37 rfl slA (Heap.set_same _ _ _) kR rfl) (.cons rfl (.cons rfl .nil))), Heap.le_set_of (Heap.le_trans hle hle2) hb4 _, vr, rfl, hown2.only fun r o hr ho => by rw [Heap.set_other _ _ (hne4 r hr)]; exact ho, fun b e => hnew b (hnew2 b e)⟩
end Go.Proofs.Ytielfejpnkcjbaa

/- Lists of addresses, keys and messages: held against each other, copied. -/
set_option linter.unusedVariables false
set_option linter.unusedSimpArgs false
namespace Go.Proofs.Ytielfejpnkcjbaa
open Sl
theorem cloneAddrs_ok {h : Heap} {v : Value} {n : Nat} {cs : List Value} (x : Cells h 1 v n cs) (hn : n ≤ 34359738368) (h1 : ∀ u ∈ cs, u.oneCell' = true) :
    SCalls Try.prog 60 #[v] h (fun r h' => h.le h' ∧ Own h' 23 1 r n cs ∧ ∀ b, blockOf r = some b → h b = none) := by
  refine s_enter Try.func60 rfl (by rw [Try.ntmps60]; simp) ?_
  rw [Try.ntmps60]
  generalize hT : T0 #[v] = T
  have h0 : T 0 = v := by rw [← hT]; rfl
  clear hT
  obtain ⟨a, c, rfl⟩ := x.form
  cases a with
  | none =>
    obtain ⟨rfl, rfl⟩ : n = 0 ∧ cs = [] := by cases x; exact ⟨rfl, rfl⟩
    repeat refine s_seq ?_
    refine s_region ?_
    refine w_pv rfl dC (want_none rfl) (p_val evA) ?_
    refine w_nil ?_
    repeat refine s_seq ?_
    refine s_region ?_
    refine w_pv rfl dC (want_none rfl) (p_val evA) ?_
    refine w_rd rfl dC (want_none rfl) (r_eql rfl evA evA gdA eqA rfl) ?_
    refine w_nil ?_
    repeat refine s_seq ?_
    refine s_cond (t := true) slA ?_
    repeat refine s_seq ?_
    refine s_region ?_
    refine w_pv rfl dC (want_none rfl) (p_val evA) ?_
    refine w_nil ?_
    exact s_ret ⟨_, res_one rfl rfl, Heap.le_refl _, by simp only [pval, ev, upd, binVal, intBin, Option.map_some, ↓reduceIte, reduceCtorEq, Nat.reduceEqDiff, Nat.reduceBEq, List.map_toArray, List.map_cons, List.map_nil, cond_true, cond_false, decide_true, decide_false, Bool.not_true, Bool.not_false, Bool.true_and, Bool.false_and, Bool.and_true, Bool.and_false, beq_self_eq_true, bne_self_eq_false, List.getElem_toArray, List.getElem_cons_succ, List.getElem_cons_zero, *]; exact .nil, fun b e => by simp only [pval, ev, upd, binVal, intBin, Option.map_some, ↓reduceIte, reduceCtorEq, Nat.reduceEqDiff, Nat.reduceBEq, List.map_toArray, List.map_cons, List.map_nil, cond_true, cond_false, decide_true, decide_false, Bool.not_true, Bool.not_false, Bool.true_and, Bool.false_and, Bool.and_true, Bool.and_false, beq_self_eq_true, bne_self_eq_false, List.getElem_toArray, List.getElem_cons_succ, List.getElem_cons_zero, *] at e; cases e⟩
  | some ad =>
    repeat refine s_seq ?_
    refine s_region ?_
    refine w_pv rfl dC (want_none rfl) (p_val evA) ?_
    refine w_nil ?_
    repeat refine s_seq ?_
    refine s_region ?_
    refine w_pv rfl dC (want_none rfl) (p_val evA) ?_
    refine w_rd rfl dC (want_none rfl) (r_eql rfl evA evA gdA eqA rfl) ?_
    refine w_nil ?_
    repeat refine s_seq ?_
    refine s_cond (t := false) slA ?_
    repeat refine s_seq ?_
    refine s_skip ?_
    repeat refine s_seq ?_
    refine s_region ?_
    refine w_al rfl dC (want_none rfl) (a_buildSlice0 rfl Try.underlying53 kR) ?_
    intro b5 hb5
    refine w_pv rfl dC (want_none rfl) (p_val evA) ?_
    have hle5 := Heap.le_set (.cells #[] 23 (0, 0)) hb5; refine w_ac rfl dC (want_none rfl) (s_append (sz := 1) rfl Try.underlying53 Try.underlying53 kR evA evA (.at_ (n := 0) (c := 0) (cs := []) (Heap.set_same _ _ _) rfl (Nat.le_refl _) (by simp) (by simp)) (x.le hle5) h1 (by omega) ?_); intro v' h2 own grew
    refine w_pv rfl dC (want_none rfl) (p_val evA) ?_
    refine w_nil ?_
    have hle : h.le h2 := fun k o e => grew.same k o (hle5 k o e) fun e1 => by
      have : k = b5 := by simpa [blockOf] using e1
      rw [this, hb5] at e; cases e
    refine s_ret ⟨_, res_one rfl rfl, hle, by simp only [pval, ev, upd, binVal, intBin, Option.map_some, ↓reduceIte, reduceCtorEq, Nat.reduceEqDiff, Nat.reduceBEq, List.map_toArray, List.map_cons, List.map_nil, cond_true, cond_false, decide_true, decide_false, Bool.not_true, Bool.not_false, Bool.true_and, Bool.false_and, Bool.and_true, Bool.and_false, beq_self_eq_true, bne_self_eq_false, List.getElem_toArray, List.getElem_cons_succ, List.getElem_cons_zero, *]; simpa using own, fun b e => ?_⟩
    simp only [pval, ev, upd, binVal, intBin, Option.map_some, ↓reduceIte, reduceCtorEq, Nat.reduceEqDiff, Nat.reduceBEq, List.map_toArray, List.map_cons, List.map_nil, cond_true, cond_false, decide_true, decide_false, Bool.not_true, Bool.not_false, Bool.true_and, Bool.false_and, Bool.and_true, Bool.and_false, beq_self_eq_true, bne_self_eq_false, List.getElem_toArray, List.getElem_cons_succ, List.getElem_cons_zero, *] at e
    rcases grew.blk with e1 | ⟨b', e1, e2⟩
    · rw [e] at e1; simp only [blockOf, Option.some.injEq] at e1; rw [e1]; exact hb5
    · rw [e] at e1; cases e1
      cases e3 : h b with
      | none => rfl
      | some o => rw [hle5 b o e3] at e2; cases e2
theorem sameAddrs_ok (u v : Value) (xs ys : List Int) (h : Heap) (hu : Cells h 1 u xs.length (xs.map (.int .u32))) (hv : Cells h 1 v ys.length (ys.map (.int .u32))) (hx : xs.length ≤ 4611686018427387904) (hy : ys.length ≤ 4611686018427387904) :
    SCalls Try.prog 48 #[u, v] h (fun r h' => h' = h ∧ r = .bool (decide (xs = ys))) := by
  refine s_enter Try.func48 rfl (by rw [Try.ntmps48]; simp) ?_
  rw [Try.ntmps48]
  obtain ⟨a1, c1, rfl⟩ := hu.form
  obtain ⟨a2, c2, rfl⟩ := hv.form
  generalize hT : T0 #[.slice a1 xs.length c1, .slice a2 ys.length c2] = T
  have h0 : T 0 = .slice a1 xs.length c1 := by rw [← hT]; rfl
  have h1 : T 1 = .slice a2 ys.length c2 := by rw [← hT]; rfl
  clear hT
  repeat refine s_seq ?_
  refine s_region ?_
  refine w_pv rfl dC (want_none rfl) (p_val evA) ?_
  refine w_nil ?_
  repeat refine s_seq ?_
  refine s_region ?_
  refine w_pv rfl dC (want_none rfl) (p_val evA) ?_
  refine w_rd rfl dC (want_none rfl) (r_len_slice rfl Try.underlying53 evA) ?_
  refine w_pv rfl dC (want_none rfl) (p_val evA) ?_
  refine w_rd rfl dC (want_none rfl) (r_len_slice rfl Try.underlying53 evA) ?_
  refine w_pv rfl dC (want_none rfl) (p_val evA) ?_
  refine w_nil ?_
  by_cases hl : ys.length = xs.length
  · have hl' : ((xs.length : Int) != (ys.length : Int)) = false := by simp [hl]
    refine s_cond (t := false) (by simp only [pval, ev, upd, binVal, intBin, Option.map_some, ↓reduceIte, reduceCtorEq, Nat.reduceEqDiff, Nat.reduceBEq, List.map_toArray, List.map_cons, List.map_nil, cond_true, cond_false, decide_true, decide_false, Bool.not_true, Bool.not_false, Bool.true_and, Bool.false_and, Bool.and_true, Bool.and_false, beq_self_eq_true, bne_self_eq_false, List.getElem_toArray, List.getElem_cons_succ, List.getElem_cons_zero, hl']) (s_skip ?_)
    repeat refine s_seq ?_
    refine s_region ?_
    refine w_pv rfl dC (want_none rfl) (p_val evA) ?_
    refine w_nil ?_
    repeat refine s_seq ?_
    refine (s_block (s_loop (fun m T h' => ∃ i : Nat, m = xs.length - i ∧ i ≤ xs.length ∧ (∀ j, j < i → xs[j]? = ys[j]?) ∧ h' = h ∧ T 0 = .slice a1 xs.length c1 ∧ T 1 = .slice a2 ys.length c2 ∧ T 5 = .int .i64 i) (n0 := xs.length) ⟨0, rfl, Nat.zero_le _, by omega, rfl, slA, slA, by simp only [pval, ev, upd, binVal, intBin, Option.map_some, ↓reduceIte, reduceCtorEq, Nat.reduceEqDiff, Nat.reduceBEq, List.map_toArray, List.map_cons, List.map_nil, cond_true, cond_false, decide_true, decide_false, Bool.not_true, Bool.not_false, Bool.true_and, Bool.false_and, Bool.and_true, Bool.and_false, beq_self_eq_true, bne_self_eq_false, List.getElem_toArray, List.getElem_cons_succ, List.getElem_cons_zero, *] <;> rfl⟩ ?_))
    clear h0 h1 T
    rintro m T h' ⟨i, rfl, hi, hsame, rfl, h0, h1, h5⟩
    by_cases hlt : i < xs.length
    · have e1 : decide ((i : Int) < (xs.length : Int)) = true := decide_eq_true (by omega)
      have hw3 : IntKind.i64.wrap ((i : Int) + 1) = ((i + 1 : Nat) : Int) := wrap64_nat _ _ (by omega) (by omega)
      obtain ⟨b1, o1, k1, f1, t1, z1, q1, hb1, hg1⟩ := hu.get hlt
      obtain ⟨b2, o2, k2, f2, t2, z2, q2, hb2, hg2⟩ := hv.get (i := i) (by omega)
      cases q1
      cases q2
      obtain ⟨x, hxi⟩ : ∃ x, xs[i]? = some x := ⟨_, List.getElem?_eq_getElem hlt⟩
      obtain ⟨y, hyi⟩ : ∃ y, ys[i]? = some y := ⟨_, List.getElem?_eq_getElem (by omega)⟩
      have g1 : f1[o1 + i * 1]? = some (.int .u32 x) := by have := hg1 0 (by omega); simpa [hxi] using this
      have g2 : f2[o2 + i * 1]? = some (.int .u32 y) := by have := hg2 0 (by omega); simpa [hyi] using this
      clear hg1 hg2
      have hii : (0 : Int) ≤ (i : Int) := by omega
      have hi1 : (i : Int) < (xs.length : Int) := by omega
      have hi2 : (i : Int) < (ys.length : Int) := by omega
      clear hl'
      repeat refine s_seq ?_
      refine s_region ?_
      refine w_pv rfl dC (want_none rfl) (p_val evA) ?_
      refine w_pv rfl dC (want_none rfl) (p_val evA) ?_
      refine w_rd rfl dC (want_none rfl) (r_len_slice rfl Try.underlying53 evA) ?_
      refine w_pv rfl dC (want_none rfl) (p_val evA) ?_
      refine w_nil ?_
      refine (s_cond (t := true) slA (s_skip ?_))
      repeat refine s_seq ?_
      refine s_block ?_
      repeat refine s_seq ?_
      refine s_draw [(0, true), (1, true), (2, true), (3, true), (4, true), (5, true), (6, true), (7, true), (8, true), (9, true)] [] [] rfl kR kR ?_
      refine d_pv rfl rfl dC rfl rfl (want_none rfl) (p_val evA) ?_
      refine d_pv rfl rfl dC rfl rfl (want_none rfl) (p_val evA) ?_
      refine d_pv rfl rfl dC rfl rfl (want_none rfl) (p_indexAddr (sz := 1) rfl Try.underlying53 kR kR evA evA hii hi1) ?_
      refine d_rd [_] rfl rfl dC rfl rfl (want_none rfl) (r_load1 rfl Try.underlying23 rfl evA (restr1 hpA) ceA) ?_
      refine d_pv rfl rfl dC rfl rfl (want_none rfl) (p_val evA) ?_
      refine d_pv rfl rfl dC rfl rfl (want_none rfl) (p_val evA) ?_
      refine d_pv rfl rfl dC rfl rfl (want_none rfl) (p_indexAddr (sz := 1) rfl Try.underlying53 kR kR evA evA hii hi2) ?_
      refine d_rd [_] rfl rfl dC rfl rfl (want_none rfl) (r_load1 rfl Try.underlying23 rfl evA (restr1 hpA) ceA) ?_
      refine d_pv rfl rfl dC rfl rfl (want_none rfl) (p_val evA) ?_
      refine d_pv rfl rfl dC rfl rfl (want_none rfl) (p_val evA) ?_
      refine d_nil ?_
      repeat refine s_seq ?_
      refine s_region ?_
      refine w_pv rfl dC (want_none rfl) (p_val evA) ?_
      refine w_pv rfl dC (want_none rfl) (p_val evA) ?_
      refine w_nil ?_
      by_cases hxy : x = y
      · have hne : (x == y) = true := by simp [hxy]
        refine s_cond (t := false) slA (s_skip ?_)
        refine s_region ?_
        refine w_pv rfl dC (want_none rfl) (p_val evA) ?_
        refine w_pv rfl dC (want_none rfl) (p_val evA) ?_
        refine w_pv rfl dC (want_none rfl) (p_val evA) ?_
        refine w_nil ?_
        refine ⟨xs.length - (i + 1), by omega, i + 1, rfl, by omega, ?_, rfl, slA, slA, slA⟩
        intro j hj
        by_cases hji : j = i
        · rw [hji, hxi, hyi, hxy]
        · exact hsame j (by omega)
      · have hne : (x == y) = false := by simp [hxy]
        refine s_cond (t := true) slA ?_
        repeat refine s_seq ?_
        refine s_region ?_
        refine w_pv rfl dC (want_none rfl) (p_val evA) ?_
        refine w_nil ?_
        refine s_ret ⟨_, res_one rfl rfl, rfl, ?_⟩
        have : ¬ xs = ys := by rintro rfl; rw [hxi] at hyi; exact hxy (Option.some.inj hyi)
        simp only [pval, ev, upd, binVal, intBin, Option.map_some, ↓reduceIte, reduceCtorEq, Nat.reduceEqDiff, Nat.reduceBEq, List.map_toArray, List.map_cons, List.map_nil, cond_true, cond_false, decide_true, decide_false, Bool.not_true, Bool.not_false, Bool.true_and, Bool.false_and, Bool.and_true, Bool.and_false, beq_self_eq_true, bne_self_eq_false, List.getElem_toArray, List.getElem_cons_succ, List.getElem_cons_zero, *]
    · have e1 : decide ((i : Int) < (xs.length : Int)) = false := decide_eq_false (by omega)
      clear hl'
      repeat refine s_seq ?_
      refine s_region ?_
      refine w_pv rfl dC (want_none rfl) (p_val evA) ?_
      refine w_pv rfl dC (want_none rfl) (p_val evA) ?_
      refine w_rd rfl dC (want_none rfl) (r_len_slice rfl Try.underlying53 evA) ?_
      refine w_pv rfl dC (want_none rfl) (p_val evA) ?_
      refine w_nil ?_
      refine (s_cond (t := false) slA (s_exit ?_))
      repeat refine s_seq ?_
      refine s_region ?_
      refine w_pv rfl dC (want_none rfl) (p_val evA) ?_
      refine w_nil ?_
      refine s_ret ⟨_, res_one rfl rfl, rfl, ?_⟩
      have : xs = ys := by
        apply List.ext_getElem?
        intro j
        by_cases hj : j < i
        · exact hsame j hj
        · rw [List.getElem?_eq_none (by omega), List.getElem?_eq_none (by omega)]
      subst this
      simp only [pval, ev, upd, binVal, intBin, Option.map_some, ↓reduceIte, reduceCtorEq, Nat.reduceEqDiff, Nat.reduceBEq, List.map_toArray, List.map_cons, List.map_nil, cond_true, cond_false, decide_true, decide_false, Bool.not_true, Bool.not_false, Bool.true_and, Bool.false_and, Bool.and_true, Bool.and_false, beq_self_eq_true, bne_self_eq_false, List.getElem_toArray, List.getElem_cons_succ, List.getElem_cons_zero, *]
  · have hl' : ((xs.length : Int) != (ys.length : Int)) = true := by simpa using fun e => hl (by omega)
    refine s_cond (t := true) (by simp only [pval, ev, upd, binVal, intBin, Option.map_some, ↓reduceIte, reduceCtorEq, Nat.reduceEqDiff, Nat.reduceBEq, List.map_toArray, List.map_cons, List.map_nil, cond_true, cond_false, decide_true, decide_false, Bool.not_true, Bool.not_false, Bool.true_and, Bool.false_and, Bool.and_true, Bool.and_false, beq_self_eq_true, bne_self_eq_false, List.getElem_toArray, List.getElem_cons_succ, List.getElem_cons_zero, hl']) ?_
    repeat refine s_seq ?_
    refine s_region ?_
    refine w_pv rfl dC (want_none rfl) (p_val evA) ?_
    refine w_nil ?_
    refine s_ret ⟨_, res_one rfl rfl, rfl, ?_⟩
    have : ¬ xs = ys := by rintro rfl; exact hl rfl
    simp only [pval, ev, upd, binVal, intBin, Option.map_some, ↓reduceIte, reduceCtorEq, Nat.reduceEqDiff, Nat.reduceBEq, List.map_toArray, List.map_cons, List.map_nil, cond_true, cond_false, decide_true, decide_false, Bool.not_true, Bool.not_false, Bool.true_and, Bool.false_and, Bool.and_true, Bool.and_false, beq_self_eq_true, bne_self_eq_false, List.getElem_toArray, List.getElem_cons_succ, List.getElem_cons_zero, *]
theorem own_ok {h : Heap} (m : MsgA) (sv : Value) (hc : Cells h 1 sv m.srcs.length (m.srcs.map (.int .u32))) (hn : m.srcs.length ≤ 1000000) (h1 : sv.oneCell' = true) :
    SCalls Try.prog 47 #[msgV m sv] h (fun r h' => h.le h' ∧ ∃ sv', r = msgV m sv' ∧ Cells h' 1 sv' m.srcs.length (m.srcs.map (.int .u32)) ∧ sv'.oneCell' = true ∧ ∀ b, blockOf sv' = some b → h b = none ∧ h' b ≠ none) := by
  refine s_enter Try.func47 rfl (by rw [Try.ntmps47]; simp) ?_
  rw [Try.ntmps47]
  generalize hT : T0 #[msgV m sv] = T
  have h0 : T 0 = .agg #[.int .i64 m.kind, .int .u32 m.frm, .int .u32 m.to, .int .u32 m.src, .int .u32 m.grp, .int .i64 m.rank, .int .i64 m.cost, .bool m.only, sv] := by rw [← hT]; rfl
  clear hT
  repeat refine s_seq ?_
  refine s_region ?_
  refine w_al rfl dC (want_none rfl) (a_boxN rfl evA) ?_
  intro b1 hb1
  refine w_al rfl dC (want_none rfl) (a_allocZ (z := .agg #[.int .i64 0, .int .u32 0, .int .u32 0, .int .u32 0, .int .u32 0, .int .i64 0, .int .i64 0, .bool false, .slice none 0 0]) (zs := #[.int .i64 0, .int .u32 0, .int .u32 0, .int .u32 0, .int .u32 0, .int .i64 0, .int .i64 0, .bool false, .slice none 0 0]) rfl kR rfl) ?_
  intro b2 hb2
  have hne2_1 : b2 ≠ b1 := by rintro rfl; first | (simp [Heap.set] at hb2; done) | (simp [Heap.set] at hb2; split at hb2 <;> simp at hb2; done) | (simp [Heap.set] at hb2; (repeat' (split at hb2)) <;> simp_all)
  have hne1_2 := hne2_1.symm
  refine w_nil ?_
  refine genH fun h2 hh => ?_
  have hb2n : h b2 = none := by rw [Heap.set_other _ _ hne2_1] at hb2; exact hb2
  have hb1v : h2 b1 = some (.cells #[.int .i64 m.kind, .int .u32 m.frm, .int .u32 m.to, .int .u32 m.src, .int .u32 m.grp, .int .i64 m.rank, .int .i64 m.cost, .bool m.only, sv] 55 (0, 0)) := by rw [hh, Heap.set_other _ _ hne1_2]; exact Heap.set_same _ _ _
  have hb2v : h2 b2 = some (.cells #[.int .i64 0, .int .u32 0, .int .u32 0, .int .u32 0, .int .u32 0, .int .i64 0, .int .i64 0, .bool false, .slice none 0 0] 55 (0, 0)) := by rw [hh]; exact Heap.set_same _ _ _
  have hle : h.le h2 := by rw [hh]; exact Heap.le_trans (Heap.le_set _ hb1) (Heap.le_set _ hb2)
  clear hh hb2
  have hcl : ∀ u ∈ m.srcs.map (Value.int .u32), u.oneCell' = true := by simp [Value.oneCell']
  have hc2 := hc.le hle
  repeat refine s_seq ?_
  refine s_region ?_
  refine w_pv rfl dC (want_none rfl) (p_fieldAddr (k := 8) rfl evA kR) ?_
  refine w_rd rfl dC (want_none rfl) (r_load1 rfl Try.underlying53 rfl evA hpA ceA) ?_
  refine w_ac rfl dC (want_none rfl) (s_call rfl rfl Try.func60 kR kR evA ?_); refine (cloneAddrs_ok hc2 (by omega) hcl).mono ?_; rintro v' h3 ⟨hle3, hown, hnew⟩; have hb1w := hle3 _ _ hb1v; have hb2w := hle3 _ _ hb2v; have hone := hown.oneC
  refine w_pv rfl dC (want_none rfl) (p_fieldAddr (k := 8) rfl evA kR) ?_
  refine w_st rfl (want_none rfl) (s_store1 rfl evA evA ocA kR kR hpA szA ?_)
  refine w_nil ?_
  refine genH fun h4 hh => ?_
  have hb1x : h4 b1 = some (.cells #[.int .i64 m.kind, .int .u32 m.frm, .int .u32 m.to, .int .u32 m.src, .int .u32 m.grp, .int .i64 m.rank, .int .i64 m.cost, .bool m.only, v'] 55 (0, 0)) := by rw [hh]; exact Heap.set_same _ _ _
  have hb2x : h4 b2 = some (.cells #[.int .i64 0, .int .u32 0, .int .u32 0, .int .u32 0, .int .u32 0, .int .i64 0, .int .i64 0, .bool false, .slice none 0 0] 55 (0, 0)) := by rw [hh, Heap.set_other _ _ hne2_1]; exact hb2w
  have hle4 : h.le h4 := by rw [hh]; exact Heap.le_set_of (Heap.le_trans hle hle3) hb1 _
  have hvb : ∀ b, blockOf v' = some b → b ≠ b1 ∧ b ≠ b2 := fun b e => ⟨fun e1 => (by have := hnew b e; rw [e1, hb1v] at this; cases this), fun e1 => (by have := hnew b e; rw [e1, hb2v] at this; cases this)⟩
  have hown4 : Own h4 23 1 v' m.srcs.length (m.srcs.map (.int .u32)) := hown.only fun r o hr ho => by rw [hh, Heap.set_other _ _ (hvb r hr).1]; exact ho
  clear hh
  repeat refine s_seq ?_
  refine s_region ?_
  refine w_rd rfl dC (want_none rfl) (r_loadN (n := 9) rfl Try.underlying55 rfl evA hpA kR szA) ?_
  refine w_st rfl (want_none rfl) (s_storeN (n := 9) rfl evA evA ocA kR szA kR hpA szA ?_)
  refine w_nil ?_
  refine s_ret ⟨_, res_one rfl (res_cellN Try.underlying55 rfl slA (Heap.set_same _ _ _) kR rfl), Heap.le_set_of hle4 hb2n _, v', rfl, ?_, hone, fun b e => ⟨?_, ?_⟩⟩
  · exact hown4.cells.only fun r o hr ho => by rw [Heap.set_other _ _ (hvb r hr).2]; exact ho
  · have h1 := hnew b e
    cases e1 : h b with
    | none => rfl
    | some o => rw [hle b o e1] at h1; cases h1
  · rw [Heap.set_other _ _ (hvb b e).2]
    obtain ⟨o, ho⟩ := hown4.blk e
    rw [ho]; simp
end Go.Proofs.Ytielfejpnkcjbaa

/- What the chapter begins with; how many prefixes there are. -/
set_option linter.unusedVariables false
set_option linter.unusedSimpArgs false
namespace Go.Proofs.Ytielfejpnkcjbaa
open Sl
theorem bestOf_none {nums : List Bool → List Int} {A : Nat} (h : ∀ q, nums q = []) : ∀ j, bestOf nums A j = none
  | 0 => rfl
  | j + 1 => by simp [bestOf, h, bestOf_none h j]
theorem bestOf_at {nums : List Bool → List Int} {A i j : Nat} (hi : i < j) (hn : nums (path A i) ≠ []) (ho : ∀ k, i < k → k < j → nums (path A k) = []) : bestOf nums A j = some i := by
  rw [bestOf_over (j := i + 1) (fun k a b => ho k (by omega) b) (by omega)]
  simp [bestOf, hn]
theorem countOf_pos {ps : Puts} {k : Int × Int} : countOf ps k ≠ 0 ↔ ∃ x ∈ ps, ((x.1.1 : Int), (x.1.2 : Int)) = k := by
  unfold countOf
  rw [Ne, List.length_eq_zero_iff, List.filter_eq_nil_iff]
  simp
theorem CntOk.mem {ps : Puts} {l : Cnt} (c : CntOk ps l) (k : Int × Int) : k ∈ l.map (·.1) ↔ ∃ x ∈ ps, ((x.1.1 : Int), (x.1.2 : Int)) = k := by
  rw [← countOf_pos, ← hasK_mem]
  have h1 := c.get k
  have h2 := getK_none l k
  constructor
  · intro hh e
    rw [e] at h1
    simp at h1
    rw [h2.1 h1] at hh; cases hh
  · intro hh
    rw [if_neg hh] at h1
    cases e : hasK l k with
    | true => rfl
    | false => rw [h2.2 e] at h1; cases h1
theorem CntOk.len {ps : Puts} {l : Cnt} (c : CntOk ps l) (ks : List (Int × Int)) (nd : ks.Nodup) (hk : ∀ k, k ∈ ks ↔ ∃ x ∈ ps, ((x.1.1 : Int), (x.1.2 : Int)) = k) : l.length = ks.length := by
  have hp : (l.map (·.1)).Perm ks := (List.perm_ext_iff_of_nodup c.one nd).2 fun k => (c.mem k).trans (hk k).symm
  have := hp.length_eq
  simpa using this
theorem first_ok (h : Heap) : SCalls Try.prog 11 #[] h (fun r h' => h.le h' ∧ r = .bool true) := by
  refine s_enter Try.func11 rfl (by rw [Try.ntmps11]; simp) ?_
  rw [Try.ntmps11]
  generalize hT : T0 #[] = T
  clear hT
  repeat refine s_seq ?_
  refine s_region ?_
  refine w_pv rfl dC (want_none rfl) (p_val evA) ?_
  refine w_nil ?_
  repeat refine s_seq ?_
  refine s_region ?_
  refine w_al rfl dC (want_none rfl) (a_allocZ (z := .agg #[.pointer none, .pointer none, .slice none 0 0, .map none]) (zs := #[.pointer none, .pointer none, .slice none 0 0, .map none]) rfl kR rfl) ?_
  intro b1 hb1
  refine w_nil ?_
  have hle1 := Heap.le_set (.cells #[.pointer none, .pointer none, .slice none 0 0, .map none] 33 (0, 0)) hb1
  have t := TrieAt.new h b1 33
  have hbn : bestOf (numsOf []) 5 33 = none := bestOf_none (fun q => rfl) 33
  change SCode _ _ _ _ _ (h.set b1 (.cells #[.pointer none, .pointer none, .slice none 0 0, .map none] 33 (0, 0)))
  generalize (h.set b1 (.cells #[.pointer none, .pointer none, .slice none 0 0, .map none] 33 (0, 0))) = hx at hle1 t ⊢
  repeat refine s_seq ?_
  refine s_region ?_
  refine w_ac rfl dC (want_none rfl) (s_call rfl rfl Try.func15 kR kR evA ?_); refine (look_ok 5 t (by decide)).mono ?_; rintro r h2 ⟨hle2, hr⟩; rw [hbn] at hr; replace hr : r = .tuple #[pfxV 0 0, .slice none 0 0, .bool false] := hr; subst hr; have hag : pfxV 0 0 = .agg #[.int .u32 0, .int .i64 0] := rfl
  refine w_pv rfl dC (want_none rfl) (p_val evA) ?_
  refine w_pv rfl dC (want_none rfl) (p_val evA) ?_
  refine w_pv rfl dC (want_none rfl) (p_val evA) ?_
  refine w_pv rfl dC (want_none rfl) (p_val evA) ?_
  refine w_al rfl dC (want_none rfl) (a_allocZ (z := .agg #[.int .u32 0, .int .i64 0]) (zs := #[.int .u32 0, .int .i64 0]) rfl kR rfl) ?_
  intro b2 hb2
  refine w_st rfl (want_none rfl) (s_storeN (n := 2) rfl evA evA ocA kR szA kR hpA szA ?_)
  refine w_pv rfl dC (want_none rfl) (p_val evA) ?_
  refine w_pv rfl dC (want_none rfl) (p_val evA) ?_
  refine w_nil ?_
  rw [set_set]
  change SCode _ _ _ _ _ (h2.set b2 (.cells #[.int .u32 0, .int .i64 0] 37 (0, 0)))
  have hle3 := Heap.le_set (.cells #[.int .u32 0, .int .i64 0] 37 (0, 0)) hb2
  have t3 := (t.le hle2).le hle3
  have h03 := Heap.le_trans (Heap.le_trans hle1 hle2) hle3
  generalize (h2.set b2 (.cells #[.int .u32 0, .int .i64 0] 37 (0, 0))) = h3 at hle3 t3 h03 ⊢
  have hb1n : h b1 = none := hb1
  repeat refine s_seq ?_
  refine s_region ?_
  refine w_pv rfl dC (want_none rfl) (p_val evA) ?_
  refine w_pv rfl dC (want_none rfl) (p_val evA) ?_
  refine w_pv rfl dC (want_none rfl) (p_val evA) ?_
  refine w_pv rfl dC (want_let rfl rfl evA) (p_buildL (places := [(0, 1), (1, 1)]) (z := [.int .u32 0, .int .i64 0]) (cells := [.int .u32 0, .int .i64 0]) rfl evA kR kR (by rfl)) ?_
  refine w_ac rfl dC (want_let rfl rfl evA) (s_call rfl rfl Try.func13 kR kR evA ?_); refine (put_ok 0 0 7 t3 (by decide) (by decide)).mono ?_; rintro r h4 ⟨hr, D4, chg4, t4⟩; rw [show okPfx 0 0 = true by decide] at hr t4; subst hr; simp only [if_true] at t4
  refine w_pv rfl dC (want_none rfl) (p_val evA) ?_
  refine w_pv rfl dC (want_none rfl) (p_val evA) ?_
  refine w_ac rfl dC (want_let rfl rfl evA) (s_call rfl rfl Try.func17 kR kR evA ?_); refine (len_ok t4).mono ?_; rintro r h5 ⟨rfl, l, cl, rfl⟩; rw [cl.len [(0, 0)] (by simp) (by intro k; simp [eq_comm])]
  refine w_pv rfl dC (want_let rfl rfl evA) (p_val evA) ?_
  refine w_pv rfl dC (want_none rfl) (p_val evA) ?_
  refine w_pv rfl dC (want_none rfl) (p_val evA) ?_
  refine w_nil ?_
  refine s_ret ⟨_, res_one rfl rfl, fun b o e => chg4.keep b o (fun e1 => by rw [e1, hb1n] at e; cases e) (h03 b o e), ?_⟩
  simp only [pval, ev, upd, binVal, intBin, Option.map_some, ↓reduceIte, reduceCtorEq, Nat.reduceEqDiff, Nat.reduceBEq, List.map_toArray, List.map_cons, List.map_nil, cond_true, cond_false, decide_true, decide_false, Bool.not_true, Bool.not_false, Bool.true_and, Bool.false_and, Bool.and_true, Bool.and_false, beq_self_eq_true, bne_self_eq_false, List.getElem_toArray, List.getElem_cons_succ, List.getElem_cons_zero]
  rfl
end Go.Proofs.Ytielfejpnkcjbaa
