/- Tick. -/
import Derived.Test.YtielfejpnkcjbaaAge
set_option linter.unusedVariables false
set_option linter.unusedSimpArgs false
namespace Go.Proofs.Ytielfejpnkcjbaa
open Sl
def tickT (x : AT) : Option AT := if x.age + 1 > 3 then none else some { x with age := x.age + 1 }
def goneT (ts : List AT) : Nat := (ts.filter fun x => decide (x.age + 1 > 3)).length
theorem tick_map (rs : List Rc) : (rs.filterMap tickR).map Rc.t = (rs.map Rc.t).filterMap tickT ∧ (rs.filter gone).length = goneT (rs.map Rc.t) := by
  induction rs with
  | nil => exact ⟨rfl, rfl⟩
  | cons r rs ih =>
    unfold goneT at ih ⊢
    rw [List.filterMap_cons, List.map_cons, List.filterMap_cons, List.filter_cons, List.filter_cons]
    cases hg : gone r with
    | true =>
      have hg' : r.age + 1 > 3 := of_decide_eq_true hg
      have : tickT r.t = none := by unfold tickT; rw [if_pos (show r.t.age + 1 > 3 from hg')]
      have h2 : decide (r.t.age + 1 > 3) = true := hg
      simp only [tickR, hg, if_true, this, h2, List.length_cons]
      exact ⟨ih.1, by rw [ih.2]⟩
    | false =>
      have hg' : ¬ r.age + 1 > 3 := of_decide_eq_false hg
      have : tickT r.t = some { r.t with age := r.t.age + 1 } := by unfold tickT; rw [if_neg (show ¬ r.t.age + 1 > 3 from hg')]
      have h2 : decide (r.t.age + 1 > 3) = false := hg
      simp only [tickR, hg, Bool.false_eq_true, if_false, this, h2, List.map_cons]
      exact ⟨by rw [ih.1]; rfl, ih.2⟩
theorem RowD.tick {h : Heap} {D : Nat → Prop} {r y : Rc} {seen : List Nat} (x : RowD h D r) (hm : midR seen r = some y) : RowD h D y := by
  obtain ⟨h1, h2, h3, h4, _⟩ := midR_same hm
  have hage : 0 ≤ y.age ∧ y.age ≤ 3 := by
    have h0 := x.age0
    have h33 := x.age3
    unfold midR at hm
    split at hm
    · unfold tickR at hm
      split at hm
      · cases hm
      · rename_i hg
        cases hm
        have : ¬ r.age + 1 > 3 := fun e => hg (decide_eq_true e)
        show 0 ≤ r.age + 1 ∧ r.age + 1 ≤ 3
        omega
    · cases hm; exact ⟨h0, h33⟩
  exact ⟨by rw [h3, h4]; exact x.cells, by rw [h4]; exact x.blk, by rw [h3]; exact x.len, by rw [h4]; exact x.one, hage.1, hage.2⟩
theorem tick_ok {h : Heap} {D : Nat → Prop} {p : Nat} {ts : List AT} (t : TableAt h D p ts) (few : ts.length ≤ 1000000) :
    SCalls Try.prog 23 #[.pointer (some ⟨p, 0, none⟩)] h (fun r h' => r = .int .i64 (goneT ts : Nat) ∧ Chg D D h h' ∧ TableAt h' D p (ts.filterMap tickT)) := by
  refine s_enter Try.func23 rfl (by rw [Try.ntmps23]; simp) ?_
  rw [Try.ntmps23]
  generalize hT : T0 #[.pointer (some ⟨p, 0, none⟩)] = T
  have h0 : T 0 = .pointer (some ⟨p, 0, none⟩) := by rw [← hT]; rfl
  clear hT
  obtain ⟨mv, ty, hp, hDp, hmap⟩ := t.out
  have hdom := t.dom
  clear t
  rcases hmap with ⟨rfl, rfl⟩ | ⟨mb, rs, cl, rfl, hDm, him, rfl, hrow⟩
  · -- nothing is there
    repeat refine s_seq ?_
    refine s_region ?_
    refine w_pv rfl dC (want_none rfl) (p_val evA) ?_
    refine w_nil ?_
    repeat refine s_seq ?_
    refine s_region ?_
    refine w_pv rfl dC (want_none rfl) (p_val evA) ?_
    refine w_nil ?_
    repeat refine s_seq ?_
    refine s_region ?_
    refine w_pv rfl dC (want_none rfl) (p_val evA) ?_
    refine w_pv rfl dC (want_none rfl) (p_val evA) ?_
    refine w_pv rfl dC (want_none rfl) (p_fieldAddr (k := 0) rfl evA kR) ?_
    refine w_rd rfl dC (want_none rfl) (r_load1 rfl Try.underlying58 rfl evA hpA ceA) ?_
    refine w_ac rfl dC (want_none rfl) (s_range_nil rfl Try.underlying58 evA ?_); intro it hitn
    refine w_nil ?_
    have hle := Heap.le_set (.mapIter none 0 #[] 0) hitn
    have hit := Heap.set_same h it (.mapIter none 0 #[] 0)
    generalize h.set it (.mapIter none 0 #[] 0) = hx at hle hit ⊢
    refine s_join (fun T h' => h' = hx ∧ T 3 = .int .i64 0) ?_ ?_
    · refine (s_block (s_loop (fun m T h' => h' = hx ∧ T 3 = .int .i64 0 ∧ T 10 = .pointer (some ⟨it, 0, none⟩)) (n0 := 0) ⟨rfl, slA, slA⟩ ?_))
      clear h0 T
      rintro m T h' ⟨rfl, h3, h10⟩
      repeat refine s_seq ?_
      refine s_region ?_
      refine w_rd rfl dC (want_none rfl) (r_next_nil rfl evA hit) ?_
      refine w_pv rfl dC (want_none rfl) (p_val evA) ?_
      refine w_nil ?_
      repeat refine s_seq ?_
      refine s_cond (t := false) slA ?_
      repeat refine s_seq ?_
      refine s_exit ?_
      exact ⟨rfl, slA⟩
    · clear h0 T
      rintro T h' ⟨rfl, h3⟩
      repeat refine s_seq ?_
      refine s_region ?_
      refine w_pv rfl dC (want_none rfl) (p_val evA) ?_
      refine w_pv rfl dC (want_none rfl) (p_val evA) ?_
      refine w_nil ?_
      exact s_ret ⟨_, res_one rfl rfl, by simp only [pval, ev, upd, binVal, intBin, Option.map_some, ↓reduceIte, reduceCtorEq, Nat.reduceEqDiff, Nat.reduceBEq, List.map_toArray, List.map_cons, List.map_nil, cond_true, cond_false, decide_true, decide_false, Bool.not_true, Bool.not_false, Bool.true_and, Bool.false_and, Bool.and_true, Bool.and_false, beq_self_eq_true, bne_self_eq_false, List.getElem_toArray, List.getElem_cons_succ, List.getElem_cons_zero, *] <;> rfl, (Chg.refl _ _).le hle, ⟨⟨_, ty, hle _ _ hp, hDp, .inl ⟨rfl, rfl⟩⟩, fun b hb => by
        cases e : h b with
        | none => exact absurd e (hdom b hb)
        | some o => rw [hle b o e]; simp⟩⟩
  · have nb : (rs.map (·.born)).Nodup := by have := him.2.1; rw [List.map_map] at this; exact this
    have nk : (rs.map (·.key)).Nodup := by have := him.2.2.2; rw [List.map_map] at this; exact this
    repeat refine s_seq ?_
    refine s_region ?_
    refine w_pv rfl dC (want_none rfl) (p_val evA) ?_
    refine w_nil ?_
    repeat refine s_seq ?_
    refine s_region ?_
    refine w_pv rfl dC (want_none rfl) (p_val evA) ?_
    refine w_nil ?_
    repeat refine s_seq ?_
    refine s_region ?_
    refine w_pv rfl dC (want_none rfl) (p_val evA) ?_
    refine w_pv rfl dC (want_none rfl) (p_val evA) ?_
    refine w_pv rfl dC (want_none rfl) (p_fieldAddr (k := 0) rfl evA kR) ?_
    refine w_rd rfl dC (want_none rfl) (r_load1 rfl Try.underlying58 rfl evA hpA ceA) ?_
    refine w_ac rfl dC (want_none rfl) (s_range rfl Try.underlying58 evA him ?_); intro it hitn
    refine w_nil ?_
    have hle := Heap.le_set (.mapIter (some mb) cl #[] cl) hitn
    have hit : IsIter (h.set it (.mapIter (some mb) cl #[] cl)) it mb cl [] := Heap.set_same h it (.mapIter (some mb) cl #[] cl)
    generalize h.set it (.mapIter (some mb) cl #[] cl) = hx at hle hit ⊢
    have hlen : rs.length ≤ 1000000 := by simpa using few
    have hdomle : ∀ b, D b → hx b ≠ none := fun b hb => by
      cases e : h b with
      | none => exact absurd e (hdom b hb)
      | some o => rw [hle b o e]; simp
    refine s_join (fun T h' => ∃ seen, (∀ e ∈ (mids rs seen).map Rc.ey, e.born ∈ seen) ∧ IsMapN h' mb thV ((mids rs seen).map Rc.ey) cl ∧ h' p = some (.cells #[.map (some mb)] ty (0, 0)) ∧ (∀ r ∈ rs, RowD h' D r) ∧ Chg D D h h' ∧ (∀ b, D b → h' b ≠ none) ∧ T 3 = .int .i64 (goneN rs seen : Nat)) ?_ ?_
    · refine (s_block (s_loop (fun m T h' => ∃ seen : List Nat, m = rs.length - seen.length ∧ seen.Nodup ∧ (∀ β ∈ seen, β ∈ rs.map (·.born)) ∧ IsIter h' it mb cl seen ∧ IsMapN h' mb thV ((mids rs seen).map Rc.ey) cl ∧ h' p = some (.cells #[.map (some mb)] ty (0, 0)) ∧ (∀ r ∈ rs, RowD h' D r) ∧ Chg D D h h' ∧ (∀ b, D b → h' b ≠ none) ∧ T 0 = .pointer (some ⟨p, 0, none⟩) ∧ T 3 = .int .i64 (goneN rs seen : Nat) ∧ T 10 = .pointer (some ⟨it, 0, none⟩)) (n0 := rs.length)
        ⟨[], by simp, by simp, by simp, hit, by rw [mids_nil]; exact ⟨hle _ _ him.1, him.2⟩, hle _ _ hp, fun r hr => (hrow r hr).only (fun b o _ e _ => hle b o e), (Chg.refl _ _).le hle, hdomle, slA, by rw [goneN_nil]; simp only [pval, ev, upd, binVal, intBin, Option.map_some, ↓reduceIte, reduceCtorEq, Nat.reduceEqDiff, Nat.reduceBEq, List.map_toArray, List.map_cons, List.map_nil, cond_true, cond_false, decide_true, decide_false, Bool.not_true, Bool.not_false, Bool.true_and, Bool.false_and, Bool.and_true, Bool.and_false, beq_self_eq_true, bne_self_eq_false, List.getElem_toArray, List.getElem_cons_succ, List.getElem_cons_zero, *] <;> rfl, slA⟩ ?_))
      clear h0 T hit hp him hrow hle hdomle
      rintro m T h' ⟨seen, rfl, hsn, hsub, hit, him, hp, hrow, hchg, hdm, h0, h3, h10⟩
      repeat refine s_seq ?_
      refine s_region ?_
      refine w_ac rfl dC (want_none rfl) (s_next rfl evA hit him (fun hall => ?_) (fun e he hs => ?_))
      all_goals (refine w_pv rfl dC (want_none rfl) (p_val evA) ?_)
      all_goals (refine w_nil ?_)
      · repeat refine s_seq ?_
        refine s_cond (t := false) slA ?_
        repeat refine s_seq ?_
        refine s_exit ?_
        exact ⟨seen, hall, him, hp, hrow, hchg, hdm, slA⟩
      · obtain ⟨r, hr, rfl, hs'⟩ := mids_at he hs
        have hDit : ¬ D it := fun hd => hdom it hd hitn
        have hne1 : mb ≠ it := fun e => hDit (by rw [← e]; exact hDm)
        have hne2 : p ≠ it := fun e => hDit (by rw [← e]; exact hDp)
        refine genH fun h2 hh => ?_
        have hk : ∀ k, k ≠ it → h2 k = h' k := fun k hk => by rw [hh]; exact Heap.set_other _ _ hk
        have hit2 : IsIter h2 it mb cl (seen ++ [r.born]) := by rw [hh]; exact Heap.set_same _ _ _
        have him2 : IsMapN h2 mb thV ((mids rs seen).map Rc.ey) cl := ⟨by rw [hk _ hne1]; exact him.1, him.2⟩
        have hp2 : h2 p = some (.cells #[.map (some mb)] ty (0, 0)) := by rw [hk _ hne2]; exact hp
        have hrow2 : ∀ r ∈ rs, RowD h2 D r := fun r hr => (hrow r hr).only fun b o hb e _ => by rw [hk _ (fun e => hDit (by rw [← e]; exact hb))]; exact e
        have hchg2 : Chg D D h h2 := ⟨fun b o hd e => by rw [hk b (fun e1 => by rw [e1, hitn] at e; cases e)]; exact hchg.keep b o hd e, fun b hd => .inl hd⟩
        have hdm2 : ∀ b, D b → h2 b ≠ none := fun b hb => by rw [hk b (fun e => hDit (by rw [← e]; exact hb))]; exact hdm b hb
        clear hh
        have hone := (hrow r hr).one
        repeat refine s_seq ?_
        refine s_cond (t := true) slA ?_
        repeat refine s_seq ?_
        refine s_skip ?_
        repeat refine s_seq ?_
        refine s_block ?_
        repeat refine s_seq ?_
        refine s_region ?_
        refine w_rd rfl dC (want_none rfl) (r_entry rfl evA hit2 him2 he rfl) ?_
        refine w_pv rfl dC (want_none rfl) (p_val evA) ?_
        refine w_pv rfl dC (want_none rfl) (p_val evA) ?_
        refine w_al rfl dC (want_none rfl) (a_allocZ (z := .agg #[.int .i64 0, .int .i64 0, .int .u32 0, .int .u32 0, .int .u32 0]) (zs := #[.int .i64 0, .int .i64 0, .int .u32 0, .int .u32 0, .int .u32 0]) rfl kR rfl) ?_
        intro b4 hb4
        refine w_al rfl dC (want_none rfl) (a_allocZ (z := .agg #[.int .i64 0, .int .i64 0, .int .u32 0, .int .u32 0, .int .u32 0, .int .i64 0, .int .i64 0, .int .u32 0, .int .u32 0, .int .u32 0, .int .u32 0, .int .i64 0, .int .i64 0, .bool false, .slice none 0 0]) (zs := #[.int .i64 0, .int .i64 0, .int .u32 0, .int .u32 0, .int .u32 0, .int .i64 0, .int .i64 0, .int .u32 0, .int .u32 0, .int .u32 0, .int .u32 0, .int .i64 0, .int .i64 0, .bool false, .slice none 0 0]) rfl kR rfl) ?_
        intro b5 hb5
        have hne5_4 : b5 ≠ b4 := by rintro rfl; first | (simp [Heap.set] at hb5; done) | (simp [Heap.set] at hb5; split at hb5 <;> simp at hb5; done) | (simp [Heap.set] at hb5; (repeat' (split at hb5)) <;> simp_all)
        have hne4_5 := hne5_4.symm
        refine w_st rfl (want_none rfl) (s_storeN (n := 5) rfl evA evA ocA kR szA kR hpA szA ?_)
        refine w_st rfl (want_none rfl) (s_storeN (n := 15) rfl evA evA ocA kR szA kR hpA szA ?_)
        refine w_nil ?_
        have hb5n : h2 b5 = none := by rw [Heap.set_other _ _ hne5_4] at hb5; exact hb5
        refine genH fun h3 hh => ?_
        have hb5v : h3 b5 = some (.cells #[.int .i64 r.key.1.1, .int .i64 r.key.1.2.1, .int .u32 r.key.1.2.2, .int .u32 r.key.2.1, .int .u32 r.key.2.2, .int .i64 r.age, .int .i64 r.msg.kind, .int .u32 r.msg.frm, .int .u32 r.msg.to, .int .u32 r.msg.src, .int .u32 r.msg.grp, .int .i64 r.msg.rank, .int .i64 r.msg.cost, .bool r.msg.only, r.sv] 64 (0, 0)) := by rw [hh]; exact Heap.set_same _ _ _
        have hb4v : h3 b4 = some (.cells #[.int .i64 r.key.1.1, .int .i64 r.key.1.2.1, .int .u32 r.key.1.2.2, .int .u32 r.key.2.1, .int .u32 r.key.2.2] 57 (0, 0)) := by rw [hh, Heap.set_other _ _ hne4_5]; exact Heap.set_same _ _ _
        have hk3 : ∀ k, k ≠ b4 → k ≠ b5 → h3 k = h2 k := fun k h4 h5 => by rw [hh, Heap.set_other _ _ h5, Heap.set_other _ _ h4, Heap.set_other _ _ h5, Heap.set_other _ _ h4]
        clear hh hb5
        have hnb4 : ∀ k, h2 k ≠ none → k ≠ b4 ∧ k ≠ b5 := fun k hk => ⟨fun e => hk (by rw [e]; exact hb4), fun e => hk (by rw [e]; exact hb5n)⟩
        have hage := (hrow r hr).age0
        have hage3 := (hrow r hr).age3
        have hw : IntKind.i64.wrap (r.age + 1) = r.age + 1 := wrap64_in _ (by omega) (by omega)
        repeat refine s_seq ?_
        refine s_region ?_
        refine w_pv rfl dC (want_none rfl) (p_fieldAddr (k := 5) rfl evA kR) ?_
        refine w_rd rfl dC (want_none rfl) (r_load1 rfl Try.underlying3 rfl evA hpA ceA) ?_
        refine w_pv rfl dC (want_none rfl) (p_val evA) ?_
        refine w_pv rfl dC (want_none rfl) (p_fieldAddr (k := 5) rfl evA kR) ?_
        refine w_st rfl (want_none rfl) (s_store1 rfl evA evA ocA kR kR hpA szA ?_)
        refine w_nil ?_
        repeat refine s_seq ?_
        refine s_region ?_
        refine w_pv rfl dC (want_none rfl) (p_fieldAddr (k := 5) rfl evA kR) ?_
        refine w_rd rfl dC (want_none rfl) (r_load1 rfl Try.underlying3 rfl evA hpA ceA) ?_
        refine w_pv rfl dC (want_none rfl) (p_val evA) ?_
        refine w_nil ?_
        refine genH fun h4 hh => ?_
        have hb5w : h4 b5 = some (.cells #[.int .i64 r.key.1.1, .int .i64 r.key.1.2.1, .int .u32 r.key.1.2.2, .int .u32 r.key.2.1, .int .u32 r.key.2.2, .int .i64 (r.age + 1), .int .i64 r.msg.kind, .int .u32 r.msg.frm, .int .u32 r.msg.to, .int .u32 r.msg.src, .int .u32 r.msg.grp, .int .i64 r.msg.rank, .int .i64 r.msg.cost, .bool r.msg.only, r.sv] 64 (0, 0)) := by rw [hh]; exact Heap.set_same _ _ _
        have hk4 : ∀ k, k ≠ b5 → h4 k = h3 k := fun k h5 => by rw [hh]; exact Heap.set_other _ _ h5
        clear hh
        have hb4w : h4 b4 = some (.cells #[.int .i64 r.key.1.1, .int .i64 r.key.1.2.1, .int .u32 r.key.1.2.2, .int .u32 r.key.2.1, .int .u32 r.key.2.2] 57 (0, 0)) := by rw [hk4 _ hne4_5]; exact hb4v
        have hk24 : ∀ k o, h2 k = some o → h4 k = some o := fun k o e => by
          obtain ⟨h5, h6⟩ := hnb4 k (by rw [e]; simp)
          rw [hk4 k h6, hk3 k h5 h6]; exact e
        have him4 : IsMapN h4 mb thV ((mids rs seen).map Rc.ey) cl := ⟨hk24 _ _ him2.1, him2.2⟩
        have hit4 : IsIter h4 it mb cl (seen ++ [r.born]) := hk24 _ _ hit2
        have hp4 := hk24 _ _ hp2
        have hrow4 : ∀ r ∈ rs, RowD h4 D r := fun r hr => (hrow2 r hr).only fun b o hb e _ => hk24 _ _ e
        have hchg4 : Chg D D h h4 := hchg2.le hk24
        have hdm4 : ∀ b, D b → h4 b ≠ none := fun b hb => by
          cases e : h2 b with
          | none => exact absurd e (hdm2 b hb)
          | some o => rw [hk24 b o e]; simp
        clear hb5v hb4v hk3 hk4 hk24 him2 hit2 hp2 hrow2 hchg2 hdm2 hb4 hb5n hnb4 hit him hp hrow hchg hdm hk
        have hsn' : (seen ++ [r.born]).Nodup := List.nodup_append.2 ⟨hsn, by simp, fun a ha b hb e => hs' (by simp at hb; rw [← hb, ← e]; exact ha)⟩
        have hsub' : ∀ β ∈ seen ++ [r.born], β ∈ rs.map (·.born) := fun β hβ => by
          rcases List.mem_append.1 hβ with h1 | h1
          · exact hsub β h1
          · rw [List.mem_singleton.1 h1]; exact List.mem_map.2 ⟨r, hr, rfl⟩
        have hlt : rs.length - (seen ++ [r.born]).length < rs.length - seen.length := by
          have := List.Nodup.length_le_of_subset hsn' (fun β hβ => hsub' β hβ)
          simp only [List.length_append, List.length_map, List.length_cons, List.length_nil] at this ⊢
          omega
        have hgs := gone_step nb hr hs'
        have hmb : mb ≠ it ∧ mb ≠ p := ⟨hne1, fun e => by have := him4.1; rw [e, hp4] at this; cases this⟩
        cases hg : gone r with
        | true =>
          have hg' : decide (r.age + 1 > 3) = true := hg
          rw [hg] at hgs
          simp only [if_true] at hgs
          have hgn : goneN rs seen + 1 ≤ 1000000 := by rw [← hgs]; exact Nat.le_trans (List.length_filter_le _ _) hlen
          have hwg : IntKind.i64.wrap (((goneN rs seen : Nat) : Int) + 1) = ((goneN rs (seen ++ [r.born]) : Nat) : Int) := by rw [hgs]; exact wrap64_nat _ _ (by omega) (by omega)
          have hdel := mid_del nb nk hr hs' hg
          have hag : (Value.agg #[.int .i64 r.key.1.1, .int .i64 r.key.1.2.1, .int .u32 r.key.1.2.2, .int .u32 r.key.2.1, .int .u32 r.key.2.2]) = thV r.key := rfl
          repeat refine s_seq ?_
          refine s_cond (t := true) slA ?_
          repeat refine s_seq ?_
          refine s_draw [(0, true), (1, true), (2, true), (3, true), (4, true), (5, true)] [] [5] rfl kR kR ?_
          refine d_pv rfl rfl dC rfl rfl (want_none rfl) (p_val evA) ?_
          refine d_rd0 rfl rfl dC rfl rfl (want_none rfl) (fun _ => PureOp.read (p_val evA) _) ?_
          refine d_pv rfl rfl dC rfl rfl (want_none rfl) (p_fieldAddr (k := 0) rfl evA kR) ?_
          refine d_rd [_] rfl rfl dC rfl rfl (want_none rfl) (r_load1 rfl Try.underlying58 rfl evA (restr1 hpA) ceA) ?_
          refine d_rd [_] rfl rfl dC rfl rfl (want_none rfl) (r_loadN (n := 5) rfl Try.underlying57 rfl evA (restr1 hpA) kR szA) ?_
          refine d_lst rfl rfl dC (by decide) rfl (want_none rfl) (s_delete (k := r.key) thing_key rfl Try.underlying58 Try.underlying57 evA evA him4 ?_)
          refine d_nil ?_
          repeat refine s_seq ?_
          refine s_region ?_
          refine w_pv rfl dC (want_none rfl) (p_val evA) ?_
          refine w_pv rfl dC (want_none rfl) (p_val evA) ?_
          refine w_pv rfl dC (want_none rfl) (p_val evA) ?_
          refine w_nil ?_
          have him5 := delN_map (k := r.key) him4
          rw [hdel] at him5
          rw [hdel]
          have hk5 : ∀ k o, k ≠ mb → h4 k = some o → (h4.set mb (.map (((mids rs (seen ++ [r.born])).map Rc.ey).map (mkE thV)).toArray cl)) k = some o := fun k o h1 e => by rw [Heap.set_other _ _ h1]; exact e
          have hsm := Heap.set_same h4 mb (.map (((mids rs (seen ++ [r.born])).map Rc.ey).map (mkE thV)).toArray cl)
          generalize (h4.set mb (.map (((mids rs (seen ++ [r.born])).map Rc.ey).map (mkE thV)).toArray cl)) = h5 at him5 hk5 hsm ⊢
          refine s_exit ?_
          refine ⟨_, hlt, seen ++ [r.born], rfl, hsn', hsub', hk5 _ _ (Ne.symm hmb.1) hit4, him5, hk5 _ _ (Ne.symm hmb.2) hp4, fun r hr => (hrow4 r hr).only (fun b o hb e hnm => hk5 _ _ (fun e1 => hnm _ _ (by rw [e1, him4.1] at e; exact (Option.some.inj e).symm)) e), ⟨fun b o hd e => hk5 _ _ (fun e1 => hd (by rw [e1]; exact hDm)) (hchg4.keep b o hd e), fun b hd => .inl hd⟩, fun b hb => ?_, slA, slA, slA⟩
          by_cases e1 : b = mb
          · rw [e1, hsm]; simp
          · cases e : h4 b with
            | none => exact absurd e (hdm4 b hb)
            | some o => rw [hk5 b o e1 e]; simp
        | false =>
          have hg' : decide (r.age + 1 > 3) = false := hg
          rw [hg] at hgs
          simp only [Bool.false_eq_true, if_false, Nat.add_zero] at hgs
          have hset := mid_set nb nk hr hs' hg
          have hag : (Value.agg #[.int .i64 r.key.1.1, .int .i64 r.key.1.2.1, .int .u32 r.key.1.2.2, .int .u32 r.key.2.1, .int .u32 r.key.2.2]) = thV r.key := rfl
          repeat refine s_seq ?_
          refine s_cond (t := false) slA ?_
          repeat refine s_seq ?_
          refine s_skip ?_
          repeat refine s_seq ?_
          refine s_draw [(0, true), (1, true), (2, true), (3, true), (4, true), (5, true), (6, true)] [] [6] rfl kR kR ?_
          refine d_pv rfl rfl dC rfl rfl (want_none rfl) (p_val evA) ?_
          refine d_rd0 rfl rfl dC rfl rfl (want_none rfl) (fun _ => PureOp.read (p_val evA) _) ?_
          refine d_pv rfl rfl dC rfl rfl (want_none rfl) (p_fieldAddr (k := 0) rfl evA kR) ?_
          refine d_rd [_] rfl rfl dC rfl rfl (want_none rfl) (r_load1 rfl Try.underlying58 rfl evA (restr1 hpA) ceA) ?_
          refine d_rd [_] rfl rfl dC rfl rfl (want_none rfl) (r_loadN (n := 5) rfl Try.underlying57 rfl evA (restr1 hpA) kR szA) ?_
          refine d_rd [_] rfl rfl dC rfl rfl (want_none rfl) (r_loadN (n := 15) rfl Try.underlying64 rfl evA (restr1 hpA) kR szA) ?_
          refine d_lst rfl rfl dC (by decide) rfl (want_none rfl) (s_mapUpdateN (k := r.key) (v := entV r.key (r.age + 1) r.msg r.sv) thing_key rfl Try.underlying58 Try.underlying57 evA evA evA him4 ⟨r.ey, he, rfl⟩ ?_)
          refine d_nil ?_
          have him5 := setN_map (k := r.key) (v := entV r.key (r.age + 1) r.msg r.sv) him4
          rw [hset] at him5
          rw [hset]
          have hk5 : ∀ k o, k ≠ mb → h4 k = some o → (h4.set mb (.map (((mids rs (seen ++ [r.born])).map Rc.ey).map (mkE thV)).toArray cl)) k = some o := fun k o h1 e => by rw [Heap.set_other _ _ h1]; exact e
          have hsm := Heap.set_same h4 mb (.map (((mids rs (seen ++ [r.born])).map Rc.ey).map (mkE thV)).toArray cl)
          generalize (h4.set mb (.map (((mids rs (seen ++ [r.born])).map Rc.ey).map (mkE thV)).toArray cl)) = h5 at him5 hk5 hsm ⊢
          refine ⟨_, hlt, seen ++ [r.born], rfl, hsn', hsub', hk5 _ _ (Ne.symm hmb.1) hit4, him5, hk5 _ _ (Ne.symm hmb.2) hp4, fun r hr => (hrow4 r hr).only (fun b o hb e hnm => hk5 _ _ (fun e1 => hnm _ _ (by rw [e1, him4.1] at e; exact (Option.some.inj e).symm)) e), ⟨fun b o hd e => hk5 _ _ (fun e1 => hd (by rw [e1]; exact hDm)) (hchg4.keep b o hd e), fun b hd => .inl hd⟩, fun b hb => ?_, slA, slA, slA⟩
          by_cases e1 : b = mb
          · rw [e1, hsm]; simp
          · cases e : h4 b with
            | none => exact absurd e (hdm4 b hb)
            | some o => rw [hk5 b o e1 e]; simp
    · clear h0 T hit hp him hrow hle
      rintro T h' ⟨seen, hall, him, hp, hrow, hchg, hdm, h3⟩
      obtain ⟨hm1, hm2⟩ := mids_all hall
      obtain ⟨ht1, ht2⟩ := tick_map rs
      repeat refine s_seq ?_
      refine s_region ?_
      refine w_pv rfl dC (want_none rfl) (p_val evA) ?_
      refine w_pv rfl dC (want_none rfl) (p_val evA) ?_
      refine w_nil ?_
      refine s_ret ⟨_, res_one rfl rfl, slA, hchg, ⟨⟨_, ty, hp, hDp, .inr ⟨mb, rs.filterMap tickR, cl, rfl, hDm, by rw [← hm1]; exact him, ht1.symm, fun y hy => ?_⟩⟩, hdm⟩⟩
      · rw [← hm1] at hy
        obtain ⟨r, hr, hm⟩ := List.mem_filterMap.1 hy
        exact (hrow r hr).tick hm
end Go.Proofs.Ytielfejpnkcjbaa
