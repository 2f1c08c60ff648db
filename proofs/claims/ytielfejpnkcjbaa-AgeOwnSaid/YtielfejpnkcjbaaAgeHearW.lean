/- Hear: the walk. -/
import Derived.Test.YtielfejpnkcjbaaAgeHear
set_option linter.unusedVariables false
set_option linter.unusedSimpArgs false
namespace Go.Proofs.Ytielfejpnkcjbaa
open Sl
theorem Sl.Cells.zero_any {h h' : Heap} {sz n : Nat} {v : Value} {cs : List Value} (x : Cells h sz v n cs) (hn : n = 0) : Cells h' sz v n cs := by
  obtain ⟨a, c, rfl⟩ := x.form
  have hl := x.len
  subst hn
  have : cs = [] := List.eq_nil_of_length_eq_zero (by simpa using hl)
  rw [this]
  exact .zero a c
theorem hear_ok {h : Heap} {D : Nat → Prop} {p : Nat} {ts : List AT} (k : ThK) (m : MsgA) (sv : Value) (t : TableAt h D p ts) (few : ts.length < 65536) (hc : Cells h 1 sv m.srcs.length (m.srcs.map (.int .u32))) (hn : m.srcs.length ≤ 1000000) (h1s : sv.oneCell' = true) (hsD : m.srcs.length ≠ 0 → ∀ b, blockOf sv = some b → ¬ D b) :
    SCalls Try.prog 22 #[.pointer (some ⟨p, 0, none⟩), thV k, msgV m sv] h (fun r h' => r = .bool true ∧ ∃ D', Chg D D' h h' ∧ TableAt h' D' p (putT ts k m)) := by
  refine s_enter Try.func22 rfl (by rw [Try.ntmps22]; simp) ?_
  rw [Try.ntmps22]
  generalize hT : T0 #[.pointer (some ⟨p, 0, none⟩), thV k, msgV m sv] = T
  have h0 : T 0 = .pointer (some ⟨p, 0, none⟩) := by rw [← hT]; rfl
  have h1 : T 1 = .agg #[.int .i64 k.1.1, .int .i64 k.1.2.1, .int .u32 k.1.2.2, .int .u32 k.2.1, .int .u32 k.2.2] := by rw [← hT]; rfl
  have hT2 : T 2 = .agg #[.int .i64 m.kind, .int .u32 m.frm, .int .u32 m.to, .int .u32 m.src, .int .u32 m.grp, .int .i64 m.rank, .int .i64 m.cost, .bool m.only, sv] := by rw [← hT]; rfl
  clear hT
  repeat refine s_seq ?_
  refine s_region ?_
  refine w_al rfl dC (want_none rfl) (a_boxN rfl evA) ?_
  intro b4 hb4
  refine w_al rfl dC (want_none rfl) (a_boxN rfl evA) ?_
  intro b5 hb5
  have hne5_4 : b5 ≠ b4 := by rintro rfl; first | (simp [Heap.set] at hb5; done) | (simp [Heap.set] at hb5; split at hb5 <;> simp at hb5; done) | (simp [Heap.set] at hb5; (repeat' (split at hb5)) <;> simp_all)
  have hne4_5 := hne5_4.symm
  refine w_pv rfl dC (want_none rfl) (p_val evA) ?_
  refine w_nil ?_
  refine genH fun hx hh => ?_
  have hb4v : hx b4 = some (.cells #[.int .i64 k.1.1, .int .i64 k.1.2.1, .int .u32 k.1.2.2, .int .u32 k.2.1, .int .u32 k.2.2] 57 (0, 0)) := by rw [hh, Heap.set_other _ _ hne4_5]; exact Heap.set_same _ _ _
  have hb5v : hx b5 = some (.cells #[.int .i64 m.kind, .int .u32 m.frm, .int .u32 m.to, .int .u32 m.src, .int .u32 m.grp, .int .i64 m.rank, .int .i64 m.cost, .bool m.only, sv] 55 (0, 0)) := by rw [hh]; exact Heap.set_same _ _ _
  have hle : h.le hx := by rw [hh]; exact Heap.le_trans (Heap.le_set _ hb4) (Heap.le_set _ hb5)
  have hb5n : h b5 = none := by rw [Heap.set_other _ _ hne5_4] at hb5; exact hb5
  have hd4 : ¬ D b4 := fun hd => t.dom b4 hd hb4
  have hd5 : ¬ D b5 := fun hd => t.dom b5 hd hb5n
  clear hh hb5
  have tx : TableAt hx D p ts := by
    obtain ⟨mv, ty, hp, hDp, hmap⟩ := t.out
    refine ⟨⟨mv, ty, hle _ _ hp, hDp, hmap.imp id fun ⟨mb, rs, cl, e1, e2, e3, e4, e5⟩ => ⟨mb, rs, cl, e1, e2, ⟨hle _ _ e3.1, e3.2⟩, e4, fun r hr => (e5 r hr).only fun b o _ e _ => hle b o e⟩⟩, fun b hb => ?_⟩
    cases e : h b with
    | none => exact absurd e (t.dom b hb)
    | some o => rw [hle b o e]; simp
  have chx : Chg D D h hx := (Chg.refl _ _).le hle
  have hcx := hc.le hle
  clear t hc hle hb4 hb5n
  obtain ⟨mv, ty, vs, hp, hDp, hvs1, hvs15, hlook, hmap, _⟩ := table_look tx k
  have hag : (Value.agg #[.int .i64 k.1.1, .int .i64 k.1.2.1, .int .u32 k.1.2.2, .int .u32 k.2.1, .int .u32 k.2.2]) = thV k := rfl
  generalize hany : (ts.any fun x => decide (x.key = k)) = c at hlook
  repeat refine s_seq ?_
  refine s_draw [(0, true), (1, true), (2, true), (3, true), (4, true), (5, true), (6, true), (7, true), (8, true), (9, true), (10, true), (11, true)] [] [10] rfl kR kR ?_
  refine d_pv rfl rfl dC rfl rfl (want_none rfl) (p_val evA) ?_
  refine d_rd0 rfl rfl dC rfl rfl (want_none rfl) (fun _ => PureOp.read (p_val evA) _) ?_
  refine d_pv rfl rfl dC rfl rfl (want_none rfl) (p_fieldAddr (k := 0) rfl evA kR) ?_
  refine d_rd [_] rfl rfl dC rfl rfl (want_none rfl) (r_load1 rfl Try.underlying58 rfl evA (restr1 hpA) ceA) ?_
  refine d_rd [_] rfl rfl dC rfl rfl (want_none rfl) (r_loadN (n := 5) rfl Try.underlying57 rfl evA (restr1 hpA) kR szA) ?_
  refine d_rd (mvBlk mv) rfl rfl dC rfl rfl (want_none rfl) (hlook rfl evA evA) ?_
  refine d_pv rfl rfl dC rfl rfl (want_none rfl) (p_val evA) ?_
  refine d_pv rfl rfl dC rfl rfl (want_none rfl) (p_val evA) ?_
  refine d_pv rfl rfl dC rfl rfl (want_none rfl) (p_val evA) ?_
  refine d_qal rfl rfl dC (by decide) rfl (want_none rfl) (a_allocZ (z := .agg #[.int .i64 0, .int .i64 0, .int .u32 0, .int .u32 0, .int .u32 0, .int .i64 0, .int .i64 0, .int .u32 0, .int .u32 0, .int .u32 0, .int .u32 0, .int .i64 0, .int .i64 0, .bool false, .slice none 0 0]) (zs := #[.int .i64 0, .int .i64 0, .int .u32 0, .int .u32 0, .int .u32 0, .int .i64 0, .int .i64 0, .int .u32 0, .int .u32 0, .int .u32 0, .int .u32 0, .int .i64 0, .int .i64 0, .bool false, .slice none 0 0]) rfl kR rfl) ?_
  intro b7 hb7
  refine d_lst rfl rfl dC (by decide) rfl (want_none rfl) (s_storeN (n := 15) rfl evA evA ocA kR szA kR hpA szA ?_)
  refine d_pv rfl rfl dC rfl rfl (want_none rfl) (p_val evA) ?_
  refine d_nil ?_
  rw [set_set]
  refine genH fun h2 hh => ?_
  have hle2 : hx.le h2 := by rw [hh]; exact Heap.le_set _ hb7
  clear hh hlook hvs1 hvs15 hany
  have hp2 := hle2 _ _ hp
  have hb4w := hle2 _ _ hb4v
  have hb5w := hle2 _ _ hb5v
  have hcl2 := hcx.le hle2
  have ch2 : Chg D D h h2 := chx.le hle2
  have hdm2 : ∀ b, D b → h2 b ≠ none := fun b hb => by
    cases e : hx b with
    | none => exact absurd e (tx.dom b hb)
    | some o => rw [hle2 b o e]; simp
  have hmap2 : (mv = .map none ∧ ts = []) ∨ ∃ (mb : Nat) (rs : List Rc) (cl : Nat), mv = .map (some mb) ∧ D mb ∧ IsMapN h2 mb thV (rs.map Rc.ey) cl ∧ ts = rs.map Rc.t ∧ ∀ r ∈ rs, RowD h2 D r := hmap.imp id fun ⟨mb, rs, cl, e1, e2, e3, e4, e5⟩ => ⟨mb, rs, cl, e1, e2, ⟨hle2 _ _ e3.1, e3.2⟩, e4, fun r hr => (e5 r hr).only fun b o _ e _ => hle2 b o e⟩
  clear tx chx hcx hp hmap hle2 hb4v hb5v hb7
  refine s_join (fun T h' => h' = h2 ∧ T 0 = .pointer (some ⟨p, 0, none⟩) ∧ T 4 = .pointer (some ⟨b4, 0, none⟩) ∧ T 5 = .pointer (some ⟨b5, 0, none⟩)) ?_ ?_
  · cases c with
    | true =>
      repeat refine s_seq ?_
      refine s_region ?_
      refine w_pv rfl dC (want_none rfl) (p_val evA) ?_
      refine w_pv rfl dC (want_none rfl) (p_val evA) ?_
      refine w_pv rfl dC (want_none rfl) (p_val evA) ?_
      refine w_skp rfl dC (want_not rfl rfl evA rfl) ?_
      refine w_skp rfl dC (want_not rfl rfl evA rfl) ?_
      refine w_skp rfl dC (want_not rfl rfl evA rfl) ?_
      refine w_skp rfl dC (want_not rfl rfl evA rfl) ?_
      refine w_skp rfl dC (want_not rfl rfl evA rfl) ?_
      refine w_skp rfl dC (want_not rfl rfl evA rfl) ?_
      refine w_pv rfl dC (want_none rfl) (p_val evA) ?_
      refine w_nil ?_
      repeat refine s_seq ?_
      refine s_cond (t := false) slA ?_
      repeat refine s_seq ?_
      refine s_skip ?_
      exact ⟨rfl, slA, slA, slA⟩
    | false =>
      rcases hmap2 with ⟨rfl, rfl⟩ | ⟨mb, rs, cl, rfl, hDm, him, rfl, hrow⟩
      · have e1 : decide ((0 : Int) ≥ 65536) = false := by decide
        repeat refine s_seq ?_
        refine s_region ?_
        refine w_pv rfl dC (want_none rfl) (p_val evA) ?_
        refine w_pv rfl dC (want_none rfl) (p_val evA) ?_
        refine w_pv rfl dC (want_none rfl) (p_val evA) ?_
        refine w_pv rfl dC (want_let rfl rfl evA) (p_val evA) ?_
        refine w_pv rfl dC (want_let rfl rfl evA) (p_val evA) ?_
        refine w_pv rfl dC (want_let rfl rfl evA) (p_fieldAddr (k := 0) rfl evA kR) ?_
        refine w_rd rfl dC (want_let rfl rfl evA) (r_load1 rfl Try.underlying58 rfl evA hpA ceA) ?_
        refine w_rd rfl dC (want_let rfl rfl evA) (r_len_map_nil rfl Try.underlying58 evA) ?_
        refine w_pv rfl dC (want_let rfl rfl evA) (p_val evA) ?_
        refine w_pv rfl dC (want_none rfl) (p_val evA) ?_
        refine w_nil ?_
        repeat refine s_seq ?_
        refine s_cond (t := false) slA ?_
        repeat refine s_seq ?_
        refine s_skip ?_
        exact ⟨rfl, slA, slA, slA⟩
      · have e1 : decide (((((rs.map Rc.ey).map fun e => { key := thV e.key, val := e.val, born := e.born : MapEntry }).toArray.size : Nat) : Int) ≥ 65536) = false := decide_eq_false (by simp at few ⊢; omega)
        repeat refine s_seq ?_
        refine s_region ?_
        refine w_pv rfl dC (want_none rfl) (p_val evA) ?_
        refine w_pv rfl dC (want_none rfl) (p_val evA) ?_
        refine w_pv rfl dC (want_none rfl) (p_val evA) ?_
        refine w_pv rfl dC (want_let rfl rfl evA) (p_val evA) ?_
        refine w_pv rfl dC (want_let rfl rfl evA) (p_val evA) ?_
        refine w_pv rfl dC (want_let rfl rfl evA) (p_fieldAddr (k := 0) rfl evA kR) ?_
        refine w_rd rfl dC (want_let rfl rfl evA) (r_load1 rfl Try.underlying58 rfl evA hpA ceA) ?_
        refine w_rd rfl dC (want_let rfl rfl evA) (r_len_map rfl Try.underlying58 evA him.1) ?_
        refine w_pv rfl dC (want_let rfl rfl evA) (p_val evA) ?_
        refine w_pv rfl dC (want_none rfl) (p_val evA) ?_
        refine w_nil ?_
        repeat refine s_seq ?_
        refine s_cond (t := false) slA ?_
        repeat refine s_seq ?_
        refine s_skip ?_
        exact ⟨rfl, slA, slA, slA⟩
  · clear h0 h1 hT2 T
    rintro T h' ⟨rfl, h0, h4, h5⟩
    refine s_seq ?_
    refine s_join (fun T h3 => ∃ (D' : Nat → Prop) (mb : Nat) (rs : List Rc), h3 p = some (.cells #[.map (some mb)] ty (0, 0)) ∧ D' p ∧ D' mb ∧ IsMap h3 mb thV (rs.map kvR) ∧ Keys1 (rs.map kvR) ∧ ts = rs.map Rc.t ∧ (∀ r ∈ rs, RowD h3 D' r) ∧ Chg D D' h h3 ∧ (∀ b, D' b → h3 b ≠ none) ∧ ¬ D' b4 ∧ ¬ D' b5 ∧ h3 b4 = some (.cells #[.int .i64 k.1.1, .int .i64 k.1.2.1, .int .u32 k.1.2.2, .int .u32 k.2.1, .int .u32 k.2.2] 57 (0, 0)) ∧ h3 b5 = some (.cells #[.int .i64 m.kind, .int .u32 m.frm, .int .u32 m.to, .int .u32 m.src, .int .u32 m.grp, .int .i64 m.rank, .int .i64 m.cost, .bool m.only, sv] 55 (0, 0)) ∧ Cells h3 1 sv m.srcs.length (m.srcs.map (.int .u32)) ∧ T 0 = .pointer (some ⟨p, 0, none⟩) ∧ T 4 = .pointer (some ⟨b4, 0, none⟩) ∧ T 5 = .pointer (some ⟨b5, 0, none⟩)) ?_ ?_
    · have made : ∀ b35, h' b35 = none → ts = [] → ∀ h3, h3 = (h'.set b35 (.map #[] 0)).set p (.cells #[.map (some b35)] ty (0, 0)) → ∃ (D' : Nat → Prop) (mb : Nat) (rs : List Rc), h3 p = some (.cells #[.map (some mb)] ty (0, 0)) ∧ D' p ∧ D' mb ∧ IsMap h3 mb thV (rs.map kvR) ∧ Keys1 (rs.map kvR) ∧ ts = rs.map Rc.t ∧ (∀ r ∈ rs, RowD h3 D' r) ∧ Chg D D' h h3 ∧ (∀ b, D' b → h3 b ≠ none) ∧ ¬ D' b4 ∧ ¬ D' b5 ∧ h3 b4 = some (.cells #[.int .i64 k.1.1, .int .i64 k.1.2.1, .int .u32 k.1.2.2, .int .u32 k.2.1, .int .u32 k.2.2] 57 (0, 0)) ∧ h3 b5 = some (.cells #[.int .i64 m.kind, .int .u32 m.frm, .int .u32 m.to, .int .u32 m.src, .int .u32 m.grp, .int .i64 m.rank, .int .i64 m.cost, .bool m.only, sv] 55 (0, 0)) ∧ Cells h3 1 sv m.srcs.length (m.srcs.map (.int .u32)) := by
        intro b35 hb35 hts h3 hh
        have hpb : b35 ≠ p := fun e => by rw [← e, hb35] at hp2; cases hp2
        have hp4 : b4 ≠ p := fun e => hd4 (by rw [e]; exact hDp)
        have hp5 : b5 ≠ p := fun e => hd5 (by rw [e]; exact hDp)
        have h45 : b4 ≠ b35 ∧ b5 ≠ b35 := ⟨fun e => (by rw [e, hb35] at hb4w; cases hb4w), fun e => (by rw [e, hb35] at hb5w; cases hb5w)⟩
        have hoth : ∀ q o, q ≠ p → h' q = some o → h3 q = some o := fun q o hq e => by
          rw [hh, Heap.set_other _ _ hq, Heap.set_other _ _ (fun e1 => by rw [e1, hb35] at e; cases e)]; exact e
        have hdb : ¬ D b35 := fun hd => hdm2 b35 hd hb35
        have hbn : h b35 = none := by
          cases e : h b35 with
          | none => rfl
          | some o => rw [ch2.keep b35 o hdb e] at hb35; cases hb35
        refine ⟨fun b => D b ∨ b = b35, b35, [], by rw [hh]; exact Heap.set_same _ _ _, Or.inl hDp, Or.inr rfl, (IsMap.made h' b35).of (by rw [hh, Heap.set_other _ _ hpb]), by simp [Keys1], hts, by simp, ⟨fun b o hd e => hoth b o (fun e1 => hd (by rw [e1]; exact hDp)) (ch2.keep b o hd e), fun b hd => Or.imp id (fun e => by rw [e]; exact hbn) hd⟩, fun b hd => ?_, fun hd => Or.elim hd hd4 h45.1, fun hd => Or.elim hd hd5 h45.2, hoth _ _ hp4 hb4w, hoth _ _ hp5 hb5w, ?_⟩
        · rcases hd with hd | rfl
          · by_cases e1 : b = p
            · rw [e1, hh, Heap.set_same]; simp
            · cases e : h' b with
              | none => exact absurd e (hdm2 b hd)
              | some o => rw [hoth b o e1 e]; simp
          · rw [hh, Heap.set_other _ _ hpb, Heap.set_same]; simp
        · by_cases hl0 : m.srcs.length = 0
          · exact hcl2.zero_any hl0
          · exact hcl2.only fun r o hr e => hoth r o (fun e1 => hsD hl0 r hr (by rw [e1]; exact hDp)) e
      rcases hmap2 with ⟨rfl, hts⟩ | ⟨mb, rs, cl, rfl, hDm, him, hts, hrow⟩
      · repeat refine s_seq ?_
        refine s_region ?_
        refine w_pv rfl dC (want_none rfl) (p_val evA) ?_
        refine w_pv rfl dC (want_none rfl) (p_val evA) ?_
        refine w_pv rfl dC (want_none rfl) (p_fieldAddr (k := 0) rfl evA kR) ?_
        refine w_rd rfl dC (want_none rfl) (r_load1 rfl Try.underlying58 rfl evA hpA ceA) ?_
        refine w_rd rfl dC (want_none rfl) (r_len_map_nil rfl Try.underlying58 evA) ?_
        refine w_pv rfl dC (want_none rfl) (p_val evA) ?_
        refine w_nil ?_
        repeat refine s_seq ?_
        refine s_cond (t := true) slA ?_
        repeat refine s_seq ?_
        refine s_region ?_
        refine w_pv rfl dC (want_none rfl) (p_val evA) ?_
        refine w_al rfl dC (want_none rfl) (a_makeMap rfl) ?_
        intro b35 hb35
        refine w_pv rfl dC (want_none rfl) (p_val evA) ?_
        refine w_pv rfl dC (want_none rfl) (p_fieldAddr (k := 0) rfl evA kR) ?_
        refine w_st rfl (want_none rfl) (s_store1 rfl evA evA ocA kR kR hpA szA ?_)
        refine w_nil ?_
        obtain ⟨D', mb, rs, x⟩ := made b35 hb35 hts _ rfl
        exact ⟨D', mb, rs, x.1, x.2.1, x.2.2.1, x.2.2.2.1, x.2.2.2.2.1, x.2.2.2.2.2.1, x.2.2.2.2.2.2.1, x.2.2.2.2.2.2.2.1, x.2.2.2.2.2.2.2.2.1, x.2.2.2.2.2.2.2.2.2.1, x.2.2.2.2.2.2.2.2.2.2.1, x.2.2.2.2.2.2.2.2.2.2.2.1, x.2.2.2.2.2.2.2.2.2.2.2.2.1, x.2.2.2.2.2.2.2.2.2.2.2.2.2, slA, slA, slA⟩
      · have hsz : ((((rs.map Rc.ey).map fun e => { key := thV e.key, val := e.val, born := e.born : MapEntry }).toArray.size : Nat) : Int) = ((rs.length : Nat) : Int) := by simp
        by_cases hr0 : rs = []
        · have e1 : ((((rs.map Rc.ey).map fun e => { key := thV e.key, val := e.val, born := e.born : MapEntry }).toArray.size : Nat) : Int) = 0 := by rw [hsz, hr0]; rfl
          have hts' : ts = [] := by rw [hts, hr0]; rfl
          clear hr0 hts hsz
          repeat refine s_seq ?_
          refine s_region ?_
          refine w_pv rfl dC (want_none rfl) (p_val evA) ?_
          refine w_pv rfl dC (want_none rfl) (p_val evA) ?_
          refine w_pv rfl dC (want_none rfl) (p_fieldAddr (k := 0) rfl evA kR) ?_
          refine w_rd rfl dC (want_none rfl) (r_load1 rfl Try.underlying58 rfl evA hpA ceA) ?_
          refine w_rd rfl dC (want_none rfl) (r_len_map rfl Try.underlying58 evA him.1) ?_
          refine w_pv rfl dC (want_none rfl) (p_val evA) ?_
          refine w_nil ?_
          repeat refine s_seq ?_
          refine s_cond (t := true) slA ?_
          repeat refine s_seq ?_
          refine s_region ?_
          refine w_pv rfl dC (want_none rfl) (p_val evA) ?_
          refine w_al rfl dC (want_none rfl) (a_makeMap rfl) ?_
          intro b35 hb35
          refine w_pv rfl dC (want_none rfl) (p_val evA) ?_
          refine w_pv rfl dC (want_none rfl) (p_fieldAddr (k := 0) rfl evA kR) ?_
          refine w_st rfl (want_none rfl) (s_store1 rfl evA evA ocA kR kR hpA szA ?_)
          refine w_nil ?_
          obtain ⟨D', mb, rs, x⟩ := made b35 hb35 hts' _ rfl
          exact ⟨D', mb, rs, x.1, x.2.1, x.2.2.1, x.2.2.2.1, x.2.2.2.2.1, x.2.2.2.2.2.1, x.2.2.2.2.2.2.1, x.2.2.2.2.2.2.2.1, x.2.2.2.2.2.2.2.2.1, x.2.2.2.2.2.2.2.2.2.1, x.2.2.2.2.2.2.2.2.2.2.1, x.2.2.2.2.2.2.2.2.2.2.2.1, x.2.2.2.2.2.2.2.2.2.2.2.2.1, x.2.2.2.2.2.2.2.2.2.2.2.2.2, slA, slA, slA⟩
        · have e1 : (((((rs.map Rc.ey).map fun e => { key := thV e.key, val := e.val, born := e.born : MapEntry }).toArray.size : Nat) : Int) == 0) = false := by simpa using hr0
          clear hr0 hsz made
          repeat refine s_seq ?_
          refine s_region ?_
          refine w_pv rfl dC (want_none rfl) (p_val evA) ?_
          refine w_pv rfl dC (want_none rfl) (p_val evA) ?_
          refine w_pv rfl dC (want_none rfl) (p_fieldAddr (k := 0) rfl evA kR) ?_
          refine w_rd rfl dC (want_none rfl) (r_load1 rfl Try.underlying58 rfl evA hpA ceA) ?_
          refine w_rd rfl dC (want_none rfl) (r_len_map rfl Try.underlying58 evA him.1) ?_
          refine w_pv rfl dC (want_none rfl) (p_val evA) ?_
          refine w_nil ?_
          repeat refine s_seq ?_
          refine s_cond (t := false) slA ?_
          repeat refine s_seq ?_
          refine s_skip ?_
          have him2 := IsMapN.map him
          rw [kv_ey] at him2
          exact ⟨D, mb, rs, hp2, hDp, hDm, him2.1, him2.2, hts, hrow, ch2, hdm2, hd4, hd5, hb4w, hb5w, hcl2, slA, slA, slA⟩
    · clear h0 h4 h5 T hmap2 hdm2 ch2 hcl2 hb5w hb4w hp2 hd4 hd5 hDp
      rintro T h3 ⟨D', mb, rs, hp, hDp, hDm, him, hk1, rfl, hrow, hchg, hdm, hd4, hd5, hb4v, hb5v, hcl, h0, h4, h5⟩
      have hag : (Value.agg #[.int .i64 k.1.1, .int .i64 k.1.2.1, .int .u32 k.1.2.2, .int .u32 k.2.1, .int .u32 k.2.2]) = thV k := rfl
      repeat refine s_seq ?_
      refine s_draw [(0, true), (1, true), (2, true), (3, true), (4, true), (5, true), (6, true), (7, true), (8, true), (9, true)] [] [9] rfl kR kR ?_
      refine d_pv rfl rfl dC rfl rfl (want_none rfl) (p_val evA) ?_
      refine d_rd0 rfl rfl dC rfl rfl (want_none rfl) (fun _ => PureOp.read (p_val evA) _) ?_
      refine d_pv rfl rfl dC rfl rfl (want_none rfl) (p_fieldAddr (k := 0) rfl evA kR) ?_
      refine d_rd [_] rfl rfl dC rfl rfl (want_none rfl) (r_load1 rfl Try.underlying58 rfl evA (restr1 hpA) ceA) ?_
      refine d_rd [_] rfl rfl dC rfl rfl (want_none rfl) (r_loadN (n := 5) rfl Try.underlying57 rfl evA (restr1 hpA) kR szA) ?_
      refine d_rd [_] rfl rfl dC rfl rfl (want_none rfl) (r_loadN (n := 5) rfl Try.underlying57 rfl evA (restr1 hpA) kR szA) ?_
      refine d_rd [_] rfl rfl dC rfl rfl (want_none rfl) (r_loadN (n := 9) rfl Try.underlying55 rfl evA (restr1 hpA) kR szA) ?_
      refine d_qac rfl rfl dC (by decide) rfl (want_none rfl) (s_call rfl rfl Try.func47 kR kR evA ?_); refine (own_ok m sv hcl hn h1s).mono ?_; rintro r h6 ⟨hle6, sv2, rfl, hcl6, hone6, hnew6⟩; refine ⟨fun A _ h => A.mono _ _ hle6 h, ?_⟩; have him6 := him.le hle6
      refine d_pv rfl rfl dC rfl rfl (want_none rfl) (p_buildL (places := [(0, 5), (5, 1), (6, 9)]) (z := [.int .i64 0, .int .i64 0, .int .u32 0, .int .u32 0, .int .u32 0, .int .i64 0, .int .i64 0, .int .u32 0, .int .u32 0, .int .u32 0, .int .u32 0, .int .i64 0, .int .i64 0, .bool false, .slice none 0 0]) (cells := [_, _, _, _, _, .int .i64 0, _, _, _, _, _, _, _, _, _]) rfl evA kR kR (by rfl)) ?_
      refine d_lst rfl rfl dC (by decide) rfl (want_none rfl) (s_mapUpdate (k := k) (v := entV k 0 m sv2) thing_key rfl Try.underlying58 Try.underlying57 evA evA evA him6 hk1 ?_); intro ob him7
      refine d_nil ?_
      rw [put_kv] at him7
      have hk7 := putK_keys _ hk1 k (entV k 0 m sv2)
      rw [put_kv] at hk7
      have hoth : ∀ q o, q ≠ mb → h3 q = some o → (h6.set mb ob) q = some o := fun q o hq e => by rw [Heap.set_other _ _ hq]; exact hle6 q o e
      have hnmb : ∀ q, blockOf sv2 = some q → q ≠ mb := fun q e e1 => hdm mb hDm (by rw [← e1]; exact (hnew6 q e).1)
      have hpm : p ≠ mb := fun e => by
        obtain ⟨es, cl, e1, _⟩ := him.out
        rw [← e, hp] at e1; cases e1
      repeat refine s_seq ?_
      refine s_region ?_
      refine w_pv rfl dC (want_none rfl) (p_val evA) ?_
      refine w_nil ?_
      refine s_ret ⟨_, res_one rfl rfl, by simp only [pval, ev, upd, binVal, intBin, Option.map_some, ↓reduceIte, reduceCtorEq, Nat.reduceEqDiff, Nat.reduceBEq, List.map_toArray, List.map_cons, List.map_nil, cond_true, cond_false, decide_true, decide_false, Bool.not_true, Bool.not_false, Bool.true_and, Bool.false_and, Bool.and_true, Bool.and_false, beq_self_eq_true, bne_self_eq_false, List.getElem_toArray, List.getElem_cons_succ, List.getElem_cons_zero], fun b => D' b ∨ blockOf sv2 = some b, ⟨fun b o hd e => ?_, fun b hd => ?_⟩, ?_⟩
      · refine hoth b o (fun e1 => ?_) (hchg.keep b o hd e)
        rcases hchg.ext mb hDm with h8 | h8
        · exact hd (by rw [e1]; exact h8)
        · rw [e1, h8] at e; cases e
      · by_cases hDb : D b
        · exact .inl hDb
        · rcases hd with hd | hd
          · exact hchg.ext b hd
          · right
            have h8 := (hnew6 b hd).1
            cases e : h b with
            | none => rfl
            | some o => rw [hchg.keep b o hDb e] at h8; cases h8
      · rw [← put_t rs k m sv2]
        refine TableAt.of_map (mb := mb) (ty := ty) (hoth _ _ hpm hp) (Or.inl hDp) (Or.inl hDm) him7 hk7 (fun r hr => ?_) (fun b hd => ?_)
        · have hnew : ∀ β, RowD (h6.set mb ob) (fun b => D' b ∨ blockOf sv2 = some b) ⟨k, 0, m, sv2, β⟩ := fun β => ⟨hcl6.only fun q o hq e => by rw [Heap.set_other _ _ (hnmb q hq)]; exact e, fun b e => Or.inr e, hn, hone6, Int.le_refl 0, (by decide : (0 : Int) ≤ 3)⟩
          have hold : ∀ r ∈ rs, RowD (h6.set mb ob) (fun b => D' b ∨ blockOf sv2 = some b) r := fun r hr => by
            have x := hrow r hr
            refine ⟨(x.only (h' := h6.set mb ob) fun q o hq e hnm => hoth q o (fun e1 => ?_) e).cells, fun b e => Or.inl (x.blk b e), x.len, x.one, x.age0, x.age3⟩
            obtain ⟨es, cl, e2, _⟩ := him.out
            rw [e1, e2] at e
            exact hnm es cl (Option.some.inj e).symm
          split at hr
          · obtain ⟨y, hy, rfl⟩ := List.mem_map.1 hr
            split
            · exact hnew _
            · exact hold y hy
          · rcases List.mem_append.1 hr with hr | hr
            · exact hold r hr
            · rw [List.mem_singleton.1 hr]; exact hnew _
        · rcases hd with hd | hd
          · by_cases e1 : b = mb
            · rw [e1, Heap.set_same]; simp
            · cases e : h3 b with
              | none => exact absurd e (hdm b hd)
              | some o => rw [hoth b o e1 e]; simp
          · rw [Heap.set_other _ _ (hnmb b hd)]; exact (hnew6 b hd).2
end Go.Proofs.Ytielfejpnkcjbaa
