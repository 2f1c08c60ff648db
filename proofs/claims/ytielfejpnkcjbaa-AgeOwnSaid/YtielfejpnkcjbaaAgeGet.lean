/- Get of a table. -/
import Derived.Test.YtielfejpnkcjbaaAgeHearW
set_option linter.unusedVariables false
set_option linter.unusedSimpArgs false
namespace Go.Proofs.Ytielfejpnkcjbaa
open Sl
theorem tget_ok {h : Heap} {D : Nat → Prop} {p : Nat} {ts : List AT} (k : ThK) (t : TableAt h D p ts) (x : AT) (hx : x ∈ ts) (hxk : x.key = k) (huniq : ∀ y ∈ ts, y.key = k → y = x) :
    SCalls Try.prog 24 #[.pointer (some ⟨p, 0, none⟩), thV k] h (fun r h' => h.le h' ∧ ∃ sv, r = .tuple #[entV k x.age x.msg sv, .bool true] ∧ Cells h' 1 sv x.msg.srcs.length (x.msg.srcs.map (.int .u32)) ∧ x.msg.srcs.length ≤ 1000000 ∧ sv.oneCell' = true) := by
  refine s_enter Try.func24 rfl (by rw [Try.ntmps24]; simp) ?_
  rw [Try.ntmps24]
  generalize hT : T0 #[.pointer (some ⟨p, 0, none⟩), thV k] = T
  have h0 : T 0 = .pointer (some ⟨p, 0, none⟩) := by rw [← hT]; rfl
  have h1 : T 1 = .agg #[.int .i64 k.1.1, .int .i64 k.1.2.1, .int .u32 k.1.2.2, .int .u32 k.2.1, .int .u32 k.2.2] := by rw [← hT]; rfl
  clear hT
  repeat refine s_seq ?_
  refine s_region ?_
  refine w_al rfl dC (want_none rfl) (a_boxN rfl evA) ?_
  intro b3 hb3
  refine w_al rfl dC (want_none rfl) (a_allocZ (z := .agg #[.int .i64 0, .int .i64 0, .int .u32 0, .int .u32 0, .int .u32 0, .int .i64 0, .int .i64 0, .int .u32 0, .int .u32 0, .int .u32 0, .int .u32 0, .int .i64 0, .int .i64 0, .bool false, .slice none 0 0]) (zs := #[.int .i64 0, .int .i64 0, .int .u32 0, .int .u32 0, .int .u32 0, .int .i64 0, .int .i64 0, .int .u32 0, .int .u32 0, .int .u32 0, .int .u32 0, .int .i64 0, .int .i64 0, .bool false, .slice none 0 0]) rfl kR rfl) ?_
  intro b4 hb4
  have hne4_3 : b4 ≠ b3 := by rintro rfl; first | (simp [Heap.set] at hb4; done) | (simp [Heap.set] at hb4; split at hb4 <;> simp at hb4; done) | (simp [Heap.set] at hb4; (repeat' (split at hb4)) <;> simp_all)
  have hne3_4 := hne4_3.symm
  refine w_pv rfl dC (want_none rfl) (p_val evA) ?_
  refine w_nil ?_
  refine genH fun hx0 hh => ?_
  have hb3v : hx0 b3 = some (.cells #[.int .i64 k.1.1, .int .i64 k.1.2.1, .int .u32 k.1.2.2, .int .u32 k.2.1, .int .u32 k.2.2] 57 (0, 0)) := by rw [hh, Heap.set_other _ _ hne3_4]; exact Heap.set_same _ _ _
  have hb4v : ∃ cs, cs.size = 15 ∧ hx0 b4 = some (.cells cs 64 (0, 0)) := ⟨_, rfl, by rw [hh]; exact Heap.set_same _ _ _⟩
  obtain ⟨cs4, hcs4, hb4v⟩ := hb4v
  have hle : h.le hx0 := by rw [hh]; exact Heap.le_trans (Heap.le_set _ hb3) (Heap.le_set _ hb4)
  have hb4n : h b4 = none := by rw [Heap.set_other _ _ hne4_3] at hb4; exact hb4
  clear hh hb4
  have tx : TableAt hx0 D p ts := by
    obtain ⟨mv, ty, hp, hDp, hmap⟩ := t.out
    refine ⟨⟨mv, ty, hle _ _ hp, hDp, hmap.imp id fun ⟨mb, rs, cl, e1, e2, e3, e4, e5⟩ => ⟨mb, rs, cl, e1, e2, ⟨hle _ _ e3.1, e3.2⟩, e4, fun r hr => (e5 r hr).only fun b o _ e _ => hle b o e⟩⟩, fun b hb => ?_⟩
    cases e : h b with
    | none => exact absurd e (t.dom b hb)
    | some o => rw [hle b o e]; simp
  obtain ⟨mv, ty, vs, hp, hDp, hvs1, hvs15, hlook, _, hor⟩ := table_look tx k
  have hag : (Value.agg #[.int .i64 k.1.1, .int .i64 k.1.2.1, .int .u32 k.1.2.2, .int .u32 k.2.1, .int .u32 k.2.2]) = thV k := rfl
  have hany : (ts.any fun x => decide (x.key = k)) = true := List.any_eq_true.2 ⟨x, hx, by simpa using hxk⟩
  rw [hany] at hlook
  rcases hor with hno | ⟨x', hx', hk', sv, hvs, hrow⟩
  · exact absurd hxk (hno x hx)
  have := huniq x' hx' hk'
  subst this
  have hvs' : vs = #[.int .i64 k.1.1, .int .i64 k.1.2.1, .int .u32 k.1.2.2, .int .u32 k.2.1, .int .u32 k.2.2, .int .i64 x'.age, .int .i64 x'.msg.kind, .int .u32 x'.msg.frm, .int .u32 x'.msg.to, .int .u32 x'.msg.src, .int .u32 x'.msg.grp, .int .i64 x'.msg.rank, .int .i64 x'.msg.cost, .bool x'.msg.only, sv] := by
    unfold entV at hvs; exact Value.agg.inj hvs
  subst hvs'
  clear tx hany hvs
  have hone := hrow.one
  repeat refine s_seq ?_
  refine s_draw [(0, true), (1, true), (2, true), (3, true), (4, true), (5, true), (6, true), (7, true), (8, true), (9, true), (10, true), (11, true)] [] [10] rfl kR kR ?_
  refine d_pv rfl rfl dC rfl rfl (want_none rfl) (p_val evA) ?_
  refine d_rd0 rfl rfl dC rfl rfl (want_none rfl) (fun _ => PureOp.read (p_val evA) _) ?_
  refine d_pv rfl rfl dC rfl rfl (want_none rfl) (p_fieldAddr (k := 0) rfl evA kR) ?_
  refine d_rd [_] rfl rfl dC rfl rfl (want_none rfl) (r_load1 rfl Try.underlying58 rfl evA (restr1 hpA) ceA) ?_
  refine d_rd [_] rfl rfl dC rfl rfl (want_none rfl) (r_loadN (n := 5) rfl Try.underlying57 rfl evA (restr1 hpA) kR szA) ?_
  refine d_rd (mvBlk mv) rfl rfl dC rfl rfl (want_none rfl) (hlook rfl evA evA) ?_
  refine d_pv rfl rfl dC rfl rfl (want_none rfl) (p_val evA) ?_
  refine d_pv rfl rfl dC rfl rfl (want_none rfl) (p_val evA) ?_
  refine d_pv rfl rfl dC rfl rfl (want_none rfl) (p_val evA) ?_
  refine d_qal rfl rfl dC (by decide) rfl (want_none rfl) (a_allocZ (z := .agg #[.int .i64 0, .int .i64 0, .int .u32 0, .int .u32 0, .int .u32 0, .int .i64 0, .int .i64 0, .int .u32 0, .int .u32 0, .int .u32 0, .int .u32 0, .int .i64 0, .int .i64 0, .bool false, .slice none 0 0]) (zs := #[.int .i64 0, .int .i64 0, .int .u32 0, .int .u32 0, .int .u32 0, .int .i64 0, .int .i64 0, .int .u32 0, .int .u32 0, .int .u32 0, .int .u32 0, .int .i64 0, .int .i64 0, .bool false, .slice none 0 0]) rfl kR rfl) ?_
  intro b6 hb6
  refine d_lst rfl rfl dC (by decide) rfl (want_none rfl) (s_storeN (n := 15) rfl evA evA ocA kR szA kR hpA szA ?_)
  refine d_pv rfl rfl dC rfl rfl (want_none rfl) (p_val evA) ?_
  refine d_nil ?_
  rw [set_set]
  refine genH fun h2 hh => ?_
  have hb6v : h2 b6 = some (.cells #[.int .i64 k.1.1, .int .i64 k.1.2.1, .int .u32 k.1.2.2, .int .u32 k.2.1, .int .u32 k.2.2, .int .i64 x'.age, .int .i64 x'.msg.kind, .int .u32 x'.msg.frm, .int .u32 x'.msg.to, .int .u32 x'.msg.src, .int .u32 x'.msg.grp, .int .i64 x'.msg.rank, .int .i64 x'.msg.cost, .bool x'.msg.only, sv] 64 (0, 0)) := by rw [hh]; exact Heap.set_same _ _ _
  have hle2 : hx0.le h2 := by rw [hh]; exact Heap.le_set _ hb6
  clear hh hlook
  have hb4w := hle2 _ _ hb4v
  have hcl2 := hrow.cells.le hle2
  have hln := hrow.len
  have h46 : b4 ≠ b6 := fun e => by rw [e, hb6] at hb4v; cases hb4v
  have hb6n : h b6 = none := by
    cases e : h b6 with
    | none => rfl
    | some o => rw [hle b6 o e] at hb6; cases hb6
  have hmg : (Value.agg #[.int .i64 x'.msg.kind, .int .u32 x'.msg.frm, .int .u32 x'.msg.to, .int .u32 x'.msg.src, .int .u32 x'.msg.grp, .int .i64 x'.msg.rank, .int .i64 x'.msg.cost, .bool x'.msg.only, sv]) = msgV x'.msg sv := rfl
  repeat refine s_seq ?_
  refine s_region ?_
  refine w_pv rfl dC (want_none rfl) (p_fieldAddr (k := 6) rfl evA kR) ?_
  refine w_rd rfl dC (want_none rfl) (r_loadN (n := 9) rfl Try.underlying55 rfl evA hpA kR szA) ?_
  refine w_ac rfl dC (want_none rfl) (s_call rfl rfl Try.func47 kR kR evA ?_); refine (own_ok x'.msg sv hcl2 hln hone).mono ?_; rintro r h3 ⟨hle3, sv2, rfl, hcl3, hone3, hnew3⟩; have hb6w := hle3 _ _ hb6v
  refine w_pv rfl dC (want_none rfl) (p_fieldAddr (k := 6) rfl evA kR) ?_
  refine w_st rfl (want_none rfl) (s_storeN (n := 9) rfl evA evA ocA kR szA kR hpA szA ?_)
  refine w_nil ?_
  refine genH fun h4 hh => ?_
  have hb6x : h4 b6 = some (.cells #[.int .i64 k.1.1, .int .i64 k.1.2.1, .int .u32 k.1.2.2, .int .u32 k.2.1, .int .u32 k.2.2, .int .i64 x'.age, .int .i64 x'.msg.kind, .int .u32 x'.msg.frm, .int .u32 x'.msg.to, .int .u32 x'.msg.src, .int .u32 x'.msg.grp, .int .i64 x'.msg.rank, .int .i64 x'.msg.cost, .bool x'.msg.only, sv2] 64 (0, 0)) := by rw [hh]; exact Heap.set_same _ _ _
  have hk4 : ∀ q, q ≠ b6 → h4 q = h3 q := fun q hq => by rw [hh]; exact Heap.set_other _ _ hq
  clear hh
  have hb4x : h4 b4 = some (.cells cs4 64 (0, 0)) := by rw [hk4 _ h46]; exact hle3 _ _ hb4w
  have hs6 : ∀ b, blockOf sv2 = some b → b ≠ b6 ∧ b ≠ b4 := fun b e => ⟨fun e1 => (by have := (hnew3 b e).1; rw [e1, hb6v] at this; cases this), fun e1 => (by have := (hnew3 b e).1; rw [e1, hb4w] at this; cases this)⟩
  have hcl4 : Cells h4 1 sv2 x'.msg.srcs.length (x'.msg.srcs.map (.int .u32)) := hcl3.only fun q o hq e => by rw [hk4 q (hs6 q hq).1]; exact e
  have hle4 : h.le h4 := fun q o e => by
    rw [hk4 q (fun e1 => by rw [e1, hb6n] at e; cases e)]; exact hle3 q o (hle2 q o (hle q o e))
  have hsz4 : 0 + 15 ≤ cs4.size := by omega
  have hext : (#[.int .i64 k.1.1, .int .i64 k.1.2.1, .int .u32 k.1.2.2, .int .u32 k.2.1, .int .u32 k.2.2, .int .i64 x'.age, .int .i64 x'.msg.kind, .int .u32 x'.msg.frm, .int .u32 x'.msg.to, .int .u32 x'.msg.src, .int .u32 x'.msg.grp, .int .i64 x'.msg.rank, .int .i64 x'.msg.cost, .bool x'.msg.only, sv2] : Array Value).extract 0 (0 + 15) = #[.int .i64 k.1.1, .int .i64 k.1.2.1, .int .u32 k.1.2.2, .int .u32 k.2.1, .int .u32 k.2.2, .int .i64 x'.age, .int .i64 x'.msg.kind, .int .u32 x'.msg.frm, .int .u32 x'.msg.to, .int .u32 x'.msg.src, .int .u32 x'.msg.grp, .int .i64 x'.msg.rank, .int .i64 x'.msg.cost, .bool x'.msg.only, sv2] := Array.extract_size
  repeat refine s_seq ?_
  refine s_region ?_
  refine w_rd rfl dC (want_none rfl) (r_loadN (n := 15) rfl Try.underlying64 rfl evA hpA kR szA) ?_
  refine w_pv rfl dC (want_none rfl) (p_val evA) ?_
  refine w_st rfl (want_none rfl) (s_storeN (n := 15) rfl evA evA ocA kR szA kR hpA szA ?_)
  refine w_pv rfl dC (want_none rfl) (p_val evA) ?_
  refine w_nil ?_
  refine s_ret ⟨_, res_many (rs := [.cell 4 64, .tmp 5]) rfl (by simp) (.cons (res_cellN (n := 15) Try.underlying64 rfl slA (Heap.set_same _ _ _) kR (by simp [splice, hcs4])) (.cons rfl .nil)), Heap.le_set_of hle4 hb4n _, sv2, ?_, ?_, hln, hone3⟩
  · simp only [pval, ev, upd, binVal, intBin, Option.map_some, ↓reduceIte, reduceCtorEq, Nat.reduceEqDiff, Nat.reduceBEq, List.map_toArray, List.map_cons, List.map_nil, cond_true, cond_false, decide_true, decide_false, Bool.not_true, Bool.not_false, Bool.true_and, Bool.false_and, Bool.and_true, Bool.and_false, beq_self_eq_true, bne_self_eq_false, List.getElem_toArray, List.getElem_cons_succ, List.getElem_cons_zero]
    have : splice cs4 0 #[.int .i64 k.1.1, .int .i64 k.1.2.1, .int .u32 k.1.2.2, .int .u32 k.2.1, .int .u32 k.2.2, .int .i64 x'.age, .int .i64 x'.msg.kind, .int .u32 x'.msg.frm, .int .u32 x'.msg.to, .int .u32 x'.msg.src, .int .u32 x'.msg.grp, .int .i64 x'.msg.rank, .int .i64 x'.msg.cost, .bool x'.msg.only, sv2].toList = #[.int .i64 k.1.1, .int .i64 k.1.2.1, .int .u32 k.1.2.2, .int .u32 k.2.1, .int .u32 k.2.2, .int .i64 x'.age, .int .i64 x'.msg.kind, .int .u32 x'.msg.frm, .int .u32 x'.msg.to, .int .u32 x'.msg.src, .int .u32 x'.msg.grp, .int .i64 x'.msg.rank, .int .i64 x'.msg.cost, .bool x'.msg.only, sv2] := by
      unfold splice
      rw [List.drop_eq_nil_of_le (by simp; omega)]
      rfl
    exact congrArg (fun a => Value.tuple #[.agg a, .bool true]) this
  · exact hcl4.only fun q o hq e => by rw [Heap.set_other _ _ (hs6 q hq).2]; exact e
end Go.Proofs.Ytielfejpnkcjbaa
