/- Hear, Len. -/
import Derived.Test.YtielfejpnkcjbaaAgeSmall
import Derived.Test.YtielfejpnkcjbaaTrieGet
set_option linter.unusedVariables false
set_option linter.unusedSimpArgs false
namespace Go.Proofs.Ytielfejpnkcjbaa
open Sl
def putT (ts : List AT) (k : ThK) (m : MsgA) : List AT := if ts.any (fun x => decide (x.key = k)) then ts.map (fun x => if x.key = k then ⟨k, 0, m⟩ else x) else ts ++ [⟨k, 0, m⟩]
def kvR (r : Rc) : ThK × Value := (r.key, entV r.key r.age r.msg r.sv)
theorem rebirth : ∀ (n : List (Ey ThK)) (rs : List Rc), n.map unE = rs.map kvR → ∃ rs' : List Rc, rs'.map Rc.ey = n ∧ rs'.map Rc.t = rs.map Rc.t ∧ ∀ r' ∈ rs', ∃ r ∈ rs, ∃ β, r' = { r with born := β }
  | [], [], _ => ⟨[], rfl, rfl, by simp⟩
  | e :: n, [], h => by simp at h
  | [], r :: rs, h => by simp at h
  | e :: n, r :: rs, h => by
    simp only [List.map_cons, List.cons.injEq] at h
    obtain ⟨rs', h1, h2, h3⟩ := rebirth n rs h.2
    obtain ⟨ek, ev, eb⟩ := e
    have hk : ek = r.key := congrArg Prod.fst h.1
    have hv : ev = entV r.key r.age r.msg r.sv := congrArg Prod.snd h.1
    subst hk hv
    refine ⟨{ r with born := eb } :: rs', by simp [h1, Rc.ey], by simp [h2, Rc.t], fun r' hr' => ?_⟩
    rcases List.mem_cons.1 hr' with rfl | hr'
    · exact ⟨r, by simp, eb, rfl⟩
    · obtain ⟨x, hx, β, hβ⟩ := h3 r' hr'
      exact ⟨x, by simp [hx], β, hβ⟩
theorem kv_ey (rs : List Rc) : (rs.map Rc.ey).map unE = rs.map kvR := by rw [List.map_map]; rfl
theorem TableAt.of_map {h : Heap} {D : Nat → Prop} {p mb : Nat} {ty : TypeId} {rs : List Rc} (hp : h p = some (.cells #[.map (some mb)] ty (0, 0))) (hD : D p) (hDm : D mb) (im : IsMap h mb thV (rs.map kvR)) (k1 : Keys1 (rs.map kvR)) (hr : ∀ r ∈ rs, RowD h D r) (dom : ∀ b, D b → h b ≠ none) : TableAt h D p (rs.map Rc.t) := by
  obtain ⟨n, cl, h1, h2⟩ := im.named k1
  obtain ⟨rs', e1, e2, e3⟩ := rebirth n rs h1
  refine ⟨⟨_, ty, hp, hD, .inr ⟨mb, rs', cl, rfl, hDm, by rw [e1]; exact h2, e2.symm, fun r' hr' => ?_⟩⟩, dom⟩
  obtain ⟨r, hr2, β, rfl⟩ := e3 r' hr'
  have x := hr r hr2
  exact ⟨x.cells, x.blk, x.len, x.one, x.age0, x.age3⟩
theorem put_kv (rs : List Rc) (k : ThK) (m : MsgA) (sv : Value) : putK (rs.map kvR) k (entV k 0 m sv) = (if rs.any (fun x => decide (x.key = k)) then rs.map (fun x => if x.key = k then ⟨k, 0, m, sv, x.born⟩ else x) else rs ++ [⟨k, 0, m, sv, 0⟩]).map kvR := by
  have hh : hasK (rs.map kvR) k = rs.any (fun x => decide (x.key = k)) := by
    unfold hasK
    rw [List.any_map]
    congr 1
    funext x
    exact decide_eq_decide.2 eq_comm
  unfold putK
  rw [hh]
  split
  · rw [List.map_map, List.map_map]
    apply List.map_congr_left
    intro x _
    simp only [Function.comp, kvR]
    by_cases e : x.key = k
    · simp [e]
    · simp [e, Ne.symm e]
  · simp [kvR]
theorem put_t (rs : List Rc) (k : ThK) (m : MsgA) (sv : Value) : (if rs.any (fun x => decide (x.key = k)) then rs.map (fun x => if x.key = k then (⟨k, 0, m, sv, x.born⟩ : Rc) else x) else rs ++ [⟨k, 0, m, sv, 0⟩]).map Rc.t = putT (rs.map Rc.t) k m := by
  unfold putT
  have hh : (rs.map Rc.t).any (fun x => decide (x.key = k)) = rs.any (fun x => decide (x.key = k)) := by rw [List.any_map]; rfl
  rw [hh]
  split
  · rw [List.map_map, List.map_map]
    apply List.map_congr_left
    intro x _
    simp only [Function.comp, Rc.t]
    by_cases e : x.key = k <;> simp [e, Rc.t]
  · simp [Rc.t]
theorem tlen_ok {h : Heap} {D : Nat → Prop} {p : Nat} {ts : List AT} (t : TableAt h D p ts) :
    SCalls Try.prog 27 #[.pointer (some ⟨p, 0, none⟩)] h (fun r h' => h' = h ∧ r = .int .i64 (ts.length : Nat)) := by
  refine s_enter Try.func27 rfl (by rw [Try.ntmps27]; simp) ?_
  rw [Try.ntmps27]
  generalize hT : T0 #[.pointer (some ⟨p, 0, none⟩)] = T
  have h0 : T 0 = .pointer (some ⟨p, 0, none⟩) := by rw [← hT]; rfl
  clear hT
  obtain ⟨mv, ty, hp, hDp, hmap⟩ := t.out
  rcases hmap with ⟨rfl, rfl⟩ | ⟨mb, rs, cl, rfl, hDm, him, rfl, hrow⟩
  · repeat refine s_seq ?_
    refine s_region ?_
    refine w_pv rfl dC (want_none rfl) (p_val evA) ?_
    refine w_nil ?_
    repeat refine s_seq ?_
    refine s_region ?_
    refine w_pv rfl dC (want_none rfl) (p_val evA) ?_
    refine w_pv rfl dC (want_none rfl) (p_val evA) ?_
    refine w_pv rfl dC (want_none rfl) (p_fieldAddr (k := 0) rfl evA kR) ?_
    refine w_rd rfl dC (want_none rfl) (r_load1 rfl Try.underlying58 rfl evA hpA ceA) ?_
    refine w_rd rfl dC (want_none rfl) (r_len_map_nil rfl Try.underlying58 evA) ?_
    refine w_pv rfl dC (want_none rfl) (p_val evA) ?_
    refine w_nil ?_
    exact s_ret ⟨_, res_one rfl rfl, rfl, by simp only [pval, ev, upd, binVal, intBin, Option.map_some, ↓reduceIte, reduceCtorEq, Nat.reduceEqDiff, Nat.reduceBEq, List.map_toArray, List.map_cons, List.map_nil, cond_true, cond_false, decide_true, decide_false, Bool.not_true, Bool.not_false, Bool.true_and, Bool.false_and, Bool.and_true, Bool.and_false, beq_self_eq_true, bne_self_eq_false, List.getElem_toArray, List.getElem_cons_succ, List.getElem_cons_zero] <;> rfl⟩
  · repeat refine s_seq ?_
    refine s_region ?_
    refine w_pv rfl dC (want_none rfl) (p_val evA) ?_
    refine w_nil ?_
    repeat refine s_seq ?_
    refine s_region ?_
    refine w_pv rfl dC (want_none rfl) (p_val evA) ?_
    refine w_pv rfl dC (want_none rfl) (p_val evA) ?_
    refine w_pv rfl dC (want_none rfl) (p_fieldAddr (k := 0) rfl evA kR) ?_
    refine w_rd rfl dC (want_none rfl) (r_load1 rfl Try.underlying58 rfl evA hpA ceA) ?_
    refine w_rd rfl dC (want_none rfl) (r_len_map rfl Try.underlying58 evA him.1) ?_
    refine w_pv rfl dC (want_none rfl) (p_val evA) ?_
    refine w_nil ?_
    exact s_ret ⟨_, res_one rfl rfl, rfl, by simp only [pval, ev, upd, binVal, intBin, Option.map_some, ↓reduceIte, reduceCtorEq, Nat.reduceEqDiff, Nat.reduceBEq, List.map_toArray, List.map_cons, List.map_nil, cond_true, cond_false, decide_true, decide_false, Bool.not_true, Bool.not_false, Bool.true_and, Bool.false_and, Bool.and_true, Bool.and_false, beq_self_eq_true, bne_self_eq_false, List.getElem_toArray, List.getElem_cons_succ, List.getElem_cons_zero]; simp⟩
theorem has_any (rs : List Rc) (k : ThK) : ((rs.map Rc.t).any fun x => decide (x.key = k)) = hasK (rs.map kvR) k := by
  unfold hasK
  rw [List.any_map, List.any_map]
  congr 1
  funext x
  exact decide_eq_decide.2 eq_comm
/-- What a key's lookup in a table gives. -/
theorem table_look {h : Heap} {D : Nat → Prop} {p : Nat} {ts : List AT} (t : TableAt h D p ts) (k : ThK) : ∃ (mv : Value) (ty : TypeId) (vs : Array Value), h p = some (.cells #[mv] ty (0, 0)) ∧ D p ∧ vs.all (·.oneCell') = true ∧ vs.size = 15 ∧
    (∀ {o : Oper} {ρ : Operand → Value} {mo x : Operand}, o.op = .lookup 58 mo x true → ρ mo = mv → ρ x = thV k → ReadOp Try.prog o ρ (fun b => if b ∈ mvBlk mv then h b else none) (.tuple #[.agg vs, .bool (ts.any fun x => decide (x.key = k))])) ∧
    ((mv = .map none ∧ ts = []) ∨ ∃ (mb : Nat) (rs : List Rc) (cl : Nat), mv = .map (some mb) ∧ D mb ∧ IsMapN h mb thV (rs.map Rc.ey) cl ∧ ts = rs.map Rc.t ∧ ∀ r ∈ rs, RowD h D r) ∧
    ((∀ x ∈ ts, x.key ≠ k) ∨ ∃ x ∈ ts, x.key = k ∧ ∃ sv, Value.agg vs = entV k x.age x.msg sv ∧ RowD h D ⟨k, x.age, x.msg, sv, 0⟩) := by
  obtain ⟨mv, ty, hp, hDp, hmap⟩ := t.out
  have hz : zeroV Try.prog 64 = some (.agg #[.int .i64 0, .int .i64 0, .int .u32 0, .int .u32 0, .int .u32 0, .int .i64 0, .int .i64 0, .int .u32 0, .int .u32 0, .int .u32 0, .int .u32 0, .int .i64 0, .int .i64 0, .bool false, .slice none 0 0]) := by kernel_rfl
  rcases hmap with ⟨rfl, rfl⟩ | ⟨mb, rs, cl, rfl, hDm, him, rfl, hrow⟩
  · refine ⟨_, ty, #[.int .i64 0, .int .i64 0, .int .u32 0, .int .u32 0, .int .u32 0, .int .i64 0, .int .i64 0, .int .u32 0, .int .u32 0, .int .u32 0, .int .u32 0, .int .i64 0, .int .i64 0, .bool false, .slice none 0 0], hp, hDp, by simp [Value.oneCell'], rfl, ?_, .inl ⟨rfl, rfl⟩, .inl (by simp)⟩
    intro o ρ mo x ho hm hx
    have := r_lookup_nilZ (h := fun b => if b ∈ mvBlk (.map none) then h b else none) (ok := true) (k := k) thing_key ho Try.underlying58 Try.underlying57 hz hm hx
    rw [if_pos rfl] at this
    exact this
  · have him2 := him.map
    rw [kv_ey] at him2
    have hany : ∀ b : Bool, hasK (rs.map kvR) k = b → ((rs.map Rc.t).any fun x => decide (x.key = k)) = b := by
      intro b hb
      rw [← hb]; exact has_any rs k
    have hlook : ∀ {o : Oper} {ρ : Operand → Value} {mo x : Operand}, o.op = .lookup 58 mo x true → ρ mo = .map (some mb) → ρ x = thV k → ReadOp Try.prog o ρ (fun b => if b ∈ mvBlk (.map (some mb)) then h b else none) (.tuple #[(getK (rs.map kvR) k).getD (.agg #[.int .i64 0, .int .i64 0, .int .u32 0, .int .u32 0, .int .u32 0, .int .i64 0, .int .i64 0, .int .u32 0, .int .u32 0, .int .u32 0, .int .u32 0, .int .i64 0, .int .i64 0, .bool false, .slice none 0 0]), .bool (hasK (rs.map kvR) k)]) := by
      intro o ρ mo x ho hm hx
      have := r_lookupZ (h := fun b => if b ∈ mvBlk (.map (some mb)) then h b else none) (ok := true) (k := k) thing_key ho Try.underlying58 Try.underlying57 hz hm hx (him2.1.of (by simp [mvBlk]))
      simp only [if_true] at this
      exact this
    cases hk : hasK (rs.map kvR) k with
    | false =>
      have hg := (getK_none (rs.map kvR) k).2 hk
      refine ⟨_, ty, #[.int .i64 0, .int .i64 0, .int .u32 0, .int .u32 0, .int .u32 0, .int .i64 0, .int .i64 0, .int .u32 0, .int .u32 0, .int .u32 0, .int .u32 0, .int .i64 0, .int .i64 0, .bool false, .slice none 0 0], hp, hDp, by simp [Value.oneCell'], rfl, ?_, .inr ⟨mb, rs, cl, rfl, hDm, him, rfl, hrow⟩, .inl fun x hx e => ?_⟩
      · intro o ρ mo x ho hm hx
        have := hlook ho hm hx
        rw [hg, hk] at this
        rw [hany _ hk]
        exact this
      · have := hany _ hk
        rw [List.any_eq_false] at this
        exact this x hx (by simpa using e)
    | true =>
      obtain ⟨v, hv⟩ : ∃ v, getK (rs.map kvR) k = some v := by
        cases e : getK (rs.map kvR) k with
        | some v => exact ⟨v, rfl⟩
        | none => rw [(getK_none (rs.map kvR) k).1 e] at hk; cases hk
      obtain ⟨r, hr, hrk, hrv⟩ : ∃ r ∈ rs, r.key = k ∧ entV r.key r.age r.msg r.sv = v := by
        unfold getK at hv
        rw [Option.map_eq_some_iff] at hv
        obtain ⟨pr, h1, h2⟩ := hv
        have hmem := List.mem_of_find?_eq_some h1
        have hpk := List.find?_some h1
        obtain ⟨r, hr, rfl⟩ := List.mem_map.1 hmem
        exact ⟨r, hr, (of_decide_eq_true hpk).symm, h2⟩
      subst hrk
      have hx := hrow r hr
      have hone := hx.one
      refine ⟨_, ty, #[.int .i64 r.key.1.1, .int .i64 r.key.1.2.1, .int .u32 r.key.1.2.2, .int .u32 r.key.2.1, .int .u32 r.key.2.2, .int .i64 r.age, .int .i64 r.msg.kind, .int .u32 r.msg.frm, .int .u32 r.msg.to, .int .u32 r.msg.src, .int .u32 r.msg.grp, .int .i64 r.msg.rank, .int .i64 r.msg.cost, .bool r.msg.only, r.sv], hp, hDp, by simp [Value.oneCell']; exact hone, rfl, ?_, .inr ⟨mb, rs, cl, rfl, hDm, him, rfl, hrow⟩, .inr ⟨r.t, List.mem_map.2 ⟨r, hr, rfl⟩, rfl, r.sv, rfl, ⟨hx.cells, hx.blk, hx.len, hx.one, hx.age0, hx.age3⟩⟩⟩
      intro o ρ mo x ho hm hx
      have := hlook ho hm hx
      rw [hv, hk] at this
      rw [hany _ hk]
      rw [← hrv] at this
      exact this
end Go.Proofs.Ytielfejpnkcjbaa
