import Derived.Test.YtielfejpnkcjbaaQh3
/- What acts: the theorem. -/
set_option linter.unusedVariables false
set_option linter.unusedSimpArgs false
namespace Go.Proofs.Ytielfejpnkcjbaa.Ab
open Go.Proofs.Ytielfejpnkcjbaa.Sl
section
variable {P : Program} {h0 : Gd} {β : Nat → Value} {hF h : Heap} {Tc : Tm} {T : AT} {L : AL} {σ : AS} {o : Oper} {ra : RA}
theorem areps1 {β : Nat → Value} {hF : Heap} {a : AV} {v : Value} (r : ARep β hF a v) : AReps β hF [a] [v] := ⟨rfl, fun j c u e1 e2 => by
  cases j with
  | zero => cases e1; cases e2; exact r
  | succ j => simp at e1⟩
theorem AReps.set {cs : List AV} {vs : List Value} (r : AReps β hF cs vs) {p : Nat} {a : AV} {v : Value} (ra : ARep β hF a v) : AReps β hF (cs.set p a) (vs.set p v) :=
  ⟨by simp [r.1], fun j c u e1 e2 => by
    by_cases hj : p = j
    · subst hj
      rw [List.getElem?_set] at e1 e2
      simp only [if_true] at e1 e2
      split at e1
      · split at e2
        · cases e1; cases e2; exact ra
        · cases e2
      · cases e1
    · rw [List.getElem?_set_ne hj] at e1 e2
      exact r.2 j c u e1 e2⟩
theorem AReps.appA {a b : List AV} {x y : List Value} (r : AReps β hF a x) (q : AReps β hF b y) : AReps β hF (a ++ b) (x ++ y) :=
  ⟨by simp [r.1, q.1], fun j c v e1 e2 => by
    rcases Nat.lt_or_ge j a.length with hj | hj
    · rw [List.getElem?_append_left hj] at e1
      rw [List.getElem?_append_left (by rw [r.1]; exact hj)] at e2
      exact r.2 j c v e1 e2
    · rw [List.getElem?_append_right hj] at e1
      rw [List.getElem?_append_right (by rw [r.1]; exact hj), r.1] at e2
      exact q.2 _ c v e1 e2⟩
theorem AReps.takeA {cs : List AV} {vs : List Value} (r : AReps β hF cs vs) (n : Nat) : AReps β hF (cs.take n) (vs.take n) :=
  ⟨by simp [r.1], fun j c v a b => by
    rw [List.getElem?_take] at a b
    split at a
    · rename_i hj; rw [if_pos hj] at b; exact r.2 _ c v a b
    · cases a⟩
theorem AReps.dropA {cs : List AV} {vs : List Value} (r : AReps β hF cs vs) (n : Nat) : AReps β hF (cs.drop n) (vs.drop n) :=
  ⟨by simp [r.1], fun j c v a b => by rw [List.getElem?_drop] at a b; exact r.2 _ c v a b⟩
theorem FReps.takeF {cs : List FV} {vs : List Value} (r : FReps hF cs vs) (n : Nat) : FReps hF (cs.take n) (vs.take n) := by
  have := FReps.take r 0 n
  simpa using this
theorem FReps.dropF {cs : List FV} {vs : List Value} (r : FReps hF cs vs) (n : Nat) : FReps hF (cs.drop n) (vs.drop n) := by
  have := FReps.take r n cs.length
  rwa [List.take_of_length_le (by simp), List.take_of_length_le (by simp [r.1])] at this
theorem FReps.one1 {cs : List FV} {vs : List Value} (r : FReps hF cs vs) (h1 : cs.all FV.one = true) : ∀ v ∈ vs, v.oneCell' = true := fun v hv => by
  obtain ⟨j, hj, rfl⟩ := List.mem_iff_getElem.1 hv
  have hc : j < cs.length := by rw [← r.1]; exact hj
  exact (r.2 j _ _ (List.getElem?_eq_getElem hc) (List.getElem?_eq_getElem hj)).one (List.all_eq_true.1 h1 _ (List.getElem_mem hc))
/-- A store into cells of an object. -/
theorem box_put (s : Ok h0 β hF h σ) {id : Nat} {t : TypeId} {cells : List AV} (hl : lookS σ id = some (.box t cells)) {b : Nat} (hb : baseOf (β id) = some b) :
    ∃ vs : List Value, h b = some (.cells vs.toArray t (0, 0)) ∧ vs.length = cells.length ∧ ∀ (cs' : List AV) (vs' : List Value), AReps β hF cs' vs' → (AReps β hF cells vs → AReps β hF cs' vs') → Ok h0 β hF (h.set b (.cells vs'.toArray t (0, 0))) (setS σ id (.box t cs')) := by
  obtain ⟨b', vs, h1, h2, h3⟩ := s.ok _ (lookS_mem hl)
  have hbb : b' = b := by simp only [h1, baseOf, Option.some.injEq] at hb; exact hb
  subst hbb
  exact ⟨vs, h2, h3.1, fun cs' vs' r _ => s.put hl rfl hb rfl ⟨b', vs', h1, Heap.set_same _ _ _, r⟩⟩
theorem box_rep (s : Ok h0 β hF h σ) {id : Nat} {t : TypeId} {cells : List AV} (hl : lookS σ id = some (.box t cells)) {b : Nat} (hb : baseOf (β id) = some b) {vs : List Value} (hh : h b = some (.cells vs.toArray t (0, 0))) : AReps β hF cells vs := by
  obtain ⟨b', vs', h1, h2, h3⟩ := s.ok _ (lookS_mem hl)
  have hbb : b' = b := by simp only [h1, baseOf, Option.some.injEq] at hb; exact hb
  subst hbb
  rw [h2] at hh
  simp only [Option.some.injEq, Obj.cells.injEq, and_true] at hh
  have : vs' = vs := by simpa using hh
  rw [← this]; exact h3
/-- A store into an element of an object's slice. -/
theorem rows_put (s : Ok h0 β hF h σ) {id sz : Nat} {t : TypeId} {rows : List (List FV)} (hl : lookS σ id = some (.rows t sz rows)) {b : Nat} (hb : baseOf (β id) = some b) {i p k : Nat} (hi : i < rows.length) (hp : p + k ≤ sz) :
    ∃ full, h b = some (.cells full t (0, 0)) ∧ i * sz + p + k ≤ full.size ∧ ∀ (ys : List FV) (us : List Value), ys.length = k → FReps hF ys us → ys.all FV.one = true →
      Ok h0 β hF (h.set b (.cells (splice full (i * sz + p) us) t (0, 0))) (setS σ id (.rows t sz (rows.set i ((rows.getD i []).take p ++ ys ++ (rows.getD i []).drop (p + k))))) := by
  obtain ⟨vs, own, hlen, hone, reps⟩ := s.ok _ (lookS_mem hl)
  obtain ⟨b', c, full, hv, hh, hcap, hset⟩ := own_splice own hi hp
  have hbb : b' = b := by simp only at hv; simp only [hv, baseOf, Option.some.injEq] at hb; exact hb
  subst hbb
  have hrow : rows.getD i [] = rows[i] := by rw [List.getD_eq_getElem?_getD, List.getElem?_eq_getElem hi]; rfl
  have hrl : (rows.getD i []).length = sz := by rw [hrow]; exact hlen _ (List.getElem_mem hi)
  refine ⟨full, hh, hcap, fun ys us hk r h1 => s.put hl rfl hb rfl ⟨vs.take (i * sz + p) ++ us ++ vs.drop (i * sz + p + k), ?_, ?_, ?_, ?_⟩⟩
  · rw [List.length_set]; exact hset us (by rw [r.1, hk])
  · intro r' hr'
    rcases List.mem_or_eq_of_mem_set hr' with h2 | h2
    · exact hlen _ h2
    · rw [h2]; simp only [List.length_append, List.length_take, List.length_drop, hrl, hk]; omega
  · intro r' hr'
    rcases List.mem_or_eq_of_mem_set hr' with h2 | h2
    · exact hone _ h2
    · have h3 := hone _ (List.getElem_mem hi)
      rw [h2, hrow]
      simp only [List.all_append, Bool.and_eq_true, List.all_eq_true] at h1 h3 ⊢
      exact ⟨⟨fun x hx => h3 x (List.mem_of_mem_take hx), h1⟩, fun x hx => h3 x (List.mem_of_mem_drop hx)⟩
  · have hflat := flat_set hlen i hi ((rows.getD i []).take p ++ ys ++ (rows.getD i []).drop (p + k)) (by simp only [List.length_append, List.length_take, List.length_drop, hrl, hk]; omega)
    rw [hflat]
    have hf : rows.flatten.length = rows.length * sz := flat_len hlen
    have h5 : (i + 1) * sz ≤ rows.length * sz := Nat.mul_le_mul_right _ hi
    rw [Nat.succ_mul] at h5
    have e1 : rows.flatten.take (i * sz) ++ ((rows.getD i []).take p ++ ys ++ (rows.getD i []).drop (p + k)) ++ rows.flatten.drop (i * sz + sz) = rows.flatten.take (i * sz + p) ++ ys ++ rows.flatten.drop (i * sz + p + k) := by
      have hg : ∀ j, j < sz → rows.flatten[i * sz + j]? = (rows.getD i [])[j]? := fun j hj => by
        rw [flat_get hlen i j hj, hrow, List.getElem?_eq_getElem hi]; rfl
      have hd : (rows.flatten.drop (i * sz)).take sz = rows.getD i [] := by
        apply List.ext_getElem?
        intro j
        by_cases hj : j < sz
        · rw [List.getElem?_take_of_lt hj, List.getElem?_drop, hg j hj]
        · rw [List.getElem?_eq_none (by simp; omega), List.getElem?_eq_none (by omega)]
      have h6 : rows.flatten.take (i * sz + p) = rows.flatten.take (i * sz) ++ (rows.getD i []).take p := by
        rw [List.take_add, ← hd, List.take_take, Nat.min_eq_left (by omega)]
      have h7 : rows.flatten.drop (i * sz + p + k) = (rows.getD i []).drop (p + k) ++ rows.flatten.drop (i * sz + sz) := by
        rw [← hd, List.drop_take, List.drop_drop, ← Nat.add_assoc]
        have h8 : rows.flatten.drop (i * sz + sz) = (rows.flatten.drop (i * sz + p + k)).drop (sz - (p + k)) := by rw [List.drop_drop]; congr 1; omega
        rw [h8, List.take_append_drop]
      rw [h6, h7]; simp only [List.append_assoc]
    rw [e1]
    exact ((reps.takeF _).app r).app (reps.dropF _)
theorem srcRows_ok (s : Sem h0 β hF h Tc T L σ) {ch : List (Nat × Bool)} (hch : ∀ x ∈ ch, Tc x.1 = .bool x.2) {y : Operand} {sz : Nat} {q : Prop} {news : List (List FV)} (e : srcRows σ sz (opd L T ch y) = some (q, news)) (hq : q) :
    (∀ r ∈ news, r.length = sz) ∧ ∃ ws, Cells h sz (ev Tc y) news.length ws ∧ FReps hF news.flatten ws := by
  unfold srcRows at e
  split at e
  · rename_i x hx
    split at e
    · rename_i n f hy
      cases e
      have hv := fz_fz (opd_ok s hch hx)
      have hl : ∀ r ∈ rowsOf n f, r.length = sz := fun r hr => by
        obtain ⟨i, hi, rfl⟩ := List.mem_map.1 hr
        exact hq i (List.mem_range.1 hi)
      refine ⟨hl, ?_⟩
      have hnl : (rowsOf n f).length = n := by simp [rowsOf]
      unfold asSl at hy
      split at hy
      case h_3 => cases hy
      case h_2 =>
        cases hy
        have hvv := fz_val (opd_ok s hch hx)
        rw [hvv]
        exact ⟨[], .zero _ _, FReps.nil _⟩
      cases hy
      generalize ev Tc y = v at hv
      cases hv with
      | sl0 f a c => exact ⟨[], .zero _ _, FReps.nil _⟩
      | @sl n f b off c sz' full ty fz hb hnc hsz h1' hs' hr =>
        by_cases hn0 : n = 0
        · subst hn0; exact ⟨[], .zero _ _, FReps.nil _⟩
        have hss : sz' = sz := by rw [← hsz 0 (by omega)]; exact hq 0 (by omega)
        subst hss
        have hlen : ((full.toList.drop off).take (n * sz')).length = n * sz' := by simp; omega
        refine ⟨(full.toList.drop off).take (n * sz'), by rw [hnl]; exact .at_ (s.ok.le _ _ hb) hlen hnc rfl, ?_, ?_⟩
        · rw [hlen, flat_len hl, hnl]
        · intro j c' v e1 e2
          have hj : j < n * sz' := by have := (List.getElem?_eq_some_iff.1 e2).1; omega
          have hs0 : 0 < sz' := Nat.pos_of_ne_zero fun e3 => by subst e3; simp at hj
          have hj2 : j / sz' < n := (Nat.div_lt_iff_lt_mul hs0).2 hj
          have hj3 : j % sz' < sz' := Nat.mod_lt _ hs0
          have hj4 : j / sz' * sz' + j % sz' = j := by rw [Nat.mul_comm]; exact Nat.div_add_mod j sz'
          rw [← hj4, flat_get hl _ _ hj3] at e1
          have hrow : (rowsOf n f)[j / sz']? = some (f (j / sz')) := by simp [rowsOf, hj2]
          rw [hrow] at e1
          refine hr (j / sz') (j % sz') c' v hj2 e1 ?_
          rw [List.getElem?_take_of_lt hj, List.getElem?_drop, Array.getElem?_toList] at e2
          rw [← e2]; congr 1; omega
    · cases e
  · rename_i id hx
    split at e
    · rename_i t sz' rows hσ
      split at e
      · rename_i hsz
        subst hsz
        cases e
        obtain ⟨vs, own, hlen, hone, reps⟩ := s.ok.ok _ (lookS_mem hσ)
        have hv := opd_ok s hch hx
        generalize ev Tc y = v at hv
        cases hv
        exact ⟨hlen, vs, own.cells, reps⟩
      · cases e
    · cases e
  · cases e
theorem blk_base {e : TypeId} {sz n : Nat} {v : Value} {cs : List Value} (x : Own h e sz v n cs) : blockOf v = baseOf v := by cases x <;> rfl
theorem rowsP_ok {o : Operand → Option AV} (ho : ∀ x av, o x = some av → ARep β hF av (ev Tc x)) : ∀ {l : List (Nat × Operand)} {rows : List (List FV)}, rowsP o l = some rows →
    rows.length = l.length ∧ FReps hF rows.flatten (l.flatMap fun p => (ev Tc p.2).cells.toList) ∧ ∀ (i : Nat) (r : List FV) (p : Nat × Operand), rows[i]? = some r → l[i]? = some p → FReps hF r (ev Tc p.2).cells.toList
  | [], rows, e => by cases e; exact ⟨rfl, FReps.nil _, fun i r p h => by simp at h⟩
  | (i, x) :: l, rows, e => by
    unfold rowsP at e
    split at e
    · rename_i y hy
      split at e
      · rename_i ys hys
        cases e
        obtain ⟨h1, h2, h3⟩ := rowsP_ok ho hys
        have r := cells_ok (fz_fz (ho x _ hy))
        refine ⟨by simp [h1], ?_, fun j r' p e1 e2 => ?_⟩
        · rw [List.flatten_cons, List.flatMap_cons]; exact r.app h2
        · cases j with
          | zero => cases e1; cases e2; exact r
          | succ j => exact h3 j r' p (by simpa using e1) (by simpa using e2)
      · cases e
    · cases e
end
end Go.Proofs.Ytielfejpnkcjbaa.Ab

/- What acts: the theorem over all kinds. -/
set_option linter.unusedVariables false
set_option linter.unusedSimpArgs false
namespace Go.Proofs.Ytielfejpnkcjbaa.Ab
open Go.Proofs.Ytielfejpnkcjbaa.Sl
section
variable {P : Program} {h0 : Gd} {β : Nat → Value} {hF h : Heap} {Tc : Tm} {T : AT} {L : AL} {σ : AS} {o : Oper} {ra : RA}
theorem areps_fzv (hF : Heap) (β : Nat → Value) (zs : List Value) : AReps β hF (zs.map fun v => .fz (.val v)) zs :=
  ⟨by simp, fun j c v a b => by
    rw [List.getElem?_map, b] at a; cases a; exact .fz (.val v)⟩
theorem freps_val (hF : Heap) (zs : List Value) : FReps hF (zs.map .val) zs :=
  ⟨by simp, fun j c v a b => by
    rw [List.getElem?_map, b] at a; cases a; exact .val v⟩
theorem pa_box (s : Sem h0 β hF h Tc T L σ) {ch : List (Nat × Bool)} (hch : ∀ x ∈ ch, Tc x.1 = .bool x.2) {t : TypeId} {x : Operand} {z : Bool} {d : Option Nat} (hop : o.op = (K.box t x z).op) (e : pa T L σ (opd L T ch) d (.box t x z) = some ra) : SOp P o (ev Tc) h (AcOk h0 β hF h σ ra) := by
  simp only [pa] at e
  split at e
  · rename_i y d hx
    have hv := fz_fz (opd_ok s hch hx)
    have hc := cells_ok hv
    split at e
    · cases e
      refine ac_new s.ok (a_box hop) (fun b hb => .fz ?_) rfl
      exact .fp (off := 0) (Heap.set_same _ _ _) (by have := hc.1; simp at this ⊢; omega) (fun j c u a e => (hc.2 j c u a (by rw [Array.getElem?_toList]; rw [Nat.zero_add] at e; exact e)).le (Heap.le_set _ (s.ok.fnone hb)))
    · split at e
      · rename_i hd
        cases e
        refine ac_obj (x := .box t (y.cells.map .fz)) s.ok hd (a_box hop) rfl (fun b => rfl) (fun b hb => ⟨b, (ev Tc x).cells.toList, by simp [upd], by rw [Heap.set_same], AReps.fz hc⟩) (fun b => ?_) rfl
        have := ARep.oe (β := upd β d (.pointer (some ⟨b, 0, none⟩))) (h := hF) (id := d) (sz := y.cells.length) (i := 0) (off := 0) (b := b) (by simp [upd, baseOf])
        simpa using this
      · cases e
  · rename_i id d hx
    split at e
    · rename_i t' sz rows hσ
      split at e
      · rename_i hd
        cases e
        have hne : id ≠ d := fun e2 => opd_nm hd hx (by rw [e2]; rfl)
        have h1 := opd_ok s hch hx
        generalize hv : ev Tc x = v at h1
        cases h1
        have hcell : (ev Tc x).cells = #[β id] := by
          obtain ⟨vs, own, _⟩ := s.ok.ok _ (lookS_mem hσ)
          rw [hv]
          generalize rows.length = n at own
          generalize β id = v at own
          cases own <;> rfl
        refine ac_obj (x := .box t [.os id]) s.ok hd (a_box hop) rfl (fun b => rfl) (fun b hb => ⟨b, [β id], by simp [upd], by rw [Heap.set_same, hcell], ?_⟩) (fun b => ?_) rfl
        · refine areps1 ?_
          have := ARep.os (β := upd β d (.pointer (some ⟨b, 0, none⟩))) (h := hF) id
          simpa [upd, hne] using this
        · have := ARep.oe (β := upd β d (.pointer (some ⟨b, 0, none⟩))) (h := hF) (id := d) (sz := 1) (i := 0) (off := 0) (b := b) (by simp [upd, baseOf])
          simpa using this
      · cases e
    · cases e
  · rename_i id sz i p d hx
    split at e
    · rename_i hd
      cases e
      have hne : id ≠ d := fun e2 => opd_nm hd hx (by rw [e2]; rfl)
      have h1 := opd_ok s hch hx
      generalize hv : ev Tc x = v at h1
      cases h1 with
      | @oe _ _ _ _ b0 hb0 =>
        have hcell : (ev Tc x).cells = #[.pointer (some ⟨b0, i * sz + p, none⟩)] := by rw [hv]; rfl
        refine ac_obj (x := .box t [.oe id sz i p]) s.ok hd (a_box hop) rfl (fun b => rfl) (fun b hb => ⟨b, [.pointer (some ⟨b0, i * sz + p, none⟩)], by simp [upd], by rw [Heap.set_same, hcell], ?_⟩) (fun b => ?_) rfl
        · refine areps1 (.oe ?_)
          simp [upd, hne, hb0]
        · have := ARep.oe (β := upd β d (.pointer (some ⟨b, 0, none⟩))) (h := hF) (id := d) (sz := 1) (i := 0) (off := 0) (b := b) (by simp [upd, baseOf])
          simpa using this
    · cases e
  · cases e
theorem pa_alc (s : Sem h0 β hF h Tc T L σ) {ch : List (Nat × Bool)} {t : TypeId} {zs : List Value} {z : Bool} {d : Option Nat} (hop : o.op = (K.alc t zs z).op) (hs : (K.alc t zs z).side P = true) (e : pa T L σ (opd L T ch) d (.alc t zs z) = some ra) : SOp P o (ev Tc) h (AcOk h0 β hF h σ ra) := by
  simp only [K.side, Bool.and_eq_true] at hs
  obtain ⟨zv, hz, hzc⟩ := zeroIs_V hs.1
  have hp : AllocOp P o (ev Tc) (.cells zs.toArray t) (fun b => .pointer (some ⟨b, 0, none⟩)) := a_allocZ hop hz hzc
  simp only [pa] at e
  split at e
  · rename_i d
    split at e
    · cases e
      refine ac_new s.ok hp (fun b hb => .fz ?_) rfl
      have hc := freps_val (hF.set b (.cells zs.toArray t)) zs
      exact .fp (off := 0) (Heap.set_same _ _ _) (by simp) (fun j c u a e => hc.2 j c u a (by rw [Nat.zero_add] at e; simpa using e))
    · split at e
      · rename_i hd
        cases e
        refine ac_obj (x := .box t (zs.map fun v => .fz (.val v))) s.ok hd hp rfl (fun b => rfl) (fun b hb => ⟨b, zs, by simp [upd], Heap.set_same _ _ _, areps_fzv _ _ zs⟩) (fun b => ?_) rfl
        have := ARep.oe (β := upd β d (.pointer (some ⟨b, 0, none⟩))) (h := hF) (id := d) (sz := zs.length) (i := 0) (off := 0) (b := b) (by simp [upd, baseOf])
        simpa using this
      · cases e
  · cases e
/-- A store has turned object id. -/
theorem ac_put {id : Nat} {x : OO} {b : Nat} {ob : Obj} {q : Prop} (s : Ok h0 β hF h σ) (hb : baseOf (β id) = some b) (hm : ∃ y, (id, y) ∈ σ) (k : Ok h0 β hF (h.set b ob) (setS σ id x)) : AcOk h0 β hF h σ ⟨q, .hid, setS σ id x, some id, none, none⟩ undef (h.set b ob) := by
  refine ⟨β, hF, k, Heap.le_refl _, fun _ _ _ => rfl, .hid _, fun e he hne b' e1 => Heap.set_other _ _ fun e2 => ?_⟩
  obtain ⟨y, hy⟩ := hm
  exact s.sep e he _ hy b' (fun e3 => hne (by rw [e3])) e1 (by rw [e2]; exact (s.ok _ hy).fp hb)
theorem pa_st (s : Sem h0 β hF h Tc T L σ) {ch : List (Nat × Bool)} (hch : ∀ x ∈ ch, Tc x.1 = .bool x.2) {t : TypeId} {x y : Operand} {d : Option Nat} (hop : o.op = (K.st t x y).op) (hs : (K.st t x y).side P = true) (e : pa T L σ (opd L T ch) d (.st t x y) = some ra) (hob : ra.ob) : SOp P o (ev Tc) h (AcOk h0 β hF h σ ra) := by
  simp only [K.side, Bool.and_eq_true, beq_iff_eq] at hs
  simp only [pa] at e
  split at e
  · rename_i id sz i p a hx hy
    have h1 := opd_ok s hch hx
    have h2 := opd_ok s hch hy
    generalize hv : ev Tc x = v at h1
    cases h1 with
    | @oe _ _ _ _ b hb =>
      split at e
      · rename_i t' cells hσ
        obtain ⟨vs, hh, hl, hput⟩ := box_put s.ok hσ hb
        have hrep := box_rep s.ok hσ hb hh
        have one : ∀ {a' : AV}, ARep β hF a' (ev Tc y) → i = 0 → p < cells.length → (ev Tc y).oneCell' = true → ∀ q : Prop, SOp P o (ev Tc) h (AcOk h0 β hF h σ ⟨q, .hid, setS σ id (.box t' (cells.set p a')), some id, none, none⟩) := by
          intro a' ha hi hp h1c q
          subst hi
          refine s_store1 (cs := vs.toArray) hop hv rfl h1c hs.1 hs.2 hh (by simp; omega) ?_
          have h3 : vs.toArray.setIfInBounds (0 * sz + p) (ev Tc y) = (vs.set p (ev Tc y)).toArray := by simp
          rw [h3]
          exact ac_put s.ok hb ⟨_, lookS_mem hσ⟩ (hput _ _ (hrep.set ha) (fun _ => hrep.set ha))
        split at e
        · rename_i f
          split at e
          · rename_i hi
            cases e
            exact one h2 hi hob.1 ((fz_fz h2).one hob.2) _
          · cases e
        · cases e
        · rename_i j
          split at e
          · rename_i tj sj rj hj
            split at e
            · rename_i hi
              cases e
              refine one h2 hi hob ?_ _
              obtain ⟨vj, own, _⟩ := s.ok.ok _ (lookS_mem hj)
              generalize ev Tc y = w at h2
              cases h2
              generalize rj.length = nj at own
              generalize β j = vj at own
              cases own <;> rfl
            · cases e
          · cases e
        · split at e
          · rename_i hi
            cases e
            refine one h2 hi hob ?_ _
            generalize ev Tc y = w at h2
            cases h2
            rfl
          · cases e
      · rename_i t' sz' rows hσ
        split at e
        · rename_i f
          split at e
          · rename_i hsz
            subst hsz
            cases e
            obtain ⟨⟨hi, hp⟩, h1c⟩ := hob
            obtain ⟨full, hh, hcap, hput⟩ := rows_put (p := p) (k := 1) s.ok hσ hb hi (by omega)
            have hr := fz_fz h2
            refine s_store1 (cs := full) hop hv rfl (hr.one h1c) hs.1 hs.2 hh (by omega) ?_
            have := hput [f] [ev Tc y] rfl (FReps.cons hr (FReps.nil _)) (by simp [h1c])
            rw [splice_one _ _ _ (by omega)] at this
            have hlen : (rows.getD i []).length = sz' := (rows_at (s.ok.ok _ (lookS_mem hσ)) hi).choose_spec.choose_spec.choose_spec.choose_spec.2.2.2.1
            rw [set_eq_splice (rows.getD i []) p f (by rw [hlen]; exact hp)]
            exact ac_put s.ok hb ⟨_, lookS_mem hσ⟩ this
          · cases e
        · cases e
      · cases e
  · cases e
theorem pa_stN (s : Sem h0 β hF h Tc T L σ) {ch : List (Nat × Bool)} (hch : ∀ x ∈ ch, Tc x.1 = .bool x.2) {t : TypeId} {x y : Operand} {n : Nat} {d : Option Nat} (hop : o.op = (K.stN t x y n).op) (hs : (K.stN t x y n).side P = true) (e : pa T L σ (opd L T ch) d (.stN t x y n) = some ra) (hob : ra.ob) : SOp P o (ev Tc) h (AcOk h0 β hF h σ ra) := by
  simp only [K.side, Bool.and_eq_true, beq_iff_eq] at hs
  simp only [pa] at e
  split at e
  · rename_i id sz i p cs hx hy
    have h1 := opd_ok s hch hx
    obtain ⟨us, hus, hr⟩ := frep_agg (fz_fz (opd_ok s hch hy))
    generalize hv : ev Tc x = v at h1
    cases h1 with
    | @oe _ _ _ _ b hb =>
      split at e
      · rename_i t' cells hσ
        split at e
        · rename_i hi
          subst hi
          cases e
          obtain ⟨⟨hp, hn⟩, h1c⟩ := hob
          obtain ⟨vs, hh, hl, hput⟩ := box_put s.ok hσ hb
          have hrep := box_rep s.ok hσ hb hh
          have hul : us.length = n := by rw [hr.1]; exact hn
          refine s_storeN (cs := vs.toArray) (n := n) hop hv hus (by simpa using hr.one1 h1c) hs.1 (by simpa using hul) hs.2 hh (by simp; omega) ?_
          have h3 : splice vs.toArray (0 * sz + p) us.toArray.toList = (vs.take p ++ us ++ vs.drop (p + n)).toArray := by simp [splice, hul]
          rw [h3]
          have h4 : AReps β hF (cells.take p ++ cs.map .fz ++ cells.drop (p + n)) (vs.take p ++ us ++ vs.drop (p + n)) := ((hrep.takeA p).appA (AReps.fz hr)).appA (hrep.dropA _)
          exact ac_put s.ok hb ⟨_, lookS_mem hσ⟩ (hput _ _ h4 (fun _ => h4))
        · cases e
      · rename_i t' sz' rows hσ
        split at e
        · rename_i hsz
          obtain ⟨hsz, hp0, hnz⟩ := hsz
          subst hsz
          subst hp0
          subst hnz
          cases e
          obtain ⟨⟨hi, hn⟩, h1c⟩ := hob
          obtain ⟨full, hh, hcap, hput⟩ := rows_put (p := 0) (k := n) s.ok hσ hb hi (by omega)
          have hul : us.length = n := by rw [hr.1]; exact hn
          refine s_storeN (cs := full) (n := n) hop hv hus (by simpa using hr.one1 h1c) hs.1 (by simpa using hul) hs.2 hh hcap ?_
          have := hput cs us hn hr h1c
          have hlen : (rows.getD i []).length = n := (rows_at (s.ok.ok _ (lookS_mem hσ)) hi).choose_spec.choose_spec.choose_spec.choose_spec.2.2.2.1
          rw [List.take_zero, List.nil_append, List.drop_eq_nil_of_le (by omega), List.append_nil] at this
          exact ac_put s.ok hb ⟨_, lookS_mem hσ⟩ this
        · cases e
      · cases e
  · cases e
theorem grew_base {v v' : Value} {n m : Nat} {e : TypeId} {sz : Nat} {cs ds : List Value} {h h' : Heap} (a : Own h e sz v n cs) (b : Own h' e sz v' m ds) (g : Grew h h' v v') : (∀ q ob, h q = some ob → baseOf v ≠ some q → h' q = some ob) ∧ (∀ q, baseOf v' = some q → baseOf v = some q ∨ h q = none) := by
  have e1 := blk_base a
  have e2 := blk_base b
  refine ⟨fun q ob e hne => g.same q ob e fun e3 => hne (by rw [← e1]; exact e3.symm), fun q e => ?_⟩
  rcases g.blk with h1 | ⟨q', h1, h2⟩
  · left; rw [← e1, ← h1, e2]; exact e
  · right
    rw [← e2, h1] at e
    cases e; exact h2
theorem pa_app (s : Sem h0 β hF h Tc T L σ) {ch : List (Nat × Bool)} (hch : ∀ x ∈ ch, Tc x.1 = .bool x.2) {t tx : TypeId} {x y : Operand} {ee e' sz : Nat} {d : Option Nat} (hop : o.op = (K.app t tx x y ee e' sz).op) (hs : (K.app t tx x y ee e' sz).side P = true) (e : pa T L σ (opd L T ch) d (.app t tx x y ee e' sz) = some ra) (hob : ra.ob) : SOp P o (ev Tc) h (AcOk h0 β hF h σ ra) := by
  simp only [K.side, Bool.and_eq_true] at hs
  obtain ⟨⟨ht, htx⟩, hi⟩ := hs
  replace ht := isSl_spec ht
  replace htx := isSl_spec htx
  simp only [pa] at e
  split at e
  · rename_i q news d hx hsrc
    split at e
    · rename_i hd
      cases e
      obtain ⟨⟨hq, hfit⟩, hone⟩ := hob
      obtain ⟨hlen, ws, hc, hr⟩ := srcRows_ok s hch hsrc hq
      have hv := fz_val (opd_ok s hch hx)
      have hd' := hd
      simp only [okNew, Bool.and_eq_true] at hd'
      have h1000 : d < 1000 := of_decide_eq_true hd'.2
      replace hd' := hd'.1
      refine s_append hop ht htx hi hv rfl .nil hc (hr.one1 ?_) (by omega) (fun v' h' own grew => ?_)
      · simp only [List.all_eq_true, List.mem_flatten]
        rintro c ⟨r, h1, h2⟩
        exact List.all_eq_true.1 (hone r h1) c h2
      · obtain ⟨g1, g2⟩ := grew_base .nil own grew
        rw [Nat.zero_add, List.nil_append] at own
        have k := s.ok.newO (d := d) (v := v') (h' := h') (x := .rows ee sz news) hd'.2 (fun b ob e => g1 b ob e (by simp [baseOf])) (fun b e => (g2 b e).resolve_left (by simp [baseOf])) h1000 ⟨ws, by simpa [upd] using own, hlen, hone, hr⟩
        refine ⟨upd β d v', hF, k, Heap.le_refl _, fun id e _ => ?_, ?_, fun e1 he _ b e => ?_⟩
        · have : id ≠ d := fun e2 => e (by rw [e2])
          simp [upd, this]
        · have := ARep.os (β := upd β d v') (h := hF) d
          simpa [upd] using this
        · obtain ⟨ob, h1⟩ := (s.ok.ok e1 he).blk e
          rw [h1]; exact g1 b ob h1 (by simp [baseOf])
    · cases e
  · rename_i id q news d' hx hsrc
    split at e
    · rename_i t' sz' rows hσ
      split at e
      · rename_i htt
        obtain ⟨⟨rfl, rfl⟩, h1000⟩ := htt
        skip
        cases e
        obtain ⟨⟨hq, hfit⟩, hone⟩ := hob
        obtain ⟨hlen, ws, hc, hr⟩ := srcRows_ok s hch hsrc hq
        have hv := opd_ok s hch hx
        generalize hvx : ev Tc x = vx at hv
        cases hv
        obtain ⟨vs, own0, hlen0, hone0, hr0⟩ := s.ok.ok _ (lookS_mem hσ)
        refine s_append hop ht htx hi hvx rfl own0 hc (hr.one1 ?_) hfit (fun v' h' own grew => ?_)
        · simp only [List.all_eq_true, List.mem_flatten]
          rintro c ⟨r, h1, h2⟩
          exact List.all_eq_true.1 (hone r h1) c h2
        · obtain ⟨g1, g2⟩ := grew_base own0 own grew
          have k := s.ok.app (v' := v') (h' := h') (x' := .rows t' sz' (rows ++ news)) hσ rfl h1000 g1 g2 rfl ⟨vs ++ ws, by simpa [upd] using own, by
            intro r hr'
            rcases List.mem_append.1 hr' with h1 | h1
            · exact hlen0 r h1
            · exact hlen r h1, by
            intro r hr'
            rcases List.mem_append.1 hr' with h1 | h1
            · exact hone0 r h1
            · exact hone r h1, by rw [List.flatten_append]; exact hr0.app hr⟩
          refine ⟨upd β id v', hF, k, Heap.le_refl _, fun j _ e => ?_, ?_, fun e1 he hne b e => ?_⟩
          · have : j ≠ id := fun e2 => e (by rw [e2])
            simp [upd, this]
          · have := ARep.os (β := upd β id v') (h := hF) id
            simpa [upd] using this
          · obtain ⟨ob, h1⟩ := (s.ok.ok e1 he).blk e
            rw [h1]
            exact g1 b ob h1 fun e2 => s.ok.sep e1 he _ (lookS_mem hσ) b (fun e3 => hne (by rw [e3])) e ((s.ok.ok _ (lookS_mem hσ)).fp e2)
      · cases e
    · cases e
  · cases e
theorem zipIdx_map {α β : Type} (f : α → β) : ∀ (l : List α) (k : Nat), (l.map f).zipIdx k = (l.zipIdx k).map fun x => (f x.1, x.2)
  | [], k => rfl
  | a :: l, k => by simp [List.zipIdx_cons, zipIdx_map f l]
theorem parts_zip : ∀ (l : List (Nat × Operand)) (k : Nat) (f : Operand → Value), l.map (·.1) = (List.range l.length).map (· + k) → l.map (fun p => (p.1, f p.2)) = ((l.map fun p => f p.2).zipIdx k).map fun x => (x.2, x.1)
  | [], k, f, _ => rfl
  | (i, x) :: l, k, f, h => by
    rw [List.length_cons, List.range_succ_eq_map] at h
    simp only [List.map_cons, List.map_map, List.cons.injEq, Nat.zero_add] at h
    obtain ⟨h1, h2⟩ := h
    have ih := parts_zip l (k + 1) f (by rw [h2]; apply List.map_congr_left; intro a _; simp; omega)
    simp only [List.map_cons, List.zipIdx_cons, ih, h1]
theorem pa_bsl (s : Sem h0 β hF h Tc T L σ) {ch : List (Nat × Bool)} (hch : ∀ x ∈ ch, Tc x.1 = .bool x.2) {t n : Nat} {parts : List (Nat × Operand)} {ee sz : Nat} {z : Bool} {d : Option Nat} (hop : o.op = (K.bsl t n parts ee sz z).op) (hs : (K.bsl t n parts ee sz z).side P = true) (e : pa T L σ (opd L T ch) d (.bsl t n parts ee sz z) = some ra) (hob : ra.ob) : SOp P o (ev Tc) h (AcOk h0 β hF h σ ra) := by
  simp only [K.side, Bool.and_eq_true, decide_eq_true_eq] at hs
  obtain ⟨⟨⟨⟨⟨ht, hi⟩, hn⟩, hk⟩, hs0⟩, hfit⟩ := hs
  replace ht := isSl_spec ht
  simp only [pa] at e
  split at e
  · rename_i rows d hrows
    obtain ⟨h1, h2, h3⟩ := rowsP_ok (fun x av e => opd_ok s hch e) hrows
    have main : (∀ r ∈ rows, r.length = sz) → AllocOp P o (ev Tc) (.cells ((parts.map fun p => ev Tc p.2).flatMap (·.cells.toList)).toArray ee) (fun b => .slice (some ⟨b, 0, none⟩) n n) ∧ ((parts.map fun p => ev Tc p.2).flatMap (·.cells.toList)).length = n * sz ∧ FReps hF rows.flatten ((parts.map fun p => ev Tc p.2).flatMap (·.cells.toList)) := by
      intro hlen
      have h2' : FReps hF rows.flatten ((parts.map fun p => ev Tc p.2).flatMap (·.cells.toList)) := by
        have : (parts.map fun p => ev Tc p.2).flatMap (·.cells.toList) = parts.flatMap fun p => (ev Tc p.2).cells.toList := by simp [List.flatMap_map]
        rw [this]; exact h2
      have hll : ((parts.map fun p => ev Tc p.2).flatMap (·.cells.toList)).length = n * sz := by
        have h5 := h2'.1
        rw [flat_len hlen, h1, ← hn] at h5
        exact h5
      refine ⟨?_, hll, h2'⟩
      have hcs : ∀ v ∈ (parts.map fun p => ev Tc p.2), v.cells.size = sz := by
        intro v hv
        obtain ⟨j, hj, rfl⟩ := List.mem_iff_getElem.1 hv
        simp only [List.length_map] at hj
        have hr := h3 j rows[j] parts[j] (List.getElem?_eq_getElem (by omega)) (List.getElem?_eq_getElem hj)
        have h4 := hlen _ (List.getElem_mem (show j < rows.length by omega))
        have h5 := hr.1
        simp only [List.getElem_map, Array.length_toList] at h5 ⊢
        omega
      by_cases hn0 : n = 0
      · have hp0 : parts = [] := List.eq_nil_of_length_eq_zero (by omega)
        subst hp0
        subst hn0
        obtain ⟨i, z, hii, _⟩ := infoOk_spec hi
        exact a_buildSlice0 hop ht (by rw [hii]; rfl)
      · exact a_buildSliceG (P := P) (o := o) (ρ := ev Tc) (parts := parts.toArray) (vs := parts.map fun p => ev Tc p.2) (sz := sz) hop ht hi (by
          have := parts_zip parts 0 (ev Tc) (by rw [hk, hn]; simp)
          simpa using this) (by simp [hn]) hcs (by omega) hs0 hfit
    have hrn : rows.length = n := by omega
    split at e
    · cases e
      obtain ⟨hlen, hone⟩ := hob
      obtain ⟨hlit, hll, hrep⟩ := main hlen
      refine ac_new s.ok hlit (fun b hb => .fz ?_) rfl
      unfold slL
      rw [hrn]
      have hrow : ∀ i, i < n → rows.getD i [] ∈ rows := fun i hi => by rw [List.getD_eq_getElem?_getD, List.getElem?_eq_getElem (by omega)]; exact List.getElem_mem _
      refine .sl (off := 0) (Heap.set_same _ _ _) (Nat.le_refl _) (fun i hi => hlen _ (hrow i hi)) (fun i hi => hone _ (hrow i hi)) (by rw [List.size_toArray, hll]; omega) (fun i j c v hi e1 e2 => (hrep.2 (i * sz + j) c v ?_ ?_).le (Heap.le_set _ (s.ok.fnone hb)))
      · have hj : j < sz := by have := (List.getElem?_eq_some_iff.1 e1).1; rw [hlen _ (hrow i hi)] at this; exact this
        rw [flat_get hlen i j hj]
        rw [List.getD_eq_getElem?_getD] at e1
        have hri : rows[i]? = some (rows[i]'(by omega)) := List.getElem?_eq_getElem (by omega)
        rw [hri] at e1 ⊢
        exact e1
      · rw [List.getElem?_toArray, Nat.zero_add] at e2; exact e2
    · split at e
      · rename_i hd
        cases e
        obtain ⟨hlen, hone⟩ := hob
        obtain ⟨hlit, hll, hrep⟩ := main hlen
        refine ac_obj (x := .rows ee sz rows) s.ok hd hlit rfl (fun b => rfl) (fun b hb => ⟨(parts.map fun p => ev Tc p.2).flatMap (·.cells.toList), ?_, hlen, hone, hrep⟩) (fun b => ?_) rfl
        · have : Own (h.set b (.cells ((parts.map fun p => ev Tc p.2).flatMap (·.cells.toList)).toArray ee (0, 0))) ee sz (.slice (some ⟨b, 0, none⟩) n n) n ((parts.map fun p => ev Tc p.2).flatMap (·.cells.toList)) :=
            .at_ (Heap.set_same _ _ _) hll (Nat.le_refl _) (by rw [List.size_toArray, hll]; exact Nat.le_refl _) (List.take_of_length_le (Nat.le_of_eq hll))
          simpa [upd, hrn] using this
        · have := ARep.os (β := upd β d (.slice (some ⟨b, 0, none⟩) n n)) (h := hF) d
          simpa [upd] using this
      · cases e
  · cases e
theorem made_take (z : Array Value) (sz : Nat) (hz : z.size = sz) (l c : Nat) (hlc : l ≤ c) : (madeCells z (c * sz)).toList.take (l * sz) = (List.replicate l z.toList).flatten := by
  have h1 : l * sz ≤ c * sz := Nat.mul_le_mul_right _ hlc
  apply List.ext_getElem?
  intro m
  by_cases hm : m < l * sz
  · have hs0 : 0 < sz := Nat.pos_of_ne_zero fun e3 => by subst e3; simp at hm
    have hj2 : m / sz < l := (Nat.div_lt_iff_lt_mul hs0).2 hm
    have hj3 : m % sz < sz := Nat.mod_lt _ hs0
    have hj4 : m / sz * sz + m % sz = m := by rw [Nat.mul_comm]; exact Nat.div_add_mod m sz
    rw [List.getElem?_take_of_lt hm]
    have h2 : (List.replicate l z.toList).flatten[m]? = z.toList[m % sz]? := by
      conv => lhs; rw [← hj4]
      rw [flat_get (sz := sz) (fun r hr => by rw [List.eq_of_mem_replicate hr]; simpa using hz) _ _ hj3, List.getElem?_replicate, if_pos hj2]; rfl
    rw [h2, Array.getElem?_toList]
    unfold madeCells
    have hms : m < c * sz := by omega
    rw [Array.getElem?_map, Array.getElem?_eq_getElem (by simpa using hms)]
    simp only [Array.getElem_range, Option.map_some, hz]
    rw [Array.getElem?_toList, Array.getElem?_eq_getElem (by omega), getElem!_pos z (m % sz) (by omega)]
  · rw [List.getElem?_eq_none (by simp; omega), List.getElem?_eq_none]
    rw [flat_len (sz := sz) (fun r hr => by rw [List.eq_of_mem_replicate hr]; simpa using hz)]
    simp; omega
theorem pa_mks (s : Sem h0 β hF h Tc T L σ) {ch : List (Nat × Bool)} (hch : ∀ x ∈ ch, Tc x.1 = .bool x.2) {t : TypeId} {x y : Operand} {ee sz : Nat} {zs : List Value} {d : Option Nat} (hop : o.op = (K.mks t x y ee sz zs).op) (hs : (K.mks t x y ee sz zs).side P = true) (e : pa T L σ (opd L T ch) d (.mks t x y ee sz zs) = some ra) (hob : ra.ob) : SOp P o (ev Tc) h (AcOk h0 β hF h σ ra) := by
  simp only [K.side, Bool.and_eq_true] at hs
  obtain ⟨⟨⟨ht, hi⟩, hz⟩, hz1⟩ := hs
  replace ht := isSl_spec ht
  obtain ⟨i, z, hii, hzz, hsz, hzs, hb⟩ := infoOk_spec hi
  have hzc : z.cells.toList = zs := by
    have h1 := zeroIs_eq hz
    unfold zeroOf at h1
    rw [hii] at h1
    simp only [Option.bind_some, hzz, Option.map_some, Option.some.injEq] at h1
    rw [h1]
  simp only [pa] at e
  split at e
  · rename_i k1 l k2 c d hx hy
    split at e
    · rename_i hd
      cases e
      obtain ⟨hl, hlc, hc⟩ := hob
      have hvx := fz_val (opd_ok s hch hx)
      have hvy := fz_val (opd_ok s hch hy)
      obtain ⟨l, rfl⟩ := Int.eq_ofNat_of_zero_le hl
      obtain ⟨c, rfl⟩ := Int.eq_ofNat_of_zero_le (Int.le_trans hl hlc)
      have hlc' : l ≤ c := Int.ofNat_le.1 hlc
      have hm : i.bytes * c ≤ 4096 * 1000000 := Nat.mul_le_mul hb (by omega)
      have hm' : (i.bytes : Int) * (c : Int) ≤ 281474976710656 := by
        have : ((i.bytes * c : Nat) : Int) ≤ ((4096 * 1000000 : Nat) : Int) := Int.ofNat_le.2 hm
        rw [Int.natCast_mul] at this
        omega
      have hp : AllocOp P o (ev Tc) (.cells (madeCells z.cells (c * i.size)) ee) (fun b => .slice (some ⟨b, 0, none⟩) l c) := fun w => by
        have := run_make (P := P) w t ee i z ht hii hzz k1 k2 (l : Int) (c : Int) (by omega) hlc hm' (by omega)
        simp only [K.op] at hop
        simp only [execOp, hop, hvx, hvy, this, Sem.run_bind, Sem.run_map, Result.andThen_ok, Sem.run_pure, Int.toNat_natCast]
      refine ac_obj (v := .os d) (x := .rows ee sz (List.replicate l (zs.map .val))) s.ok hd hp rfl (fun b => rfl) (fun b hb => ⟨(List.replicate l zs).flatten, ?_, ?_, ?_, ?_⟩) (fun b => ?_) (by simp)
      · have : Own (h.set b (.cells (madeCells z.cells (c * i.size)) ee (0, 0))) ee sz (.slice (some ⟨b, 0, none⟩) l c) l (List.replicate l zs).flatten :=
          .at_ (Heap.set_same _ _ _) (flat_len (sz := sz) (rows := List.replicate l zs) (fun r hr => by rw [List.eq_of_mem_replicate hr, ← hzc]; simpa using hzs) ▸ by simp) hlc' (by rw [size_madeCells, hsz]; exact Nat.le_refl _) (by rw [hsz, made_take _ sz hzs l c hlc', hzc])
        simpa [upd] using this
      · intro r hr; rw [List.eq_of_mem_replicate hr, List.length_map, ← hzc]; simpa using hzs
      · intro r hr; rw [List.eq_of_mem_replicate hr]
        simp only [List.all_map, List.all_eq_true] at hz1 ⊢
        exact fun v hv => hz1 v hv
      · have : ∀ n : Nat, FReps hF (List.replicate n (zs.map FV.val)).flatten (List.replicate n zs).flatten := by
          intro n
          induction n with
          | zero => exact FReps.nil _
          | succ n ih => rw [List.replicate_succ, List.replicate_succ, List.flatten_cons, List.flatten_cons]; exact (freps_val _ _).app ih
        exact this l
      · have := ARep.os (β := upd β d (.slice (some ⟨b, 0, none⟩) l c)) (h := hF) d
        simpa [upd] using this
    · cases e
  · cases e
theorem pa_ok (s : Sem h0 β hF h Tc T L σ) {ch : List (Nat × Bool)} (hch : ∀ x ∈ ch, Tc x.1 = .bool x.2) {k : K} {d : Option Nat} (hop : o.op = k.op) (hs : k.side P = true) (e : pa T L σ (opd L T ch) d k = some ra) (hob : ra.ob) : SOp P o (ev Tc) h (AcOk h0 β hF h σ ra) := by
  cases k with
  | box t x z => exact pa_box s hch hop e
  | alc t zs z => exact pa_alc s hop hs e
  | st t x y => exact pa_st s hch hop hs e hob
  | stN t x y n => exact pa_stN s hch hop hs e hob
  | app t tx x y ee e' sz => exact pa_app s hch hop hs e hob
  | bsl t n parts ee sz z => exact pa_bsl s hch hop hs e hob
  | mks t x y ee sz zs => exact pa_mks s hch hop hs e hob
  | _ => simp only [pa, reduceCtorEq] at e
end
end Go.Proofs.Ytielfejpnkcjbaa.Ab

/- Regions: their operations one behind the other, told short. -/
set_option linter.unusedVariables false
set_option linter.unusedSimpArgs false
namespace Go.Proofs.Ytielfejpnkcjbaa.Ab
open Go.Proofs.Ytielfejpnkcjbaa.Sl
structure St where
  T : AT
  L : AL
  σ : AS
  rs : List Nat
def gob (L : AL) (g : Option (Nat × Bool)) (ob : Prop) : Option Prop := match g with
  | none => some ob
  | some (t, p) => match lookL L t with
    | some (_, .fz (.val (.bool b))) => some (b = p → ob)
    | _ => none
def addrd (r : Option Nat) (rs : List Nat) : List Nat := match r with
  | some id => id :: rs
  | none => rs
def hits (md : Option Nat) (rs : List Nat) : Bool := match md with
  | some id => rs.contains id
  | none => false
def stepP (a : AO) (s : St) : Option (Prop × St) := match a.dst with
  | some d => match pv s.σ (fun ex => opd s.L s.T (ex ++ chain s.L 3 a.g)) a.k with
    | some r => match gob s.L a.g r.ob with
      | some ob => some (ob, ⟨s.T, (d, a.g, r.v) :: s.L, s.σ, addrd r.rd s.rs⟩)
      | none => none
    | none => none
  | none => none
def pgT : Option Nat → AT → AT
  | some id, T => pT id T
  | none, T => T
def pgL : Option Nat → AL → AL
  | some id, L => pL id L
  | none, L => L
def addL (d : Option Nat) (g : Option (Nat × Bool)) (v : AV) (L : AL) : AL := match d with
  | some d => (d, g, v) :: L
  | none => L
def stepA (a : AO) (s : St) : Option (Prop × St) := match pa s.T s.L s.σ (opd s.L s.T (chain s.L 3 a.g)) a.dst a.k with
  | some ra => match a.g with
    | none => if (a.q && hits ra.md s.rs) = true then none else some (ra.ob, ⟨pgT ra.pg s.T, addL a.dst none ra.v (pgL ra.pg s.L), ra.σ, if a.q = true then s.rs else []⟩)
    | some g => match ra.md, ra.nw, ra.pg, a.dst with
      | none, none, none, some d => match gob s.L (some g) ra.ob with
        | some ob => some (ob, ⟨s.T, (d, some g, ra.v) :: s.L, s.σ, s.rs⟩)
        | none => none
      | _, _, _, _ => none
  | none => none
def isA : K → Bool
  | .box .. | .alc .. | .st .. | .stN .. | .app .. | .bsl .. | .mks .. => true
  | _ => false
def step1 (a : AO) (s : St) : Option (Prop × St) := if isA a.k = true then stepA a s else stepP a s
/-- As far as may be reckoned: what is left, the state, what is asked. -/
def run : List AO → St → List AO × St × Prop
  | [], s => ([], s, True)
  | a :: r, s => match step1 a s with
    | some (ob, s') => let x := run r s'; (x.1, x.2.1, ob ∧ x.2.2)
    | none => (a :: r, s, True)
/-! ### How the short operations stand to the program's -/
def strip (ops : Array Oper) (o : Oper) : Option Nat × Op × Option (Nat × Bool) := (o.dst, o.op, match o.guard with
  | none => none
  | some (j, b) => match (ops[j]?).bind (·.dst) with
    | some t => some (t, b)
    | none => some (1000000000, b))
def AO.strip (a : AO) : Option Nat × Op × Option (Nat × Bool) := (a.dst, a.k.op, a.g)
def okA (P : Program) (N : Nat) (a : AO) : Bool := a.k.side P && (match a.dst with | some t => decide (t < N) | none => true) && (match a.g with | some (t, _) => decide (t < 1000000000) | none => true)
def Nod (L : AL) (az : List AO) : Prop := (L.map (·.1) ++ az.filterMap (·.dst)).Nodup
structure Fit (P : Program) (N : Nat) (ops : Array Oper) (o : Oper) (a : AO) : Prop where
  dst : o.dst = a.dst
  op : o.op = a.k.op
  side : a.k.side P = true
  lt : ∀ t, o.dst = some t → t < N
  g0 : a.g = none → o.guard = none
  g1 : ∀ t p, a.g = some (t, p) → ∃ j, o.guard = some (j, p) ∧ ((ops[j]?).bind (·.dst)) = some t
theorem fit_of {P : Program} {N : Nat} {ops : Array Oper} {o : Oper} {a : AO} (h : strip ops o = a.strip) (k : okA P N a = true) : Fit P N ops o a := by
  simp only [strip, AO.strip, Prod.mk.injEq] at h
  obtain ⟨h1, h2, h3⟩ := h
  simp only [okA, Bool.and_eq_true] at k
  obtain ⟨⟨k1, k2⟩, k3⟩ := k
  refine ⟨h1, h2, k1, fun t ht => ?_, fun hg => ?_, fun t p hg => ?_⟩
  · rw [h1] at ht; rw [ht] at k2; simpa using k2
  · rw [hg] at h3
    cases ho : o.guard with
    | none => rfl
    | some x =>
      obtain ⟨j, b⟩ := x
      rw [ho] at h3
      simp only at h3
      split at h3 <;> cases h3
  · rw [hg] at h3 k3
    cases ho : o.guard with
    | none => rw [ho] at h3; cases h3
    | some x =>
      obtain ⟨j, b⟩ := x
      rw [ho] at h3
      simp only at h3
      split at h3
      · rename_i t' ht'
        cases h3
        exact ⟨j, rfl, ht'⟩
      · cases h3
        simp at k3
section
variable {P : Program} {N : Nat} {ops : Array Oper} {h0 : Gd} {β : Nat → Value} {hF h : Heap} {Tc : Tm} {o : Oper} {a : AO}
theorem Fit.want_none (f : Fit P N ops o a) (hg : a.g = none) : want ops Tc o = true := Sl.want_none (f.g0 hg)
theorem Fit.want_some (f : Fit P N ops o a) {t : Nat} {p : Bool} (hg : a.g = some (t, p)) : (want ops Tc o = true ↔ Tc t = .bool p) ∧ (want ops Tc o = true ∨ want ops Tc o = false) := by
  obtain ⟨j, h1, h2⟩ := f.g1 t p hg
  refine ⟨?_, by cases want ops Tc o <;> simp⟩
  unfold want
  rw [h1]
  simp only [h2]
  cases Tc t <;> simp
theorem nod_step {L : AL} {a : AO} {az : List AO} (n : Nod L (a :: az)) {d : Nat} (hd : a.dst = some d) (g : Option (Nat × Bool)) (v : AV) : Nod ((d, g, v) :: L) az ∧ ∀ e ∈ L, e.1 ≠ d := by
  unfold Nod at n ⊢
  rw [List.filterMap_cons, hd] at n
  simp only at n
  have h1 := List.nodup_append.1 n
  refine ⟨?_, fun e he e1 => h1.2.2 e.1 (List.mem_map.2 ⟨e, he, rfl⟩) d (by simp) e1⟩
  rw [List.map_cons, List.cons_append]
  have : (L.map (·.1) ++ d :: az.filterMap (·.dst)).Perm (d :: (L.map (·.1) ++ az.filterMap (·.dst))) := List.perm_middle
  exact this.nodup_iff.1 n
theorem nod_none {L : AL} {a : AO} {az : List AO} (n : Nod L (a :: az)) (hd : a.dst = none) : Nod L az := by
  unfold Nod at n ⊢
  rwa [List.filterMap_cons, hd] at n
theorem nod_pL {L : AL} {az : List AO} (id : Nat) (n : Nod L az) : Nod (pL id L) az := by
  unfold Nod at n ⊢
  rw [pL_eq, List.map_map]
  exact n
/-- The guard holds: what is asked under it is there. -/
theorem gob_ok {T : AT} {L : AL} {σ : AS} (s : Sem h0 β hF h Tc T L σ) {g : Option (Nat × Bool)} {ob q : Prop} (e : gob L g ob = some q) (hq : q) (hg : ∀ t p, g = some (t, p) → Tc t = .bool p) : ob := by
  unfold gob at e
  split at e
  · cases e; exact hq
  · rename_i t p
    split at e
    · rename_i g' b hl
      cases e
      have h1 := s.l _ (lookL_mem hl)
      have ht := hg t p rfl
      have h2 : Tc t = .bool b := by
        cases g' with
        | none => exact fz_val h1
        | some x =>
          obtain ⟨c, r⟩ := x
          rcases Classical.em (Tc c = .bool r) with h3 | h3
          · exact fz_val (h1.1 h3)
          · have := h1.2 h3
            simp only at this
            rw [ht] at this; cases this
      rw [ht] at h2
      cases h2
      exact hq rfl
    · cases e
theorem gob_has {L : AL} {t : Nat} {p : Bool} {ob q : Prop} (e : gob L (some (t, p)) ob = some q) : ∃ e' ∈ L, e'.1 = t := by
  simp only [gob] at e
  split at e
  · rename_i g' b hl; exact ⟨_, lookL_mem hl, rfl⟩
  · cases e
/-- A purged state. -/
theorem Sem.purge {T : AT} {L : AL} {σ σ' : AS} {β' : Nat → Value} {hF' h' : Heap} (s : Sem h0 β hF h Tc T L σ) (k : Ok h0 β' hF' h' σ') (l : hF.le hF') {id : Nat} (e : ∀ j, j ≠ id → β' j = β j) : Sem h0 β' hF' h' Tc (pT id T) (pL id L) σ' := by
  have hv : ∀ (a : AV) (v : Value), ARep β hF a v → ARep β' hF' (pA id a) v := fun a v r => (pA_rep r).to l fun j hj => e j (pA_nm hj).2
  refine ⟨k, fun x hx hne => ?_, fun x hx => ?_, fun x hx a p hg => ?_⟩
  · rw [pT_eq] at hx
    obtain ⟨y, hy, rfl⟩ := List.mem_map.1 hx
    refine hv _ _ (s.t y hy fun e' he' => ?_)
    exact hne (e'.1, e'.2.1, pA id e'.2.2) (by rw [pL_eq]; exact List.mem_map.2 ⟨e', he', rfl⟩)
  · rw [pL_eq] at hx
    obtain ⟨y, hy, rfl⟩ := List.mem_map.1 hx
    have h1 := s.l y hy
    simp only
    cases hg : y.2.1 with
    | none => rw [hg] at h1; exact hv _ _ h1
    | some g => rw [hg] at h1; exact ⟨fun h2 => hv _ _ (h1.1 h2), h1.2⟩
  · rw [pL_eq] at hx ⊢
    obtain ⟨y, hy, rfl⟩ := List.mem_map.1 hx
    obtain ⟨e', he', h1⟩ := s.g y hy a p hg
    exact ⟨_, List.mem_map.2 ⟨e', he', rfl⟩, h1⟩
theorem Sem.turn {T : AT} {L : AL} {σ σ' : AS} {β' : Nat → Value} {hF' h' : Heap} (s : Sem h0 β hF h Tc T L σ) (k : Ok h0 β' hF' h' σ') (l : hF.le hF') (eT : ∀ x ∈ T, ∀ j, x.2.nm = some j → β' j = β j) (eL : ∀ x ∈ L, ∀ j, x.2.2.nm = some j → β' j = β j) : Sem h0 β' hF' h' Tc T L σ' := by
  refine ⟨k, fun x hx hne => (s.t x hx hne).to l (eT x hx), fun x hx => ?_, s.g⟩
  have h1 := s.l x hx
  cases hg : x.2.1 with
  | none => rw [hg] at h1; exact ARep.to h1 l (eL x hx)
  | some g => rw [hg] at h1; exact ⟨fun h2 => (h1.1 h2).to l (eL x hx), h1.2⟩
end
end Go.Proofs.Ytielfejpnkcjbaa.Ab

/- Regions: that a run told short is one of the program. -/
set_option linter.unusedVariables false
set_option linter.unusedSimpArgs false
namespace Go.Proofs.Ytielfejpnkcjbaa.Ab
open Go.Proofs.Ytielfejpnkcjbaa.Sl
section
variable {P : Program} {N : Nat} {ops : Array Oper} {h0 : Gd} {β : Nat → Value} {hF h : Heap} {Tc : Tm} {o : Oper} {a : AO}
/-- What a read or a reckoning gives, where its guard holds. -/
theorem stepP_ok {s s' : St} {ob : Prop} (e : stepP a s = some (ob, s')) (f : Fit P N ops o a) (hob : ob) : ∃ d r, a.dst = some d ∧ s' = ⟨s.T, (d, a.g, r.v) :: s.L, s.σ, addrd r.rd s.rs⟩ ∧ (∀ t p, a.g = some (t, p) → ∃ e ∈ s.L, e.1 = t) ∧ (∀ id, r.rd = some id → ∃ x, (id, x) ∈ s.σ) ∧
    ∀ {β : Nat → Value} {hF h : Heap} {Tc : Tm}, Sem h0 β hF h Tc s.T s.L s.σ → (∀ t p, a.g = some (t, p) → Tc t = .bool p) → PvOk P β hF h Tc o r := by
  unfold stepP at e
  split at e
  · rename_i d hd
    split at e
    · rename_i r hr
      split at e
      · rename_i q hq
        cases e
        refine ⟨d, r, hd, rfl, fun t p hg => ?_, fun id hid => ?_, fun s hg => ?_⟩
        · rw [hg] at hq; exact gob_has hq
        · -- what is read is an object
          have key : ∀ (σ : AS) (oo : List (Nat × Bool) → Operand → Option AV) (k : K) (r : R), pv σ oo k = some r → ∀ id, r.rd = some id → ∃ x, lookS σ id = some x := by
            intro σ oo k r hr id hid
            cases k <;> simp only [pv, reduceCtorEq] at hr <;> (repeat' (split at hr)) <;> (first | (cases hr; done) | (cases hr; first | (simp only [reduceCtorEq] at hid; done) | (simp only [Option.some.injEq] at hid; subst hid; exact ⟨_, by assumption⟩)))
          obtain ⟨x, hx⟩ := key _ _ _ _ hr id hid
          exact ⟨x, lookS_mem hx⟩
        · exact pv_ok s (chain_ok s 3 a.g hg) f.op f.side hr (gob_ok s hq hob hg)
      · cases e
    · cases e
  · cases e
/-- What an act gives. -/
inductive AcS (h0 : Gd) (P : Program) (N : Nat) (ops : Array Oper) (o : Oper) (a : AO) (s s' : St) : Prop where
  | plain (ra : RA) (hg : a.g = none) (hq : (a.q && hits ra.md s.rs) = false) (hs : s' = ⟨pgT ra.pg s.T, addL a.dst none ra.v (pgL ra.pg s.L), ra.σ, if a.q = true then s.rs else []⟩)
      (hok : ∀ {β : Nat → Value} {hF h : Heap} {Tc : Tm}, Sem h0 β hF h Tc s.T s.L s.σ → SOp P o (ev Tc) h (AcOk h0 β hF h s.σ ra)) (hnw : ∀ d, ra.nw = some d → okNew d s.T s.L s.σ = true) (hpg : ra.pg = ra.md ∨ ra.pg = none) (hpn : ra.pg ≠ none → ra.nw = none)
      (hσ : ∀ e ∈ s.σ, ∃ x, (e.1, x) ∈ ra.σ) : AcS h0 P N ops o a s s'
  | guarded (ra : RA) (d t : Nat) (p : Bool) (hg : a.g = some (t, p)) (hd : a.dst = some d) (hs : s' = ⟨s.T, (d, a.g, ra.v) :: s.L, s.σ, s.rs⟩) (hin : ∃ e ∈ s.L, e.1 = t) (hrσ : ra.σ = s.σ) (hmd : ra.md = none) (hnw : ra.nw = none) (hpg : ra.pg = none)
      (hok : ∀ {β : Nat → Value} {hF h : Heap} {Tc : Tm}, Sem h0 β hF h Tc s.T s.L s.σ → Tc t = .bool p → SOp P o (ev Tc) h (AcOk h0 β hF h s.σ ra)) : AcS h0 P N ops o a s s'
theorem setS_has {id : Nat} {x : OO} : ∀ {σ : AS} {e : Nat × OO}, e ∈ σ → ∃ y, (e.1, y) ∈ setS σ id x
  | [], e, he => by cases he
  | a :: r, e, he => by
    unfold setS
    split
    · rename_i h1
      rcases List.mem_cons.1 he with rfl | he
      · exact ⟨x, by rw [h1]; exact List.mem_cons_self⟩
      · exact ⟨e.2, List.mem_cons_of_mem _ he⟩
    · rcases List.mem_cons.1 he with rfl | he
      · exact ⟨e.2, List.mem_cons_self⟩
      · obtain ⟨y, hy⟩ := setS_has (id := id) (x := x) he
        exact ⟨y, List.mem_cons_of_mem _ hy⟩
theorem pS_has {id : Nat} {σ : AS} {e : Nat × OO} (he : e ∈ σ) : (e.1, pO id e.2) ∈ pS id σ := by
  rw [pS_eq]; exact List.mem_map.2 ⟨e, he, rfl⟩
/-- What an act may be. -/
theorem pa_shape {T : AT} {L : AL} {σ : AS} {oo : Operand → Option AV} {d : Option Nat} {k : K} {ra : RA} (e : pa T L σ oo d k = some ra) :
    (∀ d', ra.nw = some d' → okNew d' T L σ = true) ∧ (ra.pg = ra.md ∨ ra.pg = none) ∧ (∀ e ∈ σ, ∃ x, (e.1, x) ∈ ra.σ) ∧ (ra.md = none → ra.nw = none → ra.pg = none → ra.σ = σ) ∧ (ra.pg ≠ none → ra.nw = none) := by
  cases k <;> simp only [pa, reduceCtorEq] at e <;> (repeat' (split at e)) <;> (first
    | (cases e; done)
    | (cases e; exact ⟨fun d' h => (by cases h), .inl rfl, fun x hx => ⟨_, hx⟩, fun _ _ _ => rfl, fun _ => rfl⟩)
    | (cases e; exact ⟨fun d' h => (by cases h; assumption), .inl rfl, fun x hx => ⟨_, List.mem_cons_of_mem _ hx⟩, fun _ h _ => (by cases h), fun h => absurd rfl h⟩)
    | (cases e; exact ⟨fun d' h => (by cases h), .inr rfl, fun x hx => setS_has hx, fun h _ _ => (by cases h), fun _ => rfl⟩)
    | (cases e; exact ⟨fun d' h => (by cases h), .inl rfl, fun x hx => (let ⟨y, hy⟩ := setS_has (pS_has hx); ⟨y, hy⟩), fun h _ _ => (by cases h), fun _ => rfl⟩))
theorem stepA_ok {s s' : St} {ob : Prop} (e : stepA a s = some (ob, s')) (f : Fit P N ops o a) (hob : ob) : AcS h0 P N ops o a s s' := by
  unfold stepA at e
  split at e
  · rename_i ra hra
    obtain ⟨h1, h2, h3, h4, h5⟩ := pa_shape hra
    split at e
    · rename_i hg
      split at e
      · cases e
      · rename_i hq
        cases e
        refine .plain ra hg (by simpa using hq) rfl (fun s => ?_) h1 h2 h5 h3
        exact pa_ok s (chain_ok s 3 a.g (fun t p e => by rw [hg] at e; cases e)) f.op f.side hra hob
    · rename_i g hg
      split at e
      · rename_i d hmd hnw hpg hd
        split at e
        · rename_i q hq
          cases e
          obtain ⟨t, p⟩ := g
          refine .guarded ra d t p hg hd (by rw [hg]) (gob_has hq) (h4 hmd hnw hpg) hmd hnw hpg (fun {β hF h Tc} s ht => ?_)
          have hgt : ∀ t' p', a.g = some (t', p') → Tc t' = Value.bool p' := fun t' p' e => by rw [hg] at e; cases e; exact ht
          exact pa_ok s (chain_ok s 3 a.g hgt) f.op f.side hra (gob_ok s hq hob (fun t' p' e => by cases e; exact ht))
        · cases e
      · cases e
  · cases e
end
end Go.Proofs.Ytielfejpnkcjbaa.Ab

/- Regions: the rules. -/
set_option linter.unusedVariables false
set_option linter.unusedSimpArgs false
namespace Go.Proofs.Ytielfejpnkcjbaa.Ab
open Go.Proofs.Ytielfejpnkcjbaa.Sl
section
variable {P : Program} {N : Nat} {ops : Array Oper} {h0 : Gd} {β : Nat → Value} {hF h : Heap} {Tc : Tm} {o : Oper} {a : AO} {Q : Tm → Heap → Prop} {loud : List Nat}
theorem AcOk.sem {T : AT} {L : AL} {σ : AS} {ra : RA} {v : Value} {h' : Heap} (s : Sem h0 β hF h Tc T L σ) (x : AcOk h0 β hF h σ ra v h') (hnw : ∀ d, ra.nw = some d → okNew d T L σ = true) (hpn : ra.pg ≠ none → ra.nw = none) :
    ∃ β' hF', Sem h0 β' hF' h' Tc (pgT ra.pg T) (pgL ra.pg L) ra.σ ∧ hF.le hF' ∧ ARep β' hF' ra.v v ∧ (∀ id, ra.nw ≠ some id → ra.pg ≠ some id → β' id = β id) ∧ ∀ e ∈ σ, ra.md ≠ some e.1 → ∀ b, fpOf (β e.1) e.2 b → h' b = h b := by
  obtain ⟨β', hF', k, l, e, r, keep⟩ := x
  refine ⟨β', hF', ?_, l, r, e, keep⟩
  cases hp : ra.pg with
  | none =>
    simp only [pgT, pgL]
    cases hn : ra.nw with
    | none =>
      have e' : ∀ j, β' j = β j := fun j => e j (by rw [hn]; simp) (by rw [hp]; simp)
      exact s.turn k l (fun _ _ j _ => e' j) (fun _ _ j _ => e' j)
    | some d =>
      have hd := hnw d hn
      simp only [okNew, Bool.and_eq_true] at hd
      replace hd := hd.1
      have e' : ∀ j, j ≠ d → β' j = β j := fun j hj => e j (by rw [hn]; simpa using fun e2 => hj e2.symm) (by rw [hp]; simp)
      exact s.turn k l (fun x hx j hj => e' j fun e2 => nmT_spec hd.1.1 x hx (by rw [hj, e2])) (fun x hx j hj => e' j fun e2 => nmL_spec hd.1.2 x hx (by rw [hj, e2]))
  | some id =>
    have hn := hpn (by rw [hp]; simp)
    exact s.purge k l (fun j hj => e j (by rw [hn]; simp) (by rw [hp]; simpa using fun e2 => hj e2.symm))
theorem nod_pg {L : AL} {az : List AO} (p : Option Nat) (n : Nod L az) : Nod (pgL p L) az := by
  cases p with
  | none => exact n
  | some id => exact nod_pL id n
theorem pv_isAct {σ : AS} {oo : List (Nat × Bool) → Operand → Option AV} {k : K} {r : R} (h : pv σ oo k = some r) : isAct k.op = false := by
  cases k <;> first | rfl | (simp only [pv, reduceCtorEq] at h)
theorem pa_isAct {T : AT} {L : AL} {σ : AS} {oo : Operand → Option AV} {d : Option Nat} {k : K} {ra : RA} (h : pa T L σ oo d k = some ra) : isAct k.op = true := by
  cases k <;> first | rfl | (simp only [pa, reduceCtorEq] at h)
theorem stepP_kind {s s' : St} {ob : Prop} (e : Ab.stepP a s = some (ob, s')) : isAct a.k.op = false := by
  unfold Ab.stepP at e
  split at e
  · split at e
    · rename_i r hr; exact pv_isAct hr
    · cases e
  · cases e
theorem stepA_kind {s s' : St} {ob : Prop} (e : Ab.stepA a s = some (ob, s')) : isAct a.k.op = true := by
  unfold Ab.stepA at e
  split at e
  · rename_i r hr; exact pa_isAct hr
  · cases e
def RegN (P : Program) (N : Nat) (ops : Array Oper) (h0 : Gd) (Q : Tm → Heap → Prop) (az : List AO) (s : St) : Prop :=
  ∀ os, os.map (strip ops) = az.map AO.strip → az.all (okA P N) = true → ∀ β hF h Tc, Sem h0 β hF h Tc s.T s.L s.σ → Nod s.L az → sops P N ops Q os Tc h
theorem put_some {Tc : Tm} {d : Option Nat} {t : Nat} (e : d = some t) (v : Value) : put Tc d v = upd Tc t v := by rw [e]; rfl
theorem put_none {Tc : Tm} {d : Option Nat} (e : d = none) (v : Value) : put Tc d v = Tc := by rw [e]; rfl
theorem gok_skip {β : Nat → Value} {hF : Heap} {Tc : Tm} {t : Nat} {p : Bool} {v : AV} (h : ¬ Tc t = .bool p) : GOk Tc (some (t, p)) (ARep β hF v undef) undef := ⟨fun e => absurd e h, fun _ => rfl⟩
theorem gok_in {Tc : Tm} {g : Option (Nat × Bool)} {A : Prop} {v : Value} (h : A) (hg : ∀ t p, g = some (t, p) → Tc t = .bool p) : GOk Tc g A v := by
  cases g with
  | none => exact h
  | some x => exact ⟨fun _ => h, fun e => absurd (hg _ _ rfl) e⟩
theorem RegN.stepP {az : List AO} {s s' : St} {ob : Prop} (e : Ab.stepP a s = some (ob, s')) (hob : ob) (r : RegN P N ops h0 Q az s') : RegN P N ops h0 Q (a :: az) s := by
  intro os hm hok β hF h Tc sem nd
  cases os with
  | nil => simp at hm
  | cons o os =>
    simp only [List.map_cons, List.cons.injEq] at hm
    simp only [List.all_cons, Bool.and_eq_true] at hok
    have f := fit_of hm.1 hok.1
    obtain ⟨d, rr, hd, rfl, hg, _, hpv⟩ := stepP_ok e f hob
    obtain ⟨nd', hne⟩ := nod_step nd hd a.g rr.v
    refine ⟨f.lt, ?_⟩
    cases hag : a.g with
    | none =>
      rw [f.want_none hag]
      obtain ⟨v, hv, _, hr⟩ := hpv sem (fun t p e => by rw [hag] at e; cases e)
      refine (hr h sem.ok.le (fun _ _ _ _ => rfl)).sop ?_
      rw [put_some (f.dst.trans hd)]
      exact r os hm.2 hok.2 _ _ _ _ (sem.put hne hg (gok_in hv (fun t p e => by rw [hag] at e; cases e))) nd'
    | some x =>
      obtain ⟨t, p⟩ := x
      obtain ⟨w1, w2⟩ := f.want_some (Tc := Tc) hag
      rcases w2 with w2 | w2
      · have ht := w1.1 w2
        have hgt : ∀ t' p', a.g = some (t', p') → Tc t' = Value.bool p' := fun t' p' e => by rw [hag] at e; cases e; exact ht
        rw [w2]
        obtain ⟨v, hv, _, hr⟩ := hpv sem hgt
        refine (hr h sem.ok.le (fun _ _ _ _ => rfl)).sop ?_
        rw [put_some (f.dst.trans hd)]
        exact r os hm.2 hok.2 _ _ _ _ (sem.put hne hg (gok_in hv hgt)) nd'
      · have ht : ¬ Tc t = .bool p := fun e => by rw [w1.2 e] at w2; cases w2
        rw [w2]
        simp only [Bool.false_eq_true, if_false]
        rw [put_some (f.dst.trans hd)]
        exact r os hm.2 hok.2 _ _ _ _ (sem.put hne hg (by rw [hag]; exact gok_skip ht)) nd'
theorem RegN.acs {az : List AO} {s s' : St} (hk : isAct a.k.op = true) (acs : ∀ o, Fit P N ops o a → AcS h0 P N ops o a s s') (r : RegN P N ops h0 Q az s') : RegN P N ops h0 Q (a :: az) s := by
  intro os hm hok β hF h Tc sem nd
  cases os with
  | nil => simp at hm
  | cons o os =>
    simp only [List.map_cons, List.cons.injEq] at hm
    simp only [List.all_cons, Bool.and_eq_true] at hok
    have f := fit_of hm.1 hok.1
    refine ⟨f.lt, ?_⟩
    cases acs _ f with
    | plain ra hag hq hs hok' hnw hpg hpn hσ =>
      subst hs
      rw [f.want_none hag]
      refine (hok' sem).mono fun v h' x => ?_
      obtain ⟨β', hF', sem', l, rv, _, _⟩ := x.sem sem hnw hpn
      cases hd : a.dst with
      | none =>
        rw [put_none (f.dst.trans hd)]
        exact r os hm.2 hok.2 _ _ _ _ (by simpa [addL, hd] using sem') (by simpa [addL, hd] using nod_pg ra.pg (nod_none nd hd))
      | some d =>
        rw [put_some (f.dst.trans hd)]
        obtain ⟨nd', hne⟩ := nod_step (nod_pg ra.pg nd) hd none ra.v
        exact r os hm.2 hok.2 _ _ _ _ (by simpa [addL, hd] using sem'.put (g := none) hne (fun _ _ e => by cases e) rv) (by simpa [addL, hd] using nd')
    | guarded ra d t p hag hd hs hin hrσ hmd hnw hpg hok' =>
      subst hs
      obtain ⟨w1, w2⟩ := f.want_some (Tc := Tc) hag
      obtain ⟨nd', hne⟩ := nod_step nd hd a.g ra.v
      have hgin : ∀ t' p', a.g = some (t', p') → ∃ e ∈ s.L, e.1 = t' := fun t' p' e => by rw [hag] at e; cases e; exact hin
      rcases w2 with w2 | w2
      · have ht := w1.1 w2
        rw [w2]
        refine (hok' sem ht).mono fun v h' x => ?_
        obtain ⟨β', hF', sem', l, rv, _, _⟩ := x.sem sem (fun d e => by rw [hnw] at e; cases e) (fun e => absurd hpg e)
        rw [hpg, hrσ] at sem'
        rw [put_some (f.dst.trans hd)]
        exact r os hm.2 hok.2 _ _ _ _ (sem'.put hne hgin (gok_in rv (fun t' p' e => by rw [hag] at e; cases e; exact ht))) nd'
      · have ht : ¬ Tc t = .bool p := fun e => by rw [w1.2 e] at w2; cases w2
        rw [w2]
        simp only [Bool.false_eq_true, if_false]
        rw [put_some (f.dst.trans hd)]
        exact r os hm.2 hok.2 _ _ _ _ (sem.put hne hgin (by rw [hag]; exact gok_skip ht)) nd'
theorem RegN.run : ∀ {az rest : List AO} {s s' : St} {ob : Prop}, Ab.run az s = (rest, s', ob) → ob → RegN P N ops h0 Q rest s' → RegN P N ops h0 Q az s
  | [], rest, s, s', ob, e, hob, r => by cases e; exact r
  | a :: az, rest, s, s', ob, e, hob, r => by
    unfold Ab.run at e
    split at e
    · rename_i ob1 s1 h1
      simp only [Prod.mk.injEq] at e
      obtain ⟨e1, e2, rfl⟩ := e
      have ih := RegN.run (az := az) (s := s1) (rest := rest) (s' := s') (ob := (Ab.run az s1).2.2) (by rw [← e1, ← e2]) hob.2 r
      unfold step1 at h1
      split at h1
      · exact RegN.acs (stepA_kind h1) (fun o f => stepA_ok h1 f hob.1) ih
      · exact RegN.stepP h1 hob.1 ih
    · cases e; exact r
/-! ### Regions that draw -/
def FOk (F : List RdA) (β : Nat → Value) (hF h : Heap) (σ : AS) (rs : List Nat) : Prop :=
  (∀ A ∈ F, ∀ g, hF.le g → (∀ id ∈ rs, ∀ b, baseOf (β id) = some b → g b = h b) → A.on g) ∧ ∀ id ∈ rs, ∃ x, (id, x) ∈ σ
def RegD (P : Program) (N : Nat) (ops : Array Oper) (loud : List Nat) (h0 : Gd) (Q : Tm → Heap → Prop) (az : List AO) (s : St) : Prop :=
  ∀ τ : List Ent, τ.map (fun e => (e.2, strip ops (opAt ops e.1), loud.contains e.1)) = az.map (fun a => (true, a.strip, !a.q)) → az.all (okA P N) = true →
    ∀ β hF h Tc F E, Sem h0 β hF h Tc s.T s.L s.σ → FOk F β hF h s.σ s.rs → Nod s.L az → sdraw P N ops [] loud Q τ Tc h F E
theorem FOk.rd {F : List RdA} {σ : AS} {rs : List Nat} (k : FOk F β hF h σ rs) (r : Option Nat) (hr : ∀ id, r = some id → ∃ x, (id, x) ∈ σ) : FOk F β hF h σ (addrd r rs) := by
  cases r with
  | none => exact k
  | some id => exact ⟨fun A hA g hg hb => k.1 A hA g hg fun j hj => hb j (List.mem_cons_of_mem _ hj), fun j hj => by
      rcases List.mem_cons.1 hj with rfl | hj
      · exact hr _ rfl
      · exact k.2 j hj⟩
theorem d_head {e : Ent} {τ : List Ent} {az : List AO} (hm : (e :: τ).map (fun e => (e.2, strip ops (opAt ops e.1), loud.contains e.1)) = (a :: az).map (fun a => (true, a.strip, !a.q))) :
    ∃ i, e = (i, true) ∧ strip ops (opAt ops i) = a.strip ∧ (i ∈ loud ↔ a.q = false) ∧ τ.map (fun e => (e.2, strip ops (opAt ops e.1), loud.contains e.1)) = az.map (fun a => (true, a.strip, !a.q)) := by
  simp only [List.map_cons, List.cons.injEq, Prod.mk.injEq] at hm
  obtain ⟨⟨h1, h2, h3⟩, h4⟩ := hm
  obtain ⟨i, b⟩ := e
  simp only at h1 h2 h3
  subst h1
  refine ⟨i, rfl, h2, ?_, h4⟩
  have : i ∈ loud ↔ loud.contains i = true := by simp
  rw [this, h3]
  cases a.q <;> simp
theorem RegD.stepP {az : List AO} {s s' : St} {ob : Prop} (e : Ab.stepP a s = some (ob, s')) (hob : ob) (r : RegD P N ops loud h0 Q az s') : RegD P N ops loud h0 Q (a :: az) s := by
  intro τ hm hok β hF h Tc F E sem fo nd
  cases τ with
  | nil => simp at hm
  | cons e0 τ =>
    obtain ⟨i, rfl, hstrip, hloud, hm2⟩ := d_head hm
    simp only [List.all_cons, Bool.and_eq_true] at hok
    have f := fit_of hstrip hok.1
    obtain ⟨d, rr, hd, rfl, hg, hrd, hpv⟩ := stepP_ok e f hob
    obtain ⟨nd', hne⟩ := nod_step nd hd a.g rr.v
    have hact : isAct (opAt ops i).op = false := by rw [f.op]; exact stepP_kind e
    have fo' := fo.rd rr.rd hrd
    simp only [sdraw, List.not_mem_nil, if_false, hact, Bool.false_eq_true]
    have done : (∀ t p, a.g = some (t, p) → Tc t = Value.bool p) → if isRead (opAt ops i).op = true then ∃ v A, A.on h ∧ (∀ g, A.on g → ReadOp P (opAt ops i) (ev Tc) g v) ∧ sdraw P N ops [] loud Q τ (put Tc (opAt ops i).dst v) h (A :: F) E
        else ∃ v, PureOp P (opAt ops i) (ev Tc) v ∧ sdraw P N ops [] loud Q τ (put Tc (opAt ops i).dst v) h F E := by
      intro hgt
      obtain ⟨v, hv, hp, hr⟩ := hpv sem hgt
      cases hrd' : isRead (opAt ops i).op with
      | true =>
        rw [if_pos rfl]
        refine ⟨v, ⟨fun g => hF.le g ∧ ∀ id b, rr.rd = some id → baseOf (β id) = some b → g b = h b, fun g g' hgg hg => ⟨Heap.le_trans hg.1 hgg, fun id b e1 e2 => ?_⟩⟩, ⟨sem.ok.le, fun _ _ _ _ => rfl⟩, fun g hg => hr g hg.1 hg.2, ?_⟩
        · have h1 := hg.2 id b e1 e2
          obtain ⟨x, hx⟩ := hrd id e1
          obtain ⟨ob', h2⟩ := (sem.ok.ok _ hx).blk ((sem.ok.ok _ hx).fp e2)
          rw [h2] at h1 ⊢
          exact hgg _ _ h1
        · rw [put_some (f.dst.trans hd)]
          refine r τ hm2 hok.2 _ _ _ _ _ _ (sem.put hne hg (gok_in hv hgt)) ⟨fun A hA g hg hb => ?_, fo'.2⟩ nd'
          rcases List.mem_cons.1 hA with rfl | hA
          · refine ⟨hg, fun id b e1 e2 => hb id ?_ b e2⟩
            simp [addrd, e1]
          · exact fo'.1 A hA g hg hb
      | false =>
        rw [if_neg (by simp)]
        refine ⟨v, hp hrd', ?_⟩
        rw [put_some (f.dst.trans hd)]
        exact r τ hm2 hok.2 _ _ _ _ _ _ (sem.put hne hg (gok_in hv hgt)) fo' nd'
    cases hag : a.g with
    | none =>
      rw [f.want_none hag]
      simp only [if_true]
      exact done (fun t p e => by rw [hag] at e; cases e)
    | some x =>
      obtain ⟨t, p⟩ := x
      obtain ⟨w1, w2⟩ := f.want_some (Tc := Tc) hag
      rcases w2 with w2 | w2
      · have ht := w1.1 w2
        rw [w2]
        simp only [if_true]
        exact done (fun t' p' e => by rw [hag] at e; cases e; exact ht)
      · have ht : ¬ Tc t = .bool p := fun e => by rw [w1.2 e] at w2; cases w2
        rw [w2]
        simp only [Bool.false_eq_true, if_false]
        rw [put_some (f.dst.trans hd)]
        exact r τ hm2 hok.2 _ _ _ _ _ _ (sem.put hne hg (by rw [hag]; exact gok_skip ht)) fo' nd'
theorem RegD.acs {az : List AO} {s s' : St} (hk : isAct a.k.op = true) (acs : ∀ o, Fit P N ops o a → AcS h0 P N ops o a s s') (r : RegD P N ops loud h0 Q az s') : RegD P N ops loud h0 Q (a :: az) s := by
  intro τ hm hok β hF h Tc F E sem fo nd
  cases τ with
  | nil => simp at hm
  | cons e0 τ =>
    obtain ⟨i, rfl, hstrip, hloud, hm2⟩ := d_head hm
    simp only [List.all_cons, Bool.and_eq_true] at hok
    have f := fit_of hstrip hok.1
    have hact : isAct (opAt ops i).op = true := by rw [f.op]; exact hk
    simp only [sdraw, List.not_mem_nil, if_false, hact, if_true]
    cases acs _ f with
    | plain ra hag hq hs hok' hnw hpg hpn hσ =>
      subst hs
      rw [f.want_none hag]
      simp only [if_true]
      -- the rest, behind the act
      have next : ∀ v h', AcOk h0 β hF h s.σ ra v h' → ∀ F', (∀ β' hF', hF.le hF' → (∀ id, ra.nw ≠ some id → ra.pg ≠ some id → β' id = β id) → (∀ e ∈ s.σ, ra.md ≠ some e.1 → ∀ b, fpOf (β e.1) e.2 b → h' b = h b) → FOk F' β' hF' h' ra.σ (if a.q = true then s.rs else [])) → sdraw P N ops [] loud Q τ (put Tc (opAt ops i).dst v) h' F' E := by
        intro v h' x F' hF'ok
        obtain ⟨β', hF', sem', l, rv, eβ, keep⟩ := x.sem sem hnw hpn
        have fo' := hF'ok β' hF' l eβ keep
        cases hd : a.dst with
        | none =>
          rw [put_none (f.dst.trans hd)]
          exact r τ hm2 hok.2 _ _ _ _ _ _ (by simpa [addL, hd] using sem') fo' (by simpa [addL, hd] using nod_pg ra.pg (nod_none nd hd))
        | some d =>
          rw [put_some (f.dst.trans hd)]
          obtain ⟨nd', hne⟩ := nod_step (nod_pg ra.pg nd) hd none ra.v
          exact r τ hm2 hok.2 _ _ _ _ _ _ (by simpa [addL, hd] using sem'.put (g := none) hne (fun _ _ e => by cases e) rv) fo' (by simpa [addL, hd] using nd')
      cases hqq : a.q with
      | false =>
        rw [if_pos (hloud.2 hqq)]
        exact (hok' sem).mono fun v h' x => next v h' x [] fun β' hF' _ _ _ => ⟨fun A hA => (by cases hA), fun id hid => (by rw [hqq] at hid; simp at hid)⟩
      | true =>
        rw [if_neg (fun e => by rw [hloud.1 e] at hqq; cases hqq)]
        have hnomd : ∀ id ∈ s.rs, ra.md ≠ some id := by
          intro id hid e1
          rw [hqq, e1] at hq
          simp only [hits, Bool.true_and] at hq
          rw [List.contains_iff_mem.2 hid] at hq; cases hq
        refine (hok' sem).mono fun v h' x => ⟨fun A hA _ => ?_, next v h' x F fun β' hF' l eβ keep => ⟨fun A hA g hg hb => ?_, fun id hid => ?_⟩⟩
        · obtain ⟨β', hF', k, l, eβ, rv, keep⟩ := x
          refine fo.1 A hA h' (Heap.le_trans l k.le) fun id hid b e1 => ?_
          obtain ⟨x, hx⟩ := fo.2 id hid
          exact keep _ hx (hnomd id hid) b ((sem.ok.ok _ hx).fp e1)
        · rw [hqq] at hb
          simp only [if_true] at hb
          refine fo.1 A hA g (Heap.le_trans l hg) fun id hid b e1 => ?_
          obtain ⟨x, hx⟩ := fo.2 id hid
          have hnd : ra.nw ≠ some id := fun e2 => by
            have := hnw id e2
            simp only [okNew, Bool.and_eq_true] at this
            exact (nmS_spec this.1.2 _ hx).1 rfl
          have hnp : ra.pg ≠ some id := fun e2 => by
            rcases hpg with h1 | h1
            · exact hnomd id hid (h1 ▸ e2)
            · rw [h1] at e2; cases e2
          have hb' := eβ id hnd hnp
          rw [hb id hid b (by rw [hb']; exact e1)]
          exact keep _ hx (hnomd id hid) b ((sem.ok.ok _ hx).fp e1)
        · rw [hqq] at hid
          obtain ⟨x, hx⟩ := fo.2 id (by simpa using hid)
          exact hσ _ hx
    | guarded ra d t p hag hd hs hin hrσ hmd hnw hpg hok' =>
      subst hs
      obtain ⟨w1, w2⟩ := f.want_some (Tc := Tc) hag
      obtain ⟨nd', hne⟩ := nod_step nd hd a.g ra.v
      have hgin : ∀ t' p', a.g = some (t', p') → ∃ e ∈ s.L, e.1 = t' := fun t' p' e => by rw [hag] at e; cases e; exact hin
      rcases w2 with w2 | w2
      · have ht := w1.1 w2
        rw [w2]
        simp only [if_true]
        have next : ∀ v h', AcOk h0 β hF h s.σ ra v h' → ∀ F', (∀ β' hF', hF.le hF' → (∀ id, β' id = β id) → (∀ e ∈ s.σ, ∀ b, fpOf (β e.1) e.2 b → h' b = h b) → FOk F' β' hF' h' s.σ s.rs) → sdraw P N ops [] loud Q τ (put Tc (opAt ops i).dst v) h' F' E := by
          intro v h' x F' hF'ok
          obtain ⟨β', hF', sem', l, rv, eβ, keep⟩ := x.sem sem (fun d e => by rw [hnw] at e; cases e) (fun e => absurd hpg e)
          rw [hpg, hrσ] at sem'
          rw [put_some (f.dst.trans hd)]
          refine r τ hm2 hok.2 _ _ _ _ _ _ (sem'.put hne hgin (gok_in rv (fun t' p' e => by rw [hag] at e; cases e; exact ht))) (hF'ok β' hF' l (fun id => eβ id (by rw [hnw]; simp) (by rw [hpg]; simp)) (fun e he => keep e he (by rw [hmd]; simp))) nd'
        split
        · exact (hok' sem ht).mono fun v h' x => next v h' x [] fun β' hF' _ _ _ => ⟨fun A hA => (by cases hA), fo.2⟩
        · refine (hok' sem ht).mono fun v h' x => ⟨fun A hA _ => ?_, next v h' x F fun β' hF' l eβ keep => ⟨fun A hA g hg hb => ?_, fo.2⟩⟩
          · obtain ⟨β', hF', k, l, eβ, rv, keep⟩ := x
            refine fo.1 A hA h' (Heap.le_trans l k.le) fun id hid b e1 => ?_
            obtain ⟨x, hx⟩ := fo.2 id hid
            exact keep _ hx (by rw [hmd]; simp) b ((sem.ok.ok _ hx).fp e1)
          · refine fo.1 A hA g (Heap.le_trans l hg) fun id hid b e1 => ?_
            obtain ⟨x, hx⟩ := fo.2 id hid
            rw [hb id hid b (by rw [eβ id]; exact e1)]
            exact keep _ hx b ((sem.ok.ok _ hx).fp e1)
      · have ht : ¬ Tc t = .bool p := fun e => by rw [w1.2 e] at w2; cases w2
        rw [w2]
        simp only [Bool.false_eq_true, if_false]
        rw [put_some (f.dst.trans hd)]
        exact r τ hm2 hok.2 _ _ _ _ _ _ (sem.put hne hgin (by rw [hag]; exact gok_skip ht)) fo nd'
theorem RegD.run : ∀ {az rest : List AO} {s s' : St} {ob : Prop}, Ab.run az s = (rest, s', ob) → ob → RegD P N ops loud h0 Q rest s' → RegD P N ops loud h0 Q az s
  | [], rest, s, s', ob, e, hob, r => by cases e; exact r
  | a :: az, rest, s, s', ob, e, hob, r => by
    unfold Ab.run at e
    split at e
    · rename_i ob1 s1 h1
      simp only [Prod.mk.injEq] at e
      obtain ⟨e1, e2, rfl⟩ := e
      have ih := RegD.run (az := az) (s := s1) (rest := rest) (s' := s') (ob := (Ab.run az s1).2.2) (by rw [← e1, ← e2]) hob.2 r
      unfold step1 at h1
      split at h1
      · exact RegD.acs (stepA_kind h1) (fun o f => stepA_ok h1 f hob.1) ih
      · exact RegD.stepP h1 hob.1 ih
    · cases e; exact r
end
end Go.Proofs.Ytielfejpnkcjbaa.Ab

/- Calls; the rules for code. -/
set_option linter.unusedVariables false
set_option linter.unusedSimpArgs false
namespace Go.Proofs.Ytielfejpnkcjbaa.Ab
open Go.Proofs.Ytielfejpnkcjbaa.Sl
/-- A function that turns nothing that is there: what it answers to frozen values. -/
def PureCall (P : Program) (f : FuncId) (xs : List FV) (res : FV) : Prop := ∀ (h : Heap) (vs : List Value), FReps h xs vs → SCalls P f vs.toArray h (fun r h' => h.le h' ∧ FRep h' res r)
/-- One that answers with a new slice of the caller's own. -/
def OwnCall (P : Program) (f : FuncId) (xs : List FV) (t : TypeId) (sz : Nat) (rows : List (List FV)) : Prop := ∀ (h : Heap) (vs : List Value), FReps h xs vs → SCalls P f vs.toArray h (fun r h' => ∃ hF ws, h.le hF ∧ hF.le h' ∧ Own h' t sz r rows.length ws ∧ (∀ x ∈ rows, x.length = sz) ∧ (∀ x ∈ rows, x.all FV.one = true) ∧ FReps hF rows.flatten ws ∧ ∀ b, baseOf r = some b → hF b = none)
def FConv (xs ys : List FV) : Prop := ∀ (h : Heap) (vs : List Value), FReps h xs vs → FReps h ys vs
theorem FConv.rfl {xs : List FV} : FConv xs xs := fun _ _ r => r
theorem FConv.cons {x y : FV} {xs ys : List FV} (a : ∀ (h : Heap) (v : Value), FRep h x v → FRep h y v) (b : FConv xs ys) : FConv (x :: xs) (y :: ys) := fun h vs r => by
  obtain ⟨v, ws, rfl, r1, r2⟩ := r.uncons
  exact FReps.cons (a h v r1) (b h ws r2)
section
variable {P : Program} {N : Nat} {ops : Array Oper} {h0 : Gd} {β : Nat → Value} {hF h : Heap} {Tc : Tm} {o : Oper} {a : AO} {Q : Tm → Heap → Prop} {loud : List Nat}
/-- A call over a part of what is known. -/
theorem SCalls.frame {f : FuncId} {vs : Array Value} {R : Value → Heap → Prop} (c : SCalls P f vs hF R) (l : hF.le h) (hR : ∀ r h1, R r h1 → hF.le h1) :
    SCalls P f vs h (fun r h2 => ∃ h1, R r h1 ∧ h1.le h2 ∧ h.le h2 ∧ ∀ b, hF b = none → h b ≠ none → h1 b = none) := by
  intro w rel
  refine (c w (rel.le l)).mono ?_
  rintro e w' ⟨v, h1, rfl, hr, rel1, st⟩
  have hle1 := hR v h1 hr
  have hnew : ∀ b, hF b = none → h b ≠ none → h1 b = none := fun b e1 e2 => by
    cases e3 : h1 b with
    | none => rfl
    | some ob =>
      have h3 := st.fresh b e1 (by rw [e3]; simp)
      cases e4 : h b with
      | none => exact absurd e4 e2
      | some ob' => have := rel.lt e4; omega
  refine ⟨v, fun b => match h1 b with | some o => some o | none => h b, rfl, ⟨h1, hr, fun b ob e => by simp only [e], fun b ob e => ?_, hnew⟩, fun b ob e => ?_, ⟨st.os, st.tape, st.output, st.size, fun b hb hn => ?_, fun b hn hs => ?_⟩⟩
  · cases e1 : hF b with
    | some ob' =>
      have := l b ob' e1
      rw [e] at this; cases this
      simp only [hle1 b _ e1]
    | none => simp only [hnew b e1 (by rw [e]; simp), e]
  · cases e1 : h1 b with
    | some ob' => simp only [e1] at e; cases e; exact rel1 b _ e1
    | none =>
      simp only [e1] at e
      have hFb : hF b = none := by
        cases e2 : hF b with
        | none => rfl
        | some ob' => rw [hle1 b _ e2] at e1; cases e1
      exact (st.keep b (rel.lt e) hFb).trans (rel b ob e)
  · refine st.keep b hb ?_
    cases e2 : hF b with
    | none => rfl
    | some ob' => rw [l b _ e2] at hn; cases hn
  · refine st.fresh b ?_ ?_
    · cases e2 : hF b with
      | none => rfl
      | some ob' => rw [l b _ e2] at hn; cases hn
    · cases e1 : h1 b with
      | none => simp only [e1] at hs; exact absurd hn hs
      | some ob => simp
theorem okCall_spec {f : FuncId} (h : okCall P f = true) : ∃ fn, P.funcs[f]? = some fn ∧ (fn.name == "runtime.NumGoroutine") = false ∧ fn.body.isNone = false := by
  unfold okCall at h
  split at h
  · rename_i fn hf; simp only [Bool.and_eq_true, Bool.not_eq_true'] at h; exact ⟨fn, hf, h.1, h.2⟩
  · cases h
/-- Which function a call enters, with which values. -/
def target (oo : Operand → Option AV) : K → Option (FuncId × List FV)
  | .call f args _ => match ofzs oo args with
    | some xs => some (f, xs)
    | none => none
  | .callv x args _ => match oo x with
    | some (.fz (.fn f a b)) => match ofzs oo args with
      | some xs => some (f, a ++ xs ++ b)
      | none => none
    | _ => none
  | _ => none
theorem target_ok {T : AT} {L : AL} {σ : AS} (s : Sem h0 β hF h Tc T L σ) {ch : List (Nat × Bool)} (hch : ∀ x ∈ ch, Tc x.1 = .bool x.2) {k : K} {f : FuncId} {xs : List FV} (e : target (opd L T ch) k = some (f, xs)) (hop : o.op = k.op) (hc : okCall P f = true) :
    ∃ vs, FReps hF xs vs ∧ ∀ K', SCalls P f vs.toArray h K' → SOp P o (ev Tc) h K' := by
  obtain ⟨fn, h1, h2, h3⟩ := okCall_spec hc
  cases k <;> simp only [target, reduceCtorEq] at e
  case call f' args tys =>
    split at e
    · rename_i ys hys
      cases e
      exact ⟨args.map (ev Tc), ofzs_ok (fun x av e => opd_ok s hch e) hys, fun K' c => s_call hop rfl h1 h2 h3 (by simp) c⟩
    · cases e
  case callv x args tys =>
    split at e
    · rename_i f' fa fb hx
      split at e
      · rename_i ys hys
        cases e
        have hv := fz_fz (opd_ok s hch hx)
        generalize hvx : ev Tc x = v at hv
        cases hv with
        | @fn _ _ _ va vb hl hl2 hr hr2 =>
          refine ⟨va ++ args.map (ev Tc) ++ vb, ((FReps.app ⟨hl, hr⟩ (ofzs_ok (fun x av e => opd_ok s hch e) hys)).app ⟨hl2, hr2⟩), fun K' c => ?_⟩
          exact s_callv hop hvx h1 h2 h3 (by simp) c
      · cases e
    · cases e
theorem target_act {oo : Operand → Option AV} {k : K} {f : FuncId} {xs : List FV} (e : target oo k = some (f, xs)) : isAct k.op = true := by
  cases k <;> first | rfl | (simp only [target, reduceCtorEq] at e)
theorem pure_ac {σ : AS} (k : Ok h0 β hF h σ) {f : FuncId} {xs ys : List FV} {vs : List Value} {res : FV} (r : FReps hF xs vs) (cv : FConv xs ys) (c : PureCall P f ys res) : SCalls P f vs.toArray h (AcOk h0 β hF h σ ⟨True, .fz res, σ, none, none, none⟩) := by
  refine (SCalls.frame (c hF vs (cv _ _ r)) k.le (fun r h1 e => e.1)).mono ?_
  rintro v h2 ⟨h1, ⟨hle, hr⟩, hl1, hl2, hnew⟩
  have hb : ∀ e ∈ σ, ∀ b, fpOf (β e.1) e.2 b → h1 b = none ∧ h2 b = h b := fun e he b e1 => by
    obtain ⟨ob, h3⟩ := (k.ok e he).blk e1
    exact ⟨hnew b (k.out e he b e1) (by rw [h3]; simp), by rw [h3]; exact hl2 b ob h3⟩
  refine ⟨β, h1, ⟨Heap.le_trans k.le0 hle, hl1, fun e he => (k.ok e he).fr hle (fun b e1 => (hb e he b e1).2) rfl (fun _ _ _ _ => rfl), fun e he b e1 => (hb e he b e1).1, k.sep, k.fix, k.nd⟩, hle, fun _ _ _ => rfl, .fz hr, fun e he _ b e1 => (hb e he b e1).2⟩
theorem own_ac {σ : AS} (k : Ok h0 β hF h σ) {f : FuncId} {xs ys : List FV} {vs : List Value} {t : TypeId} {sz d : Nat} {rows : List (List FV)} (r : FReps hF xs vs) (cv : FConv xs ys) (c : OwnCall P f ys t sz rows) (hd : nmS d σ = true) (h1000 : d < 1000) : SCalls P f vs.toArray h (AcOk h0 β hF h σ ⟨True, .os d, (d, .rows t sz rows) :: σ, none, some d, none⟩) := by
  refine (SCalls.frame (c hF vs (cv _ _ r)) k.le (fun r h1 e => by obtain ⟨hF', ws, h1, h2, _⟩ := e; exact Heap.le_trans h1 h2)).mono ?_
  rintro v h2 ⟨h1, ⟨hF', ws, hle, hle1, own, hlen, hone, reps, hnb⟩, hl1, hl2, hnew⟩
  have hb : ∀ e ∈ σ, ∀ b, fpOf (β e.1) e.2 b → h1 b = none ∧ h2 b = h b := fun e he b e1 => by
    obtain ⟨ob, h3⟩ := (k.ok e he).blk e1
    exact ⟨hnew b (k.out e he b e1) (by rw [h3]; simp), by rw [h3]; exact hl2 b ob h3⟩
  have hFn : ∀ e ∈ σ, ∀ b, fpOf (β e.1) e.2 b → hF' b = none := fun e he b e1 => by
    cases e2 : hF' b with
    | none => rfl
    | some ob => have := (hb e he b e1).1; rw [hle1 b ob e2] at this; cases this
  have hvb : ∀ b, baseOf v = some b → h1 b ≠ none := fun b e1 => by
    rw [← blk_base own] at e1
    have own' := own
    generalize rows.length = n at own'
    cases own' with
    | nil => cases e1
    | at_ hb => cases e1; rw [hb]; simp
  have hd' := nmS_spec hd
  have hu : ∀ j, j ≠ d → upd β d v j = β j := fun j e => by simp [upd, e]
  have hud : upd β d v d = v := by simp [upd]
  refine ⟨upd β d v, hF', ⟨Heap.le_trans k.le0 hle, Heap.le_trans hle1 hl1, fun e he => ?_, fun e he b e1 => ?_, fun e he e' he' b hne e1 => ?_, fun id hid => by rw [hu id (by omega)]; exact k.fix id hid, ?_⟩, hle, fun id e _ => hu id fun e2 => e (by rw [e2]), ?_, fun e he _ b e1 => (hb e he b e1).2⟩
  · rcases List.mem_cons.1 he with rfl | he
    · refine ⟨ws, ?_, hlen, hone, reps⟩
      have := Own.le own hl1
      simpa [hud] using this
    · exact (k.ok e he).fr hle (fun b e1 => (hb e he b e1).2) (hu _ (hd' e he).1) (fun c hc j hj => hu _ fun e2 => (hd' e he).2 c hc (by rw [← e2]; exact hj))
  · rcases List.mem_cons.1 he with rfl | he
    · simp only [hud] at e1; exact hnb b e1
    · rw [hu _ (hd' e he).1] at e1; exact hFn e he b e1
  · rcases List.mem_cons.1 he with rfl | he <;> rcases List.mem_cons.1 he' with rfl | he'
    · exact absurd rfl hne
    · simp only [hud] at e1
      rw [hu _ (hd' e' he').1]
      intro e2
      exact hvb b e1 (hb e' he' b e2).1
    · rw [hu _ (hd' e he).1] at e1
      simp only [hud]
      intro e2
      exact hvb b e2 (hb e he b e1).1
    · rw [hu _ (hd' e he).1] at e1
      rw [hu _ (hd' e' he').1]
      exact k.sep e he e' he' b hne e1
  · simp only [List.map_cons, List.nodup_cons]
    refine ⟨fun hm => ?_, k.nd⟩
    obtain ⟨e, he, e1⟩ := List.mem_map.1 hm
    exact (hd' e he).1 e1
  · have := ARep.os (β := upd β d v) (h := hF') d
    simpa [hud] using this
/-! ### The judgement on what is left of a region -/
def Reg (P : Program) (N : Nat) (ops : Array Oper) (dr : Option (List Nat)) (h0 : Gd) (Q : Tm → Heap → Prop) (az : List AO) (s : St) : Prop := match dr with
  | none => RegN P N ops h0 Q az s
  | some loud => RegD P N ops loud h0 Q az s
variable {dr : Option (List Nat)} {az rest : List AO} {s s' : St}
theorem reg_run {ob : Prop} (e : run az s = (rest, s', ob)) (hob : ob) (r : Reg P N ops dr h0 Q rest s') : Reg P N ops dr h0 Q az s := by
  cases dr with
  | none => exact RegN.run e hob r
  | some l => exact RegD.run e hob r
theorem reg_acs (hk : isAct a.k.op = true) (acs : ∀ o, Fit P N ops o a → AcS h0 P N ops o a s s') (r : Reg P N ops dr h0 Q az s') : Reg P N ops dr h0 Q (a :: az) s := by
  cases dr with
  | none => exact RegN.acs hk acs r
  | some l => exact RegD.acs hk acs r
/-- A call of a function that turns nothing. -/
theorem reg_call {d : Nat} {k : K} {q : Bool} {f : FuncId} {xs ys : List FV} {res : FV} (e : target (opd s.L s.T []) k = some (f, xs)) (hc : okCall P f = true) (c : PureCall P f ys res) (cv : FConv xs ys)
    (r : Reg P N ops dr h0 Q az ⟨s.T, (d, none, .fz res) :: s.L, s.σ, if q = true then s.rs else []⟩) : Reg P N ops dr h0 Q (⟨some d, none, k, q⟩ :: az) s := by
  refine reg_acs (target_act e) (fun o f' => ?_) r
  refine .plain ⟨True, .fz res, s.σ, none, none, none⟩ rfl (by simp [hits]) rfl (fun sem => ?_) (fun _ e => by cases e) (.inl rfl) (fun _ => rfl) (fun e he => ⟨_, he⟩)
  obtain ⟨vs, h1, h2⟩ := target_ok sem (ch := []) (fun x hx => by cases hx) e f'.op hc
  exact h2 _ (pure_ac sem.ok h1 cv c)
/-- One under a guard. -/
theorem reg_callg {d t : Nat} {p : Bool} {k : K} {q : Bool} {f : FuncId} {xs ys : List FV} {res : FV} (e : target (opd s.L s.T (chain s.L 3 (some (t, p)))) k = some (f, xs)) (hc : okCall P f = true) (c : PureCall P f ys res) (cv : FConv xs ys)
    (hin : (lookL s.L t).isSome = true) (r : Reg P N ops dr h0 Q az ⟨s.T, (d, some (t, p), .fz res) :: s.L, s.σ, s.rs⟩) : Reg P N ops dr h0 Q (⟨some d, some (t, p), k, q⟩ :: az) s := by
  refine reg_acs (target_act e) (fun o f' => ?_) r
  refine .guarded ⟨True, .fz res, s.σ, none, none, none⟩ d t p rfl rfl rfl ?_ rfl rfl rfl rfl (fun {β hF h Tc} sem ht => ?_)
  · obtain ⟨x, hx⟩ := Option.isSome_iff_exists.1 hin
    exact ⟨_, lookL_mem hx, rfl⟩
  · obtain ⟨vs, h1, h2⟩ := target_ok sem (chain_ok sem 3 (some (t, p)) (fun a b e => by cases e; exact ht)) e f'.op hc
    exact h2 _ (pure_ac sem.ok h1 cv c)
/-- One whose answer is a new slice of one's own. -/
theorem reg_callo {d : Nat} {k : K} {q : Bool} {f : FuncId} {xs ys : List FV} {t : TypeId} {sz : Nat} {rows : List (List FV)} (e : target (opd s.L s.T []) k = some (f, xs)) (hc : okCall P f = true) (c : OwnCall P f ys t sz rows) (cv : FConv xs ys) (hd : okNew d s.T s.L s.σ = true)
    (r : Reg P N ops dr h0 Q az ⟨s.T, (d, none, .os d) :: s.L, (d, .rows t sz rows) :: s.σ, if q = true then s.rs else []⟩) : Reg P N ops dr h0 Q (⟨some d, none, k, q⟩ :: az) s := by
  refine reg_acs (target_act e) (fun o f' => ?_) r
  refine .plain ⟨True, .os d, (d, .rows t sz rows) :: s.σ, none, some d, none⟩ rfl (by simp [hits]) rfl (fun sem => ?_) (fun _ e => by cases e; exact hd) (.inl rfl) (fun h => absurd rfl h) (fun e he => ⟨_, List.mem_cons_of_mem _ he⟩)
  obtain ⟨vs, h1, h2⟩ := target_ok sem (ch := []) (fun x hx => by cases hx) e f'.op hc
  have hd' := hd
  simp only [okNew, Bool.and_eq_true] at hd'
  exact h2 _ (own_ac sem.ok h1 cv c hd'.1.2 (of_decide_eq_true hd'.2))
end
end Go.Proofs.Ytielfejpnkcjbaa.Ab

/- The rules for code; functions. -/
set_option linter.unusedVariables false
set_option linter.unusedSimpArgs false
namespace Go.Proofs.Ytielfejpnkcjbaa.Ab
open Go.Proofs.Ytielfejpnkcjbaa.Sl
/-- Codes one behind the other. -/
def AK (P : Program) (N : Nat) (Q : Exit → Tm → Heap → Prop) : List Code → Tm → Heap → Prop
  | [], T, h => Q .normal T h
  | c :: r, T, h => SCode P N c (thenS (AK P N Q r) Q) T h
def AC (P : Program) (N : Nat) (h0 : Gd) (cs : List Code) (Q : Exit → Tm → Heap → Prop) (T : AT) (σ : AS) : Prop := ∀ β hF h Tc, Sem h0 β hF h Tc T [] σ → AK P N Q cs Tc h
/-- What of the slots is kept. -/
def keepT : List Nat → AL → AT → AT
  | [], _, _ => []
  | t :: r, L, T => match lookV L T t with
    | some (none, .hid) => keepT r L T
    | some (none, x) => (t, x) :: keepT r L T
    | _ => keepT r L T
def nmB (d : Nat) : AS → Bool
  | [] => true
  | e :: r => nmC d e.2.cells && nmB d r
/-- What of the objects is kept: those that a slot or an object names. -/
def keepS (T : AT) (σ0 : AS) : AS → AS
  | [] => []
  | e :: r => if (nmT e.1 T && nmB e.1 σ0 && decide (e.1 < 1000)) = true then keepS T σ0 r else e :: keepS T σ0 r
def okAs (P : Program) (N : Nat) (az : List AO) : Bool := az.all (okA P N) && decide ((az.filterMap (·.dst)).Nodup)
section
variable {P : Program} {N : Nat} {ops : Array Oper} {h0 : Gd} {β : Nat → Value} {hF h : Heap} {Tc : Tm} {Q : Exit → Tm → Heap → Prop} {T T' : AT} {L : AL} {σ σ' : AS} {x y c : Code}
theorem Ok.sub (k : Ok h0 β hF h σ) (hs : List.Sublist σ' σ) : Ok h0 β hF h σ' :=
  ⟨k.le0, k.le, fun e he => k.ok e (hs.subset he), fun e he => k.out e (hs.subset he), fun e he e' he' => k.sep e (hs.subset he) e' (hs.subset he'), k.fix, (hs.map _).nodup k.nd⟩
theorem keepS_sub (T : AT) (σ0 : AS) : ∀ σ : AS, List.Sublist (keepS T σ0 σ) σ
  | [] => .slnil
  | e :: r => by
    unfold keepS
    split
    · exact (keepS_sub T σ0 r).cons _
    · exact (keepS_sub T σ0 r).cons_cons _
theorem keepT_mem : ∀ {ks : List Nat} {L : AL} {T : AT} {e : Nat × AV}, e ∈ keepT ks L T → lookV L T e.1 = some (none, e.2)
  | [], L, T, e, he => by cases he
  | t :: r, L, T, e, he => by
    unfold keepT at he
    split at he
    · exact keepT_mem he
    · rename_i x h1 h2
      rcases List.mem_cons.1 he with rfl | he
      · exact h2
      · exact keepT_mem he
    · exact keepT_mem he
theorem Sem.keep (s : Sem h0 β hF h Tc T L σ) (ks : List Nat) (hs : List.Sublist σ' σ) : Sem h0 β hF h Tc (keepT ks L T) [] σ' :=
  ⟨s.ok.sub hs, fun e he _ => s.lk (keepT_mem he), fun e he => (by cases he), fun e he => (by cases he)⟩
/-- The region's end: what is kept. -/
theorem reg_end {dr : Option (List Nat)} {s : St} {r : List Code} (ks : List Nat) (eT : keepT ks s.L s.T = T') (eσ : keepS T' s.σ s.σ = σ') (k : AC P N h0 r Q T' σ') : Reg P N ops dr h0 (AK P N Q r) [] s := by
  subst eT
  subst eσ
  cases dr with
  | none =>
    intro os hm hok β hF h Tc sem nd
    have : os = [] := by simpa using hm
    subst this
    exact k β hF h Tc (sem.keep ks (keepS_sub _ _ _))
  | some l =>
    intro τ hm hok β hF h Tc F E sem fo nd
    have : τ = [] := by simpa using hm
    subst this
    exact k β hF h Tc (sem.keep ks (keepS_sub _ _ _))
variable {r : List Code}
theorem a_reg {id : Nat} (az : List AO) (hm : ops.toList.map (strip ops) = az.map AO.strip) (hok : okAs P N az = true) (k : Reg P N ops none h0 (AK P N Q r) az ⟨T, [], σ, []⟩) : AC P N h0 (.region id ops false :: r) Q T σ := by
  intro β hF h Tc sem
  simp only [okAs, Bool.and_eq_true, decide_eq_true_eq] at hok
  exact s_region (k ops.toList hm hok.1 β hF h Tc sem (by simpa [Nod] using hok.2))
theorem a_regd {id : Nat} (τ : List Nat) (loud : List Nat) (az : List AO) (hm : (τ.map fun i => (i, true)).map (fun e : Ent => (e.2, strip ops (opAt ops e.1), loud.contains e.1)) = az.map (fun a => (true, a.strip, !a.q))) (hok : okAs P N az = true)
    (hmix : P.follows .mixedOrders = true) (hk : drawOk ops (τ.map fun i => (i, true)) [] loud = true) (hdN : (List.range ops.size).all (fun i => match (opAt ops i).dst with | some t => t < N | none => true) = true)
    (k : Reg P N ops (some loud) h0 (AK P N Q r) az ⟨T, [], σ, []⟩) : AC P N h0 (.region id ops true :: r) Q T σ := by
  intro β hF h Tc sem
  simp only [okAs, Bool.and_eq_true, decide_eq_true_eq] at hok
  exact s_draw _ [] loud hmix hk hdN (k _ hm hok.1 β hF h Tc [] _ sem ⟨fun A hA => (by cases hA), fun id hid => (by cases hid)⟩ (by simpa [Nod] using hok.2))
theorem a_seq (k : AC P N h0 (x :: y :: r) Q T σ) : AC P N h0 (.seq x y :: r) Q T σ := fun β hF h Tc sem => s_seq ((k β hF h Tc sem).mono fun e T h q => by cases e <;> exact q)
theorem a_skip (k : AC P N h0 r Q T σ) : AC P N h0 (.skip :: r) Q T σ := fun β hF h Tc sem => s_skip (k β hF h Tc sem)
theorem a_cond {c : Operand} {b : Bool} (e : opd [] T [] c = some (.fz (.val (.bool b)))) (rt : b = true → AC P N h0 (x :: r) Q T σ) (rf : b = false → AC P N h0 (y :: r) Q T σ) : AC P N h0 (.cond c x y :: r) Q T σ := fun β hF h Tc sem => by
  have hv := fz_val (opd_ok sem (ch := []) (fun x hx => by cases hx) e)
  refine s_cond hv ?_
  cases b with
  | true => exact rt rfl β hF h Tc sem
  | false => exact rf rfl β hF h Tc sem
theorem a_block {id : Nat} (k : AC P N h0 [c] (blockS id (thenS (AK P N Q r) Q)) T σ) : AC P N h0 (.block id c :: r) Q T σ := fun β hF h Tc sem => s_block ((k β hF h Tc sem).mono fun e T h q => by cases e <;> exact q)
/-- An exit. -/
def AX (h0 : Gd) (e : Exit) (Q : Exit → Tm → Heap → Prop) (T : AT) (σ : AS) : Prop := ∀ β hF h Tc, Sem h0 β hF h Tc T [] σ → Q e Tc h
theorem a_nil (k : AX h0 .normal Q T σ) : AC P N h0 [] Q T σ := k
theorem a_exit {id : Nat} (k : AX h0 (.exit id) Q T σ) : AC P N h0 (.exit id :: r) Q T σ := fun β hF h Tc sem => s_exit (k β hF h Tc sem)
theorem a_ret (k : AX h0 .ret Q T σ) : AC P N h0 (.ret :: r) Q T σ := fun β hF h Tc sem => s_ret (k β hF h Tc sem)
theorem x_end {id : Nat} (k : AC P N h0 r Q T σ) : AX h0 .normal (blockS id (thenS (AK P N Q r) Q)) T σ := k
theorem x_here {id : Nat} (k : AC P N h0 r Q T σ) : AX h0 (.exit id) (blockS id (thenS (AK P N Q r) Q)) T σ := fun β hF h Tc sem => by
  simp only [blockS, if_true]
  exact k β hF h Tc sem
theorem x_up {id id' : Nat} {A : Tm → Heap → Prop} (hne : id ≠ id') (k : AX h0 (.exit id) Q T σ) : AX h0 (.exit id) (blockS id' (thenS A Q)) T σ := fun β hF h Tc sem => by
  simp only [blockS, if_neg hne]
  exact k β hF h Tc sem
theorem x_then {id : Nat} {A : Tm → Heap → Prop} (k : AX h0 (.exit id) Q T σ) : AX h0 (.exit id) (thenS A Q) T σ := k
/-! ### Loops -/
def nextI (h0 : Gd) (I : Nat → AT → AS → Prop) (m : Nat) : Tm → Heap → Prop := fun Tc h => ∃ m', m' < m ∧ ∃ β hF T σ, Sem h0 β hF h Tc T [] σ ∧ I m' T σ
theorem a_loop (I : Nat → AT → AS → Prop) (m0 : Nat) (h1 : I m0 T σ) (round : ∀ m T σ, I m T σ → AC P N h0 [c] (thenS (nextI h0 I m) Q) T σ) : AC P N h0 (.loop c :: r) Q T σ := fun β hF h Tc sem => by
  refine s_loop (fun m Tc h => ∃ β hF T σ, Sem h0 β hF h Tc T [] σ ∧ I m T σ) (n0 := m0) ⟨β, hF, T, σ, sem, h1⟩ ?_
  rintro m Tc h ⟨β, hF, T, σ, sem, hI⟩
  refine (round m T σ hI β hF h Tc sem).mono fun e T h q => ?_
  cases e <;> exact q
theorem x_next {I : Nat → AT → AS → Prop} {m : Nat} (m' : Nat) (hm : m' < m) (k : I m' T σ) : AX h0 .normal (thenS (nextI h0 I m) Q) T σ := fun β hF h Tc sem => ⟨m', hm, β, hF, T, σ, sem, k⟩
/-- Ways come together. -/
def inJ (h0 : Gd) (J : AT → AS → Prop) : Tm → Heap → Prop := fun Tc h => ∃ β hF T σ, Sem h0 β hF h Tc T [] σ ∧ J T σ
theorem a_join (J : AT → AS → Prop) (k : AC P N h0 [c] (thenS (inJ h0 J) Q) T σ) (k2 : ∀ T σ, J T σ → AC P N h0 r Q T σ) : AC P N h0 (c :: r) Q T σ := fun β hF h Tc sem => by
  refine SCode.mono (k β hF h Tc sem) fun e T h q => ?_
  cases e with
  | normal => obtain ⟨β, hF, T, σ, sem, hJ⟩ := q; exact k2 T σ hJ β hF h _ sem
  | _ => exact q
theorem x_join {J : AT → AS → Prop} (k : J T σ) : AX h0 .normal (thenS (inJ h0 J) Q) T σ := fun β hF h Tc sem => ⟨β, hF, T, σ, sem, k⟩
/-- Less is known. -/
theorem a_weak (ks : List Nat) (eT : keepT ks [] T = T') (eσ : keepS T' σ σ = σ') (k : AC P N h0 r Q T' σ') : AC P N h0 r Q T σ := by
  subst eT
  subst eσ
  exact fun β hF h Tc sem => k β hF h Tc (sem.keep ks (keepS_sub _ _ _))
/-! ### Functions -/
def argT : Nat → List FV → AT
  | _, [] => []
  | i, x :: xs => (i, .fz x) :: argT (i + 1) xs
theorem argT_mem : ∀ {xs : List FV} {i : Nat} {e : Nat × AV}, e ∈ argT i xs → ∃ j x, xs[j]? = some x ∧ e = (i + j, .fz x)
  | [], i, e, he => by cases he
  | x :: xs, i, e, he => by
    rcases List.mem_cons.1 he with rfl | he
    · exact ⟨0, x, rfl, rfl⟩
    · obtain ⟨j, y, h1, rfl⟩ := argT_mem he
      exact ⟨j + 1, y, by simpa using h1, by rw [Nat.add_assoc, Nat.add_comm 1 j]⟩
theorem sem_enter {xs : List FV} {vs : List Value} (k : FReps h xs vs) : Sem ⟨h, fun _ => undef⟩ (fun _ => undef) h h (T0 vs.toArray) (argT 0 xs) [] [] :=
  ⟨⟨Heap.le_refl _, Heap.le_refl _, fun e he => (by cases he), fun e he => (by cases he), fun e he => (by cases he), fun _ _ => rfl, by simp⟩, fun e he _ => by
    obtain ⟨j, x, h1, rfl⟩ := argT_mem he
    have hj : j < vs.length := by rw [k.1]; exact (List.getElem?_eq_some_iff.1 h1).1
    refine .fz (k.2 j x _ h1 ?_)
    simp [T0, List.getElem?_eq_getElem hj], fun e he => (by cases he), fun e he => (by cases he)⟩
def PureR (h0 : Gd) (res : FV) : Value → Heap → Prop := fun r h' => h0.h.le h' ∧ FRep h' res r
def OwnR (h0 : Gd) (t : TypeId) (sz : Nat) (rows : List (List FV)) : Value → Heap → Prop := fun r h' => ∃ hF ws, h0.h.le hF ∧ hF.le h' ∧ Own h' t sz r rows.length ws ∧ (∀ x ∈ rows, x.length = sz) ∧ (∀ x ∈ rows, x.all FV.one = true) ∧ FReps hF rows.flatten ws ∧ ∀ b, baseOf r = some b → hF b = none
theorem p_enter {f : FuncId} {fn : Func} {xs : List FV} {res : FV} (hf : P.funcs[f]? = some fn) (hb : fn.body = some c) (k : ∀ h0, AC P fn.ntmps h0 [c] (retQ P fn (PureR h0 res)) (argT 0 xs) []) (hN : Nat.ble xs.length fn.ntmps = true := by kernel_rfl) : PureCall P f xs res := fun h vs r =>
  s_enter hf hb (by rw [List.size_toArray, r.1]; exact Nat.le_of_ble_eq_true hN) ((k ⟨h, _⟩ _ _ _ _ (sem_enter r)).mono fun e T h q => by cases e <;> exact q)
theorem o_enter {f : FuncId} {fn : Func} {xs : List FV} {t : TypeId} {sz : Nat} {rows : List (List FV)} (hf : P.funcs[f]? = some fn) (hb : fn.body = some c) (k : ∀ h0, AC P fn.ntmps h0 [c] (retQ P fn (OwnR h0 t sz rows)) (argT 0 xs) []) (hN : Nat.ble xs.length fn.ntmps = true := by kernel_rfl) : OwnCall P f xs t sz rows := fun h vs r =>
  s_enter hf hb (by rw [List.size_toArray, r.1]; exact Nat.le_of_ble_eq_true hN) ((k ⟨h, _⟩ _ _ _ _ (sem_enter r)).mono fun e T h q => by cases e <;> exact q)
/-! ### What is handed back -/
def resV (T : AT) (σ : AS) : ResultVar × Option Nat → Option FV
  | (.tmp t, _) => match lookT T t with
    | some (.fz x) => some x
    | _ => none
  | (.cell a _, none) => match lookT T a with
    | some (.oe id _ 0 0) => match lookS σ id with
      | some (.box _ [.fz x]) => some x
      | _ => none
    | some (.fz (.fp [x])) => some x
    | _ => none
  | (.cell a _, some n) => match lookT T a with
    | some (.oe id _ 0 0) => match lookS σ id with
      | some (.box _ cells) => match unfz cells with
        | some cs => if cs.length = n then some (.agg cs) else none
        | none => none
      | _ => none
    | some (.fz (.fp cs)) => if cs.length = n then some (.agg cs) else none
    | _ => none
def okR (P : Program) : ResultVar × Option Nat → Bool
  | (.tmp _, _) => true
  | (.cell _ ty, none) => isOne P ty
  | (.cell _ ty, some n) => isMany P ty && P.cellsOf ty == n
theorem resV_ok (s : Sem h0 β hF h Tc T [] σ) {x : ResultVar × Option Nat} {v : FV} (hok : okR P x = true) (e : resV T σ x = some v) : ∃ u, FRep hF v u ∧ ResOne P Tc h x.1 u := by
  have hT : ∀ {t : Nat} {av : AV}, lookT T t = some av → ARep β hF av (Tc t) := fun h => s.t _ (lookT_mem h) (fun e he => by cases he)
  obtain ⟨rv, k⟩ := x
  cases rv with
  | tmp t =>
    simp only [resV] at e
    split at e
    · rename_i x hx; cases e; exact ⟨_, fz_fz (hT hx), rfl⟩
    · cases e
  | cell a ty =>
    cases k with
    | none =>
      have hd : isOne P ty = true := hok
      simp only [resV] at e
      split at e
      · rename_i id sz hx
        split at e
        · rename_i t' x hσ
          cases e
          have h1 := hT hx
          generalize hv : Tc a = w at h1
          cases h1 with
          | @oe _ _ _ _ b hb =>
            obtain ⟨b', vs, hβ, hh, hr⟩ := s.ok.ok _ (lookS_mem hσ)
            have hbb : b' = b := by simp only [hβ, baseOf, Option.some.injEq] at hb; exact hb
            subst hbb
            obtain ⟨hl, hr⟩ := hr
            match vs, hl with
            | [u], _ =>
              have hu := fz_fz (hr 0 _ u rfl rfl)
              refine ⟨u, hu, ⟨some 0, .load ty (.tmp 0), 0, "", #[], none⟩, .tmp 0, rfl, ?_, ⟨_, hv⟩⟩
              exact r_ld1 (x := .tmp 0) rfl hd hv hh (by simp)
        · cases e
      · rename_i x hx
        cases e
        obtain ⟨b, off, full, ty', fz, hv, hb, hsz, hr⟩ := frep_fp (fz_fz (hT hx))
        have hlt : off < full.size := by simp at hsz; omega
        refine ⟨full[off], hr 0 _ _ rfl (Array.getElem?_eq_getElem hlt), ⟨some 0, .load ty (.tmp 0), 0, "", #[], none⟩, .tmp 0, rfl, ?_, ⟨_, hv⟩⟩
        exact r_ld1 (x := .tmp 0) rfl hd hv (s.ok.le _ _ hb) (Array.getElem?_eq_getElem hlt)
      · cases e
    | some n =>
      simp only [okR, Bool.and_eq_true, beq_iff_eq] at hok
      simp only [resV] at e
      split at e
      · rename_i id sz hx
        split at e
        · rename_i t' cells hσ
          split at e
          · rename_i cs hc
            split at e
            · rename_i hn
              cases e
              have h1 := hT hx
              generalize hv : Tc a = w at h1
              cases h1 with
              | @oe _ _ _ _ b hb =>
                obtain ⟨b', vs, hβ, hh, hr⟩ := s.ok.ok _ (lookS_mem hσ)
                have hbb : b' = b := by simp only [hβ, baseOf, Option.some.injEq] at hb; exact hb
                subst hbb
                rw [unfz_eq hc] at hr
                have hr := hr.unfz
                refine ⟨.agg vs.toArray, .agg hr.1 hr.2, ⟨some 0, .load ty (.tmp 0), 0, "", #[], none⟩, .tmp 0, rfl, ?_, ⟨_, hv⟩⟩
                have h5 := r_ldN (P := P) (x := .tmp 0) (o := ⟨some 0, .load ty (.tmp 0), 0, "", #[], none⟩) (ρ := fun _ => Tc a) rfl hok.1 hv hh hok.2 (by have := hr.1; simp; omega)
                have h6 : vs.toArray.extract (0 * sz + 0) (0 * sz + 0 + n) = vs.toArray := by
                  have := hr.1
                  simp only [Nat.zero_mul, Nat.zero_add]
                  rw [Array.extract_eq_self_of_le (by simp; omega)]
                rwa [h6] at h5
            · cases e
          · cases e
        · cases e
      · rename_i cs hx
        split at e
        · rename_i hn
          cases e
          obtain ⟨b, off, full, ty', fz, hv, hb, hsz, hr⟩ := frep_fp (fz_fz (hT hx))
          have h1 := FReps.of_fp (n := n) hsz (by omega) hr
          rw [List.take_of_length_le (by omega)] at h1
          refine ⟨.agg (full.extract off (off + n)), ?_, ⟨some 0, .load ty (.tmp 0), 0, "", #[], none⟩, .tmp 0, rfl, ?_, ⟨_, hv⟩⟩
          · have h2 := FRep.agg h1.1 h1.2
            rwa [Array.toArray_toList] at h2
          · exact r_ldN (x := .tmp 0) rfl hok.1 hv (s.ok.le _ _ hb) hok.2 (by omega)
        · cases e
      · cases e
def resVs (T : AT) (σ : AS) : List (ResultVar × Option Nat) → Option (List FV)
  | [] => some []
  | x :: r => match resV T σ x with
    | some v => match resVs T σ r with
      | some vs => some (v :: vs)
      | none => none
    | none => none
theorem resVs_ok (s : Sem h0 β hF h Tc T [] σ) : ∀ {l : List (ResultVar × Option Nat)} {vs : List FV}, l.all (okR P) = true → resVs T σ l = some vs → ∃ us, FReps hF vs us ∧ ResAll P Tc h (l.map (·.1)) us
  | [], vs, _, e => by cases e; exact ⟨[], FReps.nil _, .nil⟩
  | x :: l, vs, hok, e => by
    simp only [List.all_cons, Bool.and_eq_true] at hok
    unfold resVs at e
    split at e
    · rename_i v hv
      split at e
      · rename_i ws hws
        cases e
        obtain ⟨u, h1, h2⟩ := resV_ok s hok.1 hv
        obtain ⟨us, h3, h4⟩ := resVs_ok s hok.2 hws
        exact ⟨u :: us, FReps.cons h1 h3, .cons h2 h4⟩
      · cases e
    · cases e
theorem x_ret1 {fn : Func} {res x : FV} (rv : ResultVar) (k : Option Nat) (hq : Q .ret = retQ P fn (PureR h0 res) .ret) (hr : fn.results = #[rv]) (hok : okR P (rv, k) = true) (e : resV T σ (rv, k) = some x) (hx : ∀ h v, FRep h x v → FRep h res v) : AX h0 .ret Q T σ := fun β hF h Tc sem => by
  rw [hq]
  obtain ⟨u, h1, h2⟩ := resV_ok sem hok e
  exact ⟨u, res_one hr h2, Heap.le_trans sem.ok.le0 sem.ok.le, (hx _ _ h1).le sem.ok.le⟩
theorem x_retN {fn : Func} {res : FV} {vs : List FV} (l : List (ResultVar × Option Nat)) (hq : Q .ret = retQ P fn (PureR h0 res) .ret) (hr : fn.results = (l.map (·.1)).toArray) (hl : l.length ≠ 1) (hok : l.all (okR P) = true) (e : resVs T σ l = some vs) (hx : ∀ h v, FRep h (.tup vs) v → FRep h res v) : AX h0 .ret Q T σ := fun β hF h Tc sem => by
  rw [hq]
  obtain ⟨us, h1, h2⟩ := resVs_ok sem hok e
  exact ⟨_, res_many hr (by simpa using hl) h2, Heap.le_trans sem.ok.le0 sem.ok.le, (hx _ _ (.tup h1.1 h1.2)).le sem.ok.le⟩
/-- A slice of one's own is handed back. -/
theorem x_reto {fn : Func} {t : TypeId} {sz tr id : Nat} {rows rows' : List (List FV)} (hq : Q .ret = retQ P fn (OwnR h0 t sz rows) .ret) (hr : fn.results = #[.tmp tr]) (e : lookT T tr = some (.os id)) (es : lookS σ id = some (.rows t sz rows')) (hrows : rows' = rows) : AX h0 .ret Q T σ := fun β hF h Tc sem => by
  subst hrows
  rw [hq]
  have h1 := sem.t _ (lookT_mem e) (fun e he => by cases he)
  generalize hv : Tc tr = w at h1
  cases h1
  obtain ⟨vs, own, hlen, hone, reps⟩ := sem.ok.ok _ (lookS_mem es)
  exact ⟨_, res_one hr hv, hF, vs, sem.ok.le0, sem.ok.le, own, hlen, hone, reps, fun b e1 => sem.ok.out _ (lookS_mem es) b e1⟩
theorem x_reto0 {fn : Func} {t : TypeId} {sz tr : Nat} {rows : List (List FV)} (hq : Q .ret = retQ P fn (OwnR h0 t sz rows) .ret) (hr : fn.results = #[.tmp tr]) (e : lookT T tr = some (.fz (.val (.slice none 0 0)))) (hrows : rows = []) : AX h0 .ret Q T σ := fun β hF h Tc sem => by
  subst hrows
  rw [hq]
  have h1 := fz_val (sem.t _ (lookT_mem e) (fun e he => by cases he))
  exact ⟨_, res_one hr h1, hF, [], sem.ok.le0, sem.ok.le, .nil, fun _ h => (by cases h), fun _ h => (by cases h), FReps.nil _, fun b e1 => (by cases e1)⟩
end
end Go.Proofs.Ytielfejpnkcjbaa.Ab
