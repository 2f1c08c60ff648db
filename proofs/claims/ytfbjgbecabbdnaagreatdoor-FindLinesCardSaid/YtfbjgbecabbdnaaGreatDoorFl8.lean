import Derived.Test.YtfbjgbecabbdnaaGreatDoorFl7
/- What acts: that the operations turn the objects just so. -/
set_option linter.unusedVariables false
set_option linter.unusedSimpArgs false
namespace Go.Proofs.YtfbjgbecabbdnaaGreatDoor.Ab
open Go.Proofs.YtfbjgbecabbdnaaGreatDoor.Sl
section
variable {P : Program} {h0 : Gd} {β β' : Nat → Value} {hF hF' h h' : Heap} {Tc : Tm} {T : AT} {L : AL} {σ : AS} {o : Oper}
theorem OOk.fr {id : Nat} {x : OO} (k : OOk β hF h id x) (l : hF.le hF') (e : ∀ b, fpOf (β id) x b → h' b = h b) (e1 : β' id = β id) (e2 : ∀ c ∈ x.cells, ∀ j, c.nm = some j → β' j = β j) : OOk β' hF' h' id x := by
  cases x with
  | box t cells =>
    obtain ⟨b, vs, h1, h2, h3⟩ := k
    exact ⟨b, vs, by rw [e1, h1], by rw [e b (by rw [h1]; rfl)]; exact h2, h3.to l e2⟩
  | ext D Φ =>
    obtain ⟨h1, h2, h3⟩ := k
    exact ⟨fun b hb => h1 b (by rw [← e1]; exact hb), fun b hb => by rw [e b hb]; exact h2 b hb, fun h'' he => by rw [e1]; exact h3 h'' fun b hb => (he b hb).trans (e b hb)⟩
  | rows t sz rows =>
    obtain ⟨vs, own, h2, h3, h4⟩ := k
    refine ⟨vs, ?_, h2, h3, h4.le l⟩
    rw [e1]
    generalize rows.length = n at own
    simp only [fpOf] at e
    generalize β id = v at own e
    cases own with
    | nil => exact .nil
    | at_ hb hl hnc hcap hc => exact .at_ (by rw [e _ rfl]; exact hb) hl hnc hcap hc
theorem OOk.blk {id : Nat} {x : OO} (k : OOk β hF h id x) {b : Nat} (e : fpOf (β id) x b) : ∃ ob, h b = some ob := by
  cases x with
  | ext D Φ =>
    cases e1 : h b with
    | none => exact absurd e1 (k.2.1 b e)
    | some ob => exact ⟨ob, rfl⟩
  | box t cells =>
    obtain ⟨b', vs, h1, h2, h3⟩ := k
    simp only [fpOf] at e
    rw [h1] at e; cases e; exact ⟨_, h2⟩
  | rows t sz rows =>
    obtain ⟨vs, own, _⟩ := k
    simp only [fpOf] at e
    generalize rows.length = n at own
    generalize β id = v at own e
    cases own with
    | nil => cases e
    | at_ hb => cases e; exact ⟨_, hb⟩
theorem OOk.fp {id : Nat} {x : OO} (k : OOk β hF h id x) {b : Nat} (e : baseOf (β id) = some b) : fpOf (β id) x b := by
  cases x with
  | ext D Φ => exact k.1 b e
  | _ => exact e
theorem Ok.fnone (k : Ok h0 β hF h σ) {b : Nat} (hb : h b = none) : hF b = none := by
  cases e : hF b with
  | none => rfl
  | some ob => rw [k.le b ob e] at hb; cases hb
theorem Ok.ne (k : Ok h0 β hF h σ) {b b' : Nat} (hb : h b = none) {e : Nat × OO} (he : e ∈ σ) (e1 : fpOf (β e.1) e.2 b') : b' ≠ b := fun e2 => by
  obtain ⟨ob, h1⟩ := (k.ok e he).blk e1
  rw [e2, hb] at h1; cases h1
theorem setS_mem {id : Nat} {x : OO} : ∀ {σ : AS}, (σ.map (·.1)).Nodup → ∀ e ∈ setS σ id x, e = (id, x) ∨ (e ∈ σ ∧ e.1 ≠ id)
  | [], _, e, he => by cases he
  | a :: r, nd, e, he => by
    simp only [List.map_cons, List.nodup_cons] at nd
    unfold setS at he
    split at he
    · rename_i h1
      rcases List.mem_cons.1 he with rfl | he
      · exact .inl rfl
      · exact .inr ⟨List.mem_cons_of_mem _ he, fun e2 => nd.1 (by rw [h1, ← e2]; exact List.mem_map.2 ⟨e, he, rfl⟩)⟩
    · rename_i h1
      rcases List.mem_cons.1 he with rfl | he
      · exact .inr ⟨List.mem_cons_self, h1⟩
      · rcases setS_mem nd.2 e he with h2 | ⟨h2, h3⟩
        · exact .inl h2
        · exact .inr ⟨List.mem_cons_of_mem _ h2, h3⟩
theorem setS_keys {id : Nat} {x : OO} : ∀ (σ : AS), (setS σ id x).map (·.1) = σ.map (·.1)
  | [] => rfl
  | a :: r => by
    unfold setS
    split
    · rename_i h1; simp [h1]
    · simp [setS_keys r]
/-- Cells behind a pointer, or rows. -/
def plain : OO → Bool
  | .ext _ _ => false
  | _ => true
theorem plain_fp {x : OO} (h : plain x = true) (v : Value) (b : Nat) : fpOf v x b ↔ baseOf v = some b := by
  cases x with
  | ext D Φ => cases h
  | _ => exact Iff.rfl
theorem Ok.put (k : Ok h0 β hF h σ) {id : Nat} {x : OO} (hl : lookS σ id = some x) (px : plain x = true) {b : Nat} (hb : baseOf (β id) = some b) {ob : Obj} {x' : OO} (px' : plain x' = true) (hx : OOk β hF (h.set b ob) id x') : Ok h0 β hF (h.set b ob) (setS σ id x') := by
  have hm := lookS_mem hl
  have hbf := (plain_fp px (β id) b).2 hb
  have conv : ∀ b', fpOf (β id) x' b' → fpOf (β id) x b' := fun b' h => (plain_fp px _ _).2 ((plain_fp px' _ _).1 h)
  refine ⟨k.le0, fun q ob' e => ?_, fun e he => ?_, fun e he b' e1 => ?_, fun e he e' he' b' hne e1 => ?_, k.fix, by rw [setS_keys]; exact k.nd⟩
  · have : q ≠ b := fun e2 => by rw [e2, k.out _ hm b hbf] at e; cases e
    rw [Heap.set_other _ _ this]; exact k.le q ob' e
  · rcases setS_mem k.nd e he with rfl | ⟨he, hne⟩
    · exact hx
    · exact (k.ok e he).fr (Heap.le_refl _) (fun b' e1 => Heap.set_other _ _ fun e2 => k.sep e he _ hm b' hne e1 (by rw [e2]; exact hbf)) rfl (fun _ _ _ _ => rfl)
  · rcases setS_mem k.nd e he with rfl | ⟨he, hne⟩
    · exact k.out _ hm b' (conv _ e1)
    · exact k.out e he b' e1
  · rcases setS_mem k.nd e he with rfl | ⟨he, hn1⟩ <;> rcases setS_mem k.nd e' he' with rfl | ⟨he', hn2⟩
    · exact absurd rfl hne
    · exact k.sep _ hm e' he' b' (Ne.symm hn2) (conv _ e1)
    · exact fun h2 => k.sep e he _ hm b' hn1 e1 (conv _ h2)
    · exact k.sep e he e' he' b' hne e1
theorem pA_nm {id : Nat} {a : AV} {j : Nat} (h : (pA id a).nm = some j) : a.nm = some j ∧ j ≠ id := by
  cases a with
  | hid => cases h
  | fz x => cases h
  | os i =>
    simp only [pA] at h
    split at h
    · cases h
    · rename_i hne; simp only [AV.nm, Option.some.injEq] at h ⊢; subst h; exact ⟨rfl, hne⟩
  | oe i s a b =>
    simp only [pA] at h
    split at h
    · cases h
    · rename_i hne; simp only [AV.nm, Option.some.injEq] at h ⊢; subst h; exact ⟨rfl, hne⟩
theorem pA_rep {id : Nat} {a : AV} {v : Value} (r : ARep β hF a v) : ARep β hF (pA id a) v := by
  cases r with
  | hid v => exact .hid v
  | fz r => exact .fz r
  | os j => simp only [pA]; split
            · exact .hid _
            · exact .os j
  | oe hb => simp only [pA]; split
             · exact .hid _
             · exact .oe hb
theorem pC_eq (id : Nat) : ∀ cs : List AV, pC id cs = cs.map (pA id)
  | [] => rfl
  | a :: r => by simp [pC, pC_eq id r]
theorem pS_eq (id : Nat) : ∀ σ : AS, pS id σ = σ.map fun e => (e.1, pO id e.2)
  | [] => rfl
  | a :: r => by simp [pS, pS_eq id r]
theorem AReps.pC {id : Nat} {cs : List AV} {vs : List Value} (r : AReps β hF cs vs) : AReps β hF (pC id cs) vs := by
  rw [pC_eq]
  refine ⟨by simp [r.1], fun j c v a b => ?_⟩
  rw [List.getElem?_map] at a
  cases e : cs[j]? with
  | none => rw [e] at a; cases a
  | some x => rw [e] at a; cases a; exact pA_rep (r.2 j x v e b)
theorem OOk.pO {id j : Nat} {x : OO} (k : OOk β hF h j x) : OOk β hF h j (pO id x) := by
  cases x with
  | box t cells => obtain ⟨b, vs, h1, h2, h3⟩ := k; exact ⟨b, vs, h1, h2, h3.pC⟩
  | ext D Φ => exact k
  | rows t sz rows => exact k
theorem pO_nm {id : Nat} {x : OO} {c : AV} (hc : c ∈ (pO id x).cells) {j : Nat} (hj : c.nm = some j) : j ≠ id := by
  cases x with
  | box t cells =>
    simp only [Ab.pO, OO.cells, pC_eq, List.mem_map] at hc
    obtain ⟨a, _, rfl⟩ := hc
    exact (pA_nm hj).2
  | ext D Φ => cases hc
  | rows t sz rows => cases hc
theorem pO_fp (id : Nat) (x : OO) (v : Value) (b : Nat) : fpOf v (pO id x) b ↔ fpOf v x b := by cases x <;> exact Iff.rfl
/-- An object's slice is appended to: its value turns; its rows may lie elsewhere. -/
theorem Ok.app (k : Ok h0 β hF h σ) {id : Nat} {x : OO} (hl : lookS σ id = some x) (px : plain x = true) (h1000 : id < 1000) {v' : Value} (same : ∀ b ob, h b = some ob → baseOf (β id) ≠ some b → h' b = some ob) (hv : ∀ b, baseOf v' = some b → baseOf (β id) = some b ∨ h b = none) {x' : OO} (px' : plain x' = true) (hx : OOk (upd β id v') hF h' id x') :
    Ok h0 (upd β id v') hF h' (setS (pS id σ) id x') := by
  have hm := lookS_mem hl
  have hu : ∀ j, j ≠ id → upd β id v' j = β j := fun j e => by simp [upd, e]
  have hud : upd β id v' id = v' := by simp [upd]
  have hkeys : (pS id σ).map (·.1) = σ.map (·.1) := by rw [pS_eq, List.map_map]; rfl
  have hin : ∀ e ∈ setS (pS id σ) id x', e = (id, x') ∨ ∃ y, (e.1, y) ∈ σ ∧ e.2 = pO id y ∧ e.1 ≠ id := fun e he => by
    rcases setS_mem (by rw [hkeys]; exact k.nd) e he with h1 | ⟨h1, h2⟩
    · exact .inl h1
    · rw [pS_eq] at h1
      obtain ⟨y, hy, rfl⟩ := List.mem_map.1 h1
      exact .inr ⟨y.2, hy, rfl, h2⟩
  have fx : ∀ b, baseOf (β id) = some b → fpOf (β id) x b := fun b h => (plain_fp px _ _).2 h
  have fx' : ∀ b, fpOf v' x' b → baseOf v' = some b := fun b h => (plain_fp px' _ _).1 h
  refine ⟨k.le0, fun q ob e => same q ob (k.le q ob e) (fun e1 => by rw [k.out _ hm q (fx q e1)] at e; cases e), fun e he => ?_, fun e he b e1 => ?_, fun e he e' he' b hne e1 => ?_, fun j hj => by rw [hu j (by omega)]; exact k.fix j hj, by rw [setS_keys, hkeys]; exact k.nd⟩
  · rcases hin e he with rfl | ⟨y, hy, h2, hne⟩
    · exact hx
    · rw [h2]
      refine (OOk.pO (k.ok _ hy)).fr (Heap.le_refl _) (fun b e1 => ?_) (hu _ hne) (fun c hc j hj => hu _ (pO_nm hc hj))
      have e1 := (pO_fp id y _ b).1 e1
      obtain ⟨ob, h1⟩ := (k.ok _ hy).blk e1
      rw [h1, same b ob h1 fun e2 => k.sep _ hy _ hm b hne e1 (fx b e2)]
  · rcases hin e he with rfl | ⟨y, hy, h2, hne⟩
    · simp only [hud] at e1
      rcases hv b (fx' b e1) with h3 | h3
      · exact k.out _ hm b (fx b h3)
      · exact k.fnone h3
    · rw [hu _ hne, h2] at e1; exact k.out _ hy b ((pO_fp id y _ b).1 e1)
  · rcases hin e he with rfl | ⟨y, hy, h2, hn1⟩ <;> rcases hin e' he' with rfl | ⟨y', hy', h2', hn2⟩
    · exact absurd rfl hne
    · simp only [hud] at e1
      rw [hu _ hn2, h2']
      intro e2
      have e2 := (pO_fp id y' _ b).1 e2
      rcases hv b (fx' b e1) with h3 | h3
      · exact k.sep _ hm _ hy' b (Ne.symm hn2) (fx b h3) e2
      · exact k.ne h3 hy' e2 rfl
    · rw [hu _ hn1, h2] at e1
      have e1 := (pO_fp id y _ b).1 e1
      simp only [hud]
      intro e2
      rcases hv b (fx' b e2) with h3 | h3
      · exact k.sep _ hy _ hm b hn1 e1 (fx b h3)
      · exact k.ne h3 hy e1 rfl
    · rw [hu _ hn1, h2] at e1
      have e1 := (pO_fp id y _ b).1 e1
      rw [hu _ hn2, h2']
      exact fun e2 => k.sep _ hy _ hy' b hne e1 ((pO_fp id y' _ b).1 e2)
end
end Go.Proofs.YtfbjgbecabbdnaaGreatDoor.Ab

/- What acts: the theorem. -/
set_option linter.unusedVariables false
set_option linter.unusedSimpArgs false
namespace Go.Proofs.YtfbjgbecabbdnaaGreatDoor.Ab
open Go.Proofs.YtfbjgbecabbdnaaGreatDoor.Sl
/-! ### Literals of slices -/
theorem fill_seqG (sz : Nat) : ∀ (vs : List Value) (pre post : List Value) (k : Nat), pre.length = k * sz → post.length = vs.length * sz → (∀ v ∈ vs, v.cells.size = sz) →
    Instr.fill (fun j => some (j * sz, sz)) (pre ++ post).toArray ((vs.zipIdx k).map fun x => (x.2, x.1)) = some (pre ++ vs.flatMap (·.cells.toList)).toArray
  | [], pre, post, k, hk, hl, _ => by
    have : post = [] := List.eq_nil_of_length_eq_zero (by simpa using hl)
    subst this
    simp [Instr.fill]
  | v :: vs, pre, post, k, hk, hl, hv => by
    have hv0 := hv v (by simp)
    rw [List.zipIdx_cons, List.map_cons]
    unfold Instr.fill
    simp only
    rw [List.length_cons, Nat.succ_mul] at hl
    have h2 : (decide (v.cells.size ≠ sz) || decide (k * sz + v.cells.size > (pre ++ post).toArray.size)) = false := by
      rw [hv0]; simp only [Bool.or_eq_false_iff, decide_eq_false_iff_not, List.size_toArray, List.length_append]
      refine ⟨by simp, ?_⟩
      show ¬ (k * sz + sz > _); omega
    rw [h2]
    simp only [Bool.false_eq_true, if_false]
    rw [fill_at (by rw [hv0]; simp; omega)]
    have h3 : (pre ++ post).toArray.toList.take (k * sz) ++ v.cells.toList ++ (pre ++ post).toArray.toList.drop (k * sz + v.cells.size) = (pre ++ v.cells.toList) ++ post.drop sz := by
      show (pre ++ post).take (k * sz) ++ v.cells.toList ++ (pre ++ post).drop (k * sz + v.cells.size) = _
      rw [← hk, hv0, List.take_left, ← List.drop_drop, List.drop_left]
    rw [h3]
    have ih := fill_seqG sz vs (pre ++ v.cells.toList) (post.drop sz) (k + 1) (by rw [List.length_append, hk, Array.length_toList, hv0, Nat.succ_mul]) (by rw [List.length_drop]; omega) (fun u hu => hv u (by simp [hu]))
    rw [ih]; simp
theorem a_buildSliceG {P : Program} {o : Oper} {ρ : Operand → Value} {t e n sz : Nat} {parts : Array (Nat × Operand)} {vs : List Value} (ho : o.op = .buildSlice t n parts) (hu : P.underlying t = some (.slice e)) (hi : infoOk P e sz = true)
    (hv : (parts.map fun (i, x) => (i, ρ x)).toList = (vs.zipIdx 0).map fun x => (x.2, x.1)) (hn : vs.length = n) (hone : ∀ v ∈ vs, v.cells.size = sz) (h0 : 0 < n) (hs0 : 0 < sz) (h1 : n * sz ≤ 65536) : AllocOp P o ρ (.cells (vs.flatMap (·.cells.toList)).toArray e) (fun b => .slice (some ⟨b, 0, none⟩) n n) := by
  obtain ⟨i, z, hi, hz, hs, hz1, hb⟩ := infoOk_spec hi
  have hcell : P.cellsOf e = sz := by simp [Program.cellsOf, hi, hs]
  refine a_buildSlice (cells := (vs.flatMap (·.cells.toList)).toArray) ho hu ?_ (by rw [hcell]; omega) (by rw [hcell]; exact Nat.ne_of_gt (Nat.mul_pos h0 hs0))
  unfold sliceLit
  simp only [hi, hz, hs]
  rw [hv]
  have := fill_seqG sz vs [] ((Array.range (n * sz)).map (fun j => z.cells[j % z.cells.size]!)).toList 0 (by simp) (by simp [hn]) hone
  simp only [List.nil_append, Array.toArray_toList] at this
  exact this
/-! ### An element of a slice of one's own is told anew -/
section
variable {P : Program} {h0 : Gd} {β : Nat → Value} {hF h : Heap} {Tc : Tm} {T : AT} {L : AL} {σ : AS} {o : Oper} {ra : RA}
theorem zeroIs_V {t : TypeId} {zs : List Value} (h : zeroIs P t zs = true) : ∃ z, zeroV P t = some z ∧ z.cells = zs.toArray := by
  have h1 := zeroIs_eq h
  unfold zeroOf at h1
  unfold zeroV
  cases hz : (P.info? t).bind (·.zero) with
  | none => rw [hz] at h1; cases h1
  | some z => rw [hz] at h1; simp only [Option.map_some, Option.some.injEq] at h1; exact ⟨z, rfl, h1⟩
end
end Go.Proofs.YtfbjgbecabbdnaaGreatDoor.Ab

/- What acts: the theorem. -/
set_option linter.unusedVariables false
set_option linter.unusedSimpArgs false
namespace Go.Proofs.YtfbjgbecabbdnaaGreatDoor.Ab
open Go.Proofs.YtfbjgbecabbdnaaGreatDoor.Sl
section
variable {P : Program} {h0 : Gd} {β : Nat → Value} {hF h : Heap} {Tc : Tm} {T : AT} {L : AL} {σ : AS} {o : Oper} {ra : RA}
theorem AReps.set {cs : List AV} {vs : List Value} (r : AReps β hF cs vs) {p : Nat} {a : AV} {v : Value} (ra : ARep β hF a v) : AReps β hF (cs.set p a) (vs.set p v) :=
  ⟨by simp [r.1], fun j c u e1 e2 => by
    by_cases hj : p = j
    · subst hj
      rw [List.getElem?_set] at e1 e2
      simp only [if_true] at e1 e2
      split at e1
      · split at e2
        · cases e1; cases e2; exact ra
        · cases e2
      · cases e1
    · rw [List.getElem?_set_ne hj] at e1 e2
      exact r.2 j c u e1 e2⟩
end
end Go.Proofs.YtfbjgbecabbdnaaGreatDoor.Ab

/- What acts: the theorem over all kinds. -/
set_option linter.unusedVariables false
set_option linter.unusedSimpArgs false
namespace Go.Proofs.YtfbjgbecabbdnaaGreatDoor.Ab
open Go.Proofs.YtfbjgbecabbdnaaGreatDoor.Sl
section
variable {P : Program} {h0 : Gd} {β : Nat → Value} {hF h : Heap} {Tc : Tm} {T : AT} {L : AL} {σ : AS} {o : Oper} {ra : RA}
theorem made_take (z : Array Value) (sz : Nat) (hz : z.size = sz) (l c : Nat) (hlc : l ≤ c) : (madeCells z (c * sz)).toList.take (l * sz) = (List.replicate l z.toList).flatten := by
  have h1 : l * sz ≤ c * sz := Nat.mul_le_mul_right _ hlc
  apply List.ext_getElem?
  intro m
  by_cases hm : m < l * sz
  · have hs0 : 0 < sz := Nat.pos_of_ne_zero fun e3 => by subst e3; simp at hm
    have hj2 : m / sz < l := (Nat.div_lt_iff_lt_mul hs0).2 hm
    have hj3 : m % sz < sz := Nat.mod_lt _ hs0
    have hj4 : m / sz * sz + m % sz = m := by rw [Nat.mul_comm]; exact Nat.div_add_mod m sz
    rw [List.getElem?_take_of_lt hm]
    have h2 : (List.replicate l z.toList).flatten[m]? = z.toList[m % sz]? := by
      conv => lhs; rw [← hj4]
      rw [flat_get (sz := sz) (fun r hr => by rw [List.eq_of_mem_replicate hr]; simpa using hz) _ _ hj3, List.getElem?_replicate, if_pos hj2]; rfl
    rw [h2, Array.getElem?_toList]
    unfold madeCells
    have hms : m < c * sz := by omega
    rw [Array.getElem?_map, Array.getElem?_eq_getElem (by simpa using hms)]
    simp only [Array.getElem_range, Option.map_some, hz]
    rw [Array.getElem?_toList, Array.getElem?_eq_getElem (by omega), getElem!_pos z (m % sz) (by omega)]
  · rw [List.getElem?_eq_none (by simp; omega), List.getElem?_eq_none]
    rw [flat_len (sz := sz) (fun r hr => by rw [List.eq_of_mem_replicate hr]; simpa using hz)]
    simp; omega
end
end Go.Proofs.YtfbjgbecabbdnaaGreatDoor.Ab

/- What acts: what it comes to. -/
set_option linter.unusedVariables false
set_option linter.unusedSimpArgs false
namespace Go.Proofs.YtfbjgbecabbdnaaGreatDoor.Ce
open Go.Proofs.YtfbjgbecabbdnaaGreatDoor.Sl
open Ab (isOne isMany isSl isArr isIntT isStr zeroIs okCall)
inductive Ao where
  | no | ok (v : CV) (H : CH) (n : Id) (ck : Nat)
/-- A new block, what tells where it is. -/
structure Al where
  o : CO
  v : Id → CV
noncomputable def eBox (t : Nat) (x : CV) (ck : Nat) : Option Al := match x.cells with
  | cs => bif cs.all CV.one then some ⟨.cells ck t cs, fun n => .p n 0⟩ else none
noncomputable def lBox (t : Nat) (x : CP) (T : SL CV) (ck : Nat) : Option Al := eBox t (x.get T) ck
noncomputable def eAlc (t : Nat) (zs : List CV) (ck : Nat) : Option Al := some ⟨.cells ck t zs, fun n => .p n 0⟩
noncomputable def lAlc (t : Nat) (zs : List CV) (_ : SL CV) (ck : Nat) : Option Al := eAlc t zs ck
noncomputable def flatV (sz : Nat) : List CV → Option (List CV) := fun l => List.rec (some []) (fun x _ ih => bif Nat.beq (lenR x.cells) sz && x.cells.all CV.one then (match ih with
        | some l => some (appR x.cells l)
        | none => none)
      else none) l
noncomputable def flatC (sz : Nat) (l : List CP) (T : SL CV) : Option (List CV) := flatV sz (gets l T)
theorem flatC_cons (sz : Nat) (x : CP) (r : List CP) (T : SL CV) : flatC sz (x :: r) T = match (x.get T).cells with
    | cs => bif Nat.beq cs.length sz && cs.all CV.one then match flatC sz r T with
        | some l => some (cs ++ l)
        | none => none
      else none := by
  show (bif Nat.beq (lenR (x.get T).cells) sz && (x.get T).cells.all CV.one then (match flatC sz r T with | some l => some (appR (x.get T).cells l) | none => none) else none) = _
  rw [lenR_eq]
  cases flatC sz r T with
  | none => rfl
  | some l => simp only [appR_eq]
noncomputable def eBsl (m : Nat) (parts : List CV) (e sz : Nat) (ck : Nat) : Option Al := match flatV sz parts with
  | some cs => some ⟨.cells ck e cs, fun n => .sl n 0 m sz (some m)⟩
  | none => none
noncomputable def lBsl (_ m : Nat) (parts : List CP) (e sz : Nat) (T : SL CV) (ck : Nat) : Option Al := eBsl m (gets parts T) e sz ck
def repC (zs : List CV) : Nat → List CV
  | 0 => []
  | l + 1 => zs ++ repC zs l
noncomputable def eMks (x : CV) (y : CV) (e : Nat) (sz : Nat) (zs : List CV) (ck : Nat) : Option Al := match x, y with
  | .i _ (.ofNat l), .i _ (.ofNat c) => bif Nat.ble l c && Nat.ble c 1000000 then some ⟨.cells ck e (repC zs l), fun n => .sl n 0 l sz (some c)⟩ else none
  | _, _ => none
noncomputable def lMks (_ : Nat) (x : CP) (y : CP) (e : Nat) (sz : Nat) (zs : List CV) (T : SL CV) (ck : Nat) : Option Al := eMks (x.get T) (y.get T) e sz zs ck
noncomputable def eMkm (t : Nat) (ck : Nat) : Option Al := some ⟨.map ck t [], fun n => .m n⟩
noncomputable def lMkm (t : Nat) (_ : Sh) (_ : SL CV) (ck : Nat) : Option Al := eMkm t ck
noncomputable def aAl (a : Option Al) (H : CH) (n : Id) (ck : Nat) : Ao := match a with
  | some y => .ok (y.v n) (hset n y.o H) n.succ ck
  | none => .no
noncomputable def sSt (x : CV) (y : CV) (H : CH) (n : Id) (ck : Nat) : Ao := match x with
  | .p id off => match hget id H with
    | .cells _ t cs => bif leR (off + 1) cs && y.one then .ok .u (hset id (.cells (ck + 1) t (setR y cs off)) H) n (ck + 1) else .no
    | _ => .no
  | _ => .no
noncomputable def eSt (x : CV) (y : CV) (H : CH) (n : Id) (ck : Nat) : Ao := CV.onP .no (fun id off => CO.onC .no (fun _ t cs => Bool.rec .no (Bool.rec .no (.ok .u (hset id (.cells (Nat.add ck 1) t (setR y cs off)) H) n (Nat.add ck 1)) y.oneR) (leR (Nat.add off 1) cs)) (hget id H)) x
theorem eSt_eq (x : CV) (y : CV) (H : CH) (n : Id) (ck : Nat) : eSt x y H n ck = sSt x y H n ck := by
  cases x <;> first | rfl | skip
  rename_i id off
  show CO.onC Ao.no (fun _ t cs => Bool.rec .no (Bool.rec .no (.ok .u (hset id (.cells (ck + 1) t (setR y cs off)) H) n (ck + 1)) y.oneR) (leR (off + 1) cs)) (hget id H) = match hget id H with
    | .cells _ t cs => bif leR (off + 1) cs && y.one then .ok .u (hset id (.cells (ck + 1) t (setR y cs off)) H) n (ck + 1) else .no
    | _ => .no
  cases hget id H with
  | cells st t cs =>
    show (Bool.rec .no (Bool.rec .no (.ok .u (hset id (.cells (ck + 1) t (setR y cs off)) H) n (ck + 1)) y.oneR) (leR (off + 1) cs) : Ao) = bif leR (off + 1) cs && y.one then .ok .u (hset id (.cells (ck + 1) t (setR y cs off)) H) n (ck + 1) else .no
    rw [CV.oneR_eq]
    cases leR (off + 1) cs <;> cases y.one <;> rfl
  | _ => rfl
noncomputable def aSt (_ : Nat) (x : CP) (y : CP) (T : SL CV) (H : CH) (n : Id) (ck : Nat) : Ao := eSt (x.get T) (y.get T) H n ck
noncomputable def sStN (x : CV) (y : CV) (m : Nat) (H : CH) (n : Id) (ck : Nat) : Ao := match x, y with
  | .p id off, .agg ys => match hget id H with
    | .cells _ t cs => bif leR (off + m) cs && Nat.beq (lenR ys) m then .ok .u (hset id (.cells (ck + 1) t (appR (takeR cs off) (appR ys (dropR cs (off + m))))) H) n (ck + 1) else .no
    | _ => .no
  | _, _ => .no
noncomputable def eStN (x : CV) (y : CV) (m : Nat) (H : CH) (n : Id) (ck : Nat) : Ao := CV.onP .no (fun id off => CV.onAgg .no (fun ys => CO.onC .no (fun _ t cs => Bool.rec .no (Bool.rec .no (.ok .u (hset id (.cells (Nat.add ck 1) t (appR (takeR cs off) (appR ys (dropR cs (Nat.add off m))))) H) n (Nat.add ck 1)) (Nat.beq (lenR ys) m)) (leR (Nat.add off m) cs)) (hget id H)) y) x
theorem eStN_eq (x : CV) (y : CV) (m : Nat) (H : CH) (n : Id) (ck : Nat) : eStN x y m H n ck = sStN x y m H n ck := by
  cases x <;> first | rfl | skip
  cases y <;> first | rfl | skip
  rename_i id off ys
  show CO.onC Ao.no (fun _ t cs => Bool.rec .no (Bool.rec .no (.ok .u (hset id (.cells (ck + 1) t (appR (takeR cs off) (appR ys (dropR cs (off + m))))) H) n (ck + 1)) (Nat.beq (lenR ys) m)) (leR (off + m) cs)) (hget id H) = match hget id H with
    | .cells _ t cs => bif leR (off + m) cs && Nat.beq (lenR ys) m then .ok .u (hset id (.cells (ck + 1) t (appR (takeR cs off) (appR ys (dropR cs (off + m))))) H) n (ck + 1) else .no
    | _ => .no
  cases hget id H with
  | cells st t cs =>
    show (Bool.rec .no (Bool.rec .no (.ok .u (hset id (.cells (ck + 1) t (appR (takeR cs off) (appR ys (dropR cs (off + m))))) H) n (ck + 1)) (Nat.beq (lenR ys) m)) (leR (off + m) cs) : Ao) = bif leR (off + m) cs && Nat.beq (lenR ys) m then .ok .u (hset id (.cells (ck + 1) t (appR (takeR cs off) (appR ys (dropR cs (off + m))))) H) n (ck + 1) else .no
    cases leR (off + m) cs <;> cases Nat.beq (lenR ys) m <;> rfl
  | _ => rfl
noncomputable def aStN (_ : Nat) (x : CP) (y : CP) (m : Nat) (T : SL CV) (H : CH) (n : Id) (ck : Nat) : Ao := eStN (x.get T) (y.get T) m H n ck
/-- The cells of a slice, how many elements. -/
noncomputable def srcC (sz : Nat) (y : CV) (H : CH) : Option (Nat × List CV) := match y with
  | .sl id off m sz' _ => match hget id H with
    | .cells _ _ cs => bif Nat.beq sz sz' && leR (off + m * sz) cs then some (m, takeR (dropR cs off) (m * sz)) else none
    | _ => none
  | .z _ => some (0, [])
  | .ns => some (0, [])
  | _ => none
noncomputable def newS (e sz m : Nat) (cs : List CV) (H : CH) (n : Id) (ck : Nat) : Ao := .ok (.sl n 0 m sz none) (hset n (.cells ck e cs) H) n.succ ck
def shortC (c : Option Nat) (k : Nat) : Bool := match c with
  | some j => Nat.blt j k
  | none => false
noncomputable def eApp (x : CV) (y : CV) (e : Nat) (sz : Nat) (H : CH) (n : Id) (ck : Nat) : Ao := match srcC sz y H with
  | some (m, news) => match m with
    | 0 => match x with
      | .sl id off k sz' c => .ok (.sl id off k sz' c) H n ck
      | .z c => .ok (.z c) H n ck
      | .ns => .ok .ns H n ck
      | _ => .no
    | _ => bif Nat.blt m 1000000 then match x with
      | .ns => newS e sz m news H n ck
      | .z (some 0) => newS e sz m news H n ck
      | .sl id off k sz' c => match hget id H with
        | .cells _ t cs => bif Nat.beq sz sz' && Nat.beq t e && leR (off + k * sz) cs && Nat.blt k 1000000 then
            (bif shortC c (k + m) then newS e sz (k + m) (appR (takeR (dropR cs off) (k * sz)) news) H n ck
            else bif Nat.beq off 0 then .ok (.sl n 0 (k + m) sz none) (hset n (.cells (ck + 1) e (appR (takeR cs (k * sz)) news)) (hset id (.dead (ck + 1)) H)) n.succ (ck + 1) else .no)
          else .no
        | _ => .no
      | _ => .no
      else .no
  | none => .no
noncomputable def aApp (_ : Nat) (_ : Nat) (x : CP) (y : CP) (e : Nat) (_ : Nat) (sz : Nat) (T : SL CV) (H : CH) (n : Id) (ck : Nat) : Ao := eApp (x.get T) (y.get T) e sz H n ck
noncomputable def eBs0 (H : CH) (n : Id) (ck : Nat) : Ao := .ok (.z (some 0)) H n ck
noncomputable def aBs0 (_ _ : Nat) (_ : SL CV) (H : CH) (n : Id) (ck : Nat) : Ao := eBs0 H n ck
def putE (k : List Int) (v : CV) : List (List Int × CV) → List (List Int × CV)
  | [] => [(k, v)]
  | e :: r => bif keq k e.1 then (e.1, v) :: r else e :: putE k v r
noncomputable def putER (k : List Int) (v : CV) (l : List (List Int × CV)) : List (List Int × CV) := List.rec (motive := fun _ => List (List Int × CV)) [(k, v)] (fun e r ih => Bool.rec (e :: ih) ((e.1, v) :: r) (keqR k e.1)) l
theorem putER_eq (k : List Int) (v : CV) : ∀ l, putER k v l = putE k v l := by
  intro l
  induction l with
  | nil => rfl
  | cons e r ih =>
    show Bool.rec (e :: putER k v r) ((e.1, v) :: r) (keqR k e.1) = (bif keq k e.1 then (e.1, v) :: r else e :: putE k v r)
    rw [ih, keqR_eq]
    cases keq k e.1 <;> rfl
noncomputable def eMup (t : Nat) (s : Sh) (m : CV) (k : CV) (v : CV) (H : CH) (n : Id) (ck : Nat) : Ao := match m, keyOf s k with
  | .m id, some l => match hget id H with
    | .map _ t' es => bif Nat.beq t t' then .ok .u (hset id (.map (ck + 1) t' (putER l v es)) H) n (ck + 1) else .no
    | _ => .no
  | _, _ => .no
noncomputable def aMup (t : Nat) (s : Sh) (m : CP) (k : CP) (v : CP) (T : SL CV) (H : CH) (n : Id) (ck : Nat) : Ao := eMup t s (m.get T) (k.get T) (v.get T) H n ck
def idxE (k : List Int) : List (List Int × CV) → Nat → Option (Nat × CV)
  | [], _ => none
  | e :: r, j => bif keq k e.1 then some (j, e.2) else idxE k r (j + 1)
noncomputable def idxER (k : List Int) (l : List (List Int × CV)) : Nat → Option (Nat × CV) := List.rec (motive := fun _ => Nat → Option (Nat × CV)) (fun _ => none) (fun e _ ih j => Bool.rec (ih (Nat.add j 1)) (some (j, e.2)) (keqR k e.1)) l
theorem idxER_eq (k : List Int) : ∀ l j, idxER k l j = idxE k l j := by
  intro l
  induction l with
  | nil => intro j; rfl
  | cons e r ih =>
    intro j
    show Bool.rec (idxER k r (j + 1)) (some (j, e.2)) (keqR k e.1) = (bif keq k e.1 then some (j, e.2) else idxE k r (j + 1))
    rw [ih, keqR_eq]
    cases keq k e.1 <;> rfl
noncomputable def eMen (t : Nat) (s : Sh) (m : CV) (k : CV) (z : CV) (H : CH) (n : Id) (ck : Nat) : Ao := match m, keyOf s k with
  | .m id, some l => match hget id H with
    | .map _ t' es => bif Nat.beq t t' then (match idxER l es 0 with
        | some (j, v) => .ok (.tup [v, .i .i64 (.ofNat j)]) (hset id (.map (ck + 1) t' es) H) n (ck + 1)
        | none => .ok (.tup [z, .i .i64 (.ofNat es.length)]) (hset id (.map (ck + 1) t' (es ++ [(l, z)])) H) n (ck + 1)) else .no
    | _ => .no
  | _, _ => .no
noncomputable def aMen (t : Nat) (s : Sh) (m : CP) (k : CP) (_ : Nat) (z : CV) (T : SL CV) (H : CH) (n : Id) (ck : Nat) : Ao := eMen t s (m.get T) (k.get T) z H n ck
def setE (v : CV) : List (List Int × CV) → Nat → Option (List (List Int × CV))
  | [], _ => none
  | e :: r, 0 => some ((e.1, v) :: r)
  | e :: r, j + 1 => match setE v r j with
    | some l => some (e :: l)
    | none => none
noncomputable def setER (v : CV) (l : List (List Int × CV)) : Nat → Option (List (List Int × CV)) := List.rec (motive := fun _ => Nat → Option (List (List Int × CV))) (fun _ => none) (fun e r ih j => Nat.rec (some ((e.1, v) :: r)) (fun j _ => Option.rec none (fun l => some (e :: l)) (ih j)) j) l
theorem setER_eq (v : CV) : ∀ l j, setER v l j = setE v l j := by
  intro l
  induction l with
  | nil => intro j; cases j <;> rfl
  | cons e r ih =>
    intro j
    cases j with
    | zero => rfl
    | succ j =>
      show Option.rec (motive := fun _ => Option (List (List Int × CV))) none (fun l => some (e :: l)) (setER v r j) = (match setE v r j with | some l => some (e :: l) | none => none)
      rw [ih]
      cases setE v r j <;> rfl
noncomputable def eMst (m : CV) (k : CV) (v : CV) (H : CH) (n : Id) (ck : Nat) : Ao := match m, k with
  | .m id, .i .i64 (.ofNat j) => match hget id H with
    | .map _ t' es => match setER v es j with
      | some l => .ok .u (hset id (.map (ck + 1) t' l) H) n (ck + 1)
      | none => .no
    | _ => .no
  | _, _ => .no
noncomputable def aMst (_ : Nat) (m : CP) (k : CP) (v : CP) (T : SL CV) (H : CH) (n : Id) (ck : Nat) : Ao := eMst (m.get T) (k.get T) (v.get T) H n ck
noncomputable def eClr (x : CV) (sz : Nat) (zs : List CV) (H : CH) (n : Id) (ck : Nat) : Ao := match x with
  | .ns => .ok (.tup []) H n ck
  | .z _ => .ok (.tup []) H n ck
  | .sl id off m sz' _ => bif Nat.beq m 0 then .ok (.tup []) H n ck else match hget id H with
    | .cells _ t cs => bif Nat.beq sz sz' && Nat.ble (off + m * sz) cs.length then .ok (.tup []) (hset id (.cells (ck + 1) t (cs.take off ++ (repC zs m ++ cs.drop (off + m * sz)))) H) n (ck + 1) else .no
    | _ => .no
  | _ => .no
noncomputable def aClr (_ : Nat) (x : CP) (_ : Nat) (sz : Nat) (zs : List CV) (T : SL CV) (H : CH) (n : Id) (ck : Nat) : Ao := eClr (x.get T) sz zs H n ck
section
variable {P : Program} {N : Kn P} {β : Bk} {H : CH} {n0 : Id} {ck : Nat} {h : Heap} {T : SL CV} {Tc : Tm} {o : Oper}
/-- What comes of an act. -/
structure Aft (N : Kn P) (β : Bk) (H : CH) (ck : Nat) (h : Heap) (c : CV) (H' : CH) (n' : Id) (ck' : Nat) (v : Value) (h' : Heap) : Prop where
  out : ∃ β', β.le β' ∧ HR N.toKy β' H' n' ck' h' ∧ VR β' c v
  keep : Keep β H H' h h'
  mono : ∀ p, (hget p H).st ≤ (hget p H').st
def AoOk (N : Kn P) (β : Bk) (H : CH) (ck : Nat) (h : Heap) (Tc : Tm) (o : Oper) : Ao → Prop
  | .no => True
  | .ok c H' n' ck' => SOp P o (ev Tc) h (Aft N β H ck h c H' n' ck')
theorem st_new (r : HR N.toKy β H n0 ck h) (o : CO) (p : Id) : (hget p H).st ≤ (hget p (hset n0 o H)).st := by
  rw [hget_set]
  split
  · rename_i e; rw [e, r.new0 n0 (Nat.le_refl _)]; exact Nat.zero_le _
  · exact Nat.le_refl _
/-- A new block. -/
theorem aft_new (r : HR N.toKy β H n0 ck h) {b : Nat} {ob : Obj} {o : CO} {len : Nat} {c : CV} {v : Value} (hb : h b = none) (hst : o.st ≤ ck) (ho : ORp N.toKy (β.put n0 ⟨b, len⟩) (h.set b ob) ⟨b, len⟩ o) (hv : VR (β.put n0 ⟨b, len⟩) c v) : Aft N β H ck h c (hset n0 o H) n0.succ ck v (h.set b ob) :=
  ⟨⟨_, r.put_le _, r.alloc hb ho hst, hv⟩, r.alloc_keep o hb, st_new r o⟩
theorem cells_new {t : Nat} {cs : List CV} {vs : List Value} {b : Nat} {x : Blk} (hx : x = ⟨b, vs.length⟩) (hr : VRs β cs vs) (h1 : cs.all CV.one = true) {st : Nat} : ORp N.toKy β (h.set b (.cells vs.toArray t (0, 0))) x (.cells st t cs) := by
  subst hx
  exact .cells (tl := []) (by rw [List.append_nil]; exact Heap.set_same _ _ _) (by simp) hr h1
def AlOk (N : Kn P) (β : Bk) (Tc : Tm) (o : Oper) (ck : Nat) : Option Al → Prop
  | none => True
  | some y => ∃ obj vf len, AllocOp P o (ev Tc) obj vf ∧ y.o.st = ck ∧ ∀ (β' : Bk) (n : Id) (b : Nat) (h : Heap), β.le (β'.put n ⟨b, len⟩) → ORp N.toKy (β'.put n ⟨b, len⟩) (h.set b obj) ⟨b, len⟩ y.o ∧ VR (β'.put n ⟨b, len⟩) (y.v n) (vf b)
theorem aAl_ok (hr : HR N.toKy β H n0 ck h) {a : Option Al} (k : AlOk N β Tc o ck a) : AoOk N β H ck h Tc o (aAl a H n0 ck) := by
  cases a with
  | none => trivial
  | some y =>
    obtain ⟨obj, vf, len, al, hst, hk⟩ := k
    refine al.sop fun b hb => ?_
    obtain ⟨h1, h2⟩ := hk β n0 b h (hr.put_le _)
    exact aft_new hr hb (Nat.le_of_eq hst) h1 h2
theorem lBox_ok (r : TR β T Tc) {t : Nat} {x : CP} (hx : x.ok = true) (hop : o.op = .box t x.op) : AlOk N β Tc o ck (lBox t x T ck) := by
  unfold lBox eBox
  simp only
  cases h1 : (x.get T).cells.all CV.one with
  | false => trivial
  | true =>
    have hc := (CP.get_ok r x hx).cells
    have e : (ev Tc x.op).cells = ((ev Tc x.op).cells.toList).toArray := by simp
    refine ⟨_, _, (ev Tc x.op).cells.toList.length, a_box hop, rfl, fun β' n b h l => ⟨?_, .p (x := ⟨b, _⟩) 0 (Bk.put_same _ _ _)⟩⟩
    rw [e]
    exact cells_new (vs := (ev Tc x.op).cells.toList) rfl (hc.le l) h1
theorem lAlc_ok {t : Nat} {zs : List CV} (hz : zeroIs P t (CV.vals zs) = true) (hs : CV.shuts zs = true) (h1 : zs.all CV.one = true) (hop : o.op = .alloc t) : AlOk N β Tc o ck (lAlc t zs T ck) := by
  obtain ⟨z, hzv, hzc⟩ := Ab.zeroIs_V hz
  exact ⟨_, _, (CV.vals zs).length, a_allocZ hop hzv hzc, rfl, fun β' n b h l => ⟨cells_new (vs := CV.vals zs) rfl (shuts_ok _ zs hs) h1, .p (x := ⟨b, _⟩) 0 (Bk.put_same _ _ _)⟩⟩
/-- A live block is turned. -/
theorem aft_turn (r : HR N.toKy β H n0 ck h) {id : Id} {x : Blk} (hx : β id = some x) (hl : (hget id H).live = true) {ob : Obj} {o : CO} {c : CV} {v : Value} (hst : o.st = ck + 1) (ho : ORp N.toKy β (h.set x.b ob) x o) (hv : VR β c v) : Aft N β H ck h c (hset id o H) n0 (ck + 1) v (h.set x.b ob) := by
  obtain ⟨h1, h2⟩ := r.turn hx hl ho hst
  refine ⟨⟨β, Bk.le_refl _, h1, hv⟩, h2, fun p => ?_⟩
  rw [hget_set]
  split
  · rw [hst]; exact Nat.le_succ_of_le (r.ck p)
  · exact Nat.le_refl _
theorem live_cells {id : Id} {st t : Nat} {cs : List CV} (e : hget id H = .cells st t cs) : (hget id H).live = true := by rw [e]; rfl
theorem live_map {id : Id} {st t : Nat} {es : List (List Int × CV)} (e : hget id H = .map st t es) : (hget id H).live = true := by rw [e]; rfl
theorem VRs.set : ∀ {cs : List CV} {vs : List Value} (j : Nat) {c : CV} {v : Value}, VRs β cs vs → VR β c v → VRs β (cs.set j c) (vs.set j v)
  | _, _, _, _, _, .nil, _ => by simp; exact .nil
  | _, _, 0, _, _, .cons _ r, h => .cons h r
  | _, _, j + 1, _, _, .cons h0 r, h => .cons h0 (r.set j h)
theorem all_set {l : List CV} {j : Nat} {c : CV} (h : l.all CV.one = true) (hc : c.one = true) : (l.set j c).all CV.one = true := by
  rw [List.all_eq_true] at h ⊢
  intro x hx
  rcases List.mem_or_eq_of_mem_set hx with h1 | h1
  · exact h x h1
  · rw [h1]; exact hc
theorem aSt_ok (r : TR β T Tc) (hr : HR N.toKy β H n0 ck h) {t : Nat} {x y : CP} (hx : x.ok = true) (hy : y.ok = true) (h1 : P.cellsOf t = 1) (hi : (P.info? t).isSome = true) (hop : o.op = .store t x.op y.op) : AoOk N β H ck h Tc o (aSt t x y T H n0 ck) := by
  unfold aSt; rw [eSt_eq]; unfold sSt
  simp only [leR_lt, setR_eq]
  split
  · rename_i id off e
    split
    · rename_i st t' cs hc
      cases hb : (Nat.blt off cs.length && (y.get T).one) with
      | false => trivial
      | true =>
        simp only [Bool.and_eq_true] at hb
        have hlt := Nat.le_of_ble_eq_true hb.1
        obtain ⟨b, hbb, hv⟩ := g_p r hx e
        obtain ⟨vs, tl, hh, hl, rv, ho⟩ := hr.cells hc hbb
        have hlen := rv.len
        have vy := CP.get_ok r y hy
        refine s_store1 hop hv rfl (vy.one hb.2) h1 hi hh (by simp; omega) ?_
        have e1 : (vs ++ tl).toArray.setIfInBounds off (ev Tc y.op) = (vs.set off (ev Tc y.op) ++ tl).toArray := by
          rw [List.setIfInBounds_toArray, List.set_append_left _ _ (by omega)]
        rw [e1]
        exact aft_turn hr hbb (live_cells hc) rfl (.cells (Heap.set_same _ _ _) (by simpa using hl) (rv.set off vy) (all_set ho hb.2)) .u
    · trivial
  · trivial
theorem splice_app {vs tl us : List Value} {off m : Nat} (h : off + m ≤ vs.length) (hm : us.length = m) : splice (vs ++ tl).toArray off us = ((vs.take off ++ (us ++ vs.drop (off + m))) ++ tl).toArray := by
  subst hm
  unfold splice
  simp only [List.append_assoc]
  rw [List.take_append_of_le_length (by omega), List.drop_append_of_le_length (by omega)]
theorem aStN_ok (r : TR β T Tc) (hr : HR N.toKy β H n0 ck h) {t m : Nat} {x y : CP} (hx : x.ok = true) (hy : y.ok = true) (h1 : P.cellsOf t = m) (hi : (P.info? t).isSome = true) (hop : o.op = .store t x.op y.op) : AoOk N β H ck h Tc o (aStN t x y m T H n0 ck) := by
  unfold aStN; rw [eStN_eq]; unfold sStN
  simp only [takeR_eq, dropR_eq, leR_eq, lenR_eq, appR_eq]
  split
  · rename_i id off ys e e2
    split
    · rename_i st t' cs hc
      cases hb : (Nat.ble (off + m) cs.length && Nat.beq ys.length m) with
      | false => trivial
      | true =>
        simp only [Bool.and_eq_true, Nat.ble_eq, Nat.beq_eq] at hb
        obtain ⟨b, hbb, hv⟩ := g_p r hx e
        obtain ⟨us, hu, ru, hou⟩ := g_agg r hy e2
        obtain ⟨vs, tl, hh, hl, rv, ho⟩ := hr.cells hc hbb
        have hlen := rv.len
        have hul := ru.len
        refine s_storeN hop hv hu (by rw [Array.all_eq_true_iff_forall_mem]; exact fun v hv => ru.one hou v (by simpa using hv)) h1 (by simp; omega) hi hh (by simp; omega) ?_
        rw [show us.toArray.toList = us from rfl, splice_app (m := m) (by omega) (by omega)]
        have ha := all_sub (l := cs) (a := 0) (b := off) ho
        have hb' := all_sub (l := cs) (a := off + m) (b := cs.length) ho
        rw [List.drop_zero] at ha
        rw [List.take_of_length_le (by simp)] at hb'
        refine aft_turn hr hbb (live_cells hc) rfl (.cells (Heap.set_same _ _ _) ?_ ((rv.take off).append (ru.append (rv.drop (off + m)))) (by rw [List.all_append, List.all_append, hou, ha, hb']; rfl)) .u
        rw [← hl]; simp; omega
    · trivial
  · trivial
end
end Go.Proofs.YtfbjgbecabbdnaaGreatDoor.Ce
