/- What an argument's cells are, by their type, from their reading as data. -/
import Derived.Test.YtielfejpnkcjbaaPost
set_option linter.unusedVariables false
namespace Go.Proofs.Ytielfejpnkcjbaa.Sl
open Go.ChangeShapes Go.WideShapes Go.ChangeAt Go.RowKit
/-- The cells of a type: whole numbers, bools, strings, structs, arrays, slices of these (others: nothing is said). -/
def Shp (P : Program) (h : Heap) : Nat → TypeId → List Value → Prop
  | 0, _, _ => False
  | k + 1, t, cs => match P.underlying t with
    | some .bool => ∃ b, cs = [.bool b]
    | some (.int kd) => ∃ n, cs = [.int kd n] ∧ (Lit.int kd n).wf = true
    | some .string => ∃ s, cs = [.string s] ∧ s.size ≤ maxLen
    | some (.struct fs) => cs.length = P.cellsOf t ∧ ∀ f ∈ fs.toList, Shp P h k f.type ((cs.drop f.offset).take (P.cellsOf f.type))
    | some (.array n e) => cs.length = P.cellsOf t ∧ ∀ i, i < n → Shp P h k e ((cs.drop (i * P.cellsOf e)).take (P.cellsOf e))
    | some (.slice e) => 0 < P.cellsOf e → ∃ a n c es, cs = [.slice a n c] ∧ n ≤ maxLen ∧ Cells h (P.cellsOf e) (.slice a n c) n es ∧ ∀ i, i < n → Shp P h k e ((es.drop (i * P.cellsOf e)).take (P.cellsOf e))
    | _ => True
theorem cell_some {w : World} {a : Addr} {v : Value} (h : w.cell? a = some v) : ∃ c e fz, w.heap[a.block]? = some (.cells c e fz) ∧ a.spot = none ∧ c[a.off]? = some v := by
  unfold World.cell? at h
  split at h
  · rename_i c e fz hb
    split at h
    · cases h
    · rename_i hs
      exact ⟨c, e, fz, hb, by simpa using hs, h⟩
  · cases h
theorem mapM_all {α β : Type} {f : α → Option β} {l : List α} {r : List β} (h : l.mapM f = some r) {x : α} (hx : x ∈ l) : ∃ y, f x = some y := by
  obtain ⟨i, hi⟩ := List.mem_iff_getElem?.1 hx
  have := mapM_some_get h i x hi
  have hl := mapM_some_length h
  have hlt : i < r.length := by rw [hl]; exact (List.getElem?_eq_some_iff.1 hi).1
  exact ⟨r[i], by rw [this]; exact List.getElem?_eq_getElem hlt⟩
theorem shp_of_trod {H : Type} {enc : TypeId × Value → H} {P : Program} {w : World} {spare : Nat → Bool} {held : Bool} : ∀ (k : Nat) (t : TypeId) (cs : List Value) (x : DataW H × List MemPlace), DataW.trod enc P w 0 spare held k t cs = some x → Shp P (heapOf w) k t cs := by
  intro k
  induction k with
  | zero => intro t cs x h; cases h
  | succ k ih =>
    intro t cs x h
    unfold DataW.trod at h
    unfold Shp
    split
    · rename_i hu; rw [hu] at h; split at h <;> simp_all
    · rename_i kd hu
      rw [hu] at h
      split at h <;> (try simp_all; done)
    · rename_i hu; rw [hu] at h; split at h <;> simp_all
    · rename_i fs hu
      rw [hu] at h
      split at h <;> (try simp_all; done)
      rename_i e1
      simp only [Option.some.injEq, TypeDesc.struct.injEq] at e1
      subst e1
      split at h
      · rename_i hl
        refine ⟨hl, fun f hf => ?_⟩
        simp only [Option.map_eq_some_iff] at h
        obtain ⟨xs, hm, _⟩ := h
        obtain ⟨y, hy⟩ := mapM_all hm hf
        exact ih _ _ _ hy
      · cases h
    · rename_i n e hu
      rw [hu] at h
      split at h <;> (try simp_all; done)
      rename_i e1
      simp only [Option.some.injEq, TypeDesc.array.injEq] at e1
      obtain ⟨rfl, rfl⟩ := e1
      split at h
      · rename_i hl
        refine ⟨hl, fun i hi => ?_⟩
        simp only [Option.map_eq_some_iff] at h
        obtain ⟨xs, hm, _⟩ := h
        obtain ⟨y, hy⟩ := mapM_all hm (List.mem_range.2 hi)
        exact ih _ _ _ hy
      · cases h
    · rename_i e hu
      rw [hu] at h
      intro hsz
      split at h <;> (try simp_all; done)
      · exact ⟨none, 0, 0, [], rfl, by decide, .zero _ _, fun i hi => by omega⟩
      · rename_i e' a n c e1
        simp only [Option.some.injEq, TypeDesc.slice.injEq] at e1
        subst e1
        dsimp only at h
        split at h
        · rename_i hc
          simp only [Option.bind_eq_some_iff] at h
          obtain ⟨elems, hm, _⟩ := h
          have hel : ∀ i, i < n → ∃ ces, w.cells? 0 (a.add (i * P.cellsOf e)) (P.cellsOf e) = some ces ∧ Shp P (heapOf w) k e ces := by
            intro i hi
            obtain ⟨y, hy⟩ := mapM_all hm (List.mem_range.2 hi)
            simp only [Option.bind_eq_some_iff] at hy
            obtain ⟨ces, h1, h2⟩ := hy
            exact ⟨ces, h1, ih _ _ _ h2⟩
          have hn : n ≤ maxLen := Nat.le_trans hc.2.1 hc.2.2
          by_cases hn0 : n = 0
          · subst hn0
            exact ⟨_, 0, c, [], rfl, hn, .zero _ _, fun i hi => by omega⟩
          · obtain ⟨ces0, h1, _⟩ := hel 0 (by omega)
            obtain ⟨_, hl0, h2⟩ := World.cells?_some h1
            have h3 := h2 0 hsz
            have ha0 : (a.add (0 * P.cellsOf e)).add 0 = a := by simp [Addr.add]
            rw [ha0, List.getElem?_eq_getElem (by omega)] at h3
            obtain ⟨full, ty, fz, hb, hs, _⟩ := cell_some h3
            obtain ⟨b, off, spot⟩ := a
            simp only at hs hb
            subst hs
            have hadd : ∀ x y, ((Addr.mk b off none).add x).add y = ⟨b, off + x + y, none⟩ := by
              intro x y; unfold Addr.add; split <;> split <;> simp_all
            have hcell : ∀ i, i < n → ∃ ces, ces.length = P.cellsOf e ∧ Shp P (heapOf w) k e ces ∧ ∀ j, j < P.cellsOf e → full[off + i * P.cellsOf e + j]? = ces[j]? := by
              intro i hi
              obtain ⟨ces, h1, hsh⟩ := hel i hi
              obtain ⟨_, hl, h2⟩ := World.cells?_some h1
              refine ⟨ces, hl, hsh, fun j hj => ?_⟩
              have h3 := h2 j hj
              rw [hadd] at h3
              unfold World.cell? at h3
              simp only [hb] at h3
              simpa using h3
            have hlen : ((full.toList.drop off).take (n * P.cellsOf e)).length = n * P.cellsOf e := by
              obtain ⟨ces, hl, _, h2⟩ := hcell (n - 1) (by omega)
              have h3 := h2 (P.cellsOf e - 1) (by omega)
              rw [List.getElem?_eq_getElem (by omega)] at h3
              have h4 := (Array.getElem?_eq_some_iff.1 h3).1
              have h5 : (n - 1) * P.cellsOf e + P.cellsOf e = n * P.cellsOf e := by
                rw [← Nat.succ_mul]; congr 1; omega
              simp only [List.length_take, List.length_drop, Array.length_toList]
              omega
            refine ⟨_, n, c, _, rfl, hn, .at_ hb hlen hc.2.1 rfl, fun i hi => ?_⟩
            obtain ⟨ces, hl, hsh, h2⟩ := hcell i hi
            have : (((full.toList.drop off).take (n * P.cellsOf e)).drop (i * P.cellsOf e)).take (P.cellsOf e) = ces := by
              apply List.ext_getElem?
              intro j
              by_cases hj : j < P.cellsOf e
              · rw [List.getElem?_take_of_lt hj, List.getElem?_drop]
                have h6 : i * P.cellsOf e + j < n * P.cellsOf e := by
                  have : (i + 1) * P.cellsOf e ≤ n * P.cellsOf e := Nat.mul_le_mul_right _ hi
                  rw [Nat.succ_mul] at this; omega
                rw [List.getElem?_take_of_lt h6, List.getElem?_drop, Array.getElem?_toList, ← h2 j hj, Nat.add_assoc]
              · rw [List.getElem?_eq_none (by simp; omega), List.getElem?_eq_none (by omega)]
            rw [this]; exact hsh
        · cases h
    · trivial
section
variable {P : Program} {h : Heap} {k : Nat} {t : TypeId} {cs : List Value}
theorem shp_int {kd : IntKind} (x : Shp P h k t cs) (hu : P.underlying t = some (.int kd)) : ∃ n, cs = [.int kd n] ∧ (Lit.int kd n).wf = true := by
  cases k with
  | zero => exact x.elim
  | succ k => unfold Shp at x; rw [hu] at x; exact x
theorem shp_bool (x : Shp P h k t cs) (hu : P.underlying t = some .bool) : ∃ b, cs = [.bool b] := by
  cases k with
  | zero => exact x.elim
  | succ k => unfold Shp at x; rw [hu] at x; exact x
theorem shp_string (x : Shp P h k t cs) (hu : P.underlying t = some .string) : ∃ s, cs = [.string s] ∧ s.size ≤ maxLen := by
  cases k with
  | zero => exact x.elim
  | succ k => unfold Shp at x; rw [hu] at x; exact x
theorem shp_struct {fs : Array Field} (x : Shp P h k t cs) (hu : P.underlying t = some (.struct fs)) : cs.length = P.cellsOf t ∧ ∃ j, ∀ f ∈ fs.toList, Shp P h j f.type ((cs.drop f.offset).take (P.cellsOf f.type)) := by
  cases k with
  | zero => exact x.elim
  | succ k => unfold Shp at x; rw [hu] at x; exact ⟨x.1, k, x.2⟩
theorem shp_array {n : Nat} {e : TypeId} (x : Shp P h k t cs) (hu : P.underlying t = some (.array n e)) : cs.length = P.cellsOf t ∧ ∃ j, ∀ i, i < n → Shp P h j e ((cs.drop (i * P.cellsOf e)).take (P.cellsOf e)) := by
  cases k with
  | zero => exact x.elim
  | succ k => unfold Shp at x; rw [hu] at x; exact ⟨x.1, k, x.2⟩
theorem shp_slice {e : TypeId} {sz : Nat} (x : Shp P h k t cs) (hu : P.underlying t = some (.slice e)) (hs : P.cellsOf e = sz) (h0 : 0 < sz) : ∃ a n c es j, cs = [.slice a n c] ∧ n ≤ maxLen ∧ Cells h sz (.slice a n c) n es ∧ ∀ i, i < n → Shp P h j e ((es.drop (i * sz)).take sz) := by
  subst hs
  cases k with
  | zero => exact x.elim
  | succ k => unfold Shp at x; rw [hu] at x; obtain ⟨a, n, c, es, h1, h2, h3, h4⟩ := x h0; exact ⟨a, n, c, es, k, h1, h2, h3, h4⟩
end
theorem shp_arg {H : Type} {enc : TypeId × Value → H} {P : Program} {w : World} {spare : Nat → Bool} {held : Bool} {t : TypeId} {v : Value} {d : DataW H} {ps : List MemPlace} (x : DataW.Trod enc P w 0 spare held t v d ps) : ∃ k, Shp P (heapOf w) k t v.cells.toList := by
  obtain ⟨k, hk⟩ := x
  exact ⟨k, shp_of_trod k t _ _ hk⟩
end Go.Proofs.Ytielfejpnkcjbaa.Sl
