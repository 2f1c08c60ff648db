/- Lists of things of several cells; the puts of chapter 7's statements. -/
import Derived.Test.YtielfejpnkcjbaaTrieGet
import Derived.Test.YtielfejpnkcjbaaShape
set_option linter.unusedVariables false
set_option linter.unusedSimpArgs false
namespace Go.Proofs.Ytielfejpnkcjbaa
open Sl
section
variable {δ : Type}
theorem Sl.flatMap_get (enc : δ → List Value) (sz : Nat) (he : ∀ d, (enc d).length = sz) : ∀ (ds : List δ) (i j : Nat) (d : δ), ds[i]? = some d → j < sz → (ds.flatMap enc)[i * sz + j]? = (enc d)[j]?
  | [], i, j, d, h, _ => by simp at h
  | d0 :: ds, 0, j, d, h, hj => by
    simp only [List.getElem?_cons_zero, Option.some.injEq] at h
    subst h
    rw [List.flatMap_cons, Nat.zero_mul, Nat.zero_add, List.getElem?_append_left (by rw [he]; exact hj)]
  | d0 :: ds, i + 1, j, d, h, hj => by
    rw [List.flatMap_cons, Nat.succ_mul, List.getElem?_append_right (by rw [he]; omega), he]
    rw [show i * sz + sz + j - sz = i * sz + j by omega]
    exact Sl.flatMap_get enc sz he ds i j d (by simpa using h) hj
theorem Sl.chunks (enc : δ → List Value) (sz : Nat) (Q : δ → Prop) : ∀ (n : Nat) (cs : List Value), cs.length = n * sz → (∀ i, i < n → ∃ d, (cs.drop (i * sz)).take sz = enc d ∧ Q d) → ∃ ds : List δ, ds.length = n ∧ cs = ds.flatMap enc ∧ ∀ d ∈ ds, Q d
  | 0, cs, hl, _ => ⟨[], rfl, by simpa using hl, by simp⟩
  | n + 1, cs, hl, h => by
    obtain ⟨d, hd, hQ⟩ := h 0 (by omega)
    rw [Nat.zero_mul, List.drop_zero] at hd
    obtain ⟨ds, h1, h2, h3⟩ := Sl.chunks enc sz Q n (cs.drop sz) (by rw [List.length_drop, hl, Nat.succ_mul]; omega) (fun i hi => by
      obtain ⟨d', h4, h5⟩ := h (i + 1) (by omega)
      refine ⟨d', ?_, h5⟩
      rw [List.drop_drop, show sz + i * sz = (i + 1) * sz by rw [Nat.succ_mul]; omega]; exact h4)
    exact ⟨d :: ds, by simp [h1], by rw [List.flatMap_cons, ← hd, ← h2, List.take_append_drop], by simpa using ⟨hQ, h3⟩⟩
/-- An element of a list of things. -/
theorem Sl.Cells.elem {h : Heap} {sz : Nat} {a : Option Addr} {n c : Nat} {enc : δ → List Value} (h0 : 0 < sz) (he : ∀ d, (enc d).length = sz) {ds : List δ} (x : Cells h sz (.slice a n c) n (ds.flatMap enc)) {i : Nat} {d : δ} (hi : i < n) (hd : ds[i]? = some d) :
    ∃ b off full e fz, a = some ⟨b, off, none⟩ ∧ h b = some (.cells full e fz) ∧ off + i * sz + sz ≤ full.size ∧ (∀ j, j < sz → full[off + i * sz + j]? = (enc d)[j]?) ∧ ∀ k m, k + m ≤ sz → full.extract (off + i * sz + k) (off + i * sz + k + m) = (((enc d).drop k).take m).toArray := by
  obtain ⟨b, off, c', full, e, fz, hv, hb, hg⟩ := x.get hi
  have hgo : ∀ j, j < sz → full[off + i * sz + j]? = (enc d)[j]? := fun j hj => (hg j hj).trans (Sl.flatMap_get enc sz he ds i j d hd hj)
  have hsz : off + i * sz + sz ≤ full.size := by
    have := hgo (sz - 1) (by omega)
    rw [List.getElem?_eq_getElem (by rw [he]; omega)] at this
    have := (Array.getElem?_eq_some_iff.1 this).1
    omega
  refine ⟨b, off, full, e, fz, by cases hv; rfl, hb, hsz, hgo, fun k m hkm => ?_⟩
  have hld := he d
  apply Array.ext_getElem?
  intro j
  by_cases hj : j < m
  · rw [Array.getElem?_extract_of_lt (by omega), List.getElem?_toArray, List.getElem?_take_of_lt hj, List.getElem?_drop, ← hgo (k + j) (by omega), Array.getElem?_eq_getElem (by omega)]
    simp only [Nat.add_assoc]
  · rw [Array.getElem?_eq_none (by simp; omega), Array.getElem?_eq_none (by simp; omega)]
end
/-- A thing that is put: a prefix, a number. -/
abbrev DoT := (Nat × Int) × Int
def encDo (d : DoT) : List Value := [.int .u32 d.1.1, .int .i64 d.1.2, .int .i64 d.2]
theorem encDo_len (d : DoT) : (encDo d).length = 3 := rfl
def hit (A : Nat) (x : (Nat × Nat) × Int) : Prop := path x.1.1 x.1.2 = path A x.1.2
/-- Whether an address is in any of what was put, and in how narrow a one. -/
def MostIs (ps : Puts) (A : Nat) (inb : Bool) (m : Int) : Prop :=
  (inb = false ∧ m = -1 ∧ ∀ x ∈ ps, ¬ hit A x) ∨ (inb = true ∧ ∃ x ∈ ps, hit A x ∧ m = (x.1.2 : Int) ∧ ∀ y ∈ ps, hit A y → y.1.2 ≤ x.1.2)
theorem nums_hit {ps : Puts} {A k : Nat} : numsOf ps (path A k) ≠ [] ↔ ∃ x ∈ ps, hit A x ∧ x.1.2 = k := by
  unfold numsOf hit
  rw [Ne, List.map_eq_nil_iff, List.filter_eq_nil_iff]
  simp only [decide_eq_true_eq, Classical.not_forall, Classical.not_not]
  constructor
  · rintro ⟨x, hx, e⟩
    have : x.1.2 = k := by have := congrArg List.length e; simpa [path_length] using this
    exact ⟨x, hx, by rw [this] at e ⊢; exact e, this⟩
  · rintro ⟨x, hx, e, rfl⟩; exact ⟨x, hx, e⟩
theorem MostIs.nil (A : Nat) : MostIs [] A false (-1) := .inl ⟨rfl, rfl, by simp⟩
theorem MostIs.miss {ps : Puts} {A : Nat} {inb : Bool} {m : Int} (h : MostIs ps A inb m) {x : (Nat × Nat) × Int} (hx : ¬ hit A x) : MostIs (ps ++ [x]) A inb m := by
  rcases h with ⟨h1, h2, h3⟩ | ⟨h1, y, hy, h2, h3, h4⟩
  · exact .inl ⟨h1, h2, fun z hz => by
      rcases List.mem_append.1 hz with hz | hz
      · exact h3 z hz
      · rw [List.mem_singleton.1 hz]; exact hx⟩
  · exact .inr ⟨h1, y, by simp [hy], h2, h3, fun z hz hh => by
      rcases List.mem_append.1 hz with hz | hz
      · exact h4 z hz hh
      · rw [List.mem_singleton.1 hz] at hh; exact absurd hh hx⟩
theorem MostIs.hits {ps : Puts} {A : Nat} {inb : Bool} {m : Int} (h : MostIs ps A inb m) {x : (Nat × Nat) × Int} (hx : hit A x) : MostIs (ps ++ [x]) A true (if (x.1.2 : Int) > m then (x.1.2 : Int) else m) := by
  rcases h with ⟨h1, h2, h3⟩ | ⟨h1, y, hy, h2, h3, h4⟩
  · refine .inr ⟨rfl, x, by simp, hx, by rw [if_pos (by omega)], fun z hz hh => ?_⟩
    rcases List.mem_append.1 hz with hz | hz
    · exact absurd hh (h3 z hz)
    · rw [List.mem_singleton.1 hz]; exact Nat.le_refl _
  · by_cases hlt : (x.1.2 : Int) > m
    · refine .inr ⟨rfl, x, by simp, hx, by rw [if_pos hlt], fun z hz hh => ?_⟩
      rcases List.mem_append.1 hz with hz | hz
      · have := h4 z hz hh; omega
      · rw [List.mem_singleton.1 hz]; exact Nat.le_refl _
    · refine .inr ⟨rfl, y, by simp [hy], h2, by rw [if_neg hlt]; exact h3, fun z hz hh => ?_⟩
      rcases List.mem_append.1 hz with hz | hz
      · exact h4 z hz hh
      · rw [List.mem_singleton.1 hz]; omega
theorem MostIs.none_ {ps : Puts} {A : Nat} {m : Int} (h : MostIs ps A false m) : bestOf (numsOf ps) A 33 = none := by
  rcases h with ⟨_, _, h3⟩ | ⟨h1, _⟩
  · have : bestOf (numsOf ps) A 33 = bestOf (numsOf ps) A 0 := bestOf_over (fun i _ _ => by
      by_cases e : numsOf ps (path A i) = []
      · exact e
      · obtain ⟨x, hx, hh, _⟩ := nums_hit.1 e; exact absurd hh (h3 x hx)) (by omega)
    rw [this]; rfl
  · cases h1
theorem MostIs.some_ {ps : Puts} {A : Nat} {m : Int} (h : MostIs ps A true m) (h32 : ∀ x ∈ ps, x.1.2 ≤ 32) : ∃ j : Nat, m = (j : Int) ∧ j ≤ 32 ∧ bestOf (numsOf ps) A 33 = some j ∧ ∃ x ∈ ps, hit A x ∧ x.1.2 = j := by
  rcases h with ⟨h1, _⟩ | ⟨_, x, hx, hh, hm, ho⟩
  · cases h1
  · refine ⟨x.1.2, hm, h32 x hx, bestOf_at (by have := h32 x hx; omega) (nums_hit.2 ⟨x, hx, hh, rfl⟩) fun k a b => ?_, x, hx, hh, rfl⟩
    by_cases e : numsOf ps (path A k) = []
    · exact e
    · obtain ⟨y, hy, hy2, e2⟩ := nums_hit.1 e
      have := ho y hy hy2
      omega
end Go.Proofs.Ytielfejpnkcjbaa
