/- Literals of lists of several. -/
import Derived.Test.YtielfejpnkcjbaaMapsC
set_option linter.unusedVariables false
set_option linter.unusedSimpArgs false
namespace Go.Proofs.Ytielfejpnkcjbaa.Sl
theorem fill_seq : ∀ (vs pre post : List Value), post.length = vs.length → (∀ v ∈ vs, v.cells = #[v]) → Instr.fill (fun j => some (j * 1, 1)) (pre ++ post).toArray ((vs.zipIdx pre.length).map fun x => (x.2, x.1)) = some (pre ++ vs).toArray
  | [], pre, post, hl, _ => by
    have : post = [] := List.eq_nil_of_length_eq_zero hl
    subst this
    simp [Instr.fill]
  | v :: vs, pre, [], hl, _ => by simp at hl
  | v :: vs, pre, p :: post, hl, hv => by
    have hv0 := hv v (by simp)
    rw [List.zipIdx_cons, List.map_cons]
    unfold Instr.fill
    simp only
    have h2 : (decide (v.cells.size ≠ 1) || decide (pre.length * 1 + v.cells.size > (pre ++ p :: post).toArray.size)) = false := by
      rw [hv0]; simp only [Bool.or_eq_false_iff, decide_eq_false_iff_not, List.size_toArray, List.length_append, List.length_cons]
      refine ⟨by simp, ?_⟩
      show ¬ (pre.length * 1 + 1 > _); omega
    rw [h2]
    simp only [Bool.false_eq_true, if_false]
    rw [fill_at (by rw [hv0]; simp), hv0]
    have h3 : ((pre ++ p :: post).toArray.toList.take (pre.length * 1) ++ (#[v] : Array Value).toList ++ (pre ++ p :: post).toArray.toList.drop (pre.length * 1 + (#[v] : Array Value).size)) = (pre ++ [v]) ++ post := by
      rw [Nat.mul_one]
      have h4 : (pre ++ p :: post).drop (pre.length + 1) = post := by
        rw [← List.drop_drop, List.drop_left]; rfl
      show (pre ++ p :: post).take pre.length ++ [v] ++ (pre ++ p :: post).drop (pre.length + 1) = _
      rw [List.take_left, h4]
    rw [h3]
    have ih := fill_seq vs (pre ++ [v]) post (by simpa using hl) (fun u hu => hv u (by simp [hu]))
    simp only [List.length_append, List.length_cons, List.length_nil, Nat.zero_add] at ih
    rw [ih]; simp
theorem a_buildSliceN {P : Program} {o : Oper} {ρ : Operand → Value} {t e n : Nat} {parts : Array (Nat × Operand)} {vs : List Value} (ho : o.op = .buildSlice t n parts) (hu : P.underlying t = some (.slice e)) (hi : infoOk P e 1 = true)
    (hv : (parts.map fun (i, x) => (i, ρ x)).toList = (vs.zipIdx 0).map fun x => (x.2, x.1)) (hn : vs.length = n) (hone : ∀ v ∈ vs, v.cells = #[v]) (h0 : 0 < n) (h1 : n ≤ 1000) : AllocOp P o ρ (.cells vs.toArray e) (fun b => .slice (some ⟨b, 0, none⟩) n n) := by
  obtain ⟨i, z, hi, hz, hs, hz1, hb⟩ := infoOk_spec hi
  have hcell : P.cellsOf e = 1 := by simp [Program.cellsOf, hi, hs]
  refine a_buildSlice (cells := vs.toArray) ho hu ?_ (by rw [hcell]; omega) (by rw [hcell]; omega)
  unfold sliceLit
  simp only [hi, hz, hs]
  rw [hv]
  have := fill_seq vs [] ((Array.range (n * 1)).map (fun j => z.cells[j % z.cells.size]!)).toList (by simp [hn]) hone
  simp only [List.nil_append, Array.toArray_toList, List.length_nil] at this
  exact this
end Go.Proofs.Ytielfejpnkcjbaa.Sl
