/- Arguments of chapter 15's statements: things, messages. -/
import Derived.Test.YtielfejpnkcjbaaAgeOwn
import Derived.Test.YtielfejpnkcjbaaArgDo
set_option linter.unusedVariables false
set_option linter.unusedSimpArgs false
namespace Go.Proofs.Ytielfejpnkcjbaa
open Sl
theorem Sl.agg_of_len {v : Value} {n : Nat} (h : v.cells.toList.length = n) (hn : n ≠ 1) : ∃ cs : List Value, v = .agg cs.toArray ∧ v.cells.toList = cs := by
  cases v <;> first | (exfalso; simp [Value.cells] at h; omega) | skip
  rename_i cs
  exact ⟨cs.toList, by simp, by simp [Value.cells]⟩
theorem list5 {α : Type} {l : List α} (h : l.length = 5) : ∃ a b c d e, l = [a, b, c, d, e] := by
  match l, h with
  | [a, b, c, d, e], _ => exact ⟨a, b, c, d, e, rfl⟩
theorem list9 {α : Type} {l : List α} (h : l.length = 9) : ∃ a b c d e f g i j, l = [a, b, c, d, e, f, g, i, j] := by
  match l, h with
  | [a, b, c, d, e, f, g, i, j], _ => exact ⟨a, b, c, d, e, f, g, i, j, rfl⟩
theorem key_of_shp {h : Heap} {k : Nat} {cs : List Value} (x : Shp Try.prog h k 52 cs) : ∃ (s g : Int), cs = [.int .u32 s, .int .u32 g] := by
  obtain ⟨hl, j, hf⟩ := shp_struct x Try.underlying52
  have hc : Try.prog.cellsOf 52 = 2 := by kernel_rfl
  have h1 : Try.prog.cellsOf 23 = 1 := by kernel_rfl
  replace hl := hl.trans hc
  obtain ⟨c0, c1, rfl⟩ := list2 hl
  simp only [List.mem_cons, List.not_mem_nil, or_false, forall_eq_or_imp, forall_eq, h1, List.drop_zero, List.drop_succ_cons, List.take_succ_cons, List.take_zero] at hf
  obtain ⟨f0, f1⟩ := hf
  obtain ⟨n0, e0, w0⟩ := shp_int f0 Try.underlying23
  obtain ⟨n1, e1, w1⟩ := shp_int f1 Try.underlying23
  simp only [List.cons.injEq, and_true] at e0 e1
  exact ⟨n0, n1, by rw [e0, e1]⟩
theorem thing_of_shp {h : Heap} {k : Nat} {v : Value} (x : Shp Try.prog h k 57 v.cells.toList) : ∃ t : ThK, v = thV t := by
  obtain ⟨hl, j, hf⟩ := shp_struct x Try.underlying57
  have hc : Try.prog.cellsOf 57 = 5 := by kernel_rfl
  have h1 : Try.prog.cellsOf 23 = 1 := by kernel_rfl
  have h2 : Try.prog.cellsOf 3 = 1 := by kernel_rfl
  have h3 : Try.prog.cellsOf 52 = 2 := by kernel_rfl
  replace hl := hl.trans hc
  obtain ⟨cs, hv, hcs⟩ := agg_of_len hl (by decide)
  rw [hcs] at hl hf
  obtain ⟨c0, c1, c2, c3, c4, rfl⟩ := list5 hl
  simp only [List.mem_cons, List.not_mem_nil, or_false, forall_eq_or_imp, forall_eq, h1, h2, h3, List.drop_zero, List.drop_succ_cons, List.take_succ_cons, List.take_zero] at hf
  obtain ⟨f0, f1, f2, f3⟩ := hf
  obtain ⟨n0, e0, _⟩ := shp_int f0 Try.underlying3
  obtain ⟨n1, e1, _⟩ := shp_int f1 Try.underlying3
  obtain ⟨n2, e2, _⟩ := shp_int f2 Try.underlying23
  obtain ⟨n3, n4, e3⟩ := key_of_shp f3
  simp only [List.cons.injEq, and_true] at e0 e1 e2 e3
  exact ⟨((n0, n1, n2), (n3, n4)), by rw [hv, e0, e1, e2, e3.1, e3.2]; rfl⟩
theorem addrs_of_shp {h : Heap} {k : Nat} {v : Value} (x : Shp Try.prog h k 53 [v]) : ∃ xs : List Int, Cells h 1 v xs.length (xs.map (.int .u32)) := by
  obtain ⟨a', n', c', es, j, he, hn, hc, hel⟩ := shp_slice (sz := 1) x Try.underlying53 kR (by decide)
  obtain ⟨ds, h1, h2, h3⟩ := chunks (fun d : Int => [Value.int .u32 d]) 1 (fun _ => True) n' es hc.len (fun i hi => by
    obtain ⟨n0, e0, _⟩ := shp_int (hel i hi) Try.underlying23
    exact ⟨n0, e0, trivial⟩)
  refine ⟨ds, ?_⟩
  obtain rfl := List.cons.inj he |>.1
  rw [h1]
  have : ds.map (Value.int .u32) = es := by rw [h2]; clear h1 h2 h3; induction ds with | nil => rfl | cons d ds ih => simp [ih]
  rw [this]; exact hc
theorem msg_of_shp {h : Heap} {k : Nat} {v : Value} (x : Shp Try.prog h k 55 v.cells.toList) : ∃ (m : MsgA) (sv : Value), v = msgV m sv ∧ Cells h 1 sv m.srcs.length (m.srcs.map (.int .u32)) := by
  obtain ⟨hl, j, hf⟩ := shp_struct x Try.underlying55
  have hc : Try.prog.cellsOf 55 = 9 := by kernel_rfl
  have h1 : Try.prog.cellsOf 23 = 1 := by kernel_rfl
  have h2 : Try.prog.cellsOf 3 = 1 := by kernel_rfl
  have h3 : Try.prog.cellsOf 52 = 2 := by kernel_rfl
  have h4 : Try.prog.cellsOf 4 = 1 := by kernel_rfl
  have h5 : Try.prog.cellsOf 53 = 1 := by kernel_rfl
  replace hl := hl.trans hc
  obtain ⟨cs, hv, hcs⟩ := agg_of_len hl (by decide)
  rw [hcs] at hl hf
  obtain ⟨c0, c1, c2, c3, c4, c5, c6, c7, c8, rfl⟩ := list9 hl
  simp only [List.mem_cons, List.not_mem_nil, or_false, forall_eq_or_imp, forall_eq, h1, h2, h3, h4, h5, List.drop_zero, List.drop_succ_cons, List.take_succ_cons, List.take_zero] at hf
  obtain ⟨f0, f1, f2, f3, f4, f5, f6, f7⟩ := hf
  obtain ⟨n0, e0, _⟩ := shp_int f0 Try.underlying3
  obtain ⟨n1, e1, _⟩ := shp_int f1 Try.underlying23
  obtain ⟨n2, e2, _⟩ := shp_int f2 Try.underlying23
  obtain ⟨n3, n4, e3⟩ := key_of_shp f3
  obtain ⟨n5, e5, _⟩ := shp_int f4 Try.underlying3
  obtain ⟨n6, e6, _⟩ := shp_int f5 Try.underlying3
  obtain ⟨n7, e7⟩ := shp_bool f6 Try.underlying4
  obtain ⟨xs, e8⟩ := addrs_of_shp f7
  simp only [List.cons.injEq, and_true] at e0 e1 e2 e3 e5 e6 e7
  exact ⟨⟨n0, n1, n2, n3, n4, n5, n6, n7, xs⟩, c8, by rw [hv, e0, e1, e2, e3.1, e3.2, e5, e6, e7]; rfl, e8⟩
end Go.Proofs.Ytielfejpnkcjbaa
