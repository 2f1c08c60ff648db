/- Arguments of chapter 7's statements: what is put. -/
import Derived.Test.YtielfejpnkcjbaaDos
set_option linter.unusedVariables false
set_option linter.unusedSimpArgs false
namespace Go.Proofs.Ytielfejpnkcjbaa
open Sl
theorem list2 {α : Type} {l : List α} (h : l.length = 2) : ∃ a b, l = [a, b] := by
  match l, h with
  | [a, b], _ => exact ⟨a, b, rfl⟩
theorem list3 {α : Type} {l : List α} (h : l.length = 3) : ∃ a b c, l = [a, b, c] := by
  match l, h with
  | [a, b, c], _ => exact ⟨a, b, c, rfl⟩
theorem u32_of {n : Int} (w : (Lit.int .u32 n).wf = true) : ∃ A : Nat, n = (A : Int) ∧ A < 4294967296 := by
  simp only [Lit.wf, Bool.and_eq_true, decide_eq_true_eq] at w
  obtain ⟨A, rfl⟩ := Int.eq_ofNat_of_zero_le w.1
  exact ⟨A, rfl, by have h1 := w.2; change (A : Int) ≤ 4294967295 at h1; omega⟩
theorem pfx_of_shp {h : Heap} {k : Nat} {cs : List Value} (x : Shp Try.prog h k 37 cs) : ∃ (A : Nat) (n : Int), cs = [.int .u32 A, .int .i64 n] ∧ A < 4294967296 := by
  obtain ⟨hl, j, hf⟩ := shp_struct x Try.underlying37
  have hc : Try.prog.cellsOf 37 = 2 := by kernel_rfl
  have h1 : Try.prog.cellsOf 23 = 1 := by kernel_rfl
  have h2 : Try.prog.cellsOf 3 = 1 := by kernel_rfl
  replace hl := hl.trans hc
  obtain ⟨c0, c1, rfl⟩ := list2 hl
  simp only [List.mem_cons, List.not_mem_nil, or_false, forall_eq_or_imp, forall_eq, h1, h2, List.drop_zero, List.drop_succ_cons, List.take_succ_cons, List.take_zero] at hf
  obtain ⟨f0, f1⟩ := hf
  obtain ⟨n0, e0, w0⟩ := shp_int f0 Try.underlying23
  obtain ⟨n1, e1, w1⟩ := shp_int f1 Try.underlying3
  obtain ⟨A, rfl, hA⟩ := u32_of w0
  simp only [List.cons.injEq, and_true] at e0 e1
  exact ⟨A, n1, by rw [e0, e1], hA⟩
theorem do_of_shp {h : Heap} {k : Nat} {cs : List Value} (x : Shp Try.prog h k 46 cs) : ∃ d : DoT, cs = encDo d ∧ d.1.1 < 4294967296 := by
  obtain ⟨hl, j, hf⟩ := shp_struct x Try.underlying46
  have hc : Try.prog.cellsOf 46 = 3 := by kernel_rfl
  have h1 : Try.prog.cellsOf 37 = 2 := by kernel_rfl
  have h2 : Try.prog.cellsOf 3 = 1 := by kernel_rfl
  replace hl := hl.trans hc
  obtain ⟨c0, c1, c2, rfl⟩ := list3 hl
  simp only [List.mem_cons, List.not_mem_nil, or_false, forall_eq_or_imp, forall_eq, h1, h2, List.drop_zero, List.drop_succ_cons, List.take_succ_cons, List.take_zero] at hf
  obtain ⟨f0, f1⟩ := hf
  obtain ⟨A, n, e0, hA⟩ := pfx_of_shp f0
  obtain ⟨n1, e1, w1⟩ := shp_int f1 Try.underlying3
  simp only [List.cons.injEq, and_true] at e0 e1
  exact ⟨((A, n), n1), by rw [e0.1, e0.2, e1]; rfl, hA⟩
/-- A list of things to put, as an argument. -/
theorem dos_of_shp {h : Heap} {k : Nat} {a : Option Addr} {n c : Nat} (x : Shp Try.prog h k 44 [.slice a n c]) : ∃ ds : List DoT, ds.length = n ∧ n ≤ 9223372036854775807 ∧ Cells h 3 (.slice a n c) ds.length (ds.flatMap encDo) ∧ ∀ d ∈ ds, d.1.1 < 4294967296 := by
  obtain ⟨a', n', c', es, j, he, hn, hc, hel⟩ := shp_slice (sz := 3) x Try.underlying44 kR (by decide)
  cases he
  obtain ⟨ds, h1, h2, h3⟩ := chunks encDo 3 (fun d => d.1.1 < 4294967296) n es hc.len (fun i hi => do_of_shp (hel i hi))
  subst h2
  refine ⟨ds, h1, Nat.le_trans hn (by decide), by rw [h1]; exact hc, h3⟩
end Go.Proofs.Ytielfejpnkcjbaa
