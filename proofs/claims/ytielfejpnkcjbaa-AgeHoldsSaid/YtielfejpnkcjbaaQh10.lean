import Derived.Test.YtielfejpnkcjbaaQh9
import Derived.Test.YtielfejpnkcjbaaProg
/- Sorting rivulet/age.Entry: the partition by equality. -/
set_option linter.unusedVariables false
set_option linter.unusedSimpArgs false
namespace Go.Proofs.Ytielfejpnkcjbaa.SortE
open Sl Ab Go.Sort
section
variable {α : Type} [Inhabited α] {e : Enc α 15} {cmp : α → α → Int}
theorem parteq_ok (c : CmpFn Try.prog e cmp) (d : Array α) (a b p : Nat) (hap : a ≤ p) (hpb : p < b) (hb : b ≤ d.size) (hs : d.size ≤ 1000000000) : GCall Try.prog 75 [.os 1000, .fz (vI a), .fz (vI b), .fz (vI p), .fz c.fv] [(1000, .rows 64 15 (rw e d))] (Nat × Array α) (fun y => y = partitionEqual (ltOf cmp) d a b p) (fun y => [(1000, .rows 64 15 (rw e y.2))]) (fun y => vI y.1) := by
  refine g_enter1 (ro := fun y : Nat × Array α => rw e y.2) Try.func75 rfl (fun h0 => ?_)
  simp only [argG]
  have hR : ∀ d : Array α, (rw e d).length = d.size := fun _ => rw_length
  have hw1 : IntKind.i64.wrap ((a : Int) + 1) = ((a + 1 : Nat) : Int) := wrap64_nat _ _ (by omega) (by omega)
  have hw2 : IntKind.i64.wrap ((b : Int) - 1) = ((b - 1 : Nat) : Int) := wrap64_nat _ _ (by omega) (by omega)
  have hsw := rw_swp (e := e) (d := d) (i := a) (j := p) (by omega) (by omega)
  obtain ⟨d1, hd1⟩ : ∃ d1, swp d a p = d1 := ⟨_, rfl⟩
  rw [hd1] at hsw
  have hs1 : d1.size = d.size := by rw [← hd1]; exact size_swp _ _ _
  have hfin : ∀ y, partEqLoop (ltOf cmp) a (a + 1) (b - 1) d1 = y → y = partitionEqual (ltOf cmp) d a b p := fun y h => by rw [← h, ← hd1]; rfl
  clear hd1
  refine a_seq ?_
  refine a_reg [⟨some 10, none, .asg (ci 0), false⟩] kR kR ?_
  refine r_run ?_
  refine r_end [0, 1, 2, 3, 4, 10, 11, 12, 47, 65, 70] ?_
  refine a_seq ?_
  refine a_regd [0, 1, 2, 3, 4, 5, 6, 7, 8, 9, 10, 11, 12, 13, 14, 15] [13, 15] [⟨some 13, none, .mv (tm 0), true⟩, ⟨some 14, none, .mv (tm 1), true⟩, ⟨some 15, none, .mv (tm 0), true⟩, ⟨some 16, none, .mv (tm 3), true⟩, ⟨some 17, none, .mv (tm 0), true⟩, ⟨some 18, none, .mv (tm 3), true⟩, ⟨some 19, none, .ix 71 (tm 17) (tm 18) 64 15, true⟩, ⟨some 20, none, .ldN 64 (tm 19) 15, true⟩, ⟨some 21, none, .mv (tm 0), true⟩, ⟨some 22, none, .mv (tm 1), true⟩, ⟨some 23, none, .ix 71 (tm 21) (tm 22) 64 15, true⟩, ⟨some 24, none, .ldN 64 (tm 23) 15, true⟩, ⟨some 25, none, .ix 71 (tm 13) (tm 14) 64 15, true⟩, ⟨none, none, .stN 64 (tm 25) (tm 20) 15, false⟩, ⟨some 26, none, .ix 71 (tm 15) (tm 16) 64 15, true⟩, ⟨none, none, .stN 64 (tm 26) (tm 24) 15, false⟩] kR kR kR kR kR ?_
  refine r_runO ?_ ?_
  · (repeat' (first | exact rw_len (by omega) | exact rw_one (by omega) | refine ⟨?_, ?_⟩ | omega | trivial | (simp only [List.length_set, rw_length]; omega)))
  refine r_end [0, 1, 2, 3, 4, 10, 11, 12, 47, 65, 70] ?_
  refine a_seq ?_
  refine a_reg [⟨some 27, none, .mv (tm 1), false⟩, ⟨some 28, none, .bin .add 3 (tm 27) (ci 1) 3, false⟩, ⟨some 29, none, .mv (tm 2), false⟩, ⟨some 30, none, .bin .sub 3 (tm 29) (ci 1) 3, false⟩, ⟨some 11, none, .asg (tm 28), false⟩, ⟨some 12, none, .asg (tm 30), false⟩] kR kR ?_
  refine r_run ?_
  refine r_end [0, 1, 2, 3, 4, 10, 11, 12, 47, 65, 70] ?_
  refine a_seq ?_
  refine a_block ?_
  refine c_weak [0, 1, 4, 11, 12] ?_
  refine a_loop (fun m T σ => ∃ (u v : Nat) (d2 : Array α), m = v + 1 - u ∧ a < u ∧ u ≤ v + 1 ∧ v < b ∧ d2.size = d.size ∧ partEqLoop (ltOf cmp) a u v d2 = partEqLoop (ltOf cmp) a (a + 1) (b - 1) d1 ∧ T = [(0, .os 1000), (1, .fz (vI a)), (4, .fz c.fv), (11, .fz (vI u)), (12, .fz (vI v))] ∧ σ = [(1000, .rows 64 15 (rw e d2))]) (b - 1 + 1 - (a + 1)) (⟨a + 1, b - 1, d1, rfl, by omega, by omega, by omega, hs1, rfl, rfl, rfl⟩) ?_
  rintro m T σ ⟨u, v, d2, hmu, hu1, hu2, hv1, hs2, heq3, rfl, rfl⟩
  refine a_block ?_
  refine a_seq ?_
  refine a_block ?_
  refine c_weak [0, 1, 4, 11, 12] ?_
  refine a_loop (fun m T σ => ∃ x : Nat, m = v + 1 - x ∧ u ≤ x ∧ x ≤ v + 1 ∧ scanUp (fun x => !ltOf cmp d2[a]! x) d2 v x = scanUp (fun x => !ltOf cmp d2[a]! x) d2 v u ∧ T = [(0, .os 1000), (1, .fz (vI a)), (4, .fz c.fv), (11, .fz (vI x)), (12, .fz (vI v))] ∧ σ = [(1000, .rows 64 15 (rw e d2))]) (v + 1 - u) (⟨u, rfl, by omega, by omega, rfl, rfl, rfl⟩) ?_
  rintro m T σ ⟨x, hmx, hx1, hx2, heq4, rfl, rfl⟩
  refine a_seq ?_
  refine a_seq ?_
  refine a_regd [0, 1, 2, 3, 4, 5, 6, 7, 8, 9, 10, 11, 12, 13, 14, 15, 16] [13] [⟨some 31, none, .mv (tm 11), true⟩, ⟨some 32, none, .mv (tm 12), true⟩, ⟨some 33, none, .bin .leq 3 (tm 31) (tm 32) 3, true⟩, ⟨some 34, none, .mv (tm 33), true⟩, ⟨some 35, some (34, true), .mv (tm 4), true⟩, ⟨some 36, some (34, true), .mv (tm 0), true⟩, ⟨some 37, some (34, true), .mv (tm 1), true⟩, ⟨some 38, some (34, true), .ix 71 (tm 36) (tm 37) 64 15, true⟩, ⟨some 39, some (34, true), .ldN 64 (tm 38) 15, true⟩, ⟨some 40, some (34, true), .mv (tm 0), true⟩, ⟨some 41, some (34, true), .mv (tm 11), true⟩, ⟨some 42, some (34, true), .ix 71 (tm 40) (tm 41) 64 15, true⟩, ⟨some 43, some (34, true), .ldN 64 (tm 42) 15, true⟩, ⟨some 44, some (34, true), .callv (tm 35) [(tm 39), (tm 43)] [64, 64], false⟩, ⟨some 45, some (34, true), .bin .lss 3 (tm 44) (ci 0) 3, true⟩, ⟨some 46, some (34, true), .not 4 (tm 45), true⟩, ⟨some 47, none, .pick 34 (tm 46) (.const (Value.bool false)), true⟩] kR kR kR kR kR ?_
  refine r_runO ?_ ?_
  · (simp only [decide_eq_true_eq, Bool.and_eq_true]; omega)
  refine r_callgB (res := vI (cmp d2[a]! d2[x]!)) ?_ ?_ (hc := c.ok)
  · exact fun hg => c.at (d := d2) a x (by omega) (by simp only [decide_eq_true_eq] at hg; omega)
  refine r_run ?_
  refine r_end [0, 1, 2, 3, 4, 10, 11, 12, 47, 65, 70] ?_
  refine c_cond (fun hb0 => ?_) (fun hb0 => ?_)
  · simp only [Bool.and_eq_true, Bool.not_eq_true', decide_eq_true_eq, decide_eq_false_iff_not] at hb0
    have hw3 : IntKind.i64.wrap ((x : Int) + 1) = ((x + 1 : Nat) : Int) := wrap64_nat _ _ (by omega) (by omega)
    refine a_skip ?_
    refine a_block ?_
    refine a_reg [⟨some 48, none, .mv (tm 11), false⟩, ⟨some 49, none, .bin .add 3 (tm 48) (ci 1) 3, false⟩, ⟨some 11, none, .asg (tm 49), false⟩] kR kR ?_
    refine r_run ?_
    refine r_end [0, 1, 2, 3, 4, 10, 11, 12, 47, 65, 70] ?_
    refine a_nil ?_
    refine x_end ?_
    refine a_nil ?_
    refine x_weak [0, 1, 4, 11, 12] ?_
    exact x_next (v + 1 - (x + 1)) (by omega) (⟨x + 1, rfl, by omega, by omega, (scanUp_go (by omega) (by simp [ltOf]; omega)).trans heq4, rfl, rfl⟩)
  · have hst3 : x ≤ v → (!ltOf cmp d2[a]! d2[x]!) = false := by intro h; simp [ltOf]; simp at hb0; exact hb0 (by omega)
    have heq4' : scanUp (fun x => !ltOf cmp d2[a]! x) d2 v u = x := by rw [← heq4, scanUp_stop hst3]
    clear heq4 hmx hb0
    refine a_exit ?_
    refine x_then ?_
    refine x_here ?_
    refine a_seq ?_
    refine a_block ?_
    refine c_weak [0, 1, 4, 11, 12] ?_
    refine a_loop (fun m T σ => ∃ z : Nat, m = z ∧ z ≤ v ∧ x ≤ z + 1 ∧ scanDown (fun x => ltOf cmp d2[a]! x) d2 x z = scanDown (fun x => ltOf cmp d2[a]! x) d2 x v ∧ T = [(0, .os 1000), (1, .fz (vI a)), (4, .fz c.fv), (11, .fz (vI x)), (12, .fz (vI z))] ∧ σ = [(1000, .rows 64 15 (rw e d2))]) (v) (⟨v, rfl, by omega, by omega, rfl, rfl, rfl⟩) ?_
    rintro m T σ ⟨z, hmz, hz1, hz2, heq5, rfl, rfl⟩
    refine a_seq ?_
    refine a_seq ?_
    refine a_regd [0, 1, 2, 3, 4, 5, 6, 7, 8, 9, 10, 11, 12, 13, 14, 15] [13] [⟨some 50, none, .mv (tm 11), true⟩, ⟨some 51, none, .mv (tm 12), true⟩, ⟨some 52, none, .bin .leq 3 (tm 50) (tm 51) 3, true⟩, ⟨some 53, none, .mv (tm 52), true⟩, ⟨some 54, some (53, true), .mv (tm 4), true⟩, ⟨some 55, some (53, true), .mv (tm 0), true⟩, ⟨some 56, some (53, true), .mv (tm 1), true⟩, ⟨some 57, some (53, true), .ix 71 (tm 55) (tm 56) 64 15, true⟩, ⟨some 58, some (53, true), .ldN 64 (tm 57) 15, true⟩, ⟨some 59, some (53, true), .mv (tm 0), true⟩, ⟨some 60, some (53, true), .mv (tm 12), true⟩, ⟨some 61, some (53, true), .ix 71 (tm 59) (tm 60) 64 15, true⟩, ⟨some 62, some (53, true), .ldN 64 (tm 61) 15, true⟩, ⟨some 63, some (53, true), .callv (tm 54) [(tm 58), (tm 62)] [64, 64], false⟩, ⟨some 64, some (53, true), .bin .lss 3 (tm 63) (ci 0) 3, true⟩, ⟨some 65, none, .pick 53 (tm 64) (.const (Value.bool false)), true⟩] kR kR kR kR kR ?_
    refine r_runO ?_ ?_
    · (simp only [decide_eq_true_eq, Bool.and_eq_true]; omega)
    refine r_callgB (res := vI (cmp d2[a]! d2[z]!)) ?_ ?_ (hc := c.ok)
    · exact fun hg => c.at (d := d2) a z (by omega) (by omega)
    refine r_run ?_
    refine r_end [0, 1, 2, 3, 4, 10, 11, 12, 47, 65, 70] ?_
    refine c_cond (fun hb1 => ?_) (fun hb1 => ?_)
    · simp only [Bool.and_eq_true, decide_eq_true_eq] at hb1
      have hw3 : IntKind.i64.wrap ((z : Int) - 1) = ((z - 1 : Nat) : Int) := wrap64_nat _ _ (by omega) (by omega)
      refine a_skip ?_
      refine a_block ?_
      refine a_reg [⟨some 66, none, .mv (tm 12), false⟩, ⟨some 67, none, .bin .sub 3 (tm 66) (ci 1) 3, false⟩, ⟨some 12, none, .asg (tm 67), false⟩] kR kR ?_
      refine r_run ?_
      refine r_end [0, 1, 2, 3, 4, 10, 11, 12, 47, 65, 70] ?_
      refine a_nil ?_
      refine x_end ?_
      refine a_nil ?_
      refine x_weak [0, 1, 4, 11, 12] ?_
      exact x_next (z - 1) (by omega) (⟨z - 1, rfl, by omega, by omega, (scanDown_go (by omega) (by omega) (by simp [ltOf, hb1.2])).trans heq5, rfl, rfl⟩)
    · have hst4 : x ≤ z → ltOf cmp d2[a]! d2[z]! = false := by intro h; simp [ltOf]; simp at hb1; exact hb1 (by omega)
      have heq5' : scanDown (fun x => ltOf cmp d2[a]! x) d2 x v = z := by rw [← heq5, scanDown_stop hst4]
      have hxz : x ≤ z → x < z := scan_ne (p := fun x => !ltOf cmp d2[a]! x) hst3 (fun h => by simp [hst4 h]) (by omega)
      clear heq5 hmz hb1
      refine a_exit ?_
      refine x_then ?_
      refine x_here ?_
      refine a_seq ?_
      refine a_seq ?_
      refine a_reg [⟨some 68, none, .mv (tm 11), false⟩, ⟨some 69, none, .mv (tm 12), false⟩, ⟨some 70, none, .bin .gtr 3 (tm 68) (tm 69) 3, false⟩] kR kR ?_
      refine r_run ?_
      refine r_end [0, 1, 2, 3, 4, 10, 11, 12, 47, 65, 70] ?_
      refine c_cond (fun hb2 => ?_) (fun hb2 => ?_)
      · simp only [decide_eq_true_eq] at hb2
        have hpl := (parteq_out heq4' heq5' (by omega)).symm.trans heq3
        refine a_exit ?_
        refine x_up (by decide) ?_
        refine x_then ?_
        refine x_here ?_
        refine a_seq ?_
        refine a_reg [⟨some 89, none, .mv (tm 11), false⟩, ⟨some 10, none, .asg (tm 89), false⟩] kR kR ?_
        refine r_run ?_
        refine r_end [0, 1, 2, 3, 4, 10, 11, 12, 47, 65, 70] ?_
        refine a_ret ?_
        refine y_retG1 (.tmp 10) (none) ((x, d2)) [1000] ?_ ?_ ?_
        · exact hfin _ hpl.symm
        · exact rfl
        · exact frep_of rfl
      · simp only [decide_eq_false_iff_not] at hb2
        have hxz2 : x < z := hxz (by omega)
        have hw6 : IntKind.i64.wrap ((x : Int) + 1) = ((x + 1 : Nat) : Int) := wrap64_nat _ _ (by omega) (by omega)
        have hw7 : IntKind.i64.wrap ((z : Int) - 1) = ((z - 1 : Nat) : Int) := wrap64_nat _ _ (by omega) (by omega)
        refine a_skip ?_
        refine a_seq ?_
        refine a_regd [0, 1, 2, 3, 4, 5, 6, 7, 8, 9, 10, 11, 12, 13, 14, 15] [13, 15] [⟨some 71, none, .mv (tm 0), true⟩, ⟨some 72, none, .mv (tm 11), true⟩, ⟨some 73, none, .mv (tm 0), true⟩, ⟨some 74, none, .mv (tm 12), true⟩, ⟨some 75, none, .mv (tm 0), true⟩, ⟨some 76, none, .mv (tm 12), true⟩, ⟨some 77, none, .ix 71 (tm 75) (tm 76) 64 15, true⟩, ⟨some 78, none, .ldN 64 (tm 77) 15, true⟩, ⟨some 79, none, .mv (tm 0), true⟩, ⟨some 80, none, .mv (tm 11), true⟩, ⟨some 81, none, .ix 71 (tm 79) (tm 80) 64 15, true⟩, ⟨some 82, none, .ldN 64 (tm 81) 15, true⟩, ⟨some 83, none, .ix 71 (tm 71) (tm 72) 64 15, true⟩, ⟨none, none, .stN 64 (tm 83) (tm 78) 15, false⟩, ⟨some 84, none, .ix 71 (tm 73) (tm 74) 64 15, true⟩, ⟨none, none, .stN 64 (tm 84) (tm 82) 15, false⟩] kR kR kR kR kR ?_
        refine r_runO ?_ ?_
        · (repeat' (first | exact rw_len (by omega) | exact rw_one (by omega) | refine ⟨?_, ?_⟩ | omega | trivial | (simp only [List.length_set, rw_length]; omega)))
        refine r_end [0, 1, 2, 3, 4, 10, 11, 12, 47, 65, 70] ?_
        have hsw3 := rw_swp (e := e) (d := d2) (i := x) (j := z) (by omega) (by omega)
        refine a_seq ?_
        refine a_reg [⟨some 85, none, .mv (tm 11), false⟩, ⟨some 86, none, .bin .add 3 (tm 85) (ci 1) 3, false⟩, ⟨some 11, none, .asg (tm 86), false⟩] kR kR ?_
        refine r_run ?_
        refine r_end [0, 1, 2, 3, 4, 10, 11, 12, 47, 65, 70] ?_
        refine a_reg [⟨some 87, none, .mv (tm 12), false⟩, ⟨some 88, none, .bin .sub 3 (tm 87) (ci 1) 3, false⟩, ⟨some 12, none, .asg (tm 88), false⟩] kR kR ?_
        refine r_run ?_
        refine r_end [0, 1, 2, 3, 4, 10, 11, 12, 47, 65, 70] ?_
        refine a_nil ?_
        refine x_end ?_
        refine a_nil ?_
        refine x_weak [0, 1, 4, 11, 12] ?_
        exact x_next (z - 1 + 1 - (x + 1)) (by omega) (⟨x + 1, z - 1, swp d2 x z, rfl, by omega, by omega, by omega, (size_swp _ _ _).trans hs2, (parteq_go heq4' heq5' (by omega)).symm.trans heq3, rfl, rfl⟩)
end
end Go.Proofs.Ytielfejpnkcjbaa.SortE

/- Sorting rivulet/age.Entry: the insertion of a few. -/
set_option linter.unusedVariables false
set_option linter.unusedSimpArgs false
namespace Go.Proofs.Ytielfejpnkcjbaa.SortE
open Sl Ab Go.Sort
section
variable {α : Type} [Inhabited α] {e : Enc α 15} {cmp : α → α → Int}
theorem pins_ok (c : CmpFn Try.prog e cmp) (d : Array α) (a b : Nat) (hab : a < b) (hb : b ≤ d.size) (hs : d.size ≤ 1000000000) : GCall Try.prog 74 [.os 1000, .fz (vI a), .fz (vI b), .fz c.fv] [(1000, .rows 64 15 (rw e d))] (Array α × Bool) (fun y => y = partialInsertionSort (ltOf cmp) d a b) (fun y => [(1000, .rows 64 15 (rw e y.1))]) (fun y => vB y.2) := by
  refine g_enter1 (ro := fun y : Array α × Bool => rw e y.1) Try.func74 rfl (fun h0 => ?_)
  simp only [argG]
  have hR : ∀ d : Array α, (rw e d).length = d.size := fun _ => rw_length
  have hw1 : IntKind.i64.wrap ((a : Int) + 1) = ((a + 1 : Nat) : Int) := wrap64_nat _ _ (by omega) (by omega)
  have hw2 : IntKind.i64.wrap ((b : Int) - (a : Int)) = ((b - a : Nat) : Int) := wrap64_nat _ _ (by omega) (by omega)
  have hz : ((0 : Nat) : Int) = 0 := rfl
  have hfin : ∀ y, partialIns (ltOf cmp) a b 5 (a + 1) d = y → y = partialInsertionSort (ltOf cmp) d a b := fun y h => by rw [← h]; rfl
  refine a_seq ?_
  refine a_reg [⟨some 8, none, .asg (.const (Value.bool false)), false⟩] kR kR ?_
  refine r_run ?_
  refine r_end [0, 1, 2, 3, 8, 9, 10, 11, 12, 16, 36, 41, 45, 65, 69, 84, 104, 109, 124] ?_
  refine a_seq ?_
  refine a_reg [⟨some 13, none, .mv (tm 1), false⟩, ⟨some 14, none, .bin .add 3 (tm 13) (ci 1) 3, false⟩, ⟨some 9, none, .asg (tm 14), false⟩] kR kR ?_
  refine r_run ?_
  refine r_end [0, 1, 2, 3, 8, 9, 10, 11, 12, 16, 36, 41, 45, 65, 69, 84, 104, 109, 124] ?_
  refine a_seq ?_
  refine a_seq ?_
  refine a_reg [⟨some 10, none, .asg (ci 0), false⟩] kR kR ?_
  refine r_run ?_
  refine r_end [0, 1, 2, 3, 8, 9, 10, 11, 12, 16, 36, 41, 45, 65, 69, 84, 104, 109, 124] ?_
  refine a_block ?_
  refine c_weak [0, 1, 2, 3, 9, 10] ?_
  refine a_loop (fun m T σ => ∃ (s t i : Nat) (d1 : Array α), m = s ∧ s + t = 5 ∧ a < i ∧ i ≤ b ∧ d1.size = d.size ∧ partialIns (ltOf cmp) a b s i d1 = partialIns (ltOf cmp) a b 5 (a + 1) d ∧ T = [(0, .os 1000), (1, .fz (vI a)), (2, .fz (vI b)), (3, .fz c.fv), (9, .fz (vI i)), (10, .fz (vI t))] ∧ σ = [(1000, .rows 64 15 (rw e d1))]) (5) (⟨5, 0, a + 1, d, rfl, rfl, by omega, by omega, rfl, rfl, rfl, rfl⟩) ?_
  rintro m T σ ⟨s, t, i, d1, hms, hst, hi1, hi2, hs1, heq, rfl, rfl⟩
  refine a_seq ?_
  refine a_seq ?_
  refine a_reg [⟨some 15, none, .mv (tm 10), false⟩, ⟨some 16, none, .bin .lss 3 (tm 15) (ci 5) 3, false⟩] kR kR ?_
  refine r_run ?_
  refine r_end [0, 1, 2, 3, 8, 9, 10, 11, 12, 16, 36, 41, 45, 65, 69, 84, 104, 109, 124] ?_
  refine c_cond (fun hb0 => ?_) (fun hb0 => ?_)
  · simp only [decide_eq_true_eq] at hb0
    have hwt : IntKind.i64.wrap ((t : Int) + 1) = ((t + 1 : Nat) : Int) := wrap64_nat _ _ (by omega) (by omega)
    obtain ⟨s, rfl⟩ : ∃ s', s = s' + 1 := ⟨s - 1, by omega⟩
    refine a_skip ?_
    refine a_seq ?_
    refine a_block ?_
    refine a_seq ?_
    refine a_block ?_
    refine c_weak [0, 1, 2, 3, 9, 10] ?_
    refine a_loop (fun m T σ => ∃ x : Nat, m = b - x ∧ i ≤ x ∧ x ≤ b ∧ scanSorted (ltOf cmp) d1 b x = scanSorted (ltOf cmp) d1 b i ∧ T = [(0, .os 1000), (1, .fz (vI a)), (2, .fz (vI b)), (3, .fz c.fv), (9, .fz (vI x)), (10, .fz (vI t))] ∧ σ = [(1000, .rows 64 15 (rw e d1))]) (b - i) (⟨i, rfl, by omega, by omega, rfl, rfl, rfl⟩) ?_
    rintro m T σ ⟨x, hmx, hx1, hx2, heq2, rfl, rfl⟩
    have hw3 : IntKind.i64.wrap ((x : Int) - 1) = ((x - 1 : Nat) : Int) := wrap64_nat _ _ (by omega) (by omega)
    refine a_seq ?_
    refine a_seq ?_
    refine a_regd [0, 1, 2, 3, 4, 5, 6, 7, 8, 9, 10, 11, 12, 13, 14, 15, 16, 17] [14] [⟨some 19, none, .mv (tm 9), true⟩, ⟨some 20, none, .mv (tm 2), true⟩, ⟨some 21, none, .bin .lss 3 (tm 19) (tm 20) 3, true⟩, ⟨some 22, none, .mv (tm 21), true⟩, ⟨some 23, some (22, true), .mv (tm 3), true⟩, ⟨some 24, some (22, true), .mv (tm 0), true⟩, ⟨some 25, some (22, true), .mv (tm 9), true⟩, ⟨some 26, some (22, true), .ix 71 (tm 24) (tm 25) 64 15, true⟩, ⟨some 27, some (22, true), .ldN 64 (tm 26) 15, true⟩, ⟨some 28, some (22, true), .mv (tm 0), true⟩, ⟨some 29, some (22, true), .mv (tm 9), true⟩, ⟨some 30, some (22, true), .bin .sub 3 (tm 29) (ci 1) 3, true⟩, ⟨some 31, some (22, true), .ix 71 (tm 28) (tm 30) 64 15, true⟩, ⟨some 32, some (22, true), .ldN 64 (tm 31) 15, true⟩, ⟨some 33, some (22, true), .callv (tm 23) [(tm 27), (tm 32)] [64, 64], false⟩, ⟨some 34, some (22, true), .bin .lss 3 (tm 33) (ci 0) 3, true⟩, ⟨some 35, some (22, true), .not 4 (tm 34), true⟩, ⟨some 36, none, .pick 22 (tm 35) (.const (Value.bool false)), true⟩] kR kR kR kR kR ?_
    refine r_runO ?_ ?_
    · (simp only [decide_eq_true_eq, Bool.and_eq_true]; omega)
    refine r_callgB (res := vI (cmp d1[x]! d1[x - 1]!)) ?_ ?_ (hc := c.ok)
    · exact fun hg => c.at (d := d1) x (x - 1) (by simp only [decide_eq_true_eq] at hg; omega) (by omega)
    refine r_run ?_
    refine r_end [0, 1, 2, 3, 8, 9, 10, 11, 12, 16, 36, 41, 45, 65, 69, 84, 104, 109, 124] ?_
    refine c_cond (fun hb1 => ?_) (fun hb1 => ?_)
    · simp only [Bool.and_eq_true, Bool.not_eq_true', decide_eq_true_eq, decide_eq_false_iff_not] at hb1
      have hw4 : IntKind.i64.wrap ((x : Int) + 1) = ((x + 1 : Nat) : Int) := wrap64_nat _ _ (by omega) (by omega)
      refine a_skip ?_
      refine a_block ?_
      refine a_reg [⟨some 37, none, .mv (tm 9), false⟩, ⟨some 38, none, .bin .add 3 (tm 37) (ci 1) 3, false⟩, ⟨some 9, none, .asg (tm 38), false⟩] kR kR ?_
      refine r_run ?_
      refine r_end [0, 1, 2, 3, 8, 9, 10, 11, 12, 16, 36, 41, 45, 65, 69, 84, 104, 109, 124] ?_
      refine a_nil ?_
      refine x_end ?_
      refine a_nil ?_
      refine x_weak [0, 1, 2, 3, 9, 10] ?_
      exact x_next (b - (x + 1)) (by omega) (⟨x + 1, rfl, by omega, by omega, (sorted_go (by omega) (by omega)).trans heq2, rfl, rfl⟩)
    · have hss : scanSorted (ltOf cmp) d1 b i = x := by rw [← heq2, sorted_stop (fun h => by simp at hb1; exact hb1 (by omega))]
      clear heq2 hb1 hmx
      refine a_exit ?_
      refine x_then ?_
      refine x_here ?_
      refine a_seq ?_
      refine a_seq ?_
      refine a_reg [⟨some 39, none, .mv (tm 9), false⟩, ⟨some 40, none, .mv (tm 2), false⟩, ⟨some 41, none, .bin .eql 3 (tm 39) (tm 40) 3, false⟩] kR kR ?_
      refine r_run ?_
      refine r_end [0, 1, 2, 3, 8, 9, 10, 11, 12, 16, 36, 41, 45, 65, 69, 84, 104, 109, 124] ?_
      refine c_cond (fun hb2 => ?_) (fun hb2 => ?_)
      · simp only [beq_iff_eq] at hb2
        refine a_seq ?_
        refine a_reg [⟨some 8, none, .asg (.const (Value.bool true)), false⟩] kR kR ?_
        refine r_run ?_
        refine r_end [0, 1, 2, 3, 8, 9, 10, 11, 12, 16, 36, 41, 45, 65, 69, 84, 104, 109, 124] ?_
        refine a_ret ?_
        refine y_retG1 (.tmp 8) (none) ((d1, true)) [1000] ?_ ?_ ?_
        · exact hfin _ (heq.symm.trans (pins_done hss (by omega)))
        · exact rfl
        · exact frep_of rfl
      · simp only [beq_eq_false_iff_ne, ne_eq] at hb2
        refine a_skip ?_
        refine a_seq ?_
        refine a_seq ?_
        refine a_reg [⟨some 42, none, .mv (tm 2), false⟩, ⟨some 43, none, .mv (tm 1), false⟩, ⟨some 44, none, .bin .sub 3 (tm 42) (tm 43) 3, false⟩, ⟨some 45, none, .bin .lss 3 (tm 44) (ci 50) 3, false⟩] kR kR ?_
        refine r_run ?_
        refine r_end [0, 1, 2, 3, 8, 9, 10, 11, 12, 16, 36, 41, 45, 65, 69, 84, 104, 109, 124] ?_
        refine c_cond (fun hb3 => ?_) (fun hb3 => ?_)
        · simp only [decide_eq_true_eq] at hb3
          refine a_seq ?_
          refine a_reg [⟨some 8, none, .asg (.const (Value.bool false)), false⟩] kR kR ?_
          refine r_run ?_
          refine r_end [0, 1, 2, 3, 8, 9, 10, 11, 12, 16, 36, 41, 45, 65, 69, 84, 104, 109, 124] ?_
          refine a_ret ?_
          refine y_retG1 (.tmp 8) (none) ((d1, false)) [1000] ?_ ?_ ?_
          · exact hfin _ (heq.symm.trans (pins_short hss (by omega) (by omega)))
          · exact rfl
          · exact frep_of rfl
        · simp only [decide_eq_false_iff_not] at hb3
          refine a_skip ?_
          refine a_seq ?_
          refine a_regd [0, 1, 2, 3, 4, 5, 6, 7, 8, 9, 10, 11, 12, 13, 14, 15, 16, 17] [15, 17] [⟨some 46, none, .mv (tm 0), true⟩, ⟨some 47, none, .mv (tm 9), true⟩, ⟨some 48, none, .mv (tm 0), true⟩, ⟨some 49, none, .mv (tm 9), true⟩, ⟨some 50, none, .bin .sub 3 (tm 49) (ci 1) 3, true⟩, ⟨some 51, none, .mv (tm 0), true⟩, ⟨some 52, none, .mv (tm 9), true⟩, ⟨some 53, none, .bin .sub 3 (tm 52) (ci 1) 3, true⟩, ⟨some 54, none, .ix 71 (tm 51) (tm 53) 64 15, true⟩, ⟨some 55, none, .ldN 64 (tm 54) 15, true⟩, ⟨some 56, none, .mv (tm 0), true⟩, ⟨some 57, none, .mv (tm 9), true⟩, ⟨some 58, none, .ix 71 (tm 56) (tm 57) 64 15, true⟩, ⟨some 59, none, .ldN 64 (tm 58) 15, true⟩, ⟨some 60, none, .ix 71 (tm 46) (tm 47) 64 15, true⟩, ⟨none, none, .stN 64 (tm 60) (tm 55) 15, false⟩, ⟨some 61, none, .ix 71 (tm 48) (tm 50) 64 15, true⟩, ⟨none, none, .stN 64 (tm 61) (tm 59) 15, false⟩] kR kR kR kR kR ?_
          refine r_runO ?_ ?_
          · (repeat' (first | exact rw_len (by omega) | exact rw_one (by omega) | refine ⟨?_, ?_⟩ | omega | trivial | (simp only [List.length_set, rw_length]; omega)))
          refine r_end [0, 1, 2, 3, 8, 9, 10, 11, 12, 16, 36, 41, 45, 65, 69, 84, 104, 109, 124] ?_
          have hsw := rw_swp (e := e) (d := d1) (i := x) (j := x - 1) (by omega) (by omega)
          obtain ⟨d2, hd2⟩ : ∃ d2, swp d1 x (x - 1) = d2 := ⟨_, rfl⟩
          have hs2 : d2.size = d.size := by rw [← hd2]; exact (size_swp _ _ _).trans hs1
          rw [hd2] at hsw
          have hw5 : IntKind.i64.wrap ((x : Int) - (a : Int)) = ((x - a : Nat) : Int) := wrap64_nat _ _ (by omega) (by omega)
          have hw6 : IntKind.i64.wrap ((b : Int) - (x : Int)) = ((b - x : Nat) : Int) := wrap64_nat _ _ (by omega) (by omega)
          have hw7 : IntKind.i64.wrap ((x : Int) + 1) = ((x + 1 : Nat) : Int) := wrap64_nat _ _ (by omega) (by omega)
          refine a_seq ?_
          refine a_seq ?_
          refine a_reg [⟨some 62, none, .mv (tm 9), false⟩, ⟨some 63, none, .mv (tm 1), false⟩, ⟨some 64, none, .bin .sub 3 (tm 62) (tm 63) 3, false⟩, ⟨some 65, none, .bin .geq 3 (tm 64) (ci 2) 3, false⟩] kR kR ?_
          refine r_run ?_
          refine r_end [0, 1, 2, 3, 8, 9, 10, 11, 12, 16, 36, 41, 45, 65, 69, 84, 104, 109, 124] ?_
          refine a_join (fun T σ => ∃ d3 : Array α, d3.size = d.size ∧ (if x - a ≥ 2 then shiftDown (ltOf cmp) (x - 1) d2 else d2) = d3 ∧ T = [(0, .os 1000), (1, .fz (vI a)), (2, .fz (vI b)), (3, .fz c.fv), (9, .fz (vI x)), (10, .fz (vI t))] ∧ σ = [(1000, .rows 64 15 (rw e d3))]) ?_ ?_
          · refine c_cond (fun hb4 => ?_) (fun hb4 => ?_)
            · simp only [decide_eq_true_eq] at hb4
              refine a_seq ?_
              refine a_reg [⟨some 66, none, .mv (tm 9), false⟩, ⟨some 67, none, .bin .sub 3 (tm 66) (ci 1) 3, false⟩, ⟨some 11, none, .asg (tm 67), false⟩] kR kR ?_
              refine r_run ?_
              refine r_end [0, 1, 2, 3, 8, 9, 10, 11, 12, 16, 36, 41, 45, 65, 69, 84, 104, 109, 124] ?_
              refine a_block ?_
              refine c_weak [0, 1, 2, 3, 9, 10, 11] ?_
              refine a_loop (fun m T σ => ∃ (j : Nat) (d3 : Array α), m = j ∧ j < x ∧ d3.size = d.size ∧ shiftDown (ltOf cmp) j d3 = shiftDown (ltOf cmp) (x - 1) d2 ∧ T = [(0, .os 1000), (1, .fz (vI a)), (2, .fz (vI b)), (3, .fz c.fv), (9, .fz (vI x)), (10, .fz (vI t)), (11, .fz (vI j))] ∧ σ = [(1000, .rows 64 15 (rw e d3))]) (x - 1) (⟨x - 1, d2, rfl, by omega, hs2, rfl, rfl, rfl⟩) ?_
              rintro m T σ ⟨j, d3, hmj, hj, hs3, heq3, rfl, rfl⟩
              refine a_seq ?_
              refine a_seq ?_
              refine a_reg [⟨some 68, none, .mv (tm 11), false⟩, ⟨some 69, none, .bin .geq 3 (tm 68) (ci 1) 3, false⟩] kR kR ?_
              refine r_run ?_
              refine r_end [0, 1, 2, 3, 8, 9, 10, 11, 12, 16, 36, 41, 45, 65, 69, 84, 104, 109, 124] ?_
              refine c_cond (fun hb5 => ?_) (fun hb5 => ?_)
              · simp only [decide_eq_true_eq] at hb5
                have hw8 : IntKind.i64.wrap ((j : Int) - 1) = ((j - 1 : Nat) : Int) := wrap64_nat _ _ (by omega) (by omega)
                refine a_skip ?_
                refine a_seq ?_
                refine a_block ?_
                refine a_seq ?_
                refine a_seq ?_
                refine a_regd [0, 1, 2, 3, 4, 5, 6, 7, 8, 9, 10, 11, 12] [10] [⟨some 72, none, .mv (tm 3), true⟩, ⟨some 73, none, .mv (tm 0), true⟩, ⟨some 74, none, .mv (tm 11), true⟩, ⟨some 75, none, .ix 71 (tm 73) (tm 74) 64 15, true⟩, ⟨some 76, none, .ldN 64 (tm 75) 15, true⟩, ⟨some 77, none, .mv (tm 0), true⟩, ⟨some 78, none, .mv (tm 11), true⟩, ⟨some 79, none, .bin .sub 3 (tm 78) (ci 1) 3, true⟩, ⟨some 80, none, .ix 71 (tm 77) (tm 79) 64 15, true⟩, ⟨some 81, none, .ldN 64 (tm 80) 15, true⟩, ⟨some 82, none, .callv (tm 72) [(tm 76), (tm 81)] [64, 64], false⟩, ⟨some 83, none, .bin .lss 3 (tm 82) (ci 0) 3, true⟩, ⟨some 84, none, .not 4 (tm 83), true⟩] kR kR kR kR kR ?_
                refine r_run ?_
                refine r_call (c.at (d := d3) j (j - 1) (by omega) (by omega)) (hc := c.ok) ?_
                refine r_run ?_
                refine r_end [0, 1, 2, 3, 8, 9, 10, 11, 12, 16, 36, 41, 45, 65, 69, 84, 104, 109, 124] ?_
                refine c_cond (fun hb6 => ?_) (fun hb6 => ?_)
                · simp only [Bool.not_eq_true', decide_eq_false_iff_not] at hb6
                  have hstp : 1 ≤ j → 0 ≤ cmp d3[j]! d3[j - 1]! := fun h => by omega
                  refine a_exit ?_
                  refine x_up (by decide) ?_
                  refine x_then ?_
                  refine x_here ?_
                  refine a_nil ?_
                  refine x_weak [0, 1, 2, 3, 9, 10] ?_
                  exact x_join (⟨d3, hs3, by rw [if_pos (by omega), ← heq3, down_stop hstp], rfl, rfl⟩)
                · simp only [Bool.not_eq_false', decide_eq_true_eq] at hb6
                  refine a_skip ?_
                  refine a_regd [0, 1, 2, 3, 4, 5, 6, 7, 8, 9, 10, 11, 12, 13, 14, 15, 16, 17] [15, 17] [⟨some 85, none, .mv (tm 0), true⟩, ⟨some 86, none, .mv (tm 11), true⟩, ⟨some 87, none, .mv (tm 0), true⟩, ⟨some 88, none, .mv (tm 11), true⟩, ⟨some 89, none, .bin .sub 3 (tm 88) (ci 1) 3, true⟩, ⟨some 90, none, .mv (tm 0), true⟩, ⟨some 91, none, .mv (tm 11), true⟩, ⟨some 92, none, .bin .sub 3 (tm 91) (ci 1) 3, true⟩, ⟨some 93, none, .ix 71 (tm 90) (tm 92) 64 15, true⟩, ⟨some 94, none, .ldN 64 (tm 93) 15, true⟩, ⟨some 95, none, .mv (tm 0), true⟩, ⟨some 96, none, .mv (tm 11), true⟩, ⟨some 97, none, .ix 71 (tm 95) (tm 96) 64 15, true⟩, ⟨some 98, none, .ldN 64 (tm 97) 15, true⟩, ⟨some 99, none, .ix 71 (tm 85) (tm 86) 64 15, true⟩, ⟨none, none, .stN 64 (tm 99) (tm 94) 15, false⟩, ⟨some 100, none, .ix 71 (tm 87) (tm 89) 64 15, true⟩, ⟨none, none, .stN 64 (tm 100) (tm 98) 15, false⟩] kR kR kR kR kR ?_
                  refine r_runO ?_ ?_
                  · (repeat' (first | exact rw_len (by omega) | exact rw_one (by omega) | refine ⟨?_, ?_⟩ | omega | trivial | (simp only [List.length_set, rw_length]; omega)))
                  refine r_end [0, 1, 2, 3, 8, 9, 10, 11, 12, 16, 36, 41, 45, 65, 69, 84, 104, 109, 124] ?_
                  have hsw3 := rw_swp (e := e) (d := d3) (i := j) (j := j - 1) (by omega) (by omega)
                  refine a_nil ?_
                  refine x_end ?_
                  refine a_reg [⟨some 70, none, .mv (tm 11), false⟩, ⟨some 71, none, .bin .sub 3 (tm 70) (ci 1) 3, false⟩, ⟨some 11, none, .asg (tm 71), false⟩] kR kR ?_
                  refine r_run ?_
                  refine r_end [0, 1, 2, 3, 8, 9, 10, 11, 12, 16, 36, 41, 45, 65, 69, 84, 104, 109, 124] ?_
                  refine a_nil ?_
                  refine x_weak [0, 1, 2, 3, 9, 10, 11] ?_
                  exact x_next (j - 1) (by omega) (⟨j - 1, swp d3 j (j - 1), rfl, by omega, (size_swp _ _ _).trans hs3, (down_go (by omega) hb6).trans heq3, rfl, rfl⟩)
              · simp only [decide_eq_false_iff_not] at hb5
                have hstp : 1 ≤ j → 0 ≤ cmp d3[j]! d3[j - 1]! := fun h => by omega
                refine a_exit ?_
                refine x_then ?_
                refine x_here ?_
                refine a_nil ?_
                refine x_weak [0, 1, 2, 3, 9, 10] ?_
                exact x_join (⟨d3, hs3, by rw [if_pos (by omega), ← heq3, down_stop hstp], rfl, rfl⟩)
            · simp only [decide_eq_false_iff_not] at hb4
              refine a_skip ?_
              refine a_nil ?_
              refine x_weak [0, 1, 2, 3, 9, 10] ?_
              exact x_join (⟨d2, hs2, if_neg (by omega), rfl, rfl⟩)
          · rintro T σ ⟨d3, hs3, hd3, rfl, rfl⟩
            refine a_seq ?_
            refine a_reg [⟨some 101, none, .mv (tm 2), false⟩, ⟨some 102, none, .mv (tm 9), false⟩, ⟨some 103, none, .bin .sub 3 (tm 101) (tm 102) 3, false⟩, ⟨some 104, none, .bin .geq 3 (tm 103) (ci 2) 3, false⟩] kR kR ?_
            refine r_run ?_
            refine r_end [0, 1, 2, 3, 8, 9, 10, 11, 12, 16, 36, 41, 45, 65, 69, 84, 104, 109, 124] ?_
            refine a_join (fun T σ => ∃ d4 : Array α, d4.size = d.size ∧ (if b - x ≥ 2 then shiftUp (ltOf cmp) b (x + 1) d3 else d3) = d4 ∧ T = [(0, .os 1000), (1, .fz (vI a)), (2, .fz (vI b)), (3, .fz c.fv), (9, .fz (vI x)), (10, .fz (vI t))] ∧ σ = [(1000, .rows 64 15 (rw e d4))]) ?_ ?_
            · refine c_cond (fun hb7 => ?_) (fun hb7 => ?_)
              · simp only [decide_eq_true_eq] at hb7
                refine a_seq ?_
                refine a_reg [⟨some 105, none, .mv (tm 9), false⟩, ⟨some 106, none, .bin .add 3 (tm 105) (ci 1) 3, false⟩, ⟨some 12, none, .asg (tm 106), false⟩] kR kR ?_
                refine r_run ?_
                refine r_end [0, 1, 2, 3, 8, 9, 10, 11, 12, 16, 36, 41, 45, 65, 69, 84, 104, 109, 124] ?_
                refine a_block ?_
                refine c_weak [0, 1, 2, 3, 9, 10, 12] ?_
                refine a_loop (fun m T σ => ∃ (j : Nat) (d4 : Array α), m = b - j ∧ x < j ∧ j ≤ b ∧ d4.size = d.size ∧ shiftUp (ltOf cmp) b j d4 = shiftUp (ltOf cmp) b (x + 1) d3 ∧ T = [(0, .os 1000), (1, .fz (vI a)), (2, .fz (vI b)), (3, .fz c.fv), (9, .fz (vI x)), (10, .fz (vI t)), (12, .fz (vI j))] ∧ σ = [(1000, .rows 64 15 (rw e d4))]) (b - (x + 1)) (⟨x + 1, d3, rfl, by omega, by omega, hs3, rfl, rfl, rfl⟩) ?_
                rintro m T σ ⟨j, d4, hmj, hj, hj2, hs4, heq4, rfl, rfl⟩
                refine a_seq ?_
                refine a_seq ?_
                refine a_reg [⟨some 107, none, .mv (tm 12), false⟩, ⟨some 108, none, .mv (tm 2), false⟩, ⟨some 109, none, .bin .lss 3 (tm 107) (tm 108) 3, false⟩] kR kR ?_
                refine r_run ?_
                refine r_end [0, 1, 2, 3, 8, 9, 10, 11, 12, 16, 36, 41, 45, 65, 69, 84, 104, 109, 124] ?_
                refine c_cond (fun hb8 => ?_) (fun hb8 => ?_)
                · simp only [decide_eq_true_eq] at hb8
                  have hw8 : IntKind.i64.wrap ((j : Int) - 1) = ((j - 1 : Nat) : Int) := wrap64_nat _ _ (by omega) (by omega)
                  have hw9 : IntKind.i64.wrap ((j : Int) + 1) = ((j + 1 : Nat) : Int) := wrap64_nat _ _ (by omega) (by omega)
                  refine a_skip ?_
                  refine a_seq ?_
                  refine a_block ?_
                  refine a_seq ?_
                  refine a_seq ?_
                  refine a_regd [0, 1, 2, 3, 4, 5, 6, 7, 8, 9, 10, 11, 12] [10] [⟨some 112, none, .mv (tm 3), true⟩, ⟨some 113, none, .mv (tm 0), true⟩, ⟨some 114, none, .mv (tm 12), true⟩, ⟨some 115, none, .ix 71 (tm 113) (tm 114) 64 15, true⟩, ⟨some 116, none, .ldN 64 (tm 115) 15, true⟩, ⟨some 117, none, .mv (tm 0), true⟩, ⟨some 118, none, .mv (tm 12), true⟩, ⟨some 119, none, .bin .sub 3 (tm 118) (ci 1) 3, true⟩, ⟨some 120, none, .ix 71 (tm 117) (tm 119) 64 15, true⟩, ⟨some 121, none, .ldN 64 (tm 120) 15, true⟩, ⟨some 122, none, .callv (tm 112) [(tm 116), (tm 121)] [64, 64], false⟩, ⟨some 123, none, .bin .lss 3 (tm 122) (ci 0) 3, true⟩, ⟨some 124, none, .not 4 (tm 123), true⟩] kR kR kR kR kR ?_
                  refine r_run ?_
                  refine r_call (c.at (d := d4) j (j - 1) (by omega) (by omega)) (hc := c.ok) ?_
                  refine r_run ?_
                  refine r_end [0, 1, 2, 3, 8, 9, 10, 11, 12, 16, 36, 41, 45, 65, 69, 84, 104, 109, 124] ?_
                  refine c_cond (fun hb9 => ?_) (fun hb9 => ?_)
                  · simp only [Bool.not_eq_true', decide_eq_false_iff_not] at hb9
                    have hstp : j < b → 0 ≤ cmp d4[j]! d4[j - 1]! := fun h => by omega
                    refine a_exit ?_
                    refine x_up (by decide) ?_
                    refine x_then ?_
                    refine x_here ?_
                    refine a_nil ?_
                    refine x_weak [0, 1, 2, 3, 9, 10] ?_
                    exact x_join (⟨d4, hs4, by rw [if_pos (by omega), ← heq4, up_stop hstp], rfl, rfl⟩)
                  · simp only [Bool.not_eq_false', decide_eq_true_eq] at hb9
                    refine a_skip ?_
                    refine a_regd [0, 1, 2, 3, 4, 5, 6, 7, 8, 9, 10, 11, 12, 13, 14, 15, 16, 17] [15, 17] [⟨some 125, none, .mv (tm 0), true⟩, ⟨some 126, none, .mv (tm 12), true⟩, ⟨some 127, none, .mv (tm 0), true⟩, ⟨some 128, none, .mv (tm 12), true⟩, ⟨some 129, none, .bin .sub 3 (tm 128) (ci 1) 3, true⟩, ⟨some 130, none, .mv (tm 0), true⟩, ⟨some 131, none, .mv (tm 12), true⟩, ⟨some 132, none, .bin .sub 3 (tm 131) (ci 1) 3, true⟩, ⟨some 133, none, .ix 71 (tm 130) (tm 132) 64 15, true⟩, ⟨some 134, none, .ldN 64 (tm 133) 15, true⟩, ⟨some 135, none, .mv (tm 0), true⟩, ⟨some 136, none, .mv (tm 12), true⟩, ⟨some 137, none, .ix 71 (tm 135) (tm 136) 64 15, true⟩, ⟨some 138, none, .ldN 64 (tm 137) 15, true⟩, ⟨some 139, none, .ix 71 (tm 125) (tm 126) 64 15, true⟩, ⟨none, none, .stN 64 (tm 139) (tm 134) 15, false⟩, ⟨some 140, none, .ix 71 (tm 127) (tm 129) 64 15, true⟩, ⟨none, none, .stN 64 (tm 140) (tm 138) 15, false⟩] kR kR kR kR kR ?_
                    refine r_runO ?_ ?_
                    · (repeat' (first | exact rw_len (by omega) | exact rw_one (by omega) | refine ⟨?_, ?_⟩ | omega | trivial | (simp only [List.length_set, rw_length]; omega)))
                    refine r_end [0, 1, 2, 3, 8, 9, 10, 11, 12, 16, 36, 41, 45, 65, 69, 84, 104, 109, 124] ?_
                    have hsw3 := rw_swp (e := e) (d := d4) (i := j) (j := j - 1) (by omega) (by omega)
                    refine a_nil ?_
                    refine x_end ?_
                    refine a_reg [⟨some 110, none, .mv (tm 12), false⟩, ⟨some 111, none, .bin .add 3 (tm 110) (ci 1) 3, false⟩, ⟨some 12, none, .asg (tm 111), false⟩] kR kR ?_
                    refine r_run ?_
                    refine r_end [0, 1, 2, 3, 8, 9, 10, 11, 12, 16, 36, 41, 45, 65, 69, 84, 104, 109, 124] ?_
                    refine a_nil ?_
                    refine x_weak [0, 1, 2, 3, 9, 10, 12] ?_
                    exact x_next (b - (j + 1)) (by omega) (⟨j + 1, swp d4 j (j - 1), rfl, by omega, by omega, (size_swp _ _ _).trans hs4, (up_go (by omega) hb9).trans heq4, rfl, rfl⟩)
                · simp only [decide_eq_false_iff_not] at hb8
                  have hstp : j < b → 0 ≤ cmp d4[j]! d4[j - 1]! := fun h => by omega
                  refine a_exit ?_
                  refine x_then ?_
                  refine x_here ?_
                  refine a_nil ?_
                  refine x_weak [0, 1, 2, 3, 9, 10] ?_
                  exact x_join (⟨d4, hs4, by rw [if_pos (by omega), ← heq4, up_stop hstp], rfl, rfl⟩)
              · simp only [decide_eq_false_iff_not] at hb7
                refine a_skip ?_
                refine a_nil ?_
                refine x_weak [0, 1, 2, 3, 9, 10] ?_
                exact x_join (⟨d3, hs3, if_neg (by omega), rfl, rfl⟩)
            · rintro T σ ⟨d4, hs4, hd4, rfl, rfl⟩
              refine a_nil ?_
              refine x_end ?_
              refine a_reg [⟨some 17, none, .mv (tm 10), false⟩, ⟨some 18, none, .bin .add 3 (tm 17) (ci 1) 3, false⟩, ⟨some 10, none, .asg (tm 18), false⟩] kR kR ?_
              refine r_run ?_
              refine r_end [0, 1, 2, 3, 8, 9, 10, 11, 12, 16, 36, 41, 45, 65, 69, 84, 104, 109, 124] ?_
              refine a_nil ?_
              refine x_weak [0, 1, 2, 3, 9, 10] ?_
              exact x_next (s) (by omega) (⟨s, t + 1, x, d4, rfl, by omega, by omega, by omega, hs4, (pins_go hss (by omega) (by omega) hd2 hd3 hd4).symm.trans heq, rfl, rfl⟩)
  · simp only [decide_eq_false_iff_not] at hb0
    refine a_exit ?_
    refine x_then ?_
    refine x_here ?_
    refine a_seq ?_
    refine a_reg [⟨some 8, none, .asg (.const (Value.bool false)), false⟩] kR kR ?_
    refine r_run ?_
    refine r_end [0, 1, 2, 3, 8, 9, 10, 11, 12, 16, 36, 41, 45, 65, 69, 84, 104, 109, 124] ?_
    refine a_ret ?_
    refine y_retG1 (.tmp 8) (none) ((d1, false)) [1000] ?_ ?_ ?_
    · exact hfin _ (heq.symm.trans (by rw [(by omega : s = 0)]; rfl))
    · exact rfl
    · exact frep_of rfl
end
end Go.Proofs.Ytielfejpnkcjbaa.SortE

/- How many bits a number has. -/
set_option linter.unusedVariables false
set_option linter.unusedSimpArgs false
namespace Go.Proofs.Ytielfejpnkcjbaa
open Sl Ab Go.Sort
theorem bitsLen_shift {x k : Nat} (h : 2 ^ k ≤ x) : bitsLen x = k + bitsLen (x / 2 ^ k) := by
  have e1 : k ≤ bitsLen x := by
    rcases Nat.lt_or_ge (bitsLen x) k with h1 | h1
    · have h2 := (bitsLen_le_iff x (k - 1)).1 (by omega)
      have h3 : 2 ^ (k - 1) ≤ 2 ^ k := Nat.pow_le_pow_right (by omega) (by omega)
      omega
    · exact h1
  have h2 := lt_two_pow_bitsLen x
  have h3 := lt_two_pow_bitsLen (x / 2 ^ k)
  apply Nat.le_antisymm
  · rw [bitsLen_le_iff, Nat.pow_add]
    rw [Nat.mul_comm]; exact (Nat.div_lt_iff_lt_mul (Nat.two_pow_pos k)).1 h3
  · have : bitsLen (x / 2 ^ k) ≤ bitsLen x - k := by
      rw [bitsLen_le_iff, Nat.div_lt_iff_lt_mul (Nat.two_pow_pos k), ← Nat.pow_add, Nat.sub_add_cancel e1]
      exact h2
    omega
def len8 : ByteArray := ⟨((List.range 256).map fun n => UInt8.ofNat (bitsLen n)).toArray⟩
theorem len8_at {s : ByteArray} (hs : s = len8) {j : Nat} (h : j < 256) : s[j]? = some (UInt8.ofNat (bitsLen j)) := by
  subst hs
  show len8.data[j]? = _
  simp [len8, h]
theorem bitsLen_le8 {j : Nat} (h : j < 256) : bitsLen j ≤ 8 := (bitsLen_le_iff j 8).2 h
theorem len8_toNat {j : Nat} (h : j < 256) : (UInt8.ofNat (bitsLen j)).toNat = bitsLen j := by
  have := bitsLen_le8 h
  rw [UInt8.toNat_ofNat']; omega
abbrev vQ (n : Int) : FV := .val (.int .u64 n)
theorem wrapU64 (n : Nat) (h : n < 18446744073709551616) : IntKind.u64.wrap (n : Int) = (n : Int) := by
  simp [IntKind.wrap, IntKind.bits, IntKind.signed]; omega
theorem wrapU8 (n : Nat) (h : n < 256) : IntKind.u8.wrap (n : Int) = (n : Int) := by
  simp [IntKind.wrap, IntKind.bits, IntKind.signed]; omega
theorem len64_ok (x : Nat) (hx : x < 4294967296) : PureCall Try.prog 78 [vQ x] (vI (bitsLen x)) := by
  refine p_enter Try.func78 rfl (fun h0 => ?_)
  simp only [argT]
  have h16 : (x : Int).fdiv (2 ^ min (16 : Int).toNat IntKind.u64.bits) = ((x / 65536 : Nat) : Int) := by rw [Int.fdiv_eq_ediv_of_nonneg _ (by decide)]; rfl
  refine a_seq ?_
  refine a_reg [⟨some 2, none, .asg (ci 0), false⟩] kR kR ?_
  refine r_run ?_
  refine r_end [0, 2, 4, 8, 14] ?_
  refine a_seq ?_
  refine a_seq ?_
  have hlt : ¬ ((x : Int) ≥ 4294967296) := by omega
  have hz : ((0 : Nat) : Int) = 0 := rfl
  refine a_reg [⟨some 3, none, .mv (tm 0), false⟩, ⟨some 4, none, .bin .geq 135 (tm 3) (.const (Value.int IntKind.u64 4294967296)) 135, false⟩] kR kR ?_
  refine r_run ?_
  refine r_end [0, 2, 4, 8, 14] ?_
  refine c_false ?_
  refine a_skip ?_
  refine a_seq ?_
  refine a_seq ?_
  refine a_reg [⟨some 7, none, .mv (tm 0), false⟩, ⟨some 8, none, .bin .geq 135 (tm 7) (.const (Value.int IntKind.u64 65536)) 135, false⟩] kR kR ?_
  refine r_run ?_
  refine r_end [0, 2, 4, 8, 14] ?_
  refine a_join (fun T σ => ∃ y n : Nat, y < 65536 ∧ n ≤ 16 ∧ n + bitsLen y = bitsLen x ∧ T = [(0, .fz (vQ y)), (2, .fz (vI n))] ∧ σ = []) ?_ ?_
  · refine c_cond (fun hb1 => ?_) (fun hb1 => ?_)
    · simp only [decide_eq_true_eq] at hb1
      have hw1 : IntKind.u64.wrap ((x / 65536 : Nat) : Int) = ((x / 65536 : Nat) : Int) := wrapU64 _ (by omega)
      have hw2 : IntKind.i64.wrap ((0 : Int) + 16) = ((16 : Nat) : Int) := rfl
      refine a_seq ?_
      refine a_reg [⟨some 9, none, .mv (tm 0), false⟩, ⟨some 10, none, .bin .shr 135 (tm 9) (.const (Value.int IntKind.u64 16)) 41, false⟩, ⟨some 0, none, .asg (tm 10), false⟩] kR kR ?_
      refine r_run ?_
      refine r_end [0, 2, 4, 8, 14] ?_
      refine a_reg [⟨some 11, none, .mv (tm 2), false⟩, ⟨some 12, none, .bin .add 3 (tm 11) (ci 16) 3, false⟩, ⟨some 2, none, .asg (tm 12), false⟩] kR kR ?_
      refine r_run ?_
      refine r_end [0, 2, 4, 8, 14] ?_
      refine a_nil ?_
      refine x_weak [0, 2] ?_
      exact x_join (⟨x / 65536, 16, by omega, by omega, (bitsLen_shift (k := 16) (by omega)).symm, rfl, rfl⟩)
    · simp only [decide_eq_false_iff_not] at hb1
      refine a_skip ?_
      refine a_nil ?_
      refine x_weak [0, 2] ?_
      exact x_join (⟨x, 0, by omega, by omega, by omega, rfl, rfl⟩)
  · rintro T σ ⟨y, n, hy, hn, hb, rfl, rfl⟩
    refine a_seq ?_
    refine a_seq ?_
    refine a_reg [⟨some 13, none, .mv (tm 0), false⟩, ⟨some 14, none, .bin .geq 135 (tm 13) (.const (Value.int IntKind.u64 256)) 135, false⟩] kR kR ?_
    refine r_run ?_
    refine r_end [0, 2, 4, 8, 14] ?_
    refine a_join (fun T σ => ∃ z p : Nat, z < 256 ∧ p ≤ 24 ∧ p + bitsLen z = bitsLen x ∧ T = [(0, .fz (vQ z)), (2, .fz (vI p))] ∧ σ = []) ?_ ?_
    · refine c_cond (fun hb2 => ?_) (fun hb2 => ?_)
      · simp only [decide_eq_true_eq] at hb2
        have h8 : (y : Int).fdiv (2 ^ min (8 : Int).toNat IntKind.u64.bits) = ((y / 256 : Nat) : Int) := by rw [Int.fdiv_eq_ediv_of_nonneg _ (by decide)]; rfl
        have hw1 : IntKind.u64.wrap ((y / 256 : Nat) : Int) = ((y / 256 : Nat) : Int) := wrapU64 _ (by omega)
        have hw2 : IntKind.i64.wrap ((n : Int) + 8) = ((n + 8 : Nat) : Int) := wrap64_nat _ _ (by omega) (by omega)
        refine a_seq ?_
        refine a_reg [⟨some 15, none, .mv (tm 0), false⟩, ⟨some 16, none, .bin .shr 135 (tm 15) (.const (Value.int IntKind.u64 8)) 41, false⟩, ⟨some 0, none, .asg (tm 16), false⟩] kR kR ?_
        refine r_run ?_
        refine r_end [0, 2, 4, 8, 14] ?_
        refine a_reg [⟨some 17, none, .mv (tm 2), false⟩, ⟨some 18, none, .bin .add 3 (tm 17) (ci 8) 3, false⟩, ⟨some 2, none, .asg (tm 18), false⟩] kR kR ?_
        refine r_run ?_
        refine r_end [0, 2, 4, 8, 14] ?_
        refine a_nil ?_
        refine x_weak [0, 2] ?_
        exact x_join (⟨y / 256, n + 8, by omega, by omega, by rw [← hb, bitsLen_shift (x := y) (k := 8) (by omega), Nat.add_assoc], rfl, rfl⟩)
      · simp only [decide_eq_false_iff_not] at hb2
        refine a_skip ?_
        refine a_nil ?_
        refine x_weak [0, 2] ?_
        exact x_join (⟨y, n, by omega, by omega, hb, rfl, rfl⟩)
    · rintro T σ ⟨z, p, hz1, hp, hbz, rfl, rfl⟩
      refine a_seq ?_
      have hw1 : IntKind.u8.wrap (z : Int) = (z : Int) := wrapU8 _ (by omega)
      have hl8 := bitsLen_le8 hz1
      have hw2 : IntKind.i64.wrap (bitsLen z : Int) = (bitsLen z : Int) := wrap64_nat _ _ (by omega) (by omega)
      have hw3 : IntKind.i64.wrap ((p : Int) + (bitsLen z : Int)) = (bitsLen x : Int) := wrap64_nat _ _ (by omega) (by omega)
      refine a_reg [⟨some 19, none, .mv (tm 2), false⟩, ⟨some 20, none, .mv (tm 0), false⟩, ⟨some 21, none, .conv 135 5 (tm 20) .u8, false⟩, ⟨some 22, none, .other (Op.index 9 (Operand.const (Value.string len8)) (Operand.tmp 21)), false⟩, ⟨some 23, none, .conv 5 3 (tm 22) .i64, false⟩, ⟨some 24, none, .bin .add 3 (tm 19) (tm 23) 3, false⟩, ⟨some 2, none, .asg (tm 24), false⟩] kR kR ?_
      refine r_run ?_
      refine r_ixs (j := z) (UInt8.ofNat (bitsLen z)) (len8_at rfl hz1) ?_ Try.underlying9
      rw [len8_toNat hz1]
      refine r_run ?_
      refine r_end [0, 2, 4, 8, 14] ?_
      refine a_ret ?_
      refine y_ret1 (.tmp 2) (none) ?_
      exact frep_of rfl
theorem blen_ok (x : Nat) (hx : x < 4294967296) : PureCall Try.prog 62 [vQ x] (vI (bitsLen x)) := by
  refine p_enter Try.func62 rfl (fun h0 => ?_)
  simp only [argT]
  refine a_seq ?_
  refine a_reg [⟨some 2, none, .asg (ci 0), false⟩] kR kR ?_
  refine r_run ?_
  refine r_end [0, 2] ?_
  refine a_seq ?_
  refine c_false ?_
  refine a_skip ?_
  refine a_seq ?_
  refine a_reg [⟨some 6, none, .mv (tm 0), false⟩, ⟨some 7, none, .call 78 [(tm 6)] [135], false⟩, ⟨some 2, none, .asg (tm 7), false⟩] kR kR ?_
  refine r_run ?_
  refine r_call (len64_ok x hx) ?_
  refine r_run ?_
  refine r_end [0, 2] ?_
  refine a_ret ?_
  refine y_ret1 (.tmp 2) (none) ?_
  exact frep_of rfl
theorem npot_ok (x : Nat) (hx : x < 1000000001) : PureCall Try.prog 82 [vI x] (vQ (2 ^ bitsLen x : Nat)) := by
  have hle : bitsLen x ≤ 30 := (bitsLen_le_iff x 30).2 (by omega)
  have hle2 : 2 ^ bitsLen x ≤ 2 ^ 30 := Nat.pow_le_pow_right (by omega) hle
  have hw1 : IntKind.u64.wrap (x : Int) = (x : Int) := wrapU64 _ (by omega)
  have hw2 : IntKind.u64.wrap (1 * 2 ^ (min (bitsLen x) IntKind.u64.bits)) = ((2 ^ bitsLen x : Nat) : Int) := by
    rw [Nat.min_eq_left (by show _ ≤ 64; omega), Int.one_mul]
    have h1 : ((2 : Int) ^ bitsLen x) = ((2 ^ bitsLen x : Nat) : Int) := by simp
    rw [h1]; exact wrapU64 _ (by omega)
  refine p_enter Try.func82 rfl (fun h0 => ?_)
  simp only [argT]
  refine a_seq ?_
  refine a_reg [⟨some 2, none, .asg (.const (Value.int IntKind.u64 0)), false⟩] kR kR ?_
  refine r_run ?_
  refine r_end [0, 2] ?_
  refine a_seq ?_
  refine a_reg [⟨some 3, none, .mv (tm 0), false⟩, ⟨some 4, none, .conv 3 41 (tm 3) .u64, false⟩, ⟨some 5, none, .call 62 [(tm 4)] [41], false⟩, ⟨some 6, none, .bin .shl 41 (.const (Value.int IntKind.u64 1)) (tm 5) 3, false⟩, ⟨some 2, none, .asg (tm 6), false⟩] kR kR ?_
  refine r_run ?_
  refine r_call (blen_ok x (by omega)) ?_
  refine r_run ?_
  refine r_end [0, 2] ?_
  refine a_ret ?_
  refine y_ret1 (.tmp 2) (none) ?_
  exact frep_of rfl
end Go.Proofs.Ytielfejpnkcjbaa

/- The next number by chance: some number. -/
set_option linter.unusedVariables false
set_option linter.unusedSimpArgs false
namespace Go.Proofs.Ytielfejpnkcjbaa
open Sl Ab Go.Sort
def xs1 (r : Int) : Int := IntKind.u64.wrap ((BitVec.ofInt IntKind.u64.bits r ^^^ BitVec.ofInt IntKind.u64.bits (IntKind.u64.wrap (r * 2 ^ min (13 : Int).toNat IntKind.u64.bits))).toNat : Int)
def xs2 (r : Int) : Int := IntKind.u64.wrap ((BitVec.ofInt IntKind.u64.bits r ^^^ BitVec.ofInt IntKind.u64.bits (r.fdiv (2 ^ min (7 : Int).toNat IntKind.u64.bits))).toNat : Int)
def xs3 (r : Int) : Int := IntKind.u64.wrap ((BitVec.ofInt IntKind.u64.bits r ^^^ BitVec.ofInt IntKind.u64.bits (IntKind.u64.wrap (r * 2 ^ min (17 : Int).toNat IntKind.u64.bits))).toNat : Int)
theorem g_enterB {P : Program} {f : FuncId} {fn : Func} {c : Code} {args : List AV} {t : TypeId} {cs : List AV} {Y : Type} {Pr : Y → Prop} {ro : Y → List AV} {res : Y → FV} (hf : P.funcs[f]? = some fn) (hb : fn.body = some c)
    (k : ∀ h0, AC P fn.ntmps h0 [c] (retQ P fn (GR h0 h0.h [(1000, .box t cs)] Y Pr (fun y => [(1000, .box t (ro y))]) res)) (argG 0 args) [(1000, .box t cs)]) (hN : Nat.ble args.length fn.ntmps = true := by kernel_rfl) : GCall P f args [(1000, .box t cs)] Y Pr (fun y => [(1000, .box t (ro y))]) res := by
  refine g_enter hf hb (fun x hx => ?_) (fun y _ e he => ⟨_, List.mem_singleton.2 rfl, ?_, fun v b h => ?_⟩) (fun y _ e he => ⟨_, List.mem_singleton.2 rfl, ?_, fun v b h => ?_⟩) (fun _ _ => rfl) k hN
  · rw [List.mem_singleton.1 hx]; exact Nat.le_refl _
  · rw [List.mem_singleton.1 he]
  · rw [List.mem_singleton.1 he] at h; exact h
  · rw [List.mem_singleton.1 he]
  · rw [List.mem_singleton.1 he] at h; exact h
theorem next_ok (r : Int) : GCall Try.prog 83 [.oe 1000 1 0 0] [(1000, .box 138 [.fz (vQ r)])] Int (fun _ => True) (fun y => [(1000, .box 138 [.fz (vQ y)])]) (fun y => vQ y) := by
  refine g_enterB Try.func83 rfl (fun h0 => ?_)
  simp only [argG]
  have h1 : ∀ r : Int, IntKind.u64.wrap ((BitVec.ofInt IntKind.u64.bits r ^^^ BitVec.ofInt IntKind.u64.bits (IntKind.u64.wrap (r * 2 ^ min (13 : Int).toNat IntKind.u64.bits))).toNat : Int) = xs1 r := fun _ => rfl
  have h2 : ∀ r : Int, IntKind.u64.wrap ((BitVec.ofInt IntKind.u64.bits r ^^^ BitVec.ofInt IntKind.u64.bits (r.fdiv (2 ^ min (7 : Int).toNat IntKind.u64.bits))).toNat : Int) = xs2 r := fun _ => rfl
  have h3 : ∀ r : Int, IntKind.u64.wrap ((BitVec.ofInt IntKind.u64.bits r ^^^ BitVec.ofInt IntKind.u64.bits (IntKind.u64.wrap (r * 2 ^ min (17 : Int).toNat IntKind.u64.bits))).toNat : Int) = xs3 r := fun _ => rfl
  refine a_seq ?_
  refine a_reg [⟨some 2, none, .asg (.const (Value.int IntKind.u64 0)), false⟩] kR kR ?_
  refine r_run ?_
  refine r_end [0, 2] ?_
  refine a_seq ?_
  refine a_regd [0, 1, 2, 3, 4, 5, 6, 7, 8, 9] [9] [⟨some 3, none, .mv (tm 0), true⟩, ⟨some 4, none, .nilc (tm 3), true⟩, ⟨some 5, none, .ld 138 (tm 4), true⟩, ⟨some 6, none, .mv (tm 0), true⟩, ⟨some 7, none, .nilc (tm 6), true⟩, ⟨some 8, none, .ld 138 (tm 7), true⟩, ⟨some 9, none, .bin .shl 138 (tm 8) (.const (Value.int IntKind.u64 13)) 41, true⟩, ⟨some 10, none, .bin .xor 138 (tm 5) (tm 9) 138, true⟩, ⟨some 11, none, .nilc (tm 3), true⟩, ⟨none, none, .st 138 (tm 11) (tm 10), false⟩] kR kR kR kR kR ?_
  refine r_run ?_
  refine r_end [0, 2] ?_
  refine a_seq ?_
  refine a_regd [0, 1, 2, 3, 4, 5, 6, 7, 8, 9] [9] [⟨some 12, none, .mv (tm 0), true⟩, ⟨some 13, none, .nilc (tm 12), true⟩, ⟨some 14, none, .ld 138 (tm 13), true⟩, ⟨some 15, none, .mv (tm 0), true⟩, ⟨some 16, none, .nilc (tm 15), true⟩, ⟨some 17, none, .ld 138 (tm 16), true⟩, ⟨some 18, none, .bin .shr 138 (tm 17) (.const (Value.int IntKind.u64 7)) 41, true⟩, ⟨some 19, none, .bin .xor 138 (tm 14) (tm 18) 138, true⟩, ⟨some 20, none, .nilc (tm 12), true⟩, ⟨none, none, .st 138 (tm 20) (tm 19), false⟩] kR kR kR kR kR ?_
  refine r_run ?_
  refine r_end [0, 2] ?_
  refine a_seq ?_
  refine a_regd [0, 1, 2, 3, 4, 5, 6, 7, 8, 9] [9] [⟨some 21, none, .mv (tm 0), true⟩, ⟨some 22, none, .nilc (tm 21), true⟩, ⟨some 23, none, .ld 138 (tm 22), true⟩, ⟨some 24, none, .mv (tm 0), true⟩, ⟨some 25, none, .nilc (tm 24), true⟩, ⟨some 26, none, .ld 138 (tm 25), true⟩, ⟨some 27, none, .bin .shl 138 (tm 26) (.const (Value.int IntKind.u64 17)) 41, true⟩, ⟨some 28, none, .bin .xor 138 (tm 23) (tm 27) 138, true⟩, ⟨some 29, none, .nilc (tm 21), true⟩, ⟨none, none, .st 138 (tm 29) (tm 28), false⟩] kR kR kR kR kR ?_
  refine r_run ?_
  refine r_end [0, 2] ?_
  refine a_seq ?_
  refine a_reg [⟨some 30, none, .mv (tm 0), false⟩, ⟨some 31, none, .nilc (tm 30), false⟩, ⟨some 32, none, .ld 138 (tm 31), false⟩, ⟨some 2, none, .asg (tm 32), false⟩] kR kR ?_
  refine r_run ?_
  refine r_end [0, 2] ?_
  refine a_ret ?_
  refine y_retG1 (.tmp 2) (none) ((xs3 (xs2 (xs1 r)))) [1000] ?_ ?_ ?_
  · exact trivial
  · exact rfl
  · exact frep_of rfl
theorem and_lt (r : Int) (n k : Nat) (hn : n = 2 ^ k) (hk : k ≤ 62) : ∃ m : Nat, m < n ∧ IntKind.u64.wrap ((BitVec.ofInt IntKind.u64.bits r &&& BitVec.ofInt IntKind.u64.bits ((n - 1 : Nat) : Int)).toNat : Int) = (m : Int) := by
  have h62 : n ≤ 2 ^ 62 := by rw [hn]; exact Nat.pow_le_pow_right (by omega) hk
  have hpos : 0 < n := by rw [hn]; exact Nat.two_pow_pos k
  refine ⟨(BitVec.ofInt 64 r &&& BitVec.ofInt 64 ((n - 1 : Nat) : Int)).toNat, ?_, ?_⟩
  · have h1 : (BitVec.ofInt 64 ((n - 1 : Nat) : Int)).toNat = n - 1 := by
      simp [BitVec.toNat_ofInt]; omega
    rw [BitVec.toNat_and, h1]
    have := Nat.and_le_right (n := (BitVec.ofInt 64 r).toNat) (m := n - 1)
    omega
  · refine wrapU64 _ ?_
    exact (BitVec.ofInt 64 r &&& BitVec.ofInt 64 ((n - 1 : Nat) : Int)).isLt
end Go.Proofs.Ytielfejpnkcjbaa

/- Sorting rivulet/age.Entry: turning a range about; breaking patterns. -/
set_option linter.unusedVariables false
set_option linter.unusedSimpArgs false
namespace Go.Proofs.Ytielfejpnkcjbaa.SortE
open Sl Ab Go.Sort
section
variable {α : Type} [Inhabited α] {e : Enc α 15} {cmp : α → α → Int}
theorem rev_ok (c : CmpFn Try.prog e cmp) (d : Array α) (a b : Nat) (hab : a < b) (hb : b ≤ d.size) (hs : d.size ≤ 1000000000) : GCall Try.prog 73 [.os 1000, .fz (vI a), .fz (vI b), .fz c.fv] [(1000, .rows 64 15 (rw e d))] (Array α) (fun d' => PermIn a b d d') (fun d' => [(1000, .rows 64 15 (rw e d'))]) (fun _ => .tup []) := by
  refine g_enter1 Try.func73 rfl (fun h0 => ?_)
  simp only [argG]
  have hR : ∀ d : Array α, (rw e d).length = d.size := fun _ => rw_length
  have hw1 : IntKind.i64.wrap ((b : Int) - 1) = ((b - 1 : Nat) : Int) := wrap64_nat _ _ (by omega) (by omega)
  refine a_seq ?_
  refine a_reg [⟨some 10, none, .mv (tm 1), false⟩, ⟨some 8, none, .asg (tm 10), false⟩] kR kR ?_
  refine r_run ?_
  refine r_end [0, 1, 2, 8, 9, 15] ?_
  refine a_seq ?_
  refine a_reg [⟨some 11, none, .mv (tm 2), false⟩, ⟨some 12, none, .bin .sub 3 (tm 11) (ci 1) 3, false⟩, ⟨some 9, none, .asg (tm 12), false⟩] kR kR ?_
  refine r_run ?_
  refine r_end [0, 1, 2, 8, 9, 15] ?_
  refine a_block ?_
  refine c_weak [0, 8, 9] ?_
  refine a_loop (fun m T σ => ∃ (i j : Nat) (d1 : Array α), m = j ∧ a ≤ i ∧ j < b ∧ i ≤ j + 1 ∧ PermIn a b d d1 ∧ T = [(0, .os 1000), (8, .fz (vI i)), (9, .fz (vI j))] ∧ σ = [(1000, .rows 64 15 (rw e d1))]) (b - 1) (⟨a, b - 1, d, rfl, by omega, by omega, by omega, permIn_refl _ _ _, rfl, rfl⟩) ?_
  rintro m T σ ⟨i, j, d1, hmj, hi, hj, hij, hP, rfl, rfl⟩
  have hs1 : d1.size = d.size := hP.1
  refine a_seq ?_
  refine a_seq ?_
  refine a_reg [⟨some 13, none, .mv (tm 8), false⟩, ⟨some 14, none, .mv (tm 9), false⟩, ⟨some 15, none, .bin .lss 3 (tm 13) (tm 14) 3, false⟩] kR kR ?_
  refine r_run ?_
  refine r_end [0, 1, 2, 8, 9, 15] ?_
  refine c_cond (fun hb0 => ?_) (fun hb0 => ?_)
  · simp only [decide_eq_true_eq] at hb0
    have hw2 : IntKind.i64.wrap ((i : Int) + 1) = ((i + 1 : Nat) : Int) := wrap64_nat _ _ (by omega) (by omega)
    have hw3 : IntKind.i64.wrap ((j : Int) - 1) = ((j - 1 : Nat) : Int) := wrap64_nat _ _ (by omega) (by omega)
    refine a_skip ?_
    refine a_block ?_
    refine a_seq ?_
    refine a_regd [0, 1, 2, 3, 4, 5, 6, 7, 8, 9, 10, 11, 12, 13, 14, 15] [13, 15] [⟨some 16, none, .mv (tm 0), true⟩, ⟨some 17, none, .mv (tm 8), true⟩, ⟨some 18, none, .mv (tm 0), true⟩, ⟨some 19, none, .mv (tm 9), true⟩, ⟨some 20, none, .mv (tm 0), true⟩, ⟨some 21, none, .mv (tm 9), true⟩, ⟨some 22, none, .ix 71 (tm 20) (tm 21) 64 15, true⟩, ⟨some 23, none, .ldN 64 (tm 22) 15, true⟩, ⟨some 24, none, .mv (tm 0), true⟩, ⟨some 25, none, .mv (tm 8), true⟩, ⟨some 26, none, .ix 71 (tm 24) (tm 25) 64 15, true⟩, ⟨some 27, none, .ldN 64 (tm 26) 15, true⟩, ⟨some 28, none, .ix 71 (tm 16) (tm 17) 64 15, true⟩, ⟨none, none, .stN 64 (tm 28) (tm 23) 15, false⟩, ⟨some 29, none, .ix 71 (tm 18) (tm 19) 64 15, true⟩, ⟨none, none, .stN 64 (tm 29) (tm 27) 15, false⟩] kR kR kR kR kR ?_
    refine r_runO ?_ ?_
    · (repeat' (first | exact rw_len (by omega) | exact rw_one (by omega) | refine ⟨?_, ?_⟩ | omega | trivial | (simp only [List.length_set, rw_length]; omega)))
    refine r_end [0, 1, 2, 8, 9, 15] ?_
    have hsw := rw_swp (e := e) (d := d1) (i := i) (j := j) (by omega) (by omega)
    refine a_seq ?_
    refine a_reg [⟨some 30, none, .mv (tm 8), false⟩, ⟨some 31, none, .bin .add 3 (tm 30) (ci 1) 3, false⟩, ⟨some 8, none, .asg (tm 31), false⟩] kR kR ?_
    refine r_run ?_
    refine r_end [0, 1, 2, 8, 9, 15] ?_
    refine a_reg [⟨some 32, none, .mv (tm 9), false⟩, ⟨some 33, none, .bin .sub 3 (tm 32) (ci 1) 3, false⟩, ⟨some 9, none, .asg (tm 33), false⟩] kR kR ?_
    refine r_run ?_
    refine r_end [0, 1, 2, 8, 9, 15] ?_
    refine a_nil ?_
    refine x_end ?_
    refine a_nil ?_
    refine x_weak [0, 8, 9] ?_
    exact x_next (j - 1) (by omega) (⟨i + 1, j - 1, swp d1 i j, rfl, by omega, by omega, by omega, permIn_trans _ _ _ _ _ hP (swp_permIn _ _ _ _ _ (by omega) (by omega) (by omega) (by omega) (by omega)), rfl, rfl⟩)
  · refine a_exit ?_
    refine x_then ?_
    refine x_here ?_
    refine a_nil ?_
    refine y_retG [] (d1) [1000] ?_ ?_ ?_
    · exact hP
    · exact rfl
    · exact frep_of rfl
theorem brk_ok (c : CmpFn Try.prog e cmp) (d : Array α) (a b : Nat) (hab : a < b) (hb : b ≤ d.size) (hs : d.size ≤ 1000000000) : GCall Try.prog 71 [.os 1000, .fz (vI a), .fz (vI b), .fz c.fv] [(1000, .rows 64 15 (rw e d))] (Array α) (fun d' => PermIn a b d d') (fun d' => [(1000, .rows 64 15 (rw e d'))]) (fun _ => .tup []) := by
  refine g_enter1 Try.func71 rfl (fun h0 => ?_)
  simp only [argG]
  have hR : ∀ d : Array α, (rw e d).length = d.size := fun _ => rw_length
  obtain ⟨l, hl⟩ : ∃ l, a + l = b := ⟨b - a, by omega⟩
  have hw1 : IntKind.i64.wrap ((b : Int) - (a : Int)) = (l : Int) := wrap64_nat _ _ (by omega) (by omega)
  have hw0 : IntKind.u64.wrap (l : Int) = (l : Int) := wrapU64 _ (by omega)
  obtain ⟨k, hk⟩ : ∃ k, bitsLen l = k := ⟨_, rfl⟩
  obtain ⟨n, hn⟩ : ∃ n, 2 ^ k = n := ⟨_, rfl⟩
  have hnl : 0 < l → n ≤ 2 * l := fun h => by rw [← hn, ← hk]; exact two_pow_bitsLen_le h
  have hn0 : 0 < n := by rw [← hn]; exact Nat.two_pow_pos k
  have hk30 : k ≤ 30 := by rw [← hk]; exact (bitsLen_le_iff l 30).2 (by omega)
  have hnp := npot_ok l (by omega)
  rw [hk, hn] at hnp
  have hand : ∀ r : Int, ∃ m : Nat, m < n ∧ IntKind.u64.wrap ((BitVec.ofInt IntKind.u64.bits r &&& BitVec.ofInt IntKind.u64.bits ((n - 1 : Nat) : Int)).toNat : Int) = (m : Int) := fun r => and_lt r n k hn.symm (by omega)
  clear hk hn hk30
  obtain ⟨q, hq4, hq5⟩ : ∃ q, 4 * q ≤ l ∧ l < 4 * q + 4 := ⟨l / 4, by omega, by omega⟩
  have hw2 : IntKind.i64.wrap ((l : Int).tdiv 4) = (q : Int) := by
    rw [show (l : Int).tdiv 4 = (q : Int) by rw [Int.tdiv_eq_ediv_of_nonneg (by omega)]; omega]
    exact wrap64_nat _ _ (by omega) (by omega)
  have hw4 : IntKind.i64.wrap ((q : Int) * 2) = ((q * 2 : Nat) : Int) := wrap64_nat _ _ (by omega) (by omega)
  have hw7 : IntKind.i64.wrap ((a : Int) + ((q * 2 : Nat) : Int)) = ((a + q * 2 : Nat) : Int) := wrap64_nat _ _ (by omega) (by omega)
  have hw8 : IntKind.i64.wrap (((a + q * 2 : Nat) : Int) + 1) = ((a + q * 2 + 1 : Nat) : Int) := wrap64_nat _ _ (by omega) (by omega)
  have hwn : IntKind.u64.wrap ((n : Int) - 1) = ((n - 1 : Nat) : Int) := by rw [show (n : Int) - 1 = ((n - 1 : Nat) : Int) by omega]; exact wrapU64 _ (by omega)
  refine a_seq ?_
  refine a_reg [⟨some 13, none, .mv (tm 2), false⟩, ⟨some 14, none, .mv (tm 1), false⟩, ⟨some 15, none, .bin .sub 3 (tm 13) (tm 14) 3, false⟩, ⟨some 8, none, .asg (tm 15), false⟩] kR kR ?_
  refine r_run ?_
  refine r_end [0, 1, 2, 8, 9, 10, 11, 12, 17, 35, 45] ?_
  refine a_seq ?_
  refine a_reg [⟨some 16, none, .mv (tm 8), false⟩, ⟨some 17, none, .bin .geq 3 (tm 16) (ci 8) 3, false⟩] kR kR ?_
  refine r_run ?_
  refine r_end [0, 1, 2, 8, 9, 10, 11, 12, 17, 35, 45] ?_
  refine c_cond (fun hb0 => ?_) (fun hb0 => ?_)
  · simp only [decide_eq_true_eq] at hb0
    have hw9 : IntKind.i64.wrap (((a + q * 2 : Nat) : Int) - 1) = ((a + q * 2 - 1 : Nat) : Int) := wrap64_nat _ _ (by omega) (by omega)
    have hnl2 : n ≤ 2 * l := hnl (by omega)
    refine a_seq ?_
    refine a_reg [⟨some 18, none, .mv (tm 8), false⟩, ⟨some 19, none, .conv 3 138 (tm 18) .u64, false⟩, ⟨some 9, none, .alc 138 [.int .u64 0] false, false⟩, ⟨none, none, .st 138 (tm 9) (tm 19), false⟩] kR kR ?_
    refine r_run ?_
    refine r_end [0, 1, 2, 8, 9, 10, 11, 12, 17, 35, 45] ?_
    refine a_seq ?_
    refine a_reg [⟨some 20, none, .mv (tm 8), false⟩, ⟨some 21, none, .call 82 [(tm 20)] [3], false⟩, ⟨some 10, none, .asg (tm 21), false⟩] kR kR ?_
    refine r_run ?_
    refine r_call (hnp) ?_
    refine r_run ?_
    refine r_end [0, 1, 2, 8, 9, 10, 11, 12, 17, 35, 45] ?_
    refine a_seq ?_
    refine a_reg [⟨some 22, none, .mv (tm 1), false⟩, ⟨some 23, none, .mv (tm 8), false⟩, ⟨some 24, none, .bin .quo 3 (tm 23) (ci 4) 3, false⟩, ⟨some 25, none, .bin .mul 3 (tm 24) (ci 2) 3, false⟩, ⟨some 26, none, .bin .add 3 (tm 22) (tm 25) 3, false⟩, ⟨some 27, none, .bin .sub 3 (tm 26) (ci 1) 3, false⟩, ⟨some 11, none, .asg (tm 27), false⟩] kR kR ?_
    refine r_run ?_
    refine r_end [0, 1, 2, 8, 9, 10, 11, 12, 17, 35, 45] ?_
    refine a_block ?_
    refine c_weak [0, 1, 8, 9, 10, 11] ?_
    refine a_loop (fun m T σ => ∃ (i : Nat) (d1 : Array α) (y : Int), m = a + q * 2 + 2 - i ∧ a + q * 2 ≤ i + 1 ∧ i ≤ a + q * 2 + 2 ∧ PermIn a b d d1 ∧ T = [(0, .os 1000), (1, .fz (vI a)), (8, .fz (vI l)), (9, .oe 9 1 0 0), (10, .fz (vQ n)), (11, .fz (vI i))] ∧ σ = [(9, .box 138 [.fz (vQ y)]), (1000, .rows 64 15 (rw e d1))]) (3) (⟨a + q * 2 - 1, d, l, by omega, by omega, by omega, permIn_refl _ _ _, rfl, rfl⟩) ?_
    rintro m T σ ⟨i, d1, y, hmi, hi1, hi2, hP, rfl, rfl⟩
    have hs1 : d1.size = d.size := hP.1
    refine a_seq ?_
    refine a_seq ?_
    refine a_reg [⟨some 28, none, .mv (tm 11), false⟩, ⟨some 29, none, .mv (tm 1), false⟩, ⟨some 30, none, .mv (tm 8), false⟩, ⟨some 31, none, .bin .quo 3 (tm 30) (ci 4) 3, false⟩, ⟨some 32, none, .bin .mul 3 (tm 31) (ci 2) 3, false⟩, ⟨some 33, none, .bin .add 3 (tm 29) (tm 32) 3, false⟩, ⟨some 34, none, .bin .add 3 (tm 33) (ci 1) 3, false⟩, ⟨some 35, none, .bin .leq 3 (tm 28) (tm 34) 3, false⟩] kR kR ?_
    refine r_run ?_
    refine r_end [0, 1, 2, 8, 9, 10, 11, 12, 17, 35, 45] ?_
    refine c_cond (fun hb1 => ?_) (fun hb1 => ?_)
    · simp only [decide_eq_true_eq] at hb1
      have hwi : IntKind.i64.wrap ((i : Int) + 1) = ((i + 1 : Nat) : Int) := wrap64_nat _ _ (by omega) (by omega)
      refine a_skip ?_
      refine a_seq ?_
      refine a_block ?_
      refine a_seq ?_
      refine a_reg [⟨some 38, none, .call 83 [(tm 9)] [138], false⟩, ⟨some 39, none, .mv (tm 10), false⟩, ⟨some 40, none, .bin .sub 41 (tm 39) (.const (Value.int IntKind.u64 1)) 41, false⟩, ⟨some 41, none, .bin .and 41 (tm 38) (tm 40) 41, false⟩, ⟨some 42, none, .conv 41 3 (tm 41) .i64, false⟩, ⟨some 12, none, .asg (tm 42), false⟩] kR kR ?_
      refine r_run ?_
      refine r_callG [9] (next_ok y) (fun y2 hy2 => ?_)
      obtain ⟨m2, hm2, hmw⟩ := hand y2
      have hwm : IntKind.i64.wrap (m2 : Int) = (m2 : Int) := wrap64_nat _ _ (by omega) (by omega)
      refine r_run ?_
      refine r_end [0, 1, 2, 8, 9, 10, 11, 12, 17, 35, 45] ?_
      refine a_seq ?_
      refine a_seq ?_
      refine a_reg [⟨some 43, none, .mv (tm 12), false⟩, ⟨some 44, none, .mv (tm 8), false⟩, ⟨some 45, none, .bin .geq 3 (tm 43) (tm 44) 3, false⟩] kR kR ?_
      refine r_run ?_
      refine r_end [0, 1, 2, 8, 9, 10, 11, 12, 17, 35, 45] ?_
      refine a_join (fun T σ => ∃ o : Nat, o < l ∧ T = [(0, .os 1000), (1, .fz (vI a)), (8, .fz (vI l)), (9, .oe 9 1 0 0), (10, .fz (vQ n)), (11, .fz (vI i)), (12, .fz (vI o))] ∧ σ = [(9, .box 138 [.fz (vQ y2)]), (1000, .rows 64 15 (rw e d1))]) ?_ ?_
      · refine c_cond (fun hb2 => ?_) (fun hb2 => ?_)
        · simp only [decide_eq_true_eq] at hb2
          have hwo : IntKind.i64.wrap ((m2 : Int) - (l : Int)) = ((m2 - l : Nat) : Int) := wrap64_nat _ _ (by omega) (by omega)
          refine a_reg [⟨some 46, none, .mv (tm 12), false⟩, ⟨some 47, none, .mv (tm 8), false⟩, ⟨some 48, none, .bin .sub 3 (tm 46) (tm 47) 3, false⟩, ⟨some 12, none, .asg (tm 48), false⟩] kR kR ?_
          refine r_run ?_
          refine r_end [0, 1, 2, 8, 9, 10, 11, 12, 17, 35, 45] ?_
          refine a_nil ?_
          refine x_weak [0, 1, 8, 9, 10, 11, 12] ?_
          exact x_join (⟨m2 - l, by omega, rfl, rfl⟩)
        · simp only [decide_eq_false_iff_not] at hb2
          refine a_skip ?_
          refine a_nil ?_
          refine x_weak [0, 1, 8, 9, 10, 11, 12] ?_
          exact x_join (⟨m2, by omega, rfl, rfl⟩)
      · rintro T σ ⟨o, ho, rfl, rfl⟩
        have hwao : IntKind.i64.wrap ((a : Int) + (o : Int)) = ((a + o : Nat) : Int) := wrap64_nat _ _ (by omega) (by omega)
        refine a_regd [0, 1, 2, 3, 4, 5, 6, 7, 8, 9, 10, 11, 12, 13, 14, 15, 16, 17, 18, 19] [17, 19] [⟨some 49, none, .mv (tm 0), true⟩, ⟨some 50, none, .mv (tm 11), true⟩, ⟨some 51, none, .mv (tm 0), true⟩, ⟨some 52, none, .mv (tm 1), true⟩, ⟨some 53, none, .mv (tm 12), true⟩, ⟨some 54, none, .bin .add 3 (tm 52) (tm 53) 3, true⟩, ⟨some 55, none, .mv (tm 0), true⟩, ⟨some 56, none, .mv (tm 1), true⟩, ⟨some 57, none, .mv (tm 12), true⟩, ⟨some 58, none, .bin .add 3 (tm 56) (tm 57) 3, true⟩, ⟨some 59, none, .ix 71 (tm 55) (tm 58) 64 15, true⟩, ⟨some 60, none, .ldN 64 (tm 59) 15, true⟩, ⟨some 61, none, .mv (tm 0), true⟩, ⟨some 62, none, .mv (tm 11), true⟩, ⟨some 63, none, .ix 71 (tm 61) (tm 62) 64 15, true⟩, ⟨some 64, none, .ldN 64 (tm 63) 15, true⟩, ⟨some 65, none, .ix 71 (tm 49) (tm 50) 64 15, true⟩, ⟨none, none, .stN 64 (tm 65) (tm 60) 15, false⟩, ⟨some 66, none, .ix 71 (tm 51) (tm 54) 64 15, true⟩, ⟨none, none, .stN 64 (tm 66) (tm 64) 15, false⟩] kR kR kR kR kR ?_
        refine r_runO ?_ ?_
        · (repeat' (first | exact rw_len (by omega) | exact rw_one (by omega) | refine ⟨?_, ?_⟩ | omega | trivial | (simp only [List.length_set, rw_length]; omega)))
        refine r_end [0, 1, 2, 8, 9, 10, 11, 12, 17, 35, 45] ?_
        have hsw := rw_swp (e := e) (d := d1) (i := i) (j := a + o) (by omega) (by omega)
        refine a_nil ?_
        refine x_end ?_
        refine a_reg [⟨some 36, none, .mv (tm 11), false⟩, ⟨some 37, none, .bin .add 3 (tm 36) (ci 1) 3, false⟩, ⟨some 11, none, .asg (tm 37), false⟩] kR kR ?_
        refine r_run ?_
        refine r_end [0, 1, 2, 8, 9, 10, 11, 12, 17, 35, 45] ?_
        refine a_nil ?_
        refine x_weak [0, 1, 8, 9, 10, 11] ?_
        exact x_next (a + q * 2 + 2 - (i + 1)) (by omega) (⟨i + 1, swp d1 i (a + o), y2, rfl, by omega, by omega, permIn_trans _ _ _ _ _ hP (swp_permIn _ _ _ _ _ (by omega) (by omega) (by omega) (by omega) (by omega)), rfl, rfl⟩)
    · refine a_exit ?_
      refine x_then ?_
      refine x_here ?_
      refine a_nil ?_
      refine y_retG [] (d1) [1000] ?_ ?_ ?_
      · exact hP
      · exact rfl
      · exact frep_of rfl
  · refine a_skip ?_
    refine a_nil ?_
    refine y_retG [] (d) [1000] ?_ ?_ ?_
    · exact permIn_refl _ _ _
    · exact rfl
    · exact frep_of rfl
end
end Go.Proofs.Ytielfejpnkcjbaa.SortE

/- Sorting rivulet/age.Entry. -/
set_option linter.unusedVariables false
set_option linter.unusedSimpArgs false
namespace Go.Proofs.Ytielfejpnkcjbaa.SortE
open Sl Ab Go.Sort
section
variable {α : Type} [Inhabited α] {e : Enc α 15} {cmp : α → α → Int}
theorem pdq_ok (c : CmpFn Try.prog e cmp) (hS : SWO (ltOf cmp)) (n : Nat) : ∀ (d : Array α) (a b l0 : Nat), b - a ≤ n → a ≤ b → b ≤ d.size → d.size ≤ 1000000000 → l0 ≤ 100 → Below (ltOf cmp) a b d →
    GCall Try.prog 61 [.os 1000, .fz (vI a), .fz (vI b), .fz (vI l0), .fz c.fv] [(1000, .rows 64 15 (rw e d))] (Array α) (fun d' => PermIn a b d d' ∧ SortedIn (ltOf cmp) a b d') (fun d' => [(1000, .rows 64 15 (rw e d'))]) (fun _ => .tup []) := by
  induction n using Nat.strongRecOn with | _ n IH => ?_
  intro d a b l0 hn hab hb hs hl0 hB0
  refine g_enter1 Try.func61 rfl (fun h0 => ?_)
  simp only [argG]
  have hR : ∀ d : Array α, (rw e d).length = d.size := fun _ => rw_length
  refine a_seq ?_
  refine a_reg [⟨some 10, none, .asg (.const (Value.bool true)), false⟩] kR kR ?_
  refine r_run ?_
  refine r_end [0, 1, 2, 3, 4, 10, 11, 12, 13, 14, 15, 16, 17, 18, 19, 20, 25, 32, 39, 56, 75, 80, 97, 125] ?_
  refine a_seq ?_
  refine a_reg [⟨some 11, none, .asg (.const (Value.bool true)), false⟩] kR kR ?_
  refine r_run ?_
  refine r_end [0, 1, 2, 3, 4, 10, 11, 12, 13, 14, 15, 16, 17, 18, 19, 20, 25, 32, 39, 56, 75, 80, 97, 125] ?_
  refine a_block ?_
  refine c_weak [0, 1, 2, 3, 4, 10, 11] ?_
  refine a_loop (fun m T σ => ∃ (x y l : Nat) (wb wp : Bool) (d1 : Array α), m = y - x ∧ a ≤ x ∧ x ≤ y ∧ y ≤ b ∧ l ≤ 100 ∧ d1.size = d.size ∧ Below (ltOf cmp) x y d1 ∧ (∀ R, PermIn x y d1 R → SortedIn (ltOf cmp) x y R → PermIn a b d R ∧ SortedIn (ltOf cmp) a b R) ∧ T = [(0, .os 1000), (1, .fz (vI x)), (2, .fz (vI y)), (3, .fz (vI l)), (4, .fz c.fv), (10, .fz (vB wb)), (11, .fz (vB wp))] ∧ σ = [(1000, .rows 64 15 (rw e d1))]) (b - a) (⟨a, b, l0, true, true, d, rfl, by omega, by omega, by omega, hl0, rfl, hB0, fun R h1 h2 => ⟨h1, h2⟩, rfl, rfl⟩) ?_
  rintro m T σ ⟨x, y, l, wb, wp, d1, hm, hx1, hxy, hy1, hl1, hs1, hB1, hfin, rfl, rfl⟩
  have hw1 : IntKind.i64.wrap ((y : Int) - (x : Int)) = ((y - x : Nat) : Int) := wrap64_nat _ _ (by omega) (by omega)
  refine a_block ?_
  refine a_seq ?_
  refine a_reg [⟨some 21, none, .mv (tm 2), false⟩, ⟨some 22, none, .mv (tm 1), false⟩, ⟨some 23, none, .bin .sub 3 (tm 21) (tm 22) 3, false⟩, ⟨some 12, none, .asg (tm 23), false⟩] kR kR ?_
  refine r_run ?_
  refine r_end [0, 1, 2, 3, 4, 10, 11, 12, 13, 14, 15, 16, 17, 18, 19, 20, 25, 32, 39, 56, 75, 80, 97, 125] ?_
  refine a_seq ?_
  refine a_seq ?_
  refine a_reg [⟨some 24, none, .mv (tm 12), false⟩, ⟨some 25, none, .bin .leq 3 (tm 24) (ci 12) 3, false⟩] kR kR ?_
  refine r_run ?_
  refine r_end [0, 1, 2, 3, 4, 10, 11, 12, 13, 14, 15, 16, 17, 18, 19, 20, 25, 32, 39, 56, 75, 80, 97, 125] ?_
  refine c_cond (fun hb0 => ?_) (fun hb0 => ?_)
  · simp only [decide_eq_true_eq] at hb0
    refine a_seq ?_
    refine a_reg [⟨some 26, none, .mv (tm 0), false⟩, ⟨some 27, none, .mv (tm 1), false⟩, ⟨some 28, none, .mv (tm 2), false⟩, ⟨some 29, none, .mv (tm 4), false⟩, ⟨some 30, none, .call 69 [(tm 26), (tm 27), (tm 28), (tm 29)] [71, 3, 3, 109], false⟩] kR kR ?_
    refine r_run ?_
    refine r_callG [1000] (ins_ok c d1 x y (by omega) (by omega) (by omega)) (fun d2 hd2 => ?_)
    have hI := insertionSort_holds hS d1 x y (by omega) (by omega)
    rw [← hd2] at hI
    clear hd2
    refine r_run ?_
    refine r_end [0, 1, 2, 3, 4, 10, 11, 12, 13, 14, 15, 16, 17, 18, 19, 20, 25, 32, 39, 56, 75, 80, 97, 125] ?_
    refine a_ret ?_
    refine y_retG [] (d2) [1000] ?_ ?_ ?_
    · exact hfin _ hI.1 hI.2
    · exact rfl
    · exact frep_of rfl
  · simp only [decide_eq_false_iff_not] at hb0
    refine a_skip ?_
    refine a_seq ?_
    refine a_seq ?_
    refine a_reg [⟨some 31, none, .mv (tm 3), false⟩, ⟨some 32, none, .bin .eql 3 (tm 31) (ci 0) 3, false⟩] kR kR ?_
    refine r_run ?_
    refine r_end [0, 1, 2, 3, 4, 10, 11, 12, 13, 14, 15, 16, 17, 18, 19, 20, 25, 32, 39, 56, 75, 80, 97, 125] ?_
    refine c_cond (fun hb1 => ?_) (fun hb1 => ?_)
    · simp only [beq_iff_eq] at hb1
      refine a_seq ?_
      refine a_reg [⟨some 33, none, .mv (tm 0), false⟩, ⟨some 34, none, .mv (tm 1), false⟩, ⟨some 35, none, .mv (tm 2), false⟩, ⟨some 36, none, .mv (tm 4), false⟩, ⟨some 37, none, .call 70 [(tm 33), (tm 34), (tm 35), (tm 36)] [71, 3, 3, 109], false⟩] kR kR ?_
      refine r_run ?_
      refine r_callG [1000] (heap_ok c d1 x y (by omega) (by omega) (by omega)) (fun d2 hd2 => ?_)
      have hI := heapSort_holds hS d1 x y (by omega) (by omega)
      rw [← hd2] at hI
      clear hd2
      refine r_run ?_
      refine r_end [0, 1, 2, 3, 4, 10, 11, 12, 13, 14, 15, 16, 17, 18, 19, 20, 25, 32, 39, 56, 75, 80, 97, 125] ?_
      refine a_ret ?_
      refine y_retG [] (d2) [1000] ?_ ?_ ?_
      · exact hfin _ hI.1 hI.2
      · exact rfl
      · exact frep_of rfl
    · simp only [beq_eq_false_iff_ne, ne_eq] at hb1
      refine a_skip ?_
      refine a_seq ?_
      refine a_seq ?_
      refine a_reg [⟨some 38, none, .mv (tm 10), false⟩, ⟨some 39, none, .not 4 (tm 38), false⟩] kR kR ?_
      refine r_run ?_
      refine r_end [0, 1, 2, 3, 4, 10, 11, 12, 13, 14, 15, 16, 17, 18, 19, 20, 25, 32, 39, 56, 75, 80, 97, 125] ?_
      refine a_join (fun T σ => ∃ (d2 : Array α) (l2 : Nat), PermIn x y d1 d2 ∧ l2 ≤ 100 ∧ T = [(0, .os 1000), (1, .fz (vI x)), (2, .fz (vI y)), (3, .fz (vI l2)), (4, .fz c.fv), (10, .fz (vB wb)), (11, .fz (vB wp)), (12, .fz (vI ((y - x : Nat) : Int)))] ∧ σ = [(1000, .rows 64 15 (rw e d2))]) ?_ ?_
      · refine c_cond (fun hb2 => ?_) (fun hb2 => ?_)
        · have hw2 : IntKind.i64.wrap ((l : Int) - 1) = ((l - 1 : Nat) : Int) := wrap64_nat _ _ (by omega) (by omega)
          refine a_seq ?_
          refine a_reg [⟨some 40, none, .mv (tm 0), false⟩, ⟨some 41, none, .mv (tm 1), false⟩, ⟨some 42, none, .mv (tm 2), false⟩, ⟨some 43, none, .mv (tm 4), false⟩, ⟨some 44, none, .call 71 [(tm 40), (tm 41), (tm 42), (tm 43)] [71, 3, 3, 109], false⟩] kR kR ?_
          refine r_run ?_
          refine r_callG [1000] (brk_ok c d1 x y (by omega) (by omega) (by omega)) (fun d2 hd2 => ?_)
          refine r_run ?_
          refine r_end [0, 1, 2, 3, 4, 10, 11, 12, 13, 14, 15, 16, 17, 18, 19, 20, 25, 32, 39, 56, 75, 80, 97, 125] ?_
          refine a_reg [⟨some 45, none, .mv (tm 3), false⟩, ⟨some 46, none, .bin .sub 3 (tm 45) (ci 1) 3, false⟩, ⟨some 3, none, .asg (tm 46), false⟩] kR kR ?_
          refine r_run ?_
          refine r_end [0, 1, 2, 3, 4, 10, 11, 12, 13, 14, 15, 16, 17, 18, 19, 20, 25, 32, 39, 56, 75, 80, 97, 125] ?_
          refine a_nil ?_
          refine x_weak [0, 1, 2, 3, 4, 10, 11, 12] ?_
          exact x_join (⟨d2, l - 1, hd2, by omega, rfl, rfl⟩)
        · refine a_skip ?_
          refine a_nil ?_
          refine x_weak [0, 1, 2, 3, 4, 10, 11, 12] ?_
          exact x_join (⟨d1, l, permIn_refl _ _ _, by omega, rfl, rfl⟩)
      · rintro T σ ⟨d2, l2, hP2, hl2, rfl, rfl⟩
        refine a_seq ?_
        have hs2 : d2.size = d.size := hP2.1.trans hs1
        refine a_reg [⟨some 48, none, .mv (tm 0), false⟩, ⟨some 49, none, .mv (tm 1), false⟩, ⟨some 50, none, .mv (tm 2), false⟩, ⟨some 51, none, .mv (tm 4), false⟩, ⟨some 52, none, .call 72 [(tm 48), (tm 49), (tm 50), (tm 51)] [71, 3, 3, 109], false⟩, ⟨some 47, none, .mv (tm 52), false⟩, ⟨some 53, none, .ext (tm 47) 0, false⟩, ⟨some 54, none, .ext (tm 47) 1, false⟩, ⟨some 13, none, .asg (tm 53), false⟩, ⟨some 14, none, .asg (tm 54), false⟩] kR kR ?_
        refine r_run ?_
        refine r_callG [1000] (choose_ok c d2 x y (by omega) (by omega) (by omega)) (fun pv hpv => ?_)
        obtain ⟨p, hh⟩ := pv
        obtain ⟨hp1, hp2⟩ := hpv
        simp only at hp1 hp2
        refine r_run ?_
        refine r_end [0, 1, 2, 3, 4, 10, 11, 12, 13, 14, 15, 16, 17, 18, 19, 20, 25, 32, 39, 56, 75, 80, 97, 125] ?_
        refine a_seq ?_
        refine a_seq ?_
        refine a_reg [⟨some 55, none, .mv (tm 14), false⟩, ⟨some 56, none, .bin .eql 126 (tm 55) (ci 2) 126, false⟩] kR kR ?_
        refine r_run ?_
        refine r_end [0, 1, 2, 3, 4, 10, 11, 12, 13, 14, 15, 16, 17, 18, 19, 20, 25, 32, 39, 56, 75, 80, 97, 125] ?_
        refine a_join (fun T σ => ∃ (d3 : Array α) (q : Nat) (h3 : Int), PermIn x y d2 d3 ∧ x ≤ q ∧ q < y ∧ T = [(0, .os 1000), (1, .fz (vI x)), (2, .fz (vI y)), (3, .fz (vI l2)), (4, .fz c.fv), (10, .fz (vB wb)), (11, .fz (vB wp)), (12, .fz (vI ((y - x : Nat) : Int))), (13, .fz (vI q)), (14, .fz (vI h3))] ∧ σ = [(1000, .rows 64 15 (rw e d3))]) ?_ ?_
        · refine c_cond (fun hb3 => ?_) (fun hb3 => ?_)
          · have hw3 : IntKind.i64.wrap ((y : Int) - 1) = ((y - 1 : Nat) : Int) := wrap64_nat _ _ (by omega) (by omega)
            have hw4 : IntKind.i64.wrap ((p : Int) - (x : Int)) = ((p - x : Nat) : Int) := wrap64_nat _ _ (by omega) (by omega)
            have hw5 : IntKind.i64.wrap (((y - 1 : Nat) : Int) - ((p - x : Nat) : Int)) = ((y - 1 - (p - x) : Nat) : Int) := wrap64_nat _ _ (by omega) (by omega)
            refine a_seq ?_
            refine a_reg [⟨some 57, none, .mv (tm 0), false⟩, ⟨some 58, none, .mv (tm 1), false⟩, ⟨some 59, none, .mv (tm 2), false⟩, ⟨some 60, none, .mv (tm 4), false⟩, ⟨some 61, none, .call 73 [(tm 57), (tm 58), (tm 59), (tm 60)] [71, 3, 3, 109], false⟩] kR kR ?_
            refine r_run ?_
            refine r_callG [1000] (rev_ok c d2 x y (by omega) (by omega) (by omega)) (fun d3 hd3 => ?_)
            refine r_run ?_
            refine r_end [0, 1, 2, 3, 4, 10, 11, 12, 13, 14, 15, 16, 17, 18, 19, 20, 25, 32, 39, 56, 75, 80, 97, 125] ?_
            refine a_seq ?_
            refine a_reg [⟨some 62, none, .mv (tm 2), false⟩, ⟨some 63, none, .bin .sub 3 (tm 62) (ci 1) 3, false⟩, ⟨some 64, none, .mv (tm 13), false⟩, ⟨some 65, none, .mv (tm 1), false⟩, ⟨some 66, none, .bin .sub 3 (tm 64) (tm 65) 3, false⟩, ⟨some 67, none, .bin .sub 3 (tm 63) (tm 66) 3, false⟩, ⟨some 13, none, .asg (tm 67), false⟩] kR kR ?_
            refine r_run ?_
            refine r_end [0, 1, 2, 3, 4, 10, 11, 12, 13, 14, 15, 16, 17, 18, 19, 20, 25, 32, 39, 56, 75, 80, 97, 125] ?_
            refine a_reg [⟨some 14, none, .asg (ci 1), false⟩] kR kR ?_
            refine r_run ?_
            refine r_end [0, 1, 2, 3, 4, 10, 11, 12, 13, 14, 15, 16, 17, 18, 19, 20, 25, 32, 39, 56, 75, 80, 97, 125] ?_
            refine a_nil ?_
            refine x_weak [0, 1, 2, 3, 4, 10, 11, 12, 13, 14] ?_
            exact x_join (⟨d3, y - 1 - (p - x), 1, hd3, by omega, by omega, rfl, rfl⟩)
          · refine a_skip ?_
            refine a_nil ?_
            refine x_weak [0, 1, 2, 3, 4, 10, 11, 12, 13, 14] ?_
            exact x_join (⟨d2, p, hh, permIn_refl _ _ _, by omega, by omega, rfl, rfl⟩)
        · rintro T σ ⟨d3, q, h3, hP3, hq1, hq2, rfl, rfl⟩
          refine a_seq ?_
          refine a_seq ?_
          have hs3 : d3.size = d.size := hP3.1.trans hs2
          have hB3 : Below (ltOf cmp) x y d3 := (hB1.perm (by omega) hP2).perm (by omega) hP3
          have hP13 := permIn_trans _ _ _ _ _ hP2 hP3
          refine a_reg [⟨some 68, none, .mv (tm 10), false⟩, ⟨some 69, none, .mv (tm 68), false⟩, ⟨some 70, some (69, true), .mv (tm 11), false⟩, ⟨some 71, none, .pick 69 (tm 70) (.const (Value.bool false)), false⟩, ⟨some 72, none, .mv (tm 71), false⟩, ⟨some 73, some (72, true), .mv (tm 14), false⟩, ⟨some 74, some (72, true), .bin .eql 126 (tm 73) (ci 1) 126, false⟩, ⟨some 75, none, .pick 72 (tm 74) (.const (Value.bool false)), false⟩] kR kR ?_
          refine r_run ?_
          refine r_end [0, 1, 2, 3, 4, 10, 11, 12, 13, 14, 15, 16, 17, 18, 19, 20, 25, 32, 39, 56, 75, 80, 97, 125] ?_
          refine a_join (fun T σ => ∃ (d4 : Array α), PermIn x y d3 d4 ∧ T = [(0, .os 1000), (1, .fz (vI x)), (2, .fz (vI y)), (3, .fz (vI l2)), (4, .fz c.fv), (10, .fz (vB wb)), (11, .fz (vB wp)), (12, .fz (vI ((y - x : Nat) : Int))), (13, .fz (vI q))] ∧ σ = [(1000, .rows 64 15 (rw e d4))]) ?_ ?_
          · refine c_cond (fun hb4 => ?_) (fun hb4 => ?_)
            · refine a_seq ?_
              refine a_reg [⟨some 76, none, .mv (tm 0), false⟩, ⟨some 77, none, .mv (tm 1), false⟩, ⟨some 78, none, .mv (tm 2), false⟩, ⟨some 79, none, .mv (tm 4), false⟩, ⟨some 80, none, .call 74 [(tm 76), (tm 77), (tm 78), (tm 79)] [71, 3, 3, 109], false⟩] kR kR ?_
              refine r_run ?_
              refine r_callG [1000] (pins_ok c d3 x y (by omega) (by omega) (by omega)) (fun r4 hr4 => ?_)
              have hI := partialInsertionSort_holds hS d3 x y (by omega) (by omega) hB3
              rw [← hr4] at hI
              clear hr4
              obtain ⟨d4, done⟩ := r4
              simp only at hI
              refine r_run ?_
              refine r_end [0, 1, 2, 3, 4, 10, 11, 12, 13, 14, 15, 16, 17, 18, 19, 20, 25, 32, 39, 56, 75, 80, 97, 125] ?_
              refine c_cond (fun hb5 => ?_) (fun hb5 => ?_)
              · refine a_ret ?_
                refine y_retG [] (d4) [1000] ?_ ?_ ?_
                · exact hfin _ (permIn_trans _ _ _ _ _ hP13 hI.1) (hI.2 hb5)
                · exact rfl
                · exact frep_of rfl
              · refine a_skip ?_
                refine a_nil ?_
                refine x_weak [0, 1, 2, 3, 4, 10, 11, 12, 13] ?_
                exact x_join (⟨d4, hI.1, rfl, rfl⟩)
            · refine a_skip ?_
              refine a_nil ?_
              refine x_weak [0, 1, 2, 3, 4, 10, 11, 12, 13] ?_
              exact x_join (⟨d3, permIn_refl _ _ _, rfl, rfl⟩)
          · rintro T σ ⟨d4, hP4, rfl, rfl⟩
            refine a_seq ?_
            refine a_seq ?_
            have hs4 : d4.size = d.size := hP4.1.trans hs3
            have hB4 : Below (ltOf cmp) x y d4 := hB3.perm (by omega) hP4
            have hP14 := permIn_trans _ _ _ _ _ hP13 hP4
            have hfin4 : ∀ R, PermIn x y d4 R → SortedIn (ltOf cmp) x y R → PermIn a b d R ∧ SortedIn (ltOf cmp) a b R := fun R h1 h2 => hfin R (permIn_trans _ _ _ _ _ hP14 h1) h2
            clear hfin hP14 hP13 hP2 hP3 hP4 hB1 hB3 hB0
            have hw6 : IntKind.i64.wrap ((x : Int) - 1) = (x : Int) - 1 := wrap64_in _ (by omega) (by omega)
            have ht6 : ((x : Int) - 1).toNat = x - 1 := by omega
            refine a_regd [0, 1, 2, 3, 4, 5, 6, 7, 8, 9, 10, 11, 12, 13, 14, 15, 16] [13] [⟨some 81, none, .mv (tm 1), true⟩, ⟨some 82, none, .bin .gtr 3 (tm 81) (ci 0) 3, true⟩, ⟨some 83, none, .mv (tm 82), true⟩, ⟨some 84, some (83, true), .mv (tm 4), true⟩, ⟨some 85, some (83, true), .mv (tm 0), true⟩, ⟨some 86, some (83, true), .mv (tm 1), true⟩, ⟨some 87, some (83, true), .bin .sub 3 (tm 86) (ci 1) 3, true⟩, ⟨some 88, some (83, true), .ix 71 (tm 85) (tm 87) 64 15, true⟩, ⟨some 89, some (83, true), .ldN 64 (tm 88) 15, true⟩, ⟨some 90, some (83, true), .mv (tm 0), true⟩, ⟨some 91, some (83, true), .mv (tm 13), true⟩, ⟨some 92, some (83, true), .ix 71 (tm 90) (tm 91) 64 15, true⟩, ⟨some 93, some (83, true), .ldN 64 (tm 92) 15, true⟩, ⟨some 94, some (83, true), .callv (tm 84) [(tm 89), (tm 93)] [64, 64], false⟩, ⟨some 95, some (83, true), .bin .lss 3 (tm 94) (ci 0) 3, true⟩, ⟨some 96, some (83, true), .not 4 (tm 95), true⟩, ⟨some 97, none, .pick 83 (tm 96) (.const (Value.bool false)), true⟩] kR kR kR kR kR ?_
            refine r_runO ?_ ?_
            · (simp only [decide_eq_true_eq, Bool.and_eq_true]; omega)
            refine r_callgB (res := vI (cmp d4[x - 1]! d4[q]!)) ?_ ?_ (hc := c.ok)
            · exact fun hg => c.at (d := d4) (x - 1) q (by omega) (by omega)
            refine r_run ?_
            refine r_end [0, 1, 2, 3, 4, 10, 11, 12, 13, 14, 15, 16, 17, 18, 19, 20, 25, 32, 39, 56, 75, 80, 97, 125] ?_
            refine c_cond (fun hb6 => ?_) (fun hb6 => ?_)
            · simp only [Bool.and_eq_true, Bool.not_eq_true', decide_eq_true_eq] at hb6
              refine a_seq ?_
              refine a_reg [⟨some 98, none, .mv (tm 0), false⟩, ⟨some 99, none, .mv (tm 1), false⟩, ⟨some 100, none, .mv (tm 2), false⟩, ⟨some 101, none, .mv (tm 13), false⟩, ⟨some 102, none, .mv (tm 4), false⟩, ⟨some 103, none, .call 75 [(tm 98), (tm 99), (tm 100), (tm 101), (tm 102)] [71, 3, 3, 3, 109], false⟩, ⟨some 15, none, .asg (tm 103), false⟩] kR kR ?_
              refine r_run ?_
              refine r_callG [1000] (parteq_ok c d4 x y q (by omega) (by omega) (by omega) (by omega)) (fun r5 hr5 => ?_)
              obtain ⟨mid, d5⟩ := r5
              have hI := round_eq hS (partitionEqual_holds _) (by omega) hq1 hq2 (by omega) hB4 hb6.2 hr5.symm
              clear hr5
              refine r_run ?_
              refine r_end [0, 1, 2, 3, 4, 10, 11, 12, 13, 14, 15, 16, 17, 18, 19, 20, 25, 32, 39, 56, 75, 80, 97, 125] ?_
              refine a_seq ?_
              refine a_reg [⟨some 104, none, .mv (tm 15), false⟩, ⟨some 1, none, .asg (tm 104), false⟩] kR kR ?_
              refine r_run ?_
              refine r_end [0, 1, 2, 3, 4, 10, 11, 12, 13, 14, 15, 16, 17, 18, 19, 20, 25, 32, 39, 56, 75, 80, 97, 125] ?_
              refine a_exit ?_
              refine x_here ?_
              refine a_nil ?_
              refine x_weak [0, 1, 2, 3, 4, 10, 11] ?_
              exact x_next (y - mid) (by omega) (⟨mid, y, l2, wb, wp, d5, rfl, by omega, by omega, by omega, hl2, hI.2.2.1.trans hs4, hI.2.2.2.1, fun R h1 h2 => (fun h3 => hfin4 R h3.1 h3.2) (hI.2.2.2.2 R h1 h2), rfl, rfl⟩)
            · refine a_skip ?_
              refine a_seq ?_
              refine a_reg [⟨some 106, none, .mv (tm 0), false⟩, ⟨some 107, none, .mv (tm 1), false⟩, ⟨some 108, none, .mv (tm 2), false⟩, ⟨some 109, none, .mv (tm 13), false⟩, ⟨some 110, none, .mv (tm 4), false⟩, ⟨some 111, none, .call 76 [(tm 106), (tm 107), (tm 108), (tm 109), (tm 110)] [71, 3, 3, 3, 109], false⟩, ⟨some 105, none, .mv (tm 111), false⟩, ⟨some 112, none, .ext (tm 105) 0, false⟩, ⟨some 113, none, .ext (tm 105) 1, false⟩, ⟨some 16, none, .asg (tm 112), false⟩, ⟨some 17, none, .asg (tm 113), false⟩] kR kR ?_
              refine r_run ?_
              refine r_callG [1000] (part_ok c d4 x y q (by omega) (by omega) (by omega) (by omega)) (fun r5 hr5 => ?_)
              obtain ⟨mid, ap, d5⟩ := r5
              have hI := round_part hS (partition_holds _) hq1 hq2 (by omega) hB4 hr5.symm
              clear hr5
              obtain ⟨hI1, hI2, hI3, hI4, hI5, hI6, hI7⟩ := hI
              refine r_run ?_
              refine r_end [0, 1, 2, 3, 4, 10, 11, 12, 13, 14, 15, 16, 17, 18, 19, 20, 25, 32, 39, 56, 75, 80, 97, 125] ?_
              refine a_seq ?_
              have hs5 : d5.size = d.size := hI3.trans hs4
              have hw7 : IntKind.i64.wrap ((mid : Int) - (x : Int)) = ((mid - x : Nat) : Int) := wrap64_nat _ _ (by omega) (by omega)
              have hw8 : IntKind.i64.wrap ((y : Int) - (mid : Int)) = ((y - mid : Nat) : Int) := wrap64_nat _ _ (by omega) (by omega)
              have hw9 : IntKind.i64.wrap ((mid : Int) + 1) = ((mid + 1 : Nat) : Int) := wrap64_nat _ _ (by omega) (by omega)
              refine a_reg [⟨some 114, none, .mv (tm 17), false⟩, ⟨some 11, none, .asg (tm 114), false⟩] kR kR ?_
              refine r_run ?_
              refine r_end [0, 1, 2, 3, 4, 10, 11, 12, 13, 14, 15, 16, 17, 18, 19, 20, 25, 32, 39, 56, 75, 80, 97, 125] ?_
              refine a_seq ?_
              refine a_reg [⟨some 115, none, .mv (tm 16), false⟩, ⟨some 116, none, .mv (tm 1), false⟩, ⟨some 117, none, .bin .sub 3 (tm 115) (tm 116) 3, false⟩, ⟨some 118, none, .mv (tm 2), false⟩, ⟨some 119, none, .mv (tm 16), false⟩, ⟨some 120, none, .bin .sub 3 (tm 118) (tm 119) 3, false⟩, ⟨some 18, none, .asg (tm 117), false⟩, ⟨some 19, none, .asg (tm 120), false⟩] kR kR ?_
              refine r_run ?_
              refine r_end [0, 1, 2, 3, 4, 10, 11, 12, 13, 14, 15, 16, 17, 18, 19, 20, 25, 32, 39, 56, 75, 80, 97, 125] ?_
              refine a_seq ?_
              refine a_reg [⟨some 121, none, .mv (tm 12), false⟩, ⟨some 122, none, .bin .quo 3 (tm 121) (ci 8) 3, false⟩, ⟨some 20, none, .asg (tm 122), false⟩] kR kR ?_
              refine r_run ?_
              refine r_end [0, 1, 2, 3, 4, 10, 11, 12, 13, 14, 15, 16, 17, 18, 19, 20, 25, 32, 39, 56, 75, 80, 97, 125] ?_
              refine a_seq ?_
              refine a_reg [⟨some 123, none, .mv (tm 18), false⟩, ⟨some 124, none, .mv (tm 19), false⟩, ⟨some 125, none, .bin .lss 3 (tm 123) (tm 124) 3, false⟩] kR kR ?_
              refine r_run ?_
              refine r_end [0, 1, 2, 3, 4, 10, 11, 12, 13, 14, 15, 16, 17, 18, 19, 20, 25, 32, 39, 56, 75, 80, 97, 125] ?_
              refine c_cond (fun hb7 => ?_) (fun hb7 => ?_)
              · refine a_seq ?_
                refine a_reg [⟨some 126, none, .mv (tm 18), false⟩, ⟨some 127, none, .mv (tm 20), false⟩, ⟨some 128, none, .bin .geq 3 (tm 126) (tm 127) 3, false⟩, ⟨some 10, none, .asg (tm 128), false⟩] kR kR ?_
                refine r_run ?_
                refine r_end [0, 1, 2, 3, 4, 10, 11, 12, 13, 14, 15, 16, 17, 18, 19, 20, 25, 32, 39, 56, 75, 80, 97, 125] ?_
                refine a_seq ?_
                refine a_reg [⟨some 129, none, .mv (tm 0), false⟩, ⟨some 130, none, .mv (tm 1), false⟩, ⟨some 131, none, .mv (tm 16), false⟩, ⟨some 132, none, .mv (tm 3), false⟩, ⟨some 133, none, .mv (tm 4), false⟩, ⟨some 134, none, .call 61 [(tm 129), (tm 130), (tm 131), (tm 132), (tm 133)] [71, 3, 3, 3, 109], false⟩] kR kR ?_
                refine r_run ?_
                refine r_callG [1000] (IH (mid - x) (by omega) d5 x mid l2 (Nat.le_refl _) (by omega) (by omega) (by omega) (by omega) hI4) (fun d6 hd6 => ?_)
                refine r_run ?_
                refine r_end [0, 1, 2, 3, 4, 10, 11, 12, 13, 14, 15, 16, 17, 18, 19, 20, 25, 32, 39, 56, 75, 80, 97, 125] ?_
                refine a_reg [⟨some 135, none, .mv (tm 16), false⟩, ⟨some 136, none, .bin .add 3 (tm 135) (ci 1) 3, false⟩, ⟨some 1, none, .asg (tm 136), false⟩] kR kR ?_
                refine r_run ?_
                refine r_end [0, 1, 2, 3, 4, 10, 11, 12, 13, 14, 15, 16, 17, 18, 19, 20, 25, 32, 39, 56, 75, 80, 97, 125] ?_
                refine a_nil ?_
                refine x_end ?_
                refine a_nil ?_
                refine x_weak [0, 1, 2, 3, 4, 10, 11] ?_
                exact x_next (y - (mid + 1)) (by omega) (⟨mid + 1, y, l2, _, ap, d6, rfl, by omega, by omega, by omega, hl2, hd6.1.1.trans hs5, (hI6 d6 hd6.1 hd6.2).1, fun R h1 h2 => (fun h3 => hfin4 R h3.1 h3.2) ((hI6 d6 hd6.1 hd6.2).2 R h1 h2), rfl, rfl⟩)
              · refine a_seq ?_
                refine a_reg [⟨some 137, none, .mv (tm 19), false⟩, ⟨some 138, none, .mv (tm 20), false⟩, ⟨some 139, none, .bin .geq 3 (tm 137) (tm 138) 3, false⟩, ⟨some 10, none, .asg (tm 139), false⟩] kR kR ?_
                refine r_run ?_
                refine r_end [0, 1, 2, 3, 4, 10, 11, 12, 13, 14, 15, 16, 17, 18, 19, 20, 25, 32, 39, 56, 75, 80, 97, 125] ?_
                refine a_seq ?_
                refine a_reg [⟨some 140, none, .mv (tm 0), false⟩, ⟨some 141, none, .mv (tm 16), false⟩, ⟨some 142, none, .bin .add 3 (tm 141) (ci 1) 3, false⟩, ⟨some 143, none, .mv (tm 2), false⟩, ⟨some 144, none, .mv (tm 3), false⟩, ⟨some 145, none, .mv (tm 4), false⟩, ⟨some 146, none, .call 61 [(tm 140), (tm 142), (tm 143), (tm 144), (tm 145)] [71, 3, 3, 3, 109], false⟩] kR kR ?_
                refine r_run ?_
                refine r_callG [1000] (IH (y - (mid + 1)) (by omega) d5 (mid + 1) y l2 (Nat.le_refl _) (by omega) (by omega) (by omega) (by omega) hI5) (fun d6 hd6 => ?_)
                refine r_run ?_
                refine r_end [0, 1, 2, 3, 4, 10, 11, 12, 13, 14, 15, 16, 17, 18, 19, 20, 25, 32, 39, 56, 75, 80, 97, 125] ?_
                refine a_reg [⟨some 147, none, .mv (tm 16), false⟩, ⟨some 2, none, .asg (tm 147), false⟩] kR kR ?_
                refine r_run ?_
                refine r_end [0, 1, 2, 3, 4, 10, 11, 12, 13, 14, 15, 16, 17, 18, 19, 20, 25, 32, 39, 56, 75, 80, 97, 125] ?_
                refine a_nil ?_
                refine x_end ?_
                refine a_nil ?_
                refine x_weak [0, 1, 2, 3, 4, 10, 11] ?_
                exact x_next (mid - x) (by omega) (⟨x, mid, l2, _, ap, d6, rfl, by omega, by omega, by omega, hl2, hd6.1.1.trans hs5, (hI7 d6 hd6.1 hd6.2).1, fun R h1 h2 => (fun h3 => hfin4 R h3.1 h3.2) ((hI7 d6 hd6.1 hd6.2).2 R h1 h2), rfl, rfl⟩)
end
end Go.Proofs.Ytielfejpnkcjbaa.SortE

/- Sorting rivulet/age.Entry: the whole. -/
set_option linter.unusedVariables false
set_option linter.unusedSimpArgs false
namespace Go.Proofs.Ytielfejpnkcjbaa.SortE
open Sl Ab Go.Sort
section
variable {α : Type} [Inhabited α] {e : Enc α 15} {cmp : α → α → Int}
theorem sort_ok (c : CmpFn Try.prog e cmp) (hS : SWO (ltOf cmp)) (d : Array α) (hs : d.size ≤ 1000000000) :
    GCall Try.prog 50 [.os 1000, .fz c.fv] [(1000, .rows 64 15 (rw e d))] (Array α) (fun d' => PermIn 0 d.size d d' ∧ SortedIn (ltOf cmp) 0 d.size d') (fun d' => [(1000, .rows 64 15 (rw e d'))]) (fun _ => .tup []) := by
  refine g_enter1 Try.func50 rfl (fun h0 => ?_)
  simp only [argG]
  have hR : ∀ d : Array α, (rw e d).length = d.size := fun _ => rw_length
  have hw : IntKind.u64.wrap (d.size : Int) = (d.size : Int) := wrapU64 _ (by omega)
  have hl : bitsLen d.size ≤ 30 := (bitsLen_le_iff d.size 30).2 (by omega)
  refine a_seq ?_
  refine a_reg [⟨some 5, none, .mv (tm 0), false⟩, ⟨some 6, none, .len 71 (tm 5) 64, false⟩, ⟨some 4, none, .asg (tm 6), false⟩] kR kR ?_
  refine r_run ?_
  refine r_end [0, 1, 4] ?_
  refine a_reg [⟨some 7, none, .mv (tm 0), false⟩, ⟨some 8, none, .mv (tm 4), false⟩, ⟨some 9, none, .mv (tm 4), false⟩, ⟨some 10, none, .conv 3 41 (tm 9) .u64, false⟩, ⟨some 11, none, .call 62 [(tm 10)] [41], false⟩, ⟨some 12, none, .mv (tm 1), false⟩, ⟨some 13, none, .call 61 [(tm 7), (ci 0), (tm 8), (tm 11), (tm 12)] [71, 3, 3, 3, 109], false⟩] kR kR ?_
  refine r_run ?_
  refine r_call (blen_ok d.size (by omega)) ?_
  refine r_run ?_
  refine r_callG [1000] (pdq_ok c hS d.size d 0 d.size (bitsLen d.size) (by omega) (by omega) (by omega) hs (by omega) (.inl rfl)) (fun d2 hd2 => ?_)
  refine r_run ?_
  refine r_end [0, 1, 4] ?_
  refine a_nil ?_
  refine y_retG [] (d2) [1000] ?_ ?_ ?_
  · exact hd2
  · exact rfl
  · exact frep_of rfl
end
end Go.Proofs.Ytielfejpnkcjbaa.SortE

/- All of a table's. -/
set_option linter.unusedVariables false
set_option linter.unusedSimpArgs false
namespace Go.Proofs.Ytielfejpnkcjbaa
open Sl Ab Go.Sort
theorem own_p (m : MsgA) (hn : m.srcs.length ≤ 1000000) : PureCall Try.prog 47 [.agg (encMs m)] (.agg (encMs m)) := by
  intro h vs r
  obtain ⟨v1, vs, rfl, r1, r⟩ := r.uncons
  have : vs = [] := List.length_eq_zero_iff.1 r.1
  subst this
  obtain ⟨sv, rfl, hc, h1⟩ := msgV_of r1
  refine (own_ok m sv hc hn h1).mono ?_
  rintro r h' ⟨hle, sv', rfl, hc', h1', _⟩
  refine ⟨hle, ?_⟩
  have h1 : FReps h' (encMs m) [.int .i64 m.kind, .int .u32 m.frm, .int .u32 m.to, .int .u32 m.src, .int .u32 m.grp, .int .i64 m.rank, .int .i64 m.cost, .bool m.only, sv'] :=
    .cons (.val _) (.cons (.val _) (.cons (.val _) (.cons (.val _) (.cons (.val _) (.cons (.val _) (.cons (.val _) (.cons (.val _) (.cons (frep_cells hc') FReps.nil'))))))))
  exact .agg h1.1 h1.2
theorem compare_p (a b : ThK) : PureCall Try.prog 49 [.agg (encTh a), .agg (encTh b)] (vI (cmpT a b)) := by
  intro h vs r
  obtain ⟨v1, vs, rfl, r1, r⟩ := r.uncons
  obtain ⟨v2, vs, rfl, r2, r⟩ := r.uncons
  have : vs = [] := List.length_eq_zero_iff.1 r.1
  subst this
  cases thV_of r1
  cases thV_of r2
  refine (compare_ok a b h).mono ?_
  rintro r h' ⟨hle, rfl⟩
  exact ⟨hle, .val _⟩
instance : Inhabited AT := ⟨⟨kzero, 0, mzero⟩⟩
def encA : Enc AT 15 := ⟨fun x => encEn x.key x.age x.msg, fun _ => rfl, fun _ => rfl⟩
def cmpA (x y : AT) : Int := cmpT x.key y.key
theorem allcmp_p (x y : AT) : PureCall Try.prog 51 [.agg (encA.f x), .agg (encA.f y)] (vI (cmpA x y)) := by
  have hE : ∀ x : AT, encA.f x = [vI x.key.1.1, vI x.key.1.2.1, vU x.key.1.2.2, vU x.key.2.1, vU x.key.2.2, vI x.age, vI x.msg.kind, vU x.msg.frm, vU x.msg.to, vU x.msg.src, vU x.msg.grp, vI x.msg.rank, vI x.msg.cost, vB x.msg.only, encSr x.msg.srcs] := fun _ => rfl
  have hS : ∀ xs, encSr xs = slOf (fun z => [.val (.int .u32 z)]) xs := fun _ => rfl
  rw [hE, hE]
  refine p_enter Try.func51 rfl (fun h0 => ?_)
  simp only [argT]
  refine a_seq ?_
  refine a_reg [⟨some 2, none, .box 64 (tm 0) true, false⟩, ⟨some 3, none, .box 64 (tm 1) true, false⟩, ⟨some 4, none, .asg (ci 0), false⟩] kR kR ?_
  refine r_run ?_
  refine r_end [0, 1, 2, 3, 4] ?_
  refine a_seq ?_
  refine a_reg [⟨some 5, none, .fa 64 (tm 2) 0 0 5, false⟩, ⟨some 6, none, .ldN 57 (tm 5) 5, false⟩, ⟨some 7, none, .fa 64 (tm 3) 0 0 5, false⟩, ⟨some 8, none, .ldN 57 (tm 7) 5, false⟩, ⟨some 9, none, .call 49 [(tm 6), (tm 8)] [57, 57], false⟩, ⟨some 4, none, .asg (tm 9), false⟩] kR kR ?_
  refine r_run ?_
  refine r_call (compare_p x.key y.key) ?_
  refine r_run ?_
  refine r_end [0, 1, 2, 3, 4] ?_
  refine a_ret ?_
  refine y_ret1 (.tmp 4) (none) ?_
  exact frep_of rfl
def cmpFn : CmpFn Try.prog encA cmpA := ⟨51, [], [], by kernel_rfl, allcmp_p⟩
end Go.Proofs.Ytielfejpnkcjbaa

/- The order of things. -/
set_option linter.unusedVariables false
set_option linter.unusedSimpArgs false
namespace Go.Proofs.Ytielfejpnkcjbaa
open Sl Ab Go.Sort
theorem cmpT_lt (a b : ThK) : cmpT a b < 0 ↔ a.1.1 < b.1.1 ∨ (a.1.1 = b.1.1 ∧ (a.1.2.1 < b.1.2.1 ∨ (a.1.2.1 = b.1.2.1 ∧ (a.2.2 < b.2.2 ∨ (a.2.2 = b.2.2 ∧ (a.2.1 < b.2.1 ∨ (a.2.1 = b.2.1 ∧ a.1.2.2 < b.1.2.2))))))) := by
  unfold cmpT
  have h : ∀ (x y : Int) (l : List Int), orI (cmpI x y :: l) < 0 ↔ x < y ∨ (x = y ∧ orI l < 0) := by
    intro x y l
    unfold cmpI orI
    rcases Int.lt_trichotomy x y with h | h | h
    · simp [h]
    · subst h; simp
    · have h1 : ¬ x < y := by omega
      have h2 : ¬ x = y := by omega
      simp [h1, h2, h]
  rw [h, h, h, h, h]
  simp [orI]
theorem swoA : SWO (ltOf cmpA) where
  irrefl x := by
    simp only [ltOf, cmpA, cmpT_lt, decide_eq_false_iff_not]; omega
  trans x y z h1 h2 := by
    simp only [ltOf, cmpA, cmpT_lt, decide_eq_true_eq] at *; omega
  ntrans x y z h1 h2 := by
    simp only [ltOf, cmpA, cmpT_lt, decide_eq_false_iff_not] at *; omega
end Go.Proofs.Ytielfejpnkcjbaa

/- All of a table's, of one kind, in order. -/
set_option linter.unusedVariables false
set_option linter.unusedSimpArgs false
namespace Go.Proofs.Ytielfejpnkcjbaa
open Sl Ab Go.Sort
def ofKind (kind : Int) (x : AT) : Bool := x.key.1.1 == kind
def selR (kind : Int) (seen : List Nat) (rs : List Rc) : List Rc := rs.filter fun r => decide (r.born ∈ seen) && ofKind kind r.t
theorem selR_step {kind : Int} {rs : List Rc} (nb : (rs.map Rc.born).Nodup) {r : Rc} (hr : r ∈ rs) {seen : List Nat} (hs : r.born ∉ seen) : (selR kind (seen ++ [r.born]) rs).Perm (if ofKind kind r.t = true then selR kind seen rs ++ [r] else selR kind seen rs) := by
  unfold selR
  induction rs with
  | nil => cases hr
  | cons a t ih =>
    simp only [List.map_cons, List.nodup_cons] at nb
    have other : ∀ x ∈ t, x.born = r.born → a ≠ r := fun x hx e e1 => nb.1 (by rw [e1, ← e]; exact List.mem_map.2 ⟨x, hx, rfl⟩)
    by_cases ha : a = r
    · subst ha
      have htail : (t.filter fun x => decide (x.born ∈ seen ++ [a.born]) && ofKind kind x.t) = t.filter fun x => decide (x.born ∈ seen) && ofKind kind x.t := by
        apply List.filter_congr
        intro x hx
        have : ¬ x.born = a.born := fun e => other x hx e rfl
        simp [this]
      rw [List.filter_cons, List.filter_cons, htail]
      have h1 : decide (a.born ∈ seen) = false := by simpa using hs
      rw [h1]
      simp only [List.mem_append, List.mem_singleton, or_true, decide_true, Bool.true_and, Bool.false_and, Bool.false_eq_true, if_false]
      split
      · exact (List.perm_append_singleton a _).symm
      · exact .refl _
    · have hr' : r ∈ t := by
        rcases List.mem_cons.1 hr with h | h
        · exact absurd h.symm ha
        · exact h
      have hab : ¬ a.born = r.born := fun e => nb.1 (by rw [e]; exact List.mem_map.2 ⟨r, hr', rfl⟩)
      have ih' := ih nb.2 hr'
      rw [List.filter_cons, List.filter_cons]
      have h1 : decide (a.born ∈ seen ++ [r.born]) = decide (a.born ∈ seen) := by simp [hab]
      rw [h1]
      by_cases hc : (decide (a.born ∈ seen) && ofKind kind a.t) = true
      · rw [if_pos hc, if_pos hc]
        by_cases hk : ofKind kind r.t = true
        · rw [if_pos hk] at ih' ⊢; exact ih'.cons a
        · rw [if_neg hk] at ih' ⊢; exact ih'.cons a
      · rw [if_neg hc, if_neg hc]; exact ih'
theorem selR_all {kind : Int} {rs : List Rc} {seen : List Nat} (h : ∀ r ∈ rs, r.born ∈ seen) : selR kind seen rs = rs.filter fun r => ofKind kind r.t := by
  unfold selR
  apply List.filter_congr
  intro x hx
  simp [h x hx]
/-- What All answers. -/
def AllAns (ts : List AT) (kind : Int) (l : List AT) : Prop := l.Perm (ts.filter (ofKind kind)) ∧ ∀ i j, i < j → j < l.length → ¬ cmpA (l.getD j default) (l.getD i default) < 0
theorem ans_of {ts : List AT} {kind : Int} {out : List AT} (hp : out.Perm (ts.filter (ofKind kind))) {d : Array AT} (hd : PermIn 0 out.toArray.size out.toArray d ∧ SortedIn (ltOf cmpA) 0 out.toArray.size d) : AllAns ts kind d.toList := by
  obtain ⟨⟨hsz, _, hpm⟩, hs⟩ := hd
  have e1 : d.extract 0 out.toArray.size = d := by rw [← hsz]; simp
  have e2 : out.toArray.extract 0 out.toArray.size = out.toArray := by simp
  rw [e1, e2] at hpm
  refine ⟨hpm.trans hp, fun i j hij hj h => ?_⟩
  have := hs i j (Nat.zero_le _) hij (by rw [← hsz]; simpa using hj)
  simp only [ltOf, decide_eq_false_iff_not] at this
  have g : ∀ k, k < d.toList.length → d.toList.getD k default = d[k]! := fun k hk => by
    have hk' : k < d.size := by simpa using hk
    simp [hk', List.getD_eq_getElem?_getD]
  rw [g i (by omega), g j hj] at h
  exact this h
theorem all1_g (p : Nat) (ty : TypeId) (mv : Value) (rs : List Rc) (cl : Nat) (D : Nat → Prop) (kind : Int) (hDp : D p) (hDm : ∀ b, mvB mv b → D b) (hno : ∀ r ∈ rs, r.msg.srcs.length ≤ 1000000 ∧ FRep (fun _ => none) (.agg (encEn r.key r.age r.msg)) (entV r.key r.age r.msg r.sv)) (nb : (rs.map Rc.born).Nodup) (few : rs.length ≤ 1000000) :
    GCall Try.prog 29 [.oe 1000 1 0 0, .fz (vI kind)] [(1000, .ext D (phT p ty mv (rs.map Rc.ey) cl none))] (List AT) (fun l => AllAns (rs.map Rc.t) kind l) (fun _ => [(1000, .ext D (phT p ty mv (rs.map Rc.ey) cl none))]) (fun l => slOf encA.f l) := by
  refine g_enter Try.func29 rfl (fun x hx => ?_) (fun y _ e he => ⟨_, List.mem_singleton.2 rfl, ?_, fun v b h => ?_⟩) (fun y _ e he => ⟨_, List.mem_singleton.2 rfl, ?_, fun v b h => ?_⟩) (fun _ _ => rfl) (fun h0 => ?_)
  · rw [List.mem_singleton.1 hx]; exact Nat.le_refl _
  · rw [List.mem_singleton.1 he]
  · rw [List.mem_singleton.1 he] at h; exact h
  · rw [List.mem_singleton.1 he]
  · rw [List.mem_singleton.1 he] at h; exact h
  simp only [argG]
  have hK : ∀ e ∈ rs.map Rc.ey, FRep h0.h (.agg (encTh e.key)) (thV e.key) ∧ FRep h0.h (.val e.val) e.val := fun e he => ⟨by
    have h1 : FReps h0.h (encTh e.key) [.int .i64 e.key.1.1, .int .i64 e.key.1.2.1, .int .u32 e.key.1.2.2, .int .u32 e.key.2.1, .int .u32 e.key.2.2] := .cons (.val _) (.cons (.val _) (.cons (.val _) (.cons (.val _) (.cons (.val _) FReps.nil'))))
    exact .agg h1.1 h1.2, .val _⟩
  have hTh : ∀ k : ThK, encTh k = [vI k.1.1, vI k.1.2.1, vU k.1.2.2, vU k.2.1, vU k.2.2] := fun _ => rfl
  have hEn : ∀ (k : ThK) (ag : Int) (m : MsgA), encEn k ag m = [vI k.1.1, vI k.1.2.1, vU k.1.2.2, vU k.2.1, vU k.2.2, vI ag, vI m.kind, vU m.frm, vU m.to, vU m.src, vU m.grp, vI m.rank, vI m.cost, vB m.only, encSr m.srcs] := fun _ _ _ => rfl
  have hMs : ∀ m : MsgA, encMs m = [vI m.kind, vU m.frm, vU m.to, vU m.src, vU m.grp, vI m.rank, vI m.cost, vB m.only, encSr m.srcs] := fun _ => rfl
  have hSr : ∀ xs, encSr xs = slOf (fun z => [.val (.int .u32 z)]) xs := fun _ => rfl
  have hnN : ∀ r ∈ rs, ∀ seen : List Nat, seen.Nodup → (∀ b ∈ seen, b ∈ rs.map Rc.born) → r.born ∉ seen → (seen ++ [r.born]).Nodup ∧ (∀ b ∈ seen ++ [r.born], b ∈ rs.map Rc.born) ∧ rs.length - (seen ++ [r.born]).length < rs.length - seen.length := by
    intro r hr seen hsn hsub hs
    have h1 : (seen ++ [r.born]).Nodup := by
      rw [List.nodup_append]
      exact ⟨hsn, by simp, fun a ha b hb => by rw [List.mem_singleton.1 hb]; exact fun e => hs (by rw [← e]; exact ha)⟩
    have h2 : ∀ b ∈ seen ++ [r.born], b ∈ rs.map Rc.born := fun b hb => by
      rcases List.mem_append.1 hb with h | h
      · exact hsub b h
      · rw [List.mem_singleton.1 h]; exact List.mem_map.2 ⟨r, hr, rfl⟩
    refine ⟨h1, h2, ?_⟩
    have h3 := List.Nodup.length_le_of_subset h1 (fun b hb => h2 b hb)
    simp at h3 ⊢
    omega
  refine a_seq ?_
  refine a_reg [⟨some 4, none, .asg (.const (Value.slice none 0 0)), false⟩] kR kR ?_
  refine r_run ?_
  refine r_end [0, 1, 4, 5, 6, 7, 12, 14, 21] ?_
  refine a_seq ?_
  refine a_reg [⟨some 5, none, .asg (.const (Value.slice none 0 0)), false⟩] kR kR ?_
  refine r_run ?_
  refine r_end [0, 1, 4, 5, 6, 7, 12, 14, 21] ?_
  refine a_seq ?_
  refine a_seq ?_
  refine a_reg [⟨some 8, none, .mv (tm 0), false⟩, ⟨some 9, none, .nilc (tm 8), false⟩, ⟨some 10, none, .fa 60 (tm 9) 0 0 1, false⟩, ⟨some 11, none, .ld 58 (tm 10), false⟩, ⟨some 12, none, .other (Op.range 58 (Operand.tmp 11)), false⟩] kR kR ?_
  refine r_run ?_
  refine r_ldT kR hDp hDm rfl rfl ?_
  refine r_run ?_
  refine r_rangeT Try.underlying58 hDp hDm rfl rfl (fun it hit => ?_)
  refine r_run ?_
  refine r_end [0, 1, 4, 5, 6, 7, 12, 14, 21] ?_
  refine a_nilown 5 5 64 15 rfl rfl ?_
  refine a_block ?_
  refine c_weak [0, 1, 5, 12] ?_
  refine a_loop (fun m T σ => ∃ (seen : List Nat) (out : List AT), m = rs.length - seen.length ∧ seen.Nodup ∧ (∀ b ∈ seen, b ∈ rs.map Rc.born) ∧ out.Perm ((selR kind seen rs).map Rc.t) ∧ T = [(0, .oe 1000 1 0 0), (1, .fz (vI kind)), (5, .os 5), (12, .fz (.val (.pointer (some ⟨it, 0, none⟩))))] ∧ σ = [(5, .rows 64 15 (out.map encA.f)), (1000, .ext (addB D it) (phT p ty mv (rs.map Rc.ey) cl (some (it, seen))))]) (rs.length) (⟨[], [], by simp, by simp, by simp, by simp [selR], rfl, rfl⟩) ?_
  rintro m T σ ⟨seen, out, hm, hsn, hsub, hperm, rfl, rfl⟩
  have hol : out.length ≤ 1000000 := by rw [hperm.length_eq, List.length_map]; exact Nat.le_trans (List.length_filter_le _ _) few
  refine a_seq ?_
  refine a_reg [⟨some 13, none, .other (Op.next (Operand.tmp 12) false), false⟩, ⟨some 14, none, .ext (tm 13) 0, false⟩] kR kR ?_
  refine r_run ?_
  refine r_nextY (fun e => .agg (encTh e.key)) (fun e => .val e.val) hK hDp hDm hit rfl rfl (fun y hy1 hy2 => ?_)
  refine r_run ?_
  refine r_end [0, 1, 4, 5, 6, 7, 12, 14, 21] ?_
  refine a_seq ?_
  refine c_cond (fun hb0 => ?_) (fun hb0 => ?_)
  · obtain ⟨e, rfl⟩ := Option.isSome_iff_exists.1 hb0
    obtain ⟨he, hes⟩ := hy2 e rfl
    obtain ⟨r, hr, rfl⟩ := List.mem_map.1 he
    obtain ⟨hsrc, hent⟩ := hno r hr
    have hent' : FRep h0.h (.agg (encEn r.key r.age r.msg)) (entV r.key r.age r.msg r.sv) := hent.le (fun b o e => by cases e)
    refine a_skip ?_
    refine a_block ?_
    refine a_seq ?_
    refine a_reg [⟨some 15, none, .other (Op.entry (Operand.tmp 12)), false⟩, ⟨some 16, none, .ext (tm 15) 0, false⟩, ⟨some 17, none, .ext (tm 15) 1, false⟩, ⟨some 6, none, .alc 57 [.int .i64 0, .int .i64 0, .int .u32 0, .int .u32 0, .int .u32 0] false, false⟩, ⟨some 7, none, .alc 64 [.int .i64 0, .int .i64 0, .int .u32 0, .int .u32 0, .int .u32 0, .int .i64 0, .int .i64 0, .int .u32 0, .int .u32 0, .int .u32 0, .int .u32 0, .int .i64 0, .int .i64 0, .bool false, .slice none 0 0] false, false⟩, ⟨none, none, .stN 57 (tm 6) (tm 16) 5, false⟩, ⟨none, none, .stN 64 (tm 7) (tm 17) 15, false⟩] kR kR ?_
    refine r_run ?_
    refine r_entryT (.agg (encTh r.key)) (.agg (encEn r.key r.age r.msg)) (hK _ he).1 hent' he rfl hDp hDm rfl rfl ?_
    refine r_run ?_
    refine r_end [0, 1, 4, 5, 6, 7, 12, 14, 21] ?_
    refine a_seq ?_
    refine a_reg [⟨some 18, none, .fa 57 (tm 6) 0 0 1, false⟩, ⟨some 19, none, .ld 3 (tm 18), false⟩, ⟨some 20, none, .mv (tm 1), false⟩, ⟨some 21, none, .bin .eql 3 (tm 19) (tm 20) 3, false⟩] kR kR ?_
    refine r_run ?_
    refine r_end [0, 1, 4, 5, 6, 7, 12, 14, 21] ?_
    refine c_cond (fun hb1 => ?_) (fun hb1 => ?_)
    · have hkr : ofKind kind r.t = true := hb1
      refine a_seq ?_
      refine a_reg [⟨some 22, none, .fa 64 (tm 7) 2 6 9, false⟩, ⟨some 23, none, .ldN 55 (tm 22) 9, false⟩, ⟨some 24, none, .call 47 [(tm 23)] [55], false⟩, ⟨some 25, none, .fa 64 (tm 7) 2 6 9, false⟩, ⟨none, none, .stN 55 (tm 25) (tm 24) 9, false⟩] kR kR ?_
      refine r_run ?_
      refine r_call (own_p r.msg hsrc) ?_
      refine r_run ?_
      refine r_end [0, 1, 4, 5, 6, 7, 12, 14, 21] ?_
      refine a_reg [⟨some 26, none, .mv (tm 5), false⟩, ⟨some 27, none, .ldN 64 (tm 7) 15, false⟩, ⟨some 28, none, .bsl 71 1 [(0, (tm 27))] 64 15 true, false⟩, ⟨some 29, none, .app 71 71 (tm 26) (tm 28) 64 64 15, false⟩, ⟨some 5, none, .asg (tm 29), false⟩] kR kR ?_
      refine r_runO ?_ ?_
      · ((repeat' (first | refine ⟨?_, ?_⟩ | trivial)) <;> first | (intro x hx; rw [List.mem_singleton.1 hx]; rfl) | (simp; done) | (simp; omega))
      refine r_end [0, 1, 4, 5, 6, 7, 12, 14, 21] ?_
      refine a_nil ?_
      refine x_end ?_
      refine a_nil ?_
      refine x_weak [0, 1, 5, 12] ?_
      exact x_next (rs.length - (seen ++ [r.born]).length) (by rw [hm]; exact (hnN r hr seen hsn hsub hes).2.2) (⟨seen ++ [r.born], out ++ [r.t], rfl, (hnN r hr seen hsn hsub hes).1, (hnN r hr seen hsn hsub hes).2.1, by refine .trans ?_ ((selR_step nb hr hes).symm.map Rc.t); rw [if_pos hkr, List.map_append]; exact hperm.append_right _, rfl, by simp only [List.map_append]; rfl⟩)
    · have hkr : ofKind kind r.t = false := hb1
      refine a_skip ?_
      refine a_nil ?_
      refine x_end ?_
      refine a_nil ?_
      refine x_weak [0, 1, 5, 12] ?_
      exact x_next (rs.length - (seen ++ [r.born]).length) (by rw [hm]; exact (hnN r hr seen hsn hsub hes).2.2) (⟨seen ++ [r.born], out, rfl, (hnN r hr seen hsn hsub hes).1, (hnN r hr seen hsn hsub hes).2.1, by refine .trans ?_ ((selR_step nb hr hes).symm.map Rc.t); rw [if_neg (by rw [hkr]; decide)]; exact hperm, rfl, rfl⟩)
  · have hyn : y = none := by simpa using hb0
    subst hyn
    have hall := hy1 rfl
    have hrwE : out.map encA.f = rw encA out.toArray := rfl
    have hp2 : out.Perm ((rs.map Rc.t).filter (ofKind kind)) := by rw [selR_all (fun r hr => hall _ (List.mem_map.2 ⟨r, hr, rfl⟩))] at hperm; rw [List.filter_map]; exact hperm
    refine a_exit ?_
    refine x_then ?_
    refine x_here ?_
    refine a_seq ?_
    refine a_reg [⟨some 30, none, .mv (tm 5), false⟩, ⟨some 31, none, .call 50 [(tm 30), (Operand.func 51)] [71, 109], false⟩] kR kR ?_
    refine r_run ?_
    refine r_callG [5] (SortE.sort_ok cmpFn swoA out.toArray (by simp; omega)) (fun d hd => ?_)
    refine r_run ?_
    refine r_end [0, 1, 4, 5, 6, 7, 12, 14, 21] ?_
    refine a_seq ?_
    refine a_reg [⟨some 32, none, .mv (tm 5), false⟩, ⟨some 4, none, .asg (tm 32), false⟩] kR kR ?_
    refine r_run ?_
    refine r_end [0, 1, 4, 5, 6, 7, 12, 14, 21] ?_
    refine a_freeze 4 5 rfl rfl ?_
    refine a_shrink (id := 1000) (D := D) (Φ := phT p ty mv (rs.map Rc.ey) cl none) rfl (fun b h => .inl h) (fun β h hp b hb => by rw [hp.1] at hb; simp only [baseOf, Option.some.injEq] at hb; rw [← hb]; exact hDp) (fun v h hp => ⟨hp.1, hp.2.1, hp.2.2.1, fun _ _ e => by cases e⟩) (fun v h h' hp e => hp.same (e p hDp) (fun b hb => e b (hDm b hb)) (fun _ _ e => by cases e)) ?_
    simp only [setT, pT, pA, delS, setS, ↓reduceIte, Nat.reduceEqDiff, reduceCtorEq, Nat.reduceBEq]
    refine a_ret ?_
    refine y_retG1 (.tmp 4) (none) (d.toList) [1000] ?_ ?_ ?_
    · exact ans_of hp2 hd
    · exact rfl
    · exact sl_rows encA.f d.toList
end Go.Proofs.Ytielfejpnkcjbaa

/- All, over the table as an object (messages without lists). -/
set_option linter.unusedVariables false
set_option linter.unusedSimpArgs false
namespace Go.Proofs.Ytielfejpnkcjbaa
open Sl Ab Go.Sort
theorem cells_any {h h' : Heap} {sv : Value} {cs : List Value} (c : Cells h 1 sv 0 cs) : Cells h' 1 sv 0 cs := by
  generalize hn : 0 = n at c
  cases c with
  | zero a c => exact .zero a c
  | at_ hb hl hnc hc =>
    subst hn
    have : _ = [] := List.length_eq_zero_iff.1 (by simpa using hl)
    subst this
    exact .zero _ _
theorem RowD.any {h h' : Heap} {D : Nat → Prop} {r : Rc} (x : RowD h D r) (e : r.msg.srcs = []) : RowD h' D r :=
  ⟨by have := x.cells; rw [e] at this ⊢; exact cells_any this, x.blk, x.len, x.one, x.age0, x.age3⟩
theorem all_g (ts : List AT) (D : Nat → Prop) (kind : Int) (hno : ∀ x ∈ ts, x.msg.srcs = []) (few : ts.length ≤ 1000000) :
    GCall Try.prog 29 [.oe 1000 1 0 0, .fz (vI kind)] [(1000, tbO ts D)] (List AT) (fun l => AllAns ts kind l) (fun _ => [(1000, tbO ts D)]) (fun l => slOf encA.f l) := by
  intro γ hF h vs ok only r
  obtain ⟨k1, k2, k3⟩ := ok.ok (1000, tbO ts D) (List.mem_singleton.2 rfl)
  obtain ⟨p, hp, tb⟩ := k3 h (fun _ _ => rfl)
  obtain ⟨mv, ty, hpc, hDp, hmap⟩ := tb.out
  obtain ⟨rs, cl, hmv, hts, hDm, hrow, nb⟩ : ∃ (rs : List Rc) (cl : Nat), MapV thV h mv (rs.map Rc.ey) cl ∧ ts = rs.map Rc.t ∧ (∀ b, mvB mv b → D b) ∧ (∀ r ∈ rs, RowD h D r) ∧ (rs.map Rc.born).Nodup := by
    rcases hmap with ⟨rfl, rfl⟩ | ⟨mb, rs, cl, rfl, hDm, him, rfl, hrow⟩
    · exact ⟨[], 0, .inl ⟨rfl, rfl⟩, rfl, fun b hb => (by cases hb), fun r hr => (by cases hr), List.nodup_nil⟩
    · exact ⟨rs, cl, .inr ⟨mb, rfl, him⟩, rfl, fun b hb => (by cases hb; exact hDm), hrow, by have := him.2.1; rw [List.map_map] at this; exact this⟩
  subst hts
  have hsr : ∀ r ∈ rs, r.msg.srcs = [] := fun r hr => hno r.t (List.mem_map.2 ⟨r, hr, rfl⟩)
  have back : ∀ v h', phT p ty mv (rs.map Rc.ey) cl none v h' → (∀ b, D b → h' b ≠ none) → TableAt h' D p (rs.map Rc.t) := fun v h' hph dom => by
    refine ⟨⟨mv, ty, hph.2.1, hDp, ?_⟩, dom⟩
    rcases hph.2.2.1 with ⟨e1, e2⟩ | ⟨mb, e1, e2⟩
    · have : rs = [] := List.map_eq_nil_iff.1 e2
      exact .inl ⟨e1, by rw [this]; rfl⟩
    · exact .inr ⟨mb, rs, cl, e1, hDm mb e1, e2, rfl, fun r hr => (hrow r hr).any (hsr r hr)⟩
  have c := all1_g p ty mv rs cl D kind hDp hDm (fun r hr => ⟨by rw [hsr r hr]; decide, entV_rep (by have := (hrow r hr).cells; rw [hsr r hr] at this ⊢; exact cells_any this)⟩) nb (by simpa using few)
  have ph0 : phT p ty mv (rs.map Rc.ey) cl none (γ 1000) h := ⟨hp, hpc, hmv, fun _ _ e => by cases e⟩
  have ok' : Ok ⟨hF, γ⟩ γ hF h [(1000, .ext D (phT p ty mv (rs.map Rc.ey) cl none))] := by
    refine ⟨ok.le0, ok.le, fun e he => ?_, fun e he b hb => ?_, fun e he e' he' b hne => ?_, ok.fix, by simp⟩
    · rw [List.mem_singleton.1 he]
      exact ⟨k1, k2, fun h' e => ph0.same (e p hDp) (fun b hb => e b (hDm b hb)) (fun _ _ e => by cases e)⟩
    · rw [List.mem_singleton.1 he] at hb
      exact ok.out (1000, tbO (rs.map Rc.t) D) (List.mem_singleton.2 rfl) b hb
    · rw [List.mem_singleton.1 he, List.mem_singleton.1 he'] at hne; exact absurd rfl hne
  refine (c γ hF h vs ok' (fun b hb => (only b hb).imp id fun ⟨e, he, h1⟩ => ⟨_, List.mem_singleton.2 rfl, by rw [List.mem_singleton.1 he] at h1; exact h1⟩) r).mono ?_
  rintro v h' ⟨y, hy, hF', l, ok2, _, hfp, hdom, hres⟩
  obtain ⟨_, k2', k3'⟩ := ok2.ok _ (List.mem_singleton.2 rfl)
  refine ⟨y, hy, hF', l, ⟨ok2.le0, ok2.le, fun e he => ?_, fun e he b hb => ?_, fun e he e' he' b hne => ?_, ok2.fix, by simp⟩, rfl, fun e he b hb => ?_, fun e he b hb => ?_, hres⟩
  · rw [List.mem_singleton.1 he]
    exact ⟨k1, k2', fun h'' e => ⟨p, hp, back _ h'' (k3' h'' e) fun b hb => by rw [e b hb]; exact k2' b hb⟩⟩
  · rw [List.mem_singleton.1 he] at hb
    exact ok2.out _ (List.mem_singleton.2 rfl) b hb
  · rw [List.mem_singleton.1 he, List.mem_singleton.1 he'] at hne; exact absurd rfl hne
  · rw [List.mem_singleton.1 he] at hb ⊢
    exact .inl ⟨_, List.mem_singleton.2 rfl, rfl, hb⟩
  · rw [List.mem_singleton.1 he] at hb
    exact hdom _ (List.mem_singleton.2 rfl) b hb
end Go.Proofs.Ytielfejpnkcjbaa
