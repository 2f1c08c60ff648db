import Derived.Test.YtfbjgbecabbdnaaGreatDoorSs26
import Derived.Test.YtfbjgbecabbdnaaGreatDoorSs27
import Derived.Test.YtfbjgbecabbdnaaGreatDoorSs28
import Derived.Test.YtfbjgbecabbdnaaGreatDoorSs29
import Derived.Test.YtfbjgbecabbdnaaGreatDoorSs30
import Derived.Test.YtfbjgbecabbdnaaGreatDoorSs31
import Derived.Test.YtfbjgbecabbdnaaGreatDoorSs32
import Derived.Test.YtfbjgbecabbdnaaGreatDoorSs33
import Derived.Test.YtfbjgbecabbdnaaGreatDoorRows
import Derived.Test.YtfbjgbecabbdnaaGreatDoorCards
import Derived.Test.YtfbjgbecabbdnaaGreatDoorTie
import Derived.LaidMore
import Derived.OpenShut
import Derived.Stop.Joined
import Derived.SevenTiedAt
/- SolveStars: every case, evaluated. -/
set_option linter.unusedVariables false
set_option maxRecDepth 1000000
namespace Go.Proofs.YtfbjgbecabbdnaaGreatDoor
open Sl Ce
theorem solveStars_all : ∀ (r0 : Nat) (r1 : Nat), r0 < 5 → r1 < r0 + 2 → solveStarsAt r0 r1 = true
  | 0, 0, _, _ => atSolveStars_0_0
  | 0, 1, _, _ => atSolveStars_0_1
  | 1, 0, _, _ => atSolveStars_1_0
  | 1, 1, _, _ => atSolveStars_1_1
  | 1, 2, _, _ => atSolveStars_1_2
  | 2, 0, _, _ => atSolveStars_2_0
  | 2, 1, _, _ => atSolveStars_2_1
  | 2, 2, _, _ => atSolveStars_2_2
  | 2, 3, _, _ => atSolveStars_2_3
  | 3, 0, _, _ => atSolveStars_3_0
  | 3, 1, _, _ => atSolveStars_3_1
  | 3, 2, _, _ => atSolveStars_3_2
  | 3, 3, _, _ => atSolveStars_3_3
  | 3, 4, _, _ => atSolveStars_3_4
  | 4, 0, _, _ => atSolveStars_4_0
  | 4, 1, _, _ => atSolveStars_4_1
  | 4, 2, _, _ => atSolveStars_4_2
  | 4, 3, _, _ => atSolveStars_4_3
  | 4, 4, _, _ => atSolveStars_4_4
  | 4, 5, _, _ => atSolveStars_4_5
  | _ + 5, _, h, _ => by omega
  | 0, _ + 2, _, h => by omega
  | 1, _ + 3, _, h => by omega
  | 2, _ + 4, _, h => by omega
  | 3, _ + 5, _, h => by omega
  | 4, _ + 6, _, h => by omega
theorem solveStars_mixed : Tryz.prog.follows .mixedOrders = true := by kernel_rfl
theorem solveStars_first_ok : SCalls Tryz.prog 13 #[] (fun _ => none) (fun r _ => r = .bool true) := by
  have := true_of solveStars_mixed om0_ok (tab_fit fun _ => undef) solveStars_first_e (vs := []) .nil
  simpa [solveStarsFir, pos_nat] using this
theorem solveStars_ok (a0 : Int) (a1 : Int) : SCalls Tryz.prog 4 #[.int .i64 a0, .int .i64 a1] (fun _ => none) (fun r _ => r = .bool true) := by
  obtain ⟨r0, h0, h0'⟩ : ∃ r0 : Nat, a0 % ((5 : Nat) : Int) = r0 ∧ r0 < 5 := by
    have := Int.emod_nonneg a0 (show ((5 : Nat) : Int) ≠ 0 by omega)
    have := Int.emod_lt_of_pos a0 (show 0 < ((5 : Nat) : Int) by omega)
    exact ⟨(a0 % ((5 : Nat) : Int)).toNat, by omega, by omega⟩
  obtain ⟨r1, h1, h1'⟩ : ∃ r1 : Nat, a1 % ((r0 + 2 : Nat) : Int) = r1 ∧ r1 < r0 + 2 := by
    have := Int.emod_nonneg a1 (show ((r0 + 2 : Nat) : Int) ≠ 0 by omega)
    have := Int.emod_lt_of_pos a1 (show 0 < ((r0 + 2 : Nat) : Int) by omega)
    exact ⟨(a1 % ((r0 + 2 : Nat) : Int)).toNat, by omega, by omega⟩
  let ai : Nat → Int := fun j => if j = 0 then a0 else a1
  have hω : OmOk (kn fun j => .int .i64 (ai j)) (omN solveStarsNum [solveStarsFir] [(0, 5, r0), (1, r0 + 2, r1)]) := by
    refine omN_ok ai (fun _ => rfl) (fun j b r hm => ?_) (by rw [show solveStarsNum.nat - 1 = 14 from by simp [solveStarsNum, pos_nat]]; kernel_rfl) (fun n b h hb hb' => ?_) (fun f hf => ?_)
    · skip
      simp only [List.mem_cons, Prod.mk.injEq, List.not_mem_nil, or_false] at hm
      rcases hm with ⟨rfl, rfl, rfl⟩ | ⟨rfl, rfl, rfl⟩
      · exact ⟨h0, by omega, by omega⟩
      · exact ⟨h1, by omega, by omega⟩
    · rw [show solveStarsNum.nat - 1 = 14 from by simp [solveStarsNum, pos_nat]]
      exact number_ok n b hb hb' h
    · simp only [List.mem_singleton] at hf
      subst hf
      rw [show solveStarsFir.nat - 1 = 13 from by simp [solveStarsFir, pos_nat]]
      exact ⟨by kernel_rfl, solveStars_first_ok⟩
  have := true_of solveStars_mixed hω (tab_fit _) (solveStars_all r0 r1 h0' h1') (vs := [.int .i64 a0, .int .i64 a1]) (.cons (.xi (β := ⟨fun _ => none, _⟩) 0 rfl) (.cons (.xi (β := ⟨fun _ => none, _⟩) 1 rfl) .nil))
  simpa [pos_nat] using this
end Go.Proofs.YtfbjgbecabbdnaaGreatDoor

/- SolveStars: in each case the call says true; the tied card. The conditions: none beyond the card's own. -/
set_option linter.unusedVariables false
namespace Go.Proofs.YtfbjgbecabbdnaaGreatDoor.solveStars
open Go.ChangeShapes Go.WideShapes Go.ChangeAt Go.RowKit Go.Proofs.YtfbjgbecabbdnaaGreatDoor.Sl Go.Proofs.YtfbjgbecabbdnaaGreatDoor.Ce
theorem own : ownKnob Tryz.prog.godebug = none := by kernel_rfl
set_option maxRecDepth 100000 in
theorem door_met (os : Os) (args : Array Value) : laidMetH Tryz.prog Rows.solveStarsRow.laid ((World.doorLaid Tryz.prog 157 os).forCall (fun _ _ => 0) ⟨#[], args, []⟩).memory :=
  laidMetH_of_parts3 (fuel := 8) (laidMet_of_run' 8 kR kR) kR kR
theorem walk (a0 : Int) (a1 : Int) : SCalls Tryz.prog 4 #[.int .i64 a0, .int .i64 a1] (fun _ => none) (fun r _ => r = .bool true) := solveStars_ok a0 a1
set_option maxRecDepth 100000 in
theorem lifted (os : Os) (started : os.Started) (H : Type) (enc : TypeId × Value → H) :
    ReturnsInHanded {} Tryz.checked os 4 .any (fun w args => (Rows.solveStarsSpec.pre enc Tryz.prog Tryz.f4 [] false w args ∧ laidMetH Tryz.prog Rows.solveStarsRow.laid w) ∧ sizedMet enc Tryz.prog Tryz.f4 (OpenSpec.ofChange Rows.solveStarsSpec) false w args)
      (Rows.solveStarsSpec.post enc Tryz.prog Tryz.f4 false true false false) := by
  refine returnsInHanded_of_change_and (C := Tryz.checked) (X := fun w _ => laidMetH Tryz.prog Rows.solveStarsRow.laid w) (fun _ _ _ hh h => h.of_heap hh) own started kR Tryz.func4
    (ChangeSpec.witness_shaped (enc := enc) (C := Tryz.checked) (os := os) (X := fun w _ => laidMetH Tryz.prog Rows.solveStarsRow.laid w) false (World.doorLaid Tryz.prog 157 os) #[.int .i64 0, .int .i64 0] 8 rfl (World.shaped_of_RefB kR kR) kR kR kR (door_met os _)) ?_
  intro W base args ds gs before hval0 hW _ _ _ _
  have hval : ∀ (j : Nat) t v, Tryz.f4.params[j]? = some t → args[j]? = some v → Value.okWide Tryz.prog W .any base t v := hval0
  have hW' := hW
  obtain ⟨p, q, hA0, hV, rfl, hfz, hnd⟩ := hW
  have hA : DataW.TrodAll enc Tryz.prog W 0 (fun _ => true) true Tryz.f4.params.toList args.toList ds p := hA0
  rw [Tryz.params4] at hA hval
  obtain ⟨v0, vs0, d0, ds0, p0, q0, hargs, rfl, rfl, h0, r0⟩ := trodAll_cons hA
  obtain ⟨v1, vs1, d1, ds1, p1, q1, rfl, rfl, rfl, h1, r1⟩ := trodAll_cons r0
  obtain ⟨rfl, rfl, rfl⟩ := trodAll_nil r1
  obtain rfl : args = #[v0, v1] := by cases args; simp_all
  obtain ⟨rfl, rfl⟩ := trodVars_none hV
  obtain ⟨a0, rfl, rfl, rfl, w0⟩ := open_int Tryz.underlying3 (hval 0 3 v0 rfl rfl) h0
  obtain ⟨a1, rfl, rfl, rfl, w1⟩ := open_int Tryz.underlying3 (hval 1 3 v1 rfl rfl) h1
  clear hA0 hval0
  refine (calls_true (walk a0 a1) W).mono fun e W2 ⟨he, hb⟩ => ?_
  subst he
  exact ⟨_, rfl, law_post (tb := 4) kR kR rfl rfl Tryz.underlying4 rfl hW' hb⟩
set_option maxRecDepth 100000 in
theorem jf1 : (Rows.solveStarsRow.inPlace == Tryz.prog.inPlace 4) = true := by kernel_rfl
set_option maxRecDepth 100000 in
theorem jf2 : (Rows.solveStarsRow.unfollowed == Tryz.prog.unfollowed 4) = true := by kernel_rfl
set_option maxRecDepth 100000 in
theorem jf3 : (Rows.solveStarsRow.recurses == Tryz.prog.recurses 4) = true := by kernel_rfl
set_option maxRecDepth 100000 in
theorem jf4 : (Rows.solveStarsRow.named == Tryz.prog.varsNamed 4) = true := by kernel_rfl
set_option maxRecDepth 100000 in
theorem closed : joinedFacts Tryz.prog 4 Tryz.f4 Rows.solveStarsSpec Rows.solveStarsRow = true := by
  unfold joinedFacts
  rw [jf1, jf2, jf3, jf4]
  kernel_rfl
set_option maxRecDepth 100000 in
theorem inst : Tryz.f4.isInstance Tryz.prog Rows.solveStarsRow.origin Rows.solveStarsRow.targs := of_decide_eq_true kR
set_option maxRecDepth 100000 in
theorem wrap : Tryz.f4.isWrapper Tryz.prog Rows.solveStarsRow.wrapper Rows.solveStarsRow.mainSum := by
  unfold Func.isWrapper
  first | (rw [if_pos (by decide +kernel)]; kernel_rfl) | (rw [if_neg (by decide +kernel)]; exact ⟨rfl, rfl⟩)
set_option maxRecDepth 100000 in
theorem over : Rows.SolveStarsSaid :=
  OpenClaim.holds_of_wide 4 Tryz.f4 rfl rfl rfl rfl rfl rfl rfl ⟨rfl, rfl, rfl, rfl, rfl⟩ rfl rfl rfl rfl rfl kR Tryz.func4 closed inst wrap
    (fun os started H enc _ => lifted os started H enc)
set_option maxRecDepth 100000 in
theorem proved : Rows.SolveStarsCardSaid :=
  Claim7.holds_tied_plain_at .later [] Rows.solveStarsCard.laidKinds true Rows.solveStarsCard.stood.harness false
    over (fun _ h => by cases h) kR (fun _ h => by cases h) solveStars_row_tie rfl ⟨rfl, rfl⟩ kR rfl
    (fun f fn hf hfn => by
      obtain rfl : f = 4 := Option.some.inj ((show Tryz.prog.funcNamed "rivulet/rivuletlaw20.SolveStars" = some 4 by kernel_rfl).symm.trans hf) |>.symm
      obtain rfl : fn = Tryz.f4 := (Option.some.inj (Tryz.func4.symm.trans hfn)).symm
      exact ⟨by kernel_rfl, fun j t ht => by
        rw [Tryz.params4] at ht
        have hm : t ∈ [3] := by have := Array.mem_of_getElem? ht; simpa using this
        have hall : ([3].all fun u => !Tryz.prog.wantsStandIn u) = true := by kernel_rfl
        exact (show Tryz.prog.wantsStandIn t = false by simpa using List.all_eq_true.1 hall t hm)⟩)
    kR
end Go.Proofs.YtfbjgbecabbdnaaGreatDoor.solveStars
