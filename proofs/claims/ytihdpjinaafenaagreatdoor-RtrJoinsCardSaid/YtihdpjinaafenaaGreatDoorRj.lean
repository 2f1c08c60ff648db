import Derived.Test.YtihdpjinaafenaaGreatDoorRj25
import Derived.Test.YtihdpjinaafenaaGreatDoorRj26
import Derived.Test.YtihdpjinaafenaaGreatDoorRj27
import Derived.Test.YtihdpjinaafenaaGreatDoorRj28
import Derived.Test.YtihdpjinaafenaaGreatDoorRj29
import Derived.Test.YtihdpjinaafenaaGreatDoorRj30
import Derived.Test.YtihdpjinaafenaaGreatDoorRows
import Derived.Test.YtihdpjinaafenaaGreatDoorCards
import Derived.Test.YtihdpjinaafenaaGreatDoorTie
import Derived.LaidMore
import Derived.OpenShut
import Derived.Stop.Joined
import Derived.SevenTiedAt
/- RtrJoins: every case, evaluated. -/
set_option linter.unusedVariables false
set_option maxRecDepth 1000000
namespace Go.Proofs.YtihdpjinaafenaaGreatDoor
open Sl Ce
theorem rtrJoins_all : ∀ (r0 : Nat) (r1 : Nat) (r2 : Nat), r0 < 5 → r1 < r0 + 1 → r2 < 4 → rtrJoinsAt r0 r1 r2 = true
 | 0, 0, 0, _, _, _ => atRtrJoins_0_0_0
 | 0, 0, 1, _, _, _ => atRtrJoins_0_0_1
 | 0, 0, 2, _, _, _ => atRtrJoins_0_0_2
 | 0, 0, 3, _, _, _ => atRtrJoins_0_0_3
 | 1, 0, 0, _, _, _ => atRtrJoins_1_0_0
 | 1, 0, 1, _, _, _ => atRtrJoins_1_0_1
 | 1, 0, 2, _, _, _ => atRtrJoins_1_0_2
 | 1, 0, 3, _, _, _ => atRtrJoins_1_0_3
 | 1, 1, 0, _, _, _ => atRtrJoins_1_1_0
 | 1, 1, 1, _, _, _ => atRtrJoins_1_1_1
 | 1, 1, 2, _, _, _ => atRtrJoins_1_1_2
 | 1, 1, 3, _, _, _ => atRtrJoins_1_1_3
 | 2, 0, 0, _, _, _ => atRtrJoins_2_0_0
 | 2, 0, 1, _, _, _ => atRtrJoins_2_0_1
 | 2, 0, 2, _, _, _ => atRtrJoins_2_0_2
 | 2, 0, 3, _, _, _ => atRtrJoins_2_0_3
 | 2, 1, 0, _, _, _ => atRtrJoins_2_1_0
 | 2, 1, 1, _, _, _ => atRtrJoins_2_1_1
 | 2, 1, 2, _, _, _ => atRtrJoins_2_1_2
 | 2, 1, 3, _, _, _ => atRtrJoins_2_1_3
 | 2, 2, 0, _, _, _ => atRtrJoins_2_2_0
 | 2, 2, 1, _, _, _ => atRtrJoins_2_2_1
 | 2, 2, 2, _, _, _ => atRtrJoins_2_2_2
 | 2, 2, 3, _, _, _ => atRtrJoins_2_2_3
 | 3, 0, 0, _, _, _ => atRtrJoins_3_0_0
 | 3, 0, 1, _, _, _ => atRtrJoins_3_0_1
 | 3, 0, 2, _, _, _ => atRtrJoins_3_0_2
 | 3, 0, 3, _, _, _ => atRtrJoins_3_0_3
 | 3, 1, 0, _, _, _ => atRtrJoins_3_1_0
 | 3, 1, 1, _, _, _ => atRtrJoins_3_1_1
 | 3, 1, 2, _, _, _ => atRtrJoins_3_1_2
 | 3, 1, 3, _, _, _ => atRtrJoins_3_1_3
 | 3, 2, 0, _, _, _ => atRtrJoins_3_2_0
 | 3, 2, 1, _, _, _ => atRtrJoins_3_2_1
 | 3, 2, 2, _, _, _ => atRtrJoins_3_2_2
 | 3, 2, 3, _, _, _ => atRtrJoins_3_2_3
 | 3, 3, 0, _, _, _ => atRtrJoins_3_3_0
 | 3, 3, 1, _, _, _ => atRtrJoins_3_3_1
 | 3, 3, 2, _, _, _ => atRtrJoins_3_3_2
 | 3, 3, 3, _, _, _ => atRtrJoins_3_3_3
 | 4, 0, 0, _, _, _ => atRtrJoins_4_0_0
 | 4, 0, 1, _, _, _ => atRtrJoins_4_0_1
 | 4, 0, 2, _, _, _ => atRtrJoins_4_0_2
 | 4, 0, 3, _, _, _ => atRtrJoins_4_0_3
 | 4, 1, 0, _, _, _ => atRtrJoins_4_1_0
 | 4, 1, 1, _, _, _ => atRtrJoins_4_1_1
 | 4, 1, 2, _, _, _ => atRtrJoins_4_1_2
 | 4, 1, 3, _, _, _ => atRtrJoins_4_1_3
 | 4, 2, 0, _, _, _ => atRtrJoins_4_2_0
 | 4, 2, 1, _, _, _ => atRtrJoins_4_2_1
 | 4, 2, 2, _, _, _ => atRtrJoins_4_2_2
 | 4, 2, 3, _, _, _ => atRtrJoins_4_2_3
 | 4, 3, 0, _, _, _ => atRtrJoins_4_3_0
 | 4, 3, 1, _, _, _ => atRtrJoins_4_3_1
 | 4, 3, 2, _, _, _ => atRtrJoins_4_3_2
 | 4, 3, 3, _, _, _ => atRtrJoins_4_3_3
 | 4, 4, 0, _, _, _ => atRtrJoins_4_4_0
 | 4, 4, 1, _, _, _ => atRtrJoins_4_4_1
 | 4, 4, 2, _, _, _ => atRtrJoins_4_4_2
 | 4, 4, 3, _, _, _ => atRtrJoins_4_4_3
 | _ + 5, _, _, h, _, _ => by omega
 | 0, _ + 1, _, _, h, _ => by omega
 | 0, 0, _ + 4, _, _, h => by omega
 | 1, _ + 2, _, _, h, _ => by omega
 | 1, 0, _ + 4, _, _, h => by omega
 | 1, 1, _ + 4, _, _, h => by omega
 | 2, _ + 3, _, _, h, _ => by omega
 | 2, 0, _ + 4, _, _, h => by omega
 | 2, 1, _ + 4, _, _, h => by omega
 | 2, 2, _ + 4, _, _, h => by omega
 | 3, _ + 4, _, _, h, _ => by omega
 | 3, 0, _ + 4, _, _, h => by omega
 | 3, 1, _ + 4, _, _, h => by omega
 | 3, 2, _ + 4, _, _, h => by omega
 | 3, 3, _ + 4, _, _, h => by omega
 | 4, _ + 5, _, _, h, _ => by omega
 | 4, 0, _ + 4, _, _, h => by omega
 | 4, 1, _ + 4, _, _, h => by omega
 | 4, 2, _ + 4, _, _, h => by omega
 | 4, 3, _ + 4, _, _, h => by omega
 | 4, 4, _ + 4, _, _, h => by omega
theorem rtrJoins_mixed : Tryz.prog.follows .mixedOrders = true := by kernel_rfl
theorem rtrJoins_first_ok : SCalls Tryz.prog 12 #[] (fun _ => none) (fun r _ => r = .bool true) := by
 have := true_of rtrJoins_mixed (omL_ok (ageN_ok _)) (tab_fit fun _ => undef) rtrJoins_first_e (vs := []) .nil
 simpa [rtrJoinsFir, pos_nat] using this
theorem rtrJoins_ok (a0 : Int) (a1 : Int) (a2 : Int) : SCalls Tryz.prog 5 #[.int .i64 a0, .int .i64 a1, .int .i64 a2] (fun _ => none) (fun r _ => r = .bool true) := by
 obtain ⟨r0, h0, h0'⟩ : ∃ r0 : Nat, a0 % ((5 : Nat) : Int) = r0 ∧ r0 < 5 := by
  have := Int.emod_nonneg a0 (show ((5 : Nat) : Int) ≠ 0 by omega)
  have := Int.emod_lt_of_pos a0 (show 0 < ((5 : Nat) : Int) by omega)
  exact ⟨(a0 % ((5 : Nat) : Int)).toNat, by omega, by omega⟩
 obtain ⟨r1, h1, h1'⟩ : ∃ r1 : Nat, a1 % ((r0 + 1 : Nat) : Int) = r1 ∧ r1 < r0 + 1 := by
  have := Int.emod_nonneg a1 (show ((r0 + 1 : Nat) : Int) ≠ 0 by omega)
  have := Int.emod_lt_of_pos a1 (show 0 < ((r0 + 1 : Nat) : Int) by omega)
  exact ⟨(a1 % ((r0 + 1 : Nat) : Int)).toNat, by omega, by omega⟩
 obtain ⟨r2, h2, h2'⟩ : ∃ r2 : Nat, a2 % ((4 : Nat) : Int) = r2 ∧ r2 < 4 := by
  have := Int.emod_nonneg a2 (show ((4 : Nat) : Int) ≠ 0 by omega)
  have := Int.emod_lt_of_pos a2 (show 0 < ((4 : Nat) : Int) by omega)
  exact ⟨(a2 % ((4 : Nat) : Int)).toNat, by omega, by omega⟩
 let ai : Nat → Int := fun j => if j = 0 then a0 else if j = 1 then a1 else a2
 have hω : OmOk (kn fun j => .int .i64 (ai j)) (omX rtrJoinsNum [rtrJoinsFir] [(0, 5, r0), (1, r0 + 1, r1), (2, 4, r2)] ageN) := by
  refine omX_ok ai (fun _ => rfl) (fun j b r hm => ?_) (by rw [show rtrJoinsNum.nat - 1 = 13 from by simp [rtrJoinsNum, pos_nat]]; kernel_rfl) (fun n b h hb hb' => ?_) (fun f hf => ?_) (ageN_ok _)
  ·skip
   simp only [List.mem_cons, Prod.mk.injEq, List.not_mem_nil, or_false] at hm
   rcases hm with ⟨rfl, rfl, rfl⟩ | ⟨rfl, rfl, rfl⟩ | ⟨rfl, rfl, rfl⟩
   ·exact ⟨h0, by omega, by omega⟩
   ·exact ⟨h1, by omega, by omega⟩
   ·exact ⟨h2, by omega, by omega⟩
  ·rw [show rtrJoinsNum.nat - 1 = 13 from by simp [rtrJoinsNum, pos_nat]]
   exact number_ok n b hb hb' h
  ·simp only [List.mem_singleton] at hf
   subst hf
   rw [show rtrJoinsFir.nat - 1 = 12 from by simp [rtrJoinsFir, pos_nat]]
   exact ⟨by kernel_rfl, rtrJoins_first_ok⟩
 have := true_of rtrJoins_mixed hω (tab_fit _) (rtrJoins_all r0 r1 r2 h0' h1' h2') (vs := [.int .i64 a0, .int .i64 a1, .int .i64 a2]) (.cons (.xi (β := ⟨fun _ => none, _⟩) 0 rfl) (.cons (.xi (β := ⟨fun _ => none, _⟩) 1 rfl) (.cons (.xi (β := ⟨fun _ => none, _⟩) 2 rfl) .nil)))
 simpa [pos_nat] using this
end Go.Proofs.YtihdpjinaafenaaGreatDoor

/- RtrJoins: in each case the call says true; the tied card. The conditions: none beyond the card's own. -/
set_option linter.unusedVariables false
namespace Go.Proofs.YtihdpjinaafenaaGreatDoor.rtrJoins
open Go.ChangeShapes Go.WideShapes Go.ChangeAt Go.RowKit Go.Proofs.YtihdpjinaafenaaGreatDoor.Sl Go.Proofs.YtihdpjinaafenaaGreatDoor.Ce
theorem own : ownKnob Tryz.prog.godebug = none := by kernel_rfl
set_option maxRecDepth 100000 in
theorem door_met (os : Os) (args : Array Value) : laidMetH Tryz.prog Rows.rtrJoinsRow.laid ((World.doorLaid Tryz.prog 214 os).forCall (fun _ _ => 0) ⟨#[], args, []⟩).memory :=
 laidMetH_of_parts3 (fuel := 8) (laidMet_of_run' 8 kR kR) kR kR
theorem walk (a0 : Int) (a1 : Int) (a2 : Int) : SCalls Tryz.prog 5 #[.int .i64 a0, .int .i64 a1, .int .i64 a2] (fun _ => none) (fun r _ => r = .bool true) := rtrJoins_ok a0 a1 a2
set_option maxRecDepth 100000 in
theorem lifted (os : Os) (started : os.Started) (H : Type) (enc : TypeId × Value → H) :
  ReturnsInHanded {} Tryz.checked os 5 .any (fun w args => (Rows.rtrJoinsSpec.pre enc Tryz.prog Tryz.f5 [] false w args ∧ laidMetH Tryz.prog Rows.rtrJoinsRow.laid w) ∧ sizedMet enc Tryz.prog Tryz.f5 (OpenSpec.ofChange Rows.rtrJoinsSpec) false w args)
   (Rows.rtrJoinsSpec.post enc Tryz.prog Tryz.f5 false true false false) := by
 refine returnsInHanded_of_change_and (C := Tryz.checked) (X := fun w _ => laidMetH Tryz.prog Rows.rtrJoinsRow.laid w) (fun _ _ _ hh h => h.of_heap hh) own started kR Tryz.func5
  (ChangeSpec.witness_shaped (enc := enc) (C := Tryz.checked) (os := os) (X := fun w _ => laidMetH Tryz.prog Rows.rtrJoinsRow.laid w) false (World.doorLaid Tryz.prog 214 os) #[.int .i64 0, .int .i64 0, .int .i64 0] 8 rfl (World.shaped_of_RefB kR kR) kR kR kR (door_met os _)) ?_
 intro W base args ds gs before hval0 hW _ _ _ _
 have hval : ∀ (j : Nat) t v, Tryz.f5.params[j]? = some t → args[j]? = some v → Value.okWide Tryz.prog W .any base t v := hval0
 have hW' := hW
 obtain ⟨p, q, hA0, hV, rfl, hfz, hnd⟩ := hW
 have hA : DataW.TrodAll enc Tryz.prog W 0 (fun _ => true) true Tryz.f5.params.toList args.toList ds p := hA0
 rw [Tryz.params5] at hA hval
 obtain ⟨v0, vs0, d0, ds0, p0, q0, hargs, rfl, rfl, h0, r0⟩ := trodAll_cons hA
 obtain ⟨v1, vs1, d1, ds1, p1, q1, rfl, rfl, rfl, h1, r1⟩ := trodAll_cons r0
 obtain ⟨v2, vs2, d2, ds2, p2, q2, rfl, rfl, rfl, h2, r2⟩ := trodAll_cons r1
 obtain ⟨rfl, rfl, rfl⟩ := trodAll_nil r2
 obtain rfl : args = #[v0, v1, v2] := by cases args; simp_all
 obtain ⟨rfl, rfl⟩ := trodVars_none hV
 obtain ⟨a0, rfl, rfl, rfl, w0⟩ := open_int Tryz.underlying3 (hval 0 3 v0 rfl rfl) h0
 obtain ⟨a1, rfl, rfl, rfl, w1⟩ := open_int Tryz.underlying3 (hval 1 3 v1 rfl rfl) h1
 obtain ⟨a2, rfl, rfl, rfl, w2⟩ := open_int Tryz.underlying3 (hval 2 3 v2 rfl rfl) h2
 clear hA0 hval0
 refine (calls_true (walk a0 a1 a2) W).mono fun e W2 ⟨he, hb⟩ => ?_
 subst he
 exact ⟨_, rfl, law_post (tb := 4) kR kR rfl rfl Tryz.underlying4 rfl hW' hb⟩
set_option maxRecDepth 100000 in
theorem jf1 : (Rows.rtrJoinsRow.inPlace == Tryz.prog.inPlace 5) = true := by kernel_rfl
set_option maxRecDepth 100000 in
theorem jf2 : (Rows.rtrJoinsRow.unfollowed == Tryz.prog.unfollowed 5) = true := by kernel_rfl
set_option maxRecDepth 100000 in
theorem jf3 : (Rows.rtrJoinsRow.recurses == Tryz.prog.recurses 5) = true := by kernel_rfl
set_option maxRecDepth 100000 in
theorem jf4 : (Rows.rtrJoinsRow.named == Tryz.prog.varsNamed 5) = true := by kernel_rfl
set_option maxRecDepth 100000 in
theorem closed : joinedFacts Tryz.prog 5 Tryz.f5 Rows.rtrJoinsSpec Rows.rtrJoinsRow = true := by
 unfold joinedFacts
 rw [jf1, jf2, jf3, jf4]
 kernel_rfl
set_option maxRecDepth 100000 in
theorem inst : Tryz.f5.isInstance Tryz.prog Rows.rtrJoinsRow.origin Rows.rtrJoinsRow.targs := of_decide_eq_true kR
set_option maxRecDepth 100000 in
theorem wrap : Tryz.f5.isWrapper Tryz.prog Rows.rtrJoinsRow.wrapper Rows.rtrJoinsRow.mainSum := by
 unfold Func.isWrapper
 first | (rw [if_pos (by decide +kernel)]; kernel_rfl) | (rw [if_neg (by decide +kernel)]; exact ⟨rfl, rfl⟩)
set_option maxRecDepth 100000 in
theorem over : Rows.RtrJoinsSaid :=
 OpenClaim.holds_of_wide 5 Tryz.f5 rfl rfl rfl rfl rfl rfl rfl ⟨rfl, rfl, rfl, rfl, rfl⟩ rfl rfl rfl rfl rfl kR Tryz.func5 closed inst wrap
  (fun os started H enc _ => lifted os started H enc)
set_option maxRecDepth 100000 in
theorem q_wf : (Rows.rtrJoinsRow).wfByText (OpenSpec.ofChange Rows.rtrJoinsSpec) = true := by kernel_rfl
set_option maxRecDepth 100000 in
theorem q_main : Tryz.prog.mainIs = some (Rows.rtrJoinsCard.stood.harness.fst, Rows.rtrJoinsCard.stood.harness.snd.toList) := by kernel_rfl
set_option maxRecDepth 100000 in
theorem q_looks : false = Tryz.prog.looks [] := by kernel_rfl
set_option maxRecDepth 100000 in
theorem q_goes : false = Rows.rtrJoinsRow.goesBy Tryz.prog := by kernel_rfl
set_option maxRecDepth 100000 in
theorem q_named : Tryz.prog.funcNamed "rivulet/rivuletlaw23.RtrJoins" = some 5 := by kernel_rfl
set_option maxRecDepth 100000 in
theorem proved : Rows.RtrJoinsCardSaid :=
 Claim7.holds_tied_plain_at .later [] Rows.rtrJoinsCard.laidKinds true Rows.rtrJoinsCard.stood.harness false
  over (fun _ h => by cases h) q_wf (fun _ h => by cases h) rtrJoins_row_tie rfl ⟨rfl, rfl⟩ q_main rfl
  (fun f fn hf hfn => by
   obtain rfl : f = 5 := Option.some.inj (q_named.symm.trans hf) |>.symm
   obtain rfl : fn = Tryz.f5 := (Option.some.inj (Tryz.func5.symm.trans hfn)).symm
   exact ⟨q_looks, fun j t ht => by
    rw [Tryz.params5] at ht
    have hm : t ∈ [3] := by have := Array.mem_of_getElem? ht; simpa using this
    have hall : ([3].all fun u => !Tryz.prog.wantsStandIn u) = true := by kernel_rfl
    exact (show Tryz.prog.wantsStandIn t = false by simpa using List.all_eq_true.1 hall t hm)⟩)
  q_goes
end Go.Proofs.YtihdpjinaafenaaGreatDoor.rtrJoins
