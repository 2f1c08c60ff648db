import Derived.Test.YtfbjgbecabbdnaaGreatDoorTs28
import Derived.Test.YtfbjgbecabbdnaaGreatDoorTs29
import Derived.Test.YtfbjgbecabbdnaaGreatDoorTs30
import Derived.Test.YtfbjgbecabbdnaaGreatDoorTs31
import Derived.Test.YtfbjgbecabbdnaaGreatDoorTs32
import Derived.Test.YtfbjgbecabbdnaaGreatDoorTs33
import Derived.Test.YtfbjgbecabbdnaaGreatDoorTs34
import Derived.Test.YtfbjgbecabbdnaaGreatDoorTs35
import Derived.Test.YtfbjgbecabbdnaaGreatDoorTs36
import Derived.Test.YtfbjgbecabbdnaaGreatDoorTs37
import Derived.Test.YtfbjgbecabbdnaaGreatDoorTs38
import Derived.Test.YtfbjgbecabbdnaaGreatDoorTs39
import Derived.Test.YtfbjgbecabbdnaaGreatDoorTs40
import Derived.Test.YtfbjgbecabbdnaaGreatDoorTs41
import Derived.Test.YtfbjgbecabbdnaaGreatDoorTs42
import Derived.Test.YtfbjgbecabbdnaaGreatDoorTs43
import Derived.Test.YtfbjgbecabbdnaaGreatDoorRows
import Derived.Test.YtfbjgbecabbdnaaGreatDoorCards
import Derived.Test.YtfbjgbecabbdnaaGreatDoorTie
import Derived.LaidMore
import Derived.OpenShut
import Derived.Stop.Joined
import Derived.SevenTiedAt
/- TraceStars: every case, evaluated. -/
set_option linter.unusedVariables false
set_option maxRecDepth 1000000
namespace Go.Proofs.YtfbjgbecabbdnaaGreatDoor
open Sl Ce
theorem traceStars_all : ∀ (r0 : Nat) (r1 : Nat) (r2 : Bool), r0 < 5 → r1 < r0 + 2 → traceStarsAt r0 r1 r2 = true
  | 0, 0, false, _, _ => atTraceStars_0_0_0
  | 0, 0, true, _, _ => atTraceStars_0_0_1
  | 0, 1, false, _, _ => atTraceStars_0_1_0
  | 0, 1, true, _, _ => atTraceStars_0_1_1
  | 1, 0, false, _, _ => atTraceStars_1_0_0
  | 1, 0, true, _, _ => atTraceStars_1_0_1
  | 1, 1, false, _, _ => atTraceStars_1_1_0
  | 1, 1, true, _, _ => atTraceStars_1_1_1
  | 1, 2, false, _, _ => atTraceStars_1_2_0
  | 1, 2, true, _, _ => atTraceStars_1_2_1
  | 2, 0, false, _, _ => atTraceStars_2_0_0
  | 2, 0, true, _, _ => atTraceStars_2_0_1
  | 2, 1, false, _, _ => atTraceStars_2_1_0
  | 2, 1, true, _, _ => atTraceStars_2_1_1
  | 2, 2, false, _, _ => atTraceStars_2_2_0
  | 2, 2, true, _, _ => atTraceStars_2_2_1
  | 2, 3, false, _, _ => atTraceStars_2_3_0
  | 2, 3, true, _, _ => atTraceStars_2_3_1
  | 3, 0, false, _, _ => atTraceStars_3_0_0
  | 3, 0, true, _, _ => atTraceStars_3_0_1
  | 3, 1, false, _, _ => atTraceStars_3_1_0
  | 3, 1, true, _, _ => atTraceStars_3_1_1
  | 3, 2, false, _, _ => atTraceStars_3_2_0
  | 3, 2, true, _, _ => atTraceStars_3_2_1
  | 3, 3, false, _, _ => atTraceStars_3_3_0
  | 3, 3, true, _, _ => atTraceStars_3_3_1
  | 3, 4, false, _, _ => atTraceStars_3_4_0
  | 3, 4, true, _, _ => atTraceStars_3_4_1
  | 4, 0, false, _, _ => atTraceStars_4_0_0
  | 4, 0, true, _, _ => atTraceStars_4_0_1
  | 4, 1, false, _, _ => atTraceStars_4_1_0
  | 4, 1, true, _, _ => atTraceStars_4_1_1
  | 4, 2, false, _, _ => atTraceStars_4_2_0
  | 4, 2, true, _, _ => atTraceStars_4_2_1
  | 4, 3, false, _, _ => atTraceStars_4_3_0
  | 4, 3, true, _, _ => atTraceStars_4_3_1
  | 4, 4, false, _, _ => atTraceStars_4_4_0
  | 4, 4, true, _, _ => atTraceStars_4_4_1
  | 4, 5, false, _, _ => atTraceStars_4_5_0
  | 4, 5, true, _, _ => atTraceStars_4_5_1
  | _ + 5, _, _, h, _ => by omega
  | 0, _ + 2, _, _, h => by omega
  | 1, _ + 3, _, _, h => by omega
  | 2, _ + 4, _, _, h => by omega
  | 3, _ + 5, _, _, h => by omega
  | 4, _ + 6, _, _, h => by omega
theorem traceStars_mixed : Tryz.prog.follows .mixedOrders = true := by kernel_rfl
theorem traceStars_first_ok : SCalls Tryz.prog 36 #[] (fun _ => none) (fun r _ => r = .bool true) := by
  have := true_of traceStars_mixed om0_ok (tab_fit fun _ => undef) traceStars_first_e (vs := []) .nil
  simpa [traceStarsFir, pos_nat] using this
theorem traceStars_ok (a0 : Int) (a1 : Int) (a2 : Bool) : SCalls Tryz.prog 9 #[.int .i64 a0, .int .i64 a1, .bool a2] (fun _ => none) (fun r _ => r = .bool true) := by
  obtain ⟨r0, h0, h0'⟩ : ∃ r0 : Nat, a0 % ((5 : Nat) : Int) = r0 ∧ r0 < 5 := by
    have := Int.emod_nonneg a0 (show ((5 : Nat) : Int) ≠ 0 by omega)
    have := Int.emod_lt_of_pos a0 (show 0 < ((5 : Nat) : Int) by omega)
    exact ⟨(a0 % ((5 : Nat) : Int)).toNat, by omega, by omega⟩
  obtain ⟨r1, h1, h1'⟩ : ∃ r1 : Nat, a1 % ((r0 + 2 : Nat) : Int) = r1 ∧ r1 < r0 + 2 := by
    have := Int.emod_nonneg a1 (show ((r0 + 2 : Nat) : Int) ≠ 0 by omega)
    have := Int.emod_lt_of_pos a1 (show 0 < ((r0 + 2 : Nat) : Int) by omega)
    exact ⟨(a1 % ((r0 + 2 : Nat) : Int)).toNat, by omega, by omega⟩
  let ai : Nat → Int := fun j => if j = 0 then a0 else a1
  have hω : OmOk (kn fun j => .int .i64 (ai j)) (omN traceStarsNum [traceStarsFir] [(0, 5, r0), (1, r0 + 2, r1)]) := by
    refine omN_ok ai (fun _ => rfl) (fun j b r hm => ?_) (by rw [show traceStarsNum.nat - 1 = 14 from by simp [traceStarsNum, pos_nat]]; kernel_rfl) (fun n b h hb hb' => ?_) (fun f hf => ?_)
    · skip
      simp only [List.mem_cons, Prod.mk.injEq, List.not_mem_nil, or_false] at hm
      rcases hm with ⟨rfl, rfl, rfl⟩ | ⟨rfl, rfl, rfl⟩
      · exact ⟨h0, by omega, by omega⟩
      · exact ⟨h1, by omega, by omega⟩
    · rw [show traceStarsNum.nat - 1 = 14 from by simp [traceStarsNum, pos_nat]]
      exact number_ok n b hb hb' h
    · simp only [List.mem_singleton] at hf
      subst hf
      rw [show traceStarsFir.nat - 1 = 36 from by simp [traceStarsFir, pos_nat]]
      exact ⟨by kernel_rfl, traceStars_first_ok⟩
  have := true_of traceStars_mixed hω (tab_fit _) (traceStars_all r0 r1 a2 h0' h1') (vs := [.int .i64 a0, .int .i64 a1, .bool a2]) (.cons (.xi (β := ⟨fun _ => none, _⟩) 0 rfl) (.cons (.xi (β := ⟨fun _ => none, _⟩) 1 rfl) (.cons (.b a2) .nil)))
  simpa [pos_nat] using this
end Go.Proofs.YtfbjgbecabbdnaaGreatDoor

/- TraceStars: in each case the call says true; the tied card. The conditions: none beyond the card's own. -/
set_option linter.unusedVariables false
namespace Go.Proofs.YtfbjgbecabbdnaaGreatDoor.traceStars
open Go.ChangeShapes Go.WideShapes Go.ChangeAt Go.RowKit Go.Proofs.YtfbjgbecabbdnaaGreatDoor.Sl Go.Proofs.YtfbjgbecabbdnaaGreatDoor.Ce
theorem own : ownKnob Tryz.prog.godebug = none := by kernel_rfl
set_option maxRecDepth 100000 in
theorem door_met (os : Os) (args : Array Value) : laidMetH Tryz.prog Rows.traceStarsRow.laid ((World.doorLaid Tryz.prog 157 os).forCall (fun _ _ => 0) ⟨#[], args, []⟩).memory :=
  laidMetH_of_parts3 (fuel := 8) (laidMet_of_run' 8 kR kR) kR kR
theorem walk (a0 : Int) (a1 : Int) (a2 : Bool) : SCalls Tryz.prog 9 #[.int .i64 a0, .int .i64 a1, .bool a2] (fun _ => none) (fun r _ => r = .bool true) := traceStars_ok a0 a1 a2
set_option maxRecDepth 100000 in
theorem lifted (os : Os) (started : os.Started) (H : Type) (enc : TypeId × Value → H) :
    ReturnsInHanded {} Tryz.checked os 9 .any (fun w args => (Rows.traceStarsSpec.pre enc Tryz.prog Tryz.f9 [] false w args ∧ laidMetH Tryz.prog Rows.traceStarsRow.laid w) ∧ sizedMet enc Tryz.prog Tryz.f9 (OpenSpec.ofChange Rows.traceStarsSpec) false w args)
      (Rows.traceStarsSpec.post enc Tryz.prog Tryz.f9 false true false false) := by
  refine returnsInHanded_of_change_and (C := Tryz.checked) (X := fun w _ => laidMetH Tryz.prog Rows.traceStarsRow.laid w) (fun _ _ _ hh h => h.of_heap hh) own started kR Tryz.func9
    (ChangeSpec.witness_shaped (enc := enc) (C := Tryz.checked) (os := os) (X := fun w _ => laidMetH Tryz.prog Rows.traceStarsRow.laid w) false (World.doorLaid Tryz.prog 157 os) #[.int .i64 0, .int .i64 0, .bool false] 8 rfl (World.shaped_of_RefB kR kR) kR kR kR (door_met os _)) ?_
  intro W base args ds gs before hval0 hW _ _ _ _
  have hval : ∀ (j : Nat) t v, Tryz.f9.params[j]? = some t → args[j]? = some v → Value.okWide Tryz.prog W .any base t v := hval0
  have hW' := hW
  obtain ⟨p, q, hA0, hV, rfl, hfz, hnd⟩ := hW
  have hA : DataW.TrodAll enc Tryz.prog W 0 (fun _ => true) true Tryz.f9.params.toList args.toList ds p := hA0
  rw [Tryz.params9] at hA hval
  obtain ⟨v0, vs0, d0, ds0, p0, q0, hargs, rfl, rfl, h0, r0⟩ := trodAll_cons hA
  obtain ⟨v1, vs1, d1, ds1, p1, q1, rfl, rfl, rfl, h1, r1⟩ := trodAll_cons r0
  obtain ⟨v2, vs2, d2, ds2, p2, q2, rfl, rfl, rfl, h2, r2⟩ := trodAll_cons r1
  obtain ⟨rfl, rfl, rfl⟩ := trodAll_nil r2
  obtain rfl : args = #[v0, v1, v2] := by cases args; simp_all
  obtain ⟨rfl, rfl⟩ := trodVars_none hV
  obtain ⟨a0, rfl, rfl, rfl, w0⟩ := open_int Tryz.underlying3 (hval 0 3 v0 rfl rfl) h0
  obtain ⟨a1, rfl, rfl, rfl, w1⟩ := open_int Tryz.underlying3 (hval 1 3 v1 rfl rfl) h1
  obtain ⟨a2, rfl, rfl, rfl⟩ := open_bool Tryz.underlying4 (hval 2 4 v2 rfl rfl) h2
  clear hA0 hval0
  refine (calls_true (walk a0 a1 a2) W).mono fun e W2 ⟨he, hb⟩ => ?_
  subst he
  exact ⟨_, rfl, law_post (tb := 4) kR kR rfl rfl Tryz.underlying4 rfl hW' hb⟩
set_option maxRecDepth 100000 in
theorem jf1 : (Rows.traceStarsRow.inPlace == Tryz.prog.inPlace 9) = true := by kernel_rfl
set_option maxRecDepth 100000 in
theorem jf2 : (Rows.traceStarsRow.unfollowed == Tryz.prog.unfollowed 9) = true := by kernel_rfl
set_option maxRecDepth 100000 in
theorem jf3 : (Rows.traceStarsRow.recurses == Tryz.prog.recurses 9) = true := by kernel_rfl
set_option maxRecDepth 100000 in
theorem jf4 : (Rows.traceStarsRow.named == Tryz.prog.varsNamed 9) = true := by kernel_rfl
set_option maxRecDepth 100000 in
theorem closed : joinedFacts Tryz.prog 9 Tryz.f9 Rows.traceStarsSpec Rows.traceStarsRow = true := by
  unfold joinedFacts
  rw [jf1, jf2, jf3, jf4]
  kernel_rfl
set_option maxRecDepth 100000 in
theorem inst : Tryz.f9.isInstance Tryz.prog Rows.traceStarsRow.origin Rows.traceStarsRow.targs := of_decide_eq_true kR
set_option maxRecDepth 100000 in
theorem wrap : Tryz.f9.isWrapper Tryz.prog Rows.traceStarsRow.wrapper Rows.traceStarsRow.mainSum := by
  unfold Func.isWrapper
  first | (rw [if_pos (by decide +kernel)]; kernel_rfl) | (rw [if_neg (by decide +kernel)]; exact ⟨rfl, rfl⟩)
set_option maxRecDepth 100000 in
theorem over : Rows.TraceStarsSaid :=
  OpenClaim.holds_of_wide 9 Tryz.f9 rfl rfl rfl rfl rfl rfl rfl ⟨rfl, rfl, rfl, rfl, rfl⟩ rfl rfl rfl rfl rfl kR Tryz.func9 closed inst wrap
    (fun os started H enc _ => lifted os started H enc)
set_option maxRecDepth 100000 in
theorem proved : Rows.TraceStarsCardSaid :=
  Claim7.holds_tied_plain_at .later [] Rows.traceStarsCard.laidKinds true Rows.traceStarsCard.stood.harness false
    over (fun _ h => by cases h) kR (fun _ h => by cases h) traceStars_row_tie rfl ⟨rfl, rfl⟩ kR rfl
    (fun f fn hf hfn => by
      obtain rfl : f = 9 := Option.some.inj ((show Tryz.prog.funcNamed "rivulet/rivuletlaw21.TraceStars" = some 9 by kernel_rfl).symm.trans hf) |>.symm
      obtain rfl : fn = Tryz.f9 := (Option.some.inj (Tryz.func9.symm.trans hfn)).symm
      exact ⟨by kernel_rfl, fun j t ht => by
        rw [Tryz.params9] at ht
        have hm : t ∈ [3, 4] := by have := Array.mem_of_getElem? ht; simpa using this
        have hall : ([3, 4].all fun u => !Tryz.prog.wantsStandIn u) = true := by kernel_rfl
        exact (show Tryz.prog.wantsStandIn t = false by simpa using List.all_eq_true.1 hall t hm)⟩)
    kR
end Go.Proofs.YtfbjgbecabbdnaaGreatDoor.traceStars
