import Derived.Test.YtgjeojgfefdajaaGreatDoorWr23
import Derived.Test.YtgjeojgfefdajaaGreatDoorWr24
import Derived.Test.YtgjeojgfefdajaaGreatDoorWr25
import Derived.Test.YtgjeojgfefdajaaGreatDoorWr26
import Derived.Test.YtgjeojgfefdajaaGreatDoorWr27
import Derived.Test.YtgjeojgfefdajaaGreatDoorWr28
import Derived.Test.YtgjeojgfefdajaaGreatDoorWr29
import Derived.Test.YtgjeojgfefdajaaGreatDoorWr30
import Derived.Test.YtgjeojgfefdajaaGreatDoorRows
import Derived.Test.YtgjeojgfefdajaaGreatDoorCards
import Derived.Test.YtgjeojgfefdajaaGreatDoorTie
import Derived.LaidMore
import Derived.OpenShut
import Derived.Stop.Joined
import Derived.SevenTiedAt
/- WantRoots: every case, evaluated. -/
set_option linter.unusedVariables false
set_option maxRecDepth 1000000
namespace Go.Proofs.YtgjeojgfefdajaaGreatDoor
open Sl Ce
theorem wr_all : ∀ r0 r1 r2, r0 < 5 → r1 < r0 + 2 → r2 < 4 → wrAt r0 r1 r2 = true
  | 0, 0, 0, _, _, _ => wr_0_0_0
  | 0, 0, 1, _, _, _ => wr_0_0_1
  | 0, 0, 2, _, _, _ => wr_0_0_2
  | 0, 0, 3, _, _, _ => wr_0_0_3
  | 0, 1, 0, _, _, _ => wr_0_1_0
  | 0, 1, 1, _, _, _ => wr_0_1_1
  | 0, 1, 2, _, _, _ => wr_0_1_2
  | 0, 1, 3, _, _, _ => wr_0_1_3
  | 1, 0, 0, _, _, _ => wr_1_0_0
  | 1, 0, 1, _, _, _ => wr_1_0_1
  | 1, 0, 2, _, _, _ => wr_1_0_2
  | 1, 0, 3, _, _, _ => wr_1_0_3
  | 1, 1, 0, _, _, _ => wr_1_1_0
  | 1, 1, 1, _, _, _ => wr_1_1_1
  | 1, 1, 2, _, _, _ => wr_1_1_2
  | 1, 1, 3, _, _, _ => wr_1_1_3
  | 1, 2, 0, _, _, _ => wr_1_2_0
  | 1, 2, 1, _, _, _ => wr_1_2_1
  | 1, 2, 2, _, _, _ => wr_1_2_2
  | 1, 2, 3, _, _, _ => wr_1_2_3
  | 2, 0, 0, _, _, _ => wr_2_0_0
  | 2, 0, 1, _, _, _ => wr_2_0_1
  | 2, 0, 2, _, _, _ => wr_2_0_2
  | 2, 0, 3, _, _, _ => wr_2_0_3
  | 2, 1, 0, _, _, _ => wr_2_1_0
  | 2, 1, 1, _, _, _ => wr_2_1_1
  | 2, 1, 2, _, _, _ => wr_2_1_2
  | 2, 1, 3, _, _, _ => wr_2_1_3
  | 2, 2, 0, _, _, _ => wr_2_2_0
  | 2, 2, 1, _, _, _ => wr_2_2_1
  | 2, 2, 2, _, _, _ => wr_2_2_2
  | 2, 2, 3, _, _, _ => wr_2_2_3
  | 2, 3, 0, _, _, _ => wr_2_3_0
  | 2, 3, 1, _, _, _ => wr_2_3_1
  | 2, 3, 2, _, _, _ => wr_2_3_2
  | 2, 3, 3, _, _, _ => wr_2_3_3
  | 3, 0, 0, _, _, _ => wr_3_0_0
  | 3, 0, 1, _, _, _ => wr_3_0_1
  | 3, 0, 2, _, _, _ => wr_3_0_2
  | 3, 0, 3, _, _, _ => wr_3_0_3
  | 3, 1, 0, _, _, _ => wr_3_1_0
  | 3, 1, 1, _, _, _ => wr_3_1_1
  | 3, 1, 2, _, _, _ => wr_3_1_2
  | 3, 1, 3, _, _, _ => wr_3_1_3
  | 3, 2, 0, _, _, _ => wr_3_2_0
  | 3, 2, 1, _, _, _ => wr_3_2_1
  | 3, 2, 2, _, _, _ => wr_3_2_2
  | 3, 2, 3, _, _, _ => wr_3_2_3
  | 3, 3, 0, _, _, _ => wr_3_3_0
  | 3, 3, 1, _, _, _ => wr_3_3_1
  | 3, 3, 2, _, _, _ => wr_3_3_2
  | 3, 3, 3, _, _, _ => wr_3_3_3
  | 3, 4, 0, _, _, _ => wr_3_4_0
  | 3, 4, 1, _, _, _ => wr_3_4_1
  | 3, 4, 2, _, _, _ => wr_3_4_2
  | 3, 4, 3, _, _, _ => wr_3_4_3
  | 4, 0, 0, _, _, _ => wr_4_0_0
  | 4, 0, 1, _, _, _ => wr_4_0_1
  | 4, 0, 2, _, _, _ => wr_4_0_2
  | 4, 0, 3, _, _, _ => wr_4_0_3
  | 4, 1, 0, _, _, _ => wr_4_1_0
  | 4, 1, 1, _, _, _ => wr_4_1_1
  | 4, 1, 2, _, _, _ => wr_4_1_2
  | 4, 1, 3, _, _, _ => wr_4_1_3
  | 4, 2, 0, _, _, _ => wr_4_2_0
  | 4, 2, 1, _, _, _ => wr_4_2_1
  | 4, 2, 2, _, _, _ => wr_4_2_2
  | 4, 2, 3, _, _, _ => wr_4_2_3
  | 4, 3, 0, _, _, _ => wr_4_3_0
  | 4, 3, 1, _, _, _ => wr_4_3_1
  | 4, 3, 2, _, _, _ => wr_4_3_2
  | 4, 3, 3, _, _, _ => wr_4_3_3
  | 4, 4, 0, _, _, _ => wr_4_4_0
  | 4, 4, 1, _, _, _ => wr_4_4_1
  | 4, 4, 2, _, _, _ => wr_4_4_2
  | 4, 4, 3, _, _, _ => wr_4_4_3
  | 4, 5, 0, _, _, _ => wr_4_5_0
  | 4, 5, 1, _, _, _ => wr_4_5_1
  | 4, 5, 2, _, _, _ => wr_4_5_2
  | 4, 5, 3, _, _, _ => wr_4_5_3
  | 0, _ + 2, _, _, h, _ => by omega
  | 1, _ + 3, _, _, h, _ => by omega
  | 2, _ + 4, _, _, h, _ => by omega
  | 3, _ + 5, _, _, h, _ => by omega
  | 4, _ + 6, _, _, h, _ => by omega
  | _ + 5, _, _, h, _, _ => by omega
  | _, _, _ + 4, _, _, h => by omega
theorem mixed : Tryz.prog.follows .mixedOrders = true := by kernel_rfl
theorem first17_ok : SCalls Tryz.prog 38 #[] (fun _ => none) (fun r _ => r = .bool true) := by
  have := true_of mixed om0_ok (tab_fit fun _ => undef) first17_e (vs := []) .nil
  simpa [firP, pos_nat] using this
theorem wantRoots_ok (a0 a1 a2 : Int) : SCalls Tryz.prog 8 #[.int .i64 a0, .int .i64 a1, .int .i64 a2] (fun _ => none) (fun r _ => r = .bool true) := by
  obtain ⟨r0, h0, h0'⟩ : ∃ r0 : Nat, a0 % 5 = r0 ∧ r0 < 5 := ⟨(a0 % 5).toNat, by omega, by omega⟩
  obtain ⟨r1, h1, h1'⟩ : ∃ r1 : Nat, a1 % ((r0 + 2 : Nat) : Int) = r1 ∧ r1 < r0 + 2 := by
    have := Int.emod_nonneg a1 (show ((r0 + 2 : Nat) : Int) ≠ 0 by omega)
    have := Int.emod_lt_of_pos a1 (show 0 < ((r0 + 2 : Nat) : Int) by omega)
    exact ⟨(a1 % ((r0 + 2 : Nat) : Int)).toNat, by omega, by omega⟩
  obtain ⟨r2, h2, h2'⟩ : ∃ r2 : Nat, a2 % 4 = r2 ∧ r2 < 4 := ⟨(a2 % 4).toNat, by omega, by omega⟩
  let ai : Nat → Int := fun j => if j = 0 then a0 else if j = 1 then a1 else a2
  have hω : OmOk (kn fun j => .int .i64 (ai j)) (omN numP [firP] [(0, 5, r0), (1, r0 + 2, r1), (2, 4, r2)]) := by
    refine omN_ok ai (fun _ => rfl) (fun j b r hm => ?_) (by rw [show numP.nat - 1 = 14 from by simp [numP, pos_nat]]; kernel_rfl) (fun n b h hb hb' => ?_) (fun f hf => ?_)
    · simp only [List.mem_cons, Prod.mk.injEq, List.not_mem_nil, or_false] at hm
      rcases hm with ⟨rfl, rfl, rfl⟩ | ⟨rfl, rfl, rfl⟩ | ⟨rfl, rfl, rfl⟩
      · exact ⟨h0, by omega, by omega⟩
      · exact ⟨h1, by omega, by omega⟩
      · exact ⟨h2, by omega, by omega⟩
    · rw [show numP.nat - 1 = 14 from by simp [numP, pos_nat]]
      exact number_ok n b hb hb' h
    · simp only [List.mem_singleton] at hf
      subst hf
      rw [show firP.nat - 1 = 38 from by simp [firP, pos_nat]]
      exact ⟨by kernel_rfl, first17_ok⟩
  have := true_of mixed hω (tab_fit _) (wr_all r0 r1 r2 h0' h1' h2') (vs := [.int .i64 a0, .int .i64 a1, .int .i64 a2]) (.cons (.xi (β := ⟨fun _ => none, _⟩) 0 rfl) (.cons (.xi (β := ⟨fun _ => none, _⟩) 1 rfl) (.cons (.xi (β := ⟨fun _ => none, _⟩) 2 rfl) .nil)))
  simpa [pos_nat] using this
end Go.Proofs.YtgjeojgfefdajaaGreatDoor

/- WantRoots: in each case the call says true; the tied card. The conditions: none beyond the card's own. -/
set_option linter.unusedVariables false
namespace Go.Proofs.YtgjeojgfefdajaaGreatDoor.wantRoots
open Go.ChangeShapes Go.WideShapes Go.ChangeAt Go.RowKit Go.Proofs.YtgjeojgfefdajaaGreatDoor.Sl Go.Proofs.YtgjeojgfefdajaaGreatDoor.Ce
theorem own : ownKnob Tryz.prog.godebug = none := by kernel_rfl
set_option maxRecDepth 100000 in
theorem door_met (os : Os) (args : Array Value) : laidMetH Tryz.prog Rows.wantRootsRow.laid ((World.doorLaid Tryz.prog 142 os).forCall (fun _ _ => 0) ⟨#[], args, []⟩).memory :=
  laidMetH_of_parts3 (fuel := 8) (laidMet_of_run' 8 kR kR) kR kR
theorem walk (a0 a1 a2 : Int) : SCalls Tryz.prog 8 #[.int .i64 a0, .int .i64 a1, .int .i64 a2] (fun _ => none) (fun r _ => r = .bool true) := wantRoots_ok a0 a1 a2
set_option maxRecDepth 100000 in
theorem lifted (os : Os) (started : os.Started) (H : Type) (enc : TypeId × Value → H) :
    ReturnsInHanded {} Tryz.checked os 8 .any (fun w args => (Rows.wantRootsSpec.pre enc Tryz.prog Tryz.f8 [] false w args ∧ laidMetH Tryz.prog Rows.wantRootsRow.laid w) ∧ sizedMet enc Tryz.prog Tryz.f8 (OpenSpec.ofChange Rows.wantRootsSpec) false w args)
      (Rows.wantRootsSpec.post enc Tryz.prog Tryz.f8 false true false false) := by
  refine returnsInHanded_of_change_and (C := Tryz.checked) (X := fun w _ => laidMetH Tryz.prog Rows.wantRootsRow.laid w) (fun _ _ _ hh h => h.of_heap hh) own started kR Tryz.func8
    (ChangeSpec.witness_shaped (enc := enc) (C := Tryz.checked) (os := os) (X := fun w _ => laidMetH Tryz.prog Rows.wantRootsRow.laid w) false (World.doorLaid Tryz.prog 142 os) #[.int .i64 0, .int .i64 0, .int .i64 0] 8 rfl (World.shaped_of_RefB kR kR) kR kR kR (door_met os _)) ?_
  intro W base args ds gs before hval0 hW _ _ _ _
  have hval : ∀ (j : Nat) t v, Tryz.f8.params[j]? = some t → args[j]? = some v → Value.okWide Tryz.prog W .any base t v := hval0
  have hW' := hW
  obtain ⟨p, q, hA0, hV, rfl, hfz, hnd⟩ := hW
  have hA : DataW.TrodAll enc Tryz.prog W 0 (fun _ => true) true Tryz.f8.params.toList args.toList ds p := hA0
  rw [Tryz.params8] at hA hval
  obtain ⟨v0, vs0, d0, ds0, p0, q0, hargs, rfl, rfl, h0, r0⟩ := trodAll_cons hA
  obtain ⟨v1, vs1, d1, ds1, p1, q1, rfl, rfl, rfl, h1, r1⟩ := trodAll_cons r0
  obtain ⟨v2, vs2, d2, ds2, p2, q2, rfl, rfl, rfl, h2, r2⟩ := trodAll_cons r1
  obtain ⟨rfl, rfl, rfl⟩ := trodAll_nil r2
  obtain rfl : args = #[v0, v1, v2] := by cases args; simp_all
  obtain ⟨rfl, rfl⟩ := trodVars_none hV
  obtain ⟨a0, rfl, rfl, rfl, w0⟩ := open_int Tryz.underlying3 (hval 0 3 v0 rfl rfl) h0
  obtain ⟨a1, rfl, rfl, rfl, w1⟩ := open_int Tryz.underlying3 (hval 1 3 v1 rfl rfl) h1
  obtain ⟨a2, rfl, rfl, rfl, w2⟩ := open_int Tryz.underlying3 (hval 2 3 v2 rfl rfl) h2
  clear hA0 hval0
  refine (calls_true (walk a0 a1 a2) W).mono fun e W2 ⟨he, hb⟩ => ?_
  subst he
  exact ⟨_, rfl, law_post (tb := 4) kR kR rfl rfl Tryz.underlying4 rfl hW' hb⟩
set_option maxRecDepth 100000 in
theorem over : Rows.WantRootsSaid :=
  OpenClaim.holds_of_wide 8 Tryz.f8 rfl rfl rfl rfl rfl rfl rfl ⟨rfl, rfl, rfl, rfl, rfl⟩ rfl rfl rfl rfl rfl kR Tryz.func8 kR
    (of_decide_eq_true kR) (by unfold Func.isWrapper; first | (rw [if_pos (by decide +kernel)]; kernel_rfl) | (rw [if_neg (by decide +kernel)]; exact ⟨rfl, rfl⟩))
    (fun os started H enc _ => lifted os started H enc)
set_option maxRecDepth 100000 in
theorem proved : Rows.WantRootsCardSaid :=
  Claim7.holds_tied_plain_at .later [] Rows.wantRootsCard.laidKinds true Rows.wantRootsCard.stood.harness false
    over (fun _ h => by cases h) kR (fun _ h => by cases h) wantRoots_row_tie rfl ⟨rfl, rfl⟩ kR rfl
    (fun f fn hf hfn => by
      obtain rfl : f = 8 := Option.some.inj ((show Tryz.prog.funcNamed "rivulet/rivuletlaw17.WantRoots" = some 8 by kernel_rfl).symm.trans hf) |>.symm
      obtain rfl : fn = Tryz.f8 := (Option.some.inj (Tryz.func8.symm.trans hfn)).symm
      exact ⟨by kernel_rfl, fun j t ht => by
        rw [Tryz.params8] at ht
        have hm : t ∈ [3] := by have := Array.mem_of_getElem? ht; simpa using this
        have hall : ([3].all fun u => !Tryz.prog.wantsStandIn u) = true := by kernel_rfl
        exact (show Tryz.prog.wantsStandIn t = false by simpa using List.all_eq_true.1 hall t hm)⟩)
    kR
end Go.Proofs.YtgjeojgfefdajaaGreatDoor.wantRoots
