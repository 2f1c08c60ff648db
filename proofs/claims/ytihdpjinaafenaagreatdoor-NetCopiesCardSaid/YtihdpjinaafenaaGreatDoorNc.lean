import Derived.Test.YtihdpjinaafenaaGreatDoorNc34
import Derived.Test.YtihdpjinaafenaaGreatDoorNc35
import Derived.Test.YtihdpjinaafenaaGreatDoorNc36
import Derived.Test.YtihdpjinaafenaaGreatDoorNc37
import Derived.Test.YtihdpjinaafenaaGreatDoorNc38
import Derived.Test.YtihdpjinaafenaaGreatDoorNc39
import Derived.Test.YtihdpjinaafenaaGreatDoorNc40
import Derived.Test.YtihdpjinaafenaaGreatDoorNc41
import Derived.Test.YtihdpjinaafenaaGreatDoorNc42
import Derived.Test.YtihdpjinaafenaaGreatDoorNc43
import Derived.Test.YtihdpjinaafenaaGreatDoorNc44
import Derived.Test.YtihdpjinaafenaaGreatDoorRows
import Derived.Test.YtihdpjinaafenaaGreatDoorCards
import Derived.Test.YtihdpjinaafenaaGreatDoorTie
import Derived.LaidMore
import Derived.OpenShut
import Derived.Stop.Joined
import Derived.SevenTiedAt
noncomputable section
/- A call in parts: what stands within. -/
set_option linter.unusedVariables false
set_option linter.unusedSimpArgs false
namespace Go.Proofs.YtihdpjinaafenaaGreatDoor.Ce
open Go.Proofs.YtihdpjinaafenaaGreatDoor.Sl
section
variable {P : Program} {N : Kn P} {M : Nat} {Q : Exit → Tm → Heap → Prop}
theorem Fits.split : ∀ {pre l : List CC} {cs : List Code}, Fits N M cs (pre ++ l) → ∃ c1 c2, cs = c1 ++ c2 ∧ Fits N M c1 pre ∧ Fits N M c2 l
 | [], l, cs, f => ⟨[], cs, rfl, .nil, f⟩
 | a :: pre, l, cs, f => by
  obtain ⟨c, cs, rfl, f1, f2⟩ := f.uncons
  obtain ⟨c1, c2, rfl, f3, f4⟩ := Fits.split f2
  exact ⟨c :: c1, c2, rfl, .cons f1 f3, f4⟩
theorem Fits.app {pre l : List CC} {c1 c2 : List Code} (f : Fits N M c1 pre) (g : Fits N M c2 l) : Fits N M (c1 ++ c2) (pre ++ l) := by
 induction f with
 | nil => exact g
 | cons f _ ih => exact .cons f ih
theorem scodes_app : ∀ (c1 : List Code) {c2 c3 : List Code} {T : Tm} {h : Heap}, (∀ T h, SCodes P M Q c2 T h → SCodes P M Q c3 T h) → SCodes P M Q (c1 ++ c2) T h → SCodes P M Q (c1 ++ c3) T h
 | [], _, _, T, h, k, s => k T h s
 | c :: c1, _, _, T, h, k, s => SCode.mono s fun e T' h' q => by
  cases e <;> first | exact q | exact scodes_app c1 k q
theorem scodes_seq {x y : Code} {cs : List Code} {T : Tm} {h : Heap} (s : SCodes P M Q (x :: y :: cs) T h) : SCodes P M Q (.seq x y :: cs) T h := by
 refine s_seq (SCode.mono s fun e T' h' q => ?_)
 cases e <;> first | exact q | (refine SCode.mono q fun e T h q => ?_; exact q)
theorem rl_at {a b : CC} {l : List CC} {s : St} (pre : List CC) (k : RL N M Q (pre ++ a :: b :: l) s) : RL N M Q (pre ++ .seq a b :: l) s := fun cs f β h T x => by
 obtain ⟨c1, c2, rfl, f1, f2⟩ := f.split
 obtain ⟨c, c2, rfl, f3, f4⟩ := f2.uncons
 cases c <;> first | (exact absurd f3.sh Bool.false_ne_true) | skip
 obtain ⟨fa, fb⟩ := fit_seq f3
 exact scodes_app c1 (fun _ _ => scodes_seq) (k _ (f1.app (.cons fa (.cons fb f4))) β h T x)
end
end Go.Proofs.YtihdpjinaafenaaGreatDoor.Ce

/- rivuletlaw25.first says true: its parts joined. -/
set_option linter.unusedVariables false
set_option maxRecDepth 1000000
namespace Go.Proofs.YtihdpjinaafenaaGreatDoor
open Sl Ce
theorem nf_r : isTrue (at_ nflit10.st (denL 1000000 nf_cf (retF (CFn.res c38)) [nf_rest] (retF (CFn.res c38)))) = true := by kernel_rfl
def nf_p (k : Nat) : CC := match dropR nf_pre k with
 | a :: _ => a
 | [] => .skip
theorem nf_eq : nf_cc = .seq (nf_p 0) (.seq (nf_p 1) (.seq (nf_p 2) (.seq (nf_p 3) (.seq (nf_p 4) (.seq (.seq (nf_p 5) (.block 0 (.loop nf_body))) nf_rest))))) := by kernel_rfl
theorem nf_pre_eq : nf_pre = [nf_p 0, nf_p 1, nf_p 2, nf_p 3, nf_p 4, nf_p 5] := by kernel_rfl
theorem first_ok : SCalls Tryz.prog 38 #[] (fun _ => none) (fun r _ => r = .bool true) := by
 have hcf : CfOk (kn fun _ => undef) nf_cf := evF_ok mixed_p (omL_ok (netN_ok _)) (tab_fit _) 1000000 1000
 have hg : FnFit (kn fun _ => undef) (pos 38) c38 := fit38 _
 have e0 : (pos 38).nat - 1 = 38 := by simp [pos_nat]
 have e1 : c38 = ⟨CFn.nt c38, .c nf_cc, CFn.res c38⟩ := by kernel_rfl
 rw [e1] at hg
 have hfn : Tryz.prog.funcs[(pos 38).nat - 1]? = some Tryz.f38 := by rw [e0]; exact Tryz.func38
 rw [← e0]
 refine call_parts hg hfn ?_
 rw [nf_eq]
 refine rl_at [] (rl_at [nf_p 0] (rl_at [nf_p 0, nf_p 1] (rl_at [nf_p 0, nf_p 1, nf_p 2] (rl_at [nf_p 0, nf_p 1, nf_p 2, nf_p 3] (rl_at [nf_p 0, nf_p 1, nf_p 2, nf_p 3, nf_p 4] (rl_at [nf_p 0, nf_p 1, nf_p 2, nf_p 3, nf_p 4] ?_))))))
 refine rl_pre (m := 1000000) mixed_p hcf (l := nflit0) (olds := nfold0) (rest := [.block 0 (.loop nf_body), nf_rest]) ?_ [nf_p 0, nf_p 1, nf_p 2, nf_p 3, nf_p 4, nf_p 5] s00 (by rw [← nf_pre_eq]; exact nf_e0)
 refine rl_loop (m := 1000000) mixed_p hcf (l := nflit10) (.step 3 nflit1 nfold1 nf_e1 (.step 3 nflit2 nfold2 nf_e2 (.step 3 nflit3 nfold3 nf_e3 (.step 3 nflit4 nfold4 nf_e4 (.step 3 nflit5 nfold5 nf_e5 (.step 3 nflit6 nfold6 nf_e6 (.step 3 nflit7 nfold7 nf_e7 (.step 3 nflit8 nfold8 nf_e8 (.step 3 nflit9 nfold9 nf_e9 (.last 5 nfold10 nf_e10)))))))))) ?_
 have hk : fnOk (kn fun _ => undef) (pos 38) c38 = true := (fit38 _).ok
 exact rl_ret (m := 1000000) mixed_p hcf (fn := Tryz.f38) (res := CFn.res c38) kR kR rfl [nf_rest] nflit10.st nf_r
end Go.Proofs.YtihdpjinaafenaaGreatDoor

/- NetCopies: every case, evaluated. -/
set_option linter.unusedVariables false
set_option maxRecDepth 1000000
namespace Go.Proofs.YtihdpjinaafenaaGreatDoor
open Sl Ce
theorem netCopies_all : ∀ (r0 : Nat) (r1 : Nat) (r2 : Bool), r0 < 3 → r1 < 5 → netCopiesAt r0 r1 r2 = true
 | 0, 0, false, _, _ => atNetCopies_0_0_0
 | 0, 0, true, _, _ => atNetCopies_0_0_1
 | 0, 1, false, _, _ => atNetCopies_0_1_0
 | 0, 1, true, _, _ => atNetCopies_0_1_1
 | 0, 2, false, _, _ => atNetCopies_0_2_0
 | 0, 2, true, _, _ => atNetCopies_0_2_1
 | 0, 3, false, _, _ => atNetCopies_0_3_0
 | 0, 3, true, _, _ => atNetCopies_0_3_1
 | 0, 4, false, _, _ => atNetCopies_0_4_0
 | 0, 4, true, _, _ => atNetCopies_0_4_1
 | 1, 0, false, _, _ => atNetCopies_1_0_0
 | 1, 0, true, _, _ => atNetCopies_1_0_1
 | 1, 1, false, _, _ => atNetCopies_1_1_0
 | 1, 1, true, _, _ => atNetCopies_1_1_1
 | 1, 2, false, _, _ => atNetCopies_1_2_0
 | 1, 2, true, _, _ => atNetCopies_1_2_1
 | 1, 3, false, _, _ => atNetCopies_1_3_0
 | 1, 3, true, _, _ => atNetCopies_1_3_1
 | 1, 4, false, _, _ => atNetCopies_1_4_0
 | 1, 4, true, _, _ => atNetCopies_1_4_1
 | 2, 0, false, _, _ => atNetCopies_2_0_0
 | 2, 0, true, _, _ => atNetCopies_2_0_1
 | 2, 1, false, _, _ => atNetCopies_2_1_0
 | 2, 1, true, _, _ => atNetCopies_2_1_1
 | 2, 2, false, _, _ => atNetCopies_2_2_0
 | 2, 2, true, _, _ => atNetCopies_2_2_1
 | 2, 3, false, _, _ => atNetCopies_2_3_0
 | 2, 3, true, _, _ => atNetCopies_2_3_1
 | 2, 4, false, _, _ => atNetCopies_2_4_0
 | 2, 4, true, _, _ => atNetCopies_2_4_1
 | _ + 3, _, _, h, _ => by omega
 | 0, _ + 5, _, _, h => by omega
 | 1, _ + 5, _, _, h => by omega
 | 2, _ + 5, _, _, h => by omega
theorem netCopies_mixed : Tryz.prog.follows .mixedOrders = true := by kernel_rfl
theorem netCopies_first_ok : SCalls Tryz.prog 38 #[] (fun _ => none) (fun r _ => r = .bool true) := by
 exact first_ok
theorem netCopies_ok (a0 : Int) (a1 : Int) (a2 : Bool) : SCalls Tryz.prog 9 #[.int .i64 a0, .int .i64 a1, .bool a2] (fun _ => none) (fun r _ => r = .bool true) := by
 obtain ⟨r0, h0, h0'⟩ : ∃ r0 : Nat, a0 % ((3 : Nat) : Int) = r0 ∧ r0 < 3 := by
  have := Int.emod_nonneg a0 (show ((3 : Nat) : Int) ≠ 0 by omega)
  have := Int.emod_lt_of_pos a0 (show 0 < ((3 : Nat) : Int) by omega)
  exact ⟨(a0 % ((3 : Nat) : Int)).toNat, by omega, by omega⟩
 obtain ⟨r1, h1, h1'⟩ : ∃ r1 : Nat, a1 % ((5 : Nat) : Int) = r1 ∧ r1 < 5 := by
  have := Int.emod_nonneg a1 (show ((5 : Nat) : Int) ≠ 0 by omega)
  have := Int.emod_lt_of_pos a1 (show 0 < ((5 : Nat) : Int) by omega)
  exact ⟨(a1 % ((5 : Nat) : Int)).toNat, by omega, by omega⟩
 let ai : Nat → Int := fun j => if j = 0 then a0 else a1
 have hω : OmOk (kn fun j => .int .i64 (ai j)) (omX netCopiesNum [netCopiesFir] [(0, 3, r0), (1, 5, r1)] netN) := by
  refine omX_ok ai (fun _ => rfl) (fun j b r hm => ?_) (by rw [show netCopiesNum.nat - 1 = 13 from by simp [netCopiesNum, pos_nat]]; kernel_rfl) (fun n b h hb hb' => ?_) (fun f hf => ?_) (netN_ok _)
  ·skip
   simp only [List.mem_cons, Prod.mk.injEq, List.not_mem_nil, or_false] at hm
   rcases hm with ⟨rfl, rfl, rfl⟩ | ⟨rfl, rfl, rfl⟩
   ·exact ⟨h0, by omega, by omega⟩
   ·exact ⟨h1, by omega, by omega⟩
  ·rw [show netCopiesNum.nat - 1 = 13 from by simp [netCopiesNum, pos_nat]]
   exact number_ok n b hb hb' h
  ·simp only [List.mem_singleton] at hf
   subst hf
   rw [show netCopiesFir.nat - 1 = 38 from by simp [netCopiesFir, pos_nat]]
   exact ⟨by kernel_rfl, netCopies_first_ok⟩
 have := true_of netCopies_mixed hω (tab_fit _) (netCopies_all r0 r1 a2 h0' h1') (vs := [.int .i64 a0, .int .i64 a1, .bool a2]) (.cons (.xi (β := ⟨fun _ => none, _⟩) 0 rfl) (.cons (.xi (β := ⟨fun _ => none, _⟩) 1 rfl) (.cons (.b a2) .nil)))
 simpa [pos_nat] using this
end Go.Proofs.YtihdpjinaafenaaGreatDoor

/- NetCopies: in each case the call says true; the tied card. The conditions: none beyond the card's own. -/
set_option linter.unusedVariables false
namespace Go.Proofs.YtihdpjinaafenaaGreatDoor.netCopies
open Go.ChangeShapes Go.WideShapes Go.ChangeAt Go.RowKit Go.Proofs.YtihdpjinaafenaaGreatDoor.Sl Go.Proofs.YtihdpjinaafenaaGreatDoor.Ce
theorem own : ownKnob Tryz.prog.godebug = none := by kernel_rfl
set_option maxRecDepth 100000 in
theorem door_met (os : Os) (args : Array Value) : laidMetH Tryz.prog Rows.netCopiesRow.laid ((World.doorLaid Tryz.prog 214 os).forCall (fun _ _ => 0) ⟨#[], args, []⟩).memory :=
 laidMetH_of_parts3 (fuel := 8) (laidMet_of_run' 8 kR kR) kR kR
theorem walk (a0 : Int) (a1 : Int) (a2 : Bool) : SCalls Tryz.prog 9 #[.int .i64 a0, .int .i64 a1, .bool a2] (fun _ => none) (fun r _ => r = .bool true) := netCopies_ok a0 a1 a2
set_option maxRecDepth 100000 in
theorem lifted (os : Os) (started : os.Started) (H : Type) (enc : TypeId × Value → H) :
  ReturnsInHanded {} Tryz.checked os 9 .any (fun w args => (Rows.netCopiesSpec.pre enc Tryz.prog Tryz.f9 [] false w args ∧ laidMetH Tryz.prog Rows.netCopiesRow.laid w) ∧ sizedMet enc Tryz.prog Tryz.f9 (OpenSpec.ofChange Rows.netCopiesSpec) false w args)
   (Rows.netCopiesSpec.post enc Tryz.prog Tryz.f9 false true false false) := by
 refine returnsInHanded_of_change_and (C := Tryz.checked) (X := fun w _ => laidMetH Tryz.prog Rows.netCopiesRow.laid w) (fun _ _ _ hh h => h.of_heap hh) own started kR Tryz.func9
  (ChangeSpec.witness_shaped (enc := enc) (C := Tryz.checked) (os := os) (X := fun w _ => laidMetH Tryz.prog Rows.netCopiesRow.laid w) false (World.doorLaid Tryz.prog 214 os) #[.int .i64 0, .int .i64 0, .bool false] 8 rfl (World.shaped_of_RefB kR kR) kR kR kR (door_met os _)) ?_
 intro W base args ds gs before hval0 hW _ _ _ _
 have hval : ∀ (j : Nat) t v, Tryz.f9.params[j]? = some t → args[j]? = some v → Value.okWide Tryz.prog W .any base t v := hval0
 have hW' := hW
 obtain ⟨p, q, hA0, hV, rfl, hfz, hnd⟩ := hW
 have hA : DataW.TrodAll enc Tryz.prog W 0 (fun _ => true) true Tryz.f9.params.toList args.toList ds p := hA0
 rw [Tryz.params9] at hA hval
 obtain ⟨v0, vs0, d0, ds0, p0, q0, hargs, rfl, rfl, h0, r0⟩ := trodAll_cons hA
 obtain ⟨v1, vs1, d1, ds1, p1, q1, rfl, rfl, rfl, h1, r1⟩ := trodAll_cons r0
 obtain ⟨v2, vs2, d2, ds2, p2, q2, rfl, rfl, rfl, h2, r2⟩ := trodAll_cons r1
 obtain ⟨rfl, rfl, rfl⟩ := trodAll_nil r2
 obtain rfl : args = #[v0, v1, v2] := by cases args; simp_all
 obtain ⟨rfl, rfl⟩ := trodVars_none hV
 obtain ⟨a0, rfl, rfl, rfl, w0⟩ := open_int Tryz.underlying3 (hval 0 3 v0 rfl rfl) h0
 obtain ⟨a1, rfl, rfl, rfl, w1⟩ := open_int Tryz.underlying3 (hval 1 3 v1 rfl rfl) h1
 obtain ⟨a2, rfl, rfl, rfl⟩ := open_bool Tryz.underlying4 (hval 2 4 v2 rfl rfl) h2
 clear hA0 hval0
 refine (calls_true (walk a0 a1 a2) W).mono fun e W2 ⟨he, hb⟩ => ?_
 subst he
 exact ⟨_, rfl, law_post (tb := 4) kR kR rfl rfl Tryz.underlying4 rfl hW' hb⟩
set_option maxRecDepth 100000 in
theorem jf1 : (Rows.netCopiesRow.inPlace == Tryz.prog.inPlace 9) = true := by kernel_rfl
set_option maxRecDepth 100000 in
theorem jf2 : (Rows.netCopiesRow.unfollowed == Tryz.prog.unfollowed 9) = true := by kernel_rfl
set_option maxRecDepth 100000 in
theorem jf3 : (Rows.netCopiesRow.recurses == Tryz.prog.recurses 9) = true := by kernel_rfl
set_option maxRecDepth 100000 in
theorem jf4 : (Rows.netCopiesRow.named == Tryz.prog.varsNamed 9) = true := by kernel_rfl
set_option maxRecDepth 100000 in
theorem closed : joinedFacts Tryz.prog 9 Tryz.f9 Rows.netCopiesSpec Rows.netCopiesRow = true := by
 unfold joinedFacts
 rw [jf1, jf2, jf3, jf4]
 kernel_rfl
set_option maxRecDepth 100000 in
theorem inst : Tryz.f9.isInstance Tryz.prog Rows.netCopiesRow.origin Rows.netCopiesRow.targs := of_decide_eq_true kR
set_option maxRecDepth 100000 in
theorem wrap : Tryz.f9.isWrapper Tryz.prog Rows.netCopiesRow.wrapper Rows.netCopiesRow.mainSum := by
 unfold Func.isWrapper
 first | (rw [if_pos (by decide +kernel)]; kernel_rfl) | (rw [if_neg (by decide +kernel)]; exact ⟨rfl, rfl⟩)
set_option maxRecDepth 100000 in
theorem over : Rows.NetCopiesSaid :=
 OpenClaim.holds_of_wide 9 Tryz.f9 rfl rfl rfl rfl rfl rfl rfl ⟨rfl, rfl, rfl, rfl, rfl⟩ rfl rfl rfl rfl rfl kR Tryz.func9 closed inst wrap
  (fun os started H enc _ => lifted os started H enc)
set_option maxRecDepth 100000 in
theorem q_wf : (Rows.netCopiesRow).wfByText (OpenSpec.ofChange Rows.netCopiesSpec) = true := by kernel_rfl
set_option maxRecDepth 100000 in
theorem q_main : Tryz.prog.mainIs = some (Rows.netCopiesCard.stood.harness.fst, Rows.netCopiesCard.stood.harness.snd.toList) := by kernel_rfl
set_option maxRecDepth 100000 in
theorem q_looks : false = Tryz.prog.looks [] := by kernel_rfl
set_option maxRecDepth 100000 in
theorem q_goes : false = Rows.netCopiesRow.goesBy Tryz.prog := by kernel_rfl
set_option maxRecDepth 100000 in
theorem q_named : Tryz.prog.funcNamed "rivulet/rivuletlaw25.NetCopies" = some 9 := by kernel_rfl
set_option maxRecDepth 100000 in
theorem proved : Rows.NetCopiesCardSaid :=
 Claim7.holds_tied_plain_at .later [] Rows.netCopiesCard.laidKinds true Rows.netCopiesCard.stood.harness false
  over (fun _ h => by cases h) q_wf (fun _ h => by cases h) netCopies_row_tie rfl ⟨rfl, rfl⟩ q_main rfl
  (fun f fn hf hfn => by
   obtain rfl : f = 9 := Option.some.inj (q_named.symm.trans hf) |>.symm
   obtain rfl : fn = Tryz.f9 := (Option.some.inj (Tryz.func9.symm.trans hfn)).symm
   exact ⟨q_looks, fun j t ht => by
    rw [Tryz.params9] at ht
    have hm : t ∈ [3, 4] := by have := Array.mem_of_getElem? ht; simpa using this
    have hall : ([3, 4].all fun u => !Tryz.prog.wantsStandIn u) = true := by kernel_rfl
    exact (show Tryz.prog.wantsStandIn t = false by simpa using List.all_eq_true.1 hall t hm)⟩)
  q_goes
end Go.Proofs.YtihdpjinaafenaaGreatDoor.netCopies
