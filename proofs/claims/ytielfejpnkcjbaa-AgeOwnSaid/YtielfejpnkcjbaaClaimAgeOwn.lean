/- AgeOwn: the row over the walk. -/
import Derived.Test.YtielfejpnkcjbaaRows
import Derived.Test.YtielfejpnkcjbaaPost
import Derived.Test.YtielfejpnkcjbaaArgMsg
namespace Go.Proofs.Ytielfejpnkcjbaa.ageOwn
open Go.ChangeShapes Go.WideShapes Go.ChangeAt Go.RowKit Go.Proofs.Ytielfejpnkcjbaa.Sl
set_option linter.unusedVariables false
theorem own : ownKnob Try.prog.godebug = none := by kernel_rfl
set_option maxRecDepth 100000 in
theorem lifted (os : Os) (started : os.Started) (H : Type) (enc : TypeId × Value → H) :
    ReturnsInHanded {} Try.checked os 5 .any (Rows.ageOwnSpec.pre6 enc Try.prog Try.f5 Rows.ageOwnRow.domain false) (Rows.ageOwnSpec.post enc Try.prog Try.f5 false true false false) := by
  refine returnsInHanded_of_change (C := Try.checked) own started kR Try.func5
    (ChangeSpec.witness6 (enc := enc) (C := Try.checked) false ⟨#[], #[.agg #[.int .i64 0, .int .u32 0, .int .u32 0, .int .u32 0, .int .u32 0, .int .i64 0, .int .i64 0, .bool false, .slice none 0 0], .agg #[.int .i64 0, .int .u32 0, .int .u32 0, .int .u32 0, .int .u32 0, .int .i64 0, .int .i64 0, .bool false, .slice none 0 0], .agg #[.int .i64 0, .int .i64 0, .int .u32 0, .int .u32 0, .int .u32 0], .agg #[.int .i64 0, .int .i64 0, .int .u32 0, .int .u32 0, .int .u32 0]], []⟩ 8 kR kR kR kR) ?_
  intro W base args ds gs before hval0 hW hcnd _
  have hW' := hW
  obtain ⟨p, q, hA0, hV, rfl, hfz, hnd⟩ := hW
  have hA : DataW.TrodAll enc Try.prog W 0 (fun _ => true) true Try.f5.params.toList args.toList ds p := hA0
  rw [Try.params5] at hA
  obtain ⟨v0, vs0, d0, ds0, p0, q0, hargs, rfl, rfl, h0, r0⟩ := trodAll_cons hA
  obtain ⟨v1, vs1, d1, ds1, p1, q1, rfl, rfl, rfl, h1, r1⟩ := trodAll_cons r0
  obtain ⟨v2, vs2, d2, ds2, p2, q2, rfl, rfl, rfl, h2, r2⟩ := trodAll_cons r1
  obtain ⟨v3, vs3, d3, ds3, p3, q3, rfl, rfl, rfl, h3, r3⟩ := trodAll_cons r2
  obtain ⟨rfl, rfl, rfl⟩ := trodAll_nil r3
  obtain rfl : args = #[v0, v1, v2, v3] := by cases args; simp_all
  obtain ⟨rfl, rfl⟩ := trodVars_none hV
  obtain ⟨k0, w0⟩ := shp_arg h0
  obtain ⟨k1, w1⟩ := shp_arg h1
  obtain ⟨k2, w2⟩ := shp_arg h2
  obtain ⟨k3, w3⟩ := shp_arg h3
  obtain ⟨m, svm, rfl, hcm⟩ := msg_of_shp w0
  obtain ⟨n, svn, rfl, hcn⟩ := msg_of_shp w1
  obtain ⟨a, rfl⟩ := thing_of_shp w2
  obtain ⟨b, rfl⟩ := thing_of_shp w3
  clear hA0 hval0
  refine (calls_below (ageOwn_ok m n svm svn a b (heapOf W) hcm hcn)).mono fun e W2 ⟨he, hb⟩ => ?_
  subst he
  exact ⟨_, rfl, law_post (tb := 4) kR kR rfl rfl Try.underlying4 rfl hW' hb⟩
theorem over : Rows.ageOwnRow.holds Try.pinned (OpenSpec.ofChange Rows.ageOwnSpec) :=
  OpenClaim.holds_of_wide 5 Try.f5 rfl rfl rfl rfl rfl rfl rfl ⟨rfl, rfl, rfl, rfl, rfl⟩ rfl rfl rfl rfl rfl kR Try.func5 kR
    (of_decide_eq_true kR) (by unfold Func.isWrapper; first | (rw [if_pos (by decide +kernel)]; kernel_rfl) | (rw [if_neg (by decide +kernel)]; exact ⟨rfl, rfl⟩))
    (fun os started H enc _ => lifted os started H enc)
theorem proved : Rows.AgeOwnSaid := over
end Go.Proofs.Ytielfejpnkcjbaa.ageOwn
