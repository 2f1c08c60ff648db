/- TrieFinds: the row over the walk. -/
import Derived.Test.YtielfejpnkcjbaaRows
import Derived.Test.YtielfejpnkcjbaaPost
import Derived.Test.YtielfejpnkcjbaaTrieFinds
import Derived.Test.YtielfejpnkcjbaaArgDo
namespace Go.Proofs.Ytielfejpnkcjbaa.trieFinds
open Go.ChangeShapes Go.WideShapes Go.ChangeAt Go.RowKit Go.Proofs.Ytielfejpnkcjbaa.Sl
set_option linter.unusedVariables false
theorem own : ownKnob Try.prog.godebug = none := by kernel_rfl
theorem walk (a0 : Option Addr) (n0 c0 k0 : Nat) {w : World} (w0 : Shp Try.prog (heapOf w) k0 44 [.slice a0 n0 c0]) (a1 : Int) (w1 : (Lit.int .u32 a1).wf = true) :
    SCalls Try.prog 4 #[.slice a0 n0 c0, .int .u32 a1] (heapOf w) (fun r h => (heapOf w).le h ∧ r = .bool true) := by
  obtain ⟨A, rfl, hA⟩ := u32_of w1
  obtain ⟨ds, rfl, hn, hc, hd⟩ := dos_of_shp w0
  exact finds_ok ds _ A hA hd (heapOf w) hc hn
set_option maxRecDepth 100000 in
theorem lifted (os : Os) (started : os.Started) (H : Type) (enc : TypeId × Value → H) :
    ReturnsInHanded {} Try.checked os 4 .any (Rows.trieFindsSpec.pre6 enc Try.prog Try.f4 Rows.trieFindsRow.domain false) (Rows.trieFindsSpec.post enc Try.prog Try.f4 false true false false) := by
  refine returnsInHanded_of_change (C := Try.checked) own started (by kernel_rfl) Try.func4
    (ChangeSpec.witness6 (enc := enc) (C := Try.checked) false ⟨#[], #[.slice none 0 0, .int .u32 0], []⟩ 8 (by kernel_rfl) (by kernel_rfl) (by kernel_rfl) (by kernel_rfl)) ?_
  intro W base args ds gs before hval0 hW hcnd _
  have hval : ∀ (j : Nat) t v, Try.f4.params[j]? = some t → args[j]? = some v → Value.okWide Try.prog W .any base t v := hval0
  have hW' := hW
  obtain ⟨p, q, hA0, hV, rfl, hfz, hnd⟩ := hW
  have hA : DataW.TrodAll enc Try.prog W 0 (fun _ => true) true Try.f4.params.toList args.toList ds p := hA0
  rw [Try.params4] at hA hval
  obtain ⟨v0, vs0, d0, ds0, p0, q0, hargs, rfl, rfl, h0, r0⟩ := trodAll_cons hA
  obtain ⟨v1, vs1, d1, ds1, p1, q1, rfl, rfl, rfl, h1, r1⟩ := trodAll_cons r0
  obtain ⟨rfl, rfl, rfl⟩ := trodAll_nil r1
  obtain rfl : args = #[v0, v1] := by cases args; simp_all
  obtain ⟨rfl, rfl⟩ := trodVars_none hV
  obtain ⟨a0, n0, c0, rfl⟩ := okWide_slice Try.underlying44 (hval 0 44 v0 rfl rfl)
  obtain ⟨k0, w0⟩ := shp_arg h0
  obtain ⟨a1, rfl, rfl, rfl, w1⟩ := open_int Try.underlying23 (hval 1 23 v1 rfl rfl) h1
  clear hA0 hval0
  refine (calls_below (walk a0 n0 c0 k0 w0 a1 w1)).mono fun e W2 ⟨he, hb⟩ => ?_
  subst he
  exact ⟨_, rfl, law_post (tb := 4) (by kernel_rfl) (by kernel_rfl) rfl rfl Try.underlying4 rfl hW' hb⟩
theorem over : Rows.trieFindsRow.holds Try.pinned (OpenSpec.ofChange Rows.trieFindsSpec) :=
  OpenClaim.holds_of_wide 4 Try.f4 rfl rfl rfl rfl rfl rfl rfl ⟨rfl, rfl, rfl, rfl, rfl⟩ rfl rfl rfl rfl rfl (by kernel_rfl) Try.func4 (by kernel_rfl)
    (of_decide_eq_true (by kernel_rfl)) (by unfold Func.isWrapper; first | (rw [if_pos (by decide +kernel)]; kernel_rfl) | (rw [if_neg (by decide +kernel)]; exact ⟨rfl, rfl⟩))
    (fun os started H enc _ => lifted os started H enc)
theorem proved : Rows.TrieFindsSaid := over
end Go.Proofs.Ytielfejpnkcjbaa.trieFinds
