import Derived.Test.YtfbjgbecabbdnaaGreatDoorTs19
import Derived.Test.YtfbjgbecabbdnaaGreatDoorProg
/- Keys, structs of numbers. -/
set_option linter.unusedVariables false
set_option maxRecDepth 100000
namespace Go.Proofs.YtfbjgbecabbdnaaGreatDoor
open Sl Ce
/-- What is known of keys, of structs of numbers. -/
def shOf (t : Nat) : Option Sh := bif Nat.beq t 125 then some (.int .u32) else bif Nat.beq t 166 then some (.int .i64) else bif Nat.beq t 167 then some (.int .i64) else bif Nat.beq t 174 then some (.agg [.i64, .u32, .u32]) else bif Nat.beq t 224 then some (.agg [.u32, .u32]) else none
def eqOf (t : Nat) : Option (List IntKind) := bif Nat.beq t 48 then some [.u32, .u32] else bif Nat.beq t 61 then some [.i64, .u32, .u32] else bif Nat.beq t 102 then some [.u32, .i64] else none
theorem eqlaw161 : ∀ a b : List Int, a.length = [IntKind.i64, IntKind.u32, IntKind.u32].length → b.length = ([.i64, .u32, .u32] : List IntKind).length → eqv Tryz.prog 10000 161 (.agg (zipK [.i64, .u32, .u32] a).toArray) (.agg (zipK [.i64, .u32, .u32] b).toArray) = some (decide (a = b))
  | [a0, a1, a2], [b0, b1, b2], _, _ => by
    have h48 : Tryz.prog.cellsOf 48 = 2 := by kernel_rfl
    simp [eqv, eqvFields, partV, zipK, h48]
    try (rw [Bool.eq_iff_iff]; simp; try omega)
theorem ckeq161 : ∀ a : List Int, a.length = ([.i64, .u32, .u32] : List IntKind).length → ckv Tryz.prog 10000 161 (.agg (zipK [.i64, .u32, .u32] a).toArray) = true
  | [a0, a1, a2], _ => by
    have h48 : Tryz.prog.cellsOf 48 = 2 := by kernel_rfl
    simp [ckv, ckvF, partV, zipK, h48]
theorem eqlaw48 : ∀ a b : List Int, a.length = [IntKind.u32, IntKind.u32].length → b.length = ([.u32, .u32] : List IntKind).length → eqv Tryz.prog 10000 48 (.agg (zipK [.u32, .u32] a).toArray) (.agg (zipK [.u32, .u32] b).toArray) = some (decide (a = b))
  | [a0, a1], [b0, b1], _, _ => by
    simp [eqv, eqvFields, partV, zipK]
    try (rw [Bool.eq_iff_iff]; simp; try omega)
theorem ckeq48 : ∀ a : List Int, a.length = ([.u32, .u32] : List IntKind).length → ckv Tryz.prog 10000 48 (.agg (zipK [.u32, .u32] a).toArray) = true
  | [a0, a1], _ => by
    simp [ckv, ckvF, partV, zipK]
theorem eqlaw61 : ∀ a b : List Int, a.length = [IntKind.i64, IntKind.u32, IntKind.u32].length → b.length = ([.i64, .u32, .u32] : List IntKind).length → eqv Tryz.prog 10000 61 (.agg (zipK [.i64, .u32, .u32] a).toArray) (.agg (zipK [.i64, .u32, .u32] b).toArray) = some (decide (a = b))
  | [a0, a1, a2], [b0, b1, b2], _, _ => by
    have h48 : Tryz.prog.cellsOf 48 = 2 := by kernel_rfl
    simp [eqv, eqvFields, partV, zipK, h48]
    try (rw [Bool.eq_iff_iff]; simp; try omega)
theorem ckeq61 : ∀ a : List Int, a.length = ([.i64, .u32, .u32] : List IntKind).length → ckv Tryz.prog 10000 61 (.agg (zipK [.i64, .u32, .u32] a).toArray) = true
  | [a0, a1, a2], _ => by
    have h48 : Tryz.prog.cellsOf 48 = 2 := by kernel_rfl
    simp [ckv, ckvF, partV, zipK, h48]
theorem eqlaw102 : ∀ a b : List Int, a.length = [IntKind.u32, IntKind.i64].length → b.length = ([.u32, .i64] : List IntKind).length → eqv Tryz.prog 10000 102 (.agg (zipK [.u32, .i64] a).toArray) (.agg (zipK [.u32, .i64] b).toArray) = some (decide (a = b))
  | [a0, a1], [b0, b1], _, _ => by
    simp [eqv, eqvFields, partV, zipK]
    try (rw [Bool.eq_iff_iff]; simp; try omega)
theorem ckeq102 : ∀ a : List Int, a.length = ([.u32, .i64] : List IntKind).length → ckv Tryz.prog 10000 102 (.agg (zipK [.u32, .i64] a).toArray) = true
  | [a0, a1], _ => by
    simp [ckv, ckvF, partV, zipK]
theorem shLaw : ∀ t s, shOf t = some s → ∃ kt et d, Tryz.prog.underlying t = some (.map kt et) ∧ Tryz.prog.underlying kt = some d ∧ KeyLaw Tryz.prog kt s.enc := by
  intro t s h
  by_cases h125 : t = 125
  · subst h125
    cases (show some (.int .u32) = some s from h)
    exact KeyLaw.ex Tryz.underlying125 Tryz.underlying45 (law_int Tryz.underlying45)
  by_cases h166 : t = 166
  · subst h166
    cases (show some (.int .i64) = some s from h)
    exact KeyLaw.ex Tryz.underlying166 Tryz.underlying3 (law_int Tryz.underlying3)
  by_cases h167 : t = 167
  · subst h167
    cases (show some (.int .i64) = some s from h)
    exact KeyLaw.ex Tryz.underlying167 Tryz.underlying3 (law_int Tryz.underlying3)
  by_cases h174 : t = 174
  · subst h174
    cases (show some (.agg [.i64, .u32, .u32]) = some s from h)
    exact KeyLaw.ex Tryz.underlying174 Tryz.underlying161 (law_agg Tryz.underlying161 eqlaw161 ckeq161)
  by_cases h224 : t = 224
  · subst h224
    cases (show some (.agg [.u32, .u32]) = some s from h)
    exact KeyLaw.ex Tryz.underlying224 Tryz.underlying48 (law_agg Tryz.underlying48 eqlaw48 ckeq48)
  exfalso
  unfold shOf at h
  rw [show Nat.beq t 125 = false from by cases e : Nat.beq t 125 with | false => rfl | true => exact absurd (Nat.eq_of_beq_eq_true e) h125] at h
  simp only [cond_false] at h
  rw [show Nat.beq t 166 = false from by cases e : Nat.beq t 166 with | false => rfl | true => exact absurd (Nat.eq_of_beq_eq_true e) h166] at h
  simp only [cond_false] at h
  rw [show Nat.beq t 167 = false from by cases e : Nat.beq t 167 with | false => rfl | true => exact absurd (Nat.eq_of_beq_eq_true e) h167] at h
  simp only [cond_false] at h
  rw [show Nat.beq t 174 = false from by cases e : Nat.beq t 174 with | false => rfl | true => exact absurd (Nat.eq_of_beq_eq_true e) h174] at h
  simp only [cond_false] at h
  rw [show Nat.beq t 224 = false from by cases e : Nat.beq t 224 with | false => rfl | true => exact absurd (Nat.eq_of_beq_eq_true e) h224] at h
  simp only [cond_false] at h
  cases h
theorem eqLaw : ∀ t ks, eqOf t = some ks → Tryz.prog.eqGuardType Tryz.prog.depth t = false ∧ ∀ a b : List Int, a.length = ks.length → b.length = ks.length → eqv Tryz.prog 10000 t (.agg (zipK ks a).toArray) (.agg (zipK ks b).toArray) = some (decide (a = b)) := by
  intro t ks h
  by_cases h48 : t = 48
  · subst h48
    cases (show some [IntKind.u32, IntKind.u32] = some ks from h)
    exact ⟨by kernel_rfl, eqlaw48⟩
  by_cases h61 : t = 61
  · subst h61
    cases (show some [IntKind.i64, IntKind.u32, IntKind.u32] = some ks from h)
    exact ⟨by kernel_rfl, eqlaw61⟩
  by_cases h102 : t = 102
  · subst h102
    cases (show some [IntKind.u32, IntKind.i64] = some ks from h)
    exact ⟨by kernel_rfl, eqlaw102⟩
  exfalso
  unfold eqOf at h
  rw [show Nat.beq t 48 = false from by cases e : Nat.beq t 48 with | false => rfl | true => exact absurd (Nat.eq_of_beq_eq_true e) h48] at h
  simp only [cond_false] at h
  rw [show Nat.beq t 61 = false from by cases e : Nat.beq t 61 with | false => rfl | true => exact absurd (Nat.eq_of_beq_eq_true e) h61] at h
  simp only [cond_false] at h
  rw [show Nat.beq t 102 = false from by cases e : Nat.beq t 102 with | false => rfl | true => exact absurd (Nat.eq_of_beq_eq_true e) h102] at h
  simp only [cond_false] at h
  cases h
def kn (ξ : Nat → Value) : Kn Tryz.prog := { ξ := ξ, sh := shOf, law := shLaw, eqs := eqOf, eqlaw := eqLaw }
end Go.Proofs.YtfbjgbecabbdnaaGreatDoor
