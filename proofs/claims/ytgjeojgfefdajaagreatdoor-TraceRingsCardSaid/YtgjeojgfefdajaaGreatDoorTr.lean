import Derived.Test.YtgjeojgfefdajaaGreatDoorTr20
import Derived.Test.YtgjeojgfefdajaaGreatDoorProg
import Derived.Test.YtgjeojgfefdajaaGreatDoorRows
import Derived.Test.YtgjeojgfefdajaaGreatDoorCards
import Derived.Test.YtgjeojgfefdajaaGreatDoorTie
import Derived.LaidMore
import Derived.OpenShut
import Derived.Stop.Joined
import Derived.SevenTiedAt
/- The table of functions. -/
set_option linter.unusedVariables false
set_option maxRecDepth 100000
namespace Go.Proofs.YtgjeojgfefdajaaGreatDoor
open Sl Ce
noncomputable def tab : CG := (.n none (.n none (.n (some c3) (.n none (.n (some c15) (.n none (.n none (.n (some c127) .e .e) (.n (some c191) .e .e)) (.n (some c95) .e .e)) (.n none (.n none (.n (some c143) .e .e) .e) .e)) (.n none (.n (some c39) (.n none (.n (some c135) .e .e) (.n (some c199) .e .e)) .e) (.n (some c55) (.n (some c87) (.n (some c151) .e .e) .e) (.n (some c119) (.n (some c183) .e .e) .e)))) (.n none (.n (some c19) (.n none (.n none (.n (some c131) .e .e) (.n (some c195) .e .e)) (.n (some c99) .e .e)) (.n none (.n (some c83) (.n (some c147) .e .e) .e) .e)) (.n none (.n none (.n none (.n (some c139) .e .e) .e) .e) (.n (some c59) (.n (some c91) .e (.n (some c219) .e .e)) (.n (some c123) (.n (some c187) .e .e) .e))))) (.n none (.n none (.n (some c17) (.n none (.n none (.n (some c129) .e .e) (.n (some c193) .e .e)) (.n (some c97) .e .e)) (.n none (.n (some c81) (.n (some c145) .e .e) .e) .e)) (.n none (.n (some c41) (.n (some c73) (.n (some c137) .e .e) .e) (.n (some c105) .e .e)) (.n (some c57) (.n (some c89) (.n (some c153) .e .e) (.n (some c217) .e .e)) (.n (some c121) (.n (some c185) .e .e) .e)))) (.n (some c13) (.n (some c21) (.n none (.n (some c69) (.n (some c133) .e .e) (.n (some c197) .e .e)) .e) (.n (some c53) (.n (some c85) (.n (some c149) .e .e) .e) (.n (some c117) (.n (some c181) .e .e) .e))) (.n none (.n none (.n (some c77) (.n (some c141) .e .e) .e) .e) (.n (some c61) (.n (some c93) .e .e) (.n (some c125) (.n (some c189) .e .e) .e)))))) (.n none (.n none (.n none (.n (some c16) (.n none (.n none (.n (some c128) .e .e) (.n (some c192) .e .e)) (.n (some c96) .e .e)) (.n none (.n (some c80) (.n (some c144) .e .e) .e) .e)) (.n none (.n none (.n none (.n (some c136) .e .e) (.n (some c200) .e .e)) .e) (.n (some c56) (.n (some c88) (.n (some c152) .e .e) .e) (.n (some c120) (.n (some c184) .e .e) .e)))) (.n none (.n (some c20) (.n none (.n none (.n (some c132) .e .e) (.n (some c196) .e .e)) .e) (.n none (.n (some c84) (.n (some c148) .e .e) .e) (.n none (.n (some c180) .e .e) .e))) (.n none (.n none (.n (some c76) (.n (some c140) .e .e) .e) .e) (.n (some c60) (.n (some c92) .e (.n (some c220) .e .e)) (.n (some c124) (.n (some c188) .e .e) .e))))) (.n none (.n none (.n (some c18) (.n none (.n none (.n (some c130) .e .e) (.n (some c194) .e .e)) (.n (some c98) (.n (some c162) .e .e) .e)) (.n none (.n (some c82) (.n (some c146) .e .e) .e) .e)) (.n none (.n (some c42) (.n none (.n (some c138) .e .e) .e) .e) (.n (some c58) (.n (some c90) .e (.n (some c218) .e .e)) (.n (some c122) (.n (some c186) .e .e) .e)))) (.n (some c14) (.n (some c22) (.n none (.n none (.n (some c134) .e .e) (.n (some c198) .e .e)) .e) (.n (some c54) (.n (some c86) (.n (some c150) .e .e) .e) (.n (some c118) (.n (some c182) .e .e) .e))) (.n none (.n (some c46) (.n none (.n (some c142) .e .e) .e) .e) (.n (some c62) (.n (some c94) .e .e) (.n (some c126) (.n (some c190) .e .e) .e)))))))
theorem tab_fit (ξ : Nat → Value) : GFit (kn ξ) tab := allF_fit (AllF.n (AllF.no) (AllF.n (AllF.no) (AllF.n (AllF.v (fit3 ξ)) (AllF.n (AllF.no) (AllF.n (AllF.v (fit15 ξ)) (AllF.n (AllF.no) (AllF.n (AllF.no) (AllF.n (AllF.v (fit127 ξ)) AllF.e AllF.e) (AllF.n (AllF.v (fit191 ξ)) AllF.e AllF.e)) (AllF.n (AllF.v (fit95 ξ)) AllF.e AllF.e)) (AllF.n (AllF.no) (AllF.n (AllF.no) (AllF.n (AllF.v (fit143 ξ)) AllF.e AllF.e) AllF.e) AllF.e)) (AllF.n (AllF.no) (AllF.n (AllF.v (fit39 ξ)) (AllF.n (AllF.no) (AllF.n (AllF.v (fit135 ξ)) AllF.e AllF.e) (AllF.n (AllF.v (fit199 ξ)) AllF.e AllF.e)) AllF.e) (AllF.n (AllF.v (fit55 ξ)) (AllF.n (AllF.v (fit87 ξ)) (AllF.n (AllF.v (fit151 ξ)) AllF.e AllF.e) AllF.e) (AllF.n (AllF.v (fit119 ξ)) (AllF.n (AllF.v (fit183 ξ)) AllF.e AllF.e) AllF.e)))) (AllF.n (AllF.no) (AllF.n (AllF.v (fit19 ξ)) (AllF.n (AllF.no) (AllF.n (AllF.no) (AllF.n (AllF.v (fit131 ξ)) AllF.e AllF.e) (AllF.n (AllF.v (fit195 ξ)) AllF.e AllF.e)) (AllF.n (AllF.v (fit99 ξ)) AllF.e AllF.e)) (AllF.n (AllF.no) (AllF.n (AllF.v (fit83 ξ)) (AllF.n (AllF.v (fit147 ξ)) AllF.e AllF.e) AllF.e) AllF.e)) (AllF.n (AllF.no) (AllF.n (AllF.no) (AllF.n (AllF.no) (AllF.n (AllF.v (fit139 ξ)) AllF.e AllF.e) AllF.e) AllF.e) (AllF.n (AllF.v (fit59 ξ)) (AllF.n (AllF.v (fit91 ξ)) AllF.e (AllF.n (AllF.v (fit219 ξ)) AllF.e AllF.e)) (AllF.n (AllF.v (fit123 ξ)) (AllF.n (AllF.v (fit187 ξ)) AllF.e AllF.e) AllF.e))))) (AllF.n (AllF.no) (AllF.n (AllF.no) (AllF.n (AllF.v (fit17 ξ)) (AllF.n (AllF.no) (AllF.n (AllF.no) (AllF.n (AllF.v (fit129 ξ)) AllF.e AllF.e) (AllF.n (AllF.v (fit193 ξ)) AllF.e AllF.e)) (AllF.n (AllF.v (fit97 ξ)) AllF.e AllF.e)) (AllF.n (AllF.no) (AllF.n (AllF.v (fit81 ξ)) (AllF.n (AllF.v (fit145 ξ)) AllF.e AllF.e) AllF.e) AllF.e)) (AllF.n (AllF.no) (AllF.n (AllF.v (fit41 ξ)) (AllF.n (AllF.v (fit73 ξ)) (AllF.n (AllF.v (fit137 ξ)) AllF.e AllF.e) AllF.e) (AllF.n (AllF.v (fit105 ξ)) AllF.e AllF.e)) (AllF.n (AllF.v (fit57 ξ)) (AllF.n (AllF.v (fit89 ξ)) (AllF.n (AllF.v (fit153 ξ)) AllF.e AllF.e) (AllF.n (AllF.v (fit217 ξ)) AllF.e AllF.e)) (AllF.n (AllF.v (fit121 ξ)) (AllF.n (AllF.v (fit185 ξ)) AllF.e AllF.e) AllF.e)))) (AllF.n (AllF.v (fit13 ξ)) (AllF.n (AllF.v (fit21 ξ)) (AllF.n (AllF.no) (AllF.n (AllF.v (fit69 ξ)) (AllF.n (AllF.v (fit133 ξ)) AllF.e AllF.e) (AllF.n (AllF.v (fit197 ξ)) AllF.e AllF.e)) AllF.e) (AllF.n (AllF.v (fit53 ξ)) (AllF.n (AllF.v (fit85 ξ)) (AllF.n (AllF.v (fit149 ξ)) AllF.e AllF.e) AllF.e) (AllF.n (AllF.v (fit117 ξ)) (AllF.n (AllF.v (fit181 ξ)) AllF.e AllF.e) AllF.e))) (AllF.n (AllF.no) (AllF.n (AllF.no) (AllF.n (AllF.v (fit77 ξ)) (AllF.n (AllF.v (fit141 ξ)) AllF.e AllF.e) AllF.e) AllF.e) (AllF.n (AllF.v (fit61 ξ)) (AllF.n (AllF.v (fit93 ξ)) AllF.e AllF.e) (AllF.n (AllF.v (fit125 ξ)) (AllF.n (AllF.v (fit189 ξ)) AllF.e AllF.e) AllF.e)))))) (AllF.n (AllF.no) (AllF.n (AllF.no) (AllF.n (AllF.no) (AllF.n (AllF.v (fit16 ξ)) (AllF.n (AllF.no) (AllF.n (AllF.no) (AllF.n (AllF.v (fit128 ξ)) AllF.e AllF.e) (AllF.n (AllF.v (fit192 ξ)) AllF.e AllF.e)) (AllF.n (AllF.v (fit96 ξ)) AllF.e AllF.e)) (AllF.n (AllF.no) (AllF.n (AllF.v (fit80 ξ)) (AllF.n (AllF.v (fit144 ξ)) AllF.e AllF.e) AllF.e) AllF.e)) (AllF.n (AllF.no) (AllF.n (AllF.no) (AllF.n (AllF.no) (AllF.n (AllF.v (fit136 ξ)) AllF.e AllF.e) (AllF.n (AllF.v (fit200 ξ)) AllF.e AllF.e)) AllF.e) (AllF.n (AllF.v (fit56 ξ)) (AllF.n (AllF.v (fit88 ξ)) (AllF.n (AllF.v (fit152 ξ)) AllF.e AllF.e) AllF.e) (AllF.n (AllF.v (fit120 ξ)) (AllF.n (AllF.v (fit184 ξ)) AllF.e AllF.e) AllF.e)))) (AllF.n (AllF.no) (AllF.n (AllF.v (fit20 ξ)) (AllF.n (AllF.no) (AllF.n (AllF.no) (AllF.n (AllF.v (fit132 ξ)) AllF.e AllF.e) (AllF.n (AllF.v (fit196 ξ)) AllF.e AllF.e)) AllF.e) (AllF.n (AllF.no) (AllF.n (AllF.v (fit84 ξ)) (AllF.n (AllF.v (fit148 ξ)) AllF.e AllF.e) AllF.e) (AllF.n (AllF.no) (AllF.n (AllF.v (fit180 ξ)) AllF.e AllF.e) AllF.e))) (AllF.n (AllF.no) (AllF.n (AllF.no) (AllF.n (AllF.v (fit76 ξ)) (AllF.n (AllF.v (fit140 ξ)) AllF.e AllF.e) AllF.e) AllF.e) (AllF.n (AllF.v (fit60 ξ)) (AllF.n (AllF.v (fit92 ξ)) AllF.e (AllF.n (AllF.v (fit220 ξ)) AllF.e AllF.e)) (AllF.n (AllF.v (fit124 ξ)) (AllF.n (AllF.v (fit188 ξ)) AllF.e AllF.e) AllF.e))))) (AllF.n (AllF.no) (AllF.n (AllF.no) (AllF.n (AllF.v (fit18 ξ)) (AllF.n (AllF.no) (AllF.n (AllF.no) (AllF.n (AllF.v (fit130 ξ)) AllF.e AllF.e) (AllF.n (AllF.v (fit194 ξ)) AllF.e AllF.e)) (AllF.n (AllF.v (fit98 ξ)) (AllF.n (AllF.v (fit162 ξ)) AllF.e AllF.e) AllF.e)) (AllF.n (AllF.no) (AllF.n (AllF.v (fit82 ξ)) (AllF.n (AllF.v (fit146 ξ)) AllF.e AllF.e) AllF.e) AllF.e)) (AllF.n (AllF.no) (AllF.n (AllF.v (fit42 ξ)) (AllF.n (AllF.no) (AllF.n (AllF.v (fit138 ξ)) AllF.e AllF.e) AllF.e) AllF.e) (AllF.n (AllF.v (fit58 ξ)) (AllF.n (AllF.v (fit90 ξ)) AllF.e (AllF.n (AllF.v (fit218 ξ)) AllF.e AllF.e)) (AllF.n (AllF.v (fit122 ξ)) (AllF.n (AllF.v (fit186 ξ)) AllF.e AllF.e) AllF.e)))) (AllF.n (AllF.v (fit14 ξ)) (AllF.n (AllF.v (fit22 ξ)) (AllF.n (AllF.no) (AllF.n (AllF.no) (AllF.n (AllF.v (fit134 ξ)) AllF.e AllF.e) (AllF.n (AllF.v (fit198 ξ)) AllF.e AllF.e)) AllF.e) (AllF.n (AllF.v (fit54 ξ)) (AllF.n (AllF.v (fit86 ξ)) (AllF.n (AllF.v (fit150 ξ)) AllF.e AllF.e) AllF.e) (AllF.n (AllF.v (fit118 ξ)) (AllF.n (AllF.v (fit182 ξ)) AllF.e AllF.e) AllF.e))) (AllF.n (AllF.no) (AllF.n (AllF.v (fit46 ξ)) (AllF.n (AllF.no) (AllF.n (AllF.v (fit142 ξ)) AllF.e AllF.e) AllF.e) AllF.e) (AllF.n (AllF.v (fit62 ξ)) (AllF.n (AllF.v (fit94 ξ)) AllF.e AllF.e) (AllF.n (AllF.v (fit126 ξ)) (AllF.n (AllF.v (fit190 ξ)) AllF.e AllF.e) AllF.e)))))))
end Go.Proofs.YtgjeojgfefdajaaGreatDoor

/- The evaluator: answers known ahead of time: Number's of values not looked at; a call that was evaluated. -/
set_option linter.unusedVariables false
set_option linter.unusedSimpArgs false
namespace Go.Proofs.YtgjeojgfefdajaaGreatDoor.Ce
open Go.Proofs.YtgjeojgfefdajaaGreatDoor.Sl Go.RowKit
variable {P : Program}
def posB : Pos → Pos → Bool
  | .h, .h => true
  | .o p, .o q => posB p q
  | .i p, .i q => posB p q
  | _, _ => false
theorem posB_eq : ∀ {p q : Pos}, posB p q = true → p = q
  | .h, .h, _ => rfl
  | .o p, .o q, h => by rw [posB_eq (p := p) (q := q) h]
  | .i p, .i q, h => by rw [posB_eq (p := p) (q := q) h]
  | .h, .o _, h => by cases h
  | .h, .i _, h => by cases h
  | .o _, .h, h => by cases h
  | .o _, .i _, h => by cases h
  | .i _, .h, h => by cases h
  | .i _, .o _, h => by cases h
/-- A call over the empty heap keeps whatever heap there is. -/
theorem calls_pure {f : FuncId} {args : Array Value} {R : Value → Heap → Prop} (c : SCalls P f args (fun _ => none) R) (h : Heap) : SCalls P f args h (fun r h' => h.le h' ∧ ∃ h1, R r h1) := by
  intro w rel
  refine (c w (fun b o e => by cases e)).mono ?_
  rintro e w' ⟨v, h1, rfl, hR, r, st⟩
  refine ⟨v, h, rfl, ⟨Heap.le_refl _, h1, hR⟩, fun b o e => ?_, ⟨st.os, st.tape, st.output, st.size, fun b hb _ => st.keep b hb rfl, fun b e1 e2 => absurd e1 e2⟩⟩
  rw [st.keep b (rel.lt e) rfl]; exact rel b o e
/-- Number's answers: (which value, the bound, the answer). -/
def lookN (j b : Nat) : List (Nat × Nat × Nat) → Option CV
  | [] => none
  | e :: r => bif Nat.beq j e.1 && Nat.beq b e.2.1 then some (.i .i64 (.ofNat e.2.2)) else lookN j b r
/-- fs: functions without arguments that say true. -/
def omN (num : Pos) (fs : List Pos) (tb : List (Nat × Nat × Nat)) : Om := fun f args => match args with
  | [.xi j, .i .i64 (.ofNat b)] => bif posB f num then lookN j b tb else none
  | [] => bif fs.any (posB f) then some (.b true) else none
  | _ => none
theorem lookN_mem {j b : Nat} {v : CV} : ∀ {tb : List (Nat × Nat × Nat)}, lookN j b tb = some v → ∃ r, (j, b, r) ∈ tb ∧ v = .i .i64 (.ofNat r)
  | [], h => by cases h
  | (j', b', r) :: tb, h => by
    unfold lookN at h
    cases hb : (Nat.beq j j' && Nat.beq b b') with
    | true =>
      rw [hb] at h
      cases h
      simp only [Bool.and_eq_true, Nat.beq_eq] at hb
      exact ⟨r, by simp [hb.1, hb.2], rfl⟩
    | false =>
      rw [hb] at h
      obtain ⟨r', h1, h2⟩ := lookN_mem h
      exact ⟨r', List.mem_cons_of_mem _ h1, h2⟩
theorem omN_ok {N : Kn P} {num : Pos} {fs : List Pos} {tb : List (Nat × Nat × Nat)} (ai : Nat → Int) (hx : ∀ j, N.ξ j = .int .i64 (ai j)) (htb : ∀ j b r, (j, b, r) ∈ tb → ai j % (b : Int) = (r : Int) ∧ 0 < b ∧ b ≤ 4611686018427387904)
    (hnum : Ab.okCall P (num.nat - 1) = true) (hN : ∀ (n b : Int) (h : Heap), 0 < b → b ≤ 4611686018427387904 → SCalls P (num.nat - 1) #[.int .i64 n, .int .i64 b] h (fun v h' => h' = h ∧ v = .int .i64 (n % b)))
    (hfs : ∀ f ∈ fs, Ab.okCall P (f.nat - 1) = true ∧ SCalls P (f.nat - 1) #[] (fun _ => none) (fun r _ => r = .bool true)) : OmOk N (omN num fs tb) := by
  intro f args v e
  unfold omN at e
  split at e
  · rename_i j b
    cases hf : posB f num with
    | false => rw [hf] at e; cases e
    | true =>
      rw [hf] at e
      have := posB_eq hf
      subst this
      obtain ⟨r, hr, rfl⟩ := lookN_mem e
      obtain ⟨h1, h2, h3⟩ := htb j b r hr
      refine ⟨hnum, fun β h vs hβ rv => ?_⟩
      cases rv with
      | cons r1 rv =>
        cases rv with
        | cons r2 rv =>
          cases rv
          cases r1
          cases r2
          rw [hβ, hx]
          refine (hN (ai j) (b : Int) h (by omega) (by omega)).mono fun u h' ⟨e1, e2⟩ => ?_
          subst e1
          rw [e2, h1]
          exact ⟨Heap.le_refl _, .i _ _⟩
  · cases hf : fs.any (posB f) with
    | false => rw [hf] at e; cases e
    | true =>
      rw [hf] at e
      cases e
      obtain ⟨g, hg, hgf⟩ := List.any_eq_true.1 hf
      have := posB_eq hgf
      subst this
      obtain ⟨h1, h2⟩ := hfs f hg
      refine ⟨h1, fun β h vs hβ rv => ?_⟩
      cases rv
      refine (calls_pure h2 h).mono fun u h' ⟨e1, _, e2⟩ => ?_
      rw [e2]
      exact ⟨e1, .b true⟩
  · cases e
/-- Nothing is known ahead. -/
def om0 : Om := fun _ _ => none
theorem om0_ok {N : Kn P} : OmOk N om0 := fun _ _ _ e => by cases e
end Go.Proofs.YtgjeojgfefdajaaGreatDoor.Ce

/- rivuletworld.Number. -/
set_option linter.unusedVariables false
set_option linter.unusedSimpArgs false
namespace Go.Proofs.YtgjeojgfefdajaaGreatDoor
open Sl
theorem wrap64_in (n : Int) (h : -9223372036854775808 ≤ n) (h' : n ≤ 9223372036854775807) : IntKind.i64.wrap n = n := by
  show (if (true && decide (n % 18446744073709551616 ≥ 9223372036854775808)) = true then n % 18446744073709551616 - 18446744073709551616 else n % 18446744073709551616) = n
  simp only [Bool.true_and, decide_eq_true_eq]
  split <;> omega
theorem tmod_fix (n b : Int) (hb : 0 < b) : (0 ≤ n.tmod b → n.tmod b = n % b) ∧ (n.tmod b < 0 → n.tmod b + b = n % b) ∧ -b < n.tmod b ∧ n.tmod b < b := by
  have h1 := Int.tmod_eq_emod (a := n) (b := b)
  have h2 := Int.emod_nonneg n (show b ≠ 0 by omega)
  have h3 := Int.emod_lt_of_pos n hb
  have hab : (b.natAbs : Int) = b := by omega
  split at h1
  · omega
  · rename_i hc
    have hne : n % b ≠ 0 := fun e => hc (.inr (Int.dvd_of_emod_eq_zero e))
    rw [hab] at h1
    omega
theorem number_ok (n b : Int) (hb : 0 < b) (hb' : b ≤ 4611686018427387904) (h : Heap) : SCalls Tryz.prog 14 #[.int .i64 n, .int .i64 b] h (fun v h' => h' = h ∧ v = .int .i64 (n % b)) := by
  refine s_enter Tryz.func14 rfl (by rw [Tryz.ntmps14]; simp) ?_
  rw [Tryz.ntmps14]
  obtain ⟨hf1, hf2, hlow, hhigh⟩ := tmod_fix n b hb
  have h2 := Int.emod_nonneg n (show b ≠ 0 by omega)
  have h3 := Int.emod_lt_of_pos n hb
  have hbn : b ≠ 0 := by omega
  have hbn' : (b == 0) = false := by simp [hbn]
  have hw : IntKind.i64.wrap (n.tmod b) = n.tmod b := wrap64_in _ (by omega) (by omega)
  generalize hT : T0 #[.int .i64 n, .int .i64 b] = T
  have h0 : T 0 = .int .i64 n := by rw [← hT]; rfl
  have h1 : T 1 = .int .i64 b := by rw [← hT]; rfl
  clear hT
  repeat refine s_seq ?_
  repeat refine s_seq ?_
  refine s_region ?_
  refine w_pv rfl dC (want_none rfl) (p_val evA) ?_
  refine w_nil ?_
  repeat refine s_seq ?_
  refine s_region ?_
  refine w_pv rfl dC (want_none rfl) (p_val evA) ?_
  refine w_pv rfl dC (want_none rfl) (p_val evA) ?_
  refine w_rd rfl dC (want_none rfl) (r_rem rfl evA evA arA) ?_
  refine w_pv rfl dC (want_none rfl) (p_val evA) ?_
  refine w_nil ?_
  repeat refine s_seq ?_
  refine s_region ?_
  refine w_pv rfl dC (want_none rfl) (p_val evA) ?_
  refine w_pv rfl dC (want_none rfl) (p_val evA) ?_
  refine w_nil ?_
  generalize n.tmod b = r at *
  generalize n % b = r' at *
  by_cases hr : r < 0
  · have hd : decide (r < 0) = true := decide_eq_true hr
    have hw2 : IntKind.i64.wrap (r + b) = r' := by rw [hf2 hr]; exact wrap64_in _ (by omega) (by omega)
    clear hf1 hf2
    repeat refine s_seq ?_
    refine s_cond (t := true) slA ?_
    repeat refine s_seq ?_
    refine s_region ?_
    refine w_pv rfl dC (want_none rfl) (p_val evA) ?_
    refine w_pv rfl dC (want_none rfl) (p_val evA) ?_
    refine w_pv rfl dC (want_none rfl) (p_val evA) ?_
    refine w_pv rfl dC (want_none rfl) (p_val evA) ?_
    refine w_nil ?_
    repeat refine s_seq ?_
    refine s_region ?_
    refine w_pv rfl dC (want_none rfl) (p_val evA) ?_
    refine w_pv rfl dC (want_none rfl) (p_val evA) ?_
    refine w_nil ?_
    refine s_ret ⟨_, res_one rfl rfl, rfl, ?_⟩
    simp only [pval, ev, upd, binVal, intBin, Option.map_some, ↓reduceIte, reduceCtorEq, Nat.reduceEqDiff, Nat.reduceBEq, List.map_toArray, List.map_cons, List.map_nil, cond_true, cond_false, decide_true, decide_false, Bool.not_true, Bool.not_false, Bool.true_and, Bool.false_and, Bool.and_true, Bool.and_false, beq_self_eq_true, bne_self_eq_false, List.getElem_toArray, List.getElem_cons_succ, List.getElem_cons_zero, *]
  · have hd : decide (r < 0) = false := decide_eq_false hr
    have hw2 : r = r' := hf1 (by omega)
    subst hw2
    clear hf1 hf2
    repeat refine s_seq ?_
    refine s_cond (t := false) slA ?_
    repeat refine s_seq ?_
    refine s_skip ?_
    repeat refine s_seq ?_
    refine s_region ?_
    refine w_pv rfl dC (want_none rfl) (p_val evA) ?_
    refine w_pv rfl dC (want_none rfl) (p_val evA) ?_
    refine w_nil ?_
    refine s_ret ⟨_, res_one rfl rfl, rfl, ?_⟩
    simp only [pval, ev, upd, binVal, intBin, Option.map_some, ↓reduceIte, reduceCtorEq, Nat.reduceEqDiff, Nat.reduceBEq, List.map_toArray, List.map_cons, List.map_nil, cond_true, cond_false, decide_true, decide_false, Bool.not_true, Bool.not_false, Bool.true_and, Bool.false_and, Bool.and_true, Bool.and_false, beq_self_eq_true, bne_self_eq_false, List.getElem_toArray, List.getElem_cons_succ, List.getElem_cons_zero, *]
end Go.Proofs.YtgjeojgfefdajaaGreatDoor

/- TraceRings: the evaluation of one case. -/
set_option linter.unusedVariables false
set_option maxRecDepth 1000000
namespace Go.Proofs.YtgjeojgfefdajaaGreatDoor
open Sl Ce
noncomputable def traceRingsNum : Pos := pos 14
noncomputable def traceRingsFir : Pos := pos 13
theorem traceRings_first_e : isTrue (callF om0 tab (evC om0 tab 1000000) false traceRingsFir [] .e .h 0) = true := by kernel_rfl
noncomputable def traceRingsAt (r0 : Bool) (r1 : Nat) : Bool := isTrue (callF (omN traceRingsNum [traceRingsFir] [(1, 2, r1)]) tab (evC (omN traceRingsNum [traceRingsFir] [(1, 2, r1)]) tab 1000000) false (pos 3) [.b r0, .xi 1] .e .h 0)
end Go.Proofs.YtgjeojgfefdajaaGreatDoor

/- TraceRings: some cases. -/
set_option maxRecDepth 1000000
namespace Go.Proofs.YtgjeojgfefdajaaGreatDoor
theorem atTraceRings_0_0 : traceRingsAt false 0 = true := by kernel_rfl
theorem atTraceRings_0_1 : traceRingsAt false 1 = true := by kernel_rfl
theorem atTraceRings_1_0 : traceRingsAt true 0 = true := by kernel_rfl
theorem atTraceRings_1_1 : traceRingsAt true 1 = true := by kernel_rfl
end Go.Proofs.YtgjeojgfefdajaaGreatDoor

/- TraceRings: every case, evaluated. -/
set_option linter.unusedVariables false
set_option maxRecDepth 1000000
namespace Go.Proofs.YtgjeojgfefdajaaGreatDoor
open Sl Ce
theorem traceRings_all : ∀ (r0 : Bool) (r1 : Nat), r1 < 2 → traceRingsAt r0 r1 = true
  | false, 0, _ => atTraceRings_0_0
  | false, 1, _ => atTraceRings_0_1
  | true, 0, _ => atTraceRings_1_0
  | true, 1, _ => atTraceRings_1_1
  | _, _ + 2, h => by omega
theorem traceRings_mixed : Tryz.prog.follows .mixedOrders = true := by kernel_rfl
theorem traceRings_first_ok : SCalls Tryz.prog 13 #[] (fun _ => none) (fun r _ => r = .bool true) := by
  have := true_of traceRings_mixed om0_ok (tab_fit fun _ => undef) traceRings_first_e (vs := []) .nil
  simpa [traceRingsFir, pos_nat] using this
theorem traceRings_ok (a0 : Bool) (a1 : Int) : SCalls Tryz.prog 3 #[.bool a0, .int .i64 a1] (fun _ => none) (fun r _ => r = .bool true) := by
  obtain ⟨r1, h1, h1'⟩ : ∃ r1 : Nat, a1 % ((2 : Nat) : Int) = r1 ∧ r1 < 2 := by
    have := Int.emod_nonneg a1 (show ((2 : Nat) : Int) ≠ 0 by omega)
    have := Int.emod_lt_of_pos a1 (show 0 < ((2 : Nat) : Int) by omega)
    exact ⟨(a1 % ((2 : Nat) : Int)).toNat, by omega, by omega⟩
  let ai : Nat → Int := fun j => a1
  have hω : OmOk (kn fun j => .int .i64 (ai j)) (omN traceRingsNum [traceRingsFir] [(1, 2, r1)]) := by
    refine omN_ok ai (fun _ => rfl) (fun j b r hm => ?_) (by rw [show traceRingsNum.nat - 1 = 14 from by simp [traceRingsNum, pos_nat]]; kernel_rfl) (fun n b h hb hb' => ?_) (fun f hf => ?_)
    · skip
      simp only [List.mem_cons, Prod.mk.injEq, List.not_mem_nil, or_false] at hm
      obtain ⟨rfl, rfl, rfl⟩ := hm
      exact ⟨h1, by omega, by omega⟩
    · rw [show traceRingsNum.nat - 1 = 14 from by simp [traceRingsNum, pos_nat]]
      exact number_ok n b hb hb' h
    · simp only [List.mem_singleton] at hf
      subst hf
      rw [show traceRingsFir.nat - 1 = 13 from by simp [traceRingsFir, pos_nat]]
      exact ⟨by kernel_rfl, traceRings_first_ok⟩
  have := true_of traceRings_mixed hω (tab_fit _) (traceRings_all a0 r1 h1') (vs := [.bool a0, .int .i64 a1]) (.cons (.b a0) (.cons (.xi (β := ⟨fun _ => none, _⟩) 1 rfl) .nil))
  simpa [pos_nat] using this
end Go.Proofs.YtgjeojgfefdajaaGreatDoor

/- TraceRings: in each case the call says true; the tied card. The conditions: none beyond the card's own. -/
set_option linter.unusedVariables false
namespace Go.Proofs.YtgjeojgfefdajaaGreatDoor.traceRings
open Go.ChangeShapes Go.WideShapes Go.ChangeAt Go.RowKit Go.Proofs.YtgjeojgfefdajaaGreatDoor.Sl Go.Proofs.YtgjeojgfefdajaaGreatDoor.Ce
theorem own : ownKnob Tryz.prog.godebug = none := by kernel_rfl
set_option maxRecDepth 100000 in
theorem door_met (os : Os) (args : Array Value) : laidMetH Tryz.prog Rows.traceRingsRow.laid ((World.doorLaid Tryz.prog 142 os).forCall (fun _ _ => 0) ⟨#[], args, []⟩).memory :=
  laidMetH_of_parts3 (fuel := 8) (laidMet_of_run' 8 kR kR) kR kR
theorem walk (a0 : Bool) (a1 : Int) : SCalls Tryz.prog 3 #[.bool a0, .int .i64 a1] (fun _ => none) (fun r _ => r = .bool true) := traceRings_ok a0 a1
set_option maxRecDepth 100000 in
theorem lifted (os : Os) (started : os.Started) (H : Type) (enc : TypeId × Value → H) :
    ReturnsInHanded {} Tryz.checked os 3 .any (fun w args => (Rows.traceRingsSpec.pre enc Tryz.prog Tryz.f3 [] false w args ∧ laidMetH Tryz.prog Rows.traceRingsRow.laid w) ∧ sizedMet enc Tryz.prog Tryz.f3 (OpenSpec.ofChange Rows.traceRingsSpec) false w args)
      (Rows.traceRingsSpec.post enc Tryz.prog Tryz.f3 false true false false) := by
  refine returnsInHanded_of_change_and (C := Tryz.checked) (X := fun w _ => laidMetH Tryz.prog Rows.traceRingsRow.laid w) (fun _ _ _ hh h => h.of_heap hh) own started kR Tryz.func3
    (ChangeSpec.witness_shaped (enc := enc) (C := Tryz.checked) (os := os) (X := fun w _ => laidMetH Tryz.prog Rows.traceRingsRow.laid w) false (World.doorLaid Tryz.prog 142 os) #[.bool false, .int .i64 0] 8 rfl (World.shaped_of_RefB kR kR) kR kR kR (door_met os _)) ?_
  intro W base args ds gs before hval0 hW _ _ _ _
  have hval : ∀ (j : Nat) t v, Tryz.f3.params[j]? = some t → args[j]? = some v → Value.okWide Tryz.prog W .any base t v := hval0
  have hW' := hW
  obtain ⟨p, q, hA0, hV, rfl, hfz, hnd⟩ := hW
  have hA : DataW.TrodAll enc Tryz.prog W 0 (fun _ => true) true Tryz.f3.params.toList args.toList ds p := hA0
  rw [Tryz.params3] at hA hval
  obtain ⟨v0, vs0, d0, ds0, p0, q0, hargs, rfl, rfl, h0, r0⟩ := trodAll_cons hA
  obtain ⟨v1, vs1, d1, ds1, p1, q1, rfl, rfl, rfl, h1, r1⟩ := trodAll_cons r0
  obtain ⟨rfl, rfl, rfl⟩ := trodAll_nil r1
  obtain rfl : args = #[v0, v1] := by cases args; simp_all
  obtain ⟨rfl, rfl⟩ := trodVars_none hV
  obtain ⟨a0, rfl, rfl, rfl⟩ := open_bool Tryz.underlying4 (hval 0 4 v0 rfl rfl) h0
  obtain ⟨a1, rfl, rfl, rfl, w1⟩ := open_int Tryz.underlying3 (hval 1 3 v1 rfl rfl) h1
  clear hA0 hval0
  refine (calls_true (walk a0 a1) W).mono fun e W2 ⟨he, hb⟩ => ?_
  subst he
  exact ⟨_, rfl, law_post (tb := 4) kR kR rfl rfl Tryz.underlying4 rfl hW' hb⟩
set_option maxRecDepth 100000 in
theorem jf1 : (Rows.traceRingsRow.inPlace == Tryz.prog.inPlace 3) = true := by kernel_rfl
set_option maxRecDepth 100000 in
theorem jf2 : (Rows.traceRingsRow.unfollowed == Tryz.prog.unfollowed 3) = true := by kernel_rfl
set_option maxRecDepth 100000 in
theorem jf3 : (Rows.traceRingsRow.recurses == Tryz.prog.recurses 3) = true := by kernel_rfl
set_option maxRecDepth 100000 in
theorem jf4 : (Rows.traceRingsRow.named == Tryz.prog.varsNamed 3) = true := by kernel_rfl
set_option maxRecDepth 100000 in
theorem closed : joinedFacts Tryz.prog 3 Tryz.f3 Rows.traceRingsSpec Rows.traceRingsRow = true := by
  unfold joinedFacts
  rw [jf1, jf2, jf3, jf4]
  kernel_rfl
set_option maxRecDepth 100000 in
theorem inst : Tryz.f3.isInstance Tryz.prog Rows.traceRingsRow.origin Rows.traceRingsRow.targs := of_decide_eq_true kR
set_option maxRecDepth 100000 in
theorem wrap : Tryz.f3.isWrapper Tryz.prog Rows.traceRingsRow.wrapper Rows.traceRingsRow.mainSum := by
  unfold Func.isWrapper
  first | (rw [if_pos (by decide +kernel)]; kernel_rfl) | (rw [if_neg (by decide +kernel)]; exact ⟨rfl, rfl⟩)
set_option maxRecDepth 100000 in
theorem over : Rows.TraceRingsSaid :=
  OpenClaim.holds_of_wide 3 Tryz.f3 rfl rfl rfl rfl rfl rfl rfl ⟨rfl, rfl, rfl, rfl, rfl⟩ rfl rfl rfl rfl rfl kR Tryz.func3 closed inst wrap
    (fun os started H enc _ => lifted os started H enc)
set_option maxRecDepth 100000 in
theorem proved : Rows.TraceRingsCardSaid :=
  Claim7.holds_tied_plain_at .later [] Rows.traceRingsCard.laidKinds true Rows.traceRingsCard.stood.harness false
    over (fun _ h => by cases h) kR (fun _ h => by cases h) traceRings_row_tie rfl ⟨rfl, rfl⟩ kR rfl
    (fun f fn hf hfn => by
      obtain rfl : f = 3 := Option.some.inj ((show Tryz.prog.funcNamed "rivulet/rivuletlaw21.TraceRings" = some 3 by kernel_rfl).symm.trans hf) |>.symm
      obtain rfl : fn = Tryz.f3 := (Option.some.inj (Tryz.func3.symm.trans hfn)).symm
      exact ⟨by kernel_rfl, fun j t ht => by
        rw [Tryz.params3] at ht
        have hm : t ∈ [4, 3] := by have := Array.mem_of_getElem? ht; simpa using this
        have hall : ([4, 3].all fun u => !Tryz.prog.wantsStandIn u) = true := by kernel_rfl
        exact (show Tryz.prog.wantsStandIn t = false by simpa using List.all_eq_true.1 hall t hm)⟩)
    kR
end Go.Proofs.YtgjeojgfefdajaaGreatDoor.traceRings
