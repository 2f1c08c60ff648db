/-
  No cell of these rows narrows 'for every input' (looked for: loops, veiled, ifaces, maps, wideKeys, modest, calm, conditions, laid).
  DERIVED. THE GIVEN ROWS OF THIS SEAT. 8 by the template 'for every input the law returns true; each argument reads behind the call as it read before'; 0 by the template 'total and deterministic' (their statements: YtielfejpnkcjbaaTotals.lean).
  GIVEN WITH THE SEED: the statements are not yours to turn. If you find one false, say at which input.
  Laid BY PROGRAM, IN A SANDBOX (cutbox-rows.mjs): the forced cells as the released guide's own fill.sh prints them over the translation a54a78226384f78e… (all of the seat's roots in one cut). By AI agents, Wed Nov 11 2026. No macro, syntax, notation, axiom, sorry.
-/
import Derived.Test.YtielfejpnkcjbaaChecked
import GoSem.Claim
import GoSem.ClaimJoined
import GoSem.ClaimMapViews
import Derived.JoinedTies
import Derived.KernelRfl
namespace Go.Proofs.Ytielfejpnkcjbaa
/- THE CELL 'sum', in the pinned program and in every row, IS THE sha256 OF THE DUMP (.gsa) THAT YtielfejpnkcjbaaProg.lean LOADS. Nothing in Lean hashes anything: it is a label: what it is worth is what the hold of that sum in a sandbox is worth. -/
noncomputable def Try.pinned : Pinned := { name := "ytielfejpnkcjbaa", sum := "a54a78226384f78eaf1fe20c903daf4b158bae6a56e1700df07bd91718133f84", checked := Try.checked }
namespace Rows
def none {H : Type} : Left H := { results := [], args := [] }

/-- 'rivuletlaw7.TrieNests': WHATEVER THE INPUT: true; the input reads as it did. -/
def trieNestsSpec : ChangeSpec := { name := "trieNests", fn := fun _ => fun
  | [d1, d2, d3] => { results := [.lit (.bool true)], args := [d1, d2, d3] }
  | _ => none }
def trieNestsRow : OpenClaim := { program := "ytielfejpnkcjbaa", sum := "a54a78226384f78eaf1fe20c903daf4b158bae6a56e1700df07bd91718133f84", func := "rivulet/rivuletlaw7.TrieNests", spec := "trieNests", plainKeys := false, apart := false }
def TrieNestsSaid : Prop := trieNestsRow.holds Try.pinned (OpenSpec.ofChange trieNestsSpec)

/-- ITS FALSE NEIGHBOUR: 'it returns false'. Refute it at one input. -/
def trieNestsWrong : ChangeSpec := { name := "trieNests", fn := fun _ => fun
  | [d1, d2, d3] => { results := [.lit (.bool false)], args := [d1, d2, d3] }
  | _ => none }
def TrieNestsWrongFalsely : Prop := trieNestsRow.holds Try.pinned (OpenSpec.ofChange trieNestsWrong)

/-- 'rivuletlaw7.TrieFinds': WHATEVER THE INPUT: true; the input reads as it did. -/
def trieFindsSpec : ChangeSpec := { name := "trieFinds", fn := fun _ => fun
  | [d1, d2] => { results := [.lit (.bool true)], args := [d1, d2] }
  | _ => none }
def trieFindsRow : OpenClaim := { program := "ytielfejpnkcjbaa", sum := "a54a78226384f78eaf1fe20c903daf4b158bae6a56e1700df07bd91718133f84", func := "rivulet/rivuletlaw7.TrieFinds", spec := "trieFinds", plainKeys := false, apart := false }
def TrieFindsSaid : Prop := trieFindsRow.holds Try.pinned (OpenSpec.ofChange trieFindsSpec)

/-- ITS FALSE NEIGHBOUR: 'it returns false'. Refute it at one input. -/
def trieFindsWrong : ChangeSpec := { name := "trieFinds", fn := fun _ => fun
  | [d1, d2] => { results := [.lit (.bool false)], args := [d1, d2] }
  | _ => none }
def TrieFindsWrongFalsely : Prop := trieFindsRow.holds Try.pinned (OpenSpec.ofChange trieFindsWrong)

/-- 'rivuletlaw15.AgeOwn': WHATEVER THE INPUT: true; the input reads as it did. -/
def ageOwnSpec : ChangeSpec := { name := "ageOwn", fn := fun _ => fun
  | [d1, d2, d3, d4] => { results := [.lit (.bool true)], args := [d1, d2, d3, d4] }
  | _ => none }
def ageOwnRow : OpenClaim := { program := "ytielfejpnkcjbaa", sum := "a54a78226384f78eaf1fe20c903daf4b158bae6a56e1700df07bd91718133f84", func := "rivulet/rivuletlaw15.AgeOwn", spec := "ageOwn", plainKeys := false, apart := false }
def AgeOwnSaid : Prop := ageOwnRow.holds Try.pinned (OpenSpec.ofChange ageOwnSpec)

/-- ITS FALSE NEIGHBOUR: 'it returns false'. Refute it at one input. -/
def ageOwnWrong : ChangeSpec := { name := "ageOwn", fn := fun _ => fun
  | [d1, d2, d3, d4] => { results := [.lit (.bool false)], args := [d1, d2, d3, d4] }
  | _ => none }
def AgeOwnWrongFalsely : Prop := ageOwnRow.holds Try.pinned (OpenSpec.ofChange ageOwnWrong)

/-- 'rivuletlaw15.AgeHolds': WHATEVER THE INPUT: true; the input reads as it did. -/
def ageHoldsSpec : ChangeSpec := { name := "ageHolds", fn := fun _ => fun
  | [d1, d2, d3] => { results := [.lit (.bool true)], args := [d1, d2, d3] }
  | _ => none }
def ageHoldsRow : OpenClaim := { program := "ytielfejpnkcjbaa", sum := "a54a78226384f78eaf1fe20c903daf4b158bae6a56e1700df07bd91718133f84", func := "rivulet/rivuletlaw15.AgeHolds", spec := "ageHolds", unfollowed := true, recurses := true, plainKeys := false, apart := false }
def AgeHoldsSaid : Prop := ageHoldsRow.holds Try.pinned (OpenSpec.ofChange ageHoldsSpec)

/-- ITS FALSE NEIGHBOUR: 'it returns false'. Refute it at one input. -/
def ageHoldsWrong : ChangeSpec := { name := "ageHolds", fn := fun _ => fun
  | [d1, d2, d3] => { results := [.lit (.bool false)], args := [d1, d2, d3] }
  | _ => none }
def AgeHoldsWrongFalsely : Prop := ageHoldsRow.holds Try.pinned (OpenSpec.ofChange ageHoldsWrong)

/-- 'rivuletlaw15.AgeOrders': WHATEVER THE INPUT: true; the input reads as it did. -/
def ageOrdersSpec : ChangeSpec := { name := "ageOrders", fn := fun _ => fun
  | [d1, d2] => { results := [.lit (.bool true)], args := [d1, d2] }
  | _ => none }
def ageOrdersRow : OpenClaim := { program := "ytielfejpnkcjbaa", sum := "a54a78226384f78eaf1fe20c903daf4b158bae6a56e1700df07bd91718133f84", func := "rivulet/rivuletlaw15.AgeOrders", spec := "ageOrders", unfollowed := true, recurses := true, plainKeys := false, apart := false }
def AgeOrdersSaid : Prop := ageOrdersRow.holds Try.pinned (OpenSpec.ofChange ageOrdersSpec)

/-- ITS FALSE NEIGHBOUR: 'it returns false'. Refute it at one input. -/
def ageOrdersWrong : ChangeSpec := { name := "ageOrders", fn := fun _ => fun
  | [d1, d2] => { results := [.lit (.bool false)], args := [d1, d2] }
  | _ => none }
def AgeOrdersWrongFalsely : Prop := ageOrdersRow.holds Try.pinned (OpenSpec.ofChange ageOrdersWrong)

/-- 'rivuletlaw15.AgePlays': WHATEVER THE INPUT: true; the input reads as it did. -/
def agePlaysSpec : ChangeSpec := { name := "agePlays", fn := fun _ => fun
  | [d1, d2, d3] => { results := [.lit (.bool true)], args := [d1, d2, d3] }
  | _ => none }
def agePlaysRow : OpenClaim := { program := "ytielfejpnkcjbaa", sum := "a54a78226384f78eaf1fe20c903daf4b158bae6a56e1700df07bd91718133f84", func := "rivulet/rivuletlaw15.AgePlays", spec := "agePlays", inPlace := ["maps.clone"], unfollowed := true, recurses := true, plainKeys := false, apart := false }
def AgePlaysSaid : Prop := agePlaysRow.holds Try.pinned (OpenSpec.ofChange agePlaysSpec)

/-- ITS FALSE NEIGHBOUR: 'it returns false'. Refute it at one input. -/
def agePlaysWrong : ChangeSpec := { name := "agePlays", fn := fun _ => fun
  | [d1, d2, d3] => { results := [.lit (.bool false)], args := [d1, d2, d3] }
  | _ => none }
def AgePlaysWrongFalsely : Prop := agePlaysRow.holds Try.pinned (OpenSpec.ofChange agePlaysWrong)

/-- 'rivuletlaw7.TrieOrder': WHATEVER THE INPUT: true; the input reads as it did. -/
def trieOrderSpec : ChangeSpec := { name := "trieOrder", fn := fun _ => fun
  | [d1, d2, d3] => { results := [.lit (.bool true)], args := [d1, d2, d3] }
  | _ => none }
def trieOrderRow : OpenClaim := { program := "ytielfejpnkcjbaa", sum := "a54a78226384f78eaf1fe20c903daf4b158bae6a56e1700df07bd91718133f84", func := "rivulet/rivuletlaw7.TrieOrder", spec := "trieOrder", unfollowed := true, recurses := true, plainKeys := false, apart := false }
def TrieOrderSaid : Prop := trieOrderRow.holds Try.pinned (OpenSpec.ofChange trieOrderSpec)

/-- ITS FALSE NEIGHBOUR: 'it returns false'. Refute it at one input. -/
def trieOrderWrong : ChangeSpec := { name := "trieOrder", fn := fun _ => fun
  | [d1, d2, d3] => { results := [.lit (.bool false)], args := [d1, d2, d3] }
  | _ => none }
def TrieOrderWrongFalsely : Prop := trieOrderRow.holds Try.pinned (OpenSpec.ofChange trieOrderWrong)

/-- 'rivuletlaw7.TriePlays': WHATEVER THE INPUT: true; the input reads as it did. -/
def triePlaysSpec : ChangeSpec := { name := "triePlays", fn := fun _ => fun
  | [d1, d2, d3] => { results := [.lit (.bool true)], args := [d1, d2, d3] }
  | _ => none }
def triePlaysRow : OpenClaim := { program := "ytielfejpnkcjbaa", sum := "a54a78226384f78eaf1fe20c903daf4b158bae6a56e1700df07bd91718133f84", func := "rivulet/rivuletlaw7.TriePlays", spec := "triePlays", unfollowed := true, recurses := true, plainKeys := false, apart := false }
def TriePlaysSaid : Prop := triePlaysRow.holds Try.pinned (OpenSpec.ofChange triePlaysSpec)

/-- ITS FALSE NEIGHBOUR: 'it returns false'. Refute it at one input. -/
def triePlaysWrong : ChangeSpec := { name := "triePlays", fn := fun _ => fun
  | [d1, d2, d3] => { results := [.lit (.bool false)], args := [d1, d2, d3] }
  | _ => none }
def TriePlaysWrongFalsely : Prop := triePlaysRow.holds Try.pinned (OpenSpec.ofChange triePlaysWrong)

/- THE SECOND FORM. 'bulk': how many values and letters a reading holds, each counted each time it is reached (what is shared counts as often as it is met; a slice's spare places count too). A statement '..UptoSaid' is the law's where the arguments, and the package variables that the reading takes, are together of bulk at most 1048576: NARROWER than '..Said'. Prove '..Said' where nothing that the law and all that it calls make is longer than what came in: it says more and counts as full. Else prove '..UptoSaid'. A law counts once. -/
mutual
def uptoBulk {H : Type} : DataW H → Nat
  | .lit (.string bytes) => bytes.length + 1
  | .lit _ => 1
  | .nil => 1
  | .ptr d => uptoBulk d + 1
  | .slice elems spare => uptoBulkAll elems + uptoBulkAll spare + 1
  | .agg parts => uptoBulkAll parts + 1
  | .iface _ d => uptoBulk d + 1
  | .map entries => uptoBulkEntries entries + 1
  | .held _ => 1
def uptoBulkAll {H : Type} : List (DataW H) → Nat
  | [] => 0
  | d :: r => uptoBulk d + uptoBulkAll r
def uptoBulkEntries {H : Type} : List (Lit × DataW H) → Nat
  | [] => 0
  | x :: r => uptoBulkEntry x + uptoBulkEntries r
def uptoBulkEntry {H : Type} : Lit × DataW H → Nat
  | (.string bytes, d) => bytes.length + uptoBulk d + 1
  | (_, d) => uptoBulk d + 1
 end
def uptoSmall : (H : Type) → List (DataW H) → Bool := fun _ ds => decide (uptoBulkAll ds ≤ 1048576)
def OpenSpec.upto (s : _root_.Go.ChangeSpec) : _root_.Go.OpenSpec := { _root_.Go.OpenSpec.ofChange s with cond := some uptoSmall }

/-- 'rivuletlaw7.TrieNests', WHERE WHAT IT READS IS OF BULK AT MOST 1048576: true; the input reads as it did. -/
def trieNestsUptoRow : OpenClaim := { program := "ytielfejpnkcjbaa", sum := "a54a78226384f78eaf1fe20c903daf4b158bae6a56e1700df07bd91718133f84", func := "rivulet/rivuletlaw7.TrieNests", spec := "trieNests", plainKeys := false, apart := false, narrowed := true }
def TrieNestsUptoSaid : Prop := trieNestsUptoRow.holds Try.pinned (OpenSpec.upto trieNestsSpec)

/-- 'rivuletlaw7.TrieFinds', WHERE WHAT IT READS IS OF BULK AT MOST 1048576: true; the input reads as it did. -/
def trieFindsUptoRow : OpenClaim := { program := "ytielfejpnkcjbaa", sum := "a54a78226384f78eaf1fe20c903daf4b158bae6a56e1700df07bd91718133f84", func := "rivulet/rivuletlaw7.TrieFinds", spec := "trieFinds", plainKeys := false, apart := false, narrowed := true }
def TrieFindsUptoSaid : Prop := trieFindsUptoRow.holds Try.pinned (OpenSpec.upto trieFindsSpec)

/-- 'rivuletlaw15.AgeOwn', WHERE WHAT IT READS IS OF BULK AT MOST 1048576: true; the input reads as it did. -/
def ageOwnUptoRow : OpenClaim := { program := "ytielfejpnkcjbaa", sum := "a54a78226384f78eaf1fe20c903daf4b158bae6a56e1700df07bd91718133f84", func := "rivulet/rivuletlaw15.AgeOwn", spec := "ageOwn", plainKeys := false, apart := false, narrowed := true }
def AgeOwnUptoSaid : Prop := ageOwnUptoRow.holds Try.pinned (OpenSpec.upto ageOwnSpec)

/-- 'rivuletlaw15.AgeHolds', WHERE WHAT IT READS IS OF BULK AT MOST 1048576: true; the input reads as it did. -/
def ageHoldsUptoRow : OpenClaim := { program := "ytielfejpnkcjbaa", sum := "a54a78226384f78eaf1fe20c903daf4b158bae6a56e1700df07bd91718133f84", func := "rivulet/rivuletlaw15.AgeHolds", spec := "ageHolds", unfollowed := true, recurses := true, plainKeys := false, apart := false, narrowed := true }
def AgeHoldsUptoSaid : Prop := ageHoldsUptoRow.holds Try.pinned (OpenSpec.upto ageHoldsSpec)

/-- 'rivuletlaw15.AgeOrders', WHERE WHAT IT READS IS OF BULK AT MOST 1048576: true; the input reads as it did. -/
def ageOrdersUptoRow : OpenClaim := { program := "ytielfejpnkcjbaa", sum := "a54a78226384f78eaf1fe20c903daf4b158bae6a56e1700df07bd91718133f84", func := "rivulet/rivuletlaw15.AgeOrders", spec := "ageOrders", unfollowed := true, recurses := true, plainKeys := false, apart := false, narrowed := true }
def AgeOrdersUptoSaid : Prop := ageOrdersUptoRow.holds Try.pinned (OpenSpec.upto ageOrdersSpec)

/-- 'rivuletlaw15.AgePlays', WHERE WHAT IT READS IS OF BULK AT MOST 1048576: true; the input reads as it did. -/
def agePlaysUptoRow : OpenClaim := { program := "ytielfejpnkcjbaa", sum := "a54a78226384f78eaf1fe20c903daf4b158bae6a56e1700df07bd91718133f84", func := "rivulet/rivuletlaw15.AgePlays", spec := "agePlays", inPlace := ["maps.clone"], unfollowed := true, recurses := true, plainKeys := false, apart := false, narrowed := true }
def AgePlaysUptoSaid : Prop := agePlaysUptoRow.holds Try.pinned (OpenSpec.upto agePlaysSpec)

/-- 'rivuletlaw7.TrieOrder', WHERE WHAT IT READS IS OF BULK AT MOST 1048576: true; the input reads as it did. -/
def trieOrderUptoRow : OpenClaim := { program := "ytielfejpnkcjbaa", sum := "a54a78226384f78eaf1fe20c903daf4b158bae6a56e1700df07bd91718133f84", func := "rivulet/rivuletlaw7.TrieOrder", spec := "trieOrder", unfollowed := true, recurses := true, plainKeys := false, apart := false, narrowed := true }
def TrieOrderUptoSaid : Prop := trieOrderUptoRow.holds Try.pinned (OpenSpec.upto trieOrderSpec)

/-- 'rivuletlaw7.TriePlays', WHERE WHAT IT READS IS OF BULK AT MOST 1048576: true; the input reads as it did. -/
def triePlaysUptoRow : OpenClaim := { program := "ytielfejpnkcjbaa", sum := "a54a78226384f78eaf1fe20c903daf4b158bae6a56e1700df07bd91718133f84", func := "rivulet/rivuletlaw7.TriePlays", spec := "triePlays", unfollowed := true, recurses := true, plainKeys := false, apart := false, narrowed := true }
def TriePlaysUptoSaid : Prop := triePlaysUptoRow.holds Try.pinned (OpenSpec.upto triePlaysSpec)

end Rows
end Go.Proofs.Ytielfejpnkcjbaa
