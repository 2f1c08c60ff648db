import Derived.Test.YtfbjgbecabbdnaaGreatDoorFl20
import Derived.Test.YtfbjgbecabbdnaaGreatDoorFl21
import Derived.Test.YtfbjgbecabbdnaaGreatDoorFl22
import Derived.Test.YtfbjgbecabbdnaaGreatDoorFl23
import Derived.Test.YtfbjgbecabbdnaaGreatDoorFl24
import Derived.Test.YtfbjgbecabbdnaaGreatDoorFl25
import Derived.Test.YtfbjgbecabbdnaaGreatDoorFl26
import Derived.Test.YtfbjgbecabbdnaaGreatDoorFl27
import Derived.Test.YtfbjgbecabbdnaaGreatDoorFl28
import Derived.Test.YtfbjgbecabbdnaaGreatDoorFl29
import Derived.Test.YtfbjgbecabbdnaaGreatDoorFl30
import Derived.Test.YtfbjgbecabbdnaaGreatDoorFl31
import Derived.Test.YtfbjgbecabbdnaaGreatDoorFl32
import Derived.Test.YtfbjgbecabbdnaaGreatDoorFl33
import Derived.Test.YtfbjgbecabbdnaaGreatDoorFl34
import Derived.Test.YtfbjgbecabbdnaaGreatDoorFl35
import Derived.Test.YtfbjgbecabbdnaaGreatDoorFl36
import Derived.Test.YtfbjgbecabbdnaaGreatDoorFl37
import Derived.Test.YtfbjgbecabbdnaaGreatDoorFl38
import Derived.Test.YtfbjgbecabbdnaaGreatDoorFl39
import Derived.Test.YtfbjgbecabbdnaaGreatDoorFl40
import Derived.Test.YtfbjgbecabbdnaaGreatDoorFl41
import Derived.Test.YtfbjgbecabbdnaaGreatDoorFl42
import Derived.Test.YtfbjgbecabbdnaaGreatDoorFl43
import Derived.Test.YtfbjgbecabbdnaaGreatDoorFl44
import Derived.Test.YtfbjgbecabbdnaaGreatDoorFl45
import Derived.Test.YtfbjgbecabbdnaaGreatDoorFl46
import Derived.Test.YtfbjgbecabbdnaaGreatDoorFl47
import Derived.Test.YtfbjgbecabbdnaaGreatDoorFl48
import Derived.Test.YtfbjgbecabbdnaaGreatDoorFl49
import Derived.Test.YtfbjgbecabbdnaaGreatDoorRows
import Derived.Test.YtfbjgbecabbdnaaGreatDoorCards
import Derived.Test.YtfbjgbecabbdnaaGreatDoorTie
import Derived.LaidMore
import Derived.OpenShut
import Derived.Stop.Joined
import Derived.SevenTiedAt
/- FindLines: every case, evaluated. -/
set_option linter.unusedVariables false
set_option maxRecDepth 1000000
namespace Go.Proofs.YtfbjgbecabbdnaaGreatDoor
open Sl Ce
theorem findLines_all : ∀ (r0 : Nat) (r1 : Nat) (r2 : Nat) (r3 : Bool), r0 < 6 → r1 < r0 + 2 → r2 < r0 + 2 → findLinesAt r0 r1 r2 r3 = true
  | 0, 0, 0, false, _, _, _ => atFindLines_0_0_0_0
  | 0, 0, 0, true, _, _, _ => atFindLines_0_0_0_1
  | 0, 0, 1, false, _, _, _ => atFindLines_0_0_1_0
  | 0, 0, 1, true, _, _, _ => atFindLines_0_0_1_1
  | 0, 1, 0, false, _, _, _ => atFindLines_0_1_0_0
  | 0, 1, 0, true, _, _, _ => atFindLines_0_1_0_1
  | 0, 1, 1, false, _, _, _ => atFindLines_0_1_1_0
  | 0, 1, 1, true, _, _, _ => atFindLines_0_1_1_1
  | 1, 0, 0, false, _, _, _ => atFindLines_1_0_0_0
  | 1, 0, 0, true, _, _, _ => atFindLines_1_0_0_1
  | 1, 0, 1, false, _, _, _ => atFindLines_1_0_1_0
  | 1, 0, 1, true, _, _, _ => atFindLines_1_0_1_1
  | 1, 0, 2, false, _, _, _ => atFindLines_1_0_2_0
  | 1, 0, 2, true, _, _, _ => atFindLines_1_0_2_1
  | 1, 1, 0, false, _, _, _ => atFindLines_1_1_0_0
  | 1, 1, 0, true, _, _, _ => atFindLines_1_1_0_1
  | 1, 1, 1, false, _, _, _ => atFindLines_1_1_1_0
  | 1, 1, 1, true, _, _, _ => atFindLines_1_1_1_1
  | 1, 1, 2, false, _, _, _ => atFindLines_1_1_2_0
  | 1, 1, 2, true, _, _, _ => atFindLines_1_1_2_1
  | 1, 2, 0, false, _, _, _ => atFindLines_1_2_0_0
  | 1, 2, 0, true, _, _, _ => atFindLines_1_2_0_1
  | 1, 2, 1, false, _, _, _ => atFindLines_1_2_1_0
  | 1, 2, 1, true, _, _, _ => atFindLines_1_2_1_1
  | 1, 2, 2, false, _, _, _ => atFindLines_1_2_2_0
  | 1, 2, 2, true, _, _, _ => atFindLines_1_2_2_1
  | 2, 0, 0, false, _, _, _ => atFindLines_2_0_0_0
  | 2, 0, 0, true, _, _, _ => atFindLines_2_0_0_1
  | 2, 0, 1, false, _, _, _ => atFindLines_2_0_1_0
  | 2, 0, 1, true, _, _, _ => atFindLines_2_0_1_1
  | 2, 0, 2, false, _, _, _ => atFindLines_2_0_2_0
  | 2, 0, 2, true, _, _, _ => atFindLines_2_0_2_1
  | 2, 0, 3, false, _, _, _ => atFindLines_2_0_3_0
  | 2, 0, 3, true, _, _, _ => atFindLines_2_0_3_1
  | 2, 1, 0, false, _, _, _ => atFindLines_2_1_0_0
  | 2, 1, 0, true, _, _, _ => atFindLines_2_1_0_1
  | 2, 1, 1, false, _, _, _ => atFindLines_2_1_1_0
  | 2, 1, 1, true, _, _, _ => atFindLines_2_1_1_1
  | 2, 1, 2, false, _, _, _ => atFindLines_2_1_2_0
  | 2, 1, 2, true, _, _, _ => atFindLines_2_1_2_1
  | 2, 1, 3, false, _, _, _ => atFindLines_2_1_3_0
  | 2, 1, 3, true, _, _, _ => atFindLines_2_1_3_1
  | 2, 2, 0, false, _, _, _ => atFindLines_2_2_0_0
  | 2, 2, 0, true, _, _, _ => atFindLines_2_2_0_1
  | 2, 2, 1, false, _, _, _ => atFindLines_2_2_1_0
  | 2, 2, 1, true, _, _, _ => atFindLines_2_2_1_1
  | 2, 2, 2, false, _, _, _ => atFindLines_2_2_2_0
  | 2, 2, 2, true, _, _, _ => atFindLines_2_2_2_1
  | 2, 2, 3, false, _, _, _ => atFindLines_2_2_3_0
  | 2, 2, 3, true, _, _, _ => atFindLines_2_2_3_1
  | 2, 3, 0, false, _, _, _ => atFindLines_2_3_0_0
  | 2, 3, 0, true, _, _, _ => atFindLines_2_3_0_1
  | 2, 3, 1, false, _, _, _ => atFindLines_2_3_1_0
  | 2, 3, 1, true, _, _, _ => atFindLines_2_3_1_1
  | 2, 3, 2, false, _, _, _ => atFindLines_2_3_2_0
  | 2, 3, 2, true, _, _, _ => atFindLines_2_3_2_1
  | 2, 3, 3, false, _, _, _ => atFindLines_2_3_3_0
  | 2, 3, 3, true, _, _, _ => atFindLines_2_3_3_1
  | 3, 0, 0, false, _, _, _ => atFindLines_3_0_0_0
  | 3, 0, 0, true, _, _, _ => atFindLines_3_0_0_1
  | 3, 0, 1, false, _, _, _ => atFindLines_3_0_1_0
  | 3, 0, 1, true, _, _, _ => atFindLines_3_0_1_1
  | 3, 0, 2, false, _, _, _ => atFindLines_3_0_2_0
  | 3, 0, 2, true, _, _, _ => atFindLines_3_0_2_1
  | 3, 0, 3, false, _, _, _ => atFindLines_3_0_3_0
  | 3, 0, 3, true, _, _, _ => atFindLines_3_0_3_1
  | 3, 0, 4, false, _, _, _ => atFindLines_3_0_4_0
  | 3, 0, 4, true, _, _, _ => atFindLines_3_0_4_1
  | 3, 1, 0, false, _, _, _ => atFindLines_3_1_0_0
  | 3, 1, 0, true, _, _, _ => atFindLines_3_1_0_1
  | 3, 1, 1, false, _, _, _ => atFindLines_3_1_1_0
  | 3, 1, 1, true, _, _, _ => atFindLines_3_1_1_1
  | 3, 1, 2, false, _, _, _ => atFindLines_3_1_2_0
  | 3, 1, 2, true, _, _, _ => atFindLines_3_1_2_1
  | 3, 1, 3, false, _, _, _ => atFindLines_3_1_3_0
  | 3, 1, 3, true, _, _, _ => atFindLines_3_1_3_1
  | 3, 1, 4, false, _, _, _ => atFindLines_3_1_4_0
  | 3, 1, 4, true, _, _, _ => atFindLines_3_1_4_1
  | 3, 2, 0, false, _, _, _ => atFindLines_3_2_0_0
  | 3, 2, 0, true, _, _, _ => atFindLines_3_2_0_1
  | 3, 2, 1, false, _, _, _ => atFindLines_3_2_1_0
  | 3, 2, 1, true, _, _, _ => atFindLines_3_2_1_1
  | 3, 2, 2, false, _, _, _ => atFindLines_3_2_2_0
  | 3, 2, 2, true, _, _, _ => atFindLines_3_2_2_1
  | 3, 2, 3, false, _, _, _ => atFindLines_3_2_3_0
  | 3, 2, 3, true, _, _, _ => atFindLines_3_2_3_1
  | 3, 2, 4, false, _, _, _ => atFindLines_3_2_4_0
  | 3, 2, 4, true, _, _, _ => atFindLines_3_2_4_1
  | 3, 3, 0, false, _, _, _ => atFindLines_3_3_0_0
  | 3, 3, 0, true, _, _, _ => atFindLines_3_3_0_1
  | 3, 3, 1, false, _, _, _ => atFindLines_3_3_1_0
  | 3, 3, 1, true, _, _, _ => atFindLines_3_3_1_1
  | 3, 3, 2, false, _, _, _ => atFindLines_3_3_2_0
  | 3, 3, 2, true, _, _, _ => atFindLines_3_3_2_1
  | 3, 3, 3, false, _, _, _ => atFindLines_3_3_3_0
  | 3, 3, 3, true, _, _, _ => atFindLines_3_3_3_1
  | 3, 3, 4, false, _, _, _ => atFindLines_3_3_4_0
  | 3, 3, 4, true, _, _, _ => atFindLines_3_3_4_1
  | 3, 4, 0, false, _, _, _ => atFindLines_3_4_0_0
  | 3, 4, 0, true, _, _, _ => atFindLines_3_4_0_1
  | 3, 4, 1, false, _, _, _ => atFindLines_3_4_1_0
  | 3, 4, 1, true, _, _, _ => atFindLines_3_4_1_1
  | 3, 4, 2, false, _, _, _ => atFindLines_3_4_2_0
  | 3, 4, 2, true, _, _, _ => atFindLines_3_4_2_1
  | 3, 4, 3, false, _, _, _ => atFindLines_3_4_3_0
  | 3, 4, 3, true, _, _, _ => atFindLines_3_4_3_1
  | 3, 4, 4, false, _, _, _ => atFindLines_3_4_4_0
  | 3, 4, 4, true, _, _, _ => atFindLines_3_4_4_1
  | 4, 0, 0, false, _, _, _ => atFindLines_4_0_0_0
  | 4, 0, 0, true, _, _, _ => atFindLines_4_0_0_1
  | 4, 0, 1, false, _, _, _ => atFindLines_4_0_1_0
  | 4, 0, 1, true, _, _, _ => atFindLines_4_0_1_1
  | 4, 0, 2, false, _, _, _ => atFindLines_4_0_2_0
  | 4, 0, 2, true, _, _, _ => atFindLines_4_0_2_1
  | 4, 0, 3, false, _, _, _ => atFindLines_4_0_3_0
  | 4, 0, 3, true, _, _, _ => atFindLines_4_0_3_1
  | 4, 0, 4, false, _, _, _ => atFindLines_4_0_4_0
  | 4, 0, 4, true, _, _, _ => atFindLines_4_0_4_1
  | 4, 0, 5, false, _, _, _ => atFindLines_4_0_5_0
  | 4, 0, 5, true, _, _, _ => atFindLines_4_0_5_1
  | 4, 1, 0, false, _, _, _ => atFindLines_4_1_0_0
  | 4, 1, 0, true, _, _, _ => atFindLines_4_1_0_1
  | 4, 1, 1, false, _, _, _ => atFindLines_4_1_1_0
  | 4, 1, 1, true, _, _, _ => atFindLines_4_1_1_1
  | 4, 1, 2, false, _, _, _ => atFindLines_4_1_2_0
  | 4, 1, 2, true, _, _, _ => atFindLines_4_1_2_1
  | 4, 1, 3, false, _, _, _ => atFindLines_4_1_3_0
  | 4, 1, 3, true, _, _, _ => atFindLines_4_1_3_1
  | 4, 1, 4, false, _, _, _ => atFindLines_4_1_4_0
  | 4, 1, 4, true, _, _, _ => atFindLines_4_1_4_1
  | 4, 1, 5, false, _, _, _ => atFindLines_4_1_5_0
  | 4, 1, 5, true, _, _, _ => atFindLines_4_1_5_1
  | 4, 2, 0, false, _, _, _ => atFindLines_4_2_0_0
  | 4, 2, 0, true, _, _, _ => atFindLines_4_2_0_1
  | 4, 2, 1, false, _, _, _ => atFindLines_4_2_1_0
  | 4, 2, 1, true, _, _, _ => atFindLines_4_2_1_1
  | 4, 2, 2, false, _, _, _ => atFindLines_4_2_2_0
  | 4, 2, 2, true, _, _, _ => atFindLines_4_2_2_1
  | 4, 2, 3, false, _, _, _ => atFindLines_4_2_3_0
  | 4, 2, 3, true, _, _, _ => atFindLines_4_2_3_1
  | 4, 2, 4, false, _, _, _ => atFindLines_4_2_4_0
  | 4, 2, 4, true, _, _, _ => atFindLines_4_2_4_1
  | 4, 2, 5, false, _, _, _ => atFindLines_4_2_5_0
  | 4, 2, 5, true, _, _, _ => atFindLines_4_2_5_1
  | 4, 3, 0, false, _, _, _ => atFindLines_4_3_0_0
  | 4, 3, 0, true, _, _, _ => atFindLines_4_3_0_1
  | 4, 3, 1, false, _, _, _ => atFindLines_4_3_1_0
  | 4, 3, 1, true, _, _, _ => atFindLines_4_3_1_1
  | 4, 3, 2, false, _, _, _ => atFindLines_4_3_2_0
  | 4, 3, 2, true, _, _, _ => atFindLines_4_3_2_1
  | 4, 3, 3, false, _, _, _ => atFindLines_4_3_3_0
  | 4, 3, 3, true, _, _, _ => atFindLines_4_3_3_1
  | 4, 3, 4, false, _, _, _ => atFindLines_4_3_4_0
  | 4, 3, 4, true, _, _, _ => atFindLines_4_3_4_1
  | 4, 3, 5, false, _, _, _ => atFindLines_4_3_5_0
  | 4, 3, 5, true, _, _, _ => atFindLines_4_3_5_1
  | 4, 4, 0, false, _, _, _ => atFindLines_4_4_0_0
  | 4, 4, 0, true, _, _, _ => atFindLines_4_4_0_1
  | 4, 4, 1, false, _, _, _ => atFindLines_4_4_1_0
  | 4, 4, 1, true, _, _, _ => atFindLines_4_4_1_1
  | 4, 4, 2, false, _, _, _ => atFindLines_4_4_2_0
  | 4, 4, 2, true, _, _, _ => atFindLines_4_4_2_1
  | 4, 4, 3, false, _, _, _ => atFindLines_4_4_3_0
  | 4, 4, 3, true, _, _, _ => atFindLines_4_4_3_1
  | 4, 4, 4, false, _, _, _ => atFindLines_4_4_4_0
  | 4, 4, 4, true, _, _, _ => atFindLines_4_4_4_1
  | 4, 4, 5, false, _, _, _ => atFindLines_4_4_5_0
  | 4, 4, 5, true, _, _, _ => atFindLines_4_4_5_1
  | 4, 5, 0, false, _, _, _ => atFindLines_4_5_0_0
  | 4, 5, 0, true, _, _, _ => atFindLines_4_5_0_1
  | 4, 5, 1, false, _, _, _ => atFindLines_4_5_1_0
  | 4, 5, 1, true, _, _, _ => atFindLines_4_5_1_1
  | 4, 5, 2, false, _, _, _ => atFindLines_4_5_2_0
  | 4, 5, 2, true, _, _, _ => atFindLines_4_5_2_1
  | 4, 5, 3, false, _, _, _ => atFindLines_4_5_3_0
  | 4, 5, 3, true, _, _, _ => atFindLines_4_5_3_1
  | 4, 5, 4, false, _, _, _ => atFindLines_4_5_4_0
  | 4, 5, 4, true, _, _, _ => atFindLines_4_5_4_1
  | 4, 5, 5, false, _, _, _ => atFindLines_4_5_5_0
  | 4, 5, 5, true, _, _, _ => atFindLines_4_5_5_1
  | 5, 0, 0, false, _, _, _ => atFindLines_5_0_0_0
  | 5, 0, 0, true, _, _, _ => atFindLines_5_0_0_1
  | 5, 0, 1, false, _, _, _ => atFindLines_5_0_1_0
  | 5, 0, 1, true, _, _, _ => atFindLines_5_0_1_1
  | 5, 0, 2, false, _, _, _ => atFindLines_5_0_2_0
  | 5, 0, 2, true, _, _, _ => atFindLines_5_0_2_1
  | 5, 0, 3, false, _, _, _ => atFindLines_5_0_3_0
  | 5, 0, 3, true, _, _, _ => atFindLines_5_0_3_1
  | 5, 0, 4, false, _, _, _ => atFindLines_5_0_4_0
  | 5, 0, 4, true, _, _, _ => atFindLines_5_0_4_1
  | 5, 0, 5, false, _, _, _ => atFindLines_5_0_5_0
  | 5, 0, 5, true, _, _, _ => atFindLines_5_0_5_1
  | 5, 0, 6, false, _, _, _ => atFindLines_5_0_6_0
  | 5, 0, 6, true, _, _, _ => atFindLines_5_0_6_1
  | 5, 1, 0, false, _, _, _ => atFindLines_5_1_0_0
  | 5, 1, 0, true, _, _, _ => atFindLines_5_1_0_1
  | 5, 1, 1, false, _, _, _ => atFindLines_5_1_1_0
  | 5, 1, 1, true, _, _, _ => atFindLines_5_1_1_1
  | 5, 1, 2, false, _, _, _ => atFindLines_5_1_2_0
  | 5, 1, 2, true, _, _, _ => atFindLines_5_1_2_1
  | 5, 1, 3, false, _, _, _ => atFindLines_5_1_3_0
  | 5, 1, 3, true, _, _, _ => atFindLines_5_1_3_1
  | 5, 1, 4, false, _, _, _ => atFindLines_5_1_4_0
  | 5, 1, 4, true, _, _, _ => atFindLines_5_1_4_1
  | 5, 1, 5, false, _, _, _ => atFindLines_5_1_5_0
  | 5, 1, 5, true, _, _, _ => atFindLines_5_1_5_1
  | 5, 1, 6, false, _, _, _ => atFindLines_5_1_6_0
  | 5, 1, 6, true, _, _, _ => atFindLines_5_1_6_1
  | 5, 2, 0, false, _, _, _ => atFindLines_5_2_0_0
  | 5, 2, 0, true, _, _, _ => atFindLines_5_2_0_1
  | 5, 2, 1, false, _, _, _ => atFindLines_5_2_1_0
  | 5, 2, 1, true, _, _, _ => atFindLines_5_2_1_1
  | 5, 2, 2, false, _, _, _ => atFindLines_5_2_2_0
  | 5, 2, 2, true, _, _, _ => atFindLines_5_2_2_1
  | 5, 2, 3, false, _, _, _ => atFindLines_5_2_3_0
  | 5, 2, 3, true, _, _, _ => atFindLines_5_2_3_1
  | 5, 2, 4, false, _, _, _ => atFindLines_5_2_4_0
  | 5, 2, 4, true, _, _, _ => atFindLines_5_2_4_1
  | 5, 2, 5, false, _, _, _ => atFindLines_5_2_5_0
  | 5, 2, 5, true, _, _, _ => atFindLines_5_2_5_1
  | 5, 2, 6, false, _, _, _ => atFindLines_5_2_6_0
  | 5, 2, 6, true, _, _, _ => atFindLines_5_2_6_1
  | 5, 3, 0, false, _, _, _ => atFindLines_5_3_0_0
  | 5, 3, 0, true, _, _, _ => atFindLines_5_3_0_1
  | 5, 3, 1, false, _, _, _ => atFindLines_5_3_1_0
  | 5, 3, 1, true, _, _, _ => atFindLines_5_3_1_1
  | 5, 3, 2, false, _, _, _ => atFindLines_5_3_2_0
  | 5, 3, 2, true, _, _, _ => atFindLines_5_3_2_1
  | 5, 3, 3, false, _, _, _ => atFindLines_5_3_3_0
  | 5, 3, 3, true, _, _, _ => atFindLines_5_3_3_1
  | 5, 3, 4, false, _, _, _ => atFindLines_5_3_4_0
  | 5, 3, 4, true, _, _, _ => atFindLines_5_3_4_1
  | 5, 3, 5, false, _, _, _ => atFindLines_5_3_5_0
  | 5, 3, 5, true, _, _, _ => atFindLines_5_3_5_1
  | 5, 3, 6, false, _, _, _ => atFindLines_5_3_6_0
  | 5, 3, 6, true, _, _, _ => atFindLines_5_3_6_1
  | 5, 4, 0, false, _, _, _ => atFindLines_5_4_0_0
  | 5, 4, 0, true, _, _, _ => atFindLines_5_4_0_1
  | 5, 4, 1, false, _, _, _ => atFindLines_5_4_1_0
  | 5, 4, 1, true, _, _, _ => atFindLines_5_4_1_1
  | 5, 4, 2, false, _, _, _ => atFindLines_5_4_2_0
  | 5, 4, 2, true, _, _, _ => atFindLines_5_4_2_1
  | 5, 4, 3, false, _, _, _ => atFindLines_5_4_3_0
  | 5, 4, 3, true, _, _, _ => atFindLines_5_4_3_1
  | 5, 4, 4, false, _, _, _ => atFindLines_5_4_4_0
  | 5, 4, 4, true, _, _, _ => atFindLines_5_4_4_1
  | 5, 4, 5, false, _, _, _ => atFindLines_5_4_5_0
  | 5, 4, 5, true, _, _, _ => atFindLines_5_4_5_1
  | 5, 4, 6, false, _, _, _ => atFindLines_5_4_6_0
  | 5, 4, 6, true, _, _, _ => atFindLines_5_4_6_1
  | 5, 5, 0, false, _, _, _ => atFindLines_5_5_0_0
  | 5, 5, 0, true, _, _, _ => atFindLines_5_5_0_1
  | 5, 5, 1, false, _, _, _ => atFindLines_5_5_1_0
  | 5, 5, 1, true, _, _, _ => atFindLines_5_5_1_1
  | 5, 5, 2, false, _, _, _ => atFindLines_5_5_2_0
  | 5, 5, 2, true, _, _, _ => atFindLines_5_5_2_1
  | 5, 5, 3, false, _, _, _ => atFindLines_5_5_3_0
  | 5, 5, 3, true, _, _, _ => atFindLines_5_5_3_1
  | 5, 5, 4, false, _, _, _ => atFindLines_5_5_4_0
  | 5, 5, 4, true, _, _, _ => atFindLines_5_5_4_1
  | 5, 5, 5, false, _, _, _ => atFindLines_5_5_5_0
  | 5, 5, 5, true, _, _, _ => atFindLines_5_5_5_1
  | 5, 5, 6, false, _, _, _ => atFindLines_5_5_6_0
  | 5, 5, 6, true, _, _, _ => atFindLines_5_5_6_1
  | 5, 6, 0, false, _, _, _ => atFindLines_5_6_0_0
  | 5, 6, 0, true, _, _, _ => atFindLines_5_6_0_1
  | 5, 6, 1, false, _, _, _ => atFindLines_5_6_1_0
  | 5, 6, 1, true, _, _, _ => atFindLines_5_6_1_1
  | 5, 6, 2, false, _, _, _ => atFindLines_5_6_2_0
  | 5, 6, 2, true, _, _, _ => atFindLines_5_6_2_1
  | 5, 6, 3, false, _, _, _ => atFindLines_5_6_3_0
  | 5, 6, 3, true, _, _, _ => atFindLines_5_6_3_1
  | 5, 6, 4, false, _, _, _ => atFindLines_5_6_4_0
  | 5, 6, 4, true, _, _, _ => atFindLines_5_6_4_1
  | 5, 6, 5, false, _, _, _ => atFindLines_5_6_5_0
  | 5, 6, 5, true, _, _, _ => atFindLines_5_6_5_1
  | 5, 6, 6, false, _, _, _ => atFindLines_5_6_6_0
  | 5, 6, 6, true, _, _, _ => atFindLines_5_6_6_1
  | _ + 6, _, _, _, h, _, _ => by omega
  | 0, _ + 2, _, _, _, h, _ => by omega
  | 0, 0, _ + 2, _, _, _, h => by omega
  | 0, 1, _ + 2, _, _, _, h => by omega
  | 1, _ + 3, _, _, _, h, _ => by omega
  | 1, 0, _ + 3, _, _, _, h => by omega
  | 1, 1, _ + 3, _, _, _, h => by omega
  | 1, 2, _ + 3, _, _, _, h => by omega
  | 2, _ + 4, _, _, _, h, _ => by omega
  | 2, 0, _ + 4, _, _, _, h => by omega
  | 2, 1, _ + 4, _, _, _, h => by omega
  | 2, 2, _ + 4, _, _, _, h => by omega
  | 2, 3, _ + 4, _, _, _, h => by omega
  | 3, _ + 5, _, _, _, h, _ => by omega
  | 3, 0, _ + 5, _, _, _, h => by omega
  | 3, 1, _ + 5, _, _, _, h => by omega
  | 3, 2, _ + 5, _, _, _, h => by omega
  | 3, 3, _ + 5, _, _, _, h => by omega
  | 3, 4, _ + 5, _, _, _, h => by omega
  | 4, _ + 6, _, _, _, h, _ => by omega
  | 4, 0, _ + 6, _, _, _, h => by omega
  | 4, 1, _ + 6, _, _, _, h => by omega
  | 4, 2, _ + 6, _, _, _, h => by omega
  | 4, 3, _ + 6, _, _, _, h => by omega
  | 4, 4, _ + 6, _, _, _, h => by omega
  | 4, 5, _ + 6, _, _, _, h => by omega
  | 5, _ + 7, _, _, _, h, _ => by omega
  | 5, 0, _ + 7, _, _, _, h => by omega
  | 5, 1, _ + 7, _, _, _, h => by omega
  | 5, 2, _ + 7, _, _, _, h => by omega
  | 5, 3, _ + 7, _, _, _, h => by omega
  | 5, 4, _ + 7, _, _, _, h => by omega
  | 5, 5, _ + 7, _, _, _, h => by omega
  | 5, 6, _ + 7, _, _, _, h => by omega
theorem findLines_mixed : Tryz.prog.follows .mixedOrders = true := by kernel_rfl
theorem findLines_first_ok : SCalls Tryz.prog 39 #[] (fun _ => none) (fun r _ => r = .bool true) := by
  have := true_of findLines_mixed om0_ok (tab_fit fun _ => undef) findLines_first_e (vs := []) .nil
  simpa [findLinesFir, pos_nat] using this
theorem findLines_ok (a0 : Int) (a1 : Int) (a2 : Int) (a3 : Bool) : SCalls Tryz.prog 10 #[.int .i64 a0, .int .i64 a1, .int .i64 a2, .bool a3] (fun _ => none) (fun r _ => r = .bool true) := by
  obtain ⟨r0, h0, h0'⟩ : ∃ r0 : Nat, a0 % ((6 : Nat) : Int) = r0 ∧ r0 < 6 := by
    have := Int.emod_nonneg a0 (show ((6 : Nat) : Int) ≠ 0 by omega)
    have := Int.emod_lt_of_pos a0 (show 0 < ((6 : Nat) : Int) by omega)
    exact ⟨(a0 % ((6 : Nat) : Int)).toNat, by omega, by omega⟩
  obtain ⟨r1, h1, h1'⟩ : ∃ r1 : Nat, a1 % ((r0 + 2 : Nat) : Int) = r1 ∧ r1 < r0 + 2 := by
    have := Int.emod_nonneg a1 (show ((r0 + 2 : Nat) : Int) ≠ 0 by omega)
    have := Int.emod_lt_of_pos a1 (show 0 < ((r0 + 2 : Nat) : Int) by omega)
    exact ⟨(a1 % ((r0 + 2 : Nat) : Int)).toNat, by omega, by omega⟩
  obtain ⟨r2, h2, h2'⟩ : ∃ r2 : Nat, a2 % ((r0 + 2 : Nat) : Int) = r2 ∧ r2 < r0 + 2 := by
    have := Int.emod_nonneg a2 (show ((r0 + 2 : Nat) : Int) ≠ 0 by omega)
    have := Int.emod_lt_of_pos a2 (show 0 < ((r0 + 2 : Nat) : Int) by omega)
    exact ⟨(a2 % ((r0 + 2 : Nat) : Int)).toNat, by omega, by omega⟩
  let ai : Nat → Int := fun j => if j = 0 then a0 else if j = 1 then a1 else a2
  have hω : OmOk (kn fun j => .int .i64 (ai j)) (omN findLinesNum [findLinesFir] [(0, 6, r0), (1, r0 + 2, r1), (2, r0 + 2, r2)]) := by
    refine omN_ok ai (fun _ => rfl) (fun j b r hm => ?_) (by rw [show findLinesNum.nat - 1 = 14 from by simp [findLinesNum, pos_nat]]; kernel_rfl) (fun n b h hb hb' => ?_) (fun f hf => ?_)
    · skip
      simp only [List.mem_cons, Prod.mk.injEq, List.not_mem_nil, or_false] at hm
      rcases hm with ⟨rfl, rfl, rfl⟩ | ⟨rfl, rfl, rfl⟩ | ⟨rfl, rfl, rfl⟩
      · exact ⟨h0, by omega, by omega⟩
      · exact ⟨h1, by omega, by omega⟩
      · exact ⟨h2, by omega, by omega⟩
    · rw [show findLinesNum.nat - 1 = 14 from by simp [findLinesNum, pos_nat]]
      exact number_ok n b hb hb' h
    · simp only [List.mem_singleton] at hf
      subst hf
      rw [show findLinesFir.nat - 1 = 39 from by simp [findLinesFir, pos_nat]]
      exact ⟨by kernel_rfl, findLines_first_ok⟩
  have := true_of findLines_mixed hω (tab_fit _) (findLines_all r0 r1 r2 a3 h0' h1' h2') (vs := [.int .i64 a0, .int .i64 a1, .int .i64 a2, .bool a3]) (.cons (.xi (β := ⟨fun _ => none, _⟩) 0 rfl) (.cons (.xi (β := ⟨fun _ => none, _⟩) 1 rfl) (.cons (.xi (β := ⟨fun _ => none, _⟩) 2 rfl) (.cons (.b a3) .nil))))
  simpa [pos_nat] using this
end Go.Proofs.YtfbjgbecabbdnaaGreatDoor

/- FindLines: in each case the call says true; the tied card. The conditions: none beyond the card's own. -/
set_option linter.unusedVariables false
namespace Go.Proofs.YtfbjgbecabbdnaaGreatDoor.findLines
open Go.ChangeShapes Go.WideShapes Go.ChangeAt Go.RowKit Go.Proofs.YtfbjgbecabbdnaaGreatDoor.Sl Go.Proofs.YtfbjgbecabbdnaaGreatDoor.Ce
theorem own : ownKnob Tryz.prog.godebug = none := by kernel_rfl
set_option maxRecDepth 100000 in
theorem door_met (os : Os) (args : Array Value) : laidMetH Tryz.prog Rows.findLinesRow.laid ((World.doorLaid Tryz.prog 157 os).forCall (fun _ _ => 0) ⟨#[], args, []⟩).memory :=
  laidMetH_of_parts3 (fuel := 8) (laidMet_of_run' 8 kR kR) kR kR
theorem walk (a0 : Int) (a1 : Int) (a2 : Int) (a3 : Bool) : SCalls Tryz.prog 10 #[.int .i64 a0, .int .i64 a1, .int .i64 a2, .bool a3] (fun _ => none) (fun r _ => r = .bool true) := findLines_ok a0 a1 a2 a3
set_option maxRecDepth 100000 in
theorem lifted (os : Os) (started : os.Started) (H : Type) (enc : TypeId × Value → H) :
    ReturnsInHanded {} Tryz.checked os 10 .any (fun w args => (Rows.findLinesSpec.pre enc Tryz.prog Tryz.f10 [] false w args ∧ laidMetH Tryz.prog Rows.findLinesRow.laid w) ∧ sizedMet enc Tryz.prog Tryz.f10 (OpenSpec.ofChange Rows.findLinesSpec) false w args)
      (Rows.findLinesSpec.post enc Tryz.prog Tryz.f10 false true false false) := by
  refine returnsInHanded_of_change_and (C := Tryz.checked) (X := fun w _ => laidMetH Tryz.prog Rows.findLinesRow.laid w) (fun _ _ _ hh h => h.of_heap hh) own started kR Tryz.func10
    (ChangeSpec.witness_shaped (enc := enc) (C := Tryz.checked) (os := os) (X := fun w _ => laidMetH Tryz.prog Rows.findLinesRow.laid w) false (World.doorLaid Tryz.prog 157 os) #[.int .i64 0, .int .i64 0, .int .i64 0, .bool false] 8 rfl (World.shaped_of_RefB kR kR) kR kR kR (door_met os _)) ?_
  intro W base args ds gs before hval0 hW _ _ _ _
  have hval : ∀ (j : Nat) t v, Tryz.f10.params[j]? = some t → args[j]? = some v → Value.okWide Tryz.prog W .any base t v := hval0
  have hW' := hW
  obtain ⟨p, q, hA0, hV, rfl, hfz, hnd⟩ := hW
  have hA : DataW.TrodAll enc Tryz.prog W 0 (fun _ => true) true Tryz.f10.params.toList args.toList ds p := hA0
  rw [Tryz.params10] at hA hval
  obtain ⟨v0, vs0, d0, ds0, p0, q0, hargs, rfl, rfl, h0, r0⟩ := trodAll_cons hA
  obtain ⟨v1, vs1, d1, ds1, p1, q1, rfl, rfl, rfl, h1, r1⟩ := trodAll_cons r0
  obtain ⟨v2, vs2, d2, ds2, p2, q2, rfl, rfl, rfl, h2, r2⟩ := trodAll_cons r1
  obtain ⟨v3, vs3, d3, ds3, p3, q3, rfl, rfl, rfl, h3, r3⟩ := trodAll_cons r2
  obtain ⟨rfl, rfl, rfl⟩ := trodAll_nil r3
  obtain rfl : args = #[v0, v1, v2, v3] := by cases args; simp_all
  obtain ⟨rfl, rfl⟩ := trodVars_none hV
  obtain ⟨a0, rfl, rfl, rfl, w0⟩ := open_int Tryz.underlying3 (hval 0 3 v0 rfl rfl) h0
  obtain ⟨a1, rfl, rfl, rfl, w1⟩ := open_int Tryz.underlying3 (hval 1 3 v1 rfl rfl) h1
  obtain ⟨a2, rfl, rfl, rfl, w2⟩ := open_int Tryz.underlying3 (hval 2 3 v2 rfl rfl) h2
  obtain ⟨a3, rfl, rfl, rfl⟩ := open_bool Tryz.underlying4 (hval 3 4 v3 rfl rfl) h3
  clear hA0 hval0
  refine (calls_true (walk a0 a1 a2 a3) W).mono fun e W2 ⟨he, hb⟩ => ?_
  subst he
  exact ⟨_, rfl, law_post (tb := 4) kR kR rfl rfl Tryz.underlying4 rfl hW' hb⟩
set_option maxRecDepth 100000 in
theorem jf1 : (Rows.findLinesRow.inPlace == Tryz.prog.inPlace 10) = true := by kernel_rfl
set_option maxRecDepth 100000 in
theorem jf2 : (Rows.findLinesRow.unfollowed == Tryz.prog.unfollowed 10) = true := by kernel_rfl
set_option maxRecDepth 100000 in
theorem jf3 : (Rows.findLinesRow.recurses == Tryz.prog.recurses 10) = true := by kernel_rfl
set_option maxRecDepth 100000 in
theorem jf4 : (Rows.findLinesRow.named == Tryz.prog.varsNamed 10) = true := by kernel_rfl
set_option maxRecDepth 100000 in
theorem closed : joinedFacts Tryz.prog 10 Tryz.f10 Rows.findLinesSpec Rows.findLinesRow = true := by
  unfold joinedFacts
  rw [jf1, jf2, jf3, jf4]
  kernel_rfl
set_option maxRecDepth 100000 in
theorem inst : Tryz.f10.isInstance Tryz.prog Rows.findLinesRow.origin Rows.findLinesRow.targs := of_decide_eq_true kR
set_option maxRecDepth 100000 in
theorem wrap : Tryz.f10.isWrapper Tryz.prog Rows.findLinesRow.wrapper Rows.findLinesRow.mainSum := by
  unfold Func.isWrapper
  first | (rw [if_pos (by decide +kernel)]; kernel_rfl) | (rw [if_neg (by decide +kernel)]; exact ⟨rfl, rfl⟩)
set_option maxRecDepth 100000 in
theorem over : Rows.FindLinesSaid :=
  OpenClaim.holds_of_wide 10 Tryz.f10 rfl rfl rfl rfl rfl rfl rfl ⟨rfl, rfl, rfl, rfl, rfl⟩ rfl rfl rfl rfl rfl kR Tryz.func10 closed inst wrap
    (fun os started H enc _ => lifted os started H enc)
set_option maxRecDepth 100000 in
theorem proved : Rows.FindLinesCardSaid :=
  Claim7.holds_tied_plain_at .later [] Rows.findLinesCard.laidKinds true Rows.findLinesCard.stood.harness false
    over (fun _ h => by cases h) kR (fun _ h => by cases h) findLines_row_tie rfl ⟨rfl, rfl⟩ kR rfl
    (fun f fn hf hfn => by
      obtain rfl : f = 10 := Option.some.inj ((show Tryz.prog.funcNamed "rivulet/rivuletlaw22.FindLines" = some 10 by kernel_rfl).symm.trans hf) |>.symm
      obtain rfl : fn = Tryz.f10 := (Option.some.inj (Tryz.func10.symm.trans hfn)).symm
      exact ⟨by kernel_rfl, fun j t ht => by
        rw [Tryz.params10] at ht
        have hm : t ∈ [3, 4] := by have := Array.mem_of_getElem? ht; simpa using this
        have hall : ([3, 4].all fun u => !Tryz.prog.wantsStandIn u) = true := by kernel_rfl
        exact (show Tryz.prog.wantsStandIn t = false by simpa using List.all_eq_true.1 hall t hm)⟩)
    kR
end Go.Proofs.YtfbjgbecabbdnaaGreatDoor.findLines
