import Derived.Test.YtfbjgbecabbdnaaGreatDoorSs24
import Derived.Test.YtfbjgbecabbdnaaGreatDoorProg
/- The table of functions. -/
set_option linter.unusedVariables false
set_option maxRecDepth 100000
namespace Go.Proofs.YtfbjgbecabbdnaaGreatDoor
open Sl Ce
noncomputable def tab : CG := (.n none (.n none (.n none (.n none (.n (some c15) (.n none (.n none (.n (some c127) .e .e) (.n (some c191) .e .e)) (.n (some c95) (.n (some c159) (.n (some c287) .e .e) .e) .e)) (.n (some c47) (.n (some c79) (.n (some c143) (.n (some c271) .e .e) .e) (.n (some c207) .e .e)) (.n (some c111) (.n (some c175) .e .e) .e))) (.n (some c23) (.n (some c39) (.n none .e (.n (some c199) .e .e)) (.n (some c103) (.n (some c167) .e .e) (.n (some c231) .e .e))) (.n none (.n (some c87) (.n (some c151) (.n (some c279) .e .e) .e) (.n (some c215) .e .e)) (.n (some c119) (.n (some c183) .e .e) (.n (some c247) .e .e))))) (.n (some c11) (.n (some c19) (.n (some c35) (.n (some c67) (.n (some c131) (.n (some c259) .e .e) .e) .e) (.n (some c99) (.n (some c163) .e .e) (.n (some c227) .e .e))) (.n (some c51) (.n none (.n (some c147) (.n (some c275) .e .e) .e) (.n (some c211) .e .e)) (.n none (.n (some c179) .e .e) .e))) (.n none (.n none (.n (some c75) (.n (some c139) .e .e) (.n (some c203) .e .e)) (.n none (.n (some c171) .e .e) (.n (some c235) .e .e))) (.n none (.n (some c91) (.n (some c155) (.n (some c283) .e .e) .e) .e) (.n (some c123) (.n (some c187) .e .e) (.n (some c251) .e .e)))))) (.n none (.n (some c9) (.n (some c17) (.n (some c33) (.n none (.n (some c129) .e .e) (.n (some c193) .e .e)) (.n (some c97) (.n (some c161) (.n (some c289) .e .e) .e) .e)) (.n (some c49) (.n none (.n (some c145) (.n (some c273) .e .e) .e) (.n (some c209) .e .e)) .e)) (.n none (.n (some c41) (.n (some c73) (.n (some c137) .e .e) (.n (some c201) .e .e)) (.n (some c105) (.n (some c169) .e .e) (.n (some c233) .e .e))) (.n none (.n (some c89) (.n (some c153) (.n (some c281) .e .e) .e) (.n (some c217) .e .e)) (.n (some c121) (.n (some c185) .e .e) (.n (some c249) .e .e))))) (.n (some c13) (.n (some c21) (.n (some c37) (.n none (.n (some c133) (.n (some c261) .e .e) .e) .e) (.n (some c101) (.n (some c165) .e .e) (.n (some c229) .e .e))) (.n (some c53) (.n (some c85) (.n (some c149) (.n (some c277) .e .e) .e) (.n (some c213) .e .e)) (.n (some c117) (.n (some c181) .e .e) (.n (some c245) .e .e)))) (.n none (.n (some c45) (.n (some c77) (.n (some c141) (.n (some c269) .e .e) .e) (.n (some c205) .e .e)) (.n (some c109) (.n (some c173) .e .e) (.n (some c237) .e .e))) (.n none (.n (some c93) (.n (some c157) .e .e) .e) (.n (some c125) (.n (some c189) .e .e) (.n (some c253) .e .e))))))) (.n none (.n (some c4) (.n (some c8) (.n (some c16) (.n none (.n (some c64) (.n (some c128) .e .e) (.n (some c192) .e .e)) (.n (some c96) (.n (some c160) (.n (some c288) .e .e) .e) .e)) (.n (some c48) (.n (some c80) (.n (some c144) .e .e) (.n (some c208) .e .e)) (.n none (.n (some c176) .e .e) .e))) (.n (some c24) (.n (some c40) (.n (some c72) .e (.n (some c200) .e .e)) (.n (some c104) (.n (some c168) .e .e) (.n (some c232) .e .e))) (.n none (.n (some c88) (.n (some c152) (.n (some c280) .e .e) .e) (.n (some c216) .e .e)) (.n (some c120) (.n (some c184) .e .e) (.n (some c248) .e .e))))) (.n none (.n (some c20) (.n (some c36) (.n none (.n (some c132) (.n (some c260) .e .e) .e) .e) (.n (some c100) (.n (some c164) .e .e) (.n (some c228) .e .e))) (.n (some c52) (.n none (.n (some c148) (.n (some c276) .e .e) .e) (.n (some c212) .e .e)) (.n none (.n (some c180) .e .e) .e))) (.n (some c28) (.n none (.n (some c76) (.n (some c140) .e .e) (.n (some c204) .e .e)) (.n none (.n (some c172) .e .e) (.n (some c236) .e .e))) (.n none (.n (some c92) (.n (some c156) .e .e) .e) (.n (some c124) (.n (some c188) .e .e) (.n (some c252) .e .e)))))) (.n none (.n (some c10) (.n (some c18) (.n none (.n none (.n (some c130) (.n (some c258) .e .e) .e) (.n (some c194) .e .e)) (.n (some c98) (.n (some c162) (.n (some c290) .e .e) .e) (.n (some c226) .e .e))) (.n (some c50) (.n none (.n (some c146) (.n (some c274) .e .e) .e) (.n (some c210) .e .e)) .e)) (.n (some c26) (.n (some c42) (.n (some c74) (.n (some c138) .e .e) (.n (some c202) .e .e)) (.n none (.n (some c170) .e .e) (.n (some c234) .e .e))) (.n none (.n (some c90) (.n (some c154) (.n (some c282) .e .e) .e) .e) (.n (some c122) (.n (some c186) .e .e) (.n (some c250) .e .e))))) (.n (some c14) (.n (some c22) (.n (some c38) (.n (some c70) (.n (some c134) (.n (some c262) .e .e) .e) .e) (.n none (.n (some c166) .e .e) (.n (some c230) .e .e))) (.n (some c54) (.n (some c86) (.n (some c150) (.n (some c278) .e .e) .e) (.n (some c214) .e .e)) (.n (some c118) (.n (some c182) .e .e) (.n (some c246) .e .e)))) (.n none (.n (some c46) (.n (some c78) (.n (some c142) (.n (some c270) .e .e) .e) (.n (some c206) .e .e)) (.n none (.n (some c174) .e .e) (.n (some c238) .e .e))) (.n none (.n (some c94) (.n (some c158) (.n (some c286) .e .e) .e) .e) (.n (some c126) (.n (some c190) .e .e) (.n (some c254) .e .e))))))))
theorem tab_fit (ξ : Nat → Value) : GFit (kn ξ) tab := allF_fit (AllF.n (AllF.no) (AllF.n (AllF.no) (AllF.n (AllF.no) (AllF.n (AllF.no) (AllF.n (AllF.v (fit15 ξ)) (AllF.n (AllF.no) (AllF.n (AllF.no) (AllF.n (AllF.v (fit127 ξ)) AllF.e AllF.e) (AllF.n (AllF.v (fit191 ξ)) AllF.e AllF.e)) (AllF.n (AllF.v (fit95 ξ)) (AllF.n (AllF.v (fit159 ξ)) (AllF.n (AllF.v (fit287 ξ)) AllF.e AllF.e) AllF.e) AllF.e)) (AllF.n (AllF.v (fit47 ξ)) (AllF.n (AllF.v (fit79 ξ)) (AllF.n (AllF.v (fit143 ξ)) (AllF.n (AllF.v (fit271 ξ)) AllF.e AllF.e) AllF.e) (AllF.n (AllF.v (fit207 ξ)) AllF.e AllF.e)) (AllF.n (AllF.v (fit111 ξ)) (AllF.n (AllF.v (fit175 ξ)) AllF.e AllF.e) AllF.e))) (AllF.n (AllF.v (fit23 ξ)) (AllF.n (AllF.v (fit39 ξ)) (AllF.n (AllF.no) AllF.e (AllF.n (AllF.v (fit199 ξ)) AllF.e AllF.e)) (AllF.n (AllF.v (fit103 ξ)) (AllF.n (AllF.v (fit167 ξ)) AllF.e AllF.e) (AllF.n (AllF.v (fit231 ξ)) AllF.e AllF.e))) (AllF.n (AllF.no) (AllF.n (AllF.v (fit87 ξ)) (AllF.n (AllF.v (fit151 ξ)) (AllF.n (AllF.v (fit279 ξ)) AllF.e AllF.e) AllF.e) (AllF.n (AllF.v (fit215 ξ)) AllF.e AllF.e)) (AllF.n (AllF.v (fit119 ξ)) (AllF.n (AllF.v (fit183 ξ)) AllF.e AllF.e) (AllF.n (AllF.v (fit247 ξ)) AllF.e AllF.e))))) (AllF.n (AllF.v (fit11 ξ)) (AllF.n (AllF.v (fit19 ξ)) (AllF.n (AllF.v (fit35 ξ)) (AllF.n (AllF.v (fit67 ξ)) (AllF.n (AllF.v (fit131 ξ)) (AllF.n (AllF.v (fit259 ξ)) AllF.e AllF.e) AllF.e) AllF.e) (AllF.n (AllF.v (fit99 ξ)) (AllF.n (AllF.v (fit163 ξ)) AllF.e AllF.e) (AllF.n (AllF.v (fit227 ξ)) AllF.e AllF.e))) (AllF.n (AllF.v (fit51 ξ)) (AllF.n (AllF.no) (AllF.n (AllF.v (fit147 ξ)) (AllF.n (AllF.v (fit275 ξ)) AllF.e AllF.e) AllF.e) (AllF.n (AllF.v (fit211 ξ)) AllF.e AllF.e)) (AllF.n (AllF.no) (AllF.n (AllF.v (fit179 ξ)) AllF.e AllF.e) AllF.e))) (AllF.n (AllF.no) (AllF.n (AllF.no) (AllF.n (AllF.v (fit75 ξ)) (AllF.n (AllF.v (fit139 ξ)) AllF.e AllF.e) (AllF.n (AllF.v (fit203 ξ)) AllF.e AllF.e)) (AllF.n (AllF.no) (AllF.n (AllF.v (fit171 ξ)) AllF.e AllF.e) (AllF.n (AllF.v (fit235 ξ)) AllF.e AllF.e))) (AllF.n (AllF.no) (AllF.n (AllF.v (fit91 ξ)) (AllF.n (AllF.v (fit155 ξ)) (AllF.n (AllF.v (fit283 ξ)) AllF.e AllF.e) AllF.e) AllF.e) (AllF.n (AllF.v (fit123 ξ)) (AllF.n (AllF.v (fit187 ξ)) AllF.e AllF.e) (AllF.n (AllF.v (fit251 ξ)) AllF.e AllF.e)))))) (AllF.n (AllF.no) (AllF.n (AllF.v (fit9 ξ)) (AllF.n (AllF.v (fit17 ξ)) (AllF.n (AllF.v (fit33 ξ)) (AllF.n (AllF.no) (AllF.n (AllF.v (fit129 ξ)) AllF.e AllF.e) (AllF.n (AllF.v (fit193 ξ)) AllF.e AllF.e)) (AllF.n (AllF.v (fit97 ξ)) (AllF.n (AllF.v (fit161 ξ)) (AllF.n (AllF.v (fit289 ξ)) AllF.e AllF.e) AllF.e) AllF.e)) (AllF.n (AllF.v (fit49 ξ)) (AllF.n (AllF.no) (AllF.n (AllF.v (fit145 ξ)) (AllF.n (AllF.v (fit273 ξ)) AllF.e AllF.e) AllF.e) (AllF.n (AllF.v (fit209 ξ)) AllF.e AllF.e)) AllF.e)) (AllF.n (AllF.no) (AllF.n (AllF.v (fit41 ξ)) (AllF.n (AllF.v (fit73 ξ)) (AllF.n (AllF.v (fit137 ξ)) AllF.e AllF.e) (AllF.n (AllF.v (fit201 ξ)) AllF.e AllF.e)) (AllF.n (AllF.v (fit105 ξ)) (AllF.n (AllF.v (fit169 ξ)) AllF.e AllF.e) (AllF.n (AllF.v (fit233 ξ)) AllF.e AllF.e))) (AllF.n (AllF.no) (AllF.n (AllF.v (fit89 ξ)) (AllF.n (AllF.v (fit153 ξ)) (AllF.n (AllF.v (fit281 ξ)) AllF.e AllF.e) AllF.e) (AllF.n (AllF.v (fit217 ξ)) AllF.e AllF.e)) (AllF.n (AllF.v (fit121 ξ)) (AllF.n (AllF.v (fit185 ξ)) AllF.e AllF.e) (AllF.n (AllF.v (fit249 ξ)) AllF.e AllF.e))))) (AllF.n (AllF.v (fit13 ξ)) (AllF.n (AllF.v (fit21 ξ)) (AllF.n (AllF.v (fit37 ξ)) (AllF.n (AllF.no) (AllF.n (AllF.v (fit133 ξ)) (AllF.n (AllF.v (fit261 ξ)) AllF.e AllF.e) AllF.e) AllF.e) (AllF.n (AllF.v (fit101 ξ)) (AllF.n (AllF.v (fit165 ξ)) AllF.e AllF.e) (AllF.n (AllF.v (fit229 ξ)) AllF.e AllF.e))) (AllF.n (AllF.v (fit53 ξ)) (AllF.n (AllF.v (fit85 ξ)) (AllF.n (AllF.v (fit149 ξ)) (AllF.n (AllF.v (fit277 ξ)) AllF.e AllF.e) AllF.e) (AllF.n (AllF.v (fit213 ξ)) AllF.e AllF.e)) (AllF.n (AllF.v (fit117 ξ)) (AllF.n (AllF.v (fit181 ξ)) AllF.e AllF.e) (AllF.n (AllF.v (fit245 ξ)) AllF.e AllF.e)))) (AllF.n (AllF.no) (AllF.n (AllF.v (fit45 ξ)) (AllF.n (AllF.v (fit77 ξ)) (AllF.n (AllF.v (fit141 ξ)) (AllF.n (AllF.v (fit269 ξ)) AllF.e AllF.e) AllF.e) (AllF.n (AllF.v (fit205 ξ)) AllF.e AllF.e)) (AllF.n (AllF.v (fit109 ξ)) (AllF.n (AllF.v (fit173 ξ)) AllF.e AllF.e) (AllF.n (AllF.v (fit237 ξ)) AllF.e AllF.e))) (AllF.n (AllF.no) (AllF.n (AllF.v (fit93 ξ)) (AllF.n (AllF.v (fit157 ξ)) AllF.e AllF.e) AllF.e) (AllF.n (AllF.v (fit125 ξ)) (AllF.n (AllF.v (fit189 ξ)) AllF.e AllF.e) (AllF.n (AllF.v (fit253 ξ)) AllF.e AllF.e))))))) (AllF.n (AllF.no) (AllF.n (AllF.v (fit4 ξ)) (AllF.n (AllF.v (fit8 ξ)) (AllF.n (AllF.v (fit16 ξ)) (AllF.n (AllF.no) (AllF.n (AllF.v (fit64 ξ)) (AllF.n (AllF.v (fit128 ξ)) AllF.e AllF.e) (AllF.n (AllF.v (fit192 ξ)) AllF.e AllF.e)) (AllF.n (AllF.v (fit96 ξ)) (AllF.n (AllF.v (fit160 ξ)) (AllF.n (AllF.v (fit288 ξ)) AllF.e AllF.e) AllF.e) AllF.e)) (AllF.n (AllF.v (fit48 ξ)) (AllF.n (AllF.v (fit80 ξ)) (AllF.n (AllF.v (fit144 ξ)) AllF.e AllF.e) (AllF.n (AllF.v (fit208 ξ)) AllF.e AllF.e)) (AllF.n (AllF.no) (AllF.n (AllF.v (fit176 ξ)) AllF.e AllF.e) AllF.e))) (AllF.n (AllF.v (fit24 ξ)) (AllF.n (AllF.v (fit40 ξ)) (AllF.n (AllF.v (fit72 ξ)) AllF.e (AllF.n (AllF.v (fit200 ξ)) AllF.e AllF.e)) (AllF.n (AllF.v (fit104 ξ)) (AllF.n (AllF.v (fit168 ξ)) AllF.e AllF.e) (AllF.n (AllF.v (fit232 ξ)) AllF.e AllF.e))) (AllF.n (AllF.no) (AllF.n (AllF.v (fit88 ξ)) (AllF.n (AllF.v (fit152 ξ)) (AllF.n (AllF.v (fit280 ξ)) AllF.e AllF.e) AllF.e) (AllF.n (AllF.v (fit216 ξ)) AllF.e AllF.e)) (AllF.n (AllF.v (fit120 ξ)) (AllF.n (AllF.v (fit184 ξ)) AllF.e AllF.e) (AllF.n (AllF.v (fit248 ξ)) AllF.e AllF.e))))) (AllF.n (AllF.no) (AllF.n (AllF.v (fit20 ξ)) (AllF.n (AllF.v (fit36 ξ)) (AllF.n (AllF.no) (AllF.n (AllF.v (fit132 ξ)) (AllF.n (AllF.v (fit260 ξ)) AllF.e AllF.e) AllF.e) AllF.e) (AllF.n (AllF.v (fit100 ξ)) (AllF.n (AllF.v (fit164 ξ)) AllF.e AllF.e) (AllF.n (AllF.v (fit228 ξ)) AllF.e AllF.e))) (AllF.n (AllF.v (fit52 ξ)) (AllF.n (AllF.no) (AllF.n (AllF.v (fit148 ξ)) (AllF.n (AllF.v (fit276 ξ)) AllF.e AllF.e) AllF.e) (AllF.n (AllF.v (fit212 ξ)) AllF.e AllF.e)) (AllF.n (AllF.no) (AllF.n (AllF.v (fit180 ξ)) AllF.e AllF.e) AllF.e))) (AllF.n (AllF.v (fit28 ξ)) (AllF.n (AllF.no) (AllF.n (AllF.v (fit76 ξ)) (AllF.n (AllF.v (fit140 ξ)) AllF.e AllF.e) (AllF.n (AllF.v (fit204 ξ)) AllF.e AllF.e)) (AllF.n (AllF.no) (AllF.n (AllF.v (fit172 ξ)) AllF.e AllF.e) (AllF.n (AllF.v (fit236 ξ)) AllF.e AllF.e))) (AllF.n (AllF.no) (AllF.n (AllF.v (fit92 ξ)) (AllF.n (AllF.v (fit156 ξ)) AllF.e AllF.e) AllF.e) (AllF.n (AllF.v (fit124 ξ)) (AllF.n (AllF.v (fit188 ξ)) AllF.e AllF.e) (AllF.n (AllF.v (fit252 ξ)) AllF.e AllF.e)))))) (AllF.n (AllF.no) (AllF.n (AllF.v (fit10 ξ)) (AllF.n (AllF.v (fit18 ξ)) (AllF.n (AllF.no) (AllF.n (AllF.no) (AllF.n (AllF.v (fit130 ξ)) (AllF.n (AllF.v (fit258 ξ)) AllF.e AllF.e) AllF.e) (AllF.n (AllF.v (fit194 ξ)) AllF.e AllF.e)) (AllF.n (AllF.v (fit98 ξ)) (AllF.n (AllF.v (fit162 ξ)) (AllF.n (AllF.v (fit290 ξ)) AllF.e AllF.e) AllF.e) (AllF.n (AllF.v (fit226 ξ)) AllF.e AllF.e))) (AllF.n (AllF.v (fit50 ξ)) (AllF.n (AllF.no) (AllF.n (AllF.v (fit146 ξ)) (AllF.n (AllF.v (fit274 ξ)) AllF.e AllF.e) AllF.e) (AllF.n (AllF.v (fit210 ξ)) AllF.e AllF.e)) AllF.e)) (AllF.n (AllF.v (fit26 ξ)) (AllF.n (AllF.v (fit42 ξ)) (AllF.n (AllF.v (fit74 ξ)) (AllF.n (AllF.v (fit138 ξ)) AllF.e AllF.e) (AllF.n (AllF.v (fit202 ξ)) AllF.e AllF.e)) (AllF.n (AllF.no) (AllF.n (AllF.v (fit170 ξ)) AllF.e AllF.e) (AllF.n (AllF.v (fit234 ξ)) AllF.e AllF.e))) (AllF.n (AllF.no) (AllF.n (AllF.v (fit90 ξ)) (AllF.n (AllF.v (fit154 ξ)) (AllF.n (AllF.v (fit282 ξ)) AllF.e AllF.e) AllF.e) AllF.e) (AllF.n (AllF.v (fit122 ξ)) (AllF.n (AllF.v (fit186 ξ)) AllF.e AllF.e) (AllF.n (AllF.v (fit250 ξ)) AllF.e AllF.e))))) (AllF.n (AllF.v (fit14 ξ)) (AllF.n (AllF.v (fit22 ξ)) (AllF.n (AllF.v (fit38 ξ)) (AllF.n (AllF.v (fit70 ξ)) (AllF.n (AllF.v (fit134 ξ)) (AllF.n (AllF.v (fit262 ξ)) AllF.e AllF.e) AllF.e) AllF.e) (AllF.n (AllF.no) (AllF.n (AllF.v (fit166 ξ)) AllF.e AllF.e) (AllF.n (AllF.v (fit230 ξ)) AllF.e AllF.e))) (AllF.n (AllF.v (fit54 ξ)) (AllF.n (AllF.v (fit86 ξ)) (AllF.n (AllF.v (fit150 ξ)) (AllF.n (AllF.v (fit278 ξ)) AllF.e AllF.e) AllF.e) (AllF.n (AllF.v (fit214 ξ)) AllF.e AllF.e)) (AllF.n (AllF.v (fit118 ξ)) (AllF.n (AllF.v (fit182 ξ)) AllF.e AllF.e) (AllF.n (AllF.v (fit246 ξ)) AllF.e AllF.e)))) (AllF.n (AllF.no) (AllF.n (AllF.v (fit46 ξ)) (AllF.n (AllF.v (fit78 ξ)) (AllF.n (AllF.v (fit142 ξ)) (AllF.n (AllF.v (fit270 ξ)) AllF.e AllF.e) AllF.e) (AllF.n (AllF.v (fit206 ξ)) AllF.e AllF.e)) (AllF.n (AllF.no) (AllF.n (AllF.v (fit174 ξ)) AllF.e AllF.e) (AllF.n (AllF.v (fit238 ξ)) AllF.e AllF.e))) (AllF.n (AllF.no) (AllF.n (AllF.v (fit94 ξ)) (AllF.n (AllF.v (fit158 ξ)) (AllF.n (AllF.v (fit286 ξ)) AllF.e AllF.e) AllF.e) AllF.e) (AllF.n (AllF.v (fit126 ξ)) (AllF.n (AllF.v (fit190 ξ)) AllF.e AllF.e) (AllF.n (AllF.v (fit254 ξ)) AllF.e AllF.e))))))))
end Go.Proofs.YtfbjgbecabbdnaaGreatDoor

/- The evaluator: answers known ahead of time: Number's of values not looked at; a call that was evaluated. -/
set_option linter.unusedVariables false
set_option linter.unusedSimpArgs false
namespace Go.Proofs.YtfbjgbecabbdnaaGreatDoor.Ce
open Go.Proofs.YtfbjgbecabbdnaaGreatDoor.Sl Go.RowKit
variable {P : Program}
def posB : Pos → Pos → Bool
  | .h, .h => true
  | .o p, .o q => posB p q
  | .i p, .i q => posB p q
  | _, _ => false
theorem posB_eq : ∀ {p q : Pos}, posB p q = true → p = q
  | .h, .h, _ => rfl
  | .o p, .o q, h => by rw [posB_eq (p := p) (q := q) h]
  | .i p, .i q, h => by rw [posB_eq (p := p) (q := q) h]
  | .h, .o _, h => by cases h
  | .h, .i _, h => by cases h
  | .o _, .h, h => by cases h
  | .o _, .i _, h => by cases h
  | .i _, .h, h => by cases h
  | .i _, .o _, h => by cases h
/-- A call over the empty heap keeps whatever heap there is. -/
theorem calls_pure {f : FuncId} {args : Array Value} {R : Value → Heap → Prop} (c : SCalls P f args (fun _ => none) R) (h : Heap) : SCalls P f args h (fun r h' => h.le h' ∧ ∃ h1, R r h1) := by
  intro w rel
  refine (c w (fun b o e => by cases e)).mono ?_
  rintro e w' ⟨v, h1, rfl, hR, r, st⟩
  refine ⟨v, h, rfl, ⟨Heap.le_refl _, h1, hR⟩, fun b o e => ?_, ⟨st.os, st.tape, st.output, st.size, fun b hb _ => st.keep b hb rfl, fun b e1 e2 => absurd e1 e2⟩⟩
  rw [st.keep b (rel.lt e) rfl]; exact rel b o e
/-- Number's answers: (which value, the bound, the answer). -/
def lookN (j b : Nat) : List (Nat × Nat × Nat) → Option CV
  | [] => none
  | e :: r => bif Nat.beq j e.1 && Nat.beq b e.2.1 then some (.i .i64 (.ofNat e.2.2)) else lookN j b r
/-- fs: functions without arguments that say true. -/
def omN (num : Pos) (fs : List Pos) (tb : List (Nat × Nat × Nat)) : Om := fun f args => match args with
  | [.xi j, .i .i64 (.ofNat b)] => bif posB f num then lookN j b tb else none
  | [] => bif fs.any (posB f) then some (.b true) else none
  | _ => none
theorem lookN_mem {j b : Nat} {v : CV} : ∀ {tb : List (Nat × Nat × Nat)}, lookN j b tb = some v → ∃ r, (j, b, r) ∈ tb ∧ v = .i .i64 (.ofNat r)
  | [], h => by cases h
  | (j', b', r) :: tb, h => by
    unfold lookN at h
    cases hb : (Nat.beq j j' && Nat.beq b b') with
    | true =>
      rw [hb] at h
      cases h
      simp only [Bool.and_eq_true, Nat.beq_eq] at hb
      exact ⟨r, by simp [hb.1, hb.2], rfl⟩
    | false =>
      rw [hb] at h
      obtain ⟨r', h1, h2⟩ := lookN_mem h
      exact ⟨r', List.mem_cons_of_mem _ h1, h2⟩
theorem omN_ok {N : Kn P} {num : Pos} {fs : List Pos} {tb : List (Nat × Nat × Nat)} (ai : Nat → Int) (hx : ∀ j, N.ξ j = .int .i64 (ai j)) (htb : ∀ j b r, (j, b, r) ∈ tb → ai j % (b : Int) = (r : Int) ∧ 0 < b ∧ b ≤ 4611686018427387904)
    (hnum : Ab.okCall P (num.nat - 1) = true) (hN : ∀ (n b : Int) (h : Heap), 0 < b → b ≤ 4611686018427387904 → SCalls P (num.nat - 1) #[.int .i64 n, .int .i64 b] h (fun v h' => h' = h ∧ v = .int .i64 (n % b)))
    (hfs : ∀ f ∈ fs, Ab.okCall P (f.nat - 1) = true ∧ SCalls P (f.nat - 1) #[] (fun _ => none) (fun r _ => r = .bool true)) : OmOk N (omN num fs tb) := by
  intro f args v e
  unfold omN at e
  split at e
  · rename_i j b
    cases hf : posB f num with
    | false => rw [hf] at e; cases e
    | true =>
      rw [hf] at e
      have := posB_eq hf
      subst this
      obtain ⟨r, hr, rfl⟩ := lookN_mem e
      obtain ⟨h1, h2, h3⟩ := htb j b r hr
      refine ⟨hnum, fun β h vs hβ rv => ?_⟩
      cases rv with
      | cons r1 rv =>
        cases rv with
        | cons r2 rv =>
          cases rv
          cases r1
          cases r2
          rw [hβ, hx]
          refine (hN (ai j) (b : Int) h (by omega) (by omega)).mono fun u h' ⟨e1, e2⟩ => ?_
          subst e1
          rw [e2, h1]
          exact ⟨Heap.le_refl _, .i _ _⟩
  · cases hf : fs.any (posB f) with
    | false => rw [hf] at e; cases e
    | true =>
      rw [hf] at e
      cases e
      obtain ⟨g, hg, hgf⟩ := List.any_eq_true.1 hf
      have := posB_eq hgf
      subst this
      obtain ⟨h1, h2⟩ := hfs f hg
      refine ⟨h1, fun β h vs hβ rv => ?_⟩
      cases rv
      refine (calls_pure h2 h).mono fun u h' ⟨e1, _, e2⟩ => ?_
      rw [e2]
      exact ⟨e1, .b true⟩
  · cases e
/-- Nothing is known ahead. -/
def om0 : Om := fun _ _ => none
theorem om0_ok {N : Kn P} : OmOk N om0 := fun _ _ _ e => by cases e
end Go.Proofs.YtfbjgbecabbdnaaGreatDoor.Ce

/- rivuletworld.Number. -/
set_option linter.unusedVariables false
set_option linter.unusedSimpArgs false
namespace Go.Proofs.YtfbjgbecabbdnaaGreatDoor
open Sl
theorem wrap64_in (n : Int) (h : -9223372036854775808 ≤ n) (h' : n ≤ 9223372036854775807) : IntKind.i64.wrap n = n := by
  show (if (true && decide (n % 18446744073709551616 ≥ 9223372036854775808)) = true then n % 18446744073709551616 - 18446744073709551616 else n % 18446744073709551616) = n
  simp only [Bool.true_and, decide_eq_true_eq]
  split <;> omega
theorem tmod_fix (n b : Int) (hb : 0 < b) : (0 ≤ n.tmod b → n.tmod b = n % b) ∧ (n.tmod b < 0 → n.tmod b + b = n % b) ∧ -b < n.tmod b ∧ n.tmod b < b := by
  have h1 := Int.tmod_eq_emod (a := n) (b := b)
  have h2 := Int.emod_nonneg n (show b ≠ 0 by omega)
  have h3 := Int.emod_lt_of_pos n hb
  have hab : (b.natAbs : Int) = b := by omega
  split at h1
  · omega
  · rename_i hc
    have hne : n % b ≠ 0 := fun e => hc (.inr (Int.dvd_of_emod_eq_zero e))
    rw [hab] at h1
    omega
theorem number_ok (n b : Int) (hb : 0 < b) (hb' : b ≤ 4611686018427387904) (h : Heap) : SCalls Tryz.prog 14 #[.int .i64 n, .int .i64 b] h (fun v h' => h' = h ∧ v = .int .i64 (n % b)) := by
  refine s_enter Tryz.func14 rfl (by rw [Tryz.ntmps14]; simp) ?_
  rw [Tryz.ntmps14]
  obtain ⟨hf1, hf2, hlow, hhigh⟩ := tmod_fix n b hb
  have h2 := Int.emod_nonneg n (show b ≠ 0 by omega)
  have h3 := Int.emod_lt_of_pos n hb
  have hbn : b ≠ 0 := by omega
  have hbn' : (b == 0) = false := by simp [hbn]
  have hw : IntKind.i64.wrap (n.tmod b) = n.tmod b := wrap64_in _ (by omega) (by omega)
  generalize hT : T0 #[.int .i64 n, .int .i64 b] = T
  have h0 : T 0 = .int .i64 n := by rw [← hT]; rfl
  have h1 : T 1 = .int .i64 b := by rw [← hT]; rfl
  clear hT
  repeat refine s_seq ?_
  repeat refine s_seq ?_
  refine s_region ?_
  refine w_pv rfl dC (want_none rfl) (p_val evA) ?_
  refine w_nil ?_
  repeat refine s_seq ?_
  refine s_region ?_
  refine w_pv rfl dC (want_none rfl) (p_val evA) ?_
  refine w_pv rfl dC (want_none rfl) (p_val evA) ?_
  refine w_rd rfl dC (want_none rfl) (r_rem rfl evA evA arA) ?_
  refine w_pv rfl dC (want_none rfl) (p_val evA) ?_
  refine w_nil ?_
  repeat refine s_seq ?_
  refine s_region ?_
  refine w_pv rfl dC (want_none rfl) (p_val evA) ?_
  refine w_pv rfl dC (want_none rfl) (p_val evA) ?_
  refine w_nil ?_
  generalize n.tmod b = r at *
  generalize n % b = r' at *
  by_cases hr : r < 0
  · have hd : decide (r < 0) = true := decide_eq_true hr
    have hw2 : IntKind.i64.wrap (r + b) = r' := by rw [hf2 hr]; exact wrap64_in _ (by omega) (by omega)
    clear hf1 hf2
    repeat refine s_seq ?_
    refine s_cond (t := true) slA ?_
    repeat refine s_seq ?_
    refine s_region ?_
    refine w_pv rfl dC (want_none rfl) (p_val evA) ?_
    refine w_pv rfl dC (want_none rfl) (p_val evA) ?_
    refine w_pv rfl dC (want_none rfl) (p_val evA) ?_
    refine w_pv rfl dC (want_none rfl) (p_val evA) ?_
    refine w_nil ?_
    repeat refine s_seq ?_
    refine s_region ?_
    refine w_pv rfl dC (want_none rfl) (p_val evA) ?_
    refine w_pv rfl dC (want_none rfl) (p_val evA) ?_
    refine w_nil ?_
    refine s_ret ⟨_, res_one rfl rfl, rfl, ?_⟩
    simp only [pval, ev, upd, binVal, intBin, Option.map_some, ↓reduceIte, reduceCtorEq, Nat.reduceEqDiff, Nat.reduceBEq, List.map_toArray, List.map_cons, List.map_nil, cond_true, cond_false, decide_true, decide_false, Bool.not_true, Bool.not_false, Bool.true_and, Bool.false_and, Bool.and_true, Bool.and_false, beq_self_eq_true, bne_self_eq_false, List.getElem_toArray, List.getElem_cons_succ, List.getElem_cons_zero, *]
  · have hd : decide (r < 0) = false := decide_eq_false hr
    have hw2 : r = r' := hf1 (by omega)
    subst hw2
    clear hf1 hf2
    repeat refine s_seq ?_
    refine s_cond (t := false) slA ?_
    repeat refine s_seq ?_
    refine s_skip ?_
    repeat refine s_seq ?_
    refine s_region ?_
    refine w_pv rfl dC (want_none rfl) (p_val evA) ?_
    refine w_pv rfl dC (want_none rfl) (p_val evA) ?_
    refine w_nil ?_
    refine s_ret ⟨_, res_one rfl rfl, rfl, ?_⟩
    simp only [pval, ev, upd, binVal, intBin, Option.map_some, ↓reduceIte, reduceCtorEq, Nat.reduceEqDiff, Nat.reduceBEq, List.map_toArray, List.map_cons, List.map_nil, cond_true, cond_false, decide_true, decide_false, Bool.not_true, Bool.not_false, Bool.true_and, Bool.false_and, Bool.and_true, Bool.and_false, beq_self_eq_true, bne_self_eq_false, List.getElem_toArray, List.getElem_cons_succ, List.getElem_cons_zero, *]
end Go.Proofs.YtfbjgbecabbdnaaGreatDoor

/- SolveStars: the evaluation of one case. -/
set_option linter.unusedVariables false
set_option maxRecDepth 1000000
namespace Go.Proofs.YtfbjgbecabbdnaaGreatDoor
open Sl Ce
noncomputable def solveStarsNum : Pos := pos 14
noncomputable def solveStarsFir : Pos := pos 13
theorem solveStars_first_e : isTrue (callF om0 tab (evC om0 tab 1000000) false solveStarsFir [] .e .h 0) = true := by kernel_rfl
noncomputable def solveStarsAt (r0 : Nat) (r1 : Nat) : Bool := isTrue (callF (omN solveStarsNum [solveStarsFir] [(0, 5, r0), (1, r0 + 2, r1)]) tab (evC (omN solveStarsNum [solveStarsFir] [(0, 5, r0), (1, r0 + 2, r1)]) tab 1000000) false (pos 4) [.xi 0, .xi 1] .e .h 0)
end Go.Proofs.YtfbjgbecabbdnaaGreatDoor
