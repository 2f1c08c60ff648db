import Derived.Test.YtfbjgbecabbdnaaGreatDoorSs16
import Derived.Test.YtfbjgbecabbdnaaGreatDoorProg
/- Slots, by name. -/
set_option linter.unusedVariables false
set_option maxRecDepth 100000
namespace Go.Proofs.YtfbjgbecabbdnaaGreatDoor
open Sl Ce
noncomputable def q0 : Pos := .h
noncomputable def t0 : CP := .t q0
noncomputable def q1 : Pos := (.o .h)
noncomputable def t1 : CP := .t q1
noncomputable def q2 : Pos := (.i .h)
noncomputable def t2 : CP := .t q2
noncomputable def q3 : Pos := (.o (.o .h))
noncomputable def t3 : CP := .t q3
noncomputable def q4 : Pos := (.i (.o .h))
noncomputable def t4 : CP := .t q4
noncomputable def q5 : Pos := (.o (.i .h))
noncomputable def t5 : CP := .t q5
noncomputable def q6 : Pos := (.i (.i .h))
noncomputable def t6 : CP := .t q6
noncomputable def q7 : Pos := (.o (.o (.o .h)))
noncomputable def t7 : CP := .t q7
noncomputable def q8 : Pos := (.i (.o (.o .h)))
noncomputable def t8 : CP := .t q8
noncomputable def q9 : Pos := (.o (.i (.o .h)))
noncomputable def t9 : CP := .t q9
noncomputable def q10 : Pos := (.i (.i (.o .h)))
noncomputable def t10 : CP := .t q10
noncomputable def q11 : Pos := (.o (.o (.i .h)))
noncomputable def t11 : CP := .t q11
noncomputable def q12 : Pos := (.i (.o (.i .h)))
noncomputable def t12 : CP := .t q12
noncomputable def q13 : Pos := (.o (.i (.i .h)))
noncomputable def t13 : CP := .t q13
noncomputable def q14 : Pos := (.i (.i (.i .h)))
noncomputable def t14 : CP := .t q14
noncomputable def q15 : Pos := (.o (.o (.o (.o .h))))
noncomputable def t15 : CP := .t q15
noncomputable def q16 : Pos := (.i (.o (.o (.o .h))))
noncomputable def t16 : CP := .t q16
noncomputable def q17 : Pos := (.o (.i (.o (.o .h))))
noncomputable def t17 : CP := .t q17
noncomputable def q18 : Pos := (.i (.i (.o (.o .h))))
noncomputable def t18 : CP := .t q18
noncomputable def q19 : Pos := (.o (.o (.i (.o .h))))
noncomputable def t19 : CP := .t q19
noncomputable def q20 : Pos := (.i (.o (.i (.o .h))))
noncomputable def t20 : CP := .t q20
noncomputable def q21 : Pos := (.o (.i (.i (.o .h))))
noncomputable def t21 : CP := .t q21
noncomputable def q22 : Pos := (.i (.i (.i (.o .h))))
noncomputable def t22 : CP := .t q22
noncomputable def q23 : Pos := (.o (.o (.o (.i .h))))
noncomputable def t23 : CP := .t q23
noncomputable def q24 : Pos := (.i (.o (.o (.i .h))))
noncomputable def t24 : CP := .t q24
noncomputable def q25 : Pos := (.o (.i (.o (.i .h))))
noncomputable def t25 : CP := .t q25
noncomputable def q26 : Pos := (.i (.i (.o (.i .h))))
noncomputable def t26 : CP := .t q26
noncomputable def q27 : Pos := (.o (.o (.i (.i .h))))
noncomputable def t27 : CP := .t q27
noncomputable def q28 : Pos := (.i (.o (.i (.i .h))))
noncomputable def t28 : CP := .t q28
noncomputable def q29 : Pos := (.o (.i (.i (.i .h))))
noncomputable def t29 : CP := .t q29
noncomputable def q30 : Pos := (.i (.i (.i (.i .h))))
noncomputable def t30 : CP := .t q30
noncomputable def q31 : Pos := (.o (.o (.o (.o (.o .h)))))
noncomputable def t31 : CP := .t q31
noncomputable def q32 : Pos := (.i (.o (.o (.o (.o .h)))))
noncomputable def t32 : CP := .t q32
noncomputable def q33 : Pos := (.o (.i (.o (.o (.o .h)))))
noncomputable def t33 : CP := .t q33
noncomputable def q34 : Pos := (.i (.i (.o (.o (.o .h)))))
noncomputable def t34 : CP := .t q34
noncomputable def q35 : Pos := (.o (.o (.i (.o (.o .h)))))
noncomputable def t35 : CP := .t q35
noncomputable def q36 : Pos := (.i (.o (.i (.o (.o .h)))))
noncomputable def t36 : CP := .t q36
noncomputable def q37 : Pos := (.o (.i (.i (.o (.o .h)))))
noncomputable def t37 : CP := .t q37
noncomputable def q38 : Pos := (.i (.i (.i (.o (.o .h)))))
noncomputable def t38 : CP := .t q38
noncomputable def q39 : Pos := (.o (.o (.o (.i (.o .h)))))
noncomputable def t39 : CP := .t q39
noncomputable def q40 : Pos := (.i (.o (.o (.i (.o .h)))))
noncomputable def t40 : CP := .t q40
noncomputable def q41 : Pos := (.o (.i (.o (.i (.o .h)))))
noncomputable def t41 : CP := .t q41
noncomputable def q42 : Pos := (.i (.i (.o (.i (.o .h)))))
noncomputable def t42 : CP := .t q42
noncomputable def q43 : Pos := (.o (.o (.i (.i (.o .h)))))
noncomputable def t43 : CP := .t q43
noncomputable def q44 : Pos := (.i (.o (.i (.i (.o .h)))))
noncomputable def t44 : CP := .t q44
noncomputable def q45 : Pos := (.o (.i (.i (.i (.o .h)))))
noncomputable def t45 : CP := .t q45
noncomputable def q46 : Pos := (.i (.i (.i (.i (.o .h)))))
noncomputable def t46 : CP := .t q46
noncomputable def q47 : Pos := (.o (.o (.o (.o (.i .h)))))
noncomputable def t47 : CP := .t q47
noncomputable def q48 : Pos := (.i (.o (.o (.o (.i .h)))))
noncomputable def t48 : CP := .t q48
noncomputable def q49 : Pos := (.o (.i (.o (.o (.i .h)))))
noncomputable def t49 : CP := .t q49
noncomputable def q50 : Pos := (.i (.i (.o (.o (.i .h)))))
noncomputable def t50 : CP := .t q50
noncomputable def q51 : Pos := (.o (.o (.i (.o (.i .h)))))
noncomputable def t51 : CP := .t q51
noncomputable def q52 : Pos := (.i (.o (.i (.o (.i .h)))))
noncomputable def t52 : CP := .t q52
noncomputable def q53 : Pos := (.o (.i (.i (.o (.i .h)))))
noncomputable def t53 : CP := .t q53
noncomputable def q54 : Pos := (.i (.i (.i (.o (.i .h)))))
noncomputable def t54 : CP := .t q54
noncomputable def q55 : Pos := (.o (.o (.o (.i (.i .h)))))
noncomputable def t55 : CP := .t q55
noncomputable def q56 : Pos := (.i (.o (.o (.i (.i .h)))))
noncomputable def t56 : CP := .t q56
noncomputable def q57 : Pos := (.o (.i (.o (.i (.i .h)))))
noncomputable def t57 : CP := .t q57
noncomputable def q58 : Pos := (.i (.i (.o (.i (.i .h)))))
noncomputable def t58 : CP := .t q58
noncomputable def q59 : Pos := (.o (.o (.i (.i (.i .h)))))
noncomputable def t59 : CP := .t q59
noncomputable def q60 : Pos := (.i (.o (.i (.i (.i .h)))))
noncomputable def t60 : CP := .t q60
noncomputable def q61 : Pos := (.o (.i (.i (.i (.i .h)))))
noncomputable def t61 : CP := .t q61
noncomputable def q62 : Pos := (.i (.i (.i (.i (.i .h)))))
noncomputable def t62 : CP := .t q62
noncomputable def q63 : Pos := (.o (.o (.o (.o (.o (.o .h))))))
noncomputable def t63 : CP := .t q63
noncomputable def q64 : Pos := (.i (.o (.o (.o (.o (.o .h))))))
noncomputable def t64 : CP := .t q64
noncomputable def q65 : Pos := (.o (.i (.o (.o (.o (.o .h))))))
noncomputable def t65 : CP := .t q65
noncomputable def q66 : Pos := (.i (.i (.o (.o (.o (.o .h))))))
noncomputable def t66 : CP := .t q66
noncomputable def q67 : Pos := (.o (.o (.i (.o (.o (.o .h))))))
noncomputable def t67 : CP := .t q67
noncomputable def q68 : Pos := (.i (.o (.i (.o (.o (.o .h))))))
noncomputable def t68 : CP := .t q68
noncomputable def q69 : Pos := (.o (.i (.i (.o (.o (.o .h))))))
noncomputable def t69 : CP := .t q69
noncomputable def q70 : Pos := (.i (.i (.i (.o (.o (.o .h))))))
noncomputable def t70 : CP := .t q70
noncomputable def q71 : Pos := (.o (.o (.o (.i (.o (.o .h))))))
noncomputable def t71 : CP := .t q71
noncomputable def q72 : Pos := (.i (.o (.o (.i (.o (.o .h))))))
noncomputable def t72 : CP := .t q72
noncomputable def q73 : Pos := (.o (.i (.o (.i (.o (.o .h))))))
noncomputable def t73 : CP := .t q73
noncomputable def q74 : Pos := (.i (.i (.o (.i (.o (.o .h))))))
noncomputable def t74 : CP := .t q74
noncomputable def q75 : Pos := (.o (.o (.i (.i (.o (.o .h))))))
noncomputable def t75 : CP := .t q75
noncomputable def q76 : Pos := (.i (.o (.i (.i (.o (.o .h))))))
noncomputable def t76 : CP := .t q76
noncomputable def q77 : Pos := (.o (.i (.i (.i (.o (.o .h))))))
noncomputable def t77 : CP := .t q77
noncomputable def q78 : Pos := (.i (.i (.i (.i (.o (.o .h))))))
noncomputable def t78 : CP := .t q78
noncomputable def q79 : Pos := (.o (.o (.o (.o (.i (.o .h))))))
noncomputable def t79 : CP := .t q79
noncomputable def q80 : Pos := (.i (.o (.o (.o (.i (.o .h))))))
noncomputable def t80 : CP := .t q80
noncomputable def q81 : Pos := (.o (.i (.o (.o (.i (.o .h))))))
noncomputable def t81 : CP := .t q81
noncomputable def q82 : Pos := (.i (.i (.o (.o (.i (.o .h))))))
noncomputable def t82 : CP := .t q82
noncomputable def q83 : Pos := (.o (.o (.i (.o (.i (.o .h))))))
noncomputable def t83 : CP := .t q83
noncomputable def q84 : Pos := (.i (.o (.i (.o (.i (.o .h))))))
noncomputable def t84 : CP := .t q84
noncomputable def q85 : Pos := (.o (.i (.i (.o (.i (.o .h))))))
noncomputable def t85 : CP := .t q85
noncomputable def q86 : Pos := (.i (.i (.i (.o (.i (.o .h))))))
noncomputable def t86 : CP := .t q86
noncomputable def q87 : Pos := (.o (.o (.o (.i (.i (.o .h))))))
noncomputable def t87 : CP := .t q87
noncomputable def q88 : Pos := (.i (.o (.o (.i (.i (.o .h))))))
noncomputable def t88 : CP := .t q88
noncomputable def q89 : Pos := (.o (.i (.o (.i (.i (.o .h))))))
noncomputable def t89 : CP := .t q89
noncomputable def q90 : Pos := (.i (.i (.o (.i (.i (.o .h))))))
noncomputable def t90 : CP := .t q90
noncomputable def q91 : Pos := (.o (.o (.i (.i (.i (.o .h))))))
noncomputable def t91 : CP := .t q91
noncomputable def q92 : Pos := (.i (.o (.i (.i (.i (.o .h))))))
noncomputable def t92 : CP := .t q92
noncomputable def q93 : Pos := (.o (.i (.i (.i (.i (.o .h))))))
noncomputable def t93 : CP := .t q93
noncomputable def q94 : Pos := (.i (.i (.i (.i (.i (.o .h))))))
noncomputable def t94 : CP := .t q94
noncomputable def q95 : Pos := (.o (.o (.o (.o (.o (.i .h))))))
noncomputable def t95 : CP := .t q95
noncomputable def q96 : Pos := (.i (.o (.o (.o (.o (.i .h))))))
noncomputable def t96 : CP := .t q96
noncomputable def q97 : Pos := (.o (.i (.o (.o (.o (.i .h))))))
noncomputable def t97 : CP := .t q97
noncomputable def q98 : Pos := (.i (.i (.o (.o (.o (.i .h))))))
noncomputable def t98 : CP := .t q98
noncomputable def q99 : Pos := (.o (.o (.i (.o (.o (.i .h))))))
noncomputable def t99 : CP := .t q99
noncomputable def q100 : Pos := (.i (.o (.i (.o (.o (.i .h))))))
noncomputable def t100 : CP := .t q100
noncomputable def q101 : Pos := (.o (.i (.i (.o (.o (.i .h))))))
noncomputable def t101 : CP := .t q101
noncomputable def q102 : Pos := (.i (.i (.i (.o (.o (.i .h))))))
noncomputable def t102 : CP := .t q102
noncomputable def q103 : Pos := (.o (.o (.o (.i (.o (.i .h))))))
noncomputable def t103 : CP := .t q103
noncomputable def q104 : Pos := (.i (.o (.o (.i (.o (.i .h))))))
noncomputable def t104 : CP := .t q104
noncomputable def q105 : Pos := (.o (.i (.o (.i (.o (.i .h))))))
noncomputable def t105 : CP := .t q105
noncomputable def q106 : Pos := (.i (.i (.o (.i (.o (.i .h))))))
noncomputable def t106 : CP := .t q106
noncomputable def q107 : Pos := (.o (.o (.i (.i (.o (.i .h))))))
noncomputable def t107 : CP := .t q107
noncomputable def q108 : Pos := (.i (.o (.i (.i (.o (.i .h))))))
noncomputable def t108 : CP := .t q108
noncomputable def q109 : Pos := (.o (.i (.i (.i (.o (.i .h))))))
noncomputable def t109 : CP := .t q109
noncomputable def q110 : Pos := (.i (.i (.i (.i (.o (.i .h))))))
noncomputable def t110 : CP := .t q110
noncomputable def q111 : Pos := (.o (.o (.o (.o (.i (.i .h))))))
noncomputable def t111 : CP := .t q111
noncomputable def q112 : Pos := (.i (.o (.o (.o (.i (.i .h))))))
noncomputable def t112 : CP := .t q112
noncomputable def q113 : Pos := (.o (.i (.o (.o (.i (.i .h))))))
noncomputable def t113 : CP := .t q113
noncomputable def q114 : Pos := (.i (.i (.o (.o (.i (.i .h))))))
noncomputable def t114 : CP := .t q114
noncomputable def q115 : Pos := (.o (.o (.i (.o (.i (.i .h))))))
noncomputable def t115 : CP := .t q115
noncomputable def q116 : Pos := (.i (.o (.i (.o (.i (.i .h))))))
noncomputable def t116 : CP := .t q116
noncomputable def q117 : Pos := (.o (.i (.i (.o (.i (.i .h))))))
noncomputable def t117 : CP := .t q117
noncomputable def q118 : Pos := (.i (.i (.i (.o (.i (.i .h))))))
noncomputable def t118 : CP := .t q118
noncomputable def q119 : Pos := (.o (.o (.o (.i (.i (.i .h))))))
noncomputable def t119 : CP := .t q119
noncomputable def q120 : Pos := (.i (.o (.o (.i (.i (.i .h))))))
noncomputable def t120 : CP := .t q120
noncomputable def q121 : Pos := (.o (.i (.o (.i (.i (.i .h))))))
noncomputable def t121 : CP := .t q121
noncomputable def q122 : Pos := (.i (.i (.o (.i (.i (.i .h))))))
noncomputable def t122 : CP := .t q122
noncomputable def q123 : Pos := (.o (.o (.i (.i (.i (.i .h))))))
noncomputable def t123 : CP := .t q123
noncomputable def q124 : Pos := (.i (.o (.i (.i (.i (.i .h))))))
noncomputable def t124 : CP := .t q124
noncomputable def q125 : Pos := (.o (.i (.i (.i (.i (.i .h))))))
noncomputable def t125 : CP := .t q125
noncomputable def q126 : Pos := (.i (.i (.i (.i (.i (.i .h))))))
noncomputable def t126 : CP := .t q126
noncomputable def q127 : Pos := (.o (.o (.o (.o (.o (.o (.o .h)))))))
noncomputable def t127 : CP := .t q127
noncomputable def q128 : Pos := (.i (.o (.o (.o (.o (.o (.o .h)))))))
noncomputable def t128 : CP := .t q128
noncomputable def q129 : Pos := (.o (.i (.o (.o (.o (.o (.o .h)))))))
noncomputable def t129 : CP := .t q129
noncomputable def q130 : Pos := (.i (.i (.o (.o (.o (.o (.o .h)))))))
noncomputable def t130 : CP := .t q130
noncomputable def q131 : Pos := (.o (.o (.i (.o (.o (.o (.o .h)))))))
noncomputable def t131 : CP := .t q131
noncomputable def q132 : Pos := (.i (.o (.i (.o (.o (.o (.o .h)))))))
noncomputable def t132 : CP := .t q132
noncomputable def q133 : Pos := (.o (.i (.i (.o (.o (.o (.o .h)))))))
noncomputable def t133 : CP := .t q133
noncomputable def q134 : Pos := (.i (.i (.i (.o (.o (.o (.o .h)))))))
noncomputable def t134 : CP := .t q134
noncomputable def q135 : Pos := (.o (.o (.o (.i (.o (.o (.o .h)))))))
noncomputable def t135 : CP := .t q135
noncomputable def q136 : Pos := (.i (.o (.o (.i (.o (.o (.o .h)))))))
noncomputable def t136 : CP := .t q136
noncomputable def q137 : Pos := (.o (.i (.o (.i (.o (.o (.o .h)))))))
noncomputable def t137 : CP := .t q137
noncomputable def q138 : Pos := (.i (.i (.o (.i (.o (.o (.o .h)))))))
noncomputable def t138 : CP := .t q138
noncomputable def q139 : Pos := (.o (.o (.i (.i (.o (.o (.o .h)))))))
noncomputable def t139 : CP := .t q139
noncomputable def q140 : Pos := (.i (.o (.i (.i (.o (.o (.o .h)))))))
noncomputable def t140 : CP := .t q140
noncomputable def q141 : Pos := (.o (.i (.i (.i (.o (.o (.o .h)))))))
noncomputable def t141 : CP := .t q141
noncomputable def q142 : Pos := (.i (.i (.i (.i (.o (.o (.o .h)))))))
noncomputable def t142 : CP := .t q142
noncomputable def q143 : Pos := (.o (.o (.o (.o (.i (.o (.o .h)))))))
noncomputable def t143 : CP := .t q143
noncomputable def q144 : Pos := (.i (.o (.o (.o (.i (.o (.o .h)))))))
noncomputable def t144 : CP := .t q144
noncomputable def q145 : Pos := (.o (.i (.o (.o (.i (.o (.o .h)))))))
noncomputable def t145 : CP := .t q145
noncomputable def q146 : Pos := (.i (.i (.o (.o (.i (.o (.o .h)))))))
noncomputable def t146 : CP := .t q146
noncomputable def q147 : Pos := (.o (.o (.i (.o (.i (.o (.o .h)))))))
noncomputable def t147 : CP := .t q147
noncomputable def q148 : Pos := (.i (.o (.i (.o (.i (.o (.o .h)))))))
noncomputable def t148 : CP := .t q148
noncomputable def q149 : Pos := (.o (.i (.i (.o (.i (.o (.o .h)))))))
noncomputable def t149 : CP := .t q149
noncomputable def q150 : Pos := (.i (.i (.i (.o (.i (.o (.o .h)))))))
noncomputable def t150 : CP := .t q150
noncomputable def q151 : Pos := (.o (.o (.o (.i (.i (.o (.o .h)))))))
noncomputable def t151 : CP := .t q151
noncomputable def q152 : Pos := (.i (.o (.o (.i (.i (.o (.o .h)))))))
noncomputable def t152 : CP := .t q152
noncomputable def q153 : Pos := (.o (.i (.o (.i (.i (.o (.o .h)))))))
noncomputable def t153 : CP := .t q153
noncomputable def q154 : Pos := (.i (.i (.o (.i (.i (.o (.o .h)))))))
noncomputable def t154 : CP := .t q154
noncomputable def q155 : Pos := (.o (.o (.i (.i (.i (.o (.o .h)))))))
noncomputable def t155 : CP := .t q155
noncomputable def q156 : Pos := (.i (.o (.i (.i (.i (.o (.o .h)))))))
noncomputable def t156 : CP := .t q156
noncomputable def q157 : Pos := (.o (.i (.i (.i (.i (.o (.o .h)))))))
noncomputable def t157 : CP := .t q157
noncomputable def q158 : Pos := (.i (.i (.i (.i (.i (.o (.o .h)))))))
noncomputable def t158 : CP := .t q158
noncomputable def q159 : Pos := (.o (.o (.o (.o (.o (.i (.o .h)))))))
noncomputable def t159 : CP := .t q159
noncomputable def q160 : Pos := (.i (.o (.o (.o (.o (.i (.o .h)))))))
noncomputable def t160 : CP := .t q160
noncomputable def q161 : Pos := (.o (.i (.o (.o (.o (.i (.o .h)))))))
noncomputable def t161 : CP := .t q161
noncomputable def q162 : Pos := (.i (.i (.o (.o (.o (.i (.o .h)))))))
noncomputable def t162 : CP := .t q162
noncomputable def q163 : Pos := (.o (.o (.i (.o (.o (.i (.o .h)))))))
noncomputable def t163 : CP := .t q163
noncomputable def q164 : Pos := (.i (.o (.i (.o (.o (.i (.o .h)))))))
noncomputable def t164 : CP := .t q164
noncomputable def q165 : Pos := (.o (.i (.i (.o (.o (.i (.o .h)))))))
noncomputable def t165 : CP := .t q165
noncomputable def q166 : Pos := (.i (.i (.i (.o (.o (.i (.o .h)))))))
noncomputable def t166 : CP := .t q166
noncomputable def q167 : Pos := (.o (.o (.o (.i (.o (.i (.o .h)))))))
noncomputable def t167 : CP := .t q167
noncomputable def q168 : Pos := (.i (.o (.o (.i (.o (.i (.o .h)))))))
noncomputable def t168 : CP := .t q168
noncomputable def q169 : Pos := (.o (.i (.o (.i (.o (.i (.o .h)))))))
noncomputable def t169 : CP := .t q169
noncomputable def q170 : Pos := (.i (.i (.o (.i (.o (.i (.o .h)))))))
noncomputable def t170 : CP := .t q170
noncomputable def q171 : Pos := (.o (.o (.i (.i (.o (.i (.o .h)))))))
noncomputable def t171 : CP := .t q171
noncomputable def q172 : Pos := (.i (.o (.i (.i (.o (.i (.o .h)))))))
noncomputable def t172 : CP := .t q172
noncomputable def q173 : Pos := (.o (.i (.i (.i (.o (.i (.o .h)))))))
noncomputable def t173 : CP := .t q173
noncomputable def q174 : Pos := (.i (.i (.i (.i (.o (.i (.o .h)))))))
noncomputable def t174 : CP := .t q174
noncomputable def q175 : Pos := (.o (.o (.o (.o (.i (.i (.o .h)))))))
noncomputable def t175 : CP := .t q175
noncomputable def q176 : Pos := (.i (.o (.o (.o (.i (.i (.o .h)))))))
noncomputable def t176 : CP := .t q176
noncomputable def q177 : Pos := (.o (.i (.o (.o (.i (.i (.o .h)))))))
noncomputable def t177 : CP := .t q177
end Go.Proofs.YtfbjgbecabbdnaaGreatDoor

/- Keys, structs of numbers. -/
set_option linter.unusedVariables false
set_option maxRecDepth 100000
namespace Go.Proofs.YtfbjgbecabbdnaaGreatDoor
open Sl Ce
/-- What is known of keys, of structs of numbers. -/
def shOf (t : Nat) : Option Sh := bif Nat.beq t 125 then some (.int .u32) else bif Nat.beq t 166 then some (.int .i64) else bif Nat.beq t 167 then some (.int .i64) else bif Nat.beq t 174 then some (.agg [.i64, .u32, .u32]) else bif Nat.beq t 224 then some (.agg [.u32, .u32]) else none
def eqOf (t : Nat) : Option (List IntKind) := bif Nat.beq t 48 then some [.u32, .u32] else bif Nat.beq t 61 then some [.i64, .u32, .u32] else bif Nat.beq t 102 then some [.u32, .i64] else none
theorem eqlaw161 : ∀ a b : List Int, a.length = [IntKind.i64, IntKind.u32, IntKind.u32].length → b.length = ([.i64, .u32, .u32] : List IntKind).length → eqv Tryz.prog 10000 161 (.agg (zipK [.i64, .u32, .u32] a).toArray) (.agg (zipK [.i64, .u32, .u32] b).toArray) = some (decide (a = b))
  | [a0, a1, a2], [b0, b1, b2], _, _ => by
    have h48 : Tryz.prog.cellsOf 48 = 2 := by kernel_rfl
    simp [eqv, eqvFields, partV, zipK, h48]
    try (rw [Bool.eq_iff_iff]; simp; try omega)
theorem ckeq161 : ∀ a : List Int, a.length = ([.i64, .u32, .u32] : List IntKind).length → ckv Tryz.prog 10000 161 (.agg (zipK [.i64, .u32, .u32] a).toArray) = true
  | [a0, a1, a2], _ => by
    have h48 : Tryz.prog.cellsOf 48 = 2 := by kernel_rfl
    simp [ckv, ckvF, partV, zipK, h48]
theorem eqlaw48 : ∀ a b : List Int, a.length = [IntKind.u32, IntKind.u32].length → b.length = ([.u32, .u32] : List IntKind).length → eqv Tryz.prog 10000 48 (.agg (zipK [.u32, .u32] a).toArray) (.agg (zipK [.u32, .u32] b).toArray) = some (decide (a = b))
  | [a0, a1], [b0, b1], _, _ => by
    simp [eqv, eqvFields, partV, zipK]
    try (rw [Bool.eq_iff_iff]; simp; try omega)
theorem ckeq48 : ∀ a : List Int, a.length = ([.u32, .u32] : List IntKind).length → ckv Tryz.prog 10000 48 (.agg (zipK [.u32, .u32] a).toArray) = true
  | [a0, a1], _ => by
    simp [ckv, ckvF, partV, zipK]
theorem eqlaw61 : ∀ a b : List Int, a.length = [IntKind.i64, IntKind.u32, IntKind.u32].length → b.length = ([.i64, .u32, .u32] : List IntKind).length → eqv Tryz.prog 10000 61 (.agg (zipK [.i64, .u32, .u32] a).toArray) (.agg (zipK [.i64, .u32, .u32] b).toArray) = some (decide (a = b))
  | [a0, a1, a2], [b0, b1, b2], _, _ => by
    have h48 : Tryz.prog.cellsOf 48 = 2 := by kernel_rfl
    simp [eqv, eqvFields, partV, zipK, h48]
    try (rw [Bool.eq_iff_iff]; simp; try omega)
theorem ckeq61 : ∀ a : List Int, a.length = ([.i64, .u32, .u32] : List IntKind).length → ckv Tryz.prog 10000 61 (.agg (zipK [.i64, .u32, .u32] a).toArray) = true
  | [a0, a1, a2], _ => by
    have h48 : Tryz.prog.cellsOf 48 = 2 := by kernel_rfl
    simp [ckv, ckvF, partV, zipK, h48]
theorem eqlaw102 : ∀ a b : List Int, a.length = [IntKind.u32, IntKind.i64].length → b.length = ([.u32, .i64] : List IntKind).length → eqv Tryz.prog 10000 102 (.agg (zipK [.u32, .i64] a).toArray) (.agg (zipK [.u32, .i64] b).toArray) = some (decide (a = b))
  | [a0, a1], [b0, b1], _, _ => by
    simp [eqv, eqvFields, partV, zipK]
    try (rw [Bool.eq_iff_iff]; simp; try omega)
theorem ckeq102 : ∀ a : List Int, a.length = ([.u32, .i64] : List IntKind).length → ckv Tryz.prog 10000 102 (.agg (zipK [.u32, .i64] a).toArray) = true
  | [a0, a1], _ => by
    simp [ckv, ckvF, partV, zipK]
theorem shLaw : ∀ t s, shOf t = some s → ∃ kt et d, Tryz.prog.underlying t = some (.map kt et) ∧ Tryz.prog.underlying kt = some d ∧ KeyLaw Tryz.prog kt s.enc := by
  intro t s h
  by_cases h125 : t = 125
  · subst h125
    cases (show some (.int .u32) = some s from h)
    exact KeyLaw.ex Tryz.underlying125 Tryz.underlying45 (law_int Tryz.underlying45)
  by_cases h166 : t = 166
  · subst h166
    cases (show some (.int .i64) = some s from h)
    exact KeyLaw.ex Tryz.underlying166 Tryz.underlying3 (law_int Tryz.underlying3)
  by_cases h167 : t = 167
  · subst h167
    cases (show some (.int .i64) = some s from h)
    exact KeyLaw.ex Tryz.underlying167 Tryz.underlying3 (law_int Tryz.underlying3)
  by_cases h174 : t = 174
  · subst h174
    cases (show some (.agg [.i64, .u32, .u32]) = some s from h)
    exact KeyLaw.ex Tryz.underlying174 Tryz.underlying161 (law_agg Tryz.underlying161 eqlaw161 ckeq161)
  by_cases h224 : t = 224
  · subst h224
    cases (show some (.agg [.u32, .u32]) = some s from h)
    exact KeyLaw.ex Tryz.underlying224 Tryz.underlying48 (law_agg Tryz.underlying48 eqlaw48 ckeq48)
  exfalso
  unfold shOf at h
  rw [show Nat.beq t 125 = false from by cases e : Nat.beq t 125 with | false => rfl | true => exact absurd (Nat.eq_of_beq_eq_true e) h125] at h
  simp only [cond_false] at h
  rw [show Nat.beq t 166 = false from by cases e : Nat.beq t 166 with | false => rfl | true => exact absurd (Nat.eq_of_beq_eq_true e) h166] at h
  simp only [cond_false] at h
  rw [show Nat.beq t 167 = false from by cases e : Nat.beq t 167 with | false => rfl | true => exact absurd (Nat.eq_of_beq_eq_true e) h167] at h
  simp only [cond_false] at h
  rw [show Nat.beq t 174 = false from by cases e : Nat.beq t 174 with | false => rfl | true => exact absurd (Nat.eq_of_beq_eq_true e) h174] at h
  simp only [cond_false] at h
  rw [show Nat.beq t 224 = false from by cases e : Nat.beq t 224 with | false => rfl | true => exact absurd (Nat.eq_of_beq_eq_true e) h224] at h
  simp only [cond_false] at h
  cases h
theorem eqLaw : ∀ t ks, eqOf t = some ks → Tryz.prog.eqGuardType Tryz.prog.depth t = false ∧ ∀ a b : List Int, a.length = ks.length → b.length = ks.length → eqv Tryz.prog 10000 t (.agg (zipK ks a).toArray) (.agg (zipK ks b).toArray) = some (decide (a = b)) := by
  intro t ks h
  by_cases h48 : t = 48
  · subst h48
    cases (show some [IntKind.u32, IntKind.u32] = some ks from h)
    exact ⟨by kernel_rfl, eqlaw48⟩
  by_cases h61 : t = 61
  · subst h61
    cases (show some [IntKind.i64, IntKind.u32, IntKind.u32] = some ks from h)
    exact ⟨by kernel_rfl, eqlaw61⟩
  by_cases h102 : t = 102
  · subst h102
    cases (show some [IntKind.u32, IntKind.i64] = some ks from h)
    exact ⟨by kernel_rfl, eqlaw102⟩
  exfalso
  unfold eqOf at h
  rw [show Nat.beq t 48 = false from by cases e : Nat.beq t 48 with | false => rfl | true => exact absurd (Nat.eq_of_beq_eq_true e) h48] at h
  simp only [cond_false] at h
  rw [show Nat.beq t 61 = false from by cases e : Nat.beq t 61 with | false => rfl | true => exact absurd (Nat.eq_of_beq_eq_true e) h61] at h
  simp only [cond_false] at h
  rw [show Nat.beq t 102 = false from by cases e : Nat.beq t 102 with | false => rfl | true => exact absurd (Nat.eq_of_beq_eq_true e) h102] at h
  simp only [cond_false] at h
  cases h
def kn (ξ : Nat → Value) : Kn Tryz.prog := { ξ := ξ, sh := shOf, law := shLaw, eqs := eqOf, eqlaw := eqLaw }
end Go.Proofs.YtfbjgbecabbdnaaGreatDoor
