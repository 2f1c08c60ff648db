import Derived.Test.YtfbjgbecabbdnaaGreatDoorFl18
import Derived.Test.YtfbjgbecabbdnaaGreatDoorProg
/- Functions, told short. -/
set_option linter.unusedVariables false
set_option maxRecDepth 100000
namespace Go.Proofs.YtfbjgbecabbdnaaGreatDoor
open Sl Ce
/-- slices.partitionOrdered[int] -/
noncomputable def c283 : CFn := ⟨168, (.c (.seq (.reg 0 false [] [.r q8 (.asg (.c (.i .i64 (.ofNat 0)))) false, .r q9 (.asg (.c (.b false))) false] none) (.seq (.reg 1 true [0, 1, 2, 3, 4, 5, 6, 7, 8, 9, 10, 11, 12, 13, 14, 15] [.r q12 (.mv t0) true, .r q13 (.mv t1) true, .r q14 (.mv t0) true, .r q15 (.mv t3) true, .r q16 (.mv t0) true, .r q17 (.mv t3) true, .r q18 (.ix 38 t16 t17 3 1) true, .r q19 (.ld 3 t18) true, .r q20 (.mv t0) true, .r q21 (.mv t1) true, .r q22 (.ix 38 t20 t21 3 1) true, .r q23 (.ld 3 t22) true, .r q24 (.ix 38 t12 t13 3 1) true, .a none (.st 3 t24 t19) false, .r q25 (.ix 38 t14 t15 3 1) true, .a none (.st 3 t25 t23) false] none) (.seq (.reg 2 false [] [.r q26 (.mv t1) false, .r q27 (.bin .add 3 t26 (.c (.i .i64 (.ofNat 1))) 3) false, .r q28 (.mv t2) false, .r q29 (.bin .sub 3 t28 (.c (.i .i64 (.ofNat 1))) 3) false, .r q10 (.asg t27) false, .r q11 (.asg t29) false] none) (.seq (.block 0 (.loop (.seq (.seq (.reg 3 true [0, 1, 2, 3, 4, 5, 6, 7, 8, 9, 10, 11, 12, 13] [.r q30 (.mv t10) true, .r q31 (.mv t11) true, .r q32 (.bin .leq 3 t30 t31 3) true, .r q33 (.mv t32) true, .gd q33 true (.r q34 (.mv t0) true), .gd q33 true (.r q35 (.mv t10) true), .gd q33 true (.r q36 (.ix 38 t34 t35 3 1) true), .gd q33 true (.r q37 (.ld 3 t36) true), .gd q33 true (.r q38 (.mv t0) true), .gd q33 true (.r q39 (.mv t1) true), .gd q33 true (.r q40 (.ix 38 t38 t39 3 1) true), .gd q33 true (.r q41 (.ld 3 t40) true), .gd q33 true (.cl (some q42) (.o (.i (.o (.i (.i (.o (.o (.o .h)))))))) [t37, t41] [3, 3] false), .r q43 (.pick t33 t42 (.c (.b false))) true] none) (.cond t43 .skip (.exit 0))) (.block 1 (.reg 4 false [] [.r q44 (.mv t10) false, .r q45 (.bin .add 3 t44 (.c (.i .i64 (.ofNat 1))) 3) false, .r q10 (.asg t45) false] none))))) (.seq (.block 2 (.loop (.seq (.seq (.reg 5 true [0, 1, 2, 3, 4, 5, 6, 7, 8, 9, 10, 11, 12, 13, 14] [.r q46 (.mv t10) true, .r q47 (.mv t11) true, .r q48 (.bin .leq 3 t46 t47 3) true, .r q49 (.mv t48) true, .gd q49 true (.r q50 (.mv t0) true), .gd q49 true (.r q51 (.mv t11) true), .gd q49 true (.r q52 (.ix 38 t50 t51 3 1) true), .gd q49 true (.r q53 (.ld 3 t52) true), .gd q49 true (.r q54 (.mv t0) true), .gd q49 true (.r q55 (.mv t1) true), .gd q49 true (.r q56 (.ix 38 t54 t55 3 1) true), .gd q49 true (.r q57 (.ld 3 t56) true), .gd q49 true (.cl (some q58) (.o (.i (.o (.i (.i (.o (.o (.o .h)))))))) [t53, t57] [3, 3] false), .gd q49 true (.r q59 (.not 4 t58) true), .r q60 (.pick t49 t59 (.c (.b false))) true] none) (.cond t60 .skip (.exit 2))) (.block 3 (.reg 6 false [] [.r q61 (.mv t11) false, .r q62 (.bin .sub 3 t61 (.c (.i .i64 (.ofNat 1))) 3) false, .r q11 (.asg t62) false] none))))) (.seq (.seq (.reg 7 false [] [.r q63 (.mv t10) false, .r q64 (.mv t11) false, .r q65 (.bin .gtr 3 t63 t64 3) false] none) (.cond t65 (.seq (.reg 8 true [0, 1, 2, 3, 4, 5, 6, 7, 8, 9, 10, 11, 12, 13, 14, 15] [.r q66 (.mv t0) true, .r q67 (.mv t11) true, .r q68 (.mv t0) true, .r q69 (.mv t1) true, .r q70 (.mv t0) true, .r q71 (.mv t1) true, .r q72 (.ix 38 t70 t71 3 1) true, .r q73 (.ld 3 t72) true, .r q74 (.mv t0) true, .r q75 (.mv t11) true, .r q76 (.ix 38 t74 t75 3 1) true, .r q77 (.ld 3 t76) true, .r q78 (.ix 38 t66 t67 3 1) true, .a none (.st 3 t78 t73) false, .r q79 (.ix 38 t68 t69 3 1) true, .a none (.st 3 t79 t77) false] none) (.seq (.reg 9 false [] [.r q80 (.mv t11) false, .r q8 (.asg t80) false, .r q9 (.asg (.c (.b true))) false] none) .ret)) .skip)) (.seq (.reg 10 true [0, 1, 2, 3, 4, 5, 6, 7, 8, 9, 10, 11, 12, 13, 14, 15] [.r q81 (.mv t0) true, .r q82 (.mv t10) true, .r q83 (.mv t0) true, .r q84 (.mv t11) true, .r q85 (.mv t0) true, .r q86 (.mv t11) true, .r q87 (.ix 38 t85 t86 3 1) true, .r q88 (.ld 3 t87) true, .r q89 (.mv t0) true, .r q90 (.mv t10) true, .r q91 (.ix 38 t89 t90 3 1) true, .r q92 (.ld 3 t91) true, .r q93 (.ix 38 t81 t82 3 1) true, .a none (.st 3 t93 t88) false, .r q94 (.ix 38 t83 t84 3 1) true, .a none (.st 3 t94 t92) false] none) (.seq (.reg 11 false [] [.r q95 (.mv t10) false, .r q96 (.bin .add 3 t95 (.c (.i .i64 (.ofNat 1))) 3) false, .r q10 (.asg t96) false] none) (.seq (.reg 12 false [] [.r q97 (.mv t11) false, .r q98 (.bin .sub 3 t97 (.c (.i .i64 (.ofNat 1))) 3) false, .r q11 (.asg t98) false] none) (.seq (.block 4 (.loop (.block 5 (.seq (.block 6 (.loop (.seq (.seq (.reg 13 true [0, 1, 2, 3, 4, 5, 6, 7, 8, 9, 10, 11, 12, 13] [.r q99 (.mv t10) true, .r q100 (.mv t11) true, .r q101 (.bin .leq 3 t99 t100 3) true, .r q102 (.mv t101) true, .gd q102 true (.r q103 (.mv t0) true), .gd q102 true (.r q104 (.mv t10) true), .gd q102 true (.r q105 (.ix 38 t103 t104 3 1) true), .gd q102 true (.r q106 (.ld 3 t105) true), .gd q102 true (.r q107 (.mv t0) true), .gd q102 true (.r q108 (.mv t1) true), .gd q102 true (.r q109 (.ix 38 t107 t108 3 1) true), .gd q102 true (.r q110 (.ld 3 t109) true), .gd q102 true (.cl (some q111) (.o (.i (.o (.i (.i (.o (.o (.o .h)))))))) [t106, t110] [3, 3] false), .r q112 (.pick t102 t111 (.c (.b false))) true] none) (.cond t112 .skip (.exit 6))) (.block 7 (.reg 14 false [] [.r q113 (.mv t10) false, .r q114 (.bin .add 3 t113 (.c (.i .i64 (.ofNat 1))) 3) false, .r q10 (.asg t114) false] none))))) (.seq (.block 8 (.loop (.seq (.seq (.reg 15 true [0, 1, 2, 3, 4, 5, 6, 7, 8, 9, 10, 11, 12, 13, 14] [.r q115 (.mv t10) true, .r q116 (.mv t11) true, .r q117 (.bin .leq 3 t115 t116 3) true, .r q118 (.mv t117) true, .gd q118 true (.r q119 (.mv t0) true), .gd q118 true (.r q120 (.mv t11) true), .gd q118 true (.r q121 (.ix 38 t119 t120 3 1) true), .gd q118 true (.r q122 (.ld 3 t121) true), .gd q118 true (.r q123 (.mv t0) true), .gd q118 true (.r q124 (.mv t1) true), .gd q118 true (.r q125 (.ix 38 t123 t124 3 1) true), .gd q118 true (.r q126 (.ld 3 t125) true), .gd q118 true (.cl (some q127) (.o (.i (.o (.i (.i (.o (.o (.o .h)))))))) [t122, t126] [3, 3] false), .gd q118 true (.r q128 (.not 4 t127) true), .r q129 (.pick t118 t128 (.c (.b false))) true] none) (.cond t129 .skip (.exit 8))) (.block 9 (.reg 16 false [] [.r q130 (.mv t11) false, .r q131 (.bin .sub 3 t130 (.c (.i .i64 (.ofNat 1))) 3) false, .r q11 (.asg t131) false] none))))) (.seq (.seq (.reg 17 false [] [.r q132 (.mv t10) false, .r q133 (.mv t11) false, .r q134 (.bin .gtr 3 t132 t133 3) false] none) (.cond t134 (.exit 4) .skip)) (.seq (.reg 18 true [0, 1, 2, 3, 4, 5, 6, 7, 8, 9, 10, 11, 12, 13, 14, 15] [.r q135 (.mv t0) true, .r q136 (.mv t10) true, .r q137 (.mv t0) true, .r q138 (.mv t11) true, .r q139 (.mv t0) true, .r q140 (.mv t11) true, .r q141 (.ix 38 t139 t140 3 1) true, .r q142 (.ld 3 t141) true, .r q143 (.mv t0) true, .r q144 (.mv t10) true, .r q145 (.ix 38 t143 t144 3 1) true, .r q146 (.ld 3 t145) true, .r q147 (.ix 38 t135 t136 3 1) true, .a none (.st 3 t147 t142) false, .r q148 (.ix 38 t137 t138 3 1) true, .a none (.st 3 t148 t146) false] none) (.seq (.reg 19 false [] [.r q149 (.mv t10) false, .r q150 (.bin .add 3 t149 (.c (.i .i64 (.ofNat 1))) 3) false, .r q10 (.asg t150) false] none) (.reg 20 false [] [.r q151 (.mv t11) false, .r q152 (.bin .sub 3 t151 (.c (.i .i64 (.ofNat 1))) 3) false, .r q11 (.asg t152) false] none))))))))) (.seq (.reg 21 true [0, 1, 2, 3, 4, 5, 6, 7, 8, 9, 10, 11, 12, 13, 14, 15] [.r q153 (.mv t0) true, .r q154 (.mv t11) true, .r q155 (.mv t0) true, .r q156 (.mv t1) true, .r q157 (.mv t0) true, .r q158 (.mv t1) true, .r q159 (.ix 38 t157 t158 3 1) true, .r q160 (.ld 3 t159) true, .r q161 (.mv t0) true, .r q162 (.mv t11) true, .r q163 (.ix 38 t161 t162 3 1) true, .r q164 (.ld 3 t163) true, .r q165 (.ix 38 t153 t154 3 1) true, .a none (.st 3 t165 t160) false, .r q166 (.ix 38 t155 t156 3 1) true, .a none (.st 3 t166 t164) false] none) (.seq (.reg 22 false [] [.r q167 (.mv t11) false, .r q8 (.asg t167) false, .r q9 (.asg (.c (.b false))) false] none) .ret))))))))))))), [.t q8, .t q9]⟩
theorem fit283 (ξ : Nat → Value) : FnFit (kn ξ) (.o (.o (.i (.i (.i (.o (.o (.o .h)))))))) c283 := ⟨by kernel_rfl, by kernel_rfl, by kernel_rfl, by kernel_rfl⟩
/-- slices.order2CmpFunc[rivulet/api.Key] -/
noncomputable def c286 : CFn := ⟨32, (.c (.seq (.reg 0 false [] [.r q10 (.asg (.c (.i .i64 (.ofNat 0)))) false, .r q11 (.asg (.c (.i .i64 (.ofNat 0)))) false] none) (.seq (.seq (.reg 1 true [0, 1, 2, 3, 4, 5, 6, 7, 8, 9, 10] [.r q12 (.mv t4) true, .r q13 (.mv t0) true, .r q14 (.mv t2) true, .r q15 (.ix 132 t13 t14 48 2) true, .r q16 (.ldN 48 t15 2) true, .r q17 (.mv t0) true, .r q18 (.mv t1) true, .r q19 (.ix 132 t17 t18 48 2) true, .r q20 (.ldN 48 t19 2) true, .cv (some q21) t12 [t16, t20] [48, 48] false, .r q22 (.bin .lss 3 t21 (.c (.i .i64 (.ofNat 0))) 3) true] none) (.cond t22 (.seq (.reg 2 false [] [.r q23 (.mv t3) false, .r q24 (.nilc t23) false, .r q25 (.ld 3 t24) false, .r q26 (.bin .add 3 t25 (.c (.i .i64 (.ofNat 1))) 3) false, .r q27 (.nilc t23) false, .a none (.st 3 t27 t26) false] none) (.seq (.reg 3 false [] [.r q28 (.mv t2) false, .r q29 (.mv t1) false, .r q10 (.asg t28) false, .r q11 (.asg t29) false] none) .ret)) .skip)) (.seq (.reg 4 false [] [.r q30 (.mv t1) false, .r q31 (.mv t2) false, .r q10 (.asg t30) false, .r q11 (.asg t31) false] none) .ret)))), [.t q10, .t q11]⟩
theorem fit286 (ξ : Nat → Value) : FnFit (kn ξ) (.i (.i (.i (.i (.i (.o (.o (.o .h)))))))) c286 := ⟨by kernel_rfl, by kernel_rfl, by kernel_rfl, by kernel_rfl⟩
/-- slices.siftDownOrdered[int] -/
noncomputable def c287 : CFn := ⟨76, (.c (.seq (.reg 0 false [] [.r q10 (.mv t1) false, .r q8 (.asg t10) false] none) (.block 0 (.loop (.block 1 (.seq (.reg 1 false [] [.r q11 (.mv t8) false, .r q12 (.bin .mul 3 (.c (.i .i64 (.ofNat 2))) t11 3) false, .r q13 (.bin .add 3 t12 (.c (.i .i64 (.ofNat 1))) 3) false, .r q9 (.asg t13) false] none) (.seq (.seq (.reg 2 false [] [.r q14 (.mv t9) false, .r q15 (.mv t2) false, .r q16 (.bin .geq 3 t14 t15 3) false] none) (.cond t16 (.exit 0) .skip)) (.seq (.seq (.reg 3 true [0, 1, 2, 3, 4, 5, 6, 7, 8, 9, 10, 11, 12, 13, 14, 15, 16, 17, 18, 19] [.r q17 (.mv t9) true, .r q18 (.bin .add 3 t17 (.c (.i .i64 (.ofNat 1))) 3) true, .r q19 (.mv t2) true, .r q20 (.bin .lss 3 t18 t19 3) true, .r q21 (.mv t20) true, .gd q21 true (.r q22 (.mv t0) true), .gd q21 true (.r q23 (.mv t3) true), .gd q21 true (.r q24 (.mv t9) true), .gd q21 true (.r q25 (.bin .add 3 t23 t24 3) true), .gd q21 true (.r q26 (.ix 38 t22 t25 3 1) true), .gd q21 true (.r q27 (.ld 3 t26) true), .gd q21 true (.r q28 (.mv t0) true), .gd q21 true (.r q29 (.mv t3) true), .gd q21 true (.r q30 (.mv t9) true), .gd q21 true (.r q31 (.bin .add 3 t29 t30 3) true), .gd q21 true (.r q32 (.bin .add 3 t31 (.c (.i .i64 (.ofNat 1))) 3) true), .gd q21 true (.r q33 (.ix 38 t28 t32 3 1) true), .gd q21 true (.r q34 (.ld 3 t33) true), .gd q21 true (.cl (some q35) (.o (.i (.o (.i (.i (.o (.o (.o .h)))))))) [t27, t34] [3, 3] false), .r q36 (.pick t21 t35 (.c (.b false))) true] none) (.cond t36 (.reg 4 false [] [.r q37 (.mv t9) false, .r q38 (.bin .add 3 t37 (.c (.i .i64 (.ofNat 1))) 3) false, .r q9 (.asg t38) false] none) .skip)) (.seq (.seq (.reg 5 true [0, 1, 2, 3, 4, 5, 6, 7, 8, 9, 10, 11, 12, 13] [.r q39 (.mv t0) true, .r q40 (.mv t3) true, .r q41 (.mv t8) true, .r q42 (.bin .add 3 t40 t41 3) true, .r q43 (.ix 38 t39 t42 3 1) true, .r q44 (.ld 3 t43) true, .r q45 (.mv t0) true, .r q46 (.mv t3) true, .r q47 (.mv t9) true, .r q48 (.bin .add 3 t46 t47 3) true, .r q49 (.ix 38 t45 t48 3 1) true, .r q50 (.ld 3 t49) true, .cl (some q51) (.o (.i (.o (.i (.i (.o (.o (.o .h)))))))) [t44, t50] [3, 3] false, .r q52 (.not 4 t51) true] none) (.cond t52 .ret .skip)) (.seq (.reg 6 true [0, 1, 2, 3, 4, 5, 6, 7, 8, 9, 10, 11, 12, 13, 14, 15, 16, 17, 18, 19, 20, 21, 22, 23] [.r q53 (.mv t0) true, .r q54 (.mv t3) true, .r q55 (.mv t8) true, .r q56 (.bin .add 3 t54 t55 3) true, .r q57 (.mv t0) true, .r q58 (.mv t3) true, .r q59 (.mv t9) true, .r q60 (.bin .add 3 t58 t59 3) true, .r q61 (.mv t0) true, .r q62 (.mv t3) true, .r q63 (.mv t9) true, .r q64 (.bin .add 3 t62 t63 3) true, .r q65 (.ix 38 t61 t64 3 1) true, .r q66 (.ld 3 t65) true, .r q67 (.mv t0) true, .r q68 (.mv t3) true, .r q69 (.mv t8) true, .r q70 (.bin .add 3 t68 t69 3) true, .r q71 (.ix 38 t67 t70 3 1) true, .r q72 (.ld 3 t71) true, .r q73 (.ix 38 t53 t56 3 1) true, .a none (.st 3 t73 t66) false, .r q74 (.ix 38 t57 t60 3 1) true, .a none (.st 3 t74 t72) false] none) (.reg 7 false [] [.r q75 (.mv t9) false, .r q8 (.asg t75) false] none))))))))))), []⟩
theorem fit287 (ξ : Nat → Value) : FnFit (kn ξ) (.o (.o (.o (.o (.o (.i (.o (.o .h)))))))) c287 := ⟨by kernel_rfl, by kernel_rfl, by kernel_rfl, by kernel_rfl⟩
/-- slices.medianAdjacentOrdered[int] -/
noncomputable def c288 : CFn := ⟨15, (.c (.seq (.reg 0 false [] [.r q6 (.asg (.c (.i .i64 (.ofNat 0)))) false] none) (.seq (.reg 1 false [] [.r q7 (.mv t0) false, .r q8 (.mv t1) false, .r q9 (.bin .sub 3 t8 (.c (.i .i64 (.ofNat 1))) 3) false, .r q10 (.mv t1) false, .r q11 (.mv t1) false, .r q12 (.bin .add 3 t11 (.c (.i .i64 (.ofNat 1))) 3) false, .r q13 (.mv t2) false, .cl (some q14) (.o (.i (.o (.o (.o (.i (.o (.o .h)))))))) [t7, t9, t10, t12, t13] [38, 3, 3, 3, 321] false, .r q6 (.asg t14) false] none) .ret))), [.t q6]⟩
theorem fit288 (ξ : Nat → Value) : FnFit (kn ξ) (.i (.o (.o (.o (.o (.i (.o (.o .h)))))))) c288 := ⟨by kernel_rfl, by kernel_rfl, by kernel_rfl, by kernel_rfl⟩
/-- slices.medianOrdered[int] -/
noncomputable def c289 : CFn := ⟨36, (.c (.seq (.reg 0 false [] [.r q10 (.asg (.c (.i .i64 (.ofNat 0)))) false] none) (.seq (.reg 1 false [] [.r q12 (.mv t0) false, .r q13 (.mv t1) false, .r q14 (.mv t2) false, .r q15 (.mv t4) false, .cl (some q16) (.i (.i (.o (.o (.o (.i (.o (.o .h)))))))) [t12, t13, t14, t15] [38, 3, 3, 321] false, .r q11 (.mv t16) false, .r q17 (.ext t11 0) false, .r q18 (.ext t11 1) false, .r q1 (.asg t17) false, .r q2 (.asg t18) false] none) (.seq (.reg 2 false [] [.r q20 (.mv t0) false, .r q21 (.mv t2) false, .r q22 (.mv t3) false, .r q23 (.mv t4) false, .cl (some q24) (.i (.i (.o (.o (.o (.i (.o (.o .h)))))))) [t20, t21, t22, t23] [38, 3, 3, 321] false, .r q19 (.mv t24) false, .r q25 (.ext t19 0) false, .r q26 (.ext t19 1) false, .r q2 (.asg t25) false, .r q3 (.asg t26) false] none) (.seq (.reg 3 false [] [.r q28 (.mv t0) false, .r q29 (.mv t1) false, .r q30 (.mv t2) false, .r q31 (.mv t4) false, .cl (some q32) (.i (.i (.o (.o (.o (.i (.o (.o .h)))))))) [t28, t29, t30, t31] [38, 3, 3, 321] false, .r q27 (.mv t32) false, .r q33 (.ext t27 0) false, .r q34 (.ext t27 1) false, .r q1 (.asg t33) false, .r q2 (.asg t34) false] none) (.seq (.reg 4 false [] [.r q35 (.mv t2) false, .r q10 (.asg t35) false] none) .ret)))))), [.t q10]⟩
theorem fit289 (ξ : Nat → Value) : FnFit (kn ξ) (.o (.i (.o (.o (.o (.i (.o (.o .h)))))))) c289 := ⟨by kernel_rfl, by kernel_rfl, by kernel_rfl, by kernel_rfl⟩
/-- slices.order2Ordered[int] -/
noncomputable def c290 : CFn := ⟨28, (.c (.seq (.reg 0 false [] [.r q8 (.asg (.c (.i .i64 (.ofNat 0)))) false, .r q9 (.asg (.c (.i .i64 (.ofNat 0)))) false] none) (.seq (.seq (.reg 1 true [0, 1, 2, 3, 4, 5, 6, 7, 8] [.r q10 (.mv t0) true, .r q11 (.mv t2) true, .r q12 (.ix 38 t10 t11 3 1) true, .r q13 (.ld 3 t12) true, .r q14 (.mv t0) true, .r q15 (.mv t1) true, .r q16 (.ix 38 t14 t15 3 1) true, .r q17 (.ld 3 t16) true, .cl (some q18) (.o (.i (.o (.i (.i (.o (.o (.o .h)))))))) [t13, t17] [3, 3] false] none) (.cond t18 (.seq (.reg 2 false [] [.r q19 (.mv t3) false, .r q20 (.nilc t19) false, .r q21 (.ld 3 t20) false, .r q22 (.bin .add 3 t21 (.c (.i .i64 (.ofNat 1))) 3) false, .r q23 (.nilc t19) false, .a none (.st 3 t23 t22) false] none) (.seq (.reg 3 false [] [.r q24 (.mv t2) false, .r q25 (.mv t1) false, .r q8 (.asg t24) false, .r q9 (.asg t25) false] none) .ret)) .skip)) (.seq (.reg 4 false [] [.r q26 (.mv t1) false, .r q27 (.mv t2) false, .r q8 (.asg t26) false, .r q9 (.asg t27) false] none) .ret)))), [.t q8, .t q9]⟩
theorem fit290 (ξ : Nat → Value) : FnFit (kn ξ) (.i (.i (.o (.o (.o (.i (.o (.o .h)))))))) c290 := ⟨by kernel_rfl, by kernel_rfl, by kernel_rfl, by kernel_rfl⟩
end Go.Proofs.YtfbjgbecabbdnaaGreatDoor

/- The table of functions. -/
set_option linter.unusedVariables false
set_option maxRecDepth 100000
namespace Go.Proofs.YtfbjgbecabbdnaaGreatDoor
open Sl Ce
noncomputable def tab : CG := (.n none (.n none (.n none (.n none (.n (some c15) (.n none (.n none (.n (some c127) .e .e) (.n (some c191) .e .e)) (.n (some c95) (.n (some c159) (.n (some c287) .e .e) .e) .e)) (.n (some c47) (.n (some c79) (.n (some c143) (.n (some c271) .e .e) .e) (.n (some c207) .e .e)) (.n (some c111) (.n (some c175) .e .e) .e))) (.n (some c23) (.n (some c39) (.n none .e (.n (some c199) .e .e)) (.n (some c103) (.n (some c167) .e .e) (.n (some c231) .e .e))) (.n none (.n (some c87) (.n (some c151) (.n (some c279) .e .e) .e) (.n (some c215) .e .e)) (.n (some c119) (.n (some c183) .e .e) (.n (some c247) .e .e))))) (.n none (.n (some c19) (.n none (.n (some c67) (.n (some c131) (.n (some c259) .e .e) .e) .e) (.n (some c99) (.n (some c163) .e .e) (.n (some c227) .e .e))) (.n (some c51) (.n none (.n (some c147) (.n (some c275) .e .e) .e) (.n (some c211) .e .e)) (.n none (.n (some c179) .e .e) .e))) (.n none (.n none (.n (some c75) (.n (some c139) .e .e) (.n (some c203) .e .e)) (.n none (.n (some c171) .e .e) (.n (some c235) .e .e))) (.n none (.n (some c91) (.n (some c155) (.n (some c283) .e .e) .e) .e) (.n (some c123) (.n (some c187) .e .e) (.n (some c251) .e .e)))))) (.n none (.n (some c9) (.n (some c17) (.n (some c33) (.n none (.n (some c129) .e .e) (.n (some c193) .e .e)) (.n (some c97) (.n (some c161) (.n (some c289) .e .e) .e) .e)) (.n (some c49) (.n none (.n (some c145) (.n (some c273) .e .e) .e) (.n (some c209) .e .e)) .e)) (.n none (.n (some c41) (.n (some c73) (.n (some c137) .e .e) (.n (some c201) .e .e)) (.n (some c105) (.n (some c169) .e .e) (.n (some c233) .e .e))) (.n none (.n (some c89) (.n (some c153) (.n (some c281) .e .e) .e) (.n (some c217) .e .e)) (.n (some c121) (.n (some c185) .e .e) (.n (some c249) .e .e))))) (.n none (.n (some c21) (.n (some c37) (.n none (.n (some c133) (.n (some c261) .e .e) .e) .e) (.n (some c101) (.n (some c165) .e .e) (.n (some c229) .e .e))) (.n (some c53) (.n (some c85) (.n (some c149) (.n (some c277) .e .e) .e) (.n (some c213) .e .e)) (.n (some c117) (.n (some c181) .e .e) (.n (some c245) .e .e)))) (.n none (.n (some c45) (.n (some c77) (.n (some c141) (.n (some c269) .e .e) .e) (.n (some c205) .e .e)) (.n (some c109) (.n (some c173) .e .e) (.n (some c237) .e .e))) (.n none (.n (some c93) (.n (some c157) .e .e) .e) (.n (some c125) (.n (some c189) .e .e) (.n (some c253) .e .e))))))) (.n none (.n none (.n none (.n (some c16) (.n none (.n (some c64) (.n (some c128) .e .e) (.n (some c192) .e .e)) (.n (some c96) (.n (some c160) (.n (some c288) .e .e) .e) .e)) (.n (some c48) (.n (some c80) (.n (some c144) .e .e) (.n (some c208) .e .e)) (.n none (.n (some c176) .e .e) .e))) (.n none (.n (some c40) (.n (some c72) .e (.n (some c200) .e .e)) (.n (some c104) (.n (some c168) .e .e) (.n (some c232) .e .e))) (.n none (.n (some c88) (.n (some c152) (.n (some c280) .e .e) .e) (.n (some c216) .e .e)) (.n (some c120) (.n (some c184) .e .e) (.n (some c248) .e .e))))) (.n none (.n (some c20) (.n (some c36) (.n none (.n (some c132) (.n (some c260) .e .e) .e) .e) (.n (some c100) (.n (some c164) .e .e) (.n (some c228) .e .e))) (.n (some c52) (.n none (.n (some c148) (.n (some c276) .e .e) .e) (.n (some c212) .e .e)) (.n none (.n (some c180) .e .e) .e))) (.n (some c28) (.n none (.n (some c76) (.n (some c140) .e .e) (.n (some c204) .e .e)) (.n none (.n (some c172) .e .e) (.n (some c236) .e .e))) (.n none (.n (some c92) (.n (some c156) .e .e) .e) (.n (some c124) (.n (some c188) .e .e) (.n (some c252) .e .e)))))) (.n none (.n (some c10) (.n none (.n none (.n none (.n (some c130) (.n (some c258) .e .e) .e) (.n (some c194) .e .e)) (.n (some c98) (.n (some c162) (.n (some c290) .e .e) .e) (.n (some c226) .e .e))) (.n (some c50) (.n none (.n (some c146) (.n (some c274) .e .e) .e) (.n (some c210) .e .e)) .e)) (.n (some c26) (.n (some c42) (.n (some c74) (.n (some c138) .e .e) (.n (some c202) .e .e)) (.n none (.n (some c170) .e .e) (.n (some c234) .e .e))) (.n none (.n (some c90) (.n (some c154) (.n (some c282) .e .e) .e) .e) (.n (some c122) (.n (some c186) .e .e) (.n (some c250) .e .e))))) (.n (some c14) (.n none (.n (some c38) (.n (some c70) (.n (some c134) (.n (some c262) .e .e) .e) .e) (.n none (.n (some c166) .e .e) (.n (some c230) .e .e))) (.n (some c54) (.n (some c86) (.n (some c150) (.n (some c278) .e .e) .e) (.n (some c214) .e .e)) (.n (some c118) (.n (some c182) .e .e) (.n (some c246) .e .e)))) (.n none (.n (some c46) (.n (some c78) (.n (some c142) (.n (some c270) .e .e) .e) (.n (some c206) .e .e)) (.n none (.n (some c174) .e .e) (.n (some c238) .e .e))) (.n none (.n (some c94) (.n (some c158) (.n (some c286) .e .e) .e) .e) (.n (some c126) (.n (some c190) .e .e) (.n (some c254) .e .e))))))))
theorem tab_fit (ξ : Nat → Value) : GFit (kn ξ) tab := allF_fit (AllF.n (AllF.no) (AllF.n (AllF.no) (AllF.n (AllF.no) (AllF.n (AllF.no) (AllF.n (AllF.v (fit15 ξ)) (AllF.n (AllF.no) (AllF.n (AllF.no) (AllF.n (AllF.v (fit127 ξ)) AllF.e AllF.e) (AllF.n (AllF.v (fit191 ξ)) AllF.e AllF.e)) (AllF.n (AllF.v (fit95 ξ)) (AllF.n (AllF.v (fit159 ξ)) (AllF.n (AllF.v (fit287 ξ)) AllF.e AllF.e) AllF.e) AllF.e)) (AllF.n (AllF.v (fit47 ξ)) (AllF.n (AllF.v (fit79 ξ)) (AllF.n (AllF.v (fit143 ξ)) (AllF.n (AllF.v (fit271 ξ)) AllF.e AllF.e) AllF.e) (AllF.n (AllF.v (fit207 ξ)) AllF.e AllF.e)) (AllF.n (AllF.v (fit111 ξ)) (AllF.n (AllF.v (fit175 ξ)) AllF.e AllF.e) AllF.e))) (AllF.n (AllF.v (fit23 ξ)) (AllF.n (AllF.v (fit39 ξ)) (AllF.n (AllF.no) AllF.e (AllF.n (AllF.v (fit199 ξ)) AllF.e AllF.e)) (AllF.n (AllF.v (fit103 ξ)) (AllF.n (AllF.v (fit167 ξ)) AllF.e AllF.e) (AllF.n (AllF.v (fit231 ξ)) AllF.e AllF.e))) (AllF.n (AllF.no) (AllF.n (AllF.v (fit87 ξ)) (AllF.n (AllF.v (fit151 ξ)) (AllF.n (AllF.v (fit279 ξ)) AllF.e AllF.e) AllF.e) (AllF.n (AllF.v (fit215 ξ)) AllF.e AllF.e)) (AllF.n (AllF.v (fit119 ξ)) (AllF.n (AllF.v (fit183 ξ)) AllF.e AllF.e) (AllF.n (AllF.v (fit247 ξ)) AllF.e AllF.e))))) (AllF.n (AllF.no) (AllF.n (AllF.v (fit19 ξ)) (AllF.n (AllF.no) (AllF.n (AllF.v (fit67 ξ)) (AllF.n (AllF.v (fit131 ξ)) (AllF.n (AllF.v (fit259 ξ)) AllF.e AllF.e) AllF.e) AllF.e) (AllF.n (AllF.v (fit99 ξ)) (AllF.n (AllF.v (fit163 ξ)) AllF.e AllF.e) (AllF.n (AllF.v (fit227 ξ)) AllF.e AllF.e))) (AllF.n (AllF.v (fit51 ξ)) (AllF.n (AllF.no) (AllF.n (AllF.v (fit147 ξ)) (AllF.n (AllF.v (fit275 ξ)) AllF.e AllF.e) AllF.e) (AllF.n (AllF.v (fit211 ξ)) AllF.e AllF.e)) (AllF.n (AllF.no) (AllF.n (AllF.v (fit179 ξ)) AllF.e AllF.e) AllF.e))) (AllF.n (AllF.no) (AllF.n (AllF.no) (AllF.n (AllF.v (fit75 ξ)) (AllF.n (AllF.v (fit139 ξ)) AllF.e AllF.e) (AllF.n (AllF.v (fit203 ξ)) AllF.e AllF.e)) (AllF.n (AllF.no) (AllF.n (AllF.v (fit171 ξ)) AllF.e AllF.e) (AllF.n (AllF.v (fit235 ξ)) AllF.e AllF.e))) (AllF.n (AllF.no) (AllF.n (AllF.v (fit91 ξ)) (AllF.n (AllF.v (fit155 ξ)) (AllF.n (AllF.v (fit283 ξ)) AllF.e AllF.e) AllF.e) AllF.e) (AllF.n (AllF.v (fit123 ξ)) (AllF.n (AllF.v (fit187 ξ)) AllF.e AllF.e) (AllF.n (AllF.v (fit251 ξ)) AllF.e AllF.e)))))) (AllF.n (AllF.no) (AllF.n (AllF.v (fit9 ξ)) (AllF.n (AllF.v (fit17 ξ)) (AllF.n (AllF.v (fit33 ξ)) (AllF.n (AllF.no) (AllF.n (AllF.v (fit129 ξ)) AllF.e AllF.e) (AllF.n (AllF.v (fit193 ξ)) AllF.e AllF.e)) (AllF.n (AllF.v (fit97 ξ)) (AllF.n (AllF.v (fit161 ξ)) (AllF.n (AllF.v (fit289 ξ)) AllF.e AllF.e) AllF.e) AllF.e)) (AllF.n (AllF.v (fit49 ξ)) (AllF.n (AllF.no) (AllF.n (AllF.v (fit145 ξ)) (AllF.n (AllF.v (fit273 ξ)) AllF.e AllF.e) AllF.e) (AllF.n (AllF.v (fit209 ξ)) AllF.e AllF.e)) AllF.e)) (AllF.n (AllF.no) (AllF.n (AllF.v (fit41 ξ)) (AllF.n (AllF.v (fit73 ξ)) (AllF.n (AllF.v (fit137 ξ)) AllF.e AllF.e) (AllF.n (AllF.v (fit201 ξ)) AllF.e AllF.e)) (AllF.n (AllF.v (fit105 ξ)) (AllF.n (AllF.v (fit169 ξ)) AllF.e AllF.e) (AllF.n (AllF.v (fit233 ξ)) AllF.e AllF.e))) (AllF.n (AllF.no) (AllF.n (AllF.v (fit89 ξ)) (AllF.n (AllF.v (fit153 ξ)) (AllF.n (AllF.v (fit281 ξ)) AllF.e AllF.e) AllF.e) (AllF.n (AllF.v (fit217 ξ)) AllF.e AllF.e)) (AllF.n (AllF.v (fit121 ξ)) (AllF.n (AllF.v (fit185 ξ)) AllF.e AllF.e) (AllF.n (AllF.v (fit249 ξ)) AllF.e AllF.e))))) (AllF.n (AllF.no) (AllF.n (AllF.v (fit21 ξ)) (AllF.n (AllF.v (fit37 ξ)) (AllF.n (AllF.no) (AllF.n (AllF.v (fit133 ξ)) (AllF.n (AllF.v (fit261 ξ)) AllF.e AllF.e) AllF.e) AllF.e) (AllF.n (AllF.v (fit101 ξ)) (AllF.n (AllF.v (fit165 ξ)) AllF.e AllF.e) (AllF.n (AllF.v (fit229 ξ)) AllF.e AllF.e))) (AllF.n (AllF.v (fit53 ξ)) (AllF.n (AllF.v (fit85 ξ)) (AllF.n (AllF.v (fit149 ξ)) (AllF.n (AllF.v (fit277 ξ)) AllF.e AllF.e) AllF.e) (AllF.n (AllF.v (fit213 ξ)) AllF.e AllF.e)) (AllF.n (AllF.v (fit117 ξ)) (AllF.n (AllF.v (fit181 ξ)) AllF.e AllF.e) (AllF.n (AllF.v (fit245 ξ)) AllF.e AllF.e)))) (AllF.n (AllF.no) (AllF.n (AllF.v (fit45 ξ)) (AllF.n (AllF.v (fit77 ξ)) (AllF.n (AllF.v (fit141 ξ)) (AllF.n (AllF.v (fit269 ξ)) AllF.e AllF.e) AllF.e) (AllF.n (AllF.v (fit205 ξ)) AllF.e AllF.e)) (AllF.n (AllF.v (fit109 ξ)) (AllF.n (AllF.v (fit173 ξ)) AllF.e AllF.e) (AllF.n (AllF.v (fit237 ξ)) AllF.e AllF.e))) (AllF.n (AllF.no) (AllF.n (AllF.v (fit93 ξ)) (AllF.n (AllF.v (fit157 ξ)) AllF.e AllF.e) AllF.e) (AllF.n (AllF.v (fit125 ξ)) (AllF.n (AllF.v (fit189 ξ)) AllF.e AllF.e) (AllF.n (AllF.v (fit253 ξ)) AllF.e AllF.e))))))) (AllF.n (AllF.no) (AllF.n (AllF.no) (AllF.n (AllF.no) (AllF.n (AllF.v (fit16 ξ)) (AllF.n (AllF.no) (AllF.n (AllF.v (fit64 ξ)) (AllF.n (AllF.v (fit128 ξ)) AllF.e AllF.e) (AllF.n (AllF.v (fit192 ξ)) AllF.e AllF.e)) (AllF.n (AllF.v (fit96 ξ)) (AllF.n (AllF.v (fit160 ξ)) (AllF.n (AllF.v (fit288 ξ)) AllF.e AllF.e) AllF.e) AllF.e)) (AllF.n (AllF.v (fit48 ξ)) (AllF.n (AllF.v (fit80 ξ)) (AllF.n (AllF.v (fit144 ξ)) AllF.e AllF.e) (AllF.n (AllF.v (fit208 ξ)) AllF.e AllF.e)) (AllF.n (AllF.no) (AllF.n (AllF.v (fit176 ξ)) AllF.e AllF.e) AllF.e))) (AllF.n (AllF.no) (AllF.n (AllF.v (fit40 ξ)) (AllF.n (AllF.v (fit72 ξ)) AllF.e (AllF.n (AllF.v (fit200 ξ)) AllF.e AllF.e)) (AllF.n (AllF.v (fit104 ξ)) (AllF.n (AllF.v (fit168 ξ)) AllF.e AllF.e) (AllF.n (AllF.v (fit232 ξ)) AllF.e AllF.e))) (AllF.n (AllF.no) (AllF.n (AllF.v (fit88 ξ)) (AllF.n (AllF.v (fit152 ξ)) (AllF.n (AllF.v (fit280 ξ)) AllF.e AllF.e) AllF.e) (AllF.n (AllF.v (fit216 ξ)) AllF.e AllF.e)) (AllF.n (AllF.v (fit120 ξ)) (AllF.n (AllF.v (fit184 ξ)) AllF.e AllF.e) (AllF.n (AllF.v (fit248 ξ)) AllF.e AllF.e))))) (AllF.n (AllF.no) (AllF.n (AllF.v (fit20 ξ)) (AllF.n (AllF.v (fit36 ξ)) (AllF.n (AllF.no) (AllF.n (AllF.v (fit132 ξ)) (AllF.n (AllF.v (fit260 ξ)) AllF.e AllF.e) AllF.e) AllF.e) (AllF.n (AllF.v (fit100 ξ)) (AllF.n (AllF.v (fit164 ξ)) AllF.e AllF.e) (AllF.n (AllF.v (fit228 ξ)) AllF.e AllF.e))) (AllF.n (AllF.v (fit52 ξ)) (AllF.n (AllF.no) (AllF.n (AllF.v (fit148 ξ)) (AllF.n (AllF.v (fit276 ξ)) AllF.e AllF.e) AllF.e) (AllF.n (AllF.v (fit212 ξ)) AllF.e AllF.e)) (AllF.n (AllF.no) (AllF.n (AllF.v (fit180 ξ)) AllF.e AllF.e) AllF.e))) (AllF.n (AllF.v (fit28 ξ)) (AllF.n (AllF.no) (AllF.n (AllF.v (fit76 ξ)) (AllF.n (AllF.v (fit140 ξ)) AllF.e AllF.e) (AllF.n (AllF.v (fit204 ξ)) AllF.e AllF.e)) (AllF.n (AllF.no) (AllF.n (AllF.v (fit172 ξ)) AllF.e AllF.e) (AllF.n (AllF.v (fit236 ξ)) AllF.e AllF.e))) (AllF.n (AllF.no) (AllF.n (AllF.v (fit92 ξ)) (AllF.n (AllF.v (fit156 ξ)) AllF.e AllF.e) AllF.e) (AllF.n (AllF.v (fit124 ξ)) (AllF.n (AllF.v (fit188 ξ)) AllF.e AllF.e) (AllF.n (AllF.v (fit252 ξ)) AllF.e AllF.e)))))) (AllF.n (AllF.no) (AllF.n (AllF.v (fit10 ξ)) (AllF.n (AllF.no) (AllF.n (AllF.no) (AllF.n (AllF.no) (AllF.n (AllF.v (fit130 ξ)) (AllF.n (AllF.v (fit258 ξ)) AllF.e AllF.e) AllF.e) (AllF.n (AllF.v (fit194 ξ)) AllF.e AllF.e)) (AllF.n (AllF.v (fit98 ξ)) (AllF.n (AllF.v (fit162 ξ)) (AllF.n (AllF.v (fit290 ξ)) AllF.e AllF.e) AllF.e) (AllF.n (AllF.v (fit226 ξ)) AllF.e AllF.e))) (AllF.n (AllF.v (fit50 ξ)) (AllF.n (AllF.no) (AllF.n (AllF.v (fit146 ξ)) (AllF.n (AllF.v (fit274 ξ)) AllF.e AllF.e) AllF.e) (AllF.n (AllF.v (fit210 ξ)) AllF.e AllF.e)) AllF.e)) (AllF.n (AllF.v (fit26 ξ)) (AllF.n (AllF.v (fit42 ξ)) (AllF.n (AllF.v (fit74 ξ)) (AllF.n (AllF.v (fit138 ξ)) AllF.e AllF.e) (AllF.n (AllF.v (fit202 ξ)) AllF.e AllF.e)) (AllF.n (AllF.no) (AllF.n (AllF.v (fit170 ξ)) AllF.e AllF.e) (AllF.n (AllF.v (fit234 ξ)) AllF.e AllF.e))) (AllF.n (AllF.no) (AllF.n (AllF.v (fit90 ξ)) (AllF.n (AllF.v (fit154 ξ)) (AllF.n (AllF.v (fit282 ξ)) AllF.e AllF.e) AllF.e) AllF.e) (AllF.n (AllF.v (fit122 ξ)) (AllF.n (AllF.v (fit186 ξ)) AllF.e AllF.e) (AllF.n (AllF.v (fit250 ξ)) AllF.e AllF.e))))) (AllF.n (AllF.v (fit14 ξ)) (AllF.n (AllF.no) (AllF.n (AllF.v (fit38 ξ)) (AllF.n (AllF.v (fit70 ξ)) (AllF.n (AllF.v (fit134 ξ)) (AllF.n (AllF.v (fit262 ξ)) AllF.e AllF.e) AllF.e) AllF.e) (AllF.n (AllF.no) (AllF.n (AllF.v (fit166 ξ)) AllF.e AllF.e) (AllF.n (AllF.v (fit230 ξ)) AllF.e AllF.e))) (AllF.n (AllF.v (fit54 ξ)) (AllF.n (AllF.v (fit86 ξ)) (AllF.n (AllF.v (fit150 ξ)) (AllF.n (AllF.v (fit278 ξ)) AllF.e AllF.e) AllF.e) (AllF.n (AllF.v (fit214 ξ)) AllF.e AllF.e)) (AllF.n (AllF.v (fit118 ξ)) (AllF.n (AllF.v (fit182 ξ)) AllF.e AllF.e) (AllF.n (AllF.v (fit246 ξ)) AllF.e AllF.e)))) (AllF.n (AllF.no) (AllF.n (AllF.v (fit46 ξ)) (AllF.n (AllF.v (fit78 ξ)) (AllF.n (AllF.v (fit142 ξ)) (AllF.n (AllF.v (fit270 ξ)) AllF.e AllF.e) AllF.e) (AllF.n (AllF.v (fit206 ξ)) AllF.e AllF.e)) (AllF.n (AllF.no) (AllF.n (AllF.v (fit174 ξ)) AllF.e AllF.e) (AllF.n (AllF.v (fit238 ξ)) AllF.e AllF.e))) (AllF.n (AllF.no) (AllF.n (AllF.v (fit94 ξ)) (AllF.n (AllF.v (fit158 ξ)) (AllF.n (AllF.v (fit286 ξ)) AllF.e AllF.e) AllF.e) AllF.e) (AllF.n (AllF.v (fit126 ξ)) (AllF.n (AllF.v (fit190 ξ)) AllF.e AllF.e) (AllF.n (AllF.v (fit254 ξ)) AllF.e AllF.e))))))))
end Go.Proofs.YtfbjgbecabbdnaaGreatDoor

/- The evaluator: answers known ahead of time: Number's of values not looked at; a call that was evaluated. -/
set_option linter.unusedVariables false
set_option linter.unusedSimpArgs false
namespace Go.Proofs.YtfbjgbecabbdnaaGreatDoor.Ce
open Go.Proofs.YtfbjgbecabbdnaaGreatDoor.Sl Go.RowKit
variable {P : Program}
def posB : Pos → Pos → Bool
  | .h, .h => true
  | .o p, .o q => posB p q
  | .i p, .i q => posB p q
  | _, _ => false
theorem posB_eq : ∀ {p q : Pos}, posB p q = true → p = q
  | .h, .h, _ => rfl
  | .o p, .o q, h => by rw [posB_eq (p := p) (q := q) h]
  | .i p, .i q, h => by rw [posB_eq (p := p) (q := q) h]
  | .h, .o _, h => by cases h
  | .h, .i _, h => by cases h
  | .o _, .h, h => by cases h
  | .o _, .i _, h => by cases h
  | .i _, .h, h => by cases h
  | .i _, .o _, h => by cases h
/-- A call over the empty heap keeps whatever heap there is. -/
theorem calls_pure {f : FuncId} {args : Array Value} {R : Value → Heap → Prop} (c : SCalls P f args (fun _ => none) R) (h : Heap) : SCalls P f args h (fun r h' => h.le h' ∧ ∃ h1, R r h1) := by
  intro w rel
  refine (c w (fun b o e => by cases e)).mono ?_
  rintro e w' ⟨v, h1, rfl, hR, r, st⟩
  refine ⟨v, h, rfl, ⟨Heap.le_refl _, h1, hR⟩, fun b o e => ?_, ⟨st.os, st.tape, st.output, st.size, fun b hb _ => st.keep b hb rfl, fun b e1 e2 => absurd e1 e2⟩⟩
  rw [st.keep b (rel.lt e) rfl]; exact rel b o e
/-- Number's answers: (which value, the bound, the answer). -/
def lookN (j b : Nat) : List (Nat × Nat × Nat) → Option CV
  | [] => none
  | e :: r => bif Nat.beq j e.1 && Nat.beq b e.2.1 then some (.i .i64 (.ofNat e.2.2)) else lookN j b r
/-- fs: functions without arguments that say true. -/
def omN (num : Pos) (fs : List Pos) (tb : List (Nat × Nat × Nat)) : Om := fun f args => match args with
  | [.xi j, .i .i64 (.ofNat b)] => bif posB f num then lookN j b tb else none
  | [] => bif fs.any (posB f) then some (.b true) else none
  | _ => none
theorem lookN_mem {j b : Nat} {v : CV} : ∀ {tb : List (Nat × Nat × Nat)}, lookN j b tb = some v → ∃ r, (j, b, r) ∈ tb ∧ v = .i .i64 (.ofNat r)
  | [], h => by cases h
  | (j', b', r) :: tb, h => by
    unfold lookN at h
    cases hb : (Nat.beq j j' && Nat.beq b b') with
    | true =>
      rw [hb] at h
      cases h
      simp only [Bool.and_eq_true, Nat.beq_eq] at hb
      exact ⟨r, by simp [hb.1, hb.2], rfl⟩
    | false =>
      rw [hb] at h
      obtain ⟨r', h1, h2⟩ := lookN_mem h
      exact ⟨r', List.mem_cons_of_mem _ h1, h2⟩
theorem omN_ok {N : Kn P} {num : Pos} {fs : List Pos} {tb : List (Nat × Nat × Nat)} (ai : Nat → Int) (hx : ∀ j, N.ξ j = .int .i64 (ai j)) (htb : ∀ j b r, (j, b, r) ∈ tb → ai j % (b : Int) = (r : Int) ∧ 0 < b ∧ b ≤ 4611686018427387904)
    (hnum : Ab.okCall P (num.nat - 1) = true) (hN : ∀ (n b : Int) (h : Heap), 0 < b → b ≤ 4611686018427387904 → SCalls P (num.nat - 1) #[.int .i64 n, .int .i64 b] h (fun v h' => h' = h ∧ v = .int .i64 (n % b)))
    (hfs : ∀ f ∈ fs, Ab.okCall P (f.nat - 1) = true ∧ SCalls P (f.nat - 1) #[] (fun _ => none) (fun r _ => r = .bool true)) : OmOk N (omN num fs tb) := by
  intro f args v e
  unfold omN at e
  split at e
  · rename_i j b
    cases hf : posB f num with
    | false => rw [hf] at e; cases e
    | true =>
      rw [hf] at e
      have := posB_eq hf
      subst this
      obtain ⟨r, hr, rfl⟩ := lookN_mem e
      obtain ⟨h1, h2, h3⟩ := htb j b r hr
      refine ⟨hnum, fun β h vs hβ rv => ?_⟩
      cases rv with
      | cons r1 rv =>
        cases rv with
        | cons r2 rv =>
          cases rv
          cases r1
          cases r2
          rw [hβ, hx]
          refine (hN (ai j) (b : Int) h (by omega) (by omega)).mono fun u h' ⟨e1, e2⟩ => ?_
          subst e1
          rw [e2, h1]
          exact ⟨Heap.le_refl _, .i _ _⟩
  · cases hf : fs.any (posB f) with
    | false => rw [hf] at e; cases e
    | true =>
      rw [hf] at e
      cases e
      obtain ⟨g, hg, hgf⟩ := List.any_eq_true.1 hf
      have := posB_eq hgf
      subst this
      obtain ⟨h1, h2⟩ := hfs f hg
      refine ⟨h1, fun β h vs hβ rv => ?_⟩
      cases rv
      refine (calls_pure h2 h).mono fun u h' ⟨e1, _, e2⟩ => ?_
      rw [e2]
      exact ⟨e1, .b true⟩
  · cases e
/-- Nothing is known ahead. -/
def om0 : Om := fun _ _ => none
theorem om0_ok {N : Kn P} : OmOk N om0 := fun _ _ _ e => by cases e
end Go.Proofs.YtfbjgbecabbdnaaGreatDoor.Ce

/- rivuletworld.Number. -/
set_option linter.unusedVariables false
set_option linter.unusedSimpArgs false
namespace Go.Proofs.YtfbjgbecabbdnaaGreatDoor
open Sl
theorem wrap64_in (n : Int) (h : -9223372036854775808 ≤ n) (h' : n ≤ 9223372036854775807) : IntKind.i64.wrap n = n := by
  show (if (true && decide (n % 18446744073709551616 ≥ 9223372036854775808)) = true then n % 18446744073709551616 - 18446744073709551616 else n % 18446744073709551616) = n
  simp only [Bool.true_and, decide_eq_true_eq]
  split <;> omega
theorem tmod_fix (n b : Int) (hb : 0 < b) : (0 ≤ n.tmod b → n.tmod b = n % b) ∧ (n.tmod b < 0 → n.tmod b + b = n % b) ∧ -b < n.tmod b ∧ n.tmod b < b := by
  have h1 := Int.tmod_eq_emod (a := n) (b := b)
  have h2 := Int.emod_nonneg n (show b ≠ 0 by omega)
  have h3 := Int.emod_lt_of_pos n hb
  have hab : (b.natAbs : Int) = b := by omega
  split at h1
  · omega
  · rename_i hc
    have hne : n % b ≠ 0 := fun e => hc (.inr (Int.dvd_of_emod_eq_zero e))
    rw [hab] at h1
    omega
theorem number_ok (n b : Int) (hb : 0 < b) (hb' : b ≤ 4611686018427387904) (h : Heap) : SCalls Tryz.prog 14 #[.int .i64 n, .int .i64 b] h (fun v h' => h' = h ∧ v = .int .i64 (n % b)) := by
  refine s_enter Tryz.func14 rfl (by rw [Tryz.ntmps14]; simp) ?_
  rw [Tryz.ntmps14]
  obtain ⟨hf1, hf2, hlow, hhigh⟩ := tmod_fix n b hb
  have h2 := Int.emod_nonneg n (show b ≠ 0 by omega)
  have h3 := Int.emod_lt_of_pos n hb
  have hbn : b ≠ 0 := by omega
  have hbn' : (b == 0) = false := by simp [hbn]
  have hw : IntKind.i64.wrap (n.tmod b) = n.tmod b := wrap64_in _ (by omega) (by omega)
  generalize hT : T0 #[.int .i64 n, .int .i64 b] = T
  have h0 : T 0 = .int .i64 n := by rw [← hT]; rfl
  have h1 : T 1 = .int .i64 b := by rw [← hT]; rfl
  clear hT
  repeat refine s_seq ?_
  repeat refine s_seq ?_
  refine s_region ?_
  refine w_pv rfl dC (want_none rfl) (p_val evA) ?_
  refine w_nil ?_
  repeat refine s_seq ?_
  refine s_region ?_
  refine w_pv rfl dC (want_none rfl) (p_val evA) ?_
  refine w_pv rfl dC (want_none rfl) (p_val evA) ?_
  refine w_rd rfl dC (want_none rfl) (r_rem rfl evA evA arA) ?_
  refine w_pv rfl dC (want_none rfl) (p_val evA) ?_
  refine w_nil ?_
  repeat refine s_seq ?_
  refine s_region ?_
  refine w_pv rfl dC (want_none rfl) (p_val evA) ?_
  refine w_pv rfl dC (want_none rfl) (p_val evA) ?_
  refine w_nil ?_
  generalize n.tmod b = r at *
  generalize n % b = r' at *
  by_cases hr : r < 0
  · have hd : decide (r < 0) = true := decide_eq_true hr
    have hw2 : IntKind.i64.wrap (r + b) = r' := by rw [hf2 hr]; exact wrap64_in _ (by omega) (by omega)
    clear hf1 hf2
    repeat refine s_seq ?_
    refine s_cond (t := true) slA ?_
    repeat refine s_seq ?_
    refine s_region ?_
    refine w_pv rfl dC (want_none rfl) (p_val evA) ?_
    refine w_pv rfl dC (want_none rfl) (p_val evA) ?_
    refine w_pv rfl dC (want_none rfl) (p_val evA) ?_
    refine w_pv rfl dC (want_none rfl) (p_val evA) ?_
    refine w_nil ?_
    repeat refine s_seq ?_
    refine s_region ?_
    refine w_pv rfl dC (want_none rfl) (p_val evA) ?_
    refine w_pv rfl dC (want_none rfl) (p_val evA) ?_
    refine w_nil ?_
    refine s_ret ⟨_, res_one rfl rfl, rfl, ?_⟩
    simp only [pval, ev, upd, binVal, intBin, Option.map_some, ↓reduceIte, reduceCtorEq, Nat.reduceEqDiff, Nat.reduceBEq, List.map_toArray, List.map_cons, List.map_nil, cond_true, cond_false, decide_true, decide_false, Bool.not_true, Bool.not_false, Bool.true_and, Bool.false_and, Bool.and_true, Bool.and_false, beq_self_eq_true, bne_self_eq_false, List.getElem_toArray, List.getElem_cons_succ, List.getElem_cons_zero, *]
  · have hd : decide (r < 0) = false := decide_eq_false hr
    have hw2 : r = r' := hf1 (by omega)
    subst hw2
    clear hf1 hf2
    repeat refine s_seq ?_
    refine s_cond (t := false) slA ?_
    repeat refine s_seq ?_
    refine s_skip ?_
    repeat refine s_seq ?_
    refine s_region ?_
    refine w_pv rfl dC (want_none rfl) (p_val evA) ?_
    refine w_pv rfl dC (want_none rfl) (p_val evA) ?_
    refine w_nil ?_
    refine s_ret ⟨_, res_one rfl rfl, rfl, ?_⟩
    simp only [pval, ev, upd, binVal, intBin, Option.map_some, ↓reduceIte, reduceCtorEq, Nat.reduceEqDiff, Nat.reduceBEq, List.map_toArray, List.map_cons, List.map_nil, cond_true, cond_false, decide_true, decide_false, Bool.not_true, Bool.not_false, Bool.true_and, Bool.false_and, Bool.and_true, Bool.and_false, beq_self_eq_true, bne_self_eq_false, List.getElem_toArray, List.getElem_cons_succ, List.getElem_cons_zero, *]
end Go.Proofs.YtfbjgbecabbdnaaGreatDoor

/- FindLines: the evaluation of one case. -/
set_option linter.unusedVariables false
set_option maxRecDepth 1000000
namespace Go.Proofs.YtfbjgbecabbdnaaGreatDoor
open Sl Ce
noncomputable def findLinesNum : Pos := pos 14
noncomputable def findLinesFir : Pos := pos 39
theorem findLines_first_e : isTrue ((evF 1000000 om0 tab 1000).c findLinesFir [] ch0 i0 0) = true := by kernel_rfl
noncomputable def findLinesAt (r0 : Nat) (r1 : Nat) (r2 : Nat) (r3 : Bool) : Bool := isTrue ((evF 1000000 (omN findLinesNum [findLinesFir] [(0, 6, r0), (1, r0 + 2, r1), (2, r0 + 2, r2)]) tab 1000).c (pos 10) [.xi 0, .xi 1, .xi 2, .b r3] ch0 i0 0)
end Go.Proofs.YtfbjgbecabbdnaaGreatDoor
