import Derived.Test.YtihdpjinaafenaaGreatDoorNc18
import Derived.Test.YtihdpjinaafenaaGreatDoorProg
noncomputable section
/- Functions, told short. -/
set_option linter.unusedVariables false
set_option maxRecDepth 100000
namespace Go.Proofs.YtihdpjinaafenaaGreatDoor
open Sl Ce
def c303 : CFn := ⟨53, (.c (.seq (.rg 0 [.R q10 (.mv t1), .R q11 (.bin .add 3 t10 k1 3), .R q8 (.asg t11)]) (.block 0 (.loop (.seq (.seq (.rg 1 [.R q12 (.mv t8), .R q13 (.mv t2), .R q14 (.bin .lss 3 t12 t13 3)]) (.cond t14 .skip (.exit 0))) (.seq (.block 1 (.seq (.rg 3 [.R q17 (.mv t8), .R q9 (.asg t17)]) (.block 2 (.loop (.seq (.seq (.reg 4 true [0, 1, 2, 3, 4, 5, 6, 7, 8, 9, 10, 11, 12, 13, 14, 15, 16] [.Q q18 (.mv t9), .Q q19 (.mv t1), .Q q20 (.bin .gtr 3 t18 t19 3), .Q q21 (.mv t20), .gd q21 true (.Q q22 (.mv t3)), .gd q21 true (.Q q23 (.mv t0)), .gd q21 true (.Q q24 (.mv t9)), .gd q21 true (.Q q25 (.ix 133 t23 t24 47 2)), .gd q21 true (.Q q26 (.ldN 47 t25 2)), .gd q21 true (.Q q27 (.mv t0)), .gd q21 true (.Q q28 (.mv t9)), .gd q21 true (.Q q29 (.bin .sub 3 t28 k1 3)), .gd q21 true (.Q q30 (.ix 133 t27 t29 47 2)), .gd q21 true (.Q q31 (.ldN 47 t30 2)), .gd q21 true (.cv (some q32) t22 [t26, t31] [47, 47] false), .gd q21 true (.Q q33 (.bin .lss 3 t32 k0 3)), .Q q34 (.pick t21 t33 (.c (.b false)))] none) (.cond t34 .skip (.exit 2))) (.seq (.block 3 (.reg 6 true [0, 1, 2, 3, 4, 5, 6, 7, 8, 9, 10, 11, 12, 13, 14, 15, 16, 17] [.Q q37 (.mv t0), .Q q38 (.mv t9), .Q q39 (.mv t0), .Q q40 (.mv t9), .Q q41 (.bin .sub 3 t40 k1 3), .Q q42 (.mv t0), .Q q43 (.mv t9), .Q q44 (.bin .sub 3 t43 k1 3), .Q q45 (.ix 133 t42 t44 47 2), .Q q46 (.ldN 47 t45 2), .Q q47 (.mv t0), .Q q48 (.mv t9), .Q q49 (.ix 133 t47 t48 47 2), .Q q50 (.ldN 47 t49 2), .Q q51 (.ix 133 t37 t38 47 2), .a none (.stN 47 t51 t46 2) false, .Q q52 (.ix 133 t39 t41 47 2), .a none (.stN 47 t52 t50 2) false] none)) (.rg 5 [.R q35 (.mv t9), .R q36 (.bin .sub 3 t35 k1 3), .R q9 (.asg t36)]))))))) (.rg 2 [.R q15 (.mv t8), .R q16 (.bin .add 3 t15 k1 3), .R q8 (.asg t16)]))))))), []⟩
theorem fit303 (ξ : Nat → Value) : FnFit (kn ξ) (.o (.o (.o (.o (.i (.i (.o (.o .h)))))))) c303 := ⟨kR, kR, kR, kR⟩
def c315 : CFn := ⟨134, (.c (.seq (.rg 0 [.R q8 (.asg (.c (.b true)))]) (.seq (.rg 1 [.R q9 (.asg (.c (.b true)))]) (.block 0 (.loop (.block 1 (.seq (.rg 2 [.R q19 (.mv t2), .R q20 (.mv t1), .R q21 (.bin .sub 3 t19 t20 3), .R q10 (.asg t21)]) (.seq (.seq (.rg 3 [.R q22 (.mv t10), .R q23 (.bin .leq 3 t22 (.c (.i .i64 (.ofNat 12))) 3)]) (.cond t23 (.seq (.rg 4 [.R q24 (.mv t0), .R q25 (.mv t1), .R q26 (.mv t2), .cl (some q27) (.o (.o (.o (.o (.i (.o (.i (.o .h)))))))) [t24, t25, t26] [63, 3, 3] false]) .ret) .skip)) (.seq (.seq (.rg 5 [.R q28 (.mv t3), .R q29 (.bin .eql 3 t28 k0 3)]) (.cond t29 (.seq (.rg 6 [.R q30 (.mv t0), .R q31 (.mv t1), .R q32 (.mv t2), .cl (some q33) (.i (.o (.o (.o (.i (.o (.i (.o .h)))))))) [t30, t31, t32] [63, 3, 3] false]) .ret) .skip)) (.seq (.seq (.rg 7 [.R q34 (.mv t8), .R q35 (.not 4 t34)]) (.cond t35 (.seq (.rg 8 [.R q36 (.mv t0), .R q37 (.mv t1), .R q38 (.mv t2), .cl (some q39) (.o (.i (.o (.o (.i (.o (.i (.o .h)))))))) [t36, t37, t38] [63, 3, 3] false]) (.rg 9 [.R q40 (.mv t3), .R q41 (.bin .sub 3 t40 k1 3), .R q3 (.asg t41)])) .skip)) (.seq (.rg 10 [.R q43 (.mv t0), .R q44 (.mv t1), .R q45 (.mv t2), .cl (some q46) (.i (.i (.o (.o (.i (.o (.i (.o .h)))))))) [t43, t44, t45] [63, 3, 3] false, .R q42 (.mv t46), .R q47 (.ext t42 0), .R q48 (.ext t42 1), .R q11 (.asg t47), .R q12 (.asg t48)]) (.seq (.seq (.rg 11 [.R q49 (.mv t12), .R q50 (.bin .eql 311 t49 k2 311)]) (.cond t50 (.seq (.rg 12 [.R q51 (.mv t0), .R q52 (.mv t1), .R q53 (.mv t2), .cl (some q54) (.o (.o (.i (.o (.i (.o (.i (.o .h)))))))) [t51, t52, t53] [63, 3, 3] false]) (.seq (.rg 13 [.R q55 (.mv t2), .R q56 (.bin .sub 3 t55 k1 3), .R q57 (.mv t11), .R q58 (.mv t1), .R q59 (.bin .sub 3 t57 t58 3), .R q60 (.bin .sub 3 t56 t59 3), .R q11 (.asg t60)]) (.rg 14 [.R q12 (.asg k1)]))) .skip)) (.seq (.seq (.rg 15 [.R q61 (.mv t8), .R q62 (.mv t61), .gd q62 true (.R q63 (.mv t9)), .R q64 (.pick t62 t63 (.c (.b false))), .R q65 (.mv t64), .gd q65 true (.R q66 (.mv t12)), .gd q65 true (.R q67 (.bin .eql 311 t66 k1 311)), .R q68 (.pick t65 t67 (.c (.b false)))]) (.cond t68 (.seq (.rg 16 [.R q69 (.mv t0), .R q70 (.mv t1), .R q71 (.mv t2), .cl (some q72) (.i (.o (.i (.o (.i (.o (.i (.o .h)))))))) [t69, t70, t71] [63, 3, 3] false]) (.cond t72 .ret .skip)) .skip)) (.seq (.seq (.reg 17 true [0, 1, 2, 3, 4, 5, 6, 7, 8, 9, 10, 11, 12, 13, 14] [.Q q73 (.mv t1), .Q q74 (.bin .gtr 3 t73 k0 3), .Q q75 (.mv t74), .gd q75 true (.Q q76 (.mv t0)), .gd q75 true (.Q q77 (.mv t1)), .gd q75 true (.Q q78 (.bin .sub 3 t77 k1 3)), .gd q75 true (.Q q79 (.ix 63 t76 t78 3 1)), .gd q75 true (.Q q80 (.ld 3 t79)), .gd q75 true (.Q q81 (.mv t0)), .gd q75 true (.Q q82 (.mv t11)), .gd q75 true (.Q q83 (.ix 63 t81 t82 3 1)), .gd q75 true (.Q q84 (.ld 3 t83)), .gd q75 true (.cl (some q85) (.o (.i (.i (.o (.i (.o (.i (.o .h)))))))) [t80, t84] [3, 3] false), .gd q75 true (.Q q86 (.not 4 t85)), .Q q87 (.pick t75 t86 (.c (.b false)))] none) (.cond t87 (.seq (.rg 18 [.R q88 (.mv t0), .R q89 (.mv t1), .R q90 (.mv t2), .R q91 (.mv t11), .cl (some q92) (.i (.i (.i (.o (.i (.o (.i (.o .h)))))))) [t88, t89, t90, t91] [63, 3, 3, 3] false, .R q13 (.asg t92)]) (.seq (.rg 19 [.R q93 (.mv t13), .R q1 (.asg t93)]) (.exit 1))) .skip)) (.seq (.rg 20 [.R q95 (.mv t0), .R q96 (.mv t1), .R q97 (.mv t2), .R q98 (.mv t11), .cl (some q99) (.o (.o (.o (.i (.i (.o (.i (.o .h)))))))) [t95, t96, t97, t98] [63, 3, 3, 3] false, .R q94 (.mv t99), .R q100 (.ext t94 0), .R q101 (.ext t94 1), .R q14 (.asg t100), .R q15 (.asg t101)]) (.seq (.rg 21 [.R q102 (.mv t15), .R q9 (.asg t102)]) (.seq (.rg 22 [.R q103 (.mv t14), .R q104 (.mv t1), .R q105 (.bin .sub 3 t103 t104 3), .R q106 (.mv t2), .R q107 (.mv t14), .R q108 (.bin .sub 3 t106 t107 3), .R q16 (.asg t105), .R q17 (.asg t108)]) (.seq (.rg 23 [.R q109 (.mv t10), .R q110 (.bin .quo 3 t109 k8 3), .R q18 (.asg t110)]) (.seq (.rg 24 [.R q111 (.mv t16), .R q112 (.mv t17), .R q113 (.bin .lss 3 t111 t112 3)]) (.cond t113 (.seq (.rg 25 [.R q114 (.mv t16), .R q115 (.mv t18), .R q116 (.bin .geq 3 t114 t115 3), .R q8 (.asg t116)]) (.seq (.rg 26 [.R q117 (.mv t0), .R q118 (.mv t1), .R q119 (.mv t14), .R q120 (.mv t3), .cl (some q121) (.o (.o (.i (.i (.i (.i (.o (.o .h)))))))) [t117, t118, t119, t120] [63, 3, 3, 3] false]) (.rg 27 [.R q122 (.mv t14), .R q123 (.bin .add 3 t122 k1 3), .R q1 (.asg t123)]))) (.seq (.rg 28 [.R q124 (.mv t17), .R q125 (.mv t18), .R q126 (.bin .geq 3 t124 t125 3), .R q8 (.asg t126)]) (.seq (.rg 29 [.R q127 (.mv t0), .R q128 (.mv t14), .R q129 (.bin .add 3 t128 k1 3), .R q130 (.mv t2), .R q131 (.mv t3), .cl (some q132) (.o (.o (.i (.i (.i (.i (.o (.o .h)))))))) [t127, t129, t130, t131] [63, 3, 3, 3] false]) (.rg 30 [.R q133 (.mv t14), .R q2 (.asg t133)]))))))))))))))))))))))), []⟩
theorem fit315 (ξ : Nat → Value) : FnFit (kn ξ) (.o (.o (.i (.i (.i (.i (.o (.o .h)))))))) c315 := ⟨kR, kR, kR, kR⟩
def c323 : CFn := ⟨11, (.c (.seq (.rg 0 [.R q4 (.asg (.c .ns))]) (.seq (.rg 1 [.R q6 (.mv t1), .cl (some q7) (.i (.i (.i (.o (.i (.o (.o .h))))))) [t6] [23] false, .A q5 (.alc 257 [.i .u8 (.ofNat 0), .i .u8 (.ofNat 0), .i .u8 (.ofNat 0), .i .u8 (.ofNat 0)]), .a none (.stN 257 t5 t7 4) false]) (.seq (.rg 2 [.R q8 (.mv t0), .R q9 (.slia 257 t5 none none 5 1 4), .A q10 (.app 276 276 t8 t9 5 5 1), .R q4 (.asg t10)]) .ret)))), [.t q4]⟩
theorem fit323 (ξ : Nat → Value) : FnFit (kn ξ) (.o (.o (.i (.o (.o (.o (.i (.o .h)))))))) c323 := ⟨kR, kR, kR, kR⟩
def c324 : CFn := ⟨46, (.c (.seq (.rg 0 [.R q4 (.asg (.c .ns))]) (.seq (.rg 1 [.R q7 (.mv t0), .cl (some q8) (.o (.i (.o (.i (.o (.o (.i (.o .h)))))))) [t7] [276] false, .R q5 (.asg t8)]) (.seq (.seq (.rg 2 [.R q9 (.mv t1), .R q10 (.bin .lss 3 t9 k0 3), .R q11 (.mv t10), .gd q11 false (.R q12 (.mv t1)), .gd q11 false (.R q13 (.bin .rem 3 t12 k2 3)), .gd q11 false (.R q14 (.bin .neq 3 t13 k0 3)), .R q15 (.pick t11 (.c (.b true)) t14), .R q16 (.mv t15), .gd q16 false (.R q17 (.mv t1)), .gd q16 false (.R q18 (.mv t0)), .gd q16 false (.R q19 (.len 276 t18 5)), .gd q16 false (.R q20 (.bin .sub 3 t19 k2 3)), .gd q16 false (.R q21 (.bin .gtr 3 t17 t20 3)), .R q22 (.pick t16 (.c (.b true)) t21)]) (.cond t22 (.seq (.rg 3 [.R q23 (.mv t5), .R q4 (.asg t23)]) .ret) .skip)) (.seq (.rg 4 [.R q24 (.mv t5), .R q25 (.mv t1), .R q26 (.mv t5), .R q27 (.mv t1), .R q28 (.bin .add 3 t27 k1 3), .R q29 (.ix 276 t24 t25 5 1), .a none (.st 5 t29 (.c (.i .u8 (.ofNat 0)))) false, .R q30 (.ix 276 t26 t28 5 1), .a none (.st 5 t30 (.c (.i .u8 (.ofNat 0)))) false]) (.seq (.rg 5 [.R q31 (.mv t5), .cl (some q32) (.o (.i (.i (.o (.o (.o (.i (.o .h)))))))) [t31] [276] false, .R q6 (.asg t32)]) (.seq (.rg 6 [.R q33 (.mv t5), .R q34 (.mv t1), .R q35 (.mv t5), .R q36 (.mv t1), .R q37 (.bin .add 3 t36 k1 3), .R q38 (.mv t6), .R q39 (.bin .shr 424 t38 (.c (.i .u64 (.ofNat 8))) 141), .R q40 (.conv 424 5 t39 .u8), .R q41 (.mv t6), .R q42 (.conv 424 5 t41 .u8), .R q43 (.ix 276 t33 t34 5 1), .a none (.st 5 t43 t40) false, .R q44 (.ix 276 t35 t37 5 1), .a none (.st 5 t44 t42) false]) (.seq (.rg 7 [.R q45 (.mv t5), .R q4 (.asg t45)]) .ret)))))))), [.t q4]⟩
theorem fit324 (ξ : Nat → Value) : FnFit (kn ξ) (.i (.o (.i (.o (.o (.o (.i (.o .h)))))))) c324 := ⟨kR, kR, kR, kR⟩
def g325_3e (T : SL CV) (x_1 : CV) : SL CV := Pg.rec (fun A B C D E F G H I J K L M N O P => Pg.rec (fun a0 a1 a2 a3 a4 a5 a6 a7 a8 _ aA aB aC aD aE aF => ⟨⟨a0,a1,a2,a3,a4,a5,a6,a7,a8,x_1,aA,aB,aC,aD,aE,aF⟩,B,C,D,E,F,G,H,I,J,K,L,M,N,O,P⟩) A) T
def g325_3 : RG := fun cf k T Y n c => roK (fBin .lss T.a0.a8 T.a0.a7) fun x_1 => k (g325_3e T x_1) Y n c
def g325_4e (T : SL CV) (x_1 x_4 x_3 : CV) : SL CV := Pg.rec (fun A B C D E F G H I J K L M N O P => Pg.rec (fun a0 a1 a2 a3 _ _ a6 a7 a8 a9 _ _ _ aD aE aF => ⟨⟨a0,a1,a2,a3,x_1,x_4,a6,a7,a8,a9,x_1,x_3,x_4,aD,aE,aF⟩,B,C,D,E,F,G,H,I,J,K,L,M,N,O,P⟩) A) T
def g325_4 : RG := fun cf k T Y n c => roK (.ok T.a0.a8) fun x_1 => roK (fIx T.a0.a6 T.a0.a8 1) fun x_3 => roK (fLd x_3 Y) fun x_4 => k (g325_4e T x_1 x_4 x_3) Y n c
def g325_5e (T : SL CV) (x_1 x_3 x_4 : CV) : SL CV := Pg.rec (fun A B C D E F G H I J K L M N O P => Pg.rec (fun a0 a1 a2 a3 a4 a5 a6 a7 a8 a9 aA aB aC _ _ _ => ⟨⟨a0,a1,a2,a3,a4,a5,a6,a7,a8,a9,aA,aB,aC,x_1,x_3,x_4⟩,B,C,D,E,F,G,H,I,J,K,L,M,N,O,P⟩) A) T
def g325_5 : RG := fun cf k T Y n c => roK (.ok T.a0.a4) fun x_1 => roK (fBin .rem x_1 (.i .i64 (.ofNat 2))) fun x_3 => roK (fBin .eql x_3 (.i .i64 (.ofNat 0))) fun x_4 => k (g325_5e T x_1 x_3 x_4) Y n c
def g325_6e (T : SL CV) (x_7 x_1 x_3 x_5 x_6 : CV) : SL CV := Pg.rec (fun A B C D E F G H I J K L M N O P => Pg.rec (fun a0 a1 a2 _ a4 a5 a6 a7 a8 a9 aA aB aC aD aE aF => Pg.rec (fun _ _ _ _ _ b5 b6 b7 b8 b9 bA bB bC bD bE bF => ⟨⟨a0,a1,a2,x_7,a4,a5,a6,a7,a8,a9,aA,aB,aC,aD,aE,aF⟩,⟨x_1,x_3,x_5,x_6,x_7,b5,b6,b7,b8,b9,bA,bB,bC,bD,bE,bF⟩,C,D,E,F,G,H,I,J,K,L,M,N,O,P⟩) B) A) T
def g325_6 : RG := fun cf k T Y n c => roK (.ok T.a0.a3) fun x_1 => roK (.ok T.a0.a5) fun x_3 => roK (fConv x_3 .u64) fun x_5 => roK (fBin .shl x_5 (.i .u64 (.ofNat 8))) fun x_6 => roK (fBin .add x_1 x_6) fun x_7 => k (g325_6e T x_7 x_1 x_3 x_5 x_6) Y n c
def g325_7e (T : SL CV) (x_6 x_1 x_3 x_5 : CV) : SL CV := Pg.rec (fun A B C D E F G H I J K L M N O P => Pg.rec (fun a0 a1 a2 _ a4 a5 a6 a7 a8 a9 aA aB aC aD aE aF => Pg.rec (fun b0 b1 b2 b3 b4 _ _ _ _ b9 bA bB bC bD bE bF => ⟨⟨a0,a1,a2,x_6,a4,a5,a6,a7,a8,a9,aA,aB,aC,aD,aE,aF⟩,⟨b0,b1,b2,b3,b4,x_1,x_3,x_5,x_6,b9,bA,bB,bC,bD,bE,bF⟩,C,D,E,F,G,H,I,J,K,L,M,N,O,P⟩) B) A) T
def g325_7 : RG := fun cf k T Y n c => roK (.ok T.a0.a3) fun x_1 => roK (.ok T.a0.a5) fun x_3 => roK (fConv x_3 .u64) fun x_5 => roK (fBin .add x_1 x_5) fun x_6 => k (g325_7e T x_6 x_1 x_3 x_5) Y n c
def g325_8e (T : SL CV) (x_1 : CV) : SL CV := Pg.rec (fun A B C D E F G H I J K L M N O P => Pg.rec (fun a0 a1 a2 a3 a4 a5 a6 a7 _ a9 aA aB aC aD aE aF => Pg.rec (fun b0 b1 b2 b3 b4 b5 b6 b7 b8 _ bA bB bC bD bE bF => ⟨⟨a0,a1,a2,a3,a4,a5,a6,a7,x_1,a9,aA,aB,aC,aD,aE,aF⟩,⟨b0,b1,b2,b3,b4,b5,b6,b7,b8,x_1,bA,bB,bC,bD,bE,bF⟩,C,D,E,F,G,H,I,J,K,L,M,N,O,P⟩) B) A) T
def g325_8 : RG := fun cf k T Y n c => roK (fBin .add T.a0.a8 (.i .i64 (.ofNat 1))) fun x_1 => k (g325_8e T x_1) Y n c
def g325_9e (T : SL CV) (x_1 x_3 x_4 : CV) : SL CV := Pg.rec (fun A B C D E F G H I J K L M N O P => Pg.rec (fun b0 b1 b2 b3 b4 b5 b6 b7 b8 b9 _ _ _ bD bE bF => ⟨A,⟨b0,b1,b2,b3,b4,b5,b6,b7,b8,b9,x_1,x_3,x_4,bD,bE,bF⟩,C,D,E,F,G,H,I,J,K,L,M,N,O,P⟩) B) T
def g325_9 : RG := fun cf k T Y n c => roK (.ok T.a0.a3) fun x_1 => roK (fBin .shr x_1 (.i .u64 (.ofNat 16))) fun x_3 => roK (fBin .gtr x_3 (.i .u64 (.ofNat 0))) fun x_4 => k (g325_9e T x_1 x_3 x_4) Y n c
def c325 : CFn := ⟨38, (.c (.seq (.rg 0 [.R q2 (.asg (.c (.i .u16 (.ofNat 0))))]) (.seq (.rg 1 [.R q3 (.asg (.c (.i .u64 (.ofNat 0))))]) (.seq (.seq (.rg 2 [.R q6 (.mv t0), .R q7 (.len 276 t6 5), .R q8 (.mv k0)]) (.block 0 (.loop (.seq (.rh 3 [.R q9 (.bin .lss 3 t8 t7 3)] g325_3) (.seq (.cond t9 .skip (.exit 0)) (.seq (.block 1 (.seq (.rh 4 [.R q10 (.mv t8), .R q11 (.ix 276 t6 t8 5 1), .R q12 (.ld 5 t11), .R q4 (.asg t10), .R q5 (.asg t12)] g325_4) (.seq (.rh 5 [.R q13 (.mv t4), .R q14 (.bin .rem 3 t13 k2 3), .R q15 (.bin .eql 3 t14 k0 3)] g325_5) (.cond t15 (.rh 6 [.R q16 (.mv t3), .R q17 (.mv t5), .R q18 (.conv 5 320 t17 .u64), .R q19 (.bin .shl 320 t18 (.c (.i .u64 (.ofNat 8))) 141), .R q20 (.bin .add 320 t16 t19 320), .R q3 (.asg t20)] g325_6) (.rh 7 [.R q21 (.mv t3), .R q22 (.mv t5), .R q23 (.conv 5 320 t22 .u64), .R q24 (.bin .add 320 t21 t23 320), .R q3 (.asg t24)] g325_7))))) (.rh 8 [.R q25 (.bin .add 3 t8 k1 3), .R q8 (.mv t25)] g325_8))))))) (.seq (.block 2 (.loop (.seq (.seq (.rh 9 [.R q26 (.mv t3), .R q27 (.bin .shr 320 t26 (.c (.i .u64 (.ofNat 16))) 141), .R q28 (.bin .gtr 320 t27 (.c (.i .u64 (.ofNat 0))) 320)] g325_9) (.cond t28 .skip (.exit 2))) (.block 3 (.rg 10 [.R q29 (.mv t3), .R q30 (.bin .shr 320 t29 (.c (.i .u64 (.ofNat 16))) 141), .R q31 (.mv t3), .R q32 (.conv 320 424 t31 .u16), .R q33 (.conv 424 320 t32 .u64), .R q34 (.bin .add 320 t30 t33 320), .R q3 (.asg t34)]))))) (.seq (.rg 11 [.R q35 (.mv t3), .R q36 (.conv 320 424 t35 .u16), .R q37 (.bnot 424 t36), .R q2 (.asg t37)]) .ret)))))), [.t q2]⟩
theorem fit325 (ξ : Nat → Value) : FnFit (kn ξ) (.o (.i (.i (.o (.o (.o (.i (.o .h)))))))) c325 := ⟨kR, kR, kR, kR⟩
def c326 : CFn := ⟨8, (.c (.seq (.rg 0 [.R q2 (.asg (.c (.i .u32 (.ofNat 0))))]) (.seq (.rg 1 [.R q3 (.mv t0), .cl (some q4) (.i (.o (.o (.i (.o (.o (.i (.o .h)))))))) [t3, k4] [392, 3] false, .R q5 (.s2a 257 t4 4), .R q6 (.ldN 257 t5 4), .cl (some q7) (.o (.i (.o (.o (.o (.o (.o (.o .h)))))))) [t6] [257] false, .R q2 (.asg t7)]) .ret))), [.t q2]⟩
theorem fit326 (ξ : Nat → Value) : FnFit (kn ξ) (.i (.i (.i (.o (.o (.o (.i (.o .h)))))))) c326 := ⟨kR, kR, kR, kR⟩
def c327 : CFn := ⟨16, (.c (.seq (.rg 0 [.R q2 (.asg k0)]) (.seq (.rg 1 [.R q4 (.mv t0), .cl (some q5) (.i (.o (.o (.i (.o (.o (.i (.o .h)))))))) [t4, k2] [392, 3] false, .R q3 (.asg t5)]) (.seq (.reg 2 true [0, 1, 2, 3, 4, 5, 6, 7, 8, 9, 10] [.Q q6 (.mv t3), .Q q7 (.ix 276 t6 k0 5 1), .Q q8 (.ld 5 t7), .Q q9 (.conv 5 3 t8 .i64), .Q q10 (.bin .shl 3 t9 (.c (.i .u64 (.ofNat 8))) 141), .Q q11 (.mv t3), .Q q12 (.ix 276 t11 k1 5 1), .Q q13 (.ld 5 t12), .Q q14 (.conv 5 3 t13 .i64), .Q q15 (.bin .or 3 t10 t14 3), .Q q2 (.asg t15)] none) .ret)))), [.t q2]⟩
theorem fit327 (ξ : Nat → Value) : FnFit (kn ξ) (.o (.o (.o (.i (.o (.o (.i (.o .h)))))))) c327 := ⟨kR, kR, kR, kR⟩
def g328_1e (T : SL CV) (x_1 x_3 x_4 x_5 x_6 x_7 x_9 : CV) : SL CV := Pg.rec (fun A B C D E F G H I J K L M N O P => Pg.rec (fun a0 a1 a2 a3 a4 a5 _ _ _ _ _ _ _ aD aE aF => ⟨⟨a0,a1,a2,a3,a4,a5,x_1,x_3,x_4,x_5,x_6,x_7,x_9,aD,aE,aF⟩,B,C,D,E,F,G,H,I,J,K,L,M,N,O,P⟩) A) T
def g328_1 : RG := fun cf k T Y n c => roK (.ok T.a0.a0) fun x_1 => roK (fNilc x_1) fun x_3 => roK (fFa x_3 0) fun x_4 => roK (fLd x_4 Y) fun x_5 => roK (fLen x_5) fun x_6 => roK (.ok T.a0.a1) fun x_7 => roK (fBin .lss x_6 x_7) fun x_9 => k (g328_1e T x_1 x_3 x_4 x_5 x_6 x_7 x_9) Y n c
def g328_4e (T : SL CV) (x_8 x_1 x_3 x_4 x_5 x_6 : CV) : SL CV := Pg.rec (fun A B C D E F G H I J K L M N O P => Pg.rec (fun a0 a1 a2 a3 a4 _ a6 a7 a8 a9 aA aB aC aD aE aF => Pg.rec (fun b0 b1 _ _ _ _ _ _ b8 b9 bA bB bC bD bE bF => ⟨⟨a0,a1,a2,a3,a4,x_8,a6,a7,a8,a9,aA,aB,aC,aD,aE,aF⟩,⟨b0,b1,x_1,x_3,x_4,x_5,x_6,x_8,b8,b9,bA,bB,bC,bD,bE,bF⟩,C,D,E,F,G,H,I,J,K,L,M,N,O,P⟩) B) A) T
def g328_4 : RG := fun cf k T Y n c => roK (.ok T.a0.a0) fun x_1 => roK (fNilc x_1) fun x_3 => roK (fFa x_3 0) fun x_4 => roK (fLd x_4 Y) fun x_5 => roK (.ok T.a0.a1) fun x_6 => roK (fSli x_5 none (some x_6) 1) fun x_8 => k (g328_4e T x_8 x_1 x_3 x_4 x_5 x_6) Y n c
def g328_5e (T : SL CV) (x_1 x_3 x_5 x_6 x_7 x_8 x_10 x_11 x_12 : CV) : SL CV := Pg.rec (fun A B C D E F G H I J K L M N O P => Pg.rec (fun b0 b1 b2 b3 b4 b5 b6 b7 _ _ _ _ _ _ _ _ => Pg.rec (fun _ c1 c2 c3 c4 c5 c6 c7 c8 c9 cA cB cC cD cE cF => ⟨A,⟨b0,b1,b2,b3,b4,b5,b6,b7,x_1,x_3,x_5,x_6,x_7,x_8,x_10,x_11⟩,⟨x_12,c1,c2,c3,c4,c5,c6,c7,c8,c9,cA,cB,cC,cD,cE,cF⟩,D,E,F,G,H,I,J,K,L,M,N,O,P⟩) C) B) T
def g328_5p1 (x_5 x_1 x_3 : CV) (Y : CH) (T : SL CV) (n : Ce.Id) (c : Nat) (k : K4) : Ao := roK (fFa x_5 0) fun x_6 => roK (fLd x_6 Y) fun x_7 => roK (.ok T.a0.a1) fun x_8 => roK (fSli x_7 (some x_8) none 1) fun x_10 => roK (fNilc x_1) fun x_11 => roK (fFa x_11 0) fun x_12 => aoK (eSt x_12 x_10 Y n c) fun x_13 Y_14 n_15 c_16 => k (g328_5e T x_1 x_3 x_5 x_6 x_7 x_8 x_10 x_11 x_12) Y_14 n_15 c_16
def g328_5 : RG := fun cf k T Y n c => roK (.ok T.a0.a0) fun x_1 => roK (.ok T.a0.a0) fun x_3 => roK (fNilc x_3) fun x_5 => g328_5p1 x_5 x_1 x_3 Y T n c k
def c328 : CFn := ⟨34, (.c (.seq (.rg 0 [.R q4 (.asg (.c .ns))]) (.seq (.seq (.rh 1 [.R q6 (.mv t0), .R q7 (.nilc t6), .R q8 (.fa 394 t7 0 0), .R q9 (.ld 276 t8), .R q10 (.len 276 t9 5), .R q11 (.mv t1), .R q12 (.bin .lss 3 t10 t11 3)] g328_1) (.cond t12 (.seq (.rg 2 [.R q13 (.mv t0), .R q14 (.nilc t13), .R q15 (.fa 394 t14 1 1), .a none (.st 4 t15 (.c (.b true))) false]) (.seq (.rg 3 [.R q16 (.mv t1), .A q17 (.mks 276 t16 t16 5 1 [.i .u8 (.ofNat 0)]), .R q4 (.asg t17)]) .ret)) .skip)) (.seq (.rh 4 [.R q18 (.mv t0), .R q19 (.nilc t18), .R q20 (.fa 394 t19 0 0), .R q21 (.ld 276 t20), .R q22 (.mv t1), .R q23 (.sli 276 t21 none (some t22) 5 1), .R q5 (.asg t23)] g328_4) (.seq (.rh 5 [.R q24 (.mv t0), .R q25 (.mv t0), .R q26 (.nilc t25), .R q27 (.fa 394 t26 0 0), .R q28 (.ld 276 t27), .R q29 (.mv t1), .R q30 (.sli 276 t28 (some t29) none 5 1), .R q31 (.nilc t24), .R q32 (.fa 394 t31 0 0), .a none (.st 276 t32 t30) false] g328_5) (.seq (.rg 6 [.R q33 (.mv t5), .R q4 (.asg t33)]) .ret)))))), [.t q4]⟩
theorem fit328 (ξ : Nat → Value) : FnFit (kn ξ) (.i (.o (.o (.i (.o (.o (.i (.o .h)))))))) c328 := ⟨kR, kR, kR, kR⟩
def g329_3e (T : SL CV) (x_7 x_1 x_5 : CV) : SL CV := Pg.rec (fun A B C D E F G H I J K L M N O P => Pg.rec (fun a0 a1 _ a3 a4 _ _ _ a8 a9 aA aB aC aD aE aF => ⟨⟨a0,a1,x_7,a3,a4,x_1,x_5,x_7,a8,a9,aA,aB,aC,aD,aE,aF⟩,B,C,D,E,F,G,H,I,J,K,L,M,N,O,P⟩) A) T
def g329_3 : RG := fun cf k T Y n c => aoK (eBs0 Y n c) fun x_1 Y_2 n_3 c_4 => roK (.ok T.a0.a0) fun x_5 => aoK (eApp x_1 x_5 5 1 Y_2 n_3 c_4) fun x_7 Y_8 n_9 c_10 => k (g329_3e T x_7 x_1 x_5) Y_8 n_9 c_10
def c329 : CFn := ⟨8, (.c (.seq (.rg 0 [.R q2 (.asg (.c .ns))]) (.seq (.seq (.rg 1 [.R q3 (.mv t0), .R q4 (.eqc false 3 276 t3 (.c .ns) 276)]) (.cond t4 (.seq (.rg 2 [.R q2 (.asg (.c .ns))]) .ret) .skip)) (.seq (.rh 3 [.A q5 (.bs0 276 5), .R q6 (.mv t0), .A q7 (.app 276 276 t5 t6 5 5 1), .R q2 (.asg t7)] g329_3) .ret)))), [.t q2]⟩
theorem fit329 (ξ : Nat → Value) : FnFit (kn ξ) (.o (.i (.o (.i (.o (.o (.i (.o .h)))))))) c329 := ⟨kR, kR, kR, kR⟩
def c335 : CFn := ⟨49, (.c (.seq (.rg 0 [.R q8 (.mv t1), .R q9 (.bin .add 3 t8 k1 3), .R q6 (.asg t9)]) (.block 0 (.loop (.seq (.seq (.rg 1 [.R q10 (.mv t6), .R q11 (.mv t2), .R q12 (.bin .lss 3 t10 t11 3)]) (.cond t12 .skip (.exit 0))) (.seq (.block 1 (.seq (.rg 3 [.R q15 (.mv t6), .R q7 (.asg t15)]) (.block 2 (.loop (.seq (.seq (.reg 4 true [0, 1, 2, 3, 4, 5, 6, 7, 8, 9, 10, 11, 12, 13, 14] [.Q q16 (.mv t7), .Q q17 (.mv t1), .Q q18 (.bin .gtr 3 t16 t17 3), .Q q19 (.mv t18), .gd q19 true (.Q q20 (.mv t0)), .gd q19 true (.Q q21 (.mv t7)), .gd q19 true (.Q q22 (.ix 63 t20 t21 3 1)), .gd q19 true (.Q q23 (.ld 3 t22)), .gd q19 true (.Q q24 (.mv t0)), .gd q19 true (.Q q25 (.mv t7)), .gd q19 true (.Q q26 (.bin .sub 3 t25 k1 3)), .gd q19 true (.Q q27 (.ix 63 t24 t26 3 1)), .gd q19 true (.Q q28 (.ld 3 t27)), .gd q19 true (.cl (some q29) (.o (.i (.i (.o (.i (.o (.i (.o .h)))))))) [t23, t28] [3, 3] false), .Q q30 (.pick t19 t29 (.c (.b false)))] none) (.cond t30 .skip (.exit 2))) (.seq (.block 3 (.reg 6 true [0, 1, 2, 3, 4, 5, 6, 7, 8, 9, 10, 11, 12, 13, 14, 15, 16, 17] [.Q q33 (.mv t0), .Q q34 (.mv t7), .Q q35 (.mv t0), .Q q36 (.mv t7), .Q q37 (.bin .sub 3 t36 k1 3), .Q q38 (.mv t0), .Q q39 (.mv t7), .Q q40 (.bin .sub 3 t39 k1 3), .Q q41 (.ix 63 t38 t40 3 1), .Q q42 (.ld 3 t41), .Q q43 (.mv t0), .Q q44 (.mv t7), .Q q45 (.ix 63 t43 t44 3 1), .Q q46 (.ld 3 t45), .Q q47 (.ix 63 t33 t34 3 1), .a none (.st 3 t47 t42) false, .Q q48 (.ix 63 t35 t37 3 1), .a none (.st 3 t48 t46) false] none)) (.rg 5 [.R q31 (.mv t7), .R q32 (.bin .sub 3 t31 k1 3), .R q7 (.asg t32)]))))))) (.rg 2 [.R q13 (.mv t6), .R q14 (.bin .add 3 t13 k1 3), .R q6 (.asg t14)]))))))), []⟩
theorem fit335 (ξ : Nat → Value) : FnFit (kn ξ) (.o (.o (.o (.o (.i (.o (.i (.o .h)))))))) c335 := ⟨kR, kR, kR, kR⟩
end Go.Proofs.YtihdpjinaafenaaGreatDoor

/- The table of functions. -/
set_option linter.unusedVariables false
set_option maxRecDepth 100000
namespace Go.Proofs.YtihdpjinaafenaaGreatDoor
open Sl Ce
def tab : CG := (.n none (.n none (.n none (.n none (.n (some c15) (.n none (.n (some c63) (.n (some c127) (.n (some c255) .e .e) .e) (.n (some c191) .e .e)) (.n (some c95) .e .e)) (.n (some c47) (.n none (.n (some c143) .e .e) (.n none (.n (some c335) .e .e) .e)) (.n none (.n (some c175) (.n (some c303) .e .e) .e) (.n (some c239) .e .e)))) (.n (some c23) (.n (some c39) (.n (some c71) (.n (some c135) (.n (some c263) .e .e) .e) (.n (some c199) (.n (some c327) .e .e) .e)) (.n none (.n (some c167) (.n (some c295) .e .e) .e) .e)) (.n (some c55) (.n none .e (.n (some c215) .e .e)) (.n (some c119) (.n (some c183) .e .e) .e)))) (.n none (.n (some c19) (.n none (.n none (.n (some c131) (.n (some c259) .e .e) .e) (.n none (.n (some c323) .e .e) .e)) (.n (some c99) (.n (some c163) .e .e) .e)) (.n (some c51) (.n none (.n (some c147) .e .e) (.n (some c211) .e .e)) (.n (some c115) (.n (some c179) .e .e) .e))) (.n none (.n (some c43) (.n (some c75) (.n (some c139) .e .e) .e) (.n (some c107) (.n (some c171) (.n (some c299) .e .e) .e) (.n (some c235) .e .e))) (.n (some c59) (.n (some c91) .e .e) (.n (some c123) (.n (some c187) (.n (some c315) .e .e) .e) (.n (some c251) .e .e)))))) (.n none (.n (some c9) (.n (some c17) (.n none (.n (some c65) (.n (some c129) (.n (some c257) .e .e) .e) .e) (.n (some c97) .e .e)) (.n none (.n none (.n (some c145) .e .e) .e) (.n (some c113) (.n (some c177) .e .e) .e))) (.n none (.n (some c41) (.n (some c73) (.n (some c137) .e .e) (.n (some c201) (.n (some c329) .e .e) .e)) (.n (some c105) .e .e)) (.n (some c57) (.n (some c89) (.n none (.n (some c281) .e .e) .e) (.n (some c217) .e .e)) (.n (some c121) (.n (some c185) .e .e) (.n (some c249) .e .e))))) (.n (some c13) (.n none (.n (some c37) (.n (some c69) (.n (some c133) (.n (some c261) .e .e) .e) (.n (some c197) (.n (some c325) .e .e) .e)) (.n none (.n (some c165) (.n (some c293) .e .e) .e) .e)) (.n (some c53) (.n none .e (.n (some c213) .e .e)) (.n none (.n (some c181) .e .e) .e))) (.n none (.n (some c45) (.n (some c77) (.n none (.n (some c269) .e .e) .e) .e) (.n none (.n (some c173) (.n (some c301) .e .e) .e) (.n (some c237) .e .e))) (.n (some c61) (.n (some c93) (.n (some c157) .e .e) .e) (.n (some c125) (.n (some c189) .e .e) (.n (some c253) .e .e))))))) (.n none (.n none (.n none (.n (some c16) (.n none (.n (some c64) (.n (some c128) (.n (some c256) .e .e) .e) (.n (some c192) .e .e)) (.n (some c96) .e .e)) (.n none (.n none (.n (some c144) .e .e) .e) (.n (some c112) (.n (some c176) .e .e) (.n (some c240) .e .e)))) (.n (some c24) (.n (some c40) (.n (some c72) (.n (some c136) .e .e) (.n (some c200) (.n (some c328) .e .e) .e)) (.n (some c104) (.n (some c168) .e .e) .e)) (.n (some c56) (.n (some c88) (.n none (.n (some c280) .e .e) .e) .e) (.n (some c120) (.n (some c184) .e .e) (.n (some c248) .e .e))))) (.n none (.n (some c20) (.n none (.n (some c68) (.n (some c132) .e .e) (.n none (.n (some c324) .e .e) .e)) (.n (some c100) (.n (some c164) (.n (some c292) .e .e) .e) .e)) (.n (some c52) (.n (some c84) .e (.n (some c212) .e .e)) (.n (some c116) (.n (some c180) .e .e) .e))) (.n none (.n (some c44) (.n (some c76) .e .e) (.n (some c108) (.n none (.n (some c300) .e .e) .e) (.n (some c236) .e .e))) (.n (some c60) (.n (some c92) (.n (some c156) .e .e) .e) (.n (some c124) (.n (some c188) .e .e) (.n (some c252) .e .e)))))) (.n none (.n none (.n (some c18) (.n none (.n (some c66) (.n (some c130) (.n (some c258) .e .e) .e) .e) (.n (some c98) (.n (some c162) .e .e) .e)) (.n none (.n none (.n (some c146) .e .e) .e) (.n (some c114) (.n (some c178) .e .e) .e))) (.n (some c26) (.n (some c42) (.n none (.n (some c138) .e .e) .e) (.n (some c106) (.n (some c170) .e .e) (.n (some c234) .e .e))) (.n (some c58) (.n (some c90) .e (.n (some c218) .e .e)) (.n (some c122) (.n (some c186) .e .e) (.n (some c250) .e .e))))) (.n (some c14) (.n (some c22) (.n (some c38) (.n none (.n (some c134) (.n (some c262) .e .e) .e) (.n none (.n (some c326) .e .e) .e)) (.n (some c102) (.n (some c166) (.n (some c294) .e .e) .e) .e)) (.n (some c54) (.n none (.n (some c150) .e .e) (.n (some c214) .e .e)) (.n (some c118) (.n (some c182) .e .e) .e))) (.n none (.n none (.n (some c78) .e .e) (.n none (.n (some c174) .e .e) .e)) (.n (some c62) (.n (some c94) .e (.n (some c222) .e .e)) (.n (some c126) (.n (some c190) .e .e) (.n (some c254) .e .e))))))))
theorem tab_fit (ξ : Nat → Value) : GFit (kn ξ) tab := allF_fit (AllF.n (AllF.no) (AllF.n (AllF.no) (AllF.n (AllF.no) (AllF.n (AllF.no) (AllF.n (AllF.v (fit15 ξ)) (AllF.n (AllF.no) (AllF.n (AllF.v (fit63 ξ)) (AllF.n (AllF.v (fit127 ξ)) (AllF.n (AllF.v (fit255 ξ)) AllF.e AllF.e) AllF.e) (AllF.n (AllF.v (fit191 ξ)) AllF.e AllF.e)) (AllF.n (AllF.v (fit95 ξ)) AllF.e AllF.e)) (AllF.n (AllF.v (fit47 ξ)) (AllF.n (AllF.no) (AllF.n (AllF.v (fit143 ξ)) AllF.e AllF.e) (AllF.n (AllF.no) (AllF.n (AllF.v (fit335 ξ)) AllF.e AllF.e) AllF.e)) (AllF.n (AllF.no) (AllF.n (AllF.v (fit175 ξ)) (AllF.n (AllF.v (fit303 ξ)) AllF.e AllF.e) AllF.e) (AllF.n (AllF.v (fit239 ξ)) AllF.e AllF.e)))) (AllF.n (AllF.v (fit23 ξ)) (AllF.n (AllF.v (fit39 ξ)) (AllF.n (AllF.v (fit71 ξ)) (AllF.n (AllF.v (fit135 ξ)) (AllF.n (AllF.v (fit263 ξ)) AllF.e AllF.e) AllF.e) (AllF.n (AllF.v (fit199 ξ)) (AllF.n (AllF.v (fit327 ξ)) AllF.e AllF.e) AllF.e)) (AllF.n (AllF.no) (AllF.n (AllF.v (fit167 ξ)) (AllF.n (AllF.v (fit295 ξ)) AllF.e AllF.e) AllF.e) AllF.e)) (AllF.n (AllF.v (fit55 ξ)) (AllF.n (AllF.no) AllF.e (AllF.n (AllF.v (fit215 ξ)) AllF.e AllF.e)) (AllF.n (AllF.v (fit119 ξ)) (AllF.n (AllF.v (fit183 ξ)) AllF.e AllF.e) AllF.e)))) (AllF.n (AllF.no) (AllF.n (AllF.v (fit19 ξ)) (AllF.n (AllF.no) (AllF.n (AllF.no) (AllF.n (AllF.v (fit131 ξ)) (AllF.n (AllF.v (fit259 ξ)) AllF.e AllF.e) AllF.e) (AllF.n (AllF.no) (AllF.n (AllF.v (fit323 ξ)) AllF.e AllF.e) AllF.e)) (AllF.n (AllF.v (fit99 ξ)) (AllF.n (AllF.v (fit163 ξ)) AllF.e AllF.e) AllF.e)) (AllF.n (AllF.v (fit51 ξ)) (AllF.n (AllF.no) (AllF.n (AllF.v (fit147 ξ)) AllF.e AllF.e) (AllF.n (AllF.v (fit211 ξ)) AllF.e AllF.e)) (AllF.n (AllF.v (fit115 ξ)) (AllF.n (AllF.v (fit179 ξ)) AllF.e AllF.e) AllF.e))) (AllF.n (AllF.no) (AllF.n (AllF.v (fit43 ξ)) (AllF.n (AllF.v (fit75 ξ)) (AllF.n (AllF.v (fit139 ξ)) AllF.e AllF.e) AllF.e) (AllF.n (AllF.v (fit107 ξ)) (AllF.n (AllF.v (fit171 ξ)) (AllF.n (AllF.v (fit299 ξ)) AllF.e AllF.e) AllF.e) (AllF.n (AllF.v (fit235 ξ)) AllF.e AllF.e))) (AllF.n (AllF.v (fit59 ξ)) (AllF.n (AllF.v (fit91 ξ)) AllF.e AllF.e) (AllF.n (AllF.v (fit123 ξ)) (AllF.n (AllF.v (fit187 ξ)) (AllF.n (AllF.v (fit315 ξ)) AllF.e AllF.e) AllF.e) (AllF.n (AllF.v (fit251 ξ)) AllF.e AllF.e)))))) (AllF.n (AllF.no) (AllF.n (AllF.v (fit9 ξ)) (AllF.n (AllF.v (fit17 ξ)) (AllF.n (AllF.no) (AllF.n (AllF.v (fit65 ξ)) (AllF.n (AllF.v (fit129 ξ)) (AllF.n (AllF.v (fit257 ξ)) AllF.e AllF.e) AllF.e) AllF.e) (AllF.n (AllF.v (fit97 ξ)) AllF.e AllF.e)) (AllF.n (AllF.no) (AllF.n (AllF.no) (AllF.n (AllF.v (fit145 ξ)) AllF.e AllF.e) AllF.e) (AllF.n (AllF.v (fit113 ξ)) (AllF.n (AllF.v (fit177 ξ)) AllF.e AllF.e) AllF.e))) (AllF.n (AllF.no) (AllF.n (AllF.v (fit41 ξ)) (AllF.n (AllF.v (fit73 ξ)) (AllF.n (AllF.v (fit137 ξ)) AllF.e AllF.e) (AllF.n (AllF.v (fit201 ξ)) (AllF.n (AllF.v (fit329 ξ)) AllF.e AllF.e) AllF.e)) (AllF.n (AllF.v (fit105 ξ)) AllF.e AllF.e)) (AllF.n (AllF.v (fit57 ξ)) (AllF.n (AllF.v (fit89 ξ)) (AllF.n (AllF.no) (AllF.n (AllF.v (fit281 ξ)) AllF.e AllF.e) AllF.e) (AllF.n (AllF.v (fit217 ξ)) AllF.e AllF.e)) (AllF.n (AllF.v (fit121 ξ)) (AllF.n (AllF.v (fit185 ξ)) AllF.e AllF.e) (AllF.n (AllF.v (fit249 ξ)) AllF.e AllF.e))))) (AllF.n (AllF.v (fit13 ξ)) (AllF.n (AllF.no) (AllF.n (AllF.v (fit37 ξ)) (AllF.n (AllF.v (fit69 ξ)) (AllF.n (AllF.v (fit133 ξ)) (AllF.n (AllF.v (fit261 ξ)) AllF.e AllF.e) AllF.e) (AllF.n (AllF.v (fit197 ξ)) (AllF.n (AllF.v (fit325 ξ)) AllF.e AllF.e) AllF.e)) (AllF.n (AllF.no) (AllF.n (AllF.v (fit165 ξ)) (AllF.n (AllF.v (fit293 ξ)) AllF.e AllF.e) AllF.e) AllF.e)) (AllF.n (AllF.v (fit53 ξ)) (AllF.n (AllF.no) AllF.e (AllF.n (AllF.v (fit213 ξ)) AllF.e AllF.e)) (AllF.n (AllF.no) (AllF.n (AllF.v (fit181 ξ)) AllF.e AllF.e) AllF.e))) (AllF.n (AllF.no) (AllF.n (AllF.v (fit45 ξ)) (AllF.n (AllF.v (fit77 ξ)) (AllF.n (AllF.no) (AllF.n (AllF.v (fit269 ξ)) AllF.e AllF.e) AllF.e) AllF.e) (AllF.n (AllF.no) (AllF.n (AllF.v (fit173 ξ)) (AllF.n (AllF.v (fit301 ξ)) AllF.e AllF.e) AllF.e) (AllF.n (AllF.v (fit237 ξ)) AllF.e AllF.e))) (AllF.n (AllF.v (fit61 ξ)) (AllF.n (AllF.v (fit93 ξ)) (AllF.n (AllF.v (fit157 ξ)) AllF.e AllF.e) AllF.e) (AllF.n (AllF.v (fit125 ξ)) (AllF.n (AllF.v (fit189 ξ)) AllF.e AllF.e) (AllF.n (AllF.v (fit253 ξ)) AllF.e AllF.e))))))) (AllF.n (AllF.no) (AllF.n (AllF.no) (AllF.n (AllF.no) (AllF.n (AllF.v (fit16 ξ)) (AllF.n (AllF.no) (AllF.n (AllF.v (fit64 ξ)) (AllF.n (AllF.v (fit128 ξ)) (AllF.n (AllF.v (fit256 ξ)) AllF.e AllF.e) AllF.e) (AllF.n (AllF.v (fit192 ξ)) AllF.e AllF.e)) (AllF.n (AllF.v (fit96 ξ)) AllF.e AllF.e)) (AllF.n (AllF.no) (AllF.n (AllF.no) (AllF.n (AllF.v (fit144 ξ)) AllF.e AllF.e) AllF.e) (AllF.n (AllF.v (fit112 ξ)) (AllF.n (AllF.v (fit176 ξ)) AllF.e AllF.e) (AllF.n (AllF.v (fit240 ξ)) AllF.e AllF.e)))) (AllF.n (AllF.v (fit24 ξ)) (AllF.n (AllF.v (fit40 ξ)) (AllF.n (AllF.v (fit72 ξ)) (AllF.n (AllF.v (fit136 ξ)) AllF.e AllF.e) (AllF.n (AllF.v (fit200 ξ)) (AllF.n (AllF.v (fit328 ξ)) AllF.e AllF.e) AllF.e)) (AllF.n (AllF.v (fit104 ξ)) (AllF.n (AllF.v (fit168 ξ)) AllF.e AllF.e) AllF.e)) (AllF.n (AllF.v (fit56 ξ)) (AllF.n (AllF.v (fit88 ξ)) (AllF.n (AllF.no) (AllF.n (AllF.v (fit280 ξ)) AllF.e AllF.e) AllF.e) AllF.e) (AllF.n (AllF.v (fit120 ξ)) (AllF.n (AllF.v (fit184 ξ)) AllF.e AllF.e) (AllF.n (AllF.v (fit248 ξ)) AllF.e AllF.e))))) (AllF.n (AllF.no) (AllF.n (AllF.v (fit20 ξ)) (AllF.n (AllF.no) (AllF.n (AllF.v (fit68 ξ)) (AllF.n (AllF.v (fit132 ξ)) AllF.e AllF.e) (AllF.n (AllF.no) (AllF.n (AllF.v (fit324 ξ)) AllF.e AllF.e) AllF.e)) (AllF.n (AllF.v (fit100 ξ)) (AllF.n (AllF.v (fit164 ξ)) (AllF.n (AllF.v (fit292 ξ)) AllF.e AllF.e) AllF.e) AllF.e)) (AllF.n (AllF.v (fit52 ξ)) (AllF.n (AllF.v (fit84 ξ)) AllF.e (AllF.n (AllF.v (fit212 ξ)) AllF.e AllF.e)) (AllF.n (AllF.v (fit116 ξ)) (AllF.n (AllF.v (fit180 ξ)) AllF.e AllF.e) AllF.e))) (AllF.n (AllF.no) (AllF.n (AllF.v (fit44 ξ)) (AllF.n (AllF.v (fit76 ξ)) AllF.e AllF.e) (AllF.n (AllF.v (fit108 ξ)) (AllF.n (AllF.no) (AllF.n (AllF.v (fit300 ξ)) AllF.e AllF.e) AllF.e) (AllF.n (AllF.v (fit236 ξ)) AllF.e AllF.e))) (AllF.n (AllF.v (fit60 ξ)) (AllF.n (AllF.v (fit92 ξ)) (AllF.n (AllF.v (fit156 ξ)) AllF.e AllF.e) AllF.e) (AllF.n (AllF.v (fit124 ξ)) (AllF.n (AllF.v (fit188 ξ)) AllF.e AllF.e) (AllF.n (AllF.v (fit252 ξ)) AllF.e AllF.e)))))) (AllF.n (AllF.no) (AllF.n (AllF.no) (AllF.n (AllF.v (fit18 ξ)) (AllF.n (AllF.no) (AllF.n (AllF.v (fit66 ξ)) (AllF.n (AllF.v (fit130 ξ)) (AllF.n (AllF.v (fit258 ξ)) AllF.e AllF.e) AllF.e) AllF.e) (AllF.n (AllF.v (fit98 ξ)) (AllF.n (AllF.v (fit162 ξ)) AllF.e AllF.e) AllF.e)) (AllF.n (AllF.no) (AllF.n (AllF.no) (AllF.n (AllF.v (fit146 ξ)) AllF.e AllF.e) AllF.e) (AllF.n (AllF.v (fit114 ξ)) (AllF.n (AllF.v (fit178 ξ)) AllF.e AllF.e) AllF.e))) (AllF.n (AllF.v (fit26 ξ)) (AllF.n (AllF.v (fit42 ξ)) (AllF.n (AllF.no) (AllF.n (AllF.v (fit138 ξ)) AllF.e AllF.e) AllF.e) (AllF.n (AllF.v (fit106 ξ)) (AllF.n (AllF.v (fit170 ξ)) AllF.e AllF.e) (AllF.n (AllF.v (fit234 ξ)) AllF.e AllF.e))) (AllF.n (AllF.v (fit58 ξ)) (AllF.n (AllF.v (fit90 ξ)) AllF.e (AllF.n (AllF.v (fit218 ξ)) AllF.e AllF.e)) (AllF.n (AllF.v (fit122 ξ)) (AllF.n (AllF.v (fit186 ξ)) AllF.e AllF.e) (AllF.n (AllF.v (fit250 ξ)) AllF.e AllF.e))))) (AllF.n (AllF.v (fit14 ξ)) (AllF.n (AllF.v (fit22 ξ)) (AllF.n (AllF.v (fit38 ξ)) (AllF.n (AllF.no) (AllF.n (AllF.v (fit134 ξ)) (AllF.n (AllF.v (fit262 ξ)) AllF.e AllF.e) AllF.e) (AllF.n (AllF.no) (AllF.n (AllF.v (fit326 ξ)) AllF.e AllF.e) AllF.e)) (AllF.n (AllF.v (fit102 ξ)) (AllF.n (AllF.v (fit166 ξ)) (AllF.n (AllF.v (fit294 ξ)) AllF.e AllF.e) AllF.e) AllF.e)) (AllF.n (AllF.v (fit54 ξ)) (AllF.n (AllF.no) (AllF.n (AllF.v (fit150 ξ)) AllF.e AllF.e) (AllF.n (AllF.v (fit214 ξ)) AllF.e AllF.e)) (AllF.n (AllF.v (fit118 ξ)) (AllF.n (AllF.v (fit182 ξ)) AllF.e AllF.e) AllF.e))) (AllF.n (AllF.no) (AllF.n (AllF.no) (AllF.n (AllF.v (fit78 ξ)) AllF.e AllF.e) (AllF.n (AllF.no) (AllF.n (AllF.v (fit174 ξ)) AllF.e AllF.e) AllF.e)) (AllF.n (AllF.v (fit62 ξ)) (AllF.n (AllF.v (fit94 ξ)) AllF.e (AllF.n (AllF.v (fit222 ξ)) AllF.e AllF.e)) (AllF.n (AllF.v (fit126 ξ)) (AllF.n (AllF.v (fit190 ξ)) AllF.e AllF.e) (AllF.n (AllF.v (fit254 ξ)) AllF.e AllF.e))))))))
end Go.Proofs.YtihdpjinaafenaaGreatDoor

/- The evaluator: answers known ahead of time: Number's of values not looked at; a call that was evaluated. -/
set_option linter.unusedVariables false
set_option linter.unusedSimpArgs false
namespace Go.Proofs.YtihdpjinaafenaaGreatDoor.Ce
open Go.Proofs.YtihdpjinaafenaaGreatDoor.Sl Go.RowKit
variable {P : Program}
def posB : Pos → Pos → Bool
 | .h, .h => true
 | .o p, .o q => posB p q
 | .i p, .i q => posB p q
 | _, _ => false
theorem posB_eq : ∀ {p q : Pos}, posB p q = true → p = q
 | .h, .h, _ => rfl
 | .o p, .o q, h => by rw [posB_eq (p := p) (q := q) h]
 | .i p, .i q, h => by rw [posB_eq (p := p) (q := q) h]
 | .h, .o _, h => by cases h
 | .h, .i _, h => by cases h
 | .o _, .h, h => by cases h
 | .o _, .i _, h => by cases h
 | .i _, .h, h => by cases h
 | .i _, .o _, h => by cases h
theorem calls_pure {f : FuncId} {args : Array Value} {R : Value → Heap → Prop} (c : SCalls P f args (fun _ => none) R) (h : Heap) : SCalls P f args h (fun r h' => h.le h' ∧ ∃ h1, R r h1) := by
 intro w rel
 refine (c w (fun b o e => by cases e)).mono ?_
 rintro e w' ⟨v, h1, rfl, hR, r, st⟩
 refine ⟨v, h, rfl, ⟨Heap.le_refl _, h1, hR⟩, fun b o e => ?_, ⟨st.os, st.tape, st.output, st.size, fun b hb _ => st.keep b hb rfl, fun b e1 e2 => absurd e1 e2⟩⟩
 rw [st.keep b (rel.lt e) rfl]; exact rel b o e
def lookN (j b : Nat) : List (Nat × Nat × Nat) → Option CV
 | [] => none
 | e :: r => bif Nat.beq j e.1 && Nat.beq b e.2.1 then some (.i .i64 (.ofNat e.2.2)) else lookN j b r
def numF (tb : List (Nat × Nat × Nat)) : NF := fun args H n ck => match args with
 | [.xi j, .i .i64 (.ofNat b)] => match lookN j b tb with
  | some v => some (.ok v H n ck)
  | none => none
 | _ => none
def tfF : NF := fun args H n ck => match args with
 | [] => some (.ok (.b true) H n ck)
 | _ => none
def lookF (f : Pos) (l : List (Pos × NF)) : Option NF := List.rec none (fun e _ ih => Bool.rec ih (some e.2) (posB f e.1)) l
def omL (l : List (Pos × NF)) : Om := fun f args H n ck => Option.rec none (fun F => F args H n ck) (lookF f l)
def omX (num : Pos) (fs : List Pos) (tb : List (Nat × Nat × Nat)) (ex : List (Pos × NF)) : Om := omL ((num, numF tb) :: (fs.map (fun f => (f, tfF)) ++ ex))
theorem lookN_mem {j b : Nat} {v : CV} : ∀ {tb : List (Nat × Nat × Nat)}, lookN j b tb = some v → ∃ r, (j, b, r) ∈ tb ∧ v = .i .i64 (.ofNat r)
 | [], h => by cases h
 | (j', b', r) :: tb, h => by
  unfold lookN at h
  cases hb : (Nat.beq j j' && Nat.beq b b') with
  | true =>
   rw [hb] at h
   cases h
   simp only [Bool.and_eq_true, Nat.beq_eq] at hb
   exact ⟨r, by simp [hb.1, hb.2], rfl⟩
  | false =>
   rw [hb] at h
   obtain ⟨r', h1, h2⟩ := lookN_mem h
   exact ⟨r', List.mem_cons_of_mem _ h1, h2⟩
theorem lookF_mem {f : Pos} {F : NF} : ∀ {l : List (Pos × NF)}, lookF f l = some F → (f, F) ∈ l
 | [], h => by cases h
 | (g, G) :: l, h => by
  replace h : (Bool.rec (lookF f l) (some G) (posB f g) : Option NF) = some F := h
  cases hp : posB f g with
  | true => rw [hp] at h; cases h; rw [posB_eq hp]; exact List.mem_cons_self
  | false => rw [hp] at h; exact List.mem_cons_of_mem _ (lookF_mem h)
theorem omL_ok {N : Kn P} {l : List (Pos × NF)} (h : ∀ e ∈ l, NFOk N e.1 e.2) : OmOk N (omL l) := by
 intro f args H n ck v H' n' ck' e
 replace e : (Option.rec none (fun F => F args H n ck) (lookF f l) : Option Ao) = some (.ok v H' n' ck') := e
 cases hl : lookF f l with
 | none => rw [hl] at e; cases e
 | some F =>
  rw [hl] at e
  exact h (f, F) (lookF_mem hl) args H n ck v H' n' ck' e
theorem numF_ok {N : Kn P} {num : Pos} {tb : List (Nat × Nat × Nat)} (ai : Nat → Int) (hx : ∀ j, N.ξ j = .int .i64 (ai j)) (htb : ∀ j b r, (j, b, r) ∈ tb → ai j % (b : Int) = (r : Int) ∧ 0 < b ∧ b ≤ 4611686018427387904)
  (hnum : Ab.okCall P (num.nat - 1) = true) (hN : ∀ (n b : Int) (h : Heap), 0 < b → b ≤ 4611686018427387904 → SCalls P (num.nat - 1) #[.int .i64 n, .int .i64 b] h (fun v h' => h' = h ∧ v = .int .i64 (n % b))) : NFOk N num (numF tb) := by
 intro args H n ck v H' n' ck' e β h vs hr rv
 unfold numF at e
 split at e
 ·rename_i j b
  split at e
  ·rename_i v0 hv0
   cases e
   obtain ⟨r, hr1, rfl⟩ := lookN_mem hv0
   obtain ⟨h1, h2, h3⟩ := htb j b r hr1
   refine ⟨hnum, ?_⟩
   cases rv with
   | cons r1 rv =>
    cases rv with
    | cons r2 rv =>
     cases rv
     cases r1
     cases r2
     rw [hr.xs, hx]
     refine (hN (ai j) (b : Int) h (by omega) (by omega)).mono fun u h' ⟨e1, e2⟩ => ?_
     subst e1
     rw [e2, h1]
     exact aft_le hr (Heap.le_refl _) (.i _ _)
  ·cases e
 ·cases e
theorem tfF_ok {N : Kn P} {f : Pos} (h1 : Ab.okCall P (f.nat - 1) = true) (h2 : SCalls P (f.nat - 1) #[] (fun _ => none) (fun r _ => r = .bool true)) : NFOk N f tfF := by
 intro args H n ck v H' n' ck' e β h vs hr rv
 unfold tfF at e
 split at e
 ·cases e
  refine ⟨h1, ?_⟩
  cases rv
  refine (calls_pure h2 h).mono fun u h' ⟨e1, _, e2⟩ => ?_
  rw [e2]
  exact aft_le hr e1 (.b true)
 ·cases e
theorem omX_ok {N : Kn P} {num : Pos} {fs : List Pos} {tb : List (Nat × Nat × Nat)} {ex : List (Pos × NF)} (ai : Nat → Int) (hx : ∀ j, N.ξ j = .int .i64 (ai j)) (htb : ∀ j b r, (j, b, r) ∈ tb → ai j % (b : Int) = (r : Int) ∧ 0 < b ∧ b ≤ 4611686018427387904)
  (hnum : Ab.okCall P (num.nat - 1) = true) (hN : ∀ (n b : Int) (h : Heap), 0 < b → b ≤ 4611686018427387904 → SCalls P (num.nat - 1) #[.int .i64 n, .int .i64 b] h (fun v h' => h' = h ∧ v = .int .i64 (n % b)))
  (hfs : ∀ f ∈ fs, Ab.okCall P (f.nat - 1) = true ∧ SCalls P (f.nat - 1) #[] (fun _ => none) (fun r _ => r = .bool true)) (hex : ∀ e ∈ ex, NFOk N e.1 e.2) : OmOk N (omX num fs tb ex) := by
 refine omL_ok fun e he => ?_
 rcases List.mem_cons.1 he with rfl | he
 ·exact numF_ok ai hx htb hnum hN
 ·rcases List.mem_append.1 he with he | he
  ·obtain ⟨f, hf, rfl⟩ := List.mem_map.1 he
   exact tfF_ok (hfs f hf).1 (hfs f hf).2
  ·exact hex e he
def om0 : Om := fun _ _ _ _ _ => none
theorem om0_ok {N : Kn P} : OmOk N om0 := fun _ _ _ _ _ _ _ _ _ e => by cases e
end Go.Proofs.YtihdpjinaafenaaGreatDoor.Ce

/- Plain facts on addresses' bits. No program. -/
set_option linter.unusedVariables false
set_option linter.unusedSimpArgs false
namespace Go.Proofs.YtihdpjinaafenaaGreatDoor
theorem wrap64_in (n : Int) (h : -9223372036854775808 ≤ n) (h' : n ≤ 9223372036854775807) : IntKind.i64.wrap n = n := by
 show (if (true && decide (n % 18446744073709551616 ≥ 9223372036854775808)) = true then n % 18446744073709551616 - 18446744073709551616 else n % 18446744073709551616) = n
 simp only [Bool.true_and, decide_eq_true_eq]
 split <;> omega
theorem wrap64_nat (n : Int) (m : Nat) (h : n = (m : Int)) (h' : m ≤ 9223372036854775807) : IntKind.i64.wrap n = (m : Int) := by rw [h, wrap64_in _ (by omega) (by omega)]
def maskNat (m : Nat) : Nat := 4294967296 - 2 ^ (32 - m)
def cut (A m : Nat) : Nat := A &&& maskNat m
end Go.Proofs.YtihdpjinaafenaaGreatDoor

/- rivuletworld.Number. -/
set_option linter.unusedVariables false
set_option linter.unusedSimpArgs false
namespace Go.Proofs.YtihdpjinaafenaaGreatDoor
open Sl
theorem tmod_fix (n b : Int) (hb : 0 < b) : (0 ≤ n.tmod b → n.tmod b = n % b) ∧ (n.tmod b < 0 → n.tmod b + b = n % b) ∧ -b < n.tmod b ∧ n.tmod b < b := by
 have h1 := Int.tmod_eq_emod (a := n) (b := b)
 have h2 := Int.emod_nonneg n (show b ≠ 0 by omega)
 have h3 := Int.emod_lt_of_pos n hb
 have hab : (b.natAbs : Int) = b := by omega
 split at h1
 ·omega
 ·rename_i hc
  have hne : n % b ≠ 0 := fun e => hc (.inr (Int.dvd_of_emod_eq_zero e))
  rw [hab] at h1
  omega
theorem number_ok (n b : Int) (hb : 0 < b) (hb' : b ≤ 4611686018427387904) (h : Heap) : SCalls Tryz.prog 13 #[.int .i64 n, .int .i64 b] h (fun v h' => h' = h ∧ v = .int .i64 (n % b)) := by
 refine s_enter Tryz.func13 rfl (by rw [Tryz.ntmps13]; simp) ?_
 rw [Tryz.ntmps13]
 obtain ⟨hf1, hf2, hlow, hhigh⟩ := tmod_fix n b hb
 have h2 := Int.emod_nonneg n (show b ≠ 0 by omega)
 have h3 := Int.emod_lt_of_pos n hb
 have hbn : b ≠ 0 := by omega
 have hbn' : (b == 0) = false := by simp [hbn]
 have hw : IntKind.i64.wrap (n.tmod b) = n.tmod b := wrap64_in _ (by omega) (by omega)
 generalize hT : T0 #[.int .i64 n, .int .i64 b] = T
 have h0 : T 0 = .int .i64 n := by rw [← hT]; rfl
 have h1 : T 1 = .int .i64 b := by rw [← hT]; rfl
 clear hT
 repeat refine s_seq ?_
 repeat refine s_seq ?_
 refine s_region ?_
 refine w_pv rfl dC (want_none rfl) (p_val evA) ?_
 refine w_nil ?_
 repeat refine s_seq ?_
 refine s_region ?_
 refine w_pv rfl dC (want_none rfl) (p_val evA) ?_
 refine w_pv rfl dC (want_none rfl) (p_val evA) ?_
 refine w_rd rfl dC (want_none rfl) (r_rem rfl evA evA arA) ?_
 refine w_pv rfl dC (want_none rfl) (p_val evA) ?_
 refine w_nil ?_
 repeat refine s_seq ?_
 refine s_region ?_
 refine w_pv rfl dC (want_none rfl) (p_val evA) ?_
 refine w_pv rfl dC (want_none rfl) (p_val evA) ?_
 refine w_nil ?_
 generalize n.tmod b = r at *
 generalize n % b = r' at *
 by_cases hr : r < 0
 ·have hd : decide (r < 0) = true := decide_eq_true hr
  have hw2 : IntKind.i64.wrap (r + b) = r' := by rw [hf2 hr]; exact wrap64_in _ (by omega) (by omega)
  clear hf1 hf2
  repeat refine s_seq ?_
  refine s_cond (t := true) slA ?_
  repeat refine s_seq ?_
  refine s_region ?_
  refine w_pv rfl dC (want_none rfl) (p_val evA) ?_
  refine w_pv rfl dC (want_none rfl) (p_val evA) ?_
  refine w_pv rfl dC (want_none rfl) (p_val evA) ?_
  refine w_pv rfl dC (want_none rfl) (p_val evA) ?_
  refine w_nil ?_
  repeat refine s_seq ?_
  refine s_region ?_
  refine w_pv rfl dC (want_none rfl) (p_val evA) ?_
  refine w_pv rfl dC (want_none rfl) (p_val evA) ?_
  refine w_nil ?_
  refine s_ret ⟨_, res_one rfl rfl, rfl, ?_⟩
  simp only [pval, ev, upd, binVal, intBin, Option.map_some, ↓reduceIte, reduceCtorEq, Nat.reduceEqDiff, Nat.reduceBEq, List.map_toArray, List.map_cons, List.map_nil, cond_true, cond_false, decide_true, decide_false, Bool.not_true, Bool.not_false, Bool.true_and, Bool.false_and, Bool.and_true, Bool.and_false, beq_self_eq_true, bne_self_eq_false, List.getElem_toArray, List.getElem_cons_succ, List.getElem_cons_zero, *]
 ·have hd : decide (r < 0) = false := decide_eq_false hr
  have hw2 : r = r' := hf1 (by omega)
  subst hw2
  clear hf1 hf2
  repeat refine s_seq ?_
  refine s_cond (t := false) slA ?_
  repeat refine s_seq ?_
  refine s_skip ?_
  repeat refine s_seq ?_
  refine s_region ?_
  refine w_pv rfl dC (want_none rfl) (p_val evA) ?_
  refine w_pv rfl dC (want_none rfl) (p_val evA) ?_
  refine w_nil ?_
  refine s_ret ⟨_, res_one rfl rfl, rfl, ?_⟩
  simp only [pval, ev, upd, binVal, intBin, Option.map_some, ↓reduceIte, reduceCtorEq, Nat.reduceEqDiff, Nat.reduceBEq, List.map_toArray, List.map_cons, List.map_nil, cond_true, cond_false, decide_true, decide_false, Bool.not_true, Bool.not_false, Bool.true_and, Bool.false_and, Bool.and_true, Bool.and_false, beq_self_eq_true, bne_self_eq_false, List.getElem_toArray, List.getElem_cons_succ, List.getElem_cons_zero, *]
end Go.Proofs.YtihdpjinaafenaaGreatDoor

/- Which keys are sound: checked by reckoning. -/
set_option linter.unusedVariables false
set_option linter.unusedSimpArgs false
namespace Go.Proofs.YtihdpjinaafenaaGreatDoor.Sl
mutual
def ckv (P : Program) : Nat → TypeId → Value → Bool
 | 0, _, _ => false
 | n + 1, t, v => match P.underlying t, v with
  | some (.struct fs), .agg cs => ckvF P n cs fs.toList
  | some (.int _), _ => true
  | some .string, _ => true
  | some .bool, _ => true
  | _, _ => false
def ckvF (P : Program) : Nat → Array Value → List Field → Bool
 | _, _, [] => true
 | n, cs, f :: r => (if f.name = "_" then true else match partV P f.type cs f.offset with | some a => ckv P n f.type a | none => false) && ckvF P n cs r
end
theorem run_ckv {P : Program} : ∀ (n : Nat) (t : TypeId) (v : Value) (emp : Bool) (w : World), ckv P n t v = true → (Instr.checkKey emp n t v).run P w = .ok () w := by
 intro n
 induction n with
 | zero => intro t v emp w h; simp [ckv] at h
 | succ n ih =>
  have ihF : ∀ (fs : List Field) (cs : Array Value) (emp : Bool) (w : World), ckvF P n cs fs = true → (forIn (m := Sem) fs PUnit.unit fun f __s => if f.name = "_" then pure (ForInStep.yield PUnit.unit) else do
    let x ← part f.type cs f.offset
    (fun a => ForInStep.yield PUnit.unit) <$> Instr.checkKey emp n f.type x).run P w = .ok PUnit.unit w := by
   intro fs
   induction fs with
   | nil => intro cs emp w h; rfl
   | cons f r ihr =>
    intro cs emp w h
    simp only [ckvF, Bool.and_eq_true] at h
    obtain ⟨h1, h2⟩ := h
    have ih2 := ihr cs emp w h2
    simp only [List.forIn_cons, Sem.run_bind]
    by_cases hf : f.name = "_"
    ·simp only [hf, if_true, Sem.run_pure, Result.andThen_ok]; exact ih2
    ·simp only [hf, if_false] at h1
     cases hp : partV P f.type cs f.offset with
     | none => rw [hp] at h1; cases h1
     | some a =>
      rw [hp] at h1
      simp only [hf, if_false, Sem.run_bind, run_partV hp, Result.andThen_ok, Sem.run_map, ih f.type a emp w h1, Sem.run_pure]
      exact ih2
  intro t v emp w h
  unfold ckv at h
  split at h
  ·rename_i fs cs hu
   simp only [Instr.checkKey, Sem.run_bind, run_underlying hu, Result.andThen_ok]
   have := ihF fs.toList cs emp w h
   rw [Array.forIn_toList] at this
   simp [this]
  all_goals first | (rename_i hu; simp [Instr.checkKey, run_underlying hu]; done) | (cases h; done)
end Go.Proofs.YtihdpjinaafenaaGreatDoor.Sl
namespace Go.Proofs.YtihdpjinaafenaaGreatDoor
open Sl
structure Chg (D D' : Nat → Prop) (h h' : Heap) : Prop where
 keep : ∀ b o, ¬ D b → h b = some o → h' b = some o
 ext : ∀ b, D' b → D b ∨ h b = none
theorem Chg.refl (D : Nat → Prop) (h : Heap) : Chg D D h h := ⟨fun _ _ _ e => e, fun _ d => .inl d⟩
theorem Chg.trans {D D1 D2 : Nat → Prop} {h h1 h2 : Heap} (a : Chg D D1 h h1) (b : Chg D1 D2 h1 h2) : Chg D D2 h h2 where
 keep := fun k o hn e => b.keep k o (fun d => by
  rcases a.ext k d with d | d
  ·exact hn d
  ·rw [d] at e; cases e) (a.keep k o hn e)
 ext := fun k d => by
  rcases b.ext k d with d | d
  ·exact a.ext k d
  ·by_cases hd : D k
   ·exact .inl hd
   ·cases e : h k with
    | none => exact .inr rfl
    | some o => rw [a.keep k o hd e] at d; cases d
theorem Chg.le {D D' : Nat → Prop} {h h' h2 : Heap} (a : Chg D D' h h') (l : h'.le h2) : Chg D D' h h2 := ⟨fun b o hn e => l b o (a.keep b o hn e), a.ext⟩
end Go.Proofs.YtihdpjinaafenaaGreatDoor
