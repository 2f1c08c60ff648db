import Derived.Test.YtihdpjinaafenaaGreatDoorRj17
import Derived.Test.YtihdpjinaafenaaGreatDoorProg
/- Functions, told short. -/
set_option linter.unusedVariables false
set_option maxRecDepth 100000
namespace Go.Proofs.YtihdpjinaafenaaGreatDoor
open Sl Ce
noncomputable def g300_3e (T : SL CV) (x_1 x_3 x_5 x_9 : CV) : SL CV := Pg.rec (fun A B C D E F G H I J K L M N O P => Pg.rec (fun _ _ _ _ _ b5 b6 b7 b8 b9 bA bB bC bD bE bF => ⟨A,⟨x_1,x_3,x_5,x_9,(.i .i64 (.ofNat 0)),b5,b6,b7,b8,b9,bA,bB,bC,bD,bE,bF⟩,C,D,E,F,G,H,I,J,K,L,M,N,O,P⟩) B) T
noncomputable def g300_3 : RG := fun cf k T Y n c => roK (.ok T.a0.a0) fun x_1 => roK (.ok T.a0.a1) fun x_3 => aoK (cf.c (.i (.o (.o (.i (.o (.o .h)))))) [x_1, x_3] Y n c) fun x_5 Y_6 n_7 c_8 => roK (fLen x_5) fun x_9 => k (g300_3e T x_1 x_3 x_5 x_9) Y_6 n_7 c_8
noncomputable def g300_4e (T : SL CV) (x_1 : CV) : SL CV := Pg.rec (fun A B C D E F G H I J K L M N O P => Pg.rec (fun b0 b1 b2 b3 b4 _ b6 b7 b8 b9 bA bB bC bD bE bF => ⟨A,⟨b0,b1,b2,b3,b4,x_1,b6,b7,b8,b9,bA,bB,bC,bD,bE,bF⟩,C,D,E,F,G,H,I,J,K,L,M,N,O,P⟩) B) T
noncomputable def g300_4 : RG := fun cf k T Y n c => roK (fBin .lss T.a1.a4 T.a1.a3) fun x_1 => k (g300_4e T x_1) Y n c
noncomputable def g300_5e (T : SL CV) (x_2 x_1 : CV) : SL CV := Pg.rec (fun A B C D E F G H I J K L M N O P => Pg.rec (fun a0 a1 a2 a3 a4 a5 a6 a7 a8 a9 aA aB _ aD aE aF => Pg.rec (fun b0 b1 b2 b3 b4 b5 _ _ b8 b9 bA bB bC bD bE bF => ⟨⟨a0,a1,a2,a3,a4,a5,a6,a7,a8,a9,aA,aB,x_2,aD,aE,aF⟩,⟨b0,b1,b2,b3,b4,b5,x_1,x_2,b8,b9,bA,bB,bC,bD,bE,bF⟩,C,D,E,F,G,H,I,J,K,L,M,N,O,P⟩) B) A) T
noncomputable def g300_5 : RG := fun cf k T Y n c => roK (fIx T.a1.a2 T.a1.a4 1) fun x_1 => roK (fLd x_1 Y) fun x_2 => k (g300_5e T x_2 x_1) Y n c
noncomputable def g300_6e (T : SL CV) (x_31 x_1 x_3 x_5 x_7 x_9 x_11 x_13 x_15 x_17 x_19 x_21 x_23 x_25 x_27 x_29 : CV) : SL CV := Pg.rec (fun A B C D E F G H I J K L M N O P => Pg.rec (fun a0 a1 a2 a3 a4 a5 a6 a7 a8 a9 aA aB aC _ aE aF => Pg.rec (fun b0 b1 b2 b3 b4 b5 b6 b7 _ _ _ _ _ _ _ _ => Pg.rec (fun _ _ _ _ _ _ _ c7 c8 c9 cA cB cC cD cE cF => ⟨⟨a0,a1,a2,a3,a4,a5,a6,a7,a8,a9,aA,aB,aC,x_31,aE,aF⟩,⟨b0,b1,b2,b3,b4,b5,b6,b7,x_1,x_3,x_5,x_7,x_9,x_11,x_13,x_15⟩,⟨x_17,x_19,x_21,x_23,x_25,x_27,x_29,c7,c8,c9,cA,cB,cC,cD,cE,cF⟩,D,E,F,G,H,I,J,K,L,M,N,O,P⟩) C) B) A) T
noncomputable def g300_6p1 (x_19 x_7 x_1 x_3 x_5 x_9 x_11 x_13 x_15 x_17 : CV) (Y : CH) (r_20 : RS) (c : Nat) (n : Ce.Id) (k : K4) (T : SL CV) : Ao := roQ (fFa x_19 1) Y r_20 fun x_21 r_22 => roQ (fLd x_21 Y) Y r_22 fun x_23 r_24 => roQ (fIx x_7 x_23 3) Y r_24 fun x_25 r_26 => roQ (fFa x_25 1) Y r_26 fun x_27 r_28 => roQ (fLdN x_27 2 Y) Y r_28 fun x_29 r_30 => aoQ (aAl (eAlc 118 [.i .u32 (.ofNat 0), .i .i64 (.ofNat 0)] c) Y n c) r_30 fun x_31 Y_32 n_33 c_34 => aoK (eStN x_31 x_29 2 Y_32 n_33 c_34) fun x_35 Y_36 n_37 c_38 => k (g300_6e T x_31 x_1 x_3 x_5 x_7 x_9 x_11 x_13 x_15 x_17 x_19 x_21 x_23 x_25 x_27 x_29) Y_36 n_37 c_38
noncomputable def g300_6p2 (x_5 x_1 x_3 : CV) (Y : CH) (r_6 : RS) (T : SL CV) (c : Nat) (n : Ce.Id) (k : K4) : Ao := roQ (fLd x_5 Y) Y r_6 fun x_7 r_8 => roQ (.ok T.a0.a8) Y r_8 fun x_9 r_10 => roQ (fNilc x_9) Y r_10 fun x_11 r_12 => roQ (fFa x_11 2) Y r_12 fun x_13 r_14 => roQ (fLd x_13 Y) Y r_14 fun x_15 r_16 => roQ (.ok T.a0.a12) Y r_16 fun x_17 r_18 => roQ (fIx x_15 x_17 3) Y r_18 fun x_19 r_20 => g300_6p1 x_19 x_7 x_1 x_3 x_5 x_9 x_11 x_13 x_15 x_17 Y r_20 c n k T
noncomputable def g300_6 : RG := fun cf k T Y n c => roQ (.ok T.a0.a8) Y [] fun x_1 r_2 => roQ (fNilc x_1) Y r_2 fun x_3 r_4 => roQ (fFa x_3 1) Y r_4 fun x_5 r_6 => g300_6p2 x_5 x_1 x_3 Y r_6 T c n k
noncomputable def g300_7e (T : SL CV) (x_1 x_2 x_4 x_8 x_14 x_20 x_26 x_32 : CV) : SL CV := Pg.rec (fun A B C D E F G H I J K L M N O P => Pg.rec (fun c0 c1 c2 c3 c4 c5 c6 _ _ _ _ _ _ _ _ _ => ⟨A,B,⟨c0,c1,c2,c3,c4,c5,c6,x_1,x_2,x_4,x_4,x_8,x_14,x_20,x_26,x_32⟩,D,E,F,G,H,I,J,K,L,M,N,O,P⟩) C) T
noncomputable def g300_7p1 (T : SL CV) (x_1 : CV) (cf : CF) (Y : CH) (n : Ce.Id) (c : Nat) (k : K4) : Ao := roK (.ok T.a0.a2) fun x_2 => aoK (cf.c (.i (.o (.o (.o (.o (.o (.o (.o .h)))))))) [x_1, x_2] Y n c) fun x_4 Y_5 n_6 c_7 => gdV x_4 true (fun k => roK (fFa T.a0.a13 1) fun x => k x Y_5 n_6 c_7 [] []) (fun x_8 Y_9 n_10 c_11 r_12 e_13 => gdV x_4 true (fun k => roK (fLd x_8 Y_9) fun x => k x Y_9 n_10 c_11 r_12 e_13) (fun x_14 Y_15 n_16 c_17 r_18 e_19 => gdV x_4 true (fun k => roK (.ok T.a0.a10) fun x => k x Y_15 n_16 c_17 r_18 e_19) (fun x_20 Y_21 n_22 c_23 r_24 e_25 => gdV x_4 true (fun k => roK (fBin .gtr x_14 x_20) fun x => k x Y_21 n_22 c_23 r_24 e_25) (fun x_26 Y_27 n_28 c_29 r_30 e_31 => roK (fPick x_4 x_26 (.b false)) fun x_32 => k (g300_7e T x_1 x_2 x_4 x_8 x_14 x_20 x_26 x_32) Y_27 n_28 c_29) Y_21 n_22 c_23 r_24 e_25) Y_15 n_16 c_17 r_18 e_19) Y_9 n_10 c_11 r_12 e_13) Y_5 n_6 c_7 [] []
noncomputable def g300_7 : RG := fun cf k T Y n c => roK (fLdN T.a0.a13 2 Y) fun x_1 => g300_7p1 T x_1 cf Y n c k
noncomputable def g300_9e (T : SL CV) (x_1 : CV) : SL CV := Pg.rec (fun A B C D E F G H I J K L M N O P => Pg.rec (fun b0 b1 b2 b3 _ b5 b6 b7 b8 b9 bA bB bC bD bE bF => Pg.rec (fun d0 d1 d2 _ d4 d5 d6 d7 d8 d9 dA dB dC dD dE dF => ⟨A,⟨b0,b1,b2,b3,x_1,b5,b6,b7,b8,b9,bA,bB,bC,bD,bE,bF⟩,C,⟨d0,d1,d2,x_1,d4,d5,d6,d7,d8,d9,dA,dB,dC,dD,dE,dF⟩,E,F,G,H,I,J,K,L,M,N,O,P⟩) D) B) T
noncomputable def g300_9 : RG := fun cf k T Y n c => roK (fBin .add T.a1.a4 (.i .i64 (.ofNat 1))) fun x_1 => k (g300_9e T x_1) Y n c
noncomputable def g300_10e (T : SL CV) (x_3 x_6 x_1 x_4 : CV) : SL CV := Pg.rec (fun A B C D E F G H I J K L M N O P => Pg.rec (fun a0 a1 a2 a3 a4 a5 _ _ a8 a9 aA aB aC aD aE aF => Pg.rec (fun d0 d1 d2 d3 _ _ _ _ d8 d9 dA dB dC dD dE dF => ⟨⟨a0,a1,a2,a3,a4,a5,x_3,x_6,a8,a9,aA,aB,aC,aD,aE,aF⟩,B,C,⟨d0,d1,d2,d3,x_1,x_3,x_4,x_6,d8,d9,dA,dB,dC,dD,dE,dF⟩,E,F,G,H,I,J,K,L,M,N,O,P⟩) D) A) T
noncomputable def g300_10 : RG := fun cf k T Y n c => roK (.ok T.a0.a9) fun x_1 => roK (fMax x_1 (.i .i64 (.ofNat 0))) fun x_3 => roK (.ok T.a0.a9) fun x_4 => roK (fBin .geq x_4 (.i .i64 (.ofNat 0))) fun x_6 => k (g300_10e T x_3 x_6 x_1 x_4) Y n c
noncomputable def c300 : CFn := ⟨56, (.c (.seq (.reg 0 false [] [.R q6 (.asg (.c (.i .i64 (.ofNat 0)))), .R q7 (.asg (.c (.b false)))] none) (.seq (.reg 1 false [] [.R q14 (.mv t0), .cl (some q15) (.o (.o (.i (.i (.i .h))))) [t14] [26] false, .R q8 (.asg t15)] none) (.seq (.reg 2 false [] [.R q9 (.asg (.c (.i .i64 (.negSucc 0)))), .R q10 (.asg (.c (.i .i64 (.negSucc 0))))] none) (.seq (.seq (.reg 3 false [] [.R q16 (.mv t0), .R q17 (.mv t1), .cl (some q18) (.i (.o (.o (.i (.o (.o .h)))))) [t16, t17] [26, 3] false, .R q19 (.len 63 t18 3), .R q20 (.mv (.c (.i .i64 (.ofNat 0))))] (some g300_3)) (.block 0 (.loop (.seq (.reg 4 false [] [.R q21 (.bin .lss 3 t20 t19 3)] (some g300_4)) (.seq (.cond t21 .skip (.exit 0)) (.seq (.block 1 (.seq (.reg 5 false [] [.R q22 (.ix 63 t18 t20 3 1), .R q23 (.ld 3 t22), .R q12 (.asg t23)] (some g300_5)) (.seq (.reg 6 true [0, 1, 2, 3, 4, 5, 6, 7, 8, 9, 10, 11, 12, 13, 14, 15, 16] [.Q q24 (.mv t8), .Q q25 (.nilc t24), .Q q26 (.fa 39 t25 1 1), .Q q27 (.ld 32 t26), .Q q28 (.mv t8), .Q q29 (.nilc t28), .Q q30 (.fa 39 t29 2 2), .Q q31 (.ld 33 t30), .Q q32 (.mv t12), .Q q33 (.ix 33 t31 t32 68 3), .Q q34 (.fa 68 t33 1 1), .Q q35 (.ld 3 t34), .Q q36 (.ix 32 t27 t35 120 3), .Q q37 (.fa 120 t36 1 1), .Q q38 (.ldN 118 t37 2), .B q13 (.alc 118 [.i .u32 (.ofNat 0), .i .i64 (.ofNat 0)]), .a none (.stN 118 t13 t38 2) false] (some g300_6)) (.seq (.reg 7 false [] [.R q39 (.ldN 118 t13 2), .R q40 (.mv t2), .cl (some q41) (.i (.o (.o (.o (.o (.o (.o (.o .h)))))))) [t39, t40] [118, 23] false, .R q42 (.mv t41), .gd q42 true (.R q43 (.fa 118 t13 1 1)), .gd q42 true (.R q44 (.ld 3 t43)), .gd q42 true (.R q45 (.mv t10)), .gd q42 true (.R q46 (.bin .gtr 3 t44 t45 3)), .R q47 (.pick t42 t46 (.c (.b false)))] (some g300_7)) (.cond t47 (.reg 8 true [0, 1, 2, 3, 4] [.Q q48 (.mv t12), .Q q49 (.fa 118 t13 1 1), .Q q50 (.ld 3 t49), .Q q9 (.asg t48), .Q q10 (.asg t50)] none) .skip))))) (.reg 9 false [] [.R q51 (.bin .add 3 t20 (.c (.i .i64 (.ofNat 1))) 3), .R q20 (.mv t51)] (some g300_9)))))))) (.seq (.reg 10 false [] [.R q52 (.mv t9), .R q53 (.cmax t52 (.c (.i .i64 (.ofNat 0))) 3), .R q54 (.mv t9), .R q55 (.bin .geq 3 t54 (.c (.i .i64 (.ofNat 0))) 3), .R q6 (.asg t53), .R q7 (.asg t55)] (some g300_10)) .ret)))))), [.t q6, .t q7]⟩
theorem fit300 (ξ : Nat → Value) : FnFit (kn ξ) (.i (.o (.i (.i (.o (.i (.o (.o .h)))))))) c300 := ⟨kR, kR, kR, kR⟩
noncomputable def c301 : CFn := ⟨13, (.seq (.c (.reg 0 false [] [.A q2 (.box 48 t0), .R q4 (.asg (.c .ns))] none)) (.seq (.seq (.c (.reg 1 false [] [.R q6 (.mv t1)] none)) (.block 0 (.rf t6 [q7] (.reg 2 false [] [.R q5 (.asg t7)] none) (.block 1 (.reg 3 false [] [.R q8 (.ld 48 t2), .R q9 (.mv t5), .A q10 (.bsl 48 1 [t9] 23 1), .A q11 (.app 48 48 t8 t10 23 23 1), .a none (.st 48 t2 t11) false] none))))) (.c (.seq (.reg 4 false [] [.R q12 (.ld 48 t2), .R q4 (.asg t12)] none) .ret)))), [.t q4]⟩
theorem fit301 (ξ : Nat → Value) : FnFit (kn ξ) (.o (.i (.i (.i (.o (.i (.o (.o .h)))))))) c301 := ⟨kR, kR, kR, kR⟩
noncomputable def g303_1e (T : SL CV) (x_1 x_3 x_5 : CV) : SL CV := Pg.rec (fun A B C D E F G H I J K L M N O P => Pg.rec (fun a0 a1 a2 a3 a4 a5 a6 a7 a8 a9 aA aB _ _ _ aF => ⟨⟨a0,a1,a2,a3,a4,a5,a6,a7,a8,a9,aA,aB,x_1,x_3,x_5,aF⟩,B,C,D,E,F,G,H,I,J,K,L,M,N,O,P⟩) A) T
noncomputable def g303_1 : RG := fun cf k T Y n c => roK (.ok T.a0.a8) fun x_1 => roK (.ok T.a0.a2) fun x_3 => roK (fBin .lss x_1 x_3) fun x_5 => k (g303_1e T x_1 x_3 x_5) Y n c
noncomputable def g303_4e (T : SL CV) (x_1 x_3 x_5 x_7 x_13 x_19 x_25 x_31 x_37 x_43 x_49 x_55 x_61 x_67 x_73 x_79 : CV) : SL CV := Pg.rec (fun A B C D E F G H I J K L M N O P => Pg.rec (fun b0 b1 _ _ _ _ _ _ _ _ _ _ _ _ _ _ => Pg.rec (fun _ _ _ c3 c4 c5 c6 c7 c8 c9 cA cB cC cD cE cF => ⟨A,⟨b0,b1,x_1,x_3,x_5,x_5,x_7,x_13,x_19,x_25,x_31,x_37,x_43,x_49,x_55,x_61⟩,⟨x_67,x_73,x_79,c3,c4,c5,c6,c7,c8,c9,cA,cB,cC,cD,cE,cF⟩,D,E,F,G,H,I,J,K,L,M,N,O,P⟩) C) B) T
noncomputable def g303_4p1 (x_5 x_37 x_7 x_31 x_1 x_3 x_13 x_19 x_25 : CV) (k : K4) (T : SL CV) (Y_38 Y : CH) (r_41 : RS) (n_39 n : Ce.Id) (c_40 c : Nat) (e_42 : ES) (cf : CF) : Ao := gdV x_5 true (fun k => roQ (.ok T.a0.a9) Y_38 r_41 fun x r => k x Y_38 n_39 c_40 r e_42) (fun x_43 Y_44 n_45 c_46 r_47 e_48 => gdV x_5 true (fun k => roQ (fBin .sub x_43 (.i .i64 (.ofNat 1))) Y_44 r_47 fun x r => k x Y_44 n_45 c_46 r e_48) (fun x_49 Y_50 n_51 c_52 r_53 e_54 => gdV x_5 true (fun k => roQ (fIx x_37 x_49 2) Y_50 r_53 fun x r => k x Y_50 n_51 c_52 r e_54) (fun x_55 Y_56 n_57 c_58 r_59 e_60 => gdV x_5 true (fun k => roQ (fLdN x_55 2 Y_56) Y_56 r_59 fun x r => k x Y_56 n_57 c_58 r e_60) (fun x_61 Y_62 n_63 c_64 r_65 e_66 => gdV x_5 true (fun k => aoK (cvF cf x_7 [x_31, x_61] Y_62 n_63 c_64) fun x Y n c => k x Y n c [] e_66) (fun x_67 Y_68 n_69 c_70 r_71 e_72 => gdV x_5 true (fun k => roQ (fBin .lss x_67 (.i .i64 (.ofNat 0))) Y_68 r_71 fun x r => k x Y_68 n_69 c_70 r e_72) (fun x_73 Y_74 n_75 c_76 r_77 e_78 => roQ (fPick x_5 x_73 (.b false)) Y_74 r_77 fun x_79 r_80 => k (g303_4e T x_1 x_3 x_5 x_7 x_13 x_19 x_25 x_31 x_37 x_43 x_49 x_55 x_61 x_67 x_73 x_79) Y_74 n_75 c_76) Y_68 n_69 c_70 r_71 e_72) Y_62 n_63 c_64 r_65 e_66) Y_56 n_57 c_58 r_59 e_60) Y_50 n_51 c_52 r_53 e_54) Y_44 n_45 c_46 r_47 e_48) Y_38 n_39 c_40 r_41 e_42
noncomputable def g303_4p2 (x_1 x_3 : CV) (Y : CH) (r_4 : RS) (k : K4) (T : SL CV) (n : Ce.Id) (c : Nat) (cf : CF) : Ao := roQ (fBin .gtr x_1 x_3) Y r_4 fun x_5 r_6 => gdV x_5 true (fun k => roQ (.ok T.a0.a3) Y r_6 fun x r => k x Y n c r []) (fun x_7 Y_8 n_9 c_10 r_11 e_12 => gdV x_5 true (fun k => roQ (.ok T.a0.a0) Y_8 r_11 fun x r => k x Y_8 n_9 c_10 r e_12) (fun x_13 Y_14 n_15 c_16 r_17 e_18 => gdV x_5 true (fun k => roQ (.ok T.a0.a9) Y_14 r_17 fun x r => k x Y_14 n_15 c_16 r e_18) (fun x_19 Y_20 n_21 c_22 r_23 e_24 => gdV x_5 true (fun k => roQ (fIx x_13 x_19 2) Y_20 r_23 fun x r => k x Y_20 n_21 c_22 r e_24) (fun x_25 Y_26 n_27 c_28 r_29 e_30 => gdV x_5 true (fun k => roQ (fLdN x_25 2 Y_26) Y_26 r_29 fun x r => k x Y_26 n_27 c_28 r e_30) (fun x_31 Y_32 n_33 c_34 r_35 e_36 => gdV x_5 true (fun k => roQ (.ok T.a0.a0) Y_32 r_35 fun x r => k x Y_32 n_33 c_34 r e_36) (fun x_37 Y_38 n_39 c_40 r_41 e_42 => g303_4p1 x_5 x_37 x_7 x_31 x_1 x_3 x_13 x_19 x_25 k T Y_38 Y r_41 n_39 n c_40 c e_42 cf) Y_32 n_33 c_34 r_35 e_36) Y_26 n_27 c_28 r_29 e_30) Y_20 n_21 c_22 r_23 e_24) Y_14 n_15 c_16 r_17 e_18) Y_8 n_9 c_10 r_11 e_12) Y n c r_6 []
noncomputable def g303_4 : RG := fun cf k T Y n c => roQ (.ok T.a0.a9) Y [] fun x_1 r_2 => roQ (.ok T.a0.a1) Y r_2 fun x_3 r_4 => g303_4p2 x_1 x_3 Y r_4 k T n c cf
noncomputable def c303 : CFn := ⟨53, (.c (.seq (.reg 0 false [] [.R q10 (.mv t1), .R q11 (.bin .add 3 t10 (.c (.i .i64 (.ofNat 1))) 3), .R q8 (.asg t11)] none) (.block 0 (.loop (.seq (.seq (.reg 1 false [] [.R q12 (.mv t8), .R q13 (.mv t2), .R q14 (.bin .lss 3 t12 t13 3)] (some g303_1)) (.cond t14 .skip (.exit 0))) (.seq (.block 1 (.seq (.reg 3 false [] [.R q17 (.mv t8), .R q9 (.asg t17)] none) (.block 2 (.loop (.seq (.seq (.reg 4 true [0, 1, 2, 3, 4, 5, 6, 7, 8, 9, 10, 11, 12, 13, 14, 15, 16] [.Q q18 (.mv t9), .Q q19 (.mv t1), .Q q20 (.bin .gtr 3 t18 t19 3), .Q q21 (.mv t20), .gd q21 true (.Q q22 (.mv t3)), .gd q21 true (.Q q23 (.mv t0)), .gd q21 true (.Q q24 (.mv t9)), .gd q21 true (.Q q25 (.ix 133 t23 t24 47 2)), .gd q21 true (.Q q26 (.ldN 47 t25 2)), .gd q21 true (.Q q27 (.mv t0)), .gd q21 true (.Q q28 (.mv t9)), .gd q21 true (.Q q29 (.bin .sub 3 t28 (.c (.i .i64 (.ofNat 1))) 3)), .gd q21 true (.Q q30 (.ix 133 t27 t29 47 2)), .gd q21 true (.Q q31 (.ldN 47 t30 2)), .gd q21 true (.cv (some q32) t22 [t26, t31] [47, 47] false), .gd q21 true (.Q q33 (.bin .lss 3 t32 (.c (.i .i64 (.ofNat 0))) 3)), .Q q34 (.pick t21 t33 (.c (.b false)))] (some g303_4)) (.cond t34 .skip (.exit 2))) (.seq (.block 3 (.reg 6 true [0, 1, 2, 3, 4, 5, 6, 7, 8, 9, 10, 11, 12, 13, 14, 15, 16, 17] [.Q q37 (.mv t0), .Q q38 (.mv t9), .Q q39 (.mv t0), .Q q40 (.mv t9), .Q q41 (.bin .sub 3 t40 (.c (.i .i64 (.ofNat 1))) 3), .Q q42 (.mv t0), .Q q43 (.mv t9), .Q q44 (.bin .sub 3 t43 (.c (.i .i64 (.ofNat 1))) 3), .Q q45 (.ix 133 t42 t44 47 2), .Q q46 (.ldN 47 t45 2), .Q q47 (.mv t0), .Q q48 (.mv t9), .Q q49 (.ix 133 t47 t48 47 2), .Q q50 (.ldN 47 t49 2), .Q q51 (.ix 133 t37 t38 47 2), .a none (.stN 47 t51 t46 2) false, .Q q52 (.ix 133 t39 t41 47 2), .a none (.stN 47 t52 t50 2) false] none)) (.reg 5 false [] [.R q35 (.mv t9), .R q36 (.bin .sub 3 t35 (.c (.i .i64 (.ofNat 1))) 3), .R q9 (.asg t36)] none))))))) (.reg 2 false [] [.R q15 (.mv t8), .R q16 (.bin .add 3 t15 (.c (.i .i64 (.ofNat 1))) 3), .R q8 (.asg t16)] none))))))), []⟩
theorem fit303 (ξ : Nat → Value) : FnFit (kn ξ) (.o (.o (.o (.o (.i (.i (.o (.o .h)))))))) c303 := ⟨kR, kR, kR, kR⟩
noncomputable def c315 : CFn := ⟨134, (.c (.seq (.reg 0 false [] [.R q8 (.asg (.c (.b true)))] none) (.seq (.reg 1 false [] [.R q9 (.asg (.c (.b true)))] none) (.block 0 (.loop (.block 1 (.seq (.reg 2 false [] [.R q19 (.mv t2), .R q20 (.mv t1), .R q21 (.bin .sub 3 t19 t20 3), .R q10 (.asg t21)] none) (.seq (.seq (.reg 3 false [] [.R q22 (.mv t10), .R q23 (.bin .leq 3 t22 (.c (.i .i64 (.ofNat 12))) 3)] none) (.cond t23 (.seq (.reg 4 false [] [.R q24 (.mv t0), .R q25 (.mv t1), .R q26 (.mv t2), .cl (some q27) (.o (.o (.o (.o (.i (.o (.i (.o .h)))))))) [t24, t25, t26] [63, 3, 3] false] none) .ret) .skip)) (.seq (.seq (.reg 5 false [] [.R q28 (.mv t3), .R q29 (.bin .eql 3 t28 (.c (.i .i64 (.ofNat 0))) 3)] none) (.cond t29 (.seq (.reg 6 false [] [.R q30 (.mv t0), .R q31 (.mv t1), .R q32 (.mv t2), .cl (some q33) (.i (.o (.o (.o (.i (.o (.i (.o .h)))))))) [t30, t31, t32] [63, 3, 3] false] none) .ret) .skip)) (.seq (.seq (.reg 7 false [] [.R q34 (.mv t8), .R q35 (.not 4 t34)] none) (.cond t35 (.seq (.reg 8 false [] [.R q36 (.mv t0), .R q37 (.mv t1), .R q38 (.mv t2), .cl (some q39) (.o (.i (.o (.o (.i (.o (.i (.o .h)))))))) [t36, t37, t38] [63, 3, 3] false] none) (.reg 9 false [] [.R q40 (.mv t3), .R q41 (.bin .sub 3 t40 (.c (.i .i64 (.ofNat 1))) 3), .R q3 (.asg t41)] none)) .skip)) (.seq (.reg 10 false [] [.R q43 (.mv t0), .R q44 (.mv t1), .R q45 (.mv t2), .cl (some q46) (.i (.i (.o (.o (.i (.o (.i (.o .h)))))))) [t43, t44, t45] [63, 3, 3] false, .R q42 (.mv t46), .R q47 (.ext t42 0), .R q48 (.ext t42 1), .R q11 (.asg t47), .R q12 (.asg t48)] none) (.seq (.seq (.reg 11 false [] [.R q49 (.mv t12), .R q50 (.bin .eql 311 t49 (.c (.i .i64 (.ofNat 2))) 311)] none) (.cond t50 (.seq (.reg 12 false [] [.R q51 (.mv t0), .R q52 (.mv t1), .R q53 (.mv t2), .cl (some q54) (.o (.o (.i (.o (.i (.o (.i (.o .h)))))))) [t51, t52, t53] [63, 3, 3] false] none) (.seq (.reg 13 false [] [.R q55 (.mv t2), .R q56 (.bin .sub 3 t55 (.c (.i .i64 (.ofNat 1))) 3), .R q57 (.mv t11), .R q58 (.mv t1), .R q59 (.bin .sub 3 t57 t58 3), .R q60 (.bin .sub 3 t56 t59 3), .R q11 (.asg t60)] none) (.reg 14 false [] [.R q12 (.asg (.c (.i .i64 (.ofNat 1))))] none))) .skip)) (.seq (.seq (.reg 15 false [] [.R q61 (.mv t8), .R q62 (.mv t61), .gd q62 true (.R q63 (.mv t9)), .R q64 (.pick t62 t63 (.c (.b false))), .R q65 (.mv t64), .gd q65 true (.R q66 (.mv t12)), .gd q65 true (.R q67 (.bin .eql 311 t66 (.c (.i .i64 (.ofNat 1))) 311)), .R q68 (.pick t65 t67 (.c (.b false)))] none) (.cond t68 (.seq (.reg 16 false [] [.R q69 (.mv t0), .R q70 (.mv t1), .R q71 (.mv t2), .cl (some q72) (.i (.o (.i (.o (.i (.o (.i (.o .h)))))))) [t69, t70, t71] [63, 3, 3] false] none) (.cond t72 .ret .skip)) .skip)) (.seq (.seq (.reg 17 true [0, 1, 2, 3, 4, 5, 6, 7, 8, 9, 10, 11, 12, 13, 14] [.Q q73 (.mv t1), .Q q74 (.bin .gtr 3 t73 (.c (.i .i64 (.ofNat 0))) 3), .Q q75 (.mv t74), .gd q75 true (.Q q76 (.mv t0)), .gd q75 true (.Q q77 (.mv t1)), .gd q75 true (.Q q78 (.bin .sub 3 t77 (.c (.i .i64 (.ofNat 1))) 3)), .gd q75 true (.Q q79 (.ix 63 t76 t78 3 1)), .gd q75 true (.Q q80 (.ld 3 t79)), .gd q75 true (.Q q81 (.mv t0)), .gd q75 true (.Q q82 (.mv t11)), .gd q75 true (.Q q83 (.ix 63 t81 t82 3 1)), .gd q75 true (.Q q84 (.ld 3 t83)), .gd q75 true (.cl (some q85) (.o (.i (.i (.o (.i (.o (.i (.o .h)))))))) [t80, t84] [3, 3] false), .gd q75 true (.Q q86 (.not 4 t85)), .Q q87 (.pick t75 t86 (.c (.b false)))] none) (.cond t87 (.seq (.reg 18 false [] [.R q88 (.mv t0), .R q89 (.mv t1), .R q90 (.mv t2), .R q91 (.mv t11), .cl (some q92) (.i (.i (.i (.o (.i (.o (.i (.o .h)))))))) [t88, t89, t90, t91] [63, 3, 3, 3] false, .R q13 (.asg t92)] none) (.seq (.reg 19 false [] [.R q93 (.mv t13), .R q1 (.asg t93)] none) (.exit 1))) .skip)) (.seq (.reg 20 false [] [.R q95 (.mv t0), .R q96 (.mv t1), .R q97 (.mv t2), .R q98 (.mv t11), .cl (some q99) (.o (.o (.o (.i (.i (.o (.i (.o .h)))))))) [t95, t96, t97, t98] [63, 3, 3, 3] false, .R q94 (.mv t99), .R q100 (.ext t94 0), .R q101 (.ext t94 1), .R q14 (.asg t100), .R q15 (.asg t101)] none) (.seq (.reg 21 false [] [.R q102 (.mv t15), .R q9 (.asg t102)] none) (.seq (.reg 22 false [] [.R q103 (.mv t14), .R q104 (.mv t1), .R q105 (.bin .sub 3 t103 t104 3), .R q106 (.mv t2), .R q107 (.mv t14), .R q108 (.bin .sub 3 t106 t107 3), .R q16 (.asg t105), .R q17 (.asg t108)] none) (.seq (.reg 23 false [] [.R q109 (.mv t10), .R q110 (.bin .quo 3 t109 (.c (.i .i64 (.ofNat 8))) 3), .R q18 (.asg t110)] none) (.seq (.reg 24 false [] [.R q111 (.mv t16), .R q112 (.mv t17), .R q113 (.bin .lss 3 t111 t112 3)] none) (.cond t113 (.seq (.reg 25 false [] [.R q114 (.mv t16), .R q115 (.mv t18), .R q116 (.bin .geq 3 t114 t115 3), .R q8 (.asg t116)] none) (.seq (.reg 26 false [] [.R q117 (.mv t0), .R q118 (.mv t1), .R q119 (.mv t14), .R q120 (.mv t3), .cl (some q121) (.o (.o (.i (.i (.i (.i (.o (.o .h)))))))) [t117, t118, t119, t120] [63, 3, 3, 3] false] none) (.reg 27 false [] [.R q122 (.mv t14), .R q123 (.bin .add 3 t122 (.c (.i .i64 (.ofNat 1))) 3), .R q1 (.asg t123)] none))) (.seq (.reg 28 false [] [.R q124 (.mv t17), .R q125 (.mv t18), .R q126 (.bin .geq 3 t124 t125 3), .R q8 (.asg t126)] none) (.seq (.reg 29 false [] [.R q127 (.mv t0), .R q128 (.mv t14), .R q129 (.bin .add 3 t128 (.c (.i .i64 (.ofNat 1))) 3), .R q130 (.mv t2), .R q131 (.mv t3), .cl (some q132) (.o (.o (.i (.i (.i (.i (.o (.o .h)))))))) [t127, t129, t130, t131] [63, 3, 3, 3] false] none) (.reg 30 false [] [.R q133 (.mv t14), .R q2 (.asg t133)] none))))))))))))))))))))))), []⟩
theorem fit315 (ξ : Nat → Value) : FnFit (kn ξ) (.o (.o (.i (.i (.i (.i (.o (.o .h)))))))) c315 := ⟨kR, kR, kR, kR⟩
noncomputable def c335 : CFn := ⟨49, (.c (.seq (.reg 0 false [] [.R q8 (.mv t1), .R q9 (.bin .add 3 t8 (.c (.i .i64 (.ofNat 1))) 3), .R q6 (.asg t9)] none) (.block 0 (.loop (.seq (.seq (.reg 1 false [] [.R q10 (.mv t6), .R q11 (.mv t2), .R q12 (.bin .lss 3 t10 t11 3)] none) (.cond t12 .skip (.exit 0))) (.seq (.block 1 (.seq (.reg 3 false [] [.R q15 (.mv t6), .R q7 (.asg t15)] none) (.block 2 (.loop (.seq (.seq (.reg 4 true [0, 1, 2, 3, 4, 5, 6, 7, 8, 9, 10, 11, 12, 13, 14] [.Q q16 (.mv t7), .Q q17 (.mv t1), .Q q18 (.bin .gtr 3 t16 t17 3), .Q q19 (.mv t18), .gd q19 true (.Q q20 (.mv t0)), .gd q19 true (.Q q21 (.mv t7)), .gd q19 true (.Q q22 (.ix 63 t20 t21 3 1)), .gd q19 true (.Q q23 (.ld 3 t22)), .gd q19 true (.Q q24 (.mv t0)), .gd q19 true (.Q q25 (.mv t7)), .gd q19 true (.Q q26 (.bin .sub 3 t25 (.c (.i .i64 (.ofNat 1))) 3)), .gd q19 true (.Q q27 (.ix 63 t24 t26 3 1)), .gd q19 true (.Q q28 (.ld 3 t27)), .gd q19 true (.cl (some q29) (.o (.i (.i (.o (.i (.o (.i (.o .h)))))))) [t23, t28] [3, 3] false), .Q q30 (.pick t19 t29 (.c (.b false)))] none) (.cond t30 .skip (.exit 2))) (.seq (.block 3 (.reg 6 true [0, 1, 2, 3, 4, 5, 6, 7, 8, 9, 10, 11, 12, 13, 14, 15, 16, 17] [.Q q33 (.mv t0), .Q q34 (.mv t7), .Q q35 (.mv t0), .Q q36 (.mv t7), .Q q37 (.bin .sub 3 t36 (.c (.i .i64 (.ofNat 1))) 3), .Q q38 (.mv t0), .Q q39 (.mv t7), .Q q40 (.bin .sub 3 t39 (.c (.i .i64 (.ofNat 1))) 3), .Q q41 (.ix 63 t38 t40 3 1), .Q q42 (.ld 3 t41), .Q q43 (.mv t0), .Q q44 (.mv t7), .Q q45 (.ix 63 t43 t44 3 1), .Q q46 (.ld 3 t45), .Q q47 (.ix 63 t33 t34 3 1), .a none (.st 3 t47 t42) false, .Q q48 (.ix 63 t35 t37 3 1), .a none (.st 3 t48 t46) false] none)) (.reg 5 false [] [.R q31 (.mv t7), .R q32 (.bin .sub 3 t31 (.c (.i .i64 (.ofNat 1))) 3), .R q7 (.asg t32)] none))))))) (.reg 2 false [] [.R q13 (.mv t6), .R q14 (.bin .add 3 t13 (.c (.i .i64 (.ofNat 1))) 3), .R q6 (.asg t14)] none))))))), []⟩
theorem fit335 (ξ : Nat → Value) : FnFit (kn ξ) (.o (.o (.o (.o (.i (.o (.i (.o .h)))))))) c335 := ⟨kR, kR, kR, kR⟩
end Go.Proofs.YtihdpjinaafenaaGreatDoor

/- The table of functions. -/
set_option linter.unusedVariables false
set_option maxRecDepth 100000
namespace Go.Proofs.YtihdpjinaafenaaGreatDoor
open Sl Ce
noncomputable def tab : CG := (.n none (.n none (.n none (.n none (.n (some c15) (.n none (.n (some c63) (.n (some c127) (.n (some c255) .e .e) .e) (.n (some c191) .e .e)) .e) (.n none (.n none (.n (some c143) .e .e) (.n none (.n (some c335) .e .e) .e)) (.n none (.n (some c175) (.n (some c303) .e .e) .e) .e))) (.n (some c23) (.n none (.n (some c71) (.n (some c135) (.n (some c263) .e .e) .e) (.n (some c199) .e .e)) .e) (.n (some c55) (.n none .e (.n (some c215) .e .e)) (.n (some c119) (.n (some c183) .e .e) .e)))) (.n none (.n (some c19) (.n none (.n none (.n (some c131) (.n (some c259) .e .e) .e) .e) .e) (.n (some c51) (.n none (.n (some c147) .e .e) (.n (some c211) .e .e)) (.n (some c115) (.n (some c179) .e .e) .e))) (.n (some c27) (.n none (.n (some c75) (.n (some c139) .e .e) .e) (.n none (.n none (.n (some c299) .e .e) .e) .e)) (.n (some c59) .e (.n (some c123) (.n (some c187) (.n (some c315) .e .e) .e) (.n (some c251) .e .e)))))) (.n (some c5) (.n none (.n (some c17) (.n none (.n (some c65) (.n (some c129) (.n (some c257) .e .e) .e) .e) .e) (.n none .e (.n (some c113) (.n (some c177) .e .e) .e))) (.n none (.n none (.n (some c73) (.n (some c137) .e .e) (.n (some c201) .e .e)) (.n (some c105) .e .e)) (.n (some c57) (.n none (.n none (.n (some c281) .e .e) .e) (.n (some c217) .e .e)) (.n (some c121) (.n (some c185) .e .e) (.n (some c249) .e .e))))) (.n none (.n none (.n none (.n none (.n (some c133) (.n (some c261) .e .e) .e) (.n (some c197) .e .e)) .e) (.n (some c53) (.n none .e (.n (some c213) .e .e)) (.n none (.n (some c181) .e .e) .e))) (.n none (.n none (.n (some c77) (.n none (.n (some c269) .e .e) .e) .e) (.n none (.n (some c173) (.n (some c301) .e .e) .e) .e)) (.n (some c61) .e (.n (some c125) (.n (some c189) .e .e) (.n (some c253) .e .e))))))) (.n none (.n none (.n none (.n (some c16) (.n none (.n (some c64) (.n (some c128) (.n (some c256) .e .e) .e) (.n (some c192) .e .e)) .e) (.n none (.n none (.n (some c144) .e .e) .e) (.n (some c112) (.n (some c176) .e .e) .e))) (.n (some c24) (.n none (.n (some c72) (.n (some c136) .e .e) (.n (some c200) .e .e)) (.n (some c104) .e .e)) (.n (some c56) (.n none (.n none (.n (some c280) .e .e) .e) .e) (.n (some c120) (.n (some c184) .e .e) (.n (some c248) .e .e))))) (.n (some c12) (.n (some c20) (.n none (.n none (.n (some c132) .e .e) .e) .e) (.n (some c52) (.n (some c84) .e (.n (some c212) .e .e)) (.n (some c116) (.n (some c180) .e .e) .e))) (.n none (.n none (.n (some c76) .e .e) (.n (some c108) (.n none (.n (some c300) .e .e) .e) .e)) (.n (some c60) .e (.n (some c124) (.n (some c188) .e .e) (.n (some c252) .e .e)))))) (.n none (.n none (.n (some c18) (.n none (.n (some c66) (.n (some c130) (.n (some c258) .e .e) .e) .e) .e) (.n none .e (.n (some c114) (.n (some c178) .e .e) .e))) (.n (some c26) (.n none (.n none (.n (some c138) .e .e) .e) (.n (some c106) .e .e)) (.n (some c58) .e (.n (some c122) (.n (some c186) .e .e) (.n (some c250) .e .e))))) (.n (some c14) (.n (some c22) (.n none (.n none (.n (some c134) (.n (some c262) .e .e) .e) .e) (.n (some c102) .e .e)) (.n (some c54) (.n none (.n (some c150) .e .e) (.n (some c214) .e .e)) (.n (some c118) (.n (some c182) .e .e) .e))) (.n none (.n none (.n (some c78) .e .e) (.n none (.n (some c174) .e .e) .e)) (.n (some c62) (.n none .e (.n (some c222) .e .e)) (.n (some c126) (.n (some c190) .e .e) (.n (some c254) .e .e))))))))
theorem tab_fit (ξ : Nat → Value) : GFit (kn ξ) tab := allF_fit (AllF.n (AllF.no) (AllF.n (AllF.no) (AllF.n (AllF.no) (AllF.n (AllF.no) (AllF.n (AllF.v (fit15 ξ)) (AllF.n (AllF.no) (AllF.n (AllF.v (fit63 ξ)) (AllF.n (AllF.v (fit127 ξ)) (AllF.n (AllF.v (fit255 ξ)) AllF.e AllF.e) AllF.e) (AllF.n (AllF.v (fit191 ξ)) AllF.e AllF.e)) AllF.e) (AllF.n (AllF.no) (AllF.n (AllF.no) (AllF.n (AllF.v (fit143 ξ)) AllF.e AllF.e) (AllF.n (AllF.no) (AllF.n (AllF.v (fit335 ξ)) AllF.e AllF.e) AllF.e)) (AllF.n (AllF.no) (AllF.n (AllF.v (fit175 ξ)) (AllF.n (AllF.v (fit303 ξ)) AllF.e AllF.e) AllF.e) AllF.e))) (AllF.n (AllF.v (fit23 ξ)) (AllF.n (AllF.no) (AllF.n (AllF.v (fit71 ξ)) (AllF.n (AllF.v (fit135 ξ)) (AllF.n (AllF.v (fit263 ξ)) AllF.e AllF.e) AllF.e) (AllF.n (AllF.v (fit199 ξ)) AllF.e AllF.e)) AllF.e) (AllF.n (AllF.v (fit55 ξ)) (AllF.n (AllF.no) AllF.e (AllF.n (AllF.v (fit215 ξ)) AllF.e AllF.e)) (AllF.n (AllF.v (fit119 ξ)) (AllF.n (AllF.v (fit183 ξ)) AllF.e AllF.e) AllF.e)))) (AllF.n (AllF.no) (AllF.n (AllF.v (fit19 ξ)) (AllF.n (AllF.no) (AllF.n (AllF.no) (AllF.n (AllF.v (fit131 ξ)) (AllF.n (AllF.v (fit259 ξ)) AllF.e AllF.e) AllF.e) AllF.e) AllF.e) (AllF.n (AllF.v (fit51 ξ)) (AllF.n (AllF.no) (AllF.n (AllF.v (fit147 ξ)) AllF.e AllF.e) (AllF.n (AllF.v (fit211 ξ)) AllF.e AllF.e)) (AllF.n (AllF.v (fit115 ξ)) (AllF.n (AllF.v (fit179 ξ)) AllF.e AllF.e) AllF.e))) (AllF.n (AllF.v (fit27 ξ)) (AllF.n (AllF.no) (AllF.n (AllF.v (fit75 ξ)) (AllF.n (AllF.v (fit139 ξ)) AllF.e AllF.e) AllF.e) (AllF.n (AllF.no) (AllF.n (AllF.no) (AllF.n (AllF.v (fit299 ξ)) AllF.e AllF.e) AllF.e) AllF.e)) (AllF.n (AllF.v (fit59 ξ)) AllF.e (AllF.n (AllF.v (fit123 ξ)) (AllF.n (AllF.v (fit187 ξ)) (AllF.n (AllF.v (fit315 ξ)) AllF.e AllF.e) AllF.e) (AllF.n (AllF.v (fit251 ξ)) AllF.e AllF.e)))))) (AllF.n (AllF.v (fit5 ξ)) (AllF.n (AllF.no) (AllF.n (AllF.v (fit17 ξ)) (AllF.n (AllF.no) (AllF.n (AllF.v (fit65 ξ)) (AllF.n (AllF.v (fit129 ξ)) (AllF.n (AllF.v (fit257 ξ)) AllF.e AllF.e) AllF.e) AllF.e) AllF.e) (AllF.n (AllF.no) AllF.e (AllF.n (AllF.v (fit113 ξ)) (AllF.n (AllF.v (fit177 ξ)) AllF.e AllF.e) AllF.e))) (AllF.n (AllF.no) (AllF.n (AllF.no) (AllF.n (AllF.v (fit73 ξ)) (AllF.n (AllF.v (fit137 ξ)) AllF.e AllF.e) (AllF.n (AllF.v (fit201 ξ)) AllF.e AllF.e)) (AllF.n (AllF.v (fit105 ξ)) AllF.e AllF.e)) (AllF.n (AllF.v (fit57 ξ)) (AllF.n (AllF.no) (AllF.n (AllF.no) (AllF.n (AllF.v (fit281 ξ)) AllF.e AllF.e) AllF.e) (AllF.n (AllF.v (fit217 ξ)) AllF.e AllF.e)) (AllF.n (AllF.v (fit121 ξ)) (AllF.n (AllF.v (fit185 ξ)) AllF.e AllF.e) (AllF.n (AllF.v (fit249 ξ)) AllF.e AllF.e))))) (AllF.n (AllF.no) (AllF.n (AllF.no) (AllF.n (AllF.no) (AllF.n (AllF.no) (AllF.n (AllF.v (fit133 ξ)) (AllF.n (AllF.v (fit261 ξ)) AllF.e AllF.e) AllF.e) (AllF.n (AllF.v (fit197 ξ)) AllF.e AllF.e)) AllF.e) (AllF.n (AllF.v (fit53 ξ)) (AllF.n (AllF.no) AllF.e (AllF.n (AllF.v (fit213 ξ)) AllF.e AllF.e)) (AllF.n (AllF.no) (AllF.n (AllF.v (fit181 ξ)) AllF.e AllF.e) AllF.e))) (AllF.n (AllF.no) (AllF.n (AllF.no) (AllF.n (AllF.v (fit77 ξ)) (AllF.n (AllF.no) (AllF.n (AllF.v (fit269 ξ)) AllF.e AllF.e) AllF.e) AllF.e) (AllF.n (AllF.no) (AllF.n (AllF.v (fit173 ξ)) (AllF.n (AllF.v (fit301 ξ)) AllF.e AllF.e) AllF.e) AllF.e)) (AllF.n (AllF.v (fit61 ξ)) AllF.e (AllF.n (AllF.v (fit125 ξ)) (AllF.n (AllF.v (fit189 ξ)) AllF.e AllF.e) (AllF.n (AllF.v (fit253 ξ)) AllF.e AllF.e))))))) (AllF.n (AllF.no) (AllF.n (AllF.no) (AllF.n (AllF.no) (AllF.n (AllF.v (fit16 ξ)) (AllF.n (AllF.no) (AllF.n (AllF.v (fit64 ξ)) (AllF.n (AllF.v (fit128 ξ)) (AllF.n (AllF.v (fit256 ξ)) AllF.e AllF.e) AllF.e) (AllF.n (AllF.v (fit192 ξ)) AllF.e AllF.e)) AllF.e) (AllF.n (AllF.no) (AllF.n (AllF.no) (AllF.n (AllF.v (fit144 ξ)) AllF.e AllF.e) AllF.e) (AllF.n (AllF.v (fit112 ξ)) (AllF.n (AllF.v (fit176 ξ)) AllF.e AllF.e) AllF.e))) (AllF.n (AllF.v (fit24 ξ)) (AllF.n (AllF.no) (AllF.n (AllF.v (fit72 ξ)) (AllF.n (AllF.v (fit136 ξ)) AllF.e AllF.e) (AllF.n (AllF.v (fit200 ξ)) AllF.e AllF.e)) (AllF.n (AllF.v (fit104 ξ)) AllF.e AllF.e)) (AllF.n (AllF.v (fit56 ξ)) (AllF.n (AllF.no) (AllF.n (AllF.no) (AllF.n (AllF.v (fit280 ξ)) AllF.e AllF.e) AllF.e) AllF.e) (AllF.n (AllF.v (fit120 ξ)) (AllF.n (AllF.v (fit184 ξ)) AllF.e AllF.e) (AllF.n (AllF.v (fit248 ξ)) AllF.e AllF.e))))) (AllF.n (AllF.v (fit12 ξ)) (AllF.n (AllF.v (fit20 ξ)) (AllF.n (AllF.no) (AllF.n (AllF.no) (AllF.n (AllF.v (fit132 ξ)) AllF.e AllF.e) AllF.e) AllF.e) (AllF.n (AllF.v (fit52 ξ)) (AllF.n (AllF.v (fit84 ξ)) AllF.e (AllF.n (AllF.v (fit212 ξ)) AllF.e AllF.e)) (AllF.n (AllF.v (fit116 ξ)) (AllF.n (AllF.v (fit180 ξ)) AllF.e AllF.e) AllF.e))) (AllF.n (AllF.no) (AllF.n (AllF.no) (AllF.n (AllF.v (fit76 ξ)) AllF.e AllF.e) (AllF.n (AllF.v (fit108 ξ)) (AllF.n (AllF.no) (AllF.n (AllF.v (fit300 ξ)) AllF.e AllF.e) AllF.e) AllF.e)) (AllF.n (AllF.v (fit60 ξ)) AllF.e (AllF.n (AllF.v (fit124 ξ)) (AllF.n (AllF.v (fit188 ξ)) AllF.e AllF.e) (AllF.n (AllF.v (fit252 ξ)) AllF.e AllF.e)))))) (AllF.n (AllF.no) (AllF.n (AllF.no) (AllF.n (AllF.v (fit18 ξ)) (AllF.n (AllF.no) (AllF.n (AllF.v (fit66 ξ)) (AllF.n (AllF.v (fit130 ξ)) (AllF.n (AllF.v (fit258 ξ)) AllF.e AllF.e) AllF.e) AllF.e) AllF.e) (AllF.n (AllF.no) AllF.e (AllF.n (AllF.v (fit114 ξ)) (AllF.n (AllF.v (fit178 ξ)) AllF.e AllF.e) AllF.e))) (AllF.n (AllF.v (fit26 ξ)) (AllF.n (AllF.no) (AllF.n (AllF.no) (AllF.n (AllF.v (fit138 ξ)) AllF.e AllF.e) AllF.e) (AllF.n (AllF.v (fit106 ξ)) AllF.e AllF.e)) (AllF.n (AllF.v (fit58 ξ)) AllF.e (AllF.n (AllF.v (fit122 ξ)) (AllF.n (AllF.v (fit186 ξ)) AllF.e AllF.e) (AllF.n (AllF.v (fit250 ξ)) AllF.e AllF.e))))) (AllF.n (AllF.v (fit14 ξ)) (AllF.n (AllF.v (fit22 ξ)) (AllF.n (AllF.no) (AllF.n (AllF.no) (AllF.n (AllF.v (fit134 ξ)) (AllF.n (AllF.v (fit262 ξ)) AllF.e AllF.e) AllF.e) AllF.e) (AllF.n (AllF.v (fit102 ξ)) AllF.e AllF.e)) (AllF.n (AllF.v (fit54 ξ)) (AllF.n (AllF.no) (AllF.n (AllF.v (fit150 ξ)) AllF.e AllF.e) (AllF.n (AllF.v (fit214 ξ)) AllF.e AllF.e)) (AllF.n (AllF.v (fit118 ξ)) (AllF.n (AllF.v (fit182 ξ)) AllF.e AllF.e) AllF.e))) (AllF.n (AllF.no) (AllF.n (AllF.no) (AllF.n (AllF.v (fit78 ξ)) AllF.e AllF.e) (AllF.n (AllF.no) (AllF.n (AllF.v (fit174 ξ)) AllF.e AllF.e) AllF.e)) (AllF.n (AllF.v (fit62 ξ)) (AllF.n (AllF.no) AllF.e (AllF.n (AllF.v (fit222 ξ)) AllF.e AllF.e)) (AllF.n (AllF.v (fit126 ξ)) (AllF.n (AllF.v (fit190 ξ)) AllF.e AllF.e) (AllF.n (AllF.v (fit254 ξ)) AllF.e AllF.e))))))))
end Go.Proofs.YtihdpjinaafenaaGreatDoor

/- The evaluator: answers known ahead of time: Number's of values not looked at; a call that was evaluated. -/
set_option linter.unusedVariables false
set_option linter.unusedSimpArgs false
namespace Go.Proofs.YtihdpjinaafenaaGreatDoor.Ce
open Go.Proofs.YtihdpjinaafenaaGreatDoor.Sl Go.RowKit
variable {P : Program}
def posB : Pos → Pos → Bool
 | .h, .h => true
 | .o p, .o q => posB p q
 | .i p, .i q => posB p q
 | _, _ => false
theorem posB_eq : ∀ {p q : Pos}, posB p q = true → p = q
 | .h, .h, _ => rfl
 | .o p, .o q, h => by rw [posB_eq (p := p) (q := q) h]
 | .i p, .i q, h => by rw [posB_eq (p := p) (q := q) h]
 | .h, .o _, h => by cases h
 | .h, .i _, h => by cases h
 | .o _, .h, h => by cases h
 | .o _, .i _, h => by cases h
 | .i _, .h, h => by cases h
 | .i _, .o _, h => by cases h
theorem calls_pure {f : FuncId} {args : Array Value} {R : Value → Heap → Prop} (c : SCalls P f args (fun _ => none) R) (h : Heap) : SCalls P f args h (fun r h' => h.le h' ∧ ∃ h1, R r h1) := by
 intro w rel
 refine (c w (fun b o e => by cases e)).mono ?_
 rintro e w' ⟨v, h1, rfl, hR, r, st⟩
 refine ⟨v, h, rfl, ⟨Heap.le_refl _, h1, hR⟩, fun b o e => ?_, ⟨st.os, st.tape, st.output, st.size, fun b hb _ => st.keep b hb rfl, fun b e1 e2 => absurd e1 e2⟩⟩
 rw [st.keep b (rel.lt e) rfl]; exact rel b o e
def lookN (j b : Nat) : List (Nat × Nat × Nat) → Option CV
 | [] => none
 | e :: r => bif Nat.beq j e.1 && Nat.beq b e.2.1 then some (.i .i64 (.ofNat e.2.2)) else lookN j b r
def numF (tb : List (Nat × Nat × Nat)) : NF := fun args H n ck => match args with
 | [.xi j, .i .i64 (.ofNat b)] => match lookN j b tb with
  | some v => some (.ok v H n ck)
  | none => none
 | _ => none
def tfF : NF := fun args H n ck => match args with
 | [] => some (.ok (.b true) H n ck)
 | _ => none
noncomputable def lookF (f : Pos) (l : List (Pos × NF)) : Option NF := List.rec none (fun e _ ih => Bool.rec ih (some e.2) (posB f e.1)) l
noncomputable def omL (l : List (Pos × NF)) : Om := fun f args H n ck => Option.rec none (fun F => F args H n ck) (lookF f l)
noncomputable def omX (num : Pos) (fs : List Pos) (tb : List (Nat × Nat × Nat)) (ex : List (Pos × NF)) : Om := omL ((num, numF tb) :: (fs.map (fun f => (f, tfF)) ++ ex))
theorem lookN_mem {j b : Nat} {v : CV} : ∀ {tb : List (Nat × Nat × Nat)}, lookN j b tb = some v → ∃ r, (j, b, r) ∈ tb ∧ v = .i .i64 (.ofNat r)
 | [], h => by cases h
 | (j', b', r) :: tb, h => by
  unfold lookN at h
  cases hb : (Nat.beq j j' && Nat.beq b b') with
  | true =>
   rw [hb] at h
   cases h
   simp only [Bool.and_eq_true, Nat.beq_eq] at hb
   exact ⟨r, by simp [hb.1, hb.2], rfl⟩
  | false =>
   rw [hb] at h
   obtain ⟨r', h1, h2⟩ := lookN_mem h
   exact ⟨r', List.mem_cons_of_mem _ h1, h2⟩
theorem lookF_mem {f : Pos} {F : NF} : ∀ {l : List (Pos × NF)}, lookF f l = some F → (f, F) ∈ l
 | [], h => by cases h
 | (g, G) :: l, h => by
  replace h : (Bool.rec (lookF f l) (some G) (posB f g) : Option NF) = some F := h
  cases hp : posB f g with
  | true => rw [hp] at h; cases h; rw [posB_eq hp]; exact List.mem_cons_self
  | false => rw [hp] at h; exact List.mem_cons_of_mem _ (lookF_mem h)
theorem omL_ok {N : Kn P} {l : List (Pos × NF)} (h : ∀ e ∈ l, NFOk N e.1 e.2) : OmOk N (omL l) := by
 intro f args H n ck v H' n' ck' e
 replace e : (Option.rec none (fun F => F args H n ck) (lookF f l) : Option Ao) = some (.ok v H' n' ck') := e
 cases hl : lookF f l with
 | none => rw [hl] at e; cases e
 | some F =>
  rw [hl] at e
  exact h (f, F) (lookF_mem hl) args H n ck v H' n' ck' e
theorem numF_ok {N : Kn P} {num : Pos} {tb : List (Nat × Nat × Nat)} (ai : Nat → Int) (hx : ∀ j, N.ξ j = .int .i64 (ai j)) (htb : ∀ j b r, (j, b, r) ∈ tb → ai j % (b : Int) = (r : Int) ∧ 0 < b ∧ b ≤ 4611686018427387904)
  (hnum : Ab.okCall P (num.nat - 1) = true) (hN : ∀ (n b : Int) (h : Heap), 0 < b → b ≤ 4611686018427387904 → SCalls P (num.nat - 1) #[.int .i64 n, .int .i64 b] h (fun v h' => h' = h ∧ v = .int .i64 (n % b))) : NFOk N num (numF tb) := by
 intro args H n ck v H' n' ck' e β h vs hr rv
 unfold numF at e
 split at e
 ·rename_i j b
  split at e
  ·rename_i v0 hv0
   cases e
   obtain ⟨r, hr1, rfl⟩ := lookN_mem hv0
   obtain ⟨h1, h2, h3⟩ := htb j b r hr1
   refine ⟨hnum, ?_⟩
   cases rv with
   | cons r1 rv =>
    cases rv with
    | cons r2 rv =>
     cases rv
     cases r1
     cases r2
     rw [hr.xs, hx]
     refine (hN (ai j) (b : Int) h (by omega) (by omega)).mono fun u h' ⟨e1, e2⟩ => ?_
     subst e1
     rw [e2, h1]
     exact aft_le hr (Heap.le_refl _) (.i _ _)
  ·cases e
 ·cases e
theorem tfF_ok {N : Kn P} {f : Pos} (h1 : Ab.okCall P (f.nat - 1) = true) (h2 : SCalls P (f.nat - 1) #[] (fun _ => none) (fun r _ => r = .bool true)) : NFOk N f tfF := by
 intro args H n ck v H' n' ck' e β h vs hr rv
 unfold tfF at e
 split at e
 ·cases e
  refine ⟨h1, ?_⟩
  cases rv
  refine (calls_pure h2 h).mono fun u h' ⟨e1, _, e2⟩ => ?_
  rw [e2]
  exact aft_le hr e1 (.b true)
 ·cases e
theorem omX_ok {N : Kn P} {num : Pos} {fs : List Pos} {tb : List (Nat × Nat × Nat)} {ex : List (Pos × NF)} (ai : Nat → Int) (hx : ∀ j, N.ξ j = .int .i64 (ai j)) (htb : ∀ j b r, (j, b, r) ∈ tb → ai j % (b : Int) = (r : Int) ∧ 0 < b ∧ b ≤ 4611686018427387904)
  (hnum : Ab.okCall P (num.nat - 1) = true) (hN : ∀ (n b : Int) (h : Heap), 0 < b → b ≤ 4611686018427387904 → SCalls P (num.nat - 1) #[.int .i64 n, .int .i64 b] h (fun v h' => h' = h ∧ v = .int .i64 (n % b)))
  (hfs : ∀ f ∈ fs, Ab.okCall P (f.nat - 1) = true ∧ SCalls P (f.nat - 1) #[] (fun _ => none) (fun r _ => r = .bool true)) (hex : ∀ e ∈ ex, NFOk N e.1 e.2) : OmOk N (omX num fs tb ex) := by
 refine omL_ok fun e he => ?_
 rcases List.mem_cons.1 he with rfl | he
 ·exact numF_ok ai hx htb hnum hN
 ·rcases List.mem_append.1 he with he | he
  ·obtain ⟨f, hf, rfl⟩ := List.mem_map.1 he
   exact tfF_ok (hfs f hf).1 (hfs f hf).2
  ·exact hex e he
def om0 : Om := fun _ _ _ _ _ => none
theorem om0_ok {N : Kn P} : OmOk N om0 := fun _ _ _ _ _ _ _ _ _ e => by cases e
end Go.Proofs.YtihdpjinaafenaaGreatDoor.Ce

/- Plain facts on addresses' bits. No program. -/
set_option linter.unusedVariables false
set_option linter.unusedSimpArgs false
namespace Go.Proofs.YtihdpjinaafenaaGreatDoor
theorem wrap64_in (n : Int) (h : -9223372036854775808 ≤ n) (h' : n ≤ 9223372036854775807) : IntKind.i64.wrap n = n := by
 show (if (true && decide (n % 18446744073709551616 ≥ 9223372036854775808)) = true then n % 18446744073709551616 - 18446744073709551616 else n % 18446744073709551616) = n
 simp only [Bool.true_and, decide_eq_true_eq]
 split <;> omega
theorem wrap64_nat (n : Int) (m : Nat) (h : n = (m : Int)) (h' : m ≤ 9223372036854775807) : IntKind.i64.wrap n = (m : Int) := by rw [h, wrap64_in _ (by omega) (by omega)]
def maskNat (m : Nat) : Nat := 4294967296 - 2 ^ (32 - m)
def cut (A m : Nat) : Nat := A &&& maskNat m
end Go.Proofs.YtihdpjinaafenaaGreatDoor

/- rivuletworld.Number. -/
set_option linter.unusedVariables false
set_option linter.unusedSimpArgs false
namespace Go.Proofs.YtihdpjinaafenaaGreatDoor
open Sl
theorem tmod_fix (n b : Int) (hb : 0 < b) : (0 ≤ n.tmod b → n.tmod b = n % b) ∧ (n.tmod b < 0 → n.tmod b + b = n % b) ∧ -b < n.tmod b ∧ n.tmod b < b := by
 have h1 := Int.tmod_eq_emod (a := n) (b := b)
 have h2 := Int.emod_nonneg n (show b ≠ 0 by omega)
 have h3 := Int.emod_lt_of_pos n hb
 have hab : (b.natAbs : Int) = b := by omega
 split at h1
 ·omega
 ·rename_i hc
  have hne : n % b ≠ 0 := fun e => hc (.inr (Int.dvd_of_emod_eq_zero e))
  rw [hab] at h1
  omega
theorem number_ok (n b : Int) (hb : 0 < b) (hb' : b ≤ 4611686018427387904) (h : Heap) : SCalls Tryz.prog 13 #[.int .i64 n, .int .i64 b] h (fun v h' => h' = h ∧ v = .int .i64 (n % b)) := by
 refine s_enter Tryz.func13 rfl (by rw [Tryz.ntmps13]; simp) ?_
 rw [Tryz.ntmps13]
 obtain ⟨hf1, hf2, hlow, hhigh⟩ := tmod_fix n b hb
 have h2 := Int.emod_nonneg n (show b ≠ 0 by omega)
 have h3 := Int.emod_lt_of_pos n hb
 have hbn : b ≠ 0 := by omega
 have hbn' : (b == 0) = false := by simp [hbn]
 have hw : IntKind.i64.wrap (n.tmod b) = n.tmod b := wrap64_in _ (by omega) (by omega)
 generalize hT : T0 #[.int .i64 n, .int .i64 b] = T
 have h0 : T 0 = .int .i64 n := by rw [← hT]; rfl
 have h1 : T 1 = .int .i64 b := by rw [← hT]; rfl
 clear hT
 repeat refine s_seq ?_
 repeat refine s_seq ?_
 refine s_region ?_
 refine w_pv rfl dC (want_none rfl) (p_val evA) ?_
 refine w_nil ?_
 repeat refine s_seq ?_
 refine s_region ?_
 refine w_pv rfl dC (want_none rfl) (p_val evA) ?_
 refine w_pv rfl dC (want_none rfl) (p_val evA) ?_
 refine w_rd rfl dC (want_none rfl) (r_rem rfl evA evA arA) ?_
 refine w_pv rfl dC (want_none rfl) (p_val evA) ?_
 refine w_nil ?_
 repeat refine s_seq ?_
 refine s_region ?_
 refine w_pv rfl dC (want_none rfl) (p_val evA) ?_
 refine w_pv rfl dC (want_none rfl) (p_val evA) ?_
 refine w_nil ?_
 generalize n.tmod b = r at *
 generalize n % b = r' at *
 by_cases hr : r < 0
 ·have hd : decide (r < 0) = true := decide_eq_true hr
  have hw2 : IntKind.i64.wrap (r + b) = r' := by rw [hf2 hr]; exact wrap64_in _ (by omega) (by omega)
  clear hf1 hf2
  repeat refine s_seq ?_
  refine s_cond (t := true) slA ?_
  repeat refine s_seq ?_
  refine s_region ?_
  refine w_pv rfl dC (want_none rfl) (p_val evA) ?_
  refine w_pv rfl dC (want_none rfl) (p_val evA) ?_
  refine w_pv rfl dC (want_none rfl) (p_val evA) ?_
  refine w_pv rfl dC (want_none rfl) (p_val evA) ?_
  refine w_nil ?_
  repeat refine s_seq ?_
  refine s_region ?_
  refine w_pv rfl dC (want_none rfl) (p_val evA) ?_
  refine w_pv rfl dC (want_none rfl) (p_val evA) ?_
  refine w_nil ?_
  refine s_ret ⟨_, res_one rfl rfl, rfl, ?_⟩
  simp only [pval, ev, upd, binVal, intBin, Option.map_some, ↓reduceIte, reduceCtorEq, Nat.reduceEqDiff, Nat.reduceBEq, List.map_toArray, List.map_cons, List.map_nil, cond_true, cond_false, decide_true, decide_false, Bool.not_true, Bool.not_false, Bool.true_and, Bool.false_and, Bool.and_true, Bool.and_false, beq_self_eq_true, bne_self_eq_false, List.getElem_toArray, List.getElem_cons_succ, List.getElem_cons_zero, *]
 ·have hd : decide (r < 0) = false := decide_eq_false hr
  have hw2 : r = r' := hf1 (by omega)
  subst hw2
  clear hf1 hf2
  repeat refine s_seq ?_
  refine s_cond (t := false) slA ?_
  repeat refine s_seq ?_
  refine s_skip ?_
  repeat refine s_seq ?_
  refine s_region ?_
  refine w_pv rfl dC (want_none rfl) (p_val evA) ?_
  refine w_pv rfl dC (want_none rfl) (p_val evA) ?_
  refine w_nil ?_
  refine s_ret ⟨_, res_one rfl rfl, rfl, ?_⟩
  simp only [pval, ev, upd, binVal, intBin, Option.map_some, ↓reduceIte, reduceCtorEq, Nat.reduceEqDiff, Nat.reduceBEq, List.map_toArray, List.map_cons, List.map_nil, cond_true, cond_false, decide_true, decide_false, Bool.not_true, Bool.not_false, Bool.true_and, Bool.false_and, Bool.and_true, Bool.and_false, beq_self_eq_true, bne_self_eq_false, List.getElem_toArray, List.getElem_cons_succ, List.getElem_cons_zero, *]
end Go.Proofs.YtihdpjinaafenaaGreatDoor

/- Which keys are sound: checked by reckoning. -/
set_option linter.unusedVariables false
set_option linter.unusedSimpArgs false
namespace Go.Proofs.YtihdpjinaafenaaGreatDoor.Sl
mutual
def ckv (P : Program) : Nat → TypeId → Value → Bool
 | 0, _, _ => false
 | n + 1, t, v => match P.underlying t, v with
  | some (.struct fs), .agg cs => ckvF P n cs fs.toList
  | some (.int _), _ => true
  | some .string, _ => true
  | some .bool, _ => true
  | _, _ => false
def ckvF (P : Program) : Nat → Array Value → List Field → Bool
 | _, _, [] => true
 | n, cs, f :: r => (if f.name = "_" then true else match partV P f.type cs f.offset with | some a => ckv P n f.type a | none => false) && ckvF P n cs r
end
theorem run_ckv {P : Program} : ∀ (n : Nat) (t : TypeId) (v : Value) (emp : Bool) (w : World), ckv P n t v = true → (Instr.checkKey emp n t v).run P w = .ok () w := by
 intro n
 induction n with
 | zero => intro t v emp w h; simp [ckv] at h
 | succ n ih =>
  have ihF : ∀ (fs : List Field) (cs : Array Value) (emp : Bool) (w : World), ckvF P n cs fs = true → (forIn (m := Sem) fs PUnit.unit fun f __s => if f.name = "_" then pure (ForInStep.yield PUnit.unit) else do
    let x ← part f.type cs f.offset
    (fun a => ForInStep.yield PUnit.unit) <$> Instr.checkKey emp n f.type x).run P w = .ok PUnit.unit w := by
   intro fs
   induction fs with
   | nil => intro cs emp w h; rfl
   | cons f r ihr =>
    intro cs emp w h
    simp only [ckvF, Bool.and_eq_true] at h
    obtain ⟨h1, h2⟩ := h
    have ih2 := ihr cs emp w h2
    simp only [List.forIn_cons, Sem.run_bind]
    by_cases hf : f.name = "_"
    ·simp only [hf, if_true, Sem.run_pure, Result.andThen_ok]; exact ih2
    ·simp only [hf, if_false] at h1
     cases hp : partV P f.type cs f.offset with
     | none => rw [hp] at h1; cases h1
     | some a =>
      rw [hp] at h1
      simp only [hf, if_false, Sem.run_bind, run_partV hp, Result.andThen_ok, Sem.run_map, ih f.type a emp w h1, Sem.run_pure]
      exact ih2
  intro t v emp w h
  unfold ckv at h
  split at h
  ·rename_i fs cs hu
   simp only [Instr.checkKey, Sem.run_bind, run_underlying hu, Result.andThen_ok]
   have := ihF fs.toList cs emp w h
   rw [Array.forIn_toList] at this
   simp [this]
  all_goals first | (rename_i hu; simp [Instr.checkKey, run_underlying hu]; done) | (cases h; done)
end Go.Proofs.YtihdpjinaafenaaGreatDoor.Sl
namespace Go.Proofs.YtihdpjinaafenaaGreatDoor
open Sl
structure Chg (D D' : Nat → Prop) (h h' : Heap) : Prop where
 keep : ∀ b o, ¬ D b → h b = some o → h' b = some o
 ext : ∀ b, D' b → D b ∨ h b = none
theorem Chg.refl (D : Nat → Prop) (h : Heap) : Chg D D h h := ⟨fun _ _ _ e => e, fun _ d => .inl d⟩
theorem Chg.trans {D D1 D2 : Nat → Prop} {h h1 h2 : Heap} (a : Chg D D1 h h1) (b : Chg D1 D2 h1 h2) : Chg D D2 h h2 where
 keep := fun k o hn e => b.keep k o (fun d => by
  rcases a.ext k d with d | d
  ·exact hn d
  ·rw [d] at e; cases e) (a.keep k o hn e)
 ext := fun k d => by
  rcases b.ext k d with d | d
  ·exact a.ext k d
  ·by_cases hd : D k
   ·exact .inl hd
   ·cases e : h k with
    | none => exact .inr rfl
    | some o => rw [a.keep k o hd e] at d; cases d
theorem Chg.le {D D' : Nat → Prop} {h h' h2 : Heap} (a : Chg D D' h h') (l : h'.le h2) : Chg D D' h h2 := ⟨fun b o hn e => l b o (a.keep b o hn e), a.ext⟩
end Go.Proofs.YtihdpjinaafenaaGreatDoor

/- The table of what was heard, in memory. -/
set_option linter.unusedVariables false
set_option linter.unusedSimpArgs false
namespace Go.Proofs.YtihdpjinaafenaaGreatDoor
open Sl
abbrev ThK := (Int × Int × Int) × (Int × Int)
def thV (k : ThK) : Value := .agg #[.int .i64 k.1.1, .int .i64 k.1.2.1, .int .u32 k.1.2.2, .int .u32 k.2.1, .int .u32 k.2.2]
structure MsgA where
 kind : Int
 frm : Int
 to : Int
 src : Int
 grp : Int
 rank : Int
 cost : Int
 only : Bool
 srcs : List Int
def entV (k : ThK) (age : Int) (m : MsgA) (sv : Value) : Value := .agg #[.int .i64 k.1.1, .int .i64 k.1.2.1, .int .u32 k.1.2.2, .int .u32 k.2.1, .int .u32 k.2.2, .int .i64 age, .int .i64 m.kind, .int .u32 m.frm, .int .u32 m.to, .int .u32 m.src, .int .u32 m.grp, .int .i64 m.rank, .int .i64 m.cost, .bool m.only, sv]
structure Rc where
 key : ThK
 age : Int
 msg : MsgA
 sv : Value
 born : Nat
def Rc.ey (r : Rc) : Ey ThK := ⟨r.key, entV r.key r.age r.msg r.sv, r.born⟩
structure AT where
 key : ThK
 age : Int
 msg : MsgA
def Rc.t (r : Rc) : AT := ⟨r.key, r.age, r.msg⟩
structure RowD (h : Heap) (D : Nat → Prop) (r : Rc) : Prop where
 cells : Cells h 1 r.sv r.msg.srcs.length (r.msg.srcs.map (.int .u32))
 blk : ∀ b, blockOf r.sv = some b → D b
 len : r.msg.srcs.length ≤ 1000000
 one : r.sv.oneCell' = true
 age0 : 0 ≤ r.age
 age3 : r.age ≤ 3
structure TableAt (h : Heap) (D : Nat → Prop) (p : Nat) (ts : List AT) : Prop where
 out : ∃ (mv : Value) (ty : TypeId), h p = some (.cells #[mv] ty (0, 0)) ∧ D p ∧ ((mv = .map none ∧ ts = []) ∨ ∃ (mb : Nat) (rs : List Rc) (cl : Nat), mv = .map (some mb) ∧ D mb ∧ IsMapN h mb thV (rs.map Rc.ey) cl ∧ ts = rs.map Rc.t ∧ ∀ r ∈ rs, RowD h D r)
 dom : ∀ b, D b → h b ≠ none
theorem thing_key : KeyLaw Tryz.prog 144 thV where
 now := by
  intro d hd
  rw [Tryz.underlying144] at hd
  cases hd
  exact .inr fun _ _ => rfl
 eq := by
  intro k k' w
  refine run_eqv 10000 _ _ _ _ w ?_
  obtain ⟨⟨a1, a2, a3⟩, a4, a5⟩ := k
  obtain ⟨⟨b1, b2, b3⟩, b4, b5⟩ := k'
  have h52 : Tryz.prog.cellsOf 47 = 2 := by kernel_rfl
  simp [eqv, eqvFields, partV, thV, h52]
  rw [Bool.eq_iff_iff]; simp; omega
 check := fun emp k w => run_ckv 10000 _ _ emp w (by
  have h52 : Tryz.prog.cellsOf 47 = 2 := by kernel_rfl
  simp [ckv, ckvF, partV, thV, h52])
 bits := by intro k; simp [Instr.sameBits, thV]
theorem RowD.only {h h' : Heap} {D : Nat → Prop} {r : Rc} (x : RowD h D r) (e : ∀ b o, D b → h b = some o → (∀ es cl, o ≠ .map es cl) → h' b = some o) : RowD h' D r := by
 refine ⟨?_, x.blk, x.len, x.one, x.age0, x.age3⟩
 have hc := x.cells
 have hb := x.blk
 generalize r.sv = v at hc hb ⊢
 generalize r.msg.srcs.map (Value.int .u32) = cs at hc ⊢
 generalize r.msg.srcs.length = n at hc ⊢
 cases hc with
 | zero a c => exact .zero a c
 | at_ h1 hl hnc hc => exact .at_ (e _ _ (hb _ rfl) h1 (by intros; simp)) hl hnc hc
def gone (r : Rc) : Bool := decide (r.age + 1 > 3)
def tickR (r : Rc) : Option Rc := if gone r then none else some { r with age := r.age + 1 }
def midR (seen : List Nat) (r : Rc) : Option Rc := if r.born ∈ seen then tickR r else some r
def mids (rs : List Rc) (seen : List Nat) : List Rc := rs.filterMap (midR seen)
def goneN (rs : List Rc) (seen : List Nat) : Nat := (rs.filter fun r => decide (r.born ∈ seen) && gone r).length
theorem goneN_nil (rs : List Rc) : goneN rs [] = 0 := by
 unfold goneN
 induction rs with
 | nil => rfl
 | cons r rs ih => rw [List.filter_cons]; simp only [List.not_mem_nil, decide_false, Bool.false_and, Bool.false_eq_true, if_false] at ih ⊢; exact ih
theorem midR_same {seen : List Nat} {r y : Rc} (h : midR seen r = some y) : y.key = r.key ∧ y.born = r.born ∧ y.msg = r.msg ∧ y.sv = r.sv ∧ (r.born ∉ seen → y = r) := by
 unfold midR at h
 split at h
 ·unfold tickR at h
  split at h
  ·cases h
  ·cases h; rename_i h1 _; exact ⟨rfl, rfl, rfl, rfl, fun h2 => absurd h1 h2⟩
 ·cases h; exact ⟨rfl, rfl, rfl, rfl, fun _ => rfl⟩
theorem mids_nil (rs : List Rc) : mids rs [] = rs := by
 unfold mids
 induction rs with
 | nil => rfl
 | cons r rs ih => rw [List.filterMap_cons]; simp [midR]; exact ih
theorem mids_at {rs : List Rc} {seen : List Nat} {e : Ey ThK} (he : e ∈ (mids rs seen).map Rc.ey) (hs : e.born ∉ seen) : ∃ r ∈ rs, e = r.ey ∧ r.born ∉ seen := by
 obtain ⟨y, hy, rfl⟩ := List.mem_map.1 he
 obtain ⟨r, hr, h1⟩ := List.mem_filterMap.1 hy
 obtain ⟨_, h2, _, _, h3⟩ := midR_same h1
 have hs' : r.born ∉ seen := by rw [← h2]; exact hs
 exact ⟨r, hr, by rw [h3 hs'], hs'⟩
theorem filter_mid {f f' : Rc → Option Rc} {p : Rc → Bool} : ∀ {rs : List Rc}, (∀ x ∈ rs, f' x = (f x).filter p) → (rs.filterMap f).filter p = rs.filterMap f'
 | [], _ => rfl
 | r :: rs, h => by
  have ih := filter_mid (rs := rs) (f := f) (f' := f') (p := p) (fun x hx => h x (by simp [hx]))
  have h0 := h r (by simp)
  rw [List.filterMap_cons, List.filterMap_cons, h0]
  cases f r with
  | none => simpa using ih
  | some y =>
   cases hp : p y with
   | true => simp [Option.filter, hp, ih]
   | false => simp [Option.filter, hp, ih]
theorem map_mid {f f' : Rc → Option Rc} {g : Rc → Rc} {rs : List Rc} (h : ∀ x ∈ rs, f' x = (f x).map g) : (rs.filterMap f).map g = rs.filterMap f' := by
 induction rs with
 | nil => rfl
 | cons r rs ih =>
  have ih := ih (fun x hx => h x (by simp [hx]))
  rw [List.filterMap_cons, List.filterMap_cons, h r (by simp)]
  cases f r with
  | none => simpa using ih
  | some y => simp [ih]
theorem fm_congr {f g : Rc → Option Rc} {rs : List Rc} (h : ∀ x ∈ rs, f x = g x) : rs.filterMap f = rs.filterMap g := by
 induction rs with
 | nil => rfl
 | cons r rs ih => rw [List.filterMap_cons, List.filterMap_cons, h r (by simp), ih (fun x hx => h x (by simp [hx]))]
theorem uniq_born {rs : List Rc} (nd : (rs.map (·.born)).Nodup) {r x : Rc} (hr : r ∈ rs) (hx : x ∈ rs) (e : x.born = r.born) : x = r := by
 induction rs with
 | nil => cases hr
 | cons a rs ih =>
  simp only [List.map_cons, List.nodup_cons] at nd
  rcases List.mem_cons.1 hr with hr2 | hr2 <;> rcases List.mem_cons.1 hx with hx2 | hx2
  ·rw [hr2, hx2]
  ·exact absurd (List.mem_map.2 ⟨x, hx2, by rw [e, hr2]⟩) nd.1
  ·exact absurd (List.mem_map.2 ⟨r, hr2, by rw [← e, hx2]⟩) nd.1
  ·exact ih nd.2 hr2 hx2
theorem uniq_key {rs : List Rc} (nd : (rs.map (·.key)).Nodup) {r x : Rc} (hr : r ∈ rs) (hx : x ∈ rs) (e : x.key = r.key) : x = r := by
 induction rs with
 | nil => cases hr
 | cons a rs ih =>
  simp only [List.map_cons, List.nodup_cons] at nd
  rcases List.mem_cons.1 hr with hr2 | hr2 <;> rcases List.mem_cons.1 hx with hx2 | hx2
  ·rw [hr2, hx2]
  ·exact absurd (List.mem_map.2 ⟨x, hx2, by rw [e, hr2]⟩) nd.1
  ·exact absurd (List.mem_map.2 ⟨r, hr2, by rw [← e, hx2]⟩) nd.1
  ·exact ih nd.2 hr2 hx2
section
variable {rs : List Rc} {seen : List Nat} {r : Rc}
theorem mid_del (nb : (rs.map (·.born)).Nodup) (nk : (rs.map (·.key)).Nodup) (hr : r ∈ rs) (hs : r.born ∉ seen) (hg : gone r = true) : delN ((mids rs seen).map Rc.ey) r.key = (mids rs (seen ++ [r.born])).map Rc.ey := by
 have h1 : delN ((mids rs seen).map Rc.ey) r.key = ((mids rs seen).filter fun y => !decide (y.key = r.key)).map Rc.ey := by
  unfold delN; rw [List.filter_map]; rfl
 rw [h1]
 congr 1
 refine filter_mid fun x hx => ?_
 by_cases hxr : x.born = r.born
 ·have := uniq_born nb hr hx hxr
  subst this
  have e1 : midR seen x = some x := by simp [midR, hs]
  have e2 : midR (seen ++ [x.born]) x = none := by simp [midR, tickR, hg]
  rw [e1, e2]; simp [Option.filter]
 ·have e1 : midR (seen ++ [r.born]) x = midR seen x := by simp [midR, hxr]
  rw [e1]
  cases hm : midR seen x with
  | none => rfl
  | some y =>
   have hk : y.key ≠ r.key := fun e => by
    rw [(midR_same hm).1] at e
    exact hxr (by rw [uniq_key nk hr hx e])
   simp [Option.filter, hk]
theorem mid_set (nb : (rs.map (·.born)).Nodup) (nk : (rs.map (·.key)).Nodup) (hr : r ∈ rs) (hs : r.born ∉ seen) (hg : gone r = false) : setN ((mids rs seen).map Rc.ey) r.key (entV r.key (r.age + 1) r.msg r.sv) = (mids rs (seen ++ [r.born])).map Rc.ey := by
 have h1 : setN ((mids rs seen).map Rc.ey) r.key (entV r.key (r.age + 1) r.msg r.sv) = ((mids rs seen).map fun y => if y.key = r.key then { r with age := r.age + 1 } else y).map Rc.ey := by
  unfold setN
  rw [List.map_map, List.map_map]
  apply List.map_congr_left
  intro y hy
  obtain ⟨x, hx, hm⟩ := List.mem_filterMap.1 hy
  simp only [Function.comp]
  by_cases hk : y.key = r.key
  ·have hk2 : x.key = r.key := by rw [← (midR_same hm).1]; exact hk
   have := uniq_key nk hr hx hk2
   subst this
   have := (midR_same hm).2.2.2.2 hs
   subst this
   simp [Rc.ey]
  ·rw [if_neg hk, if_neg (by simpa [Rc.ey] using hk)]
 rw [h1]
 congr 1
 refine map_mid fun x hx => ?_
 by_cases hxr : x.born = r.born
 ·have := uniq_born nb hr hx hxr
  subst this
  have e1 : midR seen x = some x := by simp [midR, hs]
  have e2 : midR (seen ++ [x.born]) x = some { x with age := x.age + 1 } := by simp [midR, tickR, hg]
  rw [e1, e2]; simp
 ·have e1 : midR (seen ++ [r.born]) x = midR seen x := by simp [midR, hxr]
  rw [e1]
  cases hm : midR seen x with
  | none => rfl
  | some y =>
   have hk : y.key ≠ r.key := fun e => by
    rw [(midR_same hm).1] at e
    exact hxr (by rw [uniq_key nk hr hx e])
   simp [hk]
theorem gone_step (nb : (rs.map (·.born)).Nodup) (hr : r ∈ rs) (hs : r.born ∉ seen) : goneN rs (seen ++ [r.born]) = goneN rs seen + if gone r then 1 else 0 := by
 unfold goneN
 induction rs with
 | nil => cases hr
 | cons a rs ih =>
  simp only [List.map_cons, List.nodup_cons] at nb
  rcases List.mem_cons.1 hr with rfl | hr
  ·have hrest : (rs.filter fun x => decide (x.born ∈ seen ++ [r.born]) && gone x) = rs.filter fun x => decide (x.born ∈ seen) && gone x := by
    apply List.filter_congr
    intro x hx
    have : x.born ≠ r.born := fun e => nb.1 (List.mem_map.2 ⟨x, hx, e⟩)
    simp [this]
   rw [List.filter_cons, List.filter_cons, hrest]
   cases hg : gone r <;> simp [hs]
  ·have hne : a.born ≠ r.born := fun e => nb.1 (List.mem_map.2 ⟨r, hr, e.symm⟩)
   have ih := ih nb.2 hr
   rw [List.filter_cons, List.filter_cons]
   simp only [List.mem_append, List.mem_singleton, hne, or_false] at ih ⊢
   split
   ·simp only [List.length_cons, ih]; omega
   ·exact ih
end
theorem mids_all {rs : List Rc} {seen : List Nat} (h : ∀ e ∈ (mids rs seen).map Rc.ey, e.born ∈ seen) : mids rs seen = rs.filterMap tickR ∧ goneN rs seen = (rs.filter gone).length := by
 have hin : ∀ r ∈ rs, r.born ∈ seen := by
  intro r hr
  by_cases hs : r.born ∈ seen
  ·exact hs
  ·exact h r.ey (List.mem_map.2 ⟨r, List.mem_filterMap.2 ⟨r, hr, by simp [midR, hs]⟩, rfl⟩)
 constructor
 ·unfold mids
  refine fm_congr fun r hr => ?_
  simp [midR, hin r hr]
 ·unfold goneN
  congr 1
  apply List.filter_congr
  intro r hr
  simp [hin r hr]
def kzero : ThK := ((0, 0, 0), (0, 0))
def mzero : MsgA := ⟨0, 0, 0, 0, 0, 0, 0, false, []⟩
end Go.Proofs.YtihdpjinaafenaaGreatDoor
