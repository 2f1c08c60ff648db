import Derived.Test.YtihdpjinaafenaaGreatDoorFr18
import Derived.Test.YtihdpjinaafenaaGreatDoorProg
noncomputable section
/- Plain facts on addresses' bits. No program. -/
set_option linter.unusedVariables false
set_option linter.unusedSimpArgs false
namespace Go.Proofs.YtihdpjinaafenaaGreatDoor
theorem wrap32_nat (A:Nat) (h:A < 4294967296):IntKind.u32.wrap (A:Int) = (A:Int):=by
 show (if (false && decide ((A:Int) % 4294967296 ≥ 2147483648)) = true then (A:Int) % 4294967296 - 4294967296 else (A:Int) % 4294967296) = _
 simp only [Bool.false_and,Bool.false_eq_true,if_false]
 omega
theorem wrap64_in (n:Int) (h:-9223372036854775808 ≤ n) (h':n ≤ 9223372036854775807):IntKind.i64.wrap n = n:=by
 show (if (true && decide (n % 18446744073709551616 ≥ 9223372036854775808)) = true then n % 18446744073709551616 - 18446744073709551616 else n % 18446744073709551616) = n
 simp only [Bool.true_and,decide_eq_true_eq]
 split <;> omega
def bitI (A i:Nat):Bool:=A.testBit (31 - i)
def maskNat (m:Nat):Nat:=4294967296 - 2 ^ (32 - m)
theorem maskNat_lt (m:Nat):maskNat m < 4294967296:=by unfold maskNat; have:0 < 2 ^ (32 - m):=Nat.pos_of_ne_zero (by simp); omega
theorem maskNat_bit:∀ m:Nat,m ≤ 32 → ∀ j:Nat,j < 32 → (maskNat m).testBit j = decide (32 - m ≤ j):=by decide
def cut (A m:Nat):Nat:=A &&& maskNat m
theorem cut_bit (A m:Nat) (hA:A < 4294967296) (hm:m ≤ 32) (i:Nat) (hi:i ≤ 31):bitI (cut A m) i = (bitI A i && decide (i < m)):=by
 unfold bitI cut
 rw [Nat.testBit_and,maskNat_bit m hm (31 - i) (by omega)]
 congr 1
 simp; omega
theorem cut_lt (A m:Nat) (hA:A < 4294967296):cut A m < 4294967296:=Nat.lt_of_le_of_lt Nat.and_le_left hA
theorem eq_of_bits (A B:Nat) (hA:A < 4294967296) (hB:B < 4294967296) (h:∀ i,i ≤ 31 → bitI A i = bitI B i):A = B:=by
 apply Nat.eq_of_testBit_eq
 intro j
 rcases Nat.lt_or_ge j 32 with hj | hj
 ·have:=h (31 - j) (by omega)
  unfold bitI at this
  rwa [show 31 - (31 - j) = j by omega] at this
 ·have h32:(4294967296:Nat) ≤ 2 ^ j:=by
   have:2 ^ 32 ≤ 2 ^ j:=Nat.pow_le_pow_right (by decide) hj
   exact this
  rw [Nat.testBit_lt_two_pow (Nat.lt_of_lt_of_le hA h32),Nat.testBit_lt_two_pow (Nat.lt_of_lt_of_le hB h32)]
end Go.Proofs.YtihdpjinaafenaaGreatDoor

/- rivuletworld.Number. -/
namespace Go.Proofs.YtihdpjinaafenaaGreatDoor
open Sl
theorem tmod_fix (n b:Int) (hb:0 < b):(0 ≤ n.tmod b → n.tmod b = n % b) ∧ (n.tmod b < 0 → n.tmod b + b = n % b) ∧ -b < n.tmod b ∧ n.tmod b < b:=by
 have h1:=Int.tmod_eq_emod (a:=n) (b:=b)
 have h2:=Int.emod_nonneg n (show b ≠ 0 by omega)
 have h3:=Int.emod_lt_of_pos n hb
 have hab:(b.natAbs:Int) = b:=by omega
 split at h1
 ·omega
 ·rename_i hc
  have hne:n % b ≠ 0:=fun e=>hc (.inr (Int.dvd_of_emod_eq_zero e))
  rw [hab] at h1
  omega
theorem number_ok (n b:Int) (hb:0 < b) (hb':b ≤ 4611686018427387904) (h:Heap):SCalls Tryz.prog 13 #[.int .i64 n,.int .i64 b] h (fun v h'=>h' = h ∧ v = .int .i64 (n % b)):=by
 refine s_enter Tryz.func13 rfl (by rw [Tryz.ntmps13]; simp) ?_
 rw [Tryz.ntmps13]
 obtain ⟨hf1,hf2,hlow,hhigh⟩:=tmod_fix n b hb
 have h2:=Int.emod_nonneg n (show b ≠ 0 by omega)
 have h3:=Int.emod_lt_of_pos n hb
 have hbn:b ≠ 0:=by omega
 have hbn':(b == 0) = false:=by simp [hbn]
 have hw:IntKind.i64.wrap (n.tmod b) = n.tmod b:=wrap64_in _ (by omega) (by omega)
 generalize hT:T0 #[.int .i64 n,.int .i64 b] = T
 have h0:T 0 = .int .i64 n:=by rw [← hT]; rfl
 have h1:T 1 = .int .i64 b:=by rw [← hT]; rfl
 clear hT
 repeat refine s_seq ?_
 repeat refine s_seq ?_
 refine s_region ?_
 refine w_pv rfl dC (want_none rfl) (p_val evA) ?_
 refine w_nil ?_
 repeat refine s_seq ?_
 refine s_region ?_
 refine w_pv rfl dC (want_none rfl) (p_val evA) ?_
 refine w_pv rfl dC (want_none rfl) (p_val evA) ?_
 refine w_rd rfl dC (want_none rfl) (r_rem rfl evA evA arA) ?_
 refine w_pv rfl dC (want_none rfl) (p_val evA) ?_
 refine w_nil ?_
 repeat refine s_seq ?_
 refine s_region ?_
 refine w_pv rfl dC (want_none rfl) (p_val evA) ?_
 refine w_pv rfl dC (want_none rfl) (p_val evA) ?_
 refine w_nil ?_
 generalize n.tmod b = r at *
 generalize n % b = r' at *
 by_cases hr:r < 0
 ·have hd:decide (r < 0) = true:=decide_eq_true hr
  have hw2:IntKind.i64.wrap (r + b) = r':=by rw [hf2 hr]; exact wrap64_in _ (by omega) (by omega)
  clear hf1 hf2
  repeat refine s_seq ?_
  refine s_cond (t:=true) slA ?_
  repeat refine s_seq ?_
  refine s_region ?_
  refine w_pv rfl dC (want_none rfl) (p_val evA) ?_
  refine w_pv rfl dC (want_none rfl) (p_val evA) ?_
  refine w_pv rfl dC (want_none rfl) (p_val evA) ?_
  refine w_pv rfl dC (want_none rfl) (p_val evA) ?_
  refine w_nil ?_
  repeat refine s_seq ?_
  refine s_region ?_
  refine w_pv rfl dC (want_none rfl) (p_val evA) ?_
  refine w_pv rfl dC (want_none rfl) (p_val evA) ?_
  refine w_nil ?_
  refine s_ret ⟨_,res_one rfl rfl,rfl,?_⟩
  simp only [pval,ev,upd,binVal,intBin,Option.map_some,↓reduceIte,reduceCtorEq,Nat.reduceEqDiff,Nat.reduceBEq,List.map_toArray,List.map_cons,List.map_nil,cond_true,cond_false,decide_true,decide_false,Bool.not_true,Bool.not_false,Bool.true_and,Bool.false_and,Bool.and_true,Bool.and_false,beq_self_eq_true,bne_self_eq_false,List.getElem_toArray,List.getElem_cons_succ,List.getElem_cons_zero, *]
 ·have hd:decide (r < 0) = false:=decide_eq_false hr
  have hw2:r = r':=hf1 (by omega)
  subst hw2
  clear hf1 hf2
  repeat refine s_seq ?_
  refine s_cond (t:=false) slA ?_
  repeat refine s_seq ?_
  refine s_skip ?_
  repeat refine s_seq ?_
  refine s_region ?_
  refine w_pv rfl dC (want_none rfl) (p_val evA) ?_
  refine w_pv rfl dC (want_none rfl) (p_val evA) ?_
  refine w_nil ?_
  refine s_ret ⟨_,res_one rfl rfl,rfl,?_⟩
  simp only [pval,ev,upd,binVal,intBin,Option.map_some,↓reduceIte,reduceCtorEq,Nat.reduceEqDiff,Nat.reduceBEq,List.map_toArray,List.map_cons,List.map_nil,cond_true,cond_false,decide_true,decide_false,Bool.not_true,Bool.not_false,Bool.true_and,Bool.false_and,Bool.and_true,Bool.and_false,beq_self_eq_true,bne_self_eq_false,List.getElem_toArray,List.getElem_cons_succ,List.getElem_cons_zero, *]
end Go.Proofs.YtihdpjinaafenaaGreatDoor

/- Addresses: masks, whether a prefix may be. -/
namespace Go.Proofs.YtihdpjinaafenaaGreatDoor
open Sl
def maskN (m:Nat):Int:=4294967296 - 2 ^ (32 - m)
def clip (n:Int):Nat:=if n < 0 then 0 else if 32 < n then 32 else n.toNat
theorem mask_eq:∀ m:Nat,m ≤ 32 → IntKind.u32.wrap (BitVec.ofInt IntKind.u32.bits (if IntKind.u32.signed then -1 else IntKind.u32.max) ^^^ BitVec.ofInt IntKind.u32.bits (Int.fdiv 4294967295 (2 ^ (min m IntKind.u32.bits)))).toNat = maskN m:=by decide
theorem clip_eq (n:Int):(if 32 < (if 0 > n then 0 else n) then 32 else if 0 > n then 0 else n) = (clip n:Int):=by
 unfold clip
 split <;> split <;> (try split) <;> omega
theorem clip_le (n:Int):clip n ≤ 32:=by unfold clip; split <;> (try split) <;> omega
theorem mask_ok (n:Int) (h:Heap):SCalls Tryz.prog 255 #[.int .i64 n] h (fun v h'=>h' = h ∧ v = .int .u32 (maskN (clip n))):=by
 refine s_enter Tryz.func255 rfl (by rw [Tryz.ntmps255]; simp) ?_
 rw [Tryz.ntmps255]
 have hc:=clip_eq n
 have hl:=clip_le n
 generalize hT:T0 #[.int .i64 n] = T
 have h0:T 0 = .int .i64 n:=by rw [← hT]; rfl
 clear hT
 refine s_seq ?_
 refine s_region ?_
 refine w_pv rfl dC (want_none rfl) (p_val evA) ?_
 refine w_nil ?_
 refine s_seq ?_
 refine s_region ?_
 refine w_pv rfl dC (want_none rfl) (p_val evA) ?_
 refine w_rd rfl dC (want_none rfl) (r_max2 rfl evA evA) ?_
 refine w_rd rfl dC (want_none rfl) (r_min2 rfl evA evA) ?_
 refine w_pv rfl dC (want_none rfl) (p_val evA) ?_
 refine w_nil ?_
 refine s_seq ?_
 refine s_region ?_
 refine w_pv rfl dC (want_none rfl) (p_val evA) ?_
 refine w_rd rfl dC (want_none rfl) (r_shr rfl evA evA arA) ?_
 refine w_rd rfl dC (want_none rfl) (r_bnot rfl evA) ?_
 refine w_pv rfl dC (want_none rfl) (p_val evA) ?_
 refine w_nil ?_
 refine s_ret ⟨_,res_one rfl rfl,rfl,?_⟩
 simp only [upd,↓reduceIte,hc,Int.toNat_natCast]
 exact congrArg _ (mask_eq _ hl)

def pfxV (a n:Int):Value:=.agg #[.int .u32 a,.int .i64 n]
def validB (a n:Int):Bool:=decide (n ≥ 0) && decide (n ≤ 32) && (IntKind.u32.wrap (BitVec.ofInt IntKind.u32.bits a &&& ~~~(BitVec.ofInt IntKind.u32.bits (maskN (clip n)))).toNat == 0)
theorem addrValid_ok (a n:Int) (h:Heap):SCalls Tryz.prog 184 #[pfxV a n] h (fun v h'=>h.le h' ∧ v = .bool (validB a n)):=by
 refine s_enter Tryz.func184 rfl (by rw [Tryz.ntmps184]; simp) ?_
 rw [Tryz.ntmps184]
 generalize hT:T0 #[pfxV a n] = T
 have h0:T 0 = .agg #[.int .u32 a,.int .i64 n]:=by rw [← hT]; rfl
 clear hT
 refine s_seq ?_
 refine s_region ?_
 refine w_al rfl dC (want_none rfl) (a_boxN rfl evA) ?_
 intro b1 hb1
 refine w_pv rfl dC (want_none rfl) (p_val evA) ?_
 refine w_nil ?_
 have hle:=Heap.le_set (.cells #[.int .u32 a,.int .i64 n] 118) hb1
 unfold validB
 refine s_seq ?_
 by_cases hn:n ≥ 0
 ·by_cases h32:n ≤ 32
  ·have e1:decide (n ≥ 0) = true:=decide_eq_true hn
   have e2:decide (n ≤ 32) = true:=decide_eq_true h32
   refine s_draw [(0,true),(1,true),(2,true),(3,true),(4,true),(5,true),(6,true),(7,true),(8,true),(9,true),(10,true),(11,true),(12,true),(13,true),(14,true),(15,true),(16,true),(17,true)] [] [] rfl kR kR ?_
   refine d_pv rfl rfl dC rfl rfl (want_none rfl) (p_fieldAddr (k:=1) rfl evA kR) ?_
   refine d_rd [_] rfl rfl dC rfl rfl (want_none rfl) (r_load1 rfl Tryz.underlying3 rfl evA (restr1 hpA) ceA) ?_
   refine d_pv rfl rfl dC rfl rfl (want_none rfl) (p_val evA) ?_
   refine d_pv rfl rfl dC rfl rfl (want_none rfl) (p_val evA) ?_
   refine d_pv rfl rfl dC rfl rfl (want_let rfl rfl evA) (p_fieldAddr (k:=1) rfl evA kR) ?_
   refine d_rd [_] rfl rfl dC rfl rfl (want_let rfl rfl evA) (r_load1 rfl Tryz.underlying3 rfl evA (restr1 hpA) ceA) ?_
   refine d_pv rfl rfl dC rfl rfl (want_let rfl rfl evA) (p_val evA) ?_
   refine d_pv rfl rfl dC rfl rfl (want_none rfl) (p_val evA) ?_
   refine d_pv rfl rfl dC rfl rfl (want_none rfl) (p_val evA) ?_
   refine d_pv rfl rfl dC rfl rfl (want_let rfl rfl evA) (p_fieldAddr (k:=0) rfl evA kR) ?_
   refine d_rd [_] rfl rfl dC rfl rfl (want_let rfl rfl evA) (r_load1 rfl Tryz.underlying23 rfl evA (restr1 hpA) ceA) ?_
   refine d_pv rfl rfl dC rfl rfl (want_let rfl rfl evA) (p_fieldAddr (k:=1) rfl evA kR) ?_
   refine d_rd [_] rfl rfl dC rfl rfl (want_let rfl rfl evA) (r_load1 rfl Tryz.underlying3 rfl evA (restr1 hpA) ceA) ?_
   refine d_qac rfl rfl dC (by decide) rfl (want_let rfl rfl evA) (s_call rfl rfl Tryz.func255 kR kR evA ?_); refine (mask_ok _ _).mono ?_; rintro _ _ ⟨rfl,rfl⟩; refine ⟨(fun _ _ h=>h),?_⟩
   refine d_pv rfl rfl dC rfl rfl (want_let rfl rfl evA) (p_val evA) ?_
   refine d_pv rfl rfl dC rfl rfl (want_let rfl rfl evA) (p_val evA) ?_
   refine d_pv rfl rfl dC rfl rfl (want_none rfl) (p_val evA) ?_
   refine d_pv rfl rfl dC rfl rfl (want_none rfl) (p_val evA) ?_
   refine d_nil ?_
   refine s_ret ⟨_,res_one rfl rfl,hle,?_⟩
   simp only [pval,ev,upd,binVal,intBin,Option.map_some,↓reduceIte,reduceCtorEq,Nat.reduceEqDiff,Nat.reduceBEq,List.map_toArray,List.map_cons,List.map_nil,cond_true,cond_false,decide_true,decide_false,Bool.not_true,Bool.not_false,Bool.true_and,Bool.false_and,Bool.and_true,Bool.and_false,beq_self_eq_true,bne_self_eq_false,List.getElem_toArray,List.getElem_cons_succ,List.getElem_cons_zero,e1,e2,Bool.true_and]
  ·have e1:decide (n ≥ 0) = true:=decide_eq_true hn
   have e2:decide (n ≤ 32) = false:=decide_eq_false h32
   refine s_draw [(0,true),(1,true),(2,true),(3,true),(4,true),(5,true),(6,true),(7,true),(8,true),(9,true),(10,true),(11,true),(12,true),(13,true),(14,true),(15,true),(16,true),(17,true)] [] [] rfl kR kR ?_
   refine d_pv rfl rfl dC rfl rfl (want_none rfl) (p_fieldAddr (k:=1) rfl evA kR) ?_
   refine d_rd [_] rfl rfl dC rfl rfl (want_none rfl) (r_load1 rfl Tryz.underlying3 rfl evA (restr1 hpA) ceA) ?_
   refine d_pv rfl rfl dC rfl rfl (want_none rfl) (p_val evA) ?_
   refine d_pv rfl rfl dC rfl rfl (want_none rfl) (p_val evA) ?_
   refine d_pv rfl rfl dC rfl rfl (want_let rfl rfl evA) (p_fieldAddr (k:=1) rfl evA kR) ?_
   refine d_rd [_] rfl rfl dC rfl rfl (want_let rfl rfl evA) (r_load1 rfl Tryz.underlying3 rfl evA (restr1 hpA) ceA) ?_
   refine d_pv rfl rfl dC rfl rfl (want_let rfl rfl evA) (p_val evA) ?_
   refine d_pv rfl rfl dC rfl rfl (want_none rfl) (p_val evA) ?_
   refine d_pv rfl rfl dC rfl rfl (want_none rfl) (p_val evA) ?_
   refine d_skp rfl rfl dC (want_not rfl rfl evA rfl) ?_
   refine d_skp rfl rfl dC (want_not rfl rfl evA rfl) ?_
   refine d_skp rfl rfl dC (want_not rfl rfl evA rfl) ?_
   refine d_skp rfl rfl dC (want_not rfl rfl evA rfl) ?_
   refine d_skp rfl rfl dC (want_not rfl rfl evA rfl) ?_
   refine d_skp rfl rfl dC (want_not rfl rfl evA rfl) ?_
   refine d_skp rfl rfl dC (want_not rfl rfl evA rfl) ?_
   refine d_pv rfl rfl dC rfl rfl (want_none rfl) (p_val evA) ?_
   refine d_pv rfl rfl dC rfl rfl (want_none rfl) (p_val evA) ?_
   refine d_nil ?_
   refine s_ret ⟨_,res_one rfl rfl,hle,?_⟩
   simp only [pval,ev,upd,binVal,intBin,Option.map_some,↓reduceIte,reduceCtorEq,Nat.reduceEqDiff,Nat.reduceBEq,List.map_toArray,List.map_cons,List.map_nil,cond_true,cond_false,decide_true,decide_false,Bool.not_true,Bool.not_false,Bool.true_and,Bool.false_and,Bool.and_true,Bool.and_false,beq_self_eq_true,bne_self_eq_false,List.getElem_toArray,List.getElem_cons_succ,List.getElem_cons_zero,e1,e2,Bool.true_and,Bool.false_and]
 ·have e1:decide (n ≥ 0) = false:=decide_eq_false hn
  refine s_draw [(0,true),(1,true),(2,true),(3,true),(4,true),(5,true),(6,true),(7,true),(8,true),(9,true),(10,true),(11,true),(12,true),(13,true),(14,true),(15,true),(16,true),(17,true)] [] [] rfl kR kR ?_
  refine d_pv rfl rfl dC rfl rfl (want_none rfl) (p_fieldAddr (k:=1) rfl evA kR) ?_
  refine d_rd [_] rfl rfl dC rfl rfl (want_none rfl) (r_load1 rfl Tryz.underlying3 rfl evA (restr1 hpA) ceA) ?_
  refine d_pv rfl rfl dC rfl rfl (want_none rfl) (p_val evA) ?_
  refine d_pv rfl rfl dC rfl rfl (want_none rfl) (p_val evA) ?_
  refine d_skp rfl rfl dC (want_not rfl rfl evA rfl) ?_
  refine d_skp rfl rfl dC (want_not rfl rfl evA rfl) ?_
  refine d_skp rfl rfl dC (want_not rfl rfl evA rfl) ?_
  refine d_pv rfl rfl dC rfl rfl (want_none rfl) (p_val evA) ?_
  refine d_pv rfl rfl dC rfl rfl (want_none rfl) (p_val evA) ?_
  refine d_skp rfl rfl dC (want_not rfl rfl evA rfl) ?_
  refine d_skp rfl rfl dC (want_not rfl rfl evA rfl) ?_
  refine d_skp rfl rfl dC (want_not rfl rfl evA rfl) ?_
  refine d_skp rfl rfl dC (want_not rfl rfl evA rfl) ?_
  refine d_skp rfl rfl dC (want_not rfl rfl evA rfl) ?_
  refine d_skp rfl rfl dC (want_not rfl rfl evA rfl) ?_
  refine d_skp rfl rfl dC (want_not rfl rfl evA rfl) ?_
  refine d_pv rfl rfl dC rfl rfl (want_none rfl) (p_val evA) ?_
  refine d_pv rfl rfl dC rfl rfl (want_none rfl) (p_val evA) ?_
  refine d_nil ?_
  refine s_ret ⟨_,res_one rfl rfl,hle,?_⟩
  simp only [pval,ev,upd,binVal,intBin,Option.map_some,↓reduceIte,reduceCtorEq,Nat.reduceEqDiff,Nat.reduceBEq,List.map_toArray,List.map_cons,List.map_nil,cond_true,cond_false,decide_true,decide_false,Bool.not_true,Bool.not_false,Bool.true_and,Bool.false_and,Bool.and_true,Bool.and_false,beq_self_eq_true,bne_self_eq_false,List.getElem_toArray,List.getElem_cons_succ,List.getElem_cons_zero,e1,Bool.false_and]

theorem maskN_nat:∀ m:Nat,m ≤ 32 → maskN m = (maskNat m:Int):=by decide
theorem bv_and (A B:Nat) (hA:A < 4294967296) (hB:B < 4294967296):IntKind.u32.wrap ((BitVec.ofInt IntKind.u32.bits (A:Int) &&& BitVec.ofInt IntKind.u32.bits (B:Int)).toNat:Int) = ((A &&& B:Nat):Int):=by
 change IntKind.u32.wrap ((BitVec.ofInt 32 (A:Int) &&& BitVec.ofInt 32 (B:Int)).toNat:Int) = _
 rw [BitVec.ofInt_natCast,BitVec.ofInt_natCast,BitVec.toNat_and,BitVec.toNat_ofNat,BitVec.toNat_ofNat,Nat.mod_eq_of_lt (by exact hA),Nat.mod_eq_of_lt (by exact hB)]
 exact wrap32_nat _ (Nat.lt_of_le_of_lt Nat.and_le_left hA)
theorem bv_andNot_zero (A m:Nat) (hA:A < 4294967296) (hm:m ≤ 32):(IntKind.u32.wrap ((BitVec.ofInt IntKind.u32.bits (A:Int) &&& ~~~(BitVec.ofInt IntKind.u32.bits (maskNat m:Int))).toNat:Int) == 0) = decide (cut A m = A):=by
 change (IntKind.u32.wrap ((BitVec.ofInt 32 (A:Int) &&& ~~~(BitVec.ofInt 32 (maskNat m:Int))).toNat:Int) == 0) = _
 rw [BitVec.ofInt_natCast,BitVec.ofInt_natCast]
 have hlt:=(BitVec.ofNat 32 A &&& ~~~(BitVec.ofNat 32 (maskNat m))).isLt
 rw [wrap32_nat _ hlt]
 have hz:(((BitVec.ofNat 32 A &&& ~~~(BitVec.ofNat 32 (maskNat m))).toNat:Int) == 0) = decide (BitVec.ofNat 32 A &&& ~~~(BitVec.ofNat 32 (maskNat m)) = 0#32):=by
  rw [Bool.eq_iff_iff]
  simp only [beq_iff_eq,decide_eq_true_eq]
  constructor
  ·intro h
   apply BitVec.eq_of_toNat_eq
   simpa using h
  ·intro h; rw [h]; rfl
 rw [hz]
 rw [Bool.eq_iff_iff]
 simp only [decide_eq_true_eq]
 have hbit:∀ j,j < 32 → (BitVec.ofNat 32 A).getLsbD j = A.testBit j:=fun j hj=>by rw [BitVec.getLsbD_ofNat]; simp [hj]
 have hbm:∀ j,j < 32 → (BitVec.ofNat 32 (maskNat m)).getLsbD j = decide (32 - m ≤ j):=fun j hj=>by rw [BitVec.getLsbD_ofNat,maskNat_bit m hm j hj]; simp [hj]
 constructor
 ·intro h
  refine eq_of_bits _ _ (cut_lt A m hA) hA fun i hi=>?_
  rw [cut_bit A m hA hm i hi]
  by_cases h1:i < m
  ·simp [h1]
  ·have h2:=congrArg (fun b:BitVec 32=>b.getLsbD (31 - i)) h
   simp only [BitVec.getLsbD_and,BitVec.getLsbD_not,hbit _ (show 31 - i < 32 by omega),hbm _ (show 31 - i < 32 by omega)] at h2
   have h3:¬ (32 - m ≤ 31 - i):=by omega
   have h4:(31 - i < 32):=by omega
   simp [h3,h4] at h2
   simp [h1,bitI,h2]
 ·intro h
  apply BitVec.eq_of_getLsbD_eq
  intro j hj
  simp only [BitVec.getLsbD_and,BitVec.getLsbD_not,hbit _ hj,hbm _ hj]
  have h1:A.testBit j = (A.testBit j && decide (32 - m ≤ j)):=by
   have:=cut_bit A m hA hm (31 - j) (by omega)
   rw [h] at this
   unfold bitI at this
   rw [show 31 - (31 - j) = j by omega] at this
   rw [this]
   congr 1
   simp; omega
  rw [h1]
  by_cases h2:32 - m ≤ j <;> simp [h2]
theorem clip_of (n:Nat) (h:n ≤ 32):clip (n:Int) = n:=by unfold clip; split <;> (try split) <;> omega
def okPfx (A:Nat) (n:Int):Bool:=decide (0 ≤ n ∧ n ≤ 32 ∧ cut A n.toNat = A)
theorem validB_eq (A:Nat) (n:Int) (hA:A < 4294967296):validB (A:Int) n = okPfx A n:=by
 unfold validB okPfx
 by_cases h0:0 ≤ n
 ·by_cases h1:n ≤ 32
  ·have hc:clip n = n.toNat:=by
    have:=clip_of n.toNat (by omega)
    rwa [Int.toNat_of_nonneg h0] at this
   rw [hc,maskN_nat _ (by omega),bv_andNot_zero A _ hA (by omega)]
   simp [h0,h1]
  ·simp [h1]
 ·simp [h0]
end Go.Proofs.YtihdpjinaafenaaGreatDoor

/- Regions: their operations one behind the other, told short. -/
namespace Go.Proofs.YtihdpjinaafenaaGreatDoor.Ab
open Go.Proofs.YtihdpjinaafenaaGreatDoor.Sl
structure St where
 T:AT
 L:AL
 σ:AS
 rs:List Nat
def gob (L:AL) (g:Option (Nat × Bool)) (ob:Prop):Option Prop:=match g with
 | none=>some ob
 | some (t,p)=>match lookL L t with
  | some (_,.fz (.val (.bool b)))=>some (b = p → ob)
  | _=>none
def addrd (r:Option Nat) (rs:List Nat):List Nat:=match r with
 | some id=>id :: rs
 | none=>rs
def hits (md:Option Nat) (rs:List Nat):Bool:=match md with
 | some id=>rs.contains id
 | none=>false
def stepP (a:AO) (s:St):Option (Prop × St):=match a.dst with
 | some d=>match pv s.σ (fun ex=>opd s.L s.T (ex ++ chain s.L 3 a.g)) a.k with
  | some r=>match gob s.L a.g r.ob with
   | some ob=>some (ob,⟨s.T,(d,a.g,r.v) :: s.L,s.σ,addrd r.rd s.rs⟩)
   | none=>none
  | none=>none
 | none=>none
def pgT:Option Nat → AT → AT
 | some id,T=>pT id T
 | none,T=>T
def pgL:Option Nat → AL → AL
 | some id,L=>pL id L
 | none,L=>L
def addL (d:Option Nat) (g:Option (Nat × Bool)) (v:AV) (L:AL):AL:=match d with
 | some d=>(d,g,v) :: L
 | none=>L
def stepA (a:AO) (s:St):Option (Prop × St):=match pa s.T s.L s.σ (opd s.L s.T (chain s.L 3 a.g)) a.dst a.k with
 | some ra=>match a.g with
  | none=>if (a.q && hits ra.md s.rs) = true then none else some (ra.ob,⟨pgT ra.pg s.T,addL a.dst none ra.v (pgL ra.pg s.L),ra.σ,if a.q = true then s.rs else []⟩)
  | some g=>match ra.md,ra.nw,ra.pg,a.dst with
   | none,none,none,some d=>match gob s.L (some g) ra.ob with
    | some ob=>some (ob,⟨s.T,(d,some g,ra.v) :: s.L,s.σ,s.rs⟩)
    | none=>none
   | _,_,_,_=>none
 | none=>none
def isA:K → Bool
 | .box .. | .alc .. | .st .. | .stN .. | .app .. | .bsl .. | .mks ..=>true
 | _=>false
def step1 (a:AO) (s:St):Option (Prop × St):=if isA a.k = true then stepA a s else stepP a s
def run:List AO → St → List AO × St × Prop
 | [],s=>([],s,True)
 | a :: r,s=>match step1 a s with
  | some (ob,s')=>let x:=run r s'; (x.1,x.2.1,ob ∧ x.2.2)
  | none=>(a :: r,s,True)
def strip (ops:Array Oper) (o:Oper):Option Nat × Op × Option (Nat × Bool):=(o.dst,o.op,match o.guard with
 | none=>none
 | some (j,b)=>match (ops[j]?).bind (·.dst) with
  | some t=>some (t,b)
  | none=>some (1000000000,b))
def AO.strip (a:AO):Option Nat × Op × Option (Nat × Bool):=(a.dst,a.k.op,a.g)
def okA (P:Program) (N:Nat) (a:AO):Bool:=a.k.side P && (match a.dst with | some t=>decide (t < N) | none=>true) && (match a.g with | some (t,_)=>decide (t < 1000000000) | none=>true)
def Nod (L:AL) (az:List AO):Prop:=(L.map (·.1) ++ az.filterMap (·.dst)).Nodup
structure Fit (P:Program) (N:Nat) (ops:Array Oper) (o:Oper) (a:AO):Prop where
 dst:o.dst = a.dst
 op:o.op = a.k.op
 side:a.k.side P = true
 lt:∀ t,o.dst = some t → t < N
 g0:a.g = none → o.guard = none
 g1:∀ t p,a.g = some (t,p) → ∃ j,o.guard = some (j,p) ∧ ((ops[j]?).bind (·.dst)) = some t
theorem fit_of {P:Program} {N:Nat} {ops:Array Oper} {o:Oper} {a:AO} (h:strip ops o = a.strip) (k:okA P N a = true):Fit P N ops o a:=by
 simp only [strip,AO.strip,Prod.mk.injEq] at h
 obtain ⟨h1,h2,h3⟩:=h
 simp only [okA,Bool.and_eq_true] at k
 obtain ⟨⟨k1,k2⟩,k3⟩:=k
 refine ⟨h1,h2,k1,fun t ht=>?_,fun hg=>?_,fun t p hg=>?_⟩
 ·rw [h1] at ht; rw [ht] at k2; simpa using k2
 ·rw [hg] at h3
  cases ho:o.guard with
  | none=>rfl
  | some x =>
   obtain ⟨j,b⟩:=x
   rw [ho] at h3
   simp only at h3
   split at h3 <;> cases h3
 ·rw [hg] at h3 k3
  cases ho:o.guard with
  | none=>rw [ho] at h3; cases h3
  | some x =>
   obtain ⟨j,b⟩:=x
   rw [ho] at h3
   simp only at h3
   split at h3
   ·rename_i t' ht'
    cases h3
    exact ⟨j,rfl,ht'⟩
   ·cases h3
    simp at k3
section
variable {P : Program} {N : Nat} {ops : Array Oper} {h0 : Gd} {β : Nat → Value} {hF h : Heap} {Tc : Tm} {o : Oper} {a : AO}
theorem Fit.want_none (f:Fit P N ops o a) (hg:a.g = none):want ops Tc o = true:=Sl.want_none (f.g0 hg)
theorem Fit.want_some (f:Fit P N ops o a) {t:Nat} {p:Bool} (hg:a.g = some (t,p)):(want ops Tc o = true ↔ Tc t = .bool p) ∧ (want ops Tc o = true ∨ want ops Tc o = false):=by
 obtain ⟨j,h1,h2⟩:=f.g1 t p hg
 refine ⟨?_,by cases want ops Tc o <;> simp⟩
 unfold want
 rw [h1]
 simp only [h2]
 cases Tc t <;> simp
theorem nod_step {L:AL} {a:AO} {az:List AO} (n:Nod L (a :: az)) {d:Nat} (hd:a.dst = some d) (g:Option (Nat × Bool)) (v:AV):Nod ((d,g,v) :: L) az ∧ ∀ e ∈ L,e.1 ≠ d:=by
 unfold Nod at n ⊢
 rw [List.filterMap_cons,hd] at n
 simp only at n
 have h1:=List.nodup_append.1 n
 refine ⟨?_,fun e he e1=>h1.2.2 e.1 (List.mem_map.2 ⟨e,he,rfl⟩) d (by simp) e1⟩
 rw [List.map_cons,List.cons_append]
 have:(L.map (·.1) ++ d :: az.filterMap (·.dst)).Perm (d :: (L.map (·.1) ++ az.filterMap (·.dst))):=List.perm_middle
 exact this.nodup_iff.1 n
theorem nod_none {L:AL} {a:AO} {az:List AO} (n:Nod L (a :: az)) (hd:a.dst = none):Nod L az:=by
 unfold Nod at n ⊢
 rwa [List.filterMap_cons,hd] at n
theorem nod_pL {L:AL} {az:List AO} (id:Nat) (n:Nod L az):Nod (pL id L) az:=by
 unfold Nod at n ⊢
 rw [pL_eq,List.map_map]
 exact n
theorem gob_ok {T:AT} {L:AL} {σ:AS} (s:Sem h0 β hF h Tc T L σ) {g:Option (Nat × Bool)} {ob q:Prop} (e:gob L g ob = some q) (hq:q) (hg:∀ t p,g = some (t,p) → Tc t = .bool p):ob:=by
 unfold gob at e
 split at e
 ·cases e; exact hq
 ·rename_i t p
  split at e
  ·rename_i g' b hl
   cases e
   have h1:=s.l _ (lookL_mem hl)
   have ht:=hg t p rfl
   have h2:Tc t = .bool b:=by
    cases g' with
    | none=>exact fz_val h1
    | some x =>
     obtain ⟨c,r⟩:=x
     rcases Classical.em (Tc c = .bool r) with h3 | h3
     ·exact fz_val (h1.1 h3)
     ·have:=h1.2 h3
      simp only at this
      rw [ht] at this; cases this
   rw [ht] at h2
   cases h2
   exact hq rfl
  ·cases e
theorem gob_has {L:AL} {t:Nat} {p:Bool} {ob q:Prop} (e:gob L (some (t,p)) ob = some q):∃ e' ∈ L,e'.1 = t:=by
 simp only [gob] at e
 split at e
 ·rename_i g' b hl; exact ⟨_,lookL_mem hl,rfl⟩
 ·cases e
theorem Sem.purge {T:AT} {L:AL} {σ σ':AS} {β':Nat → Value} {hF' h':Heap} (s:Sem h0 β hF h Tc T L σ) (k:Ok h0 β' hF' h' σ') (l:hF.le hF') {id:Nat} (e:∀ j,j ≠ id → β' j = β j):Sem h0 β' hF' h' Tc (pT id T) (pL id L) σ':=by
 have hv:∀ (a:AV) (v:Value),ARep β hF a v → ARep β' hF' (pA id a) v:=fun a v r=>(pA_rep r).to l fun j hj=>e j (pA_nm hj).2
 refine ⟨k,fun x hx hne=>?_,fun x hx=>?_,fun x hx a p hg=>?_⟩
 ·rw [pT_eq] at hx
  obtain ⟨y,hy,rfl⟩:=List.mem_map.1 hx
  refine hv _ _ (s.t y hy fun e' he'=>?_)
  exact hne (e'.1,e'.2.1,pA id e'.2.2) (by rw [pL_eq]; exact List.mem_map.2 ⟨e',he',rfl⟩)
 ·rw [pL_eq] at hx
  obtain ⟨y,hy,rfl⟩:=List.mem_map.1 hx
  have h1:=s.l y hy
  simp only
  cases hg:y.2.1 with
  | none=>rw [hg] at h1; exact hv _ _ h1
  | some g=>rw [hg] at h1; exact ⟨fun h2=>hv _ _ (h1.1 h2),h1.2⟩
 ·rw [pL_eq] at hx ⊢
  obtain ⟨y,hy,rfl⟩:=List.mem_map.1 hx
  obtain ⟨e',he',h1⟩:=s.g y hy a p hg
  exact ⟨_,List.mem_map.2 ⟨e',he',rfl⟩,h1⟩
theorem Sem.turn {T:AT} {L:AL} {σ σ':AS} {β':Nat → Value} {hF' h':Heap} (s:Sem h0 β hF h Tc T L σ) (k:Ok h0 β' hF' h' σ') (l:hF.le hF') (eT:∀ x ∈ T,∀ j,x.2.nm = some j → β' j = β j) (eL:∀ x ∈ L,∀ j,x.2.2.nm = some j → β' j = β j):Sem h0 β' hF' h' Tc T L σ':=by
 refine ⟨k,fun x hx hne=>(s.t x hx hne).to l (eT x hx),fun x hx=>?_,s.g⟩
 have h1:=s.l x hx
 cases hg:x.2.1 with
 | none=>rw [hg] at h1; exact ARep.to h1 l (eL x hx)
 | some g=>rw [hg] at h1; exact ⟨fun h2=>(h1.1 h2).to l (eL x hx),h1.2⟩
end
end Go.Proofs.YtihdpjinaafenaaGreatDoor.Ab

/- Regions: that a run told short is one of the program. -/
namespace Go.Proofs.YtihdpjinaafenaaGreatDoor.Ab
open Go.Proofs.YtihdpjinaafenaaGreatDoor.Sl
section
variable {P : Program} {N : Nat} {ops : Array Oper} {h0 : Gd} {β : Nat → Value} {hF h : Heap} {Tc : Tm} {o : Oper} {a : AO}
theorem stepP_ok {s s':St} {ob:Prop} (e:stepP a s = some (ob,s')) (f:Fit P N ops o a) (hob:ob):∃ d r,a.dst = some d ∧ s' = ⟨s.T,(d,a.g,r.v) :: s.L,s.σ,addrd r.rd s.rs⟩ ∧ (∀ t p,a.g = some (t,p) → ∃ e ∈ s.L,e.1 = t) ∧ (∀ id,r.rd = some id → ∃ x,(id,x) ∈ s.σ) ∧
  ∀ {β:Nat → Value} {hF h:Heap} {Tc:Tm},Sem h0 β hF h Tc s.T s.L s.σ → (∀ t p,a.g = some (t,p) → Tc t = .bool p) → PvOk P β hF h Tc o r:=by
 unfold stepP at e
 split at e
 ·rename_i d hd
  split at e
  ·rename_i r hr
   split at e
   ·rename_i q hq
    cases e
    refine ⟨d,r,hd,rfl,fun t p hg=>?_,fun id hid=>?_,fun s hg=>?_⟩
    ·rw [hg] at hq; exact gob_has hq
    ·-- what is read is an object
     have key:∀ (σ:AS) (oo:List (Nat × Bool) → Operand → Option AV) (k:K) (r:R),pv σ oo k = some r → ∀ id,r.rd = some id → ∃ x,lookS σ id = some x:=by
      intro σ oo k r hr id hid
      cases k <;> simp only [pv,reduceCtorEq] at hr <;> (repeat' (split at hr)) <;> (first | (cases hr; done) | (cases hr; first | (simp only [reduceCtorEq] at hid; done) | (simp only [Option.some.injEq] at hid; subst hid; exact ⟨_,by assumption⟩)))
     obtain ⟨x,hx⟩:=key _ _ _ _ hr id hid
     exact ⟨x,lookS_mem hx⟩
    ·exact pv_ok s (chain_ok s 3 a.g hg) f.op f.side hr (gob_ok s hq hob hg)
   ·cases e
  ·cases e
 ·cases e
inductive AcS (h0:Gd) (P:Program) (N:Nat) (ops:Array Oper) (o:Oper) (a:AO) (s s':St):Prop where
 | plain (ra:RA) (hg:a.g = none) (hq:(a.q && hits ra.md s.rs) = false) (hs:s' = ⟨pgT ra.pg s.T,addL a.dst none ra.v (pgL ra.pg s.L),ra.σ,if a.q = true then s.rs else []⟩)
   (hok:∀ {β:Nat → Value} {hF h:Heap} {Tc:Tm},Sem h0 β hF h Tc s.T s.L s.σ → SOp P o (ev Tc) h (AcOk h0 β hF h s.σ ra)) (hnw:∀ d,ra.nw = some d → okNew d s.T s.L s.σ = true) (hpg:ra.pg = ra.md ∨ ra.pg = none) (hpn:ra.pg ≠ none → ra.nw = none)
   (hσ:∀ e ∈ s.σ,∃ x,(e.1,x) ∈ ra.σ):AcS h0 P N ops o a s s'
 | guarded (ra:RA) (d t:Nat) (p:Bool) (hg:a.g = some (t,p)) (hd:a.dst = some d) (hs:s' = ⟨s.T,(d,a.g,ra.v) :: s.L,s.σ,s.rs⟩) (hin:∃ e ∈ s.L,e.1 = t) (hrσ:ra.σ = s.σ) (hmd:ra.md = none) (hnw:ra.nw = none) (hpg:ra.pg = none)
   (hok:∀ {β:Nat → Value} {hF h:Heap} {Tc:Tm},Sem h0 β hF h Tc s.T s.L s.σ → Tc t = .bool p → SOp P o (ev Tc) h (AcOk h0 β hF h s.σ ra)):AcS h0 P N ops o a s s'
theorem setS_has {id:Nat} {x:OO}:∀ {σ:AS} {e:Nat × OO},e ∈ σ → ∃ y,(e.1,y) ∈ setS σ id x
 | [],e,he=>by cases he
 | a :: r,e,he=>by
  unfold setS
  split
  ·rename_i h1
   rcases List.mem_cons.1 he with rfl | he
   ·exact ⟨x,by rw [h1]; exact List.mem_cons_self⟩
   ·exact ⟨e.2,List.mem_cons_of_mem _ he⟩
  ·rcases List.mem_cons.1 he with rfl | he
   ·exact ⟨e.2,List.mem_cons_self⟩
   ·obtain ⟨y,hy⟩:=setS_has (id:=id) (x:=x) he
    exact ⟨y,List.mem_cons_of_mem _ hy⟩
theorem pS_has {id:Nat} {σ:AS} {e:Nat × OO} (he:e ∈ σ):(e.1,pO id e.2) ∈ pS id σ:=by
 rw [pS_eq]; exact List.mem_map.2 ⟨e,he,rfl⟩
theorem pa_shape {T:AT} {L:AL} {σ:AS} {oo:Operand → Option AV} {d:Option Nat} {k:K} {ra:RA} (e:pa T L σ oo d k = some ra) :
  (∀ d',ra.nw = some d' → okNew d' T L σ = true) ∧ (ra.pg = ra.md ∨ ra.pg = none) ∧ (∀ e ∈ σ,∃ x,(e.1,x) ∈ ra.σ) ∧ (ra.md = none → ra.nw = none → ra.pg = none → ra.σ = σ) ∧ (ra.pg ≠ none → ra.nw = none):=by
 cases k <;> simp only [pa,reduceCtorEq] at e <;> (repeat' (split at e)) <;> (first
  | (cases e; done)
  | (cases e; exact ⟨fun d' h=>(by cases h),.inl rfl,fun x hx=>⟨_,hx⟩,fun _ _ _=>rfl,fun _=>rfl⟩)
  | (cases e; exact ⟨fun d' h=>(by cases h; assumption),.inl rfl,fun x hx=>⟨_,List.mem_cons_of_mem _ hx⟩,fun _ h _=>(by cases h),fun h=>absurd rfl h⟩)
  | (cases e; exact ⟨fun d' h=>(by cases h),.inr rfl,fun x hx=>setS_has hx,fun h _ _=>(by cases h),fun _=>rfl⟩)
  | (cases e; exact ⟨fun d' h=>(by cases h),.inl rfl,fun x hx=>(let ⟨y,hy⟩:=setS_has (pS_has hx); ⟨y,hy⟩),fun h _ _=>(by cases h),fun _=>rfl⟩))
theorem stepA_ok {s s':St} {ob:Prop} (e:stepA a s = some (ob,s')) (f:Fit P N ops o a) (hob:ob):AcS h0 P N ops o a s s':=by
 unfold stepA at e
 split at e
 ·rename_i ra hra
  obtain ⟨h1,h2,h3,h4,h5⟩:=pa_shape hra
  split at e
  ·rename_i hg
   split at e
   ·cases e
   ·rename_i hq
    cases e
    refine .plain ra hg (by simpa using hq) rfl (fun s=>?_) h1 h2 h5 h3
    exact pa_ok s (chain_ok s 3 a.g (fun t p e=>by rw [hg] at e; cases e)) f.op f.side hra hob
  ·rename_i g hg
   split at e
   ·rename_i d hmd hnw hpg hd
    split at e
    ·rename_i q hq
     cases e
     obtain ⟨t,p⟩:=g
     refine .guarded ra d t p hg hd (by rw [hg]) (gob_has hq) (h4 hmd hnw hpg) hmd hnw hpg (fun {β hF h Tc} s ht=>?_)
     have hgt:∀ t' p',a.g = some (t',p') → Tc t' = Value.bool p':=fun t' p' e=>by rw [hg] at e; cases e; exact ht
     exact pa_ok s (chain_ok s 3 a.g hgt) f.op f.side hra (gob_ok s hq hob (fun t' p' e=>by cases e; exact ht))
    ·cases e
   ·cases e
 ·cases e
end
end Go.Proofs.YtihdpjinaafenaaGreatDoor.Ab

/- Regions: the rules. -/
namespace Go.Proofs.YtihdpjinaafenaaGreatDoor.Ab
open Go.Proofs.YtihdpjinaafenaaGreatDoor.Sl
section
variable {P : Program} {N : Nat} {ops : Array Oper} {h0 : Gd} {β : Nat → Value} {hF h : Heap} {Tc : Tm} {o : Oper} {a : AO} {Q : Tm → Heap → Prop} {loud : List Nat}
theorem AcOk.sem {T:AT} {L:AL} {σ:AS} {ra:RA} {v:Value} {h':Heap} (s:Sem h0 β hF h Tc T L σ) (x:AcOk h0 β hF h σ ra v h') (hnw:∀ d,ra.nw = some d → okNew d T L σ = true) (hpn:ra.pg ≠ none → ra.nw = none) :
  ∃ β' hF',Sem h0 β' hF' h' Tc (pgT ra.pg T) (pgL ra.pg L) ra.σ ∧ hF.le hF' ∧ ARep β' hF' ra.v v ∧ (∀ id,ra.nw ≠ some id → ra.pg ≠ some id → β' id = β id) ∧ ∀ e ∈ σ,ra.md ≠ some e.1 → ∀ b,fpOf (β e.1) e.2 b → h' b = h b:=by
 obtain ⟨β',hF',k,l,e,r,keep⟩:=x
 refine ⟨β',hF',?_,l,r,e,keep⟩
 cases hp:ra.pg with
 | none =>
  simp only [pgT,pgL]
  cases hn:ra.nw with
  | none =>
   have e':∀ j,β' j = β j:=fun j=>e j (by rw [hn]; simp) (by rw [hp]; simp)
   exact s.turn k l (fun _ _ j _=>e' j) (fun _ _ j _=>e' j)
  | some d =>
   have hd:=hnw d hn
   simp only [okNew,Bool.and_eq_true] at hd
   replace hd:=hd.1
   have e':∀ j,j ≠ d → β' j = β j:=fun j hj=>e j (by rw [hn]; simpa using fun e2=>hj e2.symm) (by rw [hp]; simp)
   exact s.turn k l (fun x hx j hj=>e' j fun e2=>nmT_spec hd.1.1 x hx (by rw [hj,e2])) (fun x hx j hj=>e' j fun e2=>nmL_spec hd.1.2 x hx (by rw [hj,e2]))
 | some id =>
  have hn:=hpn (by rw [hp]; simp)
  exact s.purge k l (fun j hj=>e j (by rw [hn]; simp) (by rw [hp]; simpa using fun e2=>hj e2.symm))
theorem nod_pg {L:AL} {az:List AO} (p:Option Nat) (n:Nod L az):Nod (pgL p L) az:=by
 cases p with
 | none=>exact n
 | some id=>exact nod_pL id n
theorem pv_isAct {σ:AS} {oo:List (Nat × Bool) → Operand → Option AV} {k:K} {r:R} (h:pv σ oo k = some r):isAct k.op = false:=by
 cases k <;> first | rfl | (simp only [pv,reduceCtorEq] at h)
theorem pa_isAct {T:AT} {L:AL} {σ:AS} {oo:Operand → Option AV} {d:Option Nat} {k:K} {ra:RA} (h:pa T L σ oo d k = some ra):isAct k.op = true:=by
 cases k <;> first | rfl | (simp only [pa,reduceCtorEq] at h)
theorem stepP_kind {s s':St} {ob:Prop} (e:Ab.stepP a s = some (ob,s')):isAct a.k.op = false:=by
 unfold Ab.stepP at e
 split at e
 ·split at e
  ·rename_i r hr; exact pv_isAct hr
  ·cases e
 ·cases e
theorem stepA_kind {s s':St} {ob:Prop} (e:Ab.stepA a s = some (ob,s')):isAct a.k.op = true:=by
 unfold Ab.stepA at e
 split at e
 ·rename_i r hr; exact pa_isAct hr
 ·cases e
def RegN (P:Program) (N:Nat) (ops:Array Oper) (h0:Gd) (Q:Tm → Heap → Prop) (az:List AO) (s:St):Prop :=
 ∀ os,os.map (strip ops) = az.map AO.strip → az.all (okA P N) = true → ∀ β hF h Tc,Sem h0 β hF h Tc s.T s.L s.σ → Nod s.L az → sops P N ops Q os Tc h
theorem put_some {Tc:Tm} {d:Option Nat} {t:Nat} (e:d = some t) (v:Value):put Tc d v = upd Tc t v:=by rw [e]; rfl
theorem put_none {Tc:Tm} {d:Option Nat} (e:d = none) (v:Value):put Tc d v = Tc:=by rw [e]; rfl
theorem gok_skip {β:Nat → Value} {hF:Heap} {Tc:Tm} {t:Nat} {p:Bool} {v:AV} (h:¬ Tc t = .bool p):GOk Tc (some (t,p)) (ARep β hF v undef) undef:=⟨fun e=>absurd e h,fun _=>rfl⟩
theorem gok_in {Tc:Tm} {g:Option (Nat × Bool)} {A:Prop} {v:Value} (h:A) (hg:∀ t p,g = some (t,p) → Tc t = .bool p):GOk Tc g A v:=by
 cases g with
 | none=>exact h
 | some x=>exact ⟨fun _=>h,fun e=>absurd (hg _ _ rfl) e⟩
theorem RegN.stepP {az:List AO} {s s':St} {ob:Prop} (e:Ab.stepP a s = some (ob,s')) (hob:ob) (r:RegN P N ops h0 Q az s'):RegN P N ops h0 Q (a :: az) s:=by
 intro os hm hok β hF h Tc sem nd
 cases os with
 | nil=>simp at hm
 | cons o os =>
  simp only [List.map_cons,List.cons.injEq] at hm
  simp only [List.all_cons,Bool.and_eq_true] at hok
  have f:=fit_of hm.1 hok.1
  obtain ⟨d,rr,hd,rfl,hg,_,hpv⟩:=stepP_ok e f hob
  obtain ⟨nd',hne⟩:=nod_step nd hd a.g rr.v
  refine ⟨f.lt,?_⟩
  cases hag:a.g with
  | none =>
   rw [f.want_none hag]
   obtain ⟨v,hv,_,hr⟩:=hpv sem (fun t p e=>by rw [hag] at e; cases e)
   refine (hr h sem.ok.le (fun _ _ _ _=>rfl)).sop ?_
   rw [put_some (f.dst.trans hd)]
   exact r os hm.2 hok.2 _ _ _ _ (sem.put hne hg (gok_in hv (fun t p e=>by rw [hag] at e; cases e))) nd'
  | some x =>
   obtain ⟨t,p⟩:=x
   obtain ⟨w1,w2⟩:=f.want_some (Tc:=Tc) hag
   rcases w2 with w2 | w2
   ·have ht:=w1.1 w2
    have hgt:∀ t' p',a.g = some (t',p') → Tc t' = Value.bool p':=fun t' p' e=>by rw [hag] at e; cases e; exact ht
    rw [w2]
    obtain ⟨v,hv,_,hr⟩:=hpv sem hgt
    refine (hr h sem.ok.le (fun _ _ _ _=>rfl)).sop ?_
    rw [put_some (f.dst.trans hd)]
    exact r os hm.2 hok.2 _ _ _ _ (sem.put hne hg (gok_in hv hgt)) nd'
   ·have ht:¬ Tc t = .bool p:=fun e=>by rw [w1.2 e] at w2; cases w2
    rw [w2]
    simp only [Bool.false_eq_true,if_false]
    rw [put_some (f.dst.trans hd)]
    exact r os hm.2 hok.2 _ _ _ _ (sem.put hne hg (by rw [hag]; exact gok_skip ht)) nd'
theorem RegN.acs {az:List AO} {s s':St} (hk:isAct a.k.op = true) (acs:∀ o,Fit P N ops o a → AcS h0 P N ops o a s s') (r:RegN P N ops h0 Q az s'):RegN P N ops h0 Q (a :: az) s:=by
 intro os hm hok β hF h Tc sem nd
 cases os with
 | nil=>simp at hm
 | cons o os =>
  simp only [List.map_cons,List.cons.injEq] at hm
  simp only [List.all_cons,Bool.and_eq_true] at hok
  have f:=fit_of hm.1 hok.1
  refine ⟨f.lt,?_⟩
  cases acs _ f with
  | plain ra hag hq hs hok' hnw hpg hpn hσ =>
   subst hs
   rw [f.want_none hag]
   refine (hok' sem).mono fun v h' x=>?_
   obtain ⟨β',hF',sem',l,rv,_,_⟩:=x.sem sem hnw hpn
   cases hd:a.dst with
   | none =>
    rw [put_none (f.dst.trans hd)]
    exact r os hm.2 hok.2 _ _ _ _ (by simpa [addL,hd] using sem') (by simpa [addL,hd] using nod_pg ra.pg (nod_none nd hd))
   | some d =>
    rw [put_some (f.dst.trans hd)]
    obtain ⟨nd',hne⟩:=nod_step (nod_pg ra.pg nd) hd none ra.v
    exact r os hm.2 hok.2 _ _ _ _ (by simpa [addL,hd] using sem'.put (g:=none) hne (fun _ _ e=>by cases e) rv) (by simpa [addL,hd] using nd')
  | guarded ra d t p hag hd hs hin hrσ hmd hnw hpg hok' =>
   subst hs
   obtain ⟨w1,w2⟩:=f.want_some (Tc:=Tc) hag
   obtain ⟨nd',hne⟩:=nod_step nd hd a.g ra.v
   have hgin:∀ t' p',a.g = some (t',p') → ∃ e ∈ s.L,e.1 = t':=fun t' p' e=>by rw [hag] at e; cases e; exact hin
   rcases w2 with w2 | w2
   ·have ht:=w1.1 w2
    rw [w2]
    refine (hok' sem ht).mono fun v h' x=>?_
    obtain ⟨β',hF',sem',l,rv,_,_⟩:=x.sem sem (fun d e=>by rw [hnw] at e; cases e) (fun e=>absurd hpg e)
    rw [hpg,hrσ] at sem'
    rw [put_some (f.dst.trans hd)]
    exact r os hm.2 hok.2 _ _ _ _ (sem'.put hne hgin (gok_in rv (fun t' p' e=>by rw [hag] at e; cases e; exact ht))) nd'
   ·have ht:¬ Tc t = .bool p:=fun e=>by rw [w1.2 e] at w2; cases w2
    rw [w2]
    simp only [Bool.false_eq_true,if_false]
    rw [put_some (f.dst.trans hd)]
    exact r os hm.2 hok.2 _ _ _ _ (sem.put hne hgin (by rw [hag]; exact gok_skip ht)) nd'
theorem RegN.run:∀ {az rest:List AO} {s s':St} {ob:Prop},Ab.run az s = (rest,s',ob) → ob → RegN P N ops h0 Q rest s' → RegN P N ops h0 Q az s
 | [],rest,s,s',ob,e,hob,r=>by cases e; exact r
 | a :: az,rest,s,s',ob,e,hob,r=>by
  unfold Ab.run at e
  split at e
  ·rename_i ob1 s1 h1
   simp only [Prod.mk.injEq] at e
   obtain ⟨e1,e2,rfl⟩:=e
   have ih:=RegN.run (az:=az) (s:=s1) (rest:=rest) (s':=s') (ob:=(Ab.run az s1).2.2) (by rw [← e1,← e2]) hob.2 r
   unfold step1 at h1
   split at h1
   ·exact RegN.acs (stepA_kind h1) (fun o f=>stepA_ok h1 f hob.1) ih
   ·exact RegN.stepP h1 hob.1 ih
  ·cases e; exact r
def FOk (F:List RdA) (β:Nat → Value) (hF h:Heap) (σ:AS) (rs:List Nat):Prop :=
 (∀ A ∈ F,∀ g,hF.le g → (∀ id ∈ rs,∀ b,baseOf (β id) = some b → g b = h b) → A.on g) ∧ ∀ id ∈ rs,∃ x,(id,x) ∈ σ
def RegD (P:Program) (N:Nat) (ops:Array Oper) (loud:List Nat) (h0:Gd) (Q:Tm → Heap → Prop) (az:List AO) (s:St):Prop :=
 ∀ τ:List Ent,τ.map (fun e=>(e.2,strip ops (opAt ops e.1),loud.contains e.1)) = az.map (fun a=>(true,a.strip,!a.q)) → az.all (okA P N) = true →
  ∀ β hF h Tc F E,Sem h0 β hF h Tc s.T s.L s.σ → FOk F β hF h s.σ s.rs → Nod s.L az → sdraw P N ops [] loud Q τ Tc h F E
theorem FOk.rd {F:List RdA} {σ:AS} {rs:List Nat} (k:FOk F β hF h σ rs) (r:Option Nat) (hr:∀ id,r = some id → ∃ x,(id,x) ∈ σ):FOk F β hF h σ (addrd r rs):=by
 cases r with
 | none=>exact k
 | some id=>exact ⟨fun A hA g hg hb=>k.1 A hA g hg fun j hj=>hb j (List.mem_cons_of_mem _ hj),fun j hj=>by
   rcases List.mem_cons.1 hj with rfl | hj
   ·exact hr _ rfl
   ·exact k.2 j hj⟩
theorem d_head {e:Ent} {τ:List Ent} {az:List AO} (hm:(e :: τ).map (fun e=>(e.2,strip ops (opAt ops e.1),loud.contains e.1)) = (a :: az).map (fun a=>(true,a.strip,!a.q))) :
  ∃ i,e = (i,true) ∧ strip ops (opAt ops i) = a.strip ∧ (i ∈ loud ↔ a.q = false) ∧ τ.map (fun e=>(e.2,strip ops (opAt ops e.1),loud.contains e.1)) = az.map (fun a=>(true,a.strip,!a.q)):=by
 simp only [List.map_cons,List.cons.injEq,Prod.mk.injEq] at hm
 obtain ⟨⟨h1,h2,h3⟩,h4⟩:=hm
 obtain ⟨i,b⟩:=e
 simp only at h1 h2 h3
 subst h1
 refine ⟨i,rfl,h2,?_,h4⟩
 have:i ∈ loud ↔ loud.contains i = true:=by simp
 rw [this,h3]
 cases a.q <;> simp
theorem RegD.stepP {az:List AO} {s s':St} {ob:Prop} (e:Ab.stepP a s = some (ob,s')) (hob:ob) (r:RegD P N ops loud h0 Q az s'):RegD P N ops loud h0 Q (a :: az) s:=by
 intro τ hm hok β hF h Tc F E sem fo nd
 cases τ with
 | nil=>simp at hm
 | cons e0 τ =>
  obtain ⟨i,rfl,hstrip,hloud,hm2⟩:=d_head hm
  simp only [List.all_cons,Bool.and_eq_true] at hok
  have f:=fit_of hstrip hok.1
  obtain ⟨d,rr,hd,rfl,hg,hrd,hpv⟩:=stepP_ok e f hob
  obtain ⟨nd',hne⟩:=nod_step nd hd a.g rr.v
  have hact:isAct (opAt ops i).op = false:=by rw [f.op]; exact stepP_kind e
  have fo':=fo.rd rr.rd hrd
  simp only [sdraw,List.not_mem_nil,if_false,hact,Bool.false_eq_true]
  have done:(∀ t p,a.g = some (t,p) → Tc t = Value.bool p) → if isRead (opAt ops i).op = true then ∃ v A,A.on h ∧ (∀ g,A.on g → ReadOp P (opAt ops i) (ev Tc) g v) ∧ sdraw P N ops [] loud Q τ (put Tc (opAt ops i).dst v) h (A :: F) E
    else ∃ v,PureOp P (opAt ops i) (ev Tc) v ∧ sdraw P N ops [] loud Q τ (put Tc (opAt ops i).dst v) h F E:=by
   intro hgt
   obtain ⟨v,hv,hp,hr⟩:=hpv sem hgt
   cases hrd':isRead (opAt ops i).op with
   | true =>
    rw [if_pos rfl]
    refine ⟨v,⟨fun g=>hF.le g ∧ ∀ id b,rr.rd = some id → baseOf (β id) = some b → g b = h b,fun g g' hgg hg=>⟨Heap.le_trans hg.1 hgg,fun id b e1 e2=>?_⟩⟩,⟨sem.ok.le,fun _ _ _ _=>rfl⟩,fun g hg=>hr g hg.1 hg.2,?_⟩
    ·have h1:=hg.2 id b e1 e2
     obtain ⟨x,hx⟩:=hrd id e1
     obtain ⟨ob',h2⟩:=(sem.ok.ok _ hx).blk ((sem.ok.ok _ hx).fp e2)
     rw [h2] at h1 ⊢
     exact hgg _ _ h1
    ·rw [put_some (f.dst.trans hd)]
     refine r τ hm2 hok.2 _ _ _ _ _ _ (sem.put hne hg (gok_in hv hgt)) ⟨fun A hA g hg hb=>?_,fo'.2⟩ nd'
     rcases List.mem_cons.1 hA with rfl | hA
     ·refine ⟨hg,fun id b e1 e2=>hb id ?_ b e2⟩
      simp [addrd,e1]
     ·exact fo'.1 A hA g hg hb
   | false =>
    rw [if_neg (by simp)]
    refine ⟨v,hp hrd',?_⟩
    rw [put_some (f.dst.trans hd)]
    exact r τ hm2 hok.2 _ _ _ _ _ _ (sem.put hne hg (gok_in hv hgt)) fo' nd'
  cases hag:a.g with
  | none =>
   rw [f.want_none hag]
   simp only [if_true]
   exact done (fun t p e=>by rw [hag] at e; cases e)
  | some x =>
   obtain ⟨t,p⟩:=x
   obtain ⟨w1,w2⟩:=f.want_some (Tc:=Tc) hag
   rcases w2 with w2 | w2
   ·have ht:=w1.1 w2
    rw [w2]
    simp only [if_true]
    exact done (fun t' p' e=>by rw [hag] at e; cases e; exact ht)
   ·have ht:¬ Tc t = .bool p:=fun e=>by rw [w1.2 e] at w2; cases w2
    rw [w2]
    simp only [Bool.false_eq_true,if_false]
    rw [put_some (f.dst.trans hd)]
    exact r τ hm2 hok.2 _ _ _ _ _ _ (sem.put hne hg (by rw [hag]; exact gok_skip ht)) fo' nd'
theorem RegD.acs {az:List AO} {s s':St} (hk:isAct a.k.op = true) (acs:∀ o,Fit P N ops o a → AcS h0 P N ops o a s s') (r:RegD P N ops loud h0 Q az s'):RegD P N ops loud h0 Q (a :: az) s:=by
 intro τ hm hok β hF h Tc F E sem fo nd
 cases τ with
 | nil=>simp at hm
 | cons e0 τ =>
  obtain ⟨i,rfl,hstrip,hloud,hm2⟩:=d_head hm
  simp only [List.all_cons,Bool.and_eq_true] at hok
  have f:=fit_of hstrip hok.1
  have hact:isAct (opAt ops i).op = true:=by rw [f.op]; exact hk
  simp only [sdraw,List.not_mem_nil,if_false,hact,if_true]
  cases acs _ f with
  | plain ra hag hq hs hok' hnw hpg hpn hσ =>
   subst hs
   rw [f.want_none hag]
   simp only [if_true]
   -- the rest, behind the act
   have next:∀ v h',AcOk h0 β hF h s.σ ra v h' → ∀ F',(∀ β' hF',hF.le hF' → (∀ id,ra.nw ≠ some id → ra.pg ≠ some id → β' id = β id) → (∀ e ∈ s.σ,ra.md ≠ some e.1 → ∀ b,fpOf (β e.1) e.2 b → h' b = h b) → FOk F' β' hF' h' ra.σ (if a.q = true then s.rs else [])) → sdraw P N ops [] loud Q τ (put Tc (opAt ops i).dst v) h' F' E:=by
    intro v h' x F' hF'ok
    obtain ⟨β',hF',sem',l,rv,eβ,keep⟩:=x.sem sem hnw hpn
    have fo':=hF'ok β' hF' l eβ keep
    cases hd:a.dst with
    | none =>
     rw [put_none (f.dst.trans hd)]
     exact r τ hm2 hok.2 _ _ _ _ _ _ (by simpa [addL,hd] using sem') fo' (by simpa [addL,hd] using nod_pg ra.pg (nod_none nd hd))
    | some d =>
     rw [put_some (f.dst.trans hd)]
     obtain ⟨nd',hne⟩:=nod_step (nod_pg ra.pg nd) hd none ra.v
     exact r τ hm2 hok.2 _ _ _ _ _ _ (by simpa [addL,hd] using sem'.put (g:=none) hne (fun _ _ e=>by cases e) rv) fo' (by simpa [addL,hd] using nd')
   cases hqq:a.q with
   | false =>
    rw [if_pos (hloud.2 hqq)]
    exact (hok' sem).mono fun v h' x=>next v h' x [] fun β' hF' _ _ _=>⟨fun A hA=>(by cases hA),fun id hid=>(by rw [hqq] at hid; simp at hid)⟩
   | true =>
    rw [if_neg (fun e=>by rw [hloud.1 e] at hqq; cases hqq)]
    have hnomd:∀ id ∈ s.rs,ra.md ≠ some id:=by
     intro id hid e1
     rw [hqq,e1] at hq
     simp only [hits,Bool.true_and] at hq
     rw [List.contains_iff_mem.2 hid] at hq; cases hq
    refine (hok' sem).mono fun v h' x=>⟨fun A hA _=>?_,next v h' x F fun β' hF' l eβ keep=>⟨fun A hA g hg hb=>?_,fun id hid=>?_⟩⟩
    ·obtain ⟨β',hF',k,l,eβ,rv,keep⟩:=x
     refine fo.1 A hA h' (Heap.le_trans l k.le) fun id hid b e1=>?_
     obtain ⟨x,hx⟩:=fo.2 id hid
     exact keep _ hx (hnomd id hid) b ((sem.ok.ok _ hx).fp e1)
    ·rw [hqq] at hb
     simp only [if_true] at hb
     refine fo.1 A hA g (Heap.le_trans l hg) fun id hid b e1=>?_
     obtain ⟨x,hx⟩:=fo.2 id hid
     have hnd:ra.nw ≠ some id:=fun e2=>by
      have:=hnw id e2
      simp only [okNew,Bool.and_eq_true] at this
      exact (nmS_spec this.1.2 _ hx).1 rfl
     have hnp:ra.pg ≠ some id:=fun e2=>by
      rcases hpg with h1 | h1
      ·exact hnomd id hid (h1 ▸ e2)
      ·rw [h1] at e2; cases e2
     have hb':=eβ id hnd hnp
     rw [hb id hid b (by rw [hb']; exact e1)]
     exact keep _ hx (hnomd id hid) b ((sem.ok.ok _ hx).fp e1)
    ·rw [hqq] at hid
     obtain ⟨x,hx⟩:=fo.2 id (by simpa using hid)
     exact hσ _ hx
  | guarded ra d t p hag hd hs hin hrσ hmd hnw hpg hok' =>
   subst hs
   obtain ⟨w1,w2⟩:=f.want_some (Tc:=Tc) hag
   obtain ⟨nd',hne⟩:=nod_step nd hd a.g ra.v
   have hgin:∀ t' p',a.g = some (t',p') → ∃ e ∈ s.L,e.1 = t':=fun t' p' e=>by rw [hag] at e; cases e; exact hin
   rcases w2 with w2 | w2
   ·have ht:=w1.1 w2
    rw [w2]
    simp only [if_true]
    have next:∀ v h',AcOk h0 β hF h s.σ ra v h' → ∀ F',(∀ β' hF',hF.le hF' → (∀ id,β' id = β id) → (∀ e ∈ s.σ,∀ b,fpOf (β e.1) e.2 b → h' b = h b) → FOk F' β' hF' h' s.σ s.rs) → sdraw P N ops [] loud Q τ (put Tc (opAt ops i).dst v) h' F' E:=by
     intro v h' x F' hF'ok
     obtain ⟨β',hF',sem',l,rv,eβ,keep⟩:=x.sem sem (fun d e=>by rw [hnw] at e; cases e) (fun e=>absurd hpg e)
     rw [hpg,hrσ] at sem'
     rw [put_some (f.dst.trans hd)]
     refine r τ hm2 hok.2 _ _ _ _ _ _ (sem'.put hne hgin (gok_in rv (fun t' p' e=>by rw [hag] at e; cases e; exact ht))) (hF'ok β' hF' l (fun id=>eβ id (by rw [hnw]; simp) (by rw [hpg]; simp)) (fun e he=>keep e he (by rw [hmd]; simp))) nd'
    split
    ·exact (hok' sem ht).mono fun v h' x=>next v h' x [] fun β' hF' _ _ _=>⟨fun A hA=>(by cases hA),fo.2⟩
    ·refine (hok' sem ht).mono fun v h' x=>⟨fun A hA _=>?_,next v h' x F fun β' hF' l eβ keep=>⟨fun A hA g hg hb=>?_,fo.2⟩⟩
     ·obtain ⟨β',hF',k,l,eβ,rv,keep⟩:=x
      refine fo.1 A hA h' (Heap.le_trans l k.le) fun id hid b e1=>?_
      obtain ⟨x,hx⟩:=fo.2 id hid
      exact keep _ hx (by rw [hmd]; simp) b ((sem.ok.ok _ hx).fp e1)
     ·refine fo.1 A hA g (Heap.le_trans l hg) fun id hid b e1=>?_
      obtain ⟨x,hx⟩:=fo.2 id hid
      rw [hb id hid b (by rw [eβ id]; exact e1)]
      exact keep _ hx b ((sem.ok.ok _ hx).fp e1)
   ·have ht:¬ Tc t = .bool p:=fun e=>by rw [w1.2 e] at w2; cases w2
    rw [w2]
    simp only [Bool.false_eq_true,if_false]
    rw [put_some (f.dst.trans hd)]
    exact r τ hm2 hok.2 _ _ _ _ _ _ (sem.put hne hgin (by rw [hag]; exact gok_skip ht)) fo nd'
theorem RegD.run:∀ {az rest:List AO} {s s':St} {ob:Prop},Ab.run az s = (rest,s',ob) → ob → RegD P N ops loud h0 Q rest s' → RegD P N ops loud h0 Q az s
 | [],rest,s,s',ob,e,hob,r=>by cases e; exact r
 | a :: az,rest,s,s',ob,e,hob,r=>by
  unfold Ab.run at e
  split at e
  ·rename_i ob1 s1 h1
   simp only [Prod.mk.injEq] at e
   obtain ⟨e1,e2,rfl⟩:=e
   have ih:=RegD.run (az:=az) (s:=s1) (rest:=rest) (s':=s') (ob:=(Ab.run az s1).2.2) (by rw [← e1,← e2]) hob.2 r
   unfold step1 at h1
   split at h1
   ·exact RegD.acs (stepA_kind h1) (fun o f=>stepA_ok h1 f hob.1) ih
   ·exact RegD.stepP h1 hob.1 ih
  ·cases e; exact r
end
end Go.Proofs.YtihdpjinaafenaaGreatDoor.Ab

/- Calls; the rules for code. -/
namespace Go.Proofs.YtihdpjinaafenaaGreatDoor.Ab
open Go.Proofs.YtihdpjinaafenaaGreatDoor.Sl
def PureCall (P:Program) (f:FuncId) (xs:List FV) (res:FV):Prop:=∀ (h:Heap) (vs:List Value),FReps h xs vs → SCalls P f vs.toArray h (fun r h'=>h.le h' ∧ FRep h' res r)
def FConv (xs ys:List FV):Prop:=∀ (h:Heap) (vs:List Value),FReps h xs vs → FReps h ys vs
theorem FConv.rfl {xs:List FV}:FConv xs xs:=fun _ _ r=>r
theorem FConv.cons {x y:FV} {xs ys:List FV} (a:∀ (h:Heap) (v:Value),FRep h x v → FRep h y v) (b:FConv xs ys):FConv (x :: xs) (y :: ys):=fun h vs r=>by
 obtain ⟨v,ws,rfl,r1,r2⟩:=r.uncons
 exact FReps.cons (a h v r1) (b h ws r2)
section
variable {P : Program} {N : Nat} {ops : Array Oper} {h0 : Gd} {β : Nat → Value} {hF h : Heap} {Tc : Tm} {o : Oper} {a : AO} {Q : Tm → Heap → Prop} {loud : List Nat}
theorem SCalls.frame {f:FuncId} {vs:Array Value} {R:Value → Heap → Prop} (c:SCalls P f vs hF R) (l:hF.le h) (hR:∀ r h1,R r h1 → hF.le h1) :
  SCalls P f vs h (fun r h2=>∃ h1,R r h1 ∧ h1.le h2 ∧ h.le h2 ∧ ∀ b,hF b = none → h b ≠ none → h1 b = none):=by
 intro w rel
 refine (c w (rel.le l)).mono ?_
 rintro e w' ⟨v,h1,rfl,hr,rel1,st⟩
 have hle1:=hR v h1 hr
 have hnew:∀ b,hF b = none → h b ≠ none → h1 b = none:=fun b e1 e2=>by
  cases e3:h1 b with
  | none=>rfl
  | some ob =>
   have h3:=st.fresh b e1 (by rw [e3]; simp)
   cases e4:h b with
   | none=>exact absurd e4 e2
   | some ob'=>have:=rel.lt e4; omega
 refine ⟨v,fun b=>match h1 b with | some o=>some o | none=>h b,rfl,⟨h1,hr,fun b ob e=>by simp only [e],fun b ob e=>?_,hnew⟩,fun b ob e=>?_,⟨st.os,st.tape,st.output,st.size,fun b hb hn=>?_,fun b hn hs=>?_⟩⟩
 ·cases e1:hF b with
  | some ob' =>
   have:=l b ob' e1
   rw [e] at this; cases this
   simp only [hle1 b _ e1]
  | none=>simp only [hnew b e1 (by rw [e]; simp),e]
 ·cases e1:h1 b with
  | some ob'=>simp only [e1] at e; cases e; exact rel1 b _ e1
  | none =>
   simp only [e1] at e
   have hFb:hF b = none:=by
    cases e2:hF b with
    | none=>rfl
    | some ob'=>rw [hle1 b _ e2] at e1; cases e1
   exact (st.keep b (rel.lt e) hFb).trans (rel b ob e)
 ·refine st.keep b hb ?_
  cases e2:hF b with
  | none=>rfl
  | some ob'=>rw [l b _ e2] at hn; cases hn
 ·refine st.fresh b ?_ ?_
  ·cases e2:hF b with
   | none=>rfl
   | some ob'=>rw [l b _ e2] at hn; cases hn
  ·cases e1:h1 b with
   | none=>simp only [e1] at hs; exact absurd hn hs
   | some ob=>simp
theorem okCall_spec {f : FuncId} (h : okCall P f = true) : ∃ fn, P.funcs[f]? = some fn ∧ (fn.name == "runtime.NumGoroutine") = false ∧ fn.body.isNone = false := by
 unfold okCall at h
 split at h
 ·rename_i fn hf; simp only [Bool.and_eq_true,Bool.not_eq_true'] at h; exact ⟨fn,hf,h.1,h.2⟩
 ·cases h
def target (oo:Operand → Option AV):K → Option (FuncId × List FV)
 | .call f args _=>match ofzs oo args with
  | some xs=>some (f,xs)
  | none=>none
 | .callv x args _=>match oo x with
  | some (.fz (.fn f a b))=>match ofzs oo args with
   | some xs=>some (f,a ++ xs ++ b)
   | none=>none
  | _=>none
 | _=>none
theorem target_ok {T:AT} {L:AL} {σ:AS} (s:Sem h0 β hF h Tc T L σ) {ch:List (Nat × Bool)} (hch:∀ x ∈ ch,Tc x.1 = .bool x.2) {k:K} {f:FuncId} {xs:List FV} (e:target (opd L T ch) k = some (f,xs)) (hop:o.op = k.op) (hc:okCall P f = true) :
  ∃ vs,FReps hF xs vs ∧ ∀ K',SCalls P f vs.toArray h K' → SOp P o (ev Tc) h K':=by
 obtain ⟨fn,h1,h2,h3⟩:=okCall_spec hc
 cases k <;> simp only [target,reduceCtorEq] at e
 case call f' args tys =>
  split at e
  ·rename_i ys hys
   cases e
   exact ⟨args.map (ev Tc),ofzs_ok (fun x av e=>opd_ok s hch e) hys,fun K' c=>s_call hop rfl h1 h2 h3 (by simp) c⟩
  ·cases e
 case callv x args tys =>
  split at e
  ·rename_i f' fa fb hx
   split at e
   ·rename_i ys hys
    cases e
    have hv:=fz_fz (opd_ok s hch hx)
    generalize hvx:ev Tc x = v at hv
    cases hv with
    | @fn _ _ _ va vb hl hl2 hr hr2 =>
     refine ⟨va ++ args.map (ev Tc) ++ vb,((FReps.app ⟨hl,hr⟩ (ofzs_ok (fun x av e=>opd_ok s hch e) hys)).app ⟨hl2,hr2⟩),fun K' c=>?_⟩
     exact s_callv hop hvx h1 h2 h3 (by simp) c
   ·cases e
  ·cases e
theorem target_act {oo:Operand → Option AV} {k:K} {f:FuncId} {xs:List FV} (e:target oo k = some (f,xs)):isAct k.op = true:=by
 cases k <;> first | rfl | (simp only [target,reduceCtorEq] at e)
theorem pure_ac {σ:AS} (k:Ok h0 β hF h σ) {f:FuncId} {xs ys:List FV} {vs:List Value} {res:FV} (r:FReps hF xs vs) (cv:FConv xs ys) (c:PureCall P f ys res):SCalls P f vs.toArray h (AcOk h0 β hF h σ ⟨True,.fz res,σ,none,none,none⟩):=by
 refine (SCalls.frame (c hF vs (cv _ _ r)) k.le (fun r h1 e=>e.1)).mono ?_
 rintro v h2 ⟨h1,⟨hle,hr⟩,hl1,hl2,hnew⟩
 have hb:∀ e ∈ σ,∀ b,fpOf (β e.1) e.2 b → h1 b = none ∧ h2 b = h b:=fun e he b e1=>by
  obtain ⟨ob,h3⟩:=(k.ok e he).blk e1
  exact ⟨hnew b (k.out e he b e1) (by rw [h3]; simp),by rw [h3]; exact hl2 b ob h3⟩
 refine ⟨β,h1,⟨Heap.le_trans k.le0 hle,hl1,fun e he=>(k.ok e he).fr hle (fun b e1=>(hb e he b e1).2) rfl (fun _ _ _ _=>rfl),fun e he b e1=>(hb e he b e1).1,k.sep,k.fix,k.nd⟩,hle,fun _ _ _=>rfl,.fz hr,fun e he _ b e1=>(hb e he b e1).2⟩
def Reg (P:Program) (N:Nat) (ops:Array Oper) (dr:Option (List Nat)) (h0:Gd) (Q:Tm → Heap → Prop) (az:List AO) (s:St):Prop:=match dr with
 | none=>RegN P N ops h0 Q az s
 | some loud=>RegD P N ops loud h0 Q az s
variable {dr : Option (List Nat)} {az rest : List AO} {s s' : St}
theorem reg_run {ob:Prop} (e:run az s = (rest,s',ob)) (hob:ob) (r:Reg P N ops dr h0 Q rest s'):Reg P N ops dr h0 Q az s:=by
 cases dr with
 | none=>exact RegN.run e hob r
 | some l=>exact RegD.run e hob r
theorem reg_acs (hk:isAct a.k.op = true) (acs:∀ o,Fit P N ops o a → AcS h0 P N ops o a s s') (r:Reg P N ops dr h0 Q az s'):Reg P N ops dr h0 Q (a :: az) s:=by
 cases dr with
 | none=>exact RegN.acs hk acs r
 | some l=>exact RegD.acs hk acs r
theorem reg_call {d:Nat} {k:K} {q:Bool} {f:FuncId} {xs ys:List FV} {res:FV} (e:target (opd s.L s.T []) k = some (f,xs)) (hc:okCall P f = true) (c:PureCall P f ys res) (cv:FConv xs ys)
  (r:Reg P N ops dr h0 Q az ⟨s.T,(d,none,.fz res) :: s.L,s.σ,if q = true then s.rs else []⟩):Reg P N ops dr h0 Q (⟨some d,none,k,q⟩ :: az) s:=by
 refine reg_acs (target_act e) (fun o f'=>?_) r
 refine .plain ⟨True,.fz res,s.σ,none,none,none⟩ rfl (by simp [hits]) rfl (fun sem=>?_) (fun _ e=>by cases e) (.inl rfl) (fun _=>rfl) (fun e he=>⟨_,he⟩)
 obtain ⟨vs,h1,h2⟩:=target_ok sem (ch:=[]) (fun x hx=>by cases hx) e f'.op hc
 exact h2 _ (pure_ac sem.ok h1 cv c)
theorem reg_callg {d t:Nat} {p:Bool} {k:K} {q:Bool} {f:FuncId} {xs ys:List FV} {res:FV} (e:target (opd s.L s.T (chain s.L 3 (some (t,p)))) k = some (f,xs)) (hc:okCall P f = true) (c:PureCall P f ys res) (cv:FConv xs ys)
  (hin:(lookL s.L t).isSome = true) (r:Reg P N ops dr h0 Q az ⟨s.T,(d,some (t,p),.fz res) :: s.L,s.σ,s.rs⟩):Reg P N ops dr h0 Q (⟨some d,some (t,p),k,q⟩ :: az) s:=by
 refine reg_acs (target_act e) (fun o f'=>?_) r
 refine .guarded ⟨True,.fz res,s.σ,none,none,none⟩ d t p rfl rfl rfl ?_ rfl rfl rfl rfl (fun {β hF h Tc} sem ht=>?_)
 ·obtain ⟨x,hx⟩:=Option.isSome_iff_exists.1 hin
  exact ⟨_,lookL_mem hx,rfl⟩
 ·obtain ⟨vs,h1,h2⟩:=target_ok sem (chain_ok sem 3 (some (t,p)) (fun a b e=>by cases e; exact ht)) e f'.op hc
  exact h2 _ (pure_ac sem.ok h1 cv c)
end
end Go.Proofs.YtihdpjinaafenaaGreatDoor.Ab
