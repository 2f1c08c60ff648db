/- Addresses: masks, whether a prefix may be, an address's bits. -/
import Derived.Test.YtielfejpnkcjbaaWalk
import Derived.Test.YtielfejpnkcjbaaProg
import Derived.Test.YtielfejpnkcjbaaBits
set_option linter.unusedVariables false
set_option linter.unusedSimpArgs false
namespace Go.Proofs.Ytielfejpnkcjbaa
open Sl
/-- So many ones, from the highest bit on. -/
def maskN (m : Nat) : Int := 4294967296 - 2 ^ (32 - m)
def clip (n : Int) : Nat := if n < 0 then 0 else if 32 < n then 32 else n.toNat
theorem mask_eq : ∀ m : Nat, m ≤ 32 → IntKind.u32.wrap (BitVec.ofInt IntKind.u32.bits (if IntKind.u32.signed then -1 else IntKind.u32.max) ^^^ BitVec.ofInt IntKind.u32.bits (Int.fdiv 4294967295 (2 ^ (min m IntKind.u32.bits)))).toNat = maskN m := by decide
theorem clip_eq (n : Int) : (if 32 < (if 0 > n then 0 else n) then 32 else if 0 > n then 0 else n) = (clip n : Int) := by
  unfold clip
  split <;> split <;> (try split) <;> omega
theorem clip_le (n : Int) : clip n ≤ 32 := by unfold clip; split <;> (try split) <;> omega
theorem mask_ok (n : Int) (h : Heap) : SCalls Try.prog 45 #[.int .i64 n] h (fun v h' => h' = h ∧ v = .int .u32 (maskN (clip n))) := by
  refine s_enter Try.func45 rfl (by rw [Try.ntmps45]; simp) ?_
  rw [Try.ntmps45]
  have hc := clip_eq n
  have hl := clip_le n
  generalize hT : T0 #[.int .i64 n] = T
  have h0 : T 0 = .int .i64 n := by rw [← hT]; rfl
  clear hT
  refine s_seq ?_
  refine s_region ?_
  refine w_pv rfl dC (want_none rfl) (p_val evA) ?_
  refine w_nil ?_
  refine s_seq ?_
  refine s_region ?_
  refine w_pv rfl dC (want_none rfl) (p_val evA) ?_
  refine w_rd rfl dC (want_none rfl) (r_max2 rfl evA evA) ?_
  refine w_rd rfl dC (want_none rfl) (r_min2 rfl evA evA) ?_
  refine w_pv rfl dC (want_none rfl) (p_val evA) ?_
  refine w_nil ?_
  refine s_seq ?_
  refine s_region ?_
  refine w_pv rfl dC (want_none rfl) (p_val evA) ?_
  refine w_rd rfl dC (want_none rfl) (r_shr rfl evA evA arA) ?_
  refine w_rd rfl dC (want_none rfl) (r_bnot rfl evA) ?_
  refine w_pv rfl dC (want_none rfl) (p_val evA) ?_
  refine w_nil ?_
  refine s_ret ⟨_, res_one rfl rfl, rfl, ?_⟩
  simp only [upd, ↓reduceIte, hc, Int.toNat_natCast]
  exact congrArg _ (mask_eq _ hl)

/-- A prefix's value. -/
def pfxV (a n : Int) : Value := .agg #[.int .u32 a, .int .i64 n]
/-- Whether a prefix may be, as the machine reckons it. -/
def validB (a n : Int) : Bool := decide (n ≥ 0) && decide (n ≤ 32) && (IntKind.u32.wrap (BitVec.ofInt IntKind.u32.bits a &&& ~~~(BitVec.ofInt IntKind.u32.bits (maskN (clip n)))).toNat == 0)
theorem addrValid_ok (a n : Int) (h : Heap) : SCalls Try.prog 43 #[pfxV a n] h (fun v h' => h.le h' ∧ v = .bool (validB a n)) := by
  refine s_enter Try.func43 rfl (by rw [Try.ntmps43]; simp) ?_
  rw [Try.ntmps43]
  generalize hT : T0 #[pfxV a n] = T
  have h0 : T 0 = .agg #[.int .u32 a, .int .i64 n] := by rw [← hT]; rfl
  clear hT
  refine s_seq ?_
  refine s_region ?_
  refine w_al rfl dC (want_none rfl) (a_boxN rfl evA) ?_
  intro b1 hb1
  refine w_pv rfl dC (want_none rfl) (p_val evA) ?_
  refine w_nil ?_
  have hle := Heap.le_set (.cells #[.int .u32 a, .int .i64 n] 37) hb1
  unfold validB
  refine s_seq ?_
  by_cases hn : n ≥ 0
  · by_cases h32 : n ≤ 32
    · have e1 : decide (n ≥ 0) = true := decide_eq_true hn
      have e2 : decide (n ≤ 32) = true := decide_eq_true h32
      refine s_draw [(0, true), (1, true), (2, true), (3, true), (4, true), (5, true), (6, true), (7, true), (8, true), (9, true), (10, true), (11, true), (12, true), (13, true), (14, true), (15, true), (16, true), (17, true)] [] [] rfl kR kR ?_
      refine d_pv rfl rfl dC rfl rfl (want_none rfl) (p_fieldAddr (k := 1) rfl evA kR) ?_
      refine d_rd [_] rfl rfl dC rfl rfl (want_none rfl) (r_load1 rfl Try.underlying3 rfl evA (restr1 hpA) ceA) ?_
      refine d_pv rfl rfl dC rfl rfl (want_none rfl) (p_val evA) ?_
      refine d_pv rfl rfl dC rfl rfl (want_none rfl) (p_val evA) ?_
      refine d_pv rfl rfl dC rfl rfl (want_let rfl rfl evA) (p_fieldAddr (k := 1) rfl evA kR) ?_
      refine d_rd [_] rfl rfl dC rfl rfl (want_let rfl rfl evA) (r_load1 rfl Try.underlying3 rfl evA (restr1 hpA) ceA) ?_
      refine d_pv rfl rfl dC rfl rfl (want_let rfl rfl evA) (p_val evA) ?_
      refine d_pv rfl rfl dC rfl rfl (want_none rfl) (p_val evA) ?_
      refine d_pv rfl rfl dC rfl rfl (want_none rfl) (p_val evA) ?_
      refine d_pv rfl rfl dC rfl rfl (want_let rfl rfl evA) (p_fieldAddr (k := 0) rfl evA kR) ?_
      refine d_rd [_] rfl rfl dC rfl rfl (want_let rfl rfl evA) (r_load1 rfl Try.underlying23 rfl evA (restr1 hpA) ceA) ?_
      refine d_pv rfl rfl dC rfl rfl (want_let rfl rfl evA) (p_fieldAddr (k := 1) rfl evA kR) ?_
      refine d_rd [_] rfl rfl dC rfl rfl (want_let rfl rfl evA) (r_load1 rfl Try.underlying3 rfl evA (restr1 hpA) ceA) ?_
      refine d_qac rfl rfl dC (by decide) rfl (want_let rfl rfl evA) (s_call rfl rfl Try.func45 kR kR evA ?_); refine (mask_ok _ _).mono ?_; rintro _ _ ⟨rfl, rfl⟩; refine ⟨(fun _ _ h => h), ?_⟩
      refine d_pv rfl rfl dC rfl rfl (want_let rfl rfl evA) (p_val evA) ?_
      refine d_pv rfl rfl dC rfl rfl (want_let rfl rfl evA) (p_val evA) ?_
      refine d_pv rfl rfl dC rfl rfl (want_none rfl) (p_val evA) ?_
      refine d_pv rfl rfl dC rfl rfl (want_none rfl) (p_val evA) ?_
      refine d_nil ?_
      refine s_ret ⟨_, res_one rfl rfl, hle, ?_⟩
      simp only [pval, ev, upd, binVal, intBin, Option.map_some, ↓reduceIte, reduceCtorEq, Nat.reduceEqDiff, Nat.reduceBEq, List.map_toArray, List.map_cons, List.map_nil, cond_true, cond_false, decide_true, decide_false, Bool.not_true, Bool.not_false, Bool.true_and, Bool.false_and, Bool.and_true, Bool.and_false, beq_self_eq_true, bne_self_eq_false, List.getElem_toArray, List.getElem_cons_succ, List.getElem_cons_zero, e1, e2, Bool.true_and]
    · have e1 : decide (n ≥ 0) = true := decide_eq_true hn
      have e2 : decide (n ≤ 32) = false := decide_eq_false h32
      refine s_draw [(0, true), (1, true), (2, true), (3, true), (4, true), (5, true), (6, true), (7, true), (8, true), (9, true), (10, true), (11, true), (12, true), (13, true), (14, true), (15, true), (16, true), (17, true)] [] [] rfl kR kR ?_
      refine d_pv rfl rfl dC rfl rfl (want_none rfl) (p_fieldAddr (k := 1) rfl evA kR) ?_
      refine d_rd [_] rfl rfl dC rfl rfl (want_none rfl) (r_load1 rfl Try.underlying3 rfl evA (restr1 hpA) ceA) ?_
      refine d_pv rfl rfl dC rfl rfl (want_none rfl) (p_val evA) ?_
      refine d_pv rfl rfl dC rfl rfl (want_none rfl) (p_val evA) ?_
      refine d_pv rfl rfl dC rfl rfl (want_let rfl rfl evA) (p_fieldAddr (k := 1) rfl evA kR) ?_
      refine d_rd [_] rfl rfl dC rfl rfl (want_let rfl rfl evA) (r_load1 rfl Try.underlying3 rfl evA (restr1 hpA) ceA) ?_
      refine d_pv rfl rfl dC rfl rfl (want_let rfl rfl evA) (p_val evA) ?_
      refine d_pv rfl rfl dC rfl rfl (want_none rfl) (p_val evA) ?_
      refine d_pv rfl rfl dC rfl rfl (want_none rfl) (p_val evA) ?_
      refine d_skp rfl rfl dC (want_not rfl rfl evA rfl) ?_
      refine d_skp rfl rfl dC (want_not rfl rfl evA rfl) ?_
      refine d_skp rfl rfl dC (want_not rfl rfl evA rfl) ?_
      refine d_skp rfl rfl dC (want_not rfl rfl evA rfl) ?_
      refine d_skp rfl rfl dC (want_not rfl rfl evA rfl) ?_
      refine d_skp rfl rfl dC (want_not rfl rfl evA rfl) ?_
      refine d_skp rfl rfl dC (want_not rfl rfl evA rfl) ?_
      refine d_pv rfl rfl dC rfl rfl (want_none rfl) (p_val evA) ?_
      refine d_pv rfl rfl dC rfl rfl (want_none rfl) (p_val evA) ?_
      refine d_nil ?_
      refine s_ret ⟨_, res_one rfl rfl, hle, ?_⟩
      simp only [pval, ev, upd, binVal, intBin, Option.map_some, ↓reduceIte, reduceCtorEq, Nat.reduceEqDiff, Nat.reduceBEq, List.map_toArray, List.map_cons, List.map_nil, cond_true, cond_false, decide_true, decide_false, Bool.not_true, Bool.not_false, Bool.true_and, Bool.false_and, Bool.and_true, Bool.and_false, beq_self_eq_true, bne_self_eq_false, List.getElem_toArray, List.getElem_cons_succ, List.getElem_cons_zero, e1, e2, Bool.true_and, Bool.false_and]
  · have e1 : decide (n ≥ 0) = false := decide_eq_false hn
    refine s_draw [(0, true), (1, true), (2, true), (3, true), (4, true), (5, true), (6, true), (7, true), (8, true), (9, true), (10, true), (11, true), (12, true), (13, true), (14, true), (15, true), (16, true), (17, true)] [] [] rfl kR kR ?_
    refine d_pv rfl rfl dC rfl rfl (want_none rfl) (p_fieldAddr (k := 1) rfl evA kR) ?_
    refine d_rd [_] rfl rfl dC rfl rfl (want_none rfl) (r_load1 rfl Try.underlying3 rfl evA (restr1 hpA) ceA) ?_
    refine d_pv rfl rfl dC rfl rfl (want_none rfl) (p_val evA) ?_
    refine d_pv rfl rfl dC rfl rfl (want_none rfl) (p_val evA) ?_
    refine d_skp rfl rfl dC (want_not rfl rfl evA rfl) ?_
    refine d_skp rfl rfl dC (want_not rfl rfl evA rfl) ?_
    refine d_skp rfl rfl dC (want_not rfl rfl evA rfl) ?_
    refine d_pv rfl rfl dC rfl rfl (want_none rfl) (p_val evA) ?_
    refine d_pv rfl rfl dC rfl rfl (want_none rfl) (p_val evA) ?_
    refine d_skp rfl rfl dC (want_not rfl rfl evA rfl) ?_
    refine d_skp rfl rfl dC (want_not rfl rfl evA rfl) ?_
    refine d_skp rfl rfl dC (want_not rfl rfl evA rfl) ?_
    refine d_skp rfl rfl dC (want_not rfl rfl evA rfl) ?_
    refine d_skp rfl rfl dC (want_not rfl rfl evA rfl) ?_
    refine d_skp rfl rfl dC (want_not rfl rfl evA rfl) ?_
    refine d_skp rfl rfl dC (want_not rfl rfl evA rfl) ?_
    refine d_pv rfl rfl dC rfl rfl (want_none rfl) (p_val evA) ?_
    refine d_pv rfl rfl dC rfl rfl (want_none rfl) (p_val evA) ?_
    refine d_nil ?_
    refine s_ret ⟨_, res_one rfl rfl, hle, ?_⟩
    simp only [pval, ev, upd, binVal, intBin, Option.map_some, ↓reduceIte, reduceCtorEq, Nat.reduceEqDiff, Nat.reduceBEq, List.map_toArray, List.map_cons, List.map_nil, cond_true, cond_false, decide_true, decide_false, Bool.not_true, Bool.not_false, Bool.true_and, Bool.false_and, Bool.and_true, Bool.and_false, beq_self_eq_true, bne_self_eq_false, List.getElem_toArray, List.getElem_cons_succ, List.getElem_cons_zero, e1, Bool.false_and]

theorem maskN_nat : ∀ m : Nat, m ≤ 32 → maskN m = (maskNat m : Int) := by decide
theorem bv_and (A B : Nat) (hA : A < 4294967296) (hB : B < 4294967296) : IntKind.u32.wrap ((BitVec.ofInt IntKind.u32.bits (A : Int) &&& BitVec.ofInt IntKind.u32.bits (B : Int)).toNat : Int) = ((A &&& B : Nat) : Int) := by
  change IntKind.u32.wrap ((BitVec.ofInt 32 (A : Int) &&& BitVec.ofInt 32 (B : Int)).toNat : Int) = _
  rw [BitVec.ofInt_natCast, BitVec.ofInt_natCast, BitVec.toNat_and, BitVec.toNat_ofNat, BitVec.toNat_ofNat, Nat.mod_eq_of_lt (by exact hA), Nat.mod_eq_of_lt (by exact hB)]
  exact wrap32_nat _ (Nat.lt_of_le_of_lt Nat.and_le_left hA)
theorem bv_or (A B : Nat) (hA : A < 4294967296) (hB : B < 4294967296) : IntKind.u32.wrap ((BitVec.ofInt IntKind.u32.bits (A : Int) ||| BitVec.ofInt IntKind.u32.bits (B : Int)).toNat : Int) = ((A ||| B : Nat) : Int) := by
  change IntKind.u32.wrap ((BitVec.ofInt 32 (A : Int) ||| BitVec.ofInt 32 (B : Int)).toNat : Int) = _
  rw [BitVec.ofInt_natCast, BitVec.ofInt_natCast, BitVec.toNat_or, BitVec.toNat_ofNat, BitVec.toNat_ofNat, Nat.mod_eq_of_lt (by exact hA), Nat.mod_eq_of_lt (by exact hB)]
  exact wrap32_nat _ (Nat.or_lt_two_pow (n := 32) hA hB)
theorem bv_xor (A B : Nat) (hA : A < 4294967296) (hB : B < 4294967296) : IntKind.u32.wrap ((BitVec.ofInt IntKind.u32.bits (A : Int) ^^^ BitVec.ofInt IntKind.u32.bits (B : Int)).toNat : Int) = ((A ^^^ B : Nat) : Int) := by
  change IntKind.u32.wrap ((BitVec.ofInt 32 (A : Int) ^^^ BitVec.ofInt 32 (B : Int)).toNat : Int) = _
  rw [BitVec.ofInt_natCast, BitVec.ofInt_natCast, BitVec.toNat_xor, BitVec.toNat_ofNat, BitVec.toNat_ofNat, Nat.mod_eq_of_lt (by exact hA), Nat.mod_eq_of_lt (by exact hB)]
  exact wrap32_nat _ (Nat.xor_lt_two_pow (n := 32) hA hB)
theorem bv_andNot_zero (A m : Nat) (hA : A < 4294967296) (hm : m ≤ 32) : (IntKind.u32.wrap ((BitVec.ofInt IntKind.u32.bits (A : Int) &&& ~~~(BitVec.ofInt IntKind.u32.bits (maskNat m : Int))).toNat : Int) == 0) = decide (cut A m = A) := by
  change (IntKind.u32.wrap ((BitVec.ofInt 32 (A : Int) &&& ~~~(BitVec.ofInt 32 (maskNat m : Int))).toNat : Int) == 0) = _
  rw [BitVec.ofInt_natCast, BitVec.ofInt_natCast]
  have hlt := (BitVec.ofNat 32 A &&& ~~~(BitVec.ofNat 32 (maskNat m))).isLt
  rw [wrap32_nat _ hlt]
  have hz : (((BitVec.ofNat 32 A &&& ~~~(BitVec.ofNat 32 (maskNat m))).toNat : Int) == 0) = decide (BitVec.ofNat 32 A &&& ~~~(BitVec.ofNat 32 (maskNat m)) = 0#32) := by
    rw [Bool.eq_iff_iff]
    simp only [beq_iff_eq, decide_eq_true_eq]
    constructor
    · intro h
      apply BitVec.eq_of_toNat_eq
      simpa using h
    · intro h; rw [h]; rfl
  rw [hz]
  rw [Bool.eq_iff_iff]
  simp only [decide_eq_true_eq]
  have hbit : ∀ j, j < 32 → (BitVec.ofNat 32 A).getLsbD j = A.testBit j := fun j hj => by rw [BitVec.getLsbD_ofNat]; simp [hj]
  have hbm : ∀ j, j < 32 → (BitVec.ofNat 32 (maskNat m)).getLsbD j = decide (32 - m ≤ j) := fun j hj => by rw [BitVec.getLsbD_ofNat, maskNat_bit m hm j hj]; simp [hj]
  constructor
  · intro h
    refine eq_of_bits _ _ (cut_lt A m hA) hA fun i hi => ?_
    rw [cut_bit A m hA hm i hi]
    by_cases h1 : i < m
    · simp [h1]
    · have h2 := congrArg (fun b : BitVec 32 => b.getLsbD (31 - i)) h
      simp only [BitVec.getLsbD_and, BitVec.getLsbD_not, hbit _ (show 31 - i < 32 by omega), hbm _ (show 31 - i < 32 by omega)] at h2
      have h3 : ¬ (32 - m ≤ 31 - i) := by omega
      have h4 : (31 - i < 32) := by omega
      simp [h3, h4] at h2
      simp [h1, bitI, h2]
  · intro h
    apply BitVec.eq_of_getLsbD_eq
    intro j hj
    simp only [BitVec.getLsbD_and, BitVec.getLsbD_not, hbit _ hj, hbm _ hj]
    have h1 : A.testBit j = (A.testBit j && decide (32 - m ≤ j)) := by
      have := cut_bit A m hA hm (31 - j) (by omega)
      rw [h] at this
      unfold bitI at this
      rw [show 31 - (31 - j) = j by omega] at this
      rw [this]
      congr 1
      simp; omega
    rw [h1]
    by_cases h2 : 32 - m ≤ j <;> simp [h2]
theorem clip_of (n : Nat) (h : n ≤ 32) : clip (n : Int) = n := by unfold clip; split <;> (try split) <;> omega
/-- Whether a prefix may be. -/
def okPfx (A : Nat) (n : Int) : Bool := decide (0 ≤ n ∧ n ≤ 32 ∧ cut A n.toNat = A)
theorem validB_eq (A : Nat) (n : Int) (hA : A < 4294967296) : validB (A : Int) n = okPfx A n := by
  unfold validB okPfx
  by_cases h0 : 0 ≤ n
  · by_cases h1 : n ≤ 32
    · have hc : clip n = n.toNat := by
        have := clip_of n.toNat (by omega)
        rwa [Int.toNat_of_nonneg h0] at this
      rw [hc, maskN_nat _ (by omega), bv_andNot_zero A _ hA (by omega)]
      simp [h0, h1]
    · simp [h1]
  · simp [h0]
theorem bit_ok (A i : Nat) (hA : A < 4294967296) (hi : i ≤ 31) (h : Heap) : SCalls Try.prog 44 #[.int .u32 A, .int .i64 i] h (fun v h' => h' = h ∧ v = .int .i64 (if bitI A i then 1 else 0)) := by
  refine s_enter Try.func44 rfl (by rw [Try.ntmps44]; simp) ?_
  rw [Try.ntmps44]
  have hb := bit_eq A i hA hi
  generalize hT : T0 #[.int .u32 A, .int .i64 i] = T
  have h0 : T 0 = .int .u32 A := by rw [← hT]; rfl
  have h1 : T 1 = .int .i64 i := by rw [← hT]; rfl
  clear hT
  have hw : IntKind.i64.wrap (31 - (i : Int)) = ((31 - i : Nat) : Int) := by rw [wrap64_in _ (by omega) (by omega)]; omega
  refine s_seq ?_
  refine s_region ?_
  refine w_pv rfl dC (want_none rfl) (p_val evA) ?_
  refine w_nil ?_
  refine s_seq ?_
  refine s_region ?_
  refine w_pv rfl dC (want_none rfl) (p_val evA) ?_
  refine w_pv rfl dC (want_none rfl) (p_val evA) ?_
  refine w_pv rfl dC (want_none rfl) (p_val evA) ?_
  refine w_rd rfl dC (want_none rfl) (r_shr rfl evA evA arA) ?_
  refine w_pv rfl dC (want_none rfl) (p_val evA) ?_
  refine w_rd rfl dC (want_none rfl) (r_convert_int rfl Try.underlying23 Try.underlying3 evA rfl) ?_
  refine w_pv rfl dC (want_none rfl) (p_val evA) ?_
  refine w_nil ?_
  refine s_ret ⟨_, res_one rfl rfl, rfl, ?_⟩
  simp only [pval, ev, upd, binVal, intBin, Option.map_some, ↓reduceIte, reduceCtorEq, Nat.reduceEqDiff, Nat.reduceBEq, List.map_toArray, List.map_cons, List.map_nil, cond_true, cond_false, decide_true, decide_false, Bool.not_true, Bool.not_false, Bool.true_and, Bool.false_and, Bool.and_true, Bool.and_false, beq_self_eq_true, bne_self_eq_false, List.getElem_toArray, List.getElem_cons_succ, List.getElem_cons_zero, Int.toNat_natCast]
  rw [hb]
theorem maskNat_step : ∀ k : Nat, k < 32 → maskNat k ||| 2 ^ (31 - k) = maskNat (k + 1) := by decide
theorem rmask_ok (n : Int) (h : Heap) : SCalls Try.prog 14 #[.int .i64 n] h (fun v h' => h' = h ∧ v = .int .u32 (maskNat (clip n))) := by
  refine s_enter Try.func14 rfl (by rw [Try.ntmps14]; simp) ?_
  rw [Try.ntmps14]
  generalize hT : T0 #[.int .i64 n] = T
  have h0 : T 0 = .int .i64 n := by rw [← hT]; rfl
  clear hT
  repeat refine s_seq ?_
  refine s_region ?_
  refine w_pv rfl dC (want_none rfl) (p_val evA) ?_
  refine w_nil ?_
  repeat refine s_seq ?_
  refine s_region ?_
  refine w_pv rfl dC (want_none rfl) (p_val evA) ?_
  refine w_nil ?_
  repeat refine s_seq ?_
  refine s_region ?_
  refine w_pv rfl dC (want_none rfl) (p_val evA) ?_
  refine w_nil ?_
  repeat refine s_seq ?_
  refine (s_block (s_loop (fun m T h' => ∃ i : Nat, m = 33 - i ∧ i ≤ clip n ∧ h' = h ∧ T 0 = .int .i64 n ∧ T 3 = .int .u32 (maskNat i) ∧ T 4 = .int .i64 i) (n0 := 33) ⟨0, rfl, Nat.zero_le _, rfl, slA, by simp only [pval, ev, upd, binVal, intBin, Option.map_some, ↓reduceIte, reduceCtorEq, Nat.reduceEqDiff, Nat.reduceBEq, List.map_toArray, List.map_cons, List.map_nil, cond_true, cond_false, decide_true, decide_false, Bool.not_true, Bool.not_false, Bool.true_and, Bool.false_and, Bool.and_true, Bool.and_false, beq_self_eq_true, bne_self_eq_false, List.getElem_toArray, List.getElem_cons_succ, List.getElem_cons_zero, *] <;> rfl, by simp only [pval, ev, upd, binVal, intBin, Option.map_some, ↓reduceIte, reduceCtorEq, Nat.reduceEqDiff, Nat.reduceBEq, List.map_toArray, List.map_cons, List.map_nil, cond_true, cond_false, decide_true, decide_false, Bool.not_true, Bool.not_false, Bool.true_and, Bool.false_and, Bool.and_true, Bool.and_false, beq_self_eq_true, bne_self_eq_false, List.getElem_toArray, List.getElem_cons_succ, List.getElem_cons_zero, *] <;> rfl⟩ ?_))
  clear h0 T
  rintro m T h' ⟨i, rfl, hi, rfl, h0, h3, h4⟩
  have hcl := clip_le n
  by_cases hlt : i < clip n
  · have e1 : decide ((i : Int) < n) = true := decide_eq_true (by unfold clip at hlt; split at hlt <;> (try split at hlt) <;> omega)
    have e2 : decide ((i : Int) < 32) = true := decide_eq_true (by omega)
    have hw : IntKind.i64.wrap (31 - (i : Int)) = ((31 - i : Nat) : Int) := by rw [wrap64_in _ (by omega) (by omega)]; omega
    have hw2 : IntKind.u64.wrap ((31 - i : Nat) : Int) = ((31 - i : Nat) : Int) := wrapU64_in _ (by omega) (by omega)
    have hw3 : IntKind.i64.wrap ((i : Int) + 1) = ((i + 1 : Nat) : Int) := by rw [wrap64_in _ (by omega) (by omega)]; omega
    repeat refine s_seq ?_
    refine s_region ?_
    refine w_pv rfl dC (want_none rfl) (p_val evA) ?_
    refine w_pv rfl dC (want_none rfl) (p_val evA) ?_
    refine w_pv rfl dC (want_none rfl) (p_val evA) ?_
    refine w_pv rfl dC (want_none rfl) (p_val evA) ?_
    refine w_pv rfl dC (want_let rfl rfl evA) (p_val evA) ?_
    refine w_pv rfl dC (want_let rfl rfl evA) (p_val evA) ?_
    refine w_pv rfl dC (want_none rfl) (p_val evA) ?_
    refine w_nil ?_
    refine (s_cond (t := true) slA (s_skip ?_))
    repeat refine s_seq ?_
    refine (s_block ?_)
    refine s_region ?_
    refine w_pv rfl dC (want_none rfl) (p_val evA) ?_
    refine w_pv rfl dC (want_none rfl) (p_val evA) ?_
    refine w_pv rfl dC (want_none rfl) (p_val evA) ?_
    refine w_rd rfl dC (want_none rfl) (r_convert_int rfl Try.underlying3 Try.underlying41 evA rfl) ?_
    refine w_rd rfl dC (want_none rfl) (r_shl rfl evA evA arA) ?_
    refine w_pv rfl dC (want_none rfl) (p_val evA) ?_
    refine w_pv rfl dC (want_none rfl) (p_val evA) ?_
    refine w_nil ?_
    repeat refine s_seq ?_
    refine s_region ?_
    refine w_pv rfl dC (want_none rfl) (p_val evA) ?_
    refine w_pv rfl dC (want_none rfl) (p_val evA) ?_
    refine w_pv rfl dC (want_none rfl) (p_val evA) ?_
    refine w_nil ?_
    refine ⟨33 - (i + 1), by omega, i + 1, rfl, by omega, rfl, slA, ?_, slA⟩
    simp only [pval, ev, upd, binVal, intBin, Option.map_some, ↓reduceIte, reduceCtorEq, Nat.reduceEqDiff, Nat.reduceBEq, List.map_toArray, List.map_cons, List.map_nil, cond_true, cond_false, decide_true, decide_false, Bool.not_true, Bool.not_false, Bool.true_and, Bool.false_and, Bool.and_true, Bool.and_false, beq_self_eq_true, bne_self_eq_false, List.getElem_toArray, List.getElem_cons_succ, List.getElem_cons_zero, *]
    have hp : (2 : Nat) ^ (31 - i) < 4294967296 := Nat.pow_lt_pow_right (by decide) (show 31 - i < 32 by omega)
    have hm : min (31 - i) IntKind.u32.bits = 31 - i := by show min (31 - i) 32 = _; omega
    have h2 : (1 : Int) * 2 ^ min (((31 - i : Nat) : Int)).toNat IntKind.u32.bits = ((2 ^ (31 - i) : Nat) : Int) := by
      rw [Int.toNat_natCast, hm, Int.one_mul]; simp
    rw [h2, wrap32_nat _ hp, bv_or _ _ (maskNat_lt i) hp, maskNat_step i (by omega)]
  · have hic : clip n = i := by omega
    by_cases hn : (i : Int) < n
    · have e1 : decide ((i : Int) < n) = true := decide_eq_true hn
      have e2 : decide ((i : Int) < 32) = false := decide_eq_false (by intro h32; unfold clip at hic; split at hic <;> (try split at hic) <;> omega)
      repeat refine s_seq ?_
      refine s_region ?_
      refine w_pv rfl dC (want_none rfl) (p_val evA) ?_
      refine w_pv rfl dC (want_none rfl) (p_val evA) ?_
      refine w_pv rfl dC (want_none rfl) (p_val evA) ?_
      refine w_pv rfl dC (want_none rfl) (p_val evA) ?_
      refine w_pv rfl dC (want_let rfl rfl evA) (p_val evA) ?_
      refine w_pv rfl dC (want_let rfl rfl evA) (p_val evA) ?_
      refine w_pv rfl dC (want_none rfl) (p_val evA) ?_
      refine w_nil ?_
      refine (s_cond (t := false) slA (s_exit ?_))
      repeat refine s_seq ?_
      refine s_region ?_
      refine w_pv rfl dC (want_none rfl) (p_val evA) ?_
      refine w_pv rfl dC (want_none rfl) (p_val evA) ?_
      refine w_nil ?_
      refine s_ret ⟨_, res_one rfl rfl, rfl, ?_⟩
      simp only [pval, ev, upd, binVal, intBin, Option.map_some, ↓reduceIte, reduceCtorEq, Nat.reduceEqDiff, Nat.reduceBEq, List.map_toArray, List.map_cons, List.map_nil, cond_true, cond_false, decide_true, decide_false, Bool.not_true, Bool.not_false, Bool.true_and, Bool.false_and, Bool.and_true, Bool.and_false, beq_self_eq_true, bne_self_eq_false, List.getElem_toArray, List.getElem_cons_succ, List.getElem_cons_zero, *]
    · have e1 : decide ((i : Int) < n) = false := decide_eq_false hn
      repeat refine s_seq ?_
      refine s_region ?_
      refine w_pv rfl dC (want_none rfl) (p_val evA) ?_
      refine w_pv rfl dC (want_none rfl) (p_val evA) ?_
      refine w_pv rfl dC (want_none rfl) (p_val evA) ?_
      refine w_pv rfl dC (want_none rfl) (p_val evA) ?_
      refine w_skp rfl dC (want_not rfl rfl evA rfl) ?_
      refine w_skp rfl dC (want_not rfl rfl evA rfl) ?_
      refine w_pv rfl dC (want_none rfl) (p_val evA) ?_
      refine w_nil ?_
      refine (s_cond (t := false) slA (s_exit ?_))
      repeat refine s_seq ?_
      refine s_region ?_
      refine w_pv rfl dC (want_none rfl) (p_val evA) ?_
      refine w_pv rfl dC (want_none rfl) (p_val evA) ?_
      refine w_nil ?_
      refine s_ret ⟨_, res_one rfl rfl, rfl, ?_⟩
      simp only [pval, ev, upd, binVal, intBin, Option.map_some, ↓reduceIte, reduceCtorEq, Nat.reduceEqDiff, Nat.reduceBEq, List.map_toArray, List.map_cons, List.map_nil, cond_true, cond_false, decide_true, decide_false, Bool.not_true, Bool.not_false, Bool.true_and, Bool.false_and, Bool.and_true, Bool.and_false, beq_self_eq_true, bne_self_eq_false, List.getElem_toArray, List.getElem_cons_succ, List.getElem_cons_zero, *]
end Go.Proofs.Ytielfejpnkcjbaa
