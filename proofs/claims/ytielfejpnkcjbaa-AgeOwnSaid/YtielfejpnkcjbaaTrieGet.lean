/- Valid, In, Get. -/
import Derived.Test.YtielfejpnkcjbaaTrieFirst
set_option linter.unusedVariables false
set_option linter.unusedSimpArgs false
namespace Go.Proofs.Ytielfejpnkcjbaa
open Sl
theorem rvalid_ok (A : Nat) (n : Int) (hA : A < 4294967296) (h : Heap) : SCalls Try.prog 40 #[pfxV A n] h (fun v h' => h.le h' ∧ v = .bool (okPfx A n)) := by
  refine s_enter Try.func40 rfl (by rw [Try.ntmps40]; simp) ?_
  rw [Try.ntmps40]
  generalize hT : T0 #[pfxV A n] = T
  have h0 : T 0 = .agg #[.int .u32 A, .int .i64 n] := by rw [← hT]; rfl
  clear hT
  repeat refine s_seq ?_
  refine s_region ?_
  refine w_al rfl dC (want_none rfl) (a_boxN rfl evA) ?_
  intro b1 hb1
  refine w_pv rfl dC (want_none rfl) (p_val evA) ?_
  refine w_nil ?_
  have hle := Heap.le_set (.cells #[.int .u32 A, .int .i64 n] 37) hb1
  refine s_seq ?_
  unfold okPfx
  by_cases hn : n ≥ 0
  · by_cases h32 : n ≤ 32
    · have e1 : decide (n ≥ 0) = true := decide_eq_true hn
      have e2 : decide (n ≤ 32) = true := decide_eq_true h32
      obtain ⟨i, rfl⟩ := Int.eq_ofNat_of_zero_le hn
      have hi : i ≤ 32 := by omega
      have hcl := clip_of i hi
      have hz := bv_andNot_zero A i hA hi
      generalize hG : (maskNat i : Int) = G at hz
      refine s_draw [(0, true), (1, true), (2, true), (3, true), (4, true), (5, true), (6, true), (7, true), (8, true), (9, true), (10, true), (11, true), (12, true), (13, true), (14, true), (15, true), (16, true), (17, true)] [] [] rfl kR kR ?_
      refine d_pv rfl rfl dC rfl rfl (want_none rfl) (p_fieldAddr (k := 1) rfl evA kR) ?_
      refine d_rd [_] rfl rfl dC rfl rfl (want_none rfl) (r_load1 rfl Try.underlying3 rfl evA (restr1 hpA) ceA) ?_
      refine d_pv rfl rfl dC rfl rfl (want_none rfl) (p_val evA) ?_
      refine d_pv rfl rfl dC rfl rfl (want_none rfl) (p_val evA) ?_
      refine d_pv rfl rfl dC rfl rfl (want_let rfl rfl evA) (p_fieldAddr (k := 1) rfl evA kR) ?_
      refine d_rd [_] rfl rfl dC rfl rfl (want_let rfl rfl evA) (r_load1 rfl Try.underlying3 rfl evA (restr1 hpA) ceA) ?_
      refine d_pv rfl rfl dC rfl rfl (want_let rfl rfl evA) (p_val evA) ?_
      refine d_pv rfl rfl dC rfl rfl (want_none rfl) (p_val evA) ?_
      refine d_pv rfl rfl dC rfl rfl (want_none rfl) (p_val evA) ?_
      refine d_pv rfl rfl dC rfl rfl (want_let rfl rfl evA) (p_fieldAddr (k := 0) rfl evA kR) ?_
      refine d_rd [_] rfl rfl dC rfl rfl (want_let rfl rfl evA) (r_load1 rfl Try.underlying23 rfl evA (restr1 hpA) ceA) ?_
      refine d_pv rfl rfl dC rfl rfl (want_let rfl rfl evA) (p_fieldAddr (k := 1) rfl evA kR) ?_
      refine d_rd [_] rfl rfl dC rfl rfl (want_let rfl rfl evA) (r_load1 rfl Try.underlying3 rfl evA (restr1 hpA) ceA) ?_
      refine d_qac rfl rfl dC (by decide) rfl (want_let rfl rfl evA) (s_call rfl rfl Try.func14 kR kR evA ?_); refine (rmask_ok _ _).mono ?_; rintro _ _ ⟨rfl, rfl⟩; refine ⟨(fun _ _ h => h), ?_⟩; rw [hcl, hG]
      refine d_pv rfl rfl dC rfl rfl (want_let rfl rfl evA) (p_val evA) ?_
      refine d_pv rfl rfl dC rfl rfl (want_let rfl rfl evA) (p_val evA) ?_
      refine d_pv rfl rfl dC rfl rfl (want_none rfl) (p_val evA) ?_
      refine d_pv rfl rfl dC rfl rfl (want_none rfl) (p_val evA) ?_
      refine d_nil ?_
      refine s_ret ⟨_, res_one rfl rfl, hle, ?_⟩
      simp only [pval, ev, upd, binVal, intBin, Option.map_some, ↓reduceIte, reduceCtorEq, Nat.reduceEqDiff, Nat.reduceBEq, List.map_toArray, List.map_cons, List.map_nil, cond_true, cond_false, decide_true, decide_false, Bool.not_true, Bool.not_false, Bool.true_and, Bool.false_and, Bool.and_true, Bool.and_false, beq_self_eq_true, bne_self_eq_false, List.getElem_toArray, List.getElem_cons_succ, List.getElem_cons_zero, hz, Int.toNat_natCast]
      simp; omega
    · have e1 : decide (n ≥ 0) = true := decide_eq_true hn
      have e2 : decide (n ≤ 32) = false := decide_eq_false h32
      refine s_draw [(0, true), (1, true), (2, true), (3, true), (4, true), (5, true), (6, true), (7, true), (8, true), (9, true), (10, true), (11, true), (12, true), (13, true), (14, true), (15, true), (16, true), (17, true)] [] [] rfl kR kR ?_
      refine d_pv rfl rfl dC rfl rfl (want_none rfl) (p_fieldAddr (k := 1) rfl evA kR) ?_
      refine d_rd [_] rfl rfl dC rfl rfl (want_none rfl) (r_load1 rfl Try.underlying3 rfl evA (restr1 hpA) ceA) ?_
      refine d_pv rfl rfl dC rfl rfl (want_none rfl) (p_val evA) ?_
      refine d_pv rfl rfl dC rfl rfl (want_none rfl) (p_val evA) ?_
      refine d_pv rfl rfl dC rfl rfl (want_let rfl rfl evA) (p_fieldAddr (k := 1) rfl evA kR) ?_
      refine d_rd [_] rfl rfl dC rfl rfl (want_let rfl rfl evA) (r_load1 rfl Try.underlying3 rfl evA (restr1 hpA) ceA) ?_
      refine d_pv rfl rfl dC rfl rfl (want_let rfl rfl evA) (p_val evA) ?_
      refine d_pv rfl rfl dC rfl rfl (want_none rfl) (p_val evA) ?_
      refine d_pv rfl rfl dC rfl rfl (want_none rfl) (p_val evA) ?_
      refine d_skp rfl rfl dC (want_not rfl rfl evA rfl) ?_
      refine d_skp rfl rfl dC (want_not rfl rfl evA rfl) ?_
      refine d_skp rfl rfl dC (want_not rfl rfl evA rfl) ?_
      refine d_skp rfl rfl dC (want_not rfl rfl evA rfl) ?_
      refine d_skp rfl rfl dC (want_not rfl rfl evA rfl) ?_
      refine d_skp rfl rfl dC (want_not rfl rfl evA rfl) ?_
      refine d_skp rfl rfl dC (want_not rfl rfl evA rfl) ?_
      refine d_pv rfl rfl dC rfl rfl (want_none rfl) (p_val evA) ?_
      refine d_pv rfl rfl dC rfl rfl (want_none rfl) (p_val evA) ?_
      refine d_nil ?_
      refine s_ret ⟨_, res_one rfl rfl, hle, ?_⟩
      simp only [pval, ev, upd, binVal, intBin, Option.map_some, ↓reduceIte, reduceCtorEq, Nat.reduceEqDiff, Nat.reduceBEq, List.map_toArray, List.map_cons, List.map_nil, cond_true, cond_false, decide_true, decide_false, Bool.not_true, Bool.not_false, Bool.true_and, Bool.false_and, Bool.and_true, Bool.and_false, beq_self_eq_true, bne_self_eq_false, List.getElem_toArray, List.getElem_cons_succ, List.getElem_cons_zero, e1, e2, Bool.true_and, Bool.false_and]
      simp [h32]
  · have e1 : decide (n ≥ 0) = false := decide_eq_false hn
    refine s_draw [(0, true), (1, true), (2, true), (3, true), (4, true), (5, true), (6, true), (7, true), (8, true), (9, true), (10, true), (11, true), (12, true), (13, true), (14, true), (15, true), (16, true), (17, true)] [] [] rfl kR kR ?_
    refine d_pv rfl rfl dC rfl rfl (want_none rfl) (p_fieldAddr (k := 1) rfl evA kR) ?_
    refine d_rd [_] rfl rfl dC rfl rfl (want_none rfl) (r_load1 rfl Try.underlying3 rfl evA (restr1 hpA) ceA) ?_
    refine d_pv rfl rfl dC rfl rfl (want_none rfl) (p_val evA) ?_
    refine d_pv rfl rfl dC rfl rfl (want_none rfl) (p_val evA) ?_
    refine d_skp rfl rfl dC (want_not rfl rfl evA rfl) ?_
    refine d_skp rfl rfl dC (want_not rfl rfl evA rfl) ?_
    refine d_skp rfl rfl dC (want_not rfl rfl evA rfl) ?_
    refine d_pv rfl rfl dC rfl rfl (want_none rfl) (p_val evA) ?_
    refine d_pv rfl rfl dC rfl rfl (want_none rfl) (p_val evA) ?_
    refine d_skp rfl rfl dC (want_not rfl rfl evA rfl) ?_
    refine d_skp rfl rfl dC (want_not rfl rfl evA rfl) ?_
    refine d_skp rfl rfl dC (want_not rfl rfl evA rfl) ?_
    refine d_skp rfl rfl dC (want_not rfl rfl evA rfl) ?_
    refine d_skp rfl rfl dC (want_not rfl rfl evA rfl) ?_
    refine d_skp rfl rfl dC (want_not rfl rfl evA rfl) ?_
    refine d_skp rfl rfl dC (want_not rfl rfl evA rfl) ?_
    refine d_pv rfl rfl dC rfl rfl (want_none rfl) (p_val evA) ?_
    refine d_pv rfl rfl dC rfl rfl (want_none rfl) (p_val evA) ?_
    refine d_nil ?_
    refine s_ret ⟨_, res_one rfl rfl, hle, ?_⟩
    simp only [pval, ev, upd, binVal, intBin, Option.map_some, ↓reduceIte, reduceCtorEq, Nat.reduceEqDiff, Nat.reduceBEq, List.map_toArray, List.map_cons, List.map_nil, cond_true, cond_false, decide_true, decide_false, Bool.not_true, Bool.not_false, Bool.true_and, Bool.false_and, Bool.and_true, Bool.and_false, beq_self_eq_true, bne_self_eq_false, List.getElem_toArray, List.getElem_cons_succ, List.getElem_cons_zero, e1, Bool.false_and]
    simp; omega
/-- Whether an address begins as a prefix. -/
def inPfx (a : Nat) (n : Int) (A : Nat) : Bool := okPfx a n && decide (cut A n.toNat = a)
theorem in_ok (a : Nat) (n : Int) (A : Nat) (ha : a < 4294967296) (hA : A < 4294967296) (h : Heap) : SCalls Try.prog 18 #[pfxV a n, .int .u32 A] h (fun v h' => h.le h' ∧ v = .bool (inPfx a n A)) := by
  refine s_enter Try.func18 rfl (by rw [Try.ntmps18]; simp) ?_
  rw [Try.ntmps18]
  generalize hT : T0 #[pfxV a n, .int .u32 A] = T
  have h0 : T 0 = .agg #[.int .u32 a, .int .i64 n] := by rw [← hT]; rfl
  have h1 : T 1 = .int .u32 A := by rw [← hT]; rfl
  clear hT
  repeat refine s_seq ?_
  refine s_region ?_
  refine w_al rfl dC (want_none rfl) (a_boxN rfl evA) ?_
  intro b2 hb2
  refine w_pv rfl dC (want_none rfl) (p_val evA) ?_
  refine w_nil ?_
  have hle := Heap.le_set (.cells #[.int .u32 a, .int .i64 n] 37) hb2
  have hat := Heap.set_same h b2 (.cells #[.int .u32 a, .int .i64 n] 37)
  refine s_seq ?_
  unfold inPfx
  cases hok : okPfx a n with
  | true =>
    obtain ⟨hn0, hn32, hcut⟩ := of_decide_eq_true hok
    obtain ⟨i, rfl⟩ := Int.eq_ofNat_of_zero_le hn0
    have hi : i ≤ 32 := by omega
    have hand : IntKind.u32.wrap ((BitVec.ofInt IntKind.u32.bits (A : Int) &&& BitVec.ofInt IntKind.u32.bits (((maskNat (clip ((i : Nat) : Int)) : Nat) : Int))).toNat : Int) = ((cut A i : Nat) : Int) := by
      rw [clip_of i hi, bv_and A _ hA (maskNat_lt i)]; rfl
    refine s_draw [(0, true), (1, true), (2, true), (3, true), (4, true), (5, true), (8, true), (9, true), (6, true), (7, true), (10, true), (11, true), (12, true)] [] [1] rfl kR kR ?_
    refine d_rd [_] rfl rfl dC rfl rfl (want_none rfl) (r_loadN (n := 2) rfl Try.underlying37 rfl evA (restr1 hpA) kR szA) ?_
    refine d_lac rfl rfl dC (by decide) rfl (want_none rfl) (s_call rfl rfl Try.func40 kR kR evA ?_); refine (rvalid_ok a (i : Nat) ha _).mono ?_; rintro _ h2 ⟨hle2, rfl⟩; rw [hok]; have hat2 := hle2 _ _ hat
    refine d_pv rfl rfl dC rfl rfl (want_none rfl) (p_val evA) ?_
    refine d_pv rfl rfl dC rfl rfl (want_let rfl rfl evA) (p_val evA) ?_
    refine d_pv rfl rfl dC rfl rfl (want_let rfl rfl evA) (p_fieldAddr (k := 1) rfl evA kR) ?_
    refine d_rd [_] rfl rfl dC rfl rfl (want_let rfl rfl evA) (r_load1 rfl Try.underlying3 rfl evA (restr1 hpA) ceA) ?_
    refine d_pv rfl rfl dC rfl rfl (want_let rfl rfl evA) (p_fieldAddr (k := 0) rfl evA kR) ?_
    refine d_rd [_] rfl rfl dC rfl rfl (want_let rfl rfl evA) (r_load1 rfl Try.underlying23 rfl evA (restr1 hpA) ceA) ?_
    refine d_qac rfl rfl dC (by decide) rfl (want_let rfl rfl evA) (s_call rfl rfl Try.func14 kR kR evA ?_); refine (rmask_ok _ _).mono ?_; rintro _ _ ⟨rfl, rfl⟩; refine ⟨(fun _ _ h => h), ?_⟩
    refine d_pv rfl rfl dC rfl rfl (want_let rfl rfl evA) (p_val evA) ?_
    refine d_pv rfl rfl dC rfl rfl (want_let rfl rfl evA) (p_val evA) ?_
    refine d_pv rfl rfl dC rfl rfl (want_none rfl) (p_val evA) ?_
    refine d_pv rfl rfl dC rfl rfl (want_none rfl) (p_val evA) ?_
    refine d_nil ?_
    refine s_ret ⟨_, res_one rfl rfl, Heap.le_trans hle hle2, ?_⟩
    simp only [pval, ev, upd, binVal, intBin, Option.map_some, ↓reduceIte, reduceCtorEq, Nat.reduceEqDiff, Nat.reduceBEq, List.map_toArray, List.map_cons, List.map_nil, cond_true, cond_false, decide_true, decide_false, Bool.not_true, Bool.not_false, Bool.true_and, Bool.false_and, Bool.and_true, Bool.and_false, beq_self_eq_true, bne_self_eq_false, List.getElem_toArray, List.getElem_cons_succ, List.getElem_cons_zero, hand, Int.toNat_natCast]
    congr 1
    rw [Bool.eq_iff_iff]; simp; omega
  | false =>
    refine s_draw [(0, true), (1, true), (2, true), (3, true), (4, true), (5, true), (8, true), (9, true), (6, true), (7, true), (10, true), (11, true), (12, true)] [] [1] rfl kR kR ?_
    refine d_rd [_] rfl rfl dC rfl rfl (want_none rfl) (r_loadN (n := 2) rfl Try.underlying37 rfl evA (restr1 hpA) kR szA) ?_
    refine d_lac rfl rfl dC (by decide) rfl (want_none rfl) (s_call rfl rfl Try.func40 kR kR evA ?_); refine (rvalid_ok a n ha _).mono ?_; rintro _ h2 ⟨hle2, rfl⟩; rw [hok]; have hat2 := hle2 _ _ hat
    refine d_pv rfl rfl dC rfl rfl (want_none rfl) (p_val evA) ?_
    refine d_skp rfl rfl dC (want_not rfl rfl evA rfl) ?_
    refine d_skp rfl rfl dC (want_not rfl rfl evA rfl) ?_
    refine d_skp rfl rfl dC (want_not rfl rfl evA rfl) ?_
    refine d_skp rfl rfl dC (want_not rfl rfl evA rfl) ?_
    refine d_skp rfl rfl dC (want_not rfl rfl evA rfl) ?_
    refine d_skp rfl rfl dC (want_not rfl rfl evA rfl) ?_
    refine d_skp rfl rfl dC (want_not rfl rfl evA rfl) ?_
    refine d_skp rfl rfl dC (want_not rfl rfl evA rfl) ?_
    refine d_pv rfl rfl dC rfl rfl (want_none rfl) (p_val evA) ?_
    refine d_pv rfl rfl dC rfl rfl (want_none rfl) (p_val evA) ?_
    refine d_nil ?_
    refine s_ret ⟨_, res_one rfl rfl, Heap.le_trans hle hle2, ?_⟩
    simp only [pval, ev, upd, binVal, intBin, Option.map_some, ↓reduceIte, reduceCtorEq, Nat.reduceEqDiff, Nat.reduceBEq, List.map_toArray, List.map_cons, List.map_nil, cond_true, cond_false, decide_true, decide_false, Bool.not_true, Bool.not_false, Bool.true_and, Bool.false_and, Bool.and_true, Bool.and_false, beq_self_eq_true, bne_self_eq_false, List.getElem_toArray, List.getElem_cons_succ, List.getElem_cons_zero]
def mvBlk : Value → List Nat
  | .map (some b) => [b]
  | _ => []
theorem cnt_path {ps : Puts} {A i : Nat} (hok : ∀ x ∈ ps, x.1.1 < 4294967296 ∧ x.1.2 ≤ 32 ∧ cut x.1.1 x.1.2 = x.1.1) (hA : A < 4294967296) (hc : countOf ps ((A : Int), (i : Int)) ≠ 0) : i ≤ 32 ∧ cut A i = A ∧ numsOf ps (path A i) ≠ [] := by
  obtain ⟨x, hx, e⟩ := countOf_pos.1 hc
  have e1 : x.1.1 = A := by have := congrArg Prod.fst e; exact Int.ofNat.inj this
  have e2 : x.1.2 = i := by have := congrArg Prod.snd e; exact Int.ofNat.inj this
  have h := hok x hx
  rw [e1, e2] at h
  refine ⟨h.2.1, h.2.2, fun e3 => ?_⟩
  unfold numsOf at e3
  rw [List.map_eq_nil_iff, List.filter_eq_nil_iff] at e3
  have := e3 x hx
  rw [e1, e2] at this
  simp at this
theorem get_ok {h : Heap} {D : Nat → Prop} {p : Nat} {ps : Puts} (A : Nat) (n : Int) (t : TrieAt h D p ps) (hA : A < 4294967296) :
    SCalls Try.prog 19 #[.pointer (some ⟨p, 0, none⟩), pfxV A n] h (fun r h' => h.le h' ∧
      if countOf ps ((A : Int), n) = 0 then r = .tuple #[.slice none 0 0, .bool false] else ∃ v, r = .tuple #[v, .bool true] ∧ Own h' 3 1 v (numsOf ps (path A n.toNat)).length ((numsOf ps (path A n.toNat)).map (.int .i64)) ∧ ∀ b, blockOf v = some b → h b = none) := by
  refine s_enter Try.func19 rfl (by rw [Try.ntmps19]; simp) ?_
  rw [Try.ntmps19]
  generalize hT : T0 #[.pointer (some ⟨p, 0, none⟩), pfxV A n] = T
  have h0 : T 0 = .pointer (some ⟨p, 0, none⟩) := by rw [← hT]; rfl
  have h1 : T 1 = .agg #[.int .u32 A, .int .i64 n] := by rw [← hT]; rfl
  clear hT
  obtain ⟨S, l, th, cn, rfl⟩ := t.out
  have few := t.few
  have hok := t.ok
  clear t
  repeat refine s_seq ?_
  refine s_region ?_
  refine w_al rfl dC (want_none rfl) (a_boxN rfl evA) ?_
  intro b3 hb3
  refine w_pv rfl dC (want_none rfl) (p_val evA) ?_
  refine w_pv rfl dC (want_none rfl) (p_val evA) ?_
  refine w_nil ?_
  have hle := Heap.le_set (.cells #[.int .u32 A, .int .i64 n] 37 (0, 0)) hb3
  have hat := Heap.set_same h b3 (.cells #[.int .u32 A, .int .i64 n] 37 (0, 0))
  replace th := th.le hle
  have hnew : ∀ b, (h.set b3 (.cells #[.int .u32 A, .int .i64 n] 37 (0, 0))) b = none → h b = none := fun b e => by
    cases e1 : h b with
    | none => rfl
    | some o => rw [hle b o e1] at e; cases e
  change SCode _ _ _ _ _ (h.set b3 (.cells #[.int .u32 A, .int .i64 n] 37 (0, 0)))
  generalize (h.set b3 (.cells #[.int .u32 A, .int .i64 n] 37 (0, 0))) = hx at hle hat th hnew ⊢
  obtain ⟨full, ty, hp, h3, _, _, _, hm⟩ := th.node [] p th.root
  replace hm := hm rfl
  have hget : (getK l ((A : Int), n)).getD (.int .i64 0) = .int .i64 (countOf ps ((A : Int), n)) := by
    rw [cn.get]; split
    · rename_i h0; rw [h0]; rfl
    · rfl
  have hag : (Value.agg #[.int .u32 A, .int .i64 n]) = (fun k : Int × Int => pfxV k.1 k.2) ((A : Int), n) := rfl
  have hlook : ∀ {o : Oper} {ρ : Operand → Value} {m x : Operand} {hz : Heap}, o.op = .lookup 31 m x false → ρ m = S.mv → ρ x = .agg #[.int .u32 A, .int .i64 n] → (∀ b, S.mv = .map (some b) → hz b = hx b) → ReadOp Try.prog o ρ hz (.int .i64 (countOf ps ((A : Int), n))) := by
    intro o ρ m x hz ho hm' hx' hat'
    rcases th.map with ⟨hmv, hl⟩ | ⟨mb, hmv, hrole, him⟩
    · have : countOf ps ((A : Int), n) = 0 := by
        have := cn.get ((A : Int), n)
        rw [hl] at this
        by_cases e : countOf ps ((A : Int), n) = 0
        · exact e
        · rw [if_neg e] at this; cases this
      rw [this]
      have := r_lookup_nilZ (h := hz) (ok := false) (z := .int .i64 0) (k := ((A : Int), n)) pfx_key ho Try.underlying31 Try.underlying37 kR (hm'.trans hmv) (hx'.trans hag)
      simpa using this
    · exact r_lookupV pfx_key ho Try.underlying31 Try.underlying37 kR (hm'.trans hmv) (hx'.trans hag) (him.of (hat' mb hmv)) hget
  have hm' : full[0 + 3]? = some S.mv := hm
  have hcond : (((countOf ps ((A : Int), n) : Nat) : Int) == 0) = decide (countOf ps ((A : Int), n) = 0) := by
    rw [Bool.eq_iff_iff]; simp
  repeat refine s_seq ?_
  refine s_draw [(0, true), (1, true), (2, true), (3, true), (4, true), (5, true), (6, true)] [] [] rfl kR kR ?_
  refine d_pv rfl rfl dC rfl rfl (want_none rfl) (p_val evA) ?_
  refine d_rd0 rfl rfl dC rfl rfl (want_none rfl) (fun _ => PureOp.read (p_val evA) _) ?_
  refine d_pv rfl rfl dC rfl rfl (want_none rfl) (p_fieldAddr (k := 3) rfl evA kR) ?_
  refine d_rd [_] rfl rfl dC rfl rfl (want_none rfl) (r_load1 rfl Try.underlying31 rfl evA (restr1 hpA) ceA) ?_
  refine d_rd [_] rfl rfl dC rfl rfl (want_none rfl) (r_loadN (n := 2) rfl Try.underlying37 rfl evA (restr1 hpA) kR szA) ?_
  refine d_rd (mvBlk S.mv) rfl rfl dC rfl rfl (want_none rfl) (hlook rfl evA evA (fun b hb => by simp [mvBlk, hb])) ?_
  refine d_pv rfl rfl dC rfl rfl (want_none rfl) (p_val evA) ?_
  refine d_nil ?_
  by_cases hc0 : countOf ps ((A : Int), n) = 0
  · simp only [if_pos hc0]
    rw [decide_eq_true hc0] at hcond
    clear hc0
    repeat refine s_seq ?_
    refine s_cond (t := true) slA ?_
    repeat refine s_seq ?_
    refine s_region ?_
    refine w_pv rfl dC (want_none rfl) (p_val evA) ?_
    refine w_pv rfl dC (want_none rfl) (p_val evA) ?_
    refine w_nil ?_
    exact s_ret ⟨_, res_many (rs := [.tmp 4, .tmp 5]) rfl (by simp) (.cons rfl (.cons rfl .nil)), hle, rfl⟩
  · simp only [if_neg hc0]
    rw [decide_eq_false hc0] at hcond
    obtain ⟨i, rfl⟩ : ∃ i : Nat, n = (i : Int) := by
      obtain ⟨x, hx, e⟩ := countOf_pos.1 hc0
      exact ⟨x.1.2, (congrArg Prod.snd e).symm⟩
    obtain ⟨hi32, hcut, hne⟩ := cnt_path hok hA hc0
    simp only [Int.toNat_natCast]
    clear hc0 hget hlook hag hm hm' hp h3 ty hok cn
    have hlen := numsOf_len ps (path A i)
    have hpath : ∀ j, j ≤ i → ∃ b, S.A (path A j) = some b := fun j hj => by
      cases e : S.A (path A j) with
      | some b => exact ⟨b, rfl⟩
      | none => exact absurd (th.none_ _ (th.deep e i hj)) hne
    repeat refine s_seq ?_
    refine s_cond (t := false) slA ?_
    repeat refine s_seq ?_
    refine s_skip ?_
    repeat refine s_seq ?_
    refine s_region ?_
    refine w_pv rfl dC (want_none rfl) (p_val evA) ?_
    refine w_pv rfl dC (want_none rfl) (p_val evA) ?_
    refine w_pv rfl dC (want_none rfl) (p_fieldAddr (k := 0) rfl evA kR) ?_
    refine w_pv rfl dC (want_none rfl) (p_val evA) ?_
    refine w_nil ?_
    repeat refine s_seq ?_
    refine s_region ?_
    refine w_pv rfl dC (want_none rfl) (p_fieldAddr (k := 1) rfl evA kR) ?_
    refine w_rd rfl dC (want_none rfl) (r_load1 rfl Try.underlying3 rfl evA hpA ceA) ?_
    refine w_pv rfl dC (want_none rfl) (p_val evA) ?_
    refine w_nil ?_
    refine s_join (fun T h' => h' = hx ∧ ∃ b, S.A (path A i) = some b ∧ T 6 = .pointer (some ⟨b, 0, none⟩)) ?_ ?_
    · refine (s_block (s_loop (fun m T h' => ∃ j b : Nat, m = i - j ∧ j ≤ i ∧ h' = hx ∧ S.A (path A j) = some b ∧ T 3 = .pointer (some ⟨b3, 0, none⟩) ∧ T 6 = .pointer (some ⟨b, 0, none⟩) ∧ T 19 = .int .i64 (i : Nat) ∧ T 20 = .int .i64 (j : Nat)) (n0 := i)
        ⟨0, p, by omega, by omega, rfl, th.root, slA, by simp only [pval, ev, upd, binVal, intBin, Option.map_some, ↓reduceIte, reduceCtorEq, Nat.reduceEqDiff, Nat.reduceBEq, List.map_toArray, List.map_cons, List.map_nil, cond_true, cond_false, decide_true, decide_false, Bool.not_true, Bool.not_false, Bool.true_and, Bool.false_and, Bool.and_true, Bool.and_false, beq_self_eq_true, bne_self_eq_false, List.getElem_toArray, List.getElem_cons_succ, List.getElem_cons_zero, *] <;> rfl, by simp only [pval, ev, upd, binVal, intBin, Option.map_some, ↓reduceIte, reduceCtorEq, Nat.reduceEqDiff, Nat.reduceBEq, List.map_toArray, List.map_cons, List.map_nil, cond_true, cond_false, decide_true, decide_false, Bool.not_true, Bool.not_false, Bool.true_and, Bool.false_and, Bool.and_true, Bool.and_false, beq_self_eq_true, bne_self_eq_false, List.getElem_toArray, List.getElem_cons_succ, List.getElem_cons_zero, *] <;> rfl, by simp only [pval, ev, upd, binVal, intBin, Option.map_some, ↓reduceIte, reduceCtorEq, Nat.reduceEqDiff, Nat.reduceBEq, List.map_toArray, List.map_cons, List.map_nil, cond_true, cond_false, decide_true, decide_false, Bool.not_true, Bool.not_false, Bool.true_and, Bool.false_and, Bool.and_true, Bool.and_false, beq_self_eq_true, bne_self_eq_false, List.getElem_toArray, List.getElem_cons_succ, List.getElem_cons_zero, *] <;> rfl⟩ ?_))
      clear h0 h1 T
      rintro m T h' ⟨j, b, rfl, hj, rfl, hA', h3, h6, h19, h20⟩
      by_cases hlt : j < i
      · have e1 : decide ((j : Int) < (i : Int)) = true := decide_eq_true (by omega)
        have hw3 : IntKind.i64.wrap ((j : Int) + 1) = ((j + 1 : Nat) : Int) := wrap64_nat _ _ (by omega) (by omega)
        obtain ⟨xi, hxi⟩ : ∃ xi : Nat, xi = (if bitI A j then 1 else 0 : Nat) := ⟨_, rfl⟩
        have hxi' : (if bitI A j then 1 else 0 : Int) = ((xi : Nat) : Int) := by rw [hxi]; split <;> rfl
        have hxt : Int.toNat (xi : Int) = xi := by omega
        have hx2 : (xi : Int) < ((2 : Nat) : Int) := by rw [hxi]; split <;> decide
        have hx0 : (0 : Int) ≤ (xi : Int) := by omega
        obtain ⟨full, ty, hb, hsz, hf0, hf1, hf2, hf3⟩ := th.node _ _ hA'
        obtain ⟨c, hc⟩ := hpath (j + 1) (by omega)
        have hpn : path A j ++ [bitI A j] = path A (j + 1) := rfl
        have hfx : full[xi]? = some (ptrTo (S.A (path A (j + 1)))) := by
          rw [← hpn, hxi]
          cases hbit : bitI A j with
          | false => exact hf0
          | true => exact hf1
        rw [hc] at hfx
        have hfx' : full[0 + 0 + xi * 1]? = some (.pointer (some ⟨c, 0, none⟩)) := by simpa [ptrTo] using hfx
        have hj31 : j ≤ 31 := by omega
        clear hxi hfx
        repeat refine s_seq ?_
        refine s_region ?_
        refine w_pv rfl dC (want_none rfl) (p_val evA) ?_
        refine w_nil ?_
        repeat refine s_seq ?_
        refine s_cond (t := true) slA ?_
        repeat refine s_seq ?_
        refine s_skip ?_
        repeat refine s_seq ?_
        refine s_block ?_
        repeat refine s_seq ?_
        refine s_region ?_
        refine w_pv rfl dC (want_none rfl) (p_val evA) ?_
        refine w_pv rfl dC (want_none rfl) (p_val evA) ?_
        refine w_nil ?_
        repeat refine s_seq ?_
        refine s_draw [(0, true), (1, true), (2, true), (3, true), (5, true), (6, true), (4, true), (7, true), (8, true), (9, true)] [] [] rfl kR kR ?_
        refine d_pv rfl rfl dC rfl rfl (want_none rfl) (p_val evA) ?_
        refine d_pv rfl rfl dC rfl rfl (want_none rfl) (p_fieldAddr (k := 0) rfl evA kR) ?_
        refine d_rd [_] rfl rfl dC rfl rfl (want_none rfl) (r_load1 rfl Try.underlying23 rfl evA (restr1 hpA) ceA) ?_
        refine d_pv rfl rfl dC rfl rfl (want_none rfl) (p_val evA) ?_
        refine d_rd0 rfl rfl dC rfl rfl (want_none rfl) (fun _ => PureOp.read (p_val evA) _) ?_
        refine d_pv rfl rfl dC rfl rfl (want_none rfl) (p_fieldAddr (k := 0) rfl evA kR) ?_
        refine d_qac rfl rfl dC (by decide) rfl (want_none rfl) (s_call rfl rfl Try.func44 kR kR evA ?_); refine (bit_ok A j hA hj31 _).mono ?_; rintro _ h' ⟨rfl, rfl⟩; refine ⟨(fun _ _ h => h), ?_⟩; rw [hxi']
        refine d_pv rfl rfl dC rfl rfl (want_none rfl) (p_indexAddrA (sz := 1) rfl Try.underlying27 kR kR evA evA hx0 hx2) ?_
        refine d_rd [_] rfl rfl dC rfl rfl (want_none rfl) (r_load1 rfl Try.underlying26 rfl evA (restr1 hpA) ceA) ?_
        refine d_pv rfl rfl dC rfl rfl (want_none rfl) (p_val evA) ?_
        refine d_nil ?_
        repeat refine s_seq ?_
        refine s_region ?_
        refine w_pv rfl dC (want_none rfl) (p_val evA) ?_
        refine w_pv rfl dC (want_none rfl) (p_val evA) ?_
        refine w_nil ?_
        exact ⟨i - (j + 1), by omega, j + 1, c, rfl, by omega, rfl, hc, slA, slA, slA, slA⟩
      · have hji : j = i := by omega
        subst hji
        have e1 : decide ((j : Int) < (j : Int)) = false := decide_eq_false (by omega)
        repeat refine s_seq ?_
        refine s_region ?_
        refine w_pv rfl dC (want_none rfl) (p_val evA) ?_
        refine w_nil ?_
        repeat refine s_seq ?_
        refine s_cond (t := false) slA ?_
        repeat refine s_seq ?_
        refine s_exit ?_
        exact ⟨rfl, b, hA', slA⟩
    · clear h0 h1 T
      rintro T h' ⟨rfl, b, hA', h6⟩
      obtain ⟨full, ty, hb, hsz, hf0, hf1, hf2, hf3⟩ := th.node _ _ hA'
      have hown := th.rown _ _ hA'
      have hf2' : full[0 + 2]? = some (S.row (path A i)) := hf2
      repeat refine s_seq ?_
      refine s_region ?_
      refine w_pv rfl dC (want_none rfl) (p_val evA) ?_
      refine w_pv rfl dC (want_none rfl) (p_val evA) ?_
      refine w_pv rfl dC (want_none rfl) (p_fieldAddr (k := 2) rfl evA kR) ?_
      refine w_rd rfl dC (want_none rfl) (r_load1 rfl Try.underlying28 rfl evA hpA ceA) ?_
      refine w_ac rfl dC (want_none rfl) (s_call rfl rfl Try.func46 kR kR evA ?_); refine (cloneInts_ok hown.cells (by omega) (by simp [Value.oneCell'])).mono ?_; rintro vr h2 ⟨hle2, hown2, hnew2⟩
      refine w_pv rfl dC (want_none rfl) (p_val evA) ?_
      refine w_pv rfl dC (want_none rfl) (p_val evA) ?_
      refine w_nil ?_
      exact s_ret ⟨_, res_many (rs := [.tmp 4, .tmp 5]) rfl (by simp) (.cons rfl (.cons rfl .nil)), Heap.le_trans hle hle2, vr, rfl, hown2, fun b e => hnew b (hnew2 b e)⟩
end Go.Proofs.Ytielfejpnkcjbaa
