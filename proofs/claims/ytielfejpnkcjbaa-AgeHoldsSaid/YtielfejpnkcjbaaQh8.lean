import Derived.Test.YtielfejpnkcjbaaQh7
import Derived.Laws.MakeOwn
/- Valid, In, Get. -/
set_option linter.unusedVariables false
set_option linter.unusedSimpArgs false
namespace Go.Proofs.Ytielfejpnkcjbaa
open Sl
theorem rvalid_ok (A : Nat) (n : Int) (hA : A < 4294967296) (h : Heap) : SCalls Try.prog 40 #[pfxV A n] h (fun v h' => h.le h' ∧ v = .bool (okPfx A n)) := by
  refine s_enter Try.func40 rfl (by rw [Try.ntmps40]; simp) ?_
  rw [Try.ntmps40]
  generalize hT : T0 #[pfxV A n] = T
  have h0 : T 0 = .agg #[.int .u32 A, .int .i64 n] := by rw [← hT]; rfl
  clear hT
  repeat refine s_seq ?_
  refine s_region ?_
  refine w_al rfl dC (want_none rfl) (a_boxN rfl evA) ?_
  intro b1 hb1
  refine w_pv rfl dC (want_none rfl) (p_val evA) ?_
  refine w_nil ?_
  have hle := Heap.le_set (.cells #[.int .u32 A, .int .i64 n] 37) hb1
  refine s_seq ?_
  unfold okPfx
  by_cases hn : n ≥ 0
  · by_cases h32 : n ≤ 32
    · have e1 : decide (n ≥ 0) = true := decide_eq_true hn
      have e2 : decide (n ≤ 32) = true := decide_eq_true h32
      obtain ⟨i, rfl⟩ := Int.eq_ofNat_of_zero_le hn
      have hi : i ≤ 32 := by omega
      have hcl := clip_of i hi
      have hz := bv_andNot_zero A i hA hi
      generalize hG : (maskNat i : Int) = G at hz
      refine s_draw [(0, true), (1, true), (2, true), (3, true), (4, true), (5, true), (6, true), (7, true), (8, true), (9, true), (10, true), (11, true), (12, true), (13, true), (14, true), (15, true), (16, true), (17, true)] [] [] rfl kR kR ?_
      refine d_pv rfl rfl dC rfl rfl (want_none rfl) (p_fieldAddr (k := 1) rfl evA kR) ?_
      refine d_rd [_] rfl rfl dC rfl rfl (want_none rfl) (r_load1 rfl Try.underlying3 rfl evA (restr1 hpA) ceA) ?_
      refine d_pv rfl rfl dC rfl rfl (want_none rfl) (p_val evA) ?_
      refine d_pv rfl rfl dC rfl rfl (want_none rfl) (p_val evA) ?_
      refine d_pv rfl rfl dC rfl rfl (want_let rfl rfl evA) (p_fieldAddr (k := 1) rfl evA kR) ?_
      refine d_rd [_] rfl rfl dC rfl rfl (want_let rfl rfl evA) (r_load1 rfl Try.underlying3 rfl evA (restr1 hpA) ceA) ?_
      refine d_pv rfl rfl dC rfl rfl (want_let rfl rfl evA) (p_val evA) ?_
      refine d_pv rfl rfl dC rfl rfl (want_none rfl) (p_val evA) ?_
      refine d_pv rfl rfl dC rfl rfl (want_none rfl) (p_val evA) ?_
      refine d_pv rfl rfl dC rfl rfl (want_let rfl rfl evA) (p_fieldAddr (k := 0) rfl evA kR) ?_
      refine d_rd [_] rfl rfl dC rfl rfl (want_let rfl rfl evA) (r_load1 rfl Try.underlying23 rfl evA (restr1 hpA) ceA) ?_
      refine d_pv rfl rfl dC rfl rfl (want_let rfl rfl evA) (p_fieldAddr (k := 1) rfl evA kR) ?_
      refine d_rd [_] rfl rfl dC rfl rfl (want_let rfl rfl evA) (r_load1 rfl Try.underlying3 rfl evA (restr1 hpA) ceA) ?_
      refine d_qac rfl rfl dC (by decide) rfl (want_let rfl rfl evA) (s_call rfl rfl Try.func14 kR kR evA ?_); refine (rmask_ok _ _).mono ?_; rintro _ _ ⟨rfl, rfl⟩; refine ⟨(fun _ _ h => h), ?_⟩; rw [hcl, hG]
      refine d_pv rfl rfl dC rfl rfl (want_let rfl rfl evA) (p_val evA) ?_
      refine d_pv rfl rfl dC rfl rfl (want_let rfl rfl evA) (p_val evA) ?_
      refine d_pv rfl rfl dC rfl rfl (want_none rfl) (p_val evA) ?_
      refine d_pv rfl rfl dC rfl rfl (want_none rfl) (p_val evA) ?_
      refine d_nil ?_
      refine s_ret ⟨_, res_one rfl rfl, hle, ?_⟩
      simp only [pval, ev, upd, binVal, intBin, Option.map_some, ↓reduceIte, reduceCtorEq, Nat.reduceEqDiff, Nat.reduceBEq, List.map_toArray, List.map_cons, List.map_nil, cond_true, cond_false, decide_true, decide_false, Bool.not_true, Bool.not_false, Bool.true_and, Bool.false_and, Bool.and_true, Bool.and_false, beq_self_eq_true, bne_self_eq_false, List.getElem_toArray, List.getElem_cons_succ, List.getElem_cons_zero, hz, Int.toNat_natCast]
      simp; omega
    · have e1 : decide (n ≥ 0) = true := decide_eq_true hn
      have e2 : decide (n ≤ 32) = false := decide_eq_false h32
      refine s_draw [(0, true), (1, true), (2, true), (3, true), (4, true), (5, true), (6, true), (7, true), (8, true), (9, true), (10, true), (11, true), (12, true), (13, true), (14, true), (15, true), (16, true), (17, true)] [] [] rfl kR kR ?_
      refine d_pv rfl rfl dC rfl rfl (want_none rfl) (p_fieldAddr (k := 1) rfl evA kR) ?_
      refine d_rd [_] rfl rfl dC rfl rfl (want_none rfl) (r_load1 rfl Try.underlying3 rfl evA (restr1 hpA) ceA) ?_
      refine d_pv rfl rfl dC rfl rfl (want_none rfl) (p_val evA) ?_
      refine d_pv rfl rfl dC rfl rfl (want_none rfl) (p_val evA) ?_
      refine d_pv rfl rfl dC rfl rfl (want_let rfl rfl evA) (p_fieldAddr (k := 1) rfl evA kR) ?_
      refine d_rd [_] rfl rfl dC rfl rfl (want_let rfl rfl evA) (r_load1 rfl Try.underlying3 rfl evA (restr1 hpA) ceA) ?_
      refine d_pv rfl rfl dC rfl rfl (want_let rfl rfl evA) (p_val evA) ?_
      refine d_pv rfl rfl dC rfl rfl (want_none rfl) (p_val evA) ?_
      refine d_pv rfl rfl dC rfl rfl (want_none rfl) (p_val evA) ?_
      refine d_skp rfl rfl dC (want_not rfl rfl evA rfl) ?_
      refine d_skp rfl rfl dC (want_not rfl rfl evA rfl) ?_
      refine d_skp rfl rfl dC (want_not rfl rfl evA rfl) ?_
      refine d_skp rfl rfl dC (want_not rfl rfl evA rfl) ?_
      refine d_skp rfl rfl dC (want_not rfl rfl evA rfl) ?_
      refine d_skp rfl rfl dC (want_not rfl rfl evA rfl) ?_
      refine d_skp rfl rfl dC (want_not rfl rfl evA rfl) ?_
      refine d_pv rfl rfl dC rfl rfl (want_none rfl) (p_val evA) ?_
      refine d_pv rfl rfl dC rfl rfl (want_none rfl) (p_val evA) ?_
      refine d_nil ?_
      refine s_ret ⟨_, res_one rfl rfl, hle, ?_⟩
      simp only [pval, ev, upd, binVal, intBin, Option.map_some, ↓reduceIte, reduceCtorEq, Nat.reduceEqDiff, Nat.reduceBEq, List.map_toArray, List.map_cons, List.map_nil, cond_true, cond_false, decide_true, decide_false, Bool.not_true, Bool.not_false, Bool.true_and, Bool.false_and, Bool.and_true, Bool.and_false, beq_self_eq_true, bne_self_eq_false, List.getElem_toArray, List.getElem_cons_succ, List.getElem_cons_zero, e1, e2, Bool.true_and, Bool.false_and]
      simp [h32]
  · have e1 : decide (n ≥ 0) = false := decide_eq_false hn
    refine s_draw [(0, true), (1, true), (2, true), (3, true), (4, true), (5, true), (6, true), (7, true), (8, true), (9, true), (10, true), (11, true), (12, true), (13, true), (14, true), (15, true), (16, true), (17, true)] [] [] rfl kR kR ?_
    refine d_pv rfl rfl dC rfl rfl (want_none rfl) (p_fieldAddr (k := 1) rfl evA kR) ?_
    refine d_rd [_] rfl rfl dC rfl rfl (want_none rfl) (r_load1 rfl Try.underlying3 rfl evA (restr1 hpA) ceA) ?_
    refine d_pv rfl rfl dC rfl rfl (want_none rfl) (p_val evA) ?_
    refine d_pv rfl rfl dC rfl rfl (want_none rfl) (p_val evA) ?_
    refine d_skp rfl rfl dC (want_not rfl rfl evA rfl) ?_
    refine d_skp rfl rfl dC (want_not rfl rfl evA rfl) ?_
    refine d_skp rfl rfl dC (want_not rfl rfl evA rfl) ?_
    refine d_pv rfl rfl dC rfl rfl (want_none rfl) (p_val evA) ?_
    refine d_pv rfl rfl dC rfl rfl (want_none rfl) (p_val evA) ?_
    refine d_skp rfl rfl dC (want_not rfl rfl evA rfl) ?_
    refine d_skp rfl rfl dC (want_not rfl rfl evA rfl) ?_
    refine d_skp rfl rfl dC (want_not rfl rfl evA rfl) ?_
    refine d_skp rfl rfl dC (want_not rfl rfl evA rfl) ?_
    refine d_skp rfl rfl dC (want_not rfl rfl evA rfl) ?_
    refine d_skp rfl rfl dC (want_not rfl rfl evA rfl) ?_
    refine d_skp rfl rfl dC (want_not rfl rfl evA rfl) ?_
    refine d_pv rfl rfl dC rfl rfl (want_none rfl) (p_val evA) ?_
    refine d_pv rfl rfl dC rfl rfl (want_none rfl) (p_val evA) ?_
    refine d_nil ?_
    refine s_ret ⟨_, res_one rfl rfl, hle, ?_⟩
    simp only [pval, ev, upd, binVal, intBin, Option.map_some, ↓reduceIte, reduceCtorEq, Nat.reduceEqDiff, Nat.reduceBEq, List.map_toArray, List.map_cons, List.map_nil, cond_true, cond_false, decide_true, decide_false, Bool.not_true, Bool.not_false, Bool.true_and, Bool.false_and, Bool.and_true, Bool.and_false, beq_self_eq_true, bne_self_eq_false, List.getElem_toArray, List.getElem_cons_succ, List.getElem_cons_zero, e1, Bool.false_and]
    simp; omega
/-- Whether an address begins as a prefix. -/
def inPfx (a : Nat) (n : Int) (A : Nat) : Bool := okPfx a n && decide (cut A n.toNat = a)
theorem in_ok (a : Nat) (n : Int) (A : Nat) (ha : a < 4294967296) (hA : A < 4294967296) (h : Heap) : SCalls Try.prog 18 #[pfxV a n, .int .u32 A] h (fun v h' => h.le h' ∧ v = .bool (inPfx a n A)) := by
  refine s_enter Try.func18 rfl (by rw [Try.ntmps18]; simp) ?_
  rw [Try.ntmps18]
  generalize hT : T0 #[pfxV a n, .int .u32 A] = T
  have h0 : T 0 = .agg #[.int .u32 a, .int .i64 n] := by rw [← hT]; rfl
  have h1 : T 1 = .int .u32 A := by rw [← hT]; rfl
  clear hT
  repeat refine s_seq ?_
  refine s_region ?_
  refine w_al rfl dC (want_none rfl) (a_boxN rfl evA) ?_
  intro b2 hb2
  refine w_pv rfl dC (want_none rfl) (p_val evA) ?_
  refine w_nil ?_
  have hle := Heap.le_set (.cells #[.int .u32 a, .int .i64 n] 37) hb2
  have hat := Heap.set_same h b2 (.cells #[.int .u32 a, .int .i64 n] 37)
  refine s_seq ?_
  unfold inPfx
  cases hok : okPfx a n with
  | true =>
    obtain ⟨hn0, hn32, hcut⟩ := of_decide_eq_true hok
    obtain ⟨i, rfl⟩ := Int.eq_ofNat_of_zero_le hn0
    have hi : i ≤ 32 := by omega
    have hand : IntKind.u32.wrap ((BitVec.ofInt IntKind.u32.bits (A : Int) &&& BitVec.ofInt IntKind.u32.bits (((maskNat (clip ((i : Nat) : Int)) : Nat) : Int))).toNat : Int) = ((cut A i : Nat) : Int) := by
      rw [clip_of i hi, bv_and A _ hA (maskNat_lt i)]; rfl
    refine s_draw [(0, true), (1, true), (2, true), (3, true), (4, true), (5, true), (8, true), (9, true), (6, true), (7, true), (10, true), (11, true), (12, true)] [] [1] rfl kR kR ?_
    refine d_rd [_] rfl rfl dC rfl rfl (want_none rfl) (r_loadN (n := 2) rfl Try.underlying37 rfl evA (restr1 hpA) kR szA) ?_
    refine d_lac rfl rfl dC (by decide) rfl (want_none rfl) (s_call rfl rfl Try.func40 kR kR evA ?_); refine (rvalid_ok a (i : Nat) ha _).mono ?_; rintro _ h2 ⟨hle2, rfl⟩; rw [hok]; have hat2 := hle2 _ _ hat
    refine d_pv rfl rfl dC rfl rfl (want_none rfl) (p_val evA) ?_
    refine d_pv rfl rfl dC rfl rfl (want_let rfl rfl evA) (p_val evA) ?_
    refine d_pv rfl rfl dC rfl rfl (want_let rfl rfl evA) (p_fieldAddr (k := 1) rfl evA kR) ?_
    refine d_rd [_] rfl rfl dC rfl rfl (want_let rfl rfl evA) (r_load1 rfl Try.underlying3 rfl evA (restr1 hpA) ceA) ?_
    refine d_pv rfl rfl dC rfl rfl (want_let rfl rfl evA) (p_fieldAddr (k := 0) rfl evA kR) ?_
    refine d_rd [_] rfl rfl dC rfl rfl (want_let rfl rfl evA) (r_load1 rfl Try.underlying23 rfl evA (restr1 hpA) ceA) ?_
    refine d_qac rfl rfl dC (by decide) rfl (want_let rfl rfl evA) (s_call rfl rfl Try.func14 kR kR evA ?_); refine (rmask_ok _ _).mono ?_; rintro _ _ ⟨rfl, rfl⟩; refine ⟨(fun _ _ h => h), ?_⟩
    refine d_pv rfl rfl dC rfl rfl (want_let rfl rfl evA) (p_val evA) ?_
    refine d_pv rfl rfl dC rfl rfl (want_let rfl rfl evA) (p_val evA) ?_
    refine d_pv rfl rfl dC rfl rfl (want_none rfl) (p_val evA) ?_
    refine d_pv rfl rfl dC rfl rfl (want_none rfl) (p_val evA) ?_
    refine d_nil ?_
    refine s_ret ⟨_, res_one rfl rfl, Heap.le_trans hle hle2, ?_⟩
    simp only [pval, ev, upd, binVal, intBin, Option.map_some, ↓reduceIte, reduceCtorEq, Nat.reduceEqDiff, Nat.reduceBEq, List.map_toArray, List.map_cons, List.map_nil, cond_true, cond_false, decide_true, decide_false, Bool.not_true, Bool.not_false, Bool.true_and, Bool.false_and, Bool.and_true, Bool.and_false, beq_self_eq_true, bne_self_eq_false, List.getElem_toArray, List.getElem_cons_succ, List.getElem_cons_zero, hand, Int.toNat_natCast]
    congr 1
    rw [Bool.eq_iff_iff]; simp; omega
  | false =>
    refine s_draw [(0, true), (1, true), (2, true), (3, true), (4, true), (5, true), (8, true), (9, true), (6, true), (7, true), (10, true), (11, true), (12, true)] [] [1] rfl kR kR ?_
    refine d_rd [_] rfl rfl dC rfl rfl (want_none rfl) (r_loadN (n := 2) rfl Try.underlying37 rfl evA (restr1 hpA) kR szA) ?_
    refine d_lac rfl rfl dC (by decide) rfl (want_none rfl) (s_call rfl rfl Try.func40 kR kR evA ?_); refine (rvalid_ok a n ha _).mono ?_; rintro _ h2 ⟨hle2, rfl⟩; rw [hok]; have hat2 := hle2 _ _ hat
    refine d_pv rfl rfl dC rfl rfl (want_none rfl) (p_val evA) ?_
    refine d_skp rfl rfl dC (want_not rfl rfl evA rfl) ?_
    refine d_skp rfl rfl dC (want_not rfl rfl evA rfl) ?_
    refine d_skp rfl rfl dC (want_not rfl rfl evA rfl) ?_
    refine d_skp rfl rfl dC (want_not rfl rfl evA rfl) ?_
    refine d_skp rfl rfl dC (want_not rfl rfl evA rfl) ?_
    refine d_skp rfl rfl dC (want_not rfl rfl evA rfl) ?_
    refine d_skp rfl rfl dC (want_not rfl rfl evA rfl) ?_
    refine d_skp rfl rfl dC (want_not rfl rfl evA rfl) ?_
    refine d_pv rfl rfl dC rfl rfl (want_none rfl) (p_val evA) ?_
    refine d_pv rfl rfl dC rfl rfl (want_none rfl) (p_val evA) ?_
    refine d_nil ?_
    refine s_ret ⟨_, res_one rfl rfl, Heap.le_trans hle hle2, ?_⟩
    simp only [pval, ev, upd, binVal, intBin, Option.map_some, ↓reduceIte, reduceCtorEq, Nat.reduceEqDiff, Nat.reduceBEq, List.map_toArray, List.map_cons, List.map_nil, cond_true, cond_false, decide_true, decide_false, Bool.not_true, Bool.not_false, Bool.true_and, Bool.false_and, Bool.and_true, Bool.and_false, beq_self_eq_true, bne_self_eq_false, List.getElem_toArray, List.getElem_cons_succ, List.getElem_cons_zero]
def mvBlk : Value → List Nat
  | .map (some b) => [b]
  | _ => []
theorem cnt_path {ps : Puts} {A i : Nat} (hok : ∀ x ∈ ps, x.1.1 < 4294967296 ∧ x.1.2 ≤ 32 ∧ cut x.1.1 x.1.2 = x.1.1) (hA : A < 4294967296) (hc : countOf ps ((A : Int), (i : Int)) ≠ 0) : i ≤ 32 ∧ cut A i = A ∧ numsOf ps (path A i) ≠ [] := by
  obtain ⟨x, hx, e⟩ := countOf_pos.1 hc
  have e1 : x.1.1 = A := by have := congrArg Prod.fst e; exact Int.ofNat.inj this
  have e2 : x.1.2 = i := by have := congrArg Prod.snd e; exact Int.ofNat.inj this
  have h := hok x hx
  rw [e1, e2] at h
  refine ⟨h.2.1, h.2.2, fun e3 => ?_⟩
  unfold numsOf at e3
  rw [List.map_eq_nil_iff, List.filter_eq_nil_iff] at e3
  have := e3 x hx
  rw [e1, e2] at this
  simp at this
theorem get_ok {h : Heap} {D : Nat → Prop} {p : Nat} {ps : Puts} (A : Nat) (n : Int) (t : TrieAt h D p ps) (hA : A < 4294967296) :
    SCalls Try.prog 19 #[.pointer (some ⟨p, 0, none⟩), pfxV A n] h (fun r h' => h.le h' ∧
      if countOf ps ((A : Int), n) = 0 then r = .tuple #[.slice none 0 0, .bool false] else ∃ v, r = .tuple #[v, .bool true] ∧ Own h' 3 1 v (numsOf ps (path A n.toNat)).length ((numsOf ps (path A n.toNat)).map (.int .i64)) ∧ ∀ b, blockOf v = some b → h b = none) := by
  refine s_enter Try.func19 rfl (by rw [Try.ntmps19]; simp) ?_
  rw [Try.ntmps19]
  generalize hT : T0 #[.pointer (some ⟨p, 0, none⟩), pfxV A n] = T
  have h0 : T 0 = .pointer (some ⟨p, 0, none⟩) := by rw [← hT]; rfl
  have h1 : T 1 = .agg #[.int .u32 A, .int .i64 n] := by rw [← hT]; rfl
  clear hT
  obtain ⟨S, l, th, cn, rfl⟩ := t.out
  have few := t.few
  have hok := t.ok
  clear t
  repeat refine s_seq ?_
  refine s_region ?_
  refine w_al rfl dC (want_none rfl) (a_boxN rfl evA) ?_
  intro b3 hb3
  refine w_pv rfl dC (want_none rfl) (p_val evA) ?_
  refine w_pv rfl dC (want_none rfl) (p_val evA) ?_
  refine w_nil ?_
  have hle := Heap.le_set (.cells #[.int .u32 A, .int .i64 n] 37 (0, 0)) hb3
  have hat := Heap.set_same h b3 (.cells #[.int .u32 A, .int .i64 n] 37 (0, 0))
  replace th := th.le hle
  have hnew : ∀ b, (h.set b3 (.cells #[.int .u32 A, .int .i64 n] 37 (0, 0))) b = none → h b = none := fun b e => by
    cases e1 : h b with
    | none => rfl
    | some o => rw [hle b o e1] at e; cases e
  change SCode _ _ _ _ _ (h.set b3 (.cells #[.int .u32 A, .int .i64 n] 37 (0, 0)))
  generalize (h.set b3 (.cells #[.int .u32 A, .int .i64 n] 37 (0, 0))) = hx at hle hat th hnew ⊢
  obtain ⟨full, ty, hp, h3, _, _, _, hm⟩ := th.node [] p th.root
  replace hm := hm rfl
  have hget : (getK l ((A : Int), n)).getD (.int .i64 0) = .int .i64 (countOf ps ((A : Int), n)) := by
    rw [cn.get]; split
    · rename_i h0; rw [h0]; rfl
    · rfl
  have hag : (Value.agg #[.int .u32 A, .int .i64 n]) = (fun k : Int × Int => pfxV k.1 k.2) ((A : Int), n) := rfl
  have hlook : ∀ {o : Oper} {ρ : Operand → Value} {m x : Operand} {hz : Heap}, o.op = .lookup 31 m x false → ρ m = S.mv → ρ x = .agg #[.int .u32 A, .int .i64 n] → (∀ b, S.mv = .map (some b) → hz b = hx b) → ReadOp Try.prog o ρ hz (.int .i64 (countOf ps ((A : Int), n))) := by
    intro o ρ m x hz ho hm' hx' hat'
    rcases th.map with ⟨hmv, hl⟩ | ⟨mb, hmv, hrole, him⟩
    · have : countOf ps ((A : Int), n) = 0 := by
        have := cn.get ((A : Int), n)
        rw [hl] at this
        by_cases e : countOf ps ((A : Int), n) = 0
        · exact e
        · rw [if_neg e] at this; cases this
      rw [this]
      have := r_lookup_nilZ (h := hz) (ok := false) (z := .int .i64 0) (k := ((A : Int), n)) pfx_key ho Try.underlying31 Try.underlying37 kR (hm'.trans hmv) (hx'.trans hag)
      simpa using this
    · exact r_lookupV pfx_key ho Try.underlying31 Try.underlying37 kR (hm'.trans hmv) (hx'.trans hag) (him.of (hat' mb hmv)) hget
  have hm' : full[0 + 3]? = some S.mv := hm
  have hcond : (((countOf ps ((A : Int), n) : Nat) : Int) == 0) = decide (countOf ps ((A : Int), n) = 0) := by
    rw [Bool.eq_iff_iff]; simp
  repeat refine s_seq ?_
  refine s_draw [(0, true), (1, true), (2, true), (3, true), (4, true), (5, true), (6, true)] [] [] rfl kR kR ?_
  refine d_pv rfl rfl dC rfl rfl (want_none rfl) (p_val evA) ?_
  refine d_rd0 rfl rfl dC rfl rfl (want_none rfl) (fun _ => PureOp.read (p_val evA) _) ?_
  refine d_pv rfl rfl dC rfl rfl (want_none rfl) (p_fieldAddr (k := 3) rfl evA kR) ?_
  refine d_rd [_] rfl rfl dC rfl rfl (want_none rfl) (r_load1 rfl Try.underlying31 rfl evA (restr1 hpA) ceA) ?_
  refine d_rd [_] rfl rfl dC rfl rfl (want_none rfl) (r_loadN (n := 2) rfl Try.underlying37 rfl evA (restr1 hpA) kR szA) ?_
  refine d_rd (mvBlk S.mv) rfl rfl dC rfl rfl (want_none rfl) (hlook rfl evA evA (fun b hb => by simp [mvBlk, hb])) ?_
  refine d_pv rfl rfl dC rfl rfl (want_none rfl) (p_val evA) ?_
  refine d_nil ?_
  by_cases hc0 : countOf ps ((A : Int), n) = 0
  · simp only [if_pos hc0]
    rw [decide_eq_true hc0] at hcond
    clear hc0
    repeat refine s_seq ?_
    refine s_cond (t := true) slA ?_
    repeat refine s_seq ?_
    refine s_region ?_
    refine w_pv rfl dC (want_none rfl) (p_val evA) ?_
    refine w_pv rfl dC (want_none rfl) (p_val evA) ?_
    refine w_nil ?_
    exact s_ret ⟨_, res_many (rs := [.tmp 4, .tmp 5]) rfl (by simp) (.cons rfl (.cons rfl .nil)), hle, rfl⟩
  · simp only [if_neg hc0]
    rw [decide_eq_false hc0] at hcond
    obtain ⟨i, rfl⟩ : ∃ i : Nat, n = (i : Int) := by
      obtain ⟨x, hx, e⟩ := countOf_pos.1 hc0
      exact ⟨x.1.2, (congrArg Prod.snd e).symm⟩
    obtain ⟨hi32, hcut, hne⟩ := cnt_path hok hA hc0
    simp only [Int.toNat_natCast]
    clear hc0 hget hlook hag hm hm' hp h3 ty hok cn
    have hlen := numsOf_len ps (path A i)
    have hpath : ∀ j, j ≤ i → ∃ b, S.A (path A j) = some b := fun j hj => by
      cases e : S.A (path A j) with
      | some b => exact ⟨b, rfl⟩
      | none => exact absurd (th.none_ _ (th.deep e i hj)) hne
    repeat refine s_seq ?_
    refine s_cond (t := false) slA ?_
    repeat refine s_seq ?_
    refine s_skip ?_
    repeat refine s_seq ?_
    refine s_region ?_
    refine w_pv rfl dC (want_none rfl) (p_val evA) ?_
    refine w_pv rfl dC (want_none rfl) (p_val evA) ?_
    refine w_pv rfl dC (want_none rfl) (p_fieldAddr (k := 0) rfl evA kR) ?_
    refine w_pv rfl dC (want_none rfl) (p_val evA) ?_
    refine w_nil ?_
    repeat refine s_seq ?_
    refine s_region ?_
    refine w_pv rfl dC (want_none rfl) (p_fieldAddr (k := 1) rfl evA kR) ?_
    refine w_rd rfl dC (want_none rfl) (r_load1 rfl Try.underlying3 rfl evA hpA ceA) ?_
    refine w_pv rfl dC (want_none rfl) (p_val evA) ?_
    refine w_nil ?_
    refine s_join (fun T h' => h' = hx ∧ ∃ b, S.A (path A i) = some b ∧ T 6 = .pointer (some ⟨b, 0, none⟩)) ?_ ?_
    · refine (s_block (s_loop (fun m T h' => ∃ j b : Nat, m = i - j ∧ j ≤ i ∧ h' = hx ∧ S.A (path A j) = some b ∧ T 3 = .pointer (some ⟨b3, 0, none⟩) ∧ T 6 = .pointer (some ⟨b, 0, none⟩) ∧ T 19 = .int .i64 (i : Nat) ∧ T 20 = .int .i64 (j : Nat)) (n0 := i)
        ⟨0, p, by omega, by omega, rfl, th.root, slA, by simp only [pval, ev, upd, binVal, intBin, Option.map_some, ↓reduceIte, reduceCtorEq, Nat.reduceEqDiff, Nat.reduceBEq, List.map_toArray, List.map_cons, List.map_nil, cond_true, cond_false, decide_true, decide_false, Bool.not_true, Bool.not_false, Bool.true_and, Bool.false_and, Bool.and_true, Bool.and_false, beq_self_eq_true, bne_self_eq_false, List.getElem_toArray, List.getElem_cons_succ, List.getElem_cons_zero, *] <;> rfl, by simp only [pval, ev, upd, binVal, intBin, Option.map_some, ↓reduceIte, reduceCtorEq, Nat.reduceEqDiff, Nat.reduceBEq, List.map_toArray, List.map_cons, List.map_nil, cond_true, cond_false, decide_true, decide_false, Bool.not_true, Bool.not_false, Bool.true_and, Bool.false_and, Bool.and_true, Bool.and_false, beq_self_eq_true, bne_self_eq_false, List.getElem_toArray, List.getElem_cons_succ, List.getElem_cons_zero, *] <;> rfl, by simp only [pval, ev, upd, binVal, intBin, Option.map_some, ↓reduceIte, reduceCtorEq, Nat.reduceEqDiff, Nat.reduceBEq, List.map_toArray, List.map_cons, List.map_nil, cond_true, cond_false, decide_true, decide_false, Bool.not_true, Bool.not_false, Bool.true_and, Bool.false_and, Bool.and_true, Bool.and_false, beq_self_eq_true, bne_self_eq_false, List.getElem_toArray, List.getElem_cons_succ, List.getElem_cons_zero, *] <;> rfl⟩ ?_))
      clear h0 h1 T
      rintro m T h' ⟨j, b, rfl, hj, rfl, hA', h3, h6, h19, h20⟩
      by_cases hlt : j < i
      · have e1 : decide ((j : Int) < (i : Int)) = true := decide_eq_true (by omega)
        have hw3 : IntKind.i64.wrap ((j : Int) + 1) = ((j + 1 : Nat) : Int) := wrap64_nat _ _ (by omega) (by omega)
        obtain ⟨xi, hxi⟩ : ∃ xi : Nat, xi = (if bitI A j then 1 else 0 : Nat) := ⟨_, rfl⟩
        have hxi' : (if bitI A j then 1 else 0 : Int) = ((xi : Nat) : Int) := by rw [hxi]; split <;> rfl
        have hxt : Int.toNat (xi : Int) = xi := by omega
        have hx2 : (xi : Int) < ((2 : Nat) : Int) := by rw [hxi]; split <;> decide
        have hx0 : (0 : Int) ≤ (xi : Int) := by omega
        obtain ⟨full, ty, hb, hsz, hf0, hf1, hf2, hf3⟩ := th.node _ _ hA'
        obtain ⟨c, hc⟩ := hpath (j + 1) (by omega)
        have hpn : path A j ++ [bitI A j] = path A (j + 1) := rfl
        have hfx : full[xi]? = some (ptrTo (S.A (path A (j + 1)))) := by
          rw [← hpn, hxi]
          cases hbit : bitI A j with
          | false => exact hf0
          | true => exact hf1
        rw [hc] at hfx
        have hfx' : full[0 + 0 + xi * 1]? = some (.pointer (some ⟨c, 0, none⟩)) := by simpa [ptrTo] using hfx
        have hj31 : j ≤ 31 := by omega
        clear hxi hfx
        repeat refine s_seq ?_
        refine s_region ?_
        refine w_pv rfl dC (want_none rfl) (p_val evA) ?_
        refine w_nil ?_
        repeat refine s_seq ?_
        refine s_cond (t := true) slA ?_
        repeat refine s_seq ?_
        refine s_skip ?_
        repeat refine s_seq ?_
        refine s_block ?_
        repeat refine s_seq ?_
        refine s_region ?_
        refine w_pv rfl dC (want_none rfl) (p_val evA) ?_
        refine w_pv rfl dC (want_none rfl) (p_val evA) ?_
        refine w_nil ?_
        repeat refine s_seq ?_
        refine s_draw [(0, true), (1, true), (2, true), (3, true), (5, true), (6, true), (4, true), (7, true), (8, true), (9, true)] [] [] rfl kR kR ?_
        refine d_pv rfl rfl dC rfl rfl (want_none rfl) (p_val evA) ?_
        refine d_pv rfl rfl dC rfl rfl (want_none rfl) (p_fieldAddr (k := 0) rfl evA kR) ?_
        refine d_rd [_] rfl rfl dC rfl rfl (want_none rfl) (r_load1 rfl Try.underlying23 rfl evA (restr1 hpA) ceA) ?_
        refine d_pv rfl rfl dC rfl rfl (want_none rfl) (p_val evA) ?_
        refine d_rd0 rfl rfl dC rfl rfl (want_none rfl) (fun _ => PureOp.read (p_val evA) _) ?_
        refine d_pv rfl rfl dC rfl rfl (want_none rfl) (p_fieldAddr (k := 0) rfl evA kR) ?_
        refine d_qac rfl rfl dC (by decide) rfl (want_none rfl) (s_call rfl rfl Try.func44 kR kR evA ?_); refine (bit_ok A j hA hj31 _).mono ?_; rintro _ h' ⟨rfl, rfl⟩; refine ⟨(fun _ _ h => h), ?_⟩; rw [hxi']
        refine d_pv rfl rfl dC rfl rfl (want_none rfl) (p_indexAddrA (sz := 1) rfl Try.underlying27 kR kR evA evA hx0 hx2) ?_
        refine d_rd [_] rfl rfl dC rfl rfl (want_none rfl) (r_load1 rfl Try.underlying26 rfl evA (restr1 hpA) ceA) ?_
        refine d_pv rfl rfl dC rfl rfl (want_none rfl) (p_val evA) ?_
        refine d_nil ?_
        repeat refine s_seq ?_
        refine s_region ?_
        refine w_pv rfl dC (want_none rfl) (p_val evA) ?_
        refine w_pv rfl dC (want_none rfl) (p_val evA) ?_
        refine w_nil ?_
        exact ⟨i - (j + 1), by omega, j + 1, c, rfl, by omega, rfl, hc, slA, slA, slA, slA⟩
      · have hji : j = i := by omega
        subst hji
        have e1 : decide ((j : Int) < (j : Int)) = false := decide_eq_false (by omega)
        repeat refine s_seq ?_
        refine s_region ?_
        refine w_pv rfl dC (want_none rfl) (p_val evA) ?_
        refine w_nil ?_
        repeat refine s_seq ?_
        refine s_cond (t := false) slA ?_
        repeat refine s_seq ?_
        refine s_exit ?_
        exact ⟨rfl, b, hA', slA⟩
    · clear h0 h1 T
      rintro T h' ⟨rfl, b, hA', h6⟩
      obtain ⟨full, ty, hb, hsz, hf0, hf1, hf2, hf3⟩ := th.node _ _ hA'
      have hown := th.rown _ _ hA'
      have hf2' : full[0 + 2]? = some (S.row (path A i)) := hf2
      repeat refine s_seq ?_
      refine s_region ?_
      refine w_pv rfl dC (want_none rfl) (p_val evA) ?_
      refine w_pv rfl dC (want_none rfl) (p_val evA) ?_
      refine w_pv rfl dC (want_none rfl) (p_fieldAddr (k := 2) rfl evA kR) ?_
      refine w_rd rfl dC (want_none rfl) (r_load1 rfl Try.underlying28 rfl evA hpA ceA) ?_
      refine w_ac rfl dC (want_none rfl) (s_call rfl rfl Try.func46 kR kR evA ?_); refine (cloneInts_ok hown.cells (by omega) (by simp [Value.oneCell'])).mono ?_; rintro vr h2 ⟨hle2, hown2, hnew2⟩
      refine w_pv rfl dC (want_none rfl) (p_val evA) ?_
      refine w_pv rfl dC (want_none rfl) (p_val evA) ?_
      refine w_nil ?_
      exact s_ret ⟨_, res_many (rs := [.tmp 4, .tmp 5]) rfl (by simp) (.cons rfl (.cons rfl .nil)), Heap.le_trans hle hle2, vr, rfl, hown2, fun b e => hnew b (hnew2 b e)⟩
end Go.Proofs.Ytielfejpnkcjbaa

/- Hear, Len. -/
set_option linter.unusedVariables false
set_option linter.unusedSimpArgs false
namespace Go.Proofs.Ytielfejpnkcjbaa
open Sl
def putT (ts : List AT) (k : ThK) (m : MsgA) : List AT := if ts.any (fun x => decide (x.key = k)) then ts.map (fun x => if x.key = k then ⟨k, 0, m⟩ else x) else ts ++ [⟨k, 0, m⟩]
def kvR (r : Rc) : ThK × Value := (r.key, entV r.key r.age r.msg r.sv)
theorem rebirth : ∀ (n : List (Ey ThK)) (rs : List Rc), n.map unE = rs.map kvR → ∃ rs' : List Rc, rs'.map Rc.ey = n ∧ rs'.map Rc.t = rs.map Rc.t ∧ ∀ r' ∈ rs', ∃ r ∈ rs, ∃ β, r' = { r with born := β }
  | [], [], _ => ⟨[], rfl, rfl, by simp⟩
  | e :: n, [], h => by simp at h
  | [], r :: rs, h => by simp at h
  | e :: n, r :: rs, h => by
    simp only [List.map_cons, List.cons.injEq] at h
    obtain ⟨rs', h1, h2, h3⟩ := rebirth n rs h.2
    obtain ⟨ek, ev, eb⟩ := e
    have hk : ek = r.key := congrArg Prod.fst h.1
    have hv : ev = entV r.key r.age r.msg r.sv := congrArg Prod.snd h.1
    subst hk hv
    refine ⟨{ r with born := eb } :: rs', by simp [h1, Rc.ey], by simp [h2, Rc.t], fun r' hr' => ?_⟩
    rcases List.mem_cons.1 hr' with rfl | hr'
    · exact ⟨r, by simp, eb, rfl⟩
    · obtain ⟨x, hx, β, hβ⟩ := h3 r' hr'
      exact ⟨x, by simp [hx], β, hβ⟩
theorem kv_ey (rs : List Rc) : (rs.map Rc.ey).map unE = rs.map kvR := by rw [List.map_map]; rfl
theorem TableAt.of_map {h : Heap} {D : Nat → Prop} {p mb : Nat} {ty : TypeId} {rs : List Rc} (hp : h p = some (.cells #[.map (some mb)] ty (0, 0))) (hD : D p) (hDm : D mb) (im : IsMap h mb thV (rs.map kvR)) (k1 : Keys1 (rs.map kvR)) (hr : ∀ r ∈ rs, RowD h D r) (dom : ∀ b, D b → h b ≠ none) : TableAt h D p (rs.map Rc.t) := by
  obtain ⟨n, cl, h1, h2⟩ := im.named k1
  obtain ⟨rs', e1, e2, e3⟩ := rebirth n rs h1
  refine ⟨⟨_, ty, hp, hD, .inr ⟨mb, rs', cl, rfl, hDm, by rw [e1]; exact h2, e2.symm, fun r' hr' => ?_⟩⟩, dom⟩
  obtain ⟨r, hr2, β, rfl⟩ := e3 r' hr'
  have x := hr r hr2
  exact ⟨x.cells, x.blk, x.len, x.one, x.age0, x.age3⟩
theorem put_kv (rs : List Rc) (k : ThK) (m : MsgA) (sv : Value) : putK (rs.map kvR) k (entV k 0 m sv) = (if rs.any (fun x => decide (x.key = k)) then rs.map (fun x => if x.key = k then ⟨k, 0, m, sv, x.born⟩ else x) else rs ++ [⟨k, 0, m, sv, 0⟩]).map kvR := by
  have hh : hasK (rs.map kvR) k = rs.any (fun x => decide (x.key = k)) := by
    unfold hasK
    rw [List.any_map]
    congr 1
    funext x
    exact decide_eq_decide.2 eq_comm
  unfold putK
  rw [hh]
  split
  · rw [List.map_map, List.map_map]
    apply List.map_congr_left
    intro x _
    simp only [Function.comp, kvR]
    by_cases e : x.key = k
    · simp [e]
    · simp [e, Ne.symm e]
  · simp [kvR]
theorem put_t (rs : List Rc) (k : ThK) (m : MsgA) (sv : Value) : (if rs.any (fun x => decide (x.key = k)) then rs.map (fun x => if x.key = k then (⟨k, 0, m, sv, x.born⟩ : Rc) else x) else rs ++ [⟨k, 0, m, sv, 0⟩]).map Rc.t = putT (rs.map Rc.t) k m := by
  unfold putT
  have hh : (rs.map Rc.t).any (fun x => decide (x.key = k)) = rs.any (fun x => decide (x.key = k)) := by rw [List.any_map]; rfl
  rw [hh]
  split
  · rw [List.map_map, List.map_map]
    apply List.map_congr_left
    intro x _
    simp only [Function.comp, Rc.t]
    by_cases e : x.key = k <;> simp [e, Rc.t]
  · simp [Rc.t]
theorem tlen_ok {h : Heap} {D : Nat → Prop} {p : Nat} {ts : List AT} (t : TableAt h D p ts) :
    SCalls Try.prog 27 #[.pointer (some ⟨p, 0, none⟩)] h (fun r h' => h' = h ∧ r = .int .i64 (ts.length : Nat)) := by
  refine s_enter Try.func27 rfl (by rw [Try.ntmps27]; simp) ?_
  rw [Try.ntmps27]
  generalize hT : T0 #[.pointer (some ⟨p, 0, none⟩)] = T
  have h0 : T 0 = .pointer (some ⟨p, 0, none⟩) := by rw [← hT]; rfl
  clear hT
  obtain ⟨mv, ty, hp, hDp, hmap⟩ := t.out
  rcases hmap with ⟨rfl, rfl⟩ | ⟨mb, rs, cl, rfl, hDm, him, rfl, hrow⟩
  · repeat refine s_seq ?_
    refine s_region ?_
    refine w_pv rfl dC (want_none rfl) (p_val evA) ?_
    refine w_nil ?_
    repeat refine s_seq ?_
    refine s_region ?_
    refine w_pv rfl dC (want_none rfl) (p_val evA) ?_
    refine w_pv rfl dC (want_none rfl) (p_val evA) ?_
    refine w_pv rfl dC (want_none rfl) (p_fieldAddr (k := 0) rfl evA kR) ?_
    refine w_rd rfl dC (want_none rfl) (r_load1 rfl Try.underlying58 rfl evA hpA ceA) ?_
    refine w_rd rfl dC (want_none rfl) (r_len_map_nil rfl Try.underlying58 evA) ?_
    refine w_pv rfl dC (want_none rfl) (p_val evA) ?_
    refine w_nil ?_
    exact s_ret ⟨_, res_one rfl rfl, rfl, by simp only [pval, ev, upd, binVal, intBin, Option.map_some, ↓reduceIte, reduceCtorEq, Nat.reduceEqDiff, Nat.reduceBEq, List.map_toArray, List.map_cons, List.map_nil, cond_true, cond_false, decide_true, decide_false, Bool.not_true, Bool.not_false, Bool.true_and, Bool.false_and, Bool.and_true, Bool.and_false, beq_self_eq_true, bne_self_eq_false, List.getElem_toArray, List.getElem_cons_succ, List.getElem_cons_zero] <;> rfl⟩
  · repeat refine s_seq ?_
    refine s_region ?_
    refine w_pv rfl dC (want_none rfl) (p_val evA) ?_
    refine w_nil ?_
    repeat refine s_seq ?_
    refine s_region ?_
    refine w_pv rfl dC (want_none rfl) (p_val evA) ?_
    refine w_pv rfl dC (want_none rfl) (p_val evA) ?_
    refine w_pv rfl dC (want_none rfl) (p_fieldAddr (k := 0) rfl evA kR) ?_
    refine w_rd rfl dC (want_none rfl) (r_load1 rfl Try.underlying58 rfl evA hpA ceA) ?_
    refine w_rd rfl dC (want_none rfl) (r_len_map rfl Try.underlying58 evA him.1) ?_
    refine w_pv rfl dC (want_none rfl) (p_val evA) ?_
    refine w_nil ?_
    exact s_ret ⟨_, res_one rfl rfl, rfl, by simp only [pval, ev, upd, binVal, intBin, Option.map_some, ↓reduceIte, reduceCtorEq, Nat.reduceEqDiff, Nat.reduceBEq, List.map_toArray, List.map_cons, List.map_nil, cond_true, cond_false, decide_true, decide_false, Bool.not_true, Bool.not_false, Bool.true_and, Bool.false_and, Bool.and_true, Bool.and_false, beq_self_eq_true, bne_self_eq_false, List.getElem_toArray, List.getElem_cons_succ, List.getElem_cons_zero]; simp⟩
theorem has_any (rs : List Rc) (k : ThK) : ((rs.map Rc.t).any fun x => decide (x.key = k)) = hasK (rs.map kvR) k := by
  unfold hasK
  rw [List.any_map, List.any_map]
  congr 1
  funext x
  exact decide_eq_decide.2 eq_comm
/-- What a key's lookup in a table gives. -/
def kzero : ThK := ((0, 0, 0), (0, 0))
def mzero : MsgA := ⟨0, 0, 0, 0, 0, 0, 0, false, []⟩
theorem table_look {h : Heap} {D : Nat → Prop} {p : Nat} {ts : List AT} (t : TableAt h D p ts) (k : ThK) : ∃ (mv : Value) (ty : TypeId) (vs : Array Value), h p = some (.cells #[mv] ty (0, 0)) ∧ D p ∧ vs.all (·.oneCell') = true ∧ vs.size = 15 ∧
    (∀ {o : Oper} {ρ : Operand → Value} {mo x : Operand}, o.op = .lookup 58 mo x true → ρ mo = mv → ρ x = thV k → ReadOp Try.prog o ρ (fun b => if b ∈ mvBlk mv then h b else none) (.tuple #[.agg vs, .bool (ts.any fun x => decide (x.key = k))])) ∧
    ((mv = .map none ∧ ts = []) ∨ ∃ (mb : Nat) (rs : List Rc) (cl : Nat), mv = .map (some mb) ∧ D mb ∧ IsMapN h mb thV (rs.map Rc.ey) cl ∧ ts = rs.map Rc.t ∧ ∀ r ∈ rs, RowD h D r) ∧
    ((Value.agg vs = entV kzero 0 mzero (.slice none 0 0) ∧ ∀ x ∈ ts, x.key ≠ k) ∨ ∃ x ∈ ts, x.key = k ∧ ∃ sv, Value.agg vs = entV k x.age x.msg sv ∧ RowD h D ⟨k, x.age, x.msg, sv, 0⟩) := by
  obtain ⟨mv, ty, hp, hDp, hmap⟩ := t.out
  have hz : zeroV Try.prog 64 = some (.agg #[.int .i64 0, .int .i64 0, .int .u32 0, .int .u32 0, .int .u32 0, .int .i64 0, .int .i64 0, .int .u32 0, .int .u32 0, .int .u32 0, .int .u32 0, .int .i64 0, .int .i64 0, .bool false, .slice none 0 0]) := by kernel_rfl
  rcases hmap with ⟨rfl, rfl⟩ | ⟨mb, rs, cl, rfl, hDm, him, rfl, hrow⟩
  · refine ⟨_, ty, #[.int .i64 0, .int .i64 0, .int .u32 0, .int .u32 0, .int .u32 0, .int .i64 0, .int .i64 0, .int .u32 0, .int .u32 0, .int .u32 0, .int .u32 0, .int .i64 0, .int .i64 0, .bool false, .slice none 0 0], hp, hDp, by simp [Value.oneCell'], rfl, ?_, .inl ⟨rfl, rfl⟩, .inl ⟨rfl, by simp⟩⟩
    intro o ρ mo x ho hm hx
    have := r_lookup_nilZ (h := fun b => if b ∈ mvBlk (.map none) then h b else none) (ok := true) (k := k) thing_key ho Try.underlying58 Try.underlying57 hz hm hx
    rw [if_pos rfl] at this
    exact this
  · have him2 := him.map
    rw [kv_ey] at him2
    have hany : ∀ b : Bool, hasK (rs.map kvR) k = b → ((rs.map Rc.t).any fun x => decide (x.key = k)) = b := by
      intro b hb
      rw [← hb]; exact has_any rs k
    have hlook : ∀ {o : Oper} {ρ : Operand → Value} {mo x : Operand}, o.op = .lookup 58 mo x true → ρ mo = .map (some mb) → ρ x = thV k → ReadOp Try.prog o ρ (fun b => if b ∈ mvBlk (.map (some mb)) then h b else none) (.tuple #[(getK (rs.map kvR) k).getD (.agg #[.int .i64 0, .int .i64 0, .int .u32 0, .int .u32 0, .int .u32 0, .int .i64 0, .int .i64 0, .int .u32 0, .int .u32 0, .int .u32 0, .int .u32 0, .int .i64 0, .int .i64 0, .bool false, .slice none 0 0]), .bool (hasK (rs.map kvR) k)]) := by
      intro o ρ mo x ho hm hx
      have := r_lookupZ (h := fun b => if b ∈ mvBlk (.map (some mb)) then h b else none) (ok := true) (k := k) thing_key ho Try.underlying58 Try.underlying57 hz hm hx (him2.1.of (by simp [mvBlk]))
      simp only [if_true] at this
      exact this
    cases hk : hasK (rs.map kvR) k with
    | false =>
      have hg := (getK_none (rs.map kvR) k).2 hk
      refine ⟨_, ty, #[.int .i64 0, .int .i64 0, .int .u32 0, .int .u32 0, .int .u32 0, .int .i64 0, .int .i64 0, .int .u32 0, .int .u32 0, .int .u32 0, .int .u32 0, .int .i64 0, .int .i64 0, .bool false, .slice none 0 0], hp, hDp, by simp [Value.oneCell'], rfl, ?_, .inr ⟨mb, rs, cl, rfl, hDm, him, rfl, hrow⟩, .inl ⟨rfl, fun x hx e => ?_⟩⟩
      · intro o ρ mo x ho hm hx
        have := hlook ho hm hx
        rw [hg, hk] at this
        rw [hany _ hk]
        exact this
      · have := hany _ hk
        rw [List.any_eq_false] at this
        exact this x hx (by simpa using e)
    | true =>
      obtain ⟨v, hv⟩ : ∃ v, getK (rs.map kvR) k = some v := by
        cases e : getK (rs.map kvR) k with
        | some v => exact ⟨v, rfl⟩
        | none => rw [(getK_none (rs.map kvR) k).1 e] at hk; cases hk
      obtain ⟨r, hr, hrk, hrv⟩ : ∃ r ∈ rs, r.key = k ∧ entV r.key r.age r.msg r.sv = v := by
        unfold getK at hv
        rw [Option.map_eq_some_iff] at hv
        obtain ⟨pr, h1, h2⟩ := hv
        have hmem := List.mem_of_find?_eq_some h1
        have hpk := List.find?_some h1
        obtain ⟨r, hr, rfl⟩ := List.mem_map.1 hmem
        exact ⟨r, hr, (of_decide_eq_true hpk).symm, h2⟩
      subst hrk
      have hx := hrow r hr
      have hone := hx.one
      refine ⟨_, ty, #[.int .i64 r.key.1.1, .int .i64 r.key.1.2.1, .int .u32 r.key.1.2.2, .int .u32 r.key.2.1, .int .u32 r.key.2.2, .int .i64 r.age, .int .i64 r.msg.kind, .int .u32 r.msg.frm, .int .u32 r.msg.to, .int .u32 r.msg.src, .int .u32 r.msg.grp, .int .i64 r.msg.rank, .int .i64 r.msg.cost, .bool r.msg.only, r.sv], hp, hDp, by simp [Value.oneCell']; exact hone, rfl, ?_, .inr ⟨mb, rs, cl, rfl, hDm, him, rfl, hrow⟩, .inr ⟨r.t, List.mem_map.2 ⟨r, hr, rfl⟩, rfl, r.sv, rfl, ⟨hx.cells, hx.blk, hx.len, hx.one, hx.age0, hx.age3⟩⟩⟩
      intro o ρ mo x ho hm hx
      have := hlook ho hm hx
      rw [hv, hk] at this
      rw [hany _ hk]
      rw [← hrv] at this
      exact this
end Go.Proofs.Ytielfejpnkcjbaa

/- Hear: the walk. -/
set_option linter.unusedVariables false
set_option linter.unusedSimpArgs false
namespace Go.Proofs.Ytielfejpnkcjbaa
open Sl
theorem Sl.Cells.zero_any {h h' : Heap} {sz n : Nat} {v : Value} {cs : List Value} (x : Cells h sz v n cs) (hn : n = 0) : Cells h' sz v n cs := by
  obtain ⟨a, c, rfl⟩ := x.form
  have hl := x.len
  subst hn
  have : cs = [] := List.eq_nil_of_length_eq_zero (by simpa using hl)
  rw [this]
  exact .zero a c
theorem hear_ok {h : Heap} {D : Nat → Prop} {p : Nat} {ts : List AT} (k : ThK) (m : MsgA) (sv : Value) (t : TableAt h D p ts) (few : ts.length < 65536) (hc : Cells h 1 sv m.srcs.length (m.srcs.map (.int .u32))) (hn : m.srcs.length ≤ 1000000) (h1s : sv.oneCell' = true) (hsD : m.srcs.length ≠ 0 → ∀ b, blockOf sv = some b → ¬ D b) :
    SCalls Try.prog 22 #[.pointer (some ⟨p, 0, none⟩), thV k, msgV m sv] h (fun r h' => r = .bool true ∧ ∃ D', Chg D D' h h' ∧ TableAt h' D' p (putT ts k m)) := by
  refine s_enter Try.func22 rfl (by rw [Try.ntmps22]; simp) ?_
  rw [Try.ntmps22]
  generalize hT : T0 #[.pointer (some ⟨p, 0, none⟩), thV k, msgV m sv] = T
  have h0 : T 0 = .pointer (some ⟨p, 0, none⟩) := by rw [← hT]; rfl
  have h1 : T 1 = .agg #[.int .i64 k.1.1, .int .i64 k.1.2.1, .int .u32 k.1.2.2, .int .u32 k.2.1, .int .u32 k.2.2] := by rw [← hT]; rfl
  have hT2 : T 2 = .agg #[.int .i64 m.kind, .int .u32 m.frm, .int .u32 m.to, .int .u32 m.src, .int .u32 m.grp, .int .i64 m.rank, .int .i64 m.cost, .bool m.only, sv] := by rw [← hT]; rfl
  clear hT
  repeat refine s_seq ?_
  refine s_region ?_
  refine w_al rfl dC (want_none rfl) (a_boxN rfl evA) ?_
  intro b4 hb4
  refine w_al rfl dC (want_none rfl) (a_boxN rfl evA) ?_
  intro b5 hb5
  have hne5_4 : b5 ≠ b4 := by rintro rfl; first | (simp [Heap.set] at hb5; done) | (simp [Heap.set] at hb5; split at hb5 <;> simp at hb5; done) | (simp [Heap.set] at hb5; (repeat' (split at hb5)) <;> simp_all)
  have hne4_5 := hne5_4.symm
  refine w_pv rfl dC (want_none rfl) (p_val evA) ?_
  refine w_nil ?_
  refine genH fun hx hh => ?_
  have hb4v : hx b4 = some (.cells #[.int .i64 k.1.1, .int .i64 k.1.2.1, .int .u32 k.1.2.2, .int .u32 k.2.1, .int .u32 k.2.2] 57 (0, 0)) := by rw [hh, Heap.set_other _ _ hne4_5]; exact Heap.set_same _ _ _
  have hb5v : hx b5 = some (.cells #[.int .i64 m.kind, .int .u32 m.frm, .int .u32 m.to, .int .u32 m.src, .int .u32 m.grp, .int .i64 m.rank, .int .i64 m.cost, .bool m.only, sv] 55 (0, 0)) := by rw [hh]; exact Heap.set_same _ _ _
  have hle : h.le hx := by rw [hh]; exact Heap.le_trans (Heap.le_set _ hb4) (Heap.le_set _ hb5)
  have hb5n : h b5 = none := by rw [Heap.set_other _ _ hne5_4] at hb5; exact hb5
  have hd4 : ¬ D b4 := fun hd => t.dom b4 hd hb4
  have hd5 : ¬ D b5 := fun hd => t.dom b5 hd hb5n
  clear hh hb5
  have tx : TableAt hx D p ts := by
    obtain ⟨mv, ty, hp, hDp, hmap⟩ := t.out
    refine ⟨⟨mv, ty, hle _ _ hp, hDp, hmap.imp id fun ⟨mb, rs, cl, e1, e2, e3, e4, e5⟩ => ⟨mb, rs, cl, e1, e2, ⟨hle _ _ e3.1, e3.2⟩, e4, fun r hr => (e5 r hr).only fun b o _ e _ => hle b o e⟩⟩, fun b hb => ?_⟩
    cases e : h b with
    | none => exact absurd e (t.dom b hb)
    | some o => rw [hle b o e]; simp
  have chx : Chg D D h hx := (Chg.refl _ _).le hle
  have hcx := hc.le hle
  clear t hc hle hb4 hb5n
  obtain ⟨mv, ty, vs, hp, hDp, hvs1, hvs15, hlook, hmap, _⟩ := table_look tx k
  have hag : (Value.agg #[.int .i64 k.1.1, .int .i64 k.1.2.1, .int .u32 k.1.2.2, .int .u32 k.2.1, .int .u32 k.2.2]) = thV k := rfl
  generalize hany : (ts.any fun x => decide (x.key = k)) = c at hlook
  repeat refine s_seq ?_
  refine s_draw [(0, true), (1, true), (2, true), (3, true), (4, true), (5, true), (6, true), (7, true), (8, true), (9, true), (10, true), (11, true)] [] [10] rfl kR kR ?_
  refine d_pv rfl rfl dC rfl rfl (want_none rfl) (p_val evA) ?_
  refine d_rd0 rfl rfl dC rfl rfl (want_none rfl) (fun _ => PureOp.read (p_val evA) _) ?_
  refine d_pv rfl rfl dC rfl rfl (want_none rfl) (p_fieldAddr (k := 0) rfl evA kR) ?_
  refine d_rd [_] rfl rfl dC rfl rfl (want_none rfl) (r_load1 rfl Try.underlying58 rfl evA (restr1 hpA) ceA) ?_
  refine d_rd [_] rfl rfl dC rfl rfl (want_none rfl) (r_loadN (n := 5) rfl Try.underlying57 rfl evA (restr1 hpA) kR szA) ?_
  refine d_rd (mvBlk mv) rfl rfl dC rfl rfl (want_none rfl) (hlook rfl evA evA) ?_
  refine d_pv rfl rfl dC rfl rfl (want_none rfl) (p_val evA) ?_
  refine d_pv rfl rfl dC rfl rfl (want_none rfl) (p_val evA) ?_
  refine d_pv rfl rfl dC rfl rfl (want_none rfl) (p_val evA) ?_
  refine d_qal rfl rfl dC (by decide) rfl (want_none rfl) (a_allocZ (z := .agg #[.int .i64 0, .int .i64 0, .int .u32 0, .int .u32 0, .int .u32 0, .int .i64 0, .int .i64 0, .int .u32 0, .int .u32 0, .int .u32 0, .int .u32 0, .int .i64 0, .int .i64 0, .bool false, .slice none 0 0]) (zs := #[.int .i64 0, .int .i64 0, .int .u32 0, .int .u32 0, .int .u32 0, .int .i64 0, .int .i64 0, .int .u32 0, .int .u32 0, .int .u32 0, .int .u32 0, .int .i64 0, .int .i64 0, .bool false, .slice none 0 0]) rfl kR rfl) ?_
  intro b7 hb7
  refine d_lst rfl rfl dC (by decide) rfl (want_none rfl) (s_storeN (n := 15) rfl evA evA ocA kR szA kR hpA szA ?_)
  refine d_pv rfl rfl dC rfl rfl (want_none rfl) (p_val evA) ?_
  refine d_nil ?_
  rw [set_set]
  refine genH fun h2 hh => ?_
  have hle2 : hx.le h2 := by rw [hh]; exact Heap.le_set _ hb7
  clear hh hlook hvs1 hvs15 hany
  have hp2 := hle2 _ _ hp
  have hb4w := hle2 _ _ hb4v
  have hb5w := hle2 _ _ hb5v
  have hcl2 := hcx.le hle2
  have ch2 : Chg D D h h2 := chx.le hle2
  have hdm2 : ∀ b, D b → h2 b ≠ none := fun b hb => by
    cases e : hx b with
    | none => exact absurd e (tx.dom b hb)
    | some o => rw [hle2 b o e]; simp
  have hmap2 : (mv = .map none ∧ ts = []) ∨ ∃ (mb : Nat) (rs : List Rc) (cl : Nat), mv = .map (some mb) ∧ D mb ∧ IsMapN h2 mb thV (rs.map Rc.ey) cl ∧ ts = rs.map Rc.t ∧ ∀ r ∈ rs, RowD h2 D r := hmap.imp id fun ⟨mb, rs, cl, e1, e2, e3, e4, e5⟩ => ⟨mb, rs, cl, e1, e2, ⟨hle2 _ _ e3.1, e3.2⟩, e4, fun r hr => (e5 r hr).only fun b o _ e _ => hle2 b o e⟩
  clear tx chx hcx hp hmap hle2 hb4v hb5v hb7
  refine s_join (fun T h' => h' = h2 ∧ T 0 = .pointer (some ⟨p, 0, none⟩) ∧ T 4 = .pointer (some ⟨b4, 0, none⟩) ∧ T 5 = .pointer (some ⟨b5, 0, none⟩)) ?_ ?_
  · cases c with
    | true =>
      repeat refine s_seq ?_
      refine s_region ?_
      refine w_pv rfl dC (want_none rfl) (p_val evA) ?_
      refine w_pv rfl dC (want_none rfl) (p_val evA) ?_
      refine w_pv rfl dC (want_none rfl) (p_val evA) ?_
      refine w_skp rfl dC (want_not rfl rfl evA rfl) ?_
      refine w_skp rfl dC (want_not rfl rfl evA rfl) ?_
      refine w_skp rfl dC (want_not rfl rfl evA rfl) ?_
      refine w_skp rfl dC (want_not rfl rfl evA rfl) ?_
      refine w_skp rfl dC (want_not rfl rfl evA rfl) ?_
      refine w_skp rfl dC (want_not rfl rfl evA rfl) ?_
      refine w_pv rfl dC (want_none rfl) (p_val evA) ?_
      refine w_nil ?_
      repeat refine s_seq ?_
      refine s_cond (t := false) slA ?_
      repeat refine s_seq ?_
      refine s_skip ?_
      exact ⟨rfl, slA, slA, slA⟩
    | false =>
      rcases hmap2 with ⟨rfl, rfl⟩ | ⟨mb, rs, cl, rfl, hDm, him, rfl, hrow⟩
      · have e1 : decide ((0 : Int) ≥ 65536) = false := by decide
        repeat refine s_seq ?_
        refine s_region ?_
        refine w_pv rfl dC (want_none rfl) (p_val evA) ?_
        refine w_pv rfl dC (want_none rfl) (p_val evA) ?_
        refine w_pv rfl dC (want_none rfl) (p_val evA) ?_
        refine w_pv rfl dC (want_let rfl rfl evA) (p_val evA) ?_
        refine w_pv rfl dC (want_let rfl rfl evA) (p_val evA) ?_
        refine w_pv rfl dC (want_let rfl rfl evA) (p_fieldAddr (k := 0) rfl evA kR) ?_
        refine w_rd rfl dC (want_let rfl rfl evA) (r_load1 rfl Try.underlying58 rfl evA hpA ceA) ?_
        refine w_rd rfl dC (want_let rfl rfl evA) (r_len_map_nil rfl Try.underlying58 evA) ?_
        refine w_pv rfl dC (want_let rfl rfl evA) (p_val evA) ?_
        refine w_pv rfl dC (want_none rfl) (p_val evA) ?_
        refine w_nil ?_
        repeat refine s_seq ?_
        refine s_cond (t := false) slA ?_
        repeat refine s_seq ?_
        refine s_skip ?_
        exact ⟨rfl, slA, slA, slA⟩
      · have e1 : decide (((((rs.map Rc.ey).map fun e => { key := thV e.key, val := e.val, born := e.born : MapEntry }).toArray.size : Nat) : Int) ≥ 65536) = false := decide_eq_false (by simp at few ⊢; omega)
        repeat refine s_seq ?_
        refine s_region ?_
        refine w_pv rfl dC (want_none rfl) (p_val evA) ?_
        refine w_pv rfl dC (want_none rfl) (p_val evA) ?_
        refine w_pv rfl dC (want_none rfl) (p_val evA) ?_
        refine w_pv rfl dC (want_let rfl rfl evA) (p_val evA) ?_
        refine w_pv rfl dC (want_let rfl rfl evA) (p_val evA) ?_
        refine w_pv rfl dC (want_let rfl rfl evA) (p_fieldAddr (k := 0) rfl evA kR) ?_
        refine w_rd rfl dC (want_let rfl rfl evA) (r_load1 rfl Try.underlying58 rfl evA hpA ceA) ?_
        refine w_rd rfl dC (want_let rfl rfl evA) (r_len_map rfl Try.underlying58 evA him.1) ?_
        refine w_pv rfl dC (want_let rfl rfl evA) (p_val evA) ?_
        refine w_pv rfl dC (want_none rfl) (p_val evA) ?_
        refine w_nil ?_
        repeat refine s_seq ?_
        refine s_cond (t := false) slA ?_
        repeat refine s_seq ?_
        refine s_skip ?_
        exact ⟨rfl, slA, slA, slA⟩
  · clear h0 h1 hT2 T
    rintro T h' ⟨rfl, h0, h4, h5⟩
    refine s_seq ?_
    refine s_join (fun T h3 => ∃ (D' : Nat → Prop) (mb : Nat) (rs : List Rc), h3 p = some (.cells #[.map (some mb)] ty (0, 0)) ∧ D' p ∧ D' mb ∧ IsMap h3 mb thV (rs.map kvR) ∧ Keys1 (rs.map kvR) ∧ ts = rs.map Rc.t ∧ (∀ r ∈ rs, RowD h3 D' r) ∧ Chg D D' h h3 ∧ (∀ b, D' b → h3 b ≠ none) ∧ ¬ D' b4 ∧ ¬ D' b5 ∧ h3 b4 = some (.cells #[.int .i64 k.1.1, .int .i64 k.1.2.1, .int .u32 k.1.2.2, .int .u32 k.2.1, .int .u32 k.2.2] 57 (0, 0)) ∧ h3 b5 = some (.cells #[.int .i64 m.kind, .int .u32 m.frm, .int .u32 m.to, .int .u32 m.src, .int .u32 m.grp, .int .i64 m.rank, .int .i64 m.cost, .bool m.only, sv] 55 (0, 0)) ∧ Cells h3 1 sv m.srcs.length (m.srcs.map (.int .u32)) ∧ T 0 = .pointer (some ⟨p, 0, none⟩) ∧ T 4 = .pointer (some ⟨b4, 0, none⟩) ∧ T 5 = .pointer (some ⟨b5, 0, none⟩)) ?_ ?_
    · have made : ∀ b35, h' b35 = none → ts = [] → ∀ h3, h3 = (h'.set b35 (.map #[] 0)).set p (.cells #[.map (some b35)] ty (0, 0)) → ∃ (D' : Nat → Prop) (mb : Nat) (rs : List Rc), h3 p = some (.cells #[.map (some mb)] ty (0, 0)) ∧ D' p ∧ D' mb ∧ IsMap h3 mb thV (rs.map kvR) ∧ Keys1 (rs.map kvR) ∧ ts = rs.map Rc.t ∧ (∀ r ∈ rs, RowD h3 D' r) ∧ Chg D D' h h3 ∧ (∀ b, D' b → h3 b ≠ none) ∧ ¬ D' b4 ∧ ¬ D' b5 ∧ h3 b4 = some (.cells #[.int .i64 k.1.1, .int .i64 k.1.2.1, .int .u32 k.1.2.2, .int .u32 k.2.1, .int .u32 k.2.2] 57 (0, 0)) ∧ h3 b5 = some (.cells #[.int .i64 m.kind, .int .u32 m.frm, .int .u32 m.to, .int .u32 m.src, .int .u32 m.grp, .int .i64 m.rank, .int .i64 m.cost, .bool m.only, sv] 55 (0, 0)) ∧ Cells h3 1 sv m.srcs.length (m.srcs.map (.int .u32)) := by
        intro b35 hb35 hts h3 hh
        have hpb : b35 ≠ p := fun e => by rw [← e, hb35] at hp2; cases hp2
        have hp4 : b4 ≠ p := fun e => hd4 (by rw [e]; exact hDp)
        have hp5 : b5 ≠ p := fun e => hd5 (by rw [e]; exact hDp)
        have h45 : b4 ≠ b35 ∧ b5 ≠ b35 := ⟨fun e => (by rw [e, hb35] at hb4w; cases hb4w), fun e => (by rw [e, hb35] at hb5w; cases hb5w)⟩
        have hoth : ∀ q o, q ≠ p → h' q = some o → h3 q = some o := fun q o hq e => by
          rw [hh, Heap.set_other _ _ hq, Heap.set_other _ _ (fun e1 => by rw [e1, hb35] at e; cases e)]; exact e
        have hdb : ¬ D b35 := fun hd => hdm2 b35 hd hb35
        have hbn : h b35 = none := by
          cases e : h b35 with
          | none => rfl
          | some o => rw [ch2.keep b35 o hdb e] at hb35; cases hb35
        refine ⟨fun b => D b ∨ b = b35, b35, [], by rw [hh]; exact Heap.set_same _ _ _, Or.inl hDp, Or.inr rfl, (IsMap.made h' b35).of (by rw [hh, Heap.set_other _ _ hpb]), by simp [Keys1], hts, by simp, ⟨fun b o hd e => hoth b o (fun e1 => hd (by rw [e1]; exact hDp)) (ch2.keep b o hd e), fun b hd => Or.imp id (fun e => by rw [e]; exact hbn) hd⟩, fun b hd => ?_, fun hd => Or.elim hd hd4 h45.1, fun hd => Or.elim hd hd5 h45.2, hoth _ _ hp4 hb4w, hoth _ _ hp5 hb5w, ?_⟩
        · rcases hd with hd | rfl
          · by_cases e1 : b = p
            · rw [e1, hh, Heap.set_same]; simp
            · cases e : h' b with
              | none => exact absurd e (hdm2 b hd)
              | some o => rw [hoth b o e1 e]; simp
          · rw [hh, Heap.set_other _ _ hpb, Heap.set_same]; simp
        · by_cases hl0 : m.srcs.length = 0
          · exact hcl2.zero_any hl0
          · exact hcl2.only fun r o hr e => hoth r o (fun e1 => hsD hl0 r hr (by rw [e1]; exact hDp)) e
      rcases hmap2 with ⟨rfl, hts⟩ | ⟨mb, rs, cl, rfl, hDm, him, hts, hrow⟩
      · repeat refine s_seq ?_
        refine s_region ?_
        refine w_pv rfl dC (want_none rfl) (p_val evA) ?_
        refine w_pv rfl dC (want_none rfl) (p_val evA) ?_
        refine w_pv rfl dC (want_none rfl) (p_fieldAddr (k := 0) rfl evA kR) ?_
        refine w_rd rfl dC (want_none rfl) (r_load1 rfl Try.underlying58 rfl evA hpA ceA) ?_
        refine w_rd rfl dC (want_none rfl) (r_len_map_nil rfl Try.underlying58 evA) ?_
        refine w_pv rfl dC (want_none rfl) (p_val evA) ?_
        refine w_nil ?_
        repeat refine s_seq ?_
        refine s_cond (t := true) slA ?_
        repeat refine s_seq ?_
        refine s_region ?_
        refine w_pv rfl dC (want_none rfl) (p_val evA) ?_
        refine w_al rfl dC (want_none rfl) (a_makeMap rfl) ?_
        intro b35 hb35
        refine w_pv rfl dC (want_none rfl) (p_val evA) ?_
        refine w_pv rfl dC (want_none rfl) (p_fieldAddr (k := 0) rfl evA kR) ?_
        refine w_st rfl (want_none rfl) (s_store1 rfl evA evA ocA kR kR hpA szA ?_)
        refine w_nil ?_
        obtain ⟨D', mb, rs, x⟩ := made b35 hb35 hts _ rfl
        exact ⟨D', mb, rs, x.1, x.2.1, x.2.2.1, x.2.2.2.1, x.2.2.2.2.1, x.2.2.2.2.2.1, x.2.2.2.2.2.2.1, x.2.2.2.2.2.2.2.1, x.2.2.2.2.2.2.2.2.1, x.2.2.2.2.2.2.2.2.2.1, x.2.2.2.2.2.2.2.2.2.2.1, x.2.2.2.2.2.2.2.2.2.2.2.1, x.2.2.2.2.2.2.2.2.2.2.2.2.1, x.2.2.2.2.2.2.2.2.2.2.2.2.2, slA, slA, slA⟩
      · have hsz : ((((rs.map Rc.ey).map fun e => { key := thV e.key, val := e.val, born := e.born : MapEntry }).toArray.size : Nat) : Int) = ((rs.length : Nat) : Int) := by simp
        by_cases hr0 : rs = []
        · have e1 : ((((rs.map Rc.ey).map fun e => { key := thV e.key, val := e.val, born := e.born : MapEntry }).toArray.size : Nat) : Int) = 0 := by rw [hsz, hr0]; rfl
          have hts' : ts = [] := by rw [hts, hr0]; rfl
          clear hr0 hts hsz
          repeat refine s_seq ?_
          refine s_region ?_
          refine w_pv rfl dC (want_none rfl) (p_val evA) ?_
          refine w_pv rfl dC (want_none rfl) (p_val evA) ?_
          refine w_pv rfl dC (want_none rfl) (p_fieldAddr (k := 0) rfl evA kR) ?_
          refine w_rd rfl dC (want_none rfl) (r_load1 rfl Try.underlying58 rfl evA hpA ceA) ?_
          refine w_rd rfl dC (want_none rfl) (r_len_map rfl Try.underlying58 evA him.1) ?_
          refine w_pv rfl dC (want_none rfl) (p_val evA) ?_
          refine w_nil ?_
          repeat refine s_seq ?_
          refine s_cond (t := true) slA ?_
          repeat refine s_seq ?_
          refine s_region ?_
          refine w_pv rfl dC (want_none rfl) (p_val evA) ?_
          refine w_al rfl dC (want_none rfl) (a_makeMap rfl) ?_
          intro b35 hb35
          refine w_pv rfl dC (want_none rfl) (p_val evA) ?_
          refine w_pv rfl dC (want_none rfl) (p_fieldAddr (k := 0) rfl evA kR) ?_
          refine w_st rfl (want_none rfl) (s_store1 rfl evA evA ocA kR kR hpA szA ?_)
          refine w_nil ?_
          obtain ⟨D', mb, rs, x⟩ := made b35 hb35 hts' _ rfl
          exact ⟨D', mb, rs, x.1, x.2.1, x.2.2.1, x.2.2.2.1, x.2.2.2.2.1, x.2.2.2.2.2.1, x.2.2.2.2.2.2.1, x.2.2.2.2.2.2.2.1, x.2.2.2.2.2.2.2.2.1, x.2.2.2.2.2.2.2.2.2.1, x.2.2.2.2.2.2.2.2.2.2.1, x.2.2.2.2.2.2.2.2.2.2.2.1, x.2.2.2.2.2.2.2.2.2.2.2.2.1, x.2.2.2.2.2.2.2.2.2.2.2.2.2, slA, slA, slA⟩
        · have e1 : (((((rs.map Rc.ey).map fun e => { key := thV e.key, val := e.val, born := e.born : MapEntry }).toArray.size : Nat) : Int) == 0) = false := by simpa using hr0
          clear hr0 hsz made
          repeat refine s_seq ?_
          refine s_region ?_
          refine w_pv rfl dC (want_none rfl) (p_val evA) ?_
          refine w_pv rfl dC (want_none rfl) (p_val evA) ?_
          refine w_pv rfl dC (want_none rfl) (p_fieldAddr (k := 0) rfl evA kR) ?_
          refine w_rd rfl dC (want_none rfl) (r_load1 rfl Try.underlying58 rfl evA hpA ceA) ?_
          refine w_rd rfl dC (want_none rfl) (r_len_map rfl Try.underlying58 evA him.1) ?_
          refine w_pv rfl dC (want_none rfl) (p_val evA) ?_
          refine w_nil ?_
          repeat refine s_seq ?_
          refine s_cond (t := false) slA ?_
          repeat refine s_seq ?_
          refine s_skip ?_
          have him2 := IsMapN.map him
          rw [kv_ey] at him2
          exact ⟨D, mb, rs, hp2, hDp, hDm, him2.1, him2.2, hts, hrow, ch2, hdm2, hd4, hd5, hb4w, hb5w, hcl2, slA, slA, slA⟩
    · clear h0 h4 h5 T hmap2 hdm2 ch2 hcl2 hb5w hb4w hp2 hd4 hd5 hDp
      rintro T h3 ⟨D', mb, rs, hp, hDp, hDm, him, hk1, rfl, hrow, hchg, hdm, hd4, hd5, hb4v, hb5v, hcl, h0, h4, h5⟩
      have hag : (Value.agg #[.int .i64 k.1.1, .int .i64 k.1.2.1, .int .u32 k.1.2.2, .int .u32 k.2.1, .int .u32 k.2.2]) = thV k := rfl
      repeat refine s_seq ?_
      refine s_draw [(0, true), (1, true), (2, true), (3, true), (4, true), (5, true), (6, true), (7, true), (8, true), (9, true)] [] [9] rfl kR kR ?_
      refine d_pv rfl rfl dC rfl rfl (want_none rfl) (p_val evA) ?_
      refine d_rd0 rfl rfl dC rfl rfl (want_none rfl) (fun _ => PureOp.read (p_val evA) _) ?_
      refine d_pv rfl rfl dC rfl rfl (want_none rfl) (p_fieldAddr (k := 0) rfl evA kR) ?_
      refine d_rd [_] rfl rfl dC rfl rfl (want_none rfl) (r_load1 rfl Try.underlying58 rfl evA (restr1 hpA) ceA) ?_
      refine d_rd [_] rfl rfl dC rfl rfl (want_none rfl) (r_loadN (n := 5) rfl Try.underlying57 rfl evA (restr1 hpA) kR szA) ?_
      refine d_rd [_] rfl rfl dC rfl rfl (want_none rfl) (r_loadN (n := 5) rfl Try.underlying57 rfl evA (restr1 hpA) kR szA) ?_
      refine d_rd [_] rfl rfl dC rfl rfl (want_none rfl) (r_loadN (n := 9) rfl Try.underlying55 rfl evA (restr1 hpA) kR szA) ?_
      refine d_qac rfl rfl dC (by decide) rfl (want_none rfl) (s_call rfl rfl Try.func47 kR kR evA ?_); refine (own_ok m sv hcl hn h1s).mono ?_; rintro r h6 ⟨hle6, sv2, rfl, hcl6, hone6, hnew6⟩; refine ⟨fun A _ h => A.mono _ _ hle6 h, ?_⟩; have him6 := him.le hle6
      refine d_pv rfl rfl dC rfl rfl (want_none rfl) (p_buildL (places := [(0, 5), (5, 1), (6, 9)]) (z := [.int .i64 0, .int .i64 0, .int .u32 0, .int .u32 0, .int .u32 0, .int .i64 0, .int .i64 0, .int .u32 0, .int .u32 0, .int .u32 0, .int .u32 0, .int .i64 0, .int .i64 0, .bool false, .slice none 0 0]) (cells := [_, _, _, _, _, .int .i64 0, _, _, _, _, _, _, _, _, _]) rfl evA kR kR (by rfl)) ?_
      refine d_lst rfl rfl dC (by decide) rfl (want_none rfl) (s_mapUpdate (k := k) (v := entV k 0 m sv2) thing_key rfl Try.underlying58 Try.underlying57 evA evA evA him6 hk1 ?_); intro ob him7
      refine d_nil ?_
      rw [put_kv] at him7
      have hk7 := putK_keys _ hk1 k (entV k 0 m sv2)
      rw [put_kv] at hk7
      have hoth : ∀ q o, q ≠ mb → h3 q = some o → (h6.set mb ob) q = some o := fun q o hq e => by rw [Heap.set_other _ _ hq]; exact hle6 q o e
      have hnmb : ∀ q, blockOf sv2 = some q → q ≠ mb := fun q e e1 => hdm mb hDm (by rw [← e1]; exact (hnew6 q e).1)
      have hpm : p ≠ mb := fun e => by
        obtain ⟨es, cl, e1, _⟩ := him.out
        rw [← e, hp] at e1; cases e1
      repeat refine s_seq ?_
      refine s_region ?_
      refine w_pv rfl dC (want_none rfl) (p_val evA) ?_
      refine w_nil ?_
      refine s_ret ⟨_, res_one rfl rfl, by simp only [pval, ev, upd, binVal, intBin, Option.map_some, ↓reduceIte, reduceCtorEq, Nat.reduceEqDiff, Nat.reduceBEq, List.map_toArray, List.map_cons, List.map_nil, cond_true, cond_false, decide_true, decide_false, Bool.not_true, Bool.not_false, Bool.true_and, Bool.false_and, Bool.and_true, Bool.and_false, beq_self_eq_true, bne_self_eq_false, List.getElem_toArray, List.getElem_cons_succ, List.getElem_cons_zero], fun b => D' b ∨ blockOf sv2 = some b, ⟨fun b o hd e => ?_, fun b hd => ?_⟩, ?_⟩
      · refine hoth b o (fun e1 => ?_) (hchg.keep b o hd e)
        rcases hchg.ext mb hDm with h8 | h8
        · exact hd (by rw [e1]; exact h8)
        · rw [e1, h8] at e; cases e
      · by_cases hDb : D b
        · exact .inl hDb
        · rcases hd with hd | hd
          · exact hchg.ext b hd
          · right
            have h8 := (hnew6 b hd).1
            cases e : h b with
            | none => rfl
            | some o => rw [hchg.keep b o hDb e] at h8; cases h8
      · rw [← put_t rs k m sv2]
        refine TableAt.of_map (mb := mb) (ty := ty) (hoth _ _ hpm hp) (Or.inl hDp) (Or.inl hDm) him7 hk7 (fun r hr => ?_) (fun b hd => ?_)
        · have hnew : ∀ β, RowD (h6.set mb ob) (fun b => D' b ∨ blockOf sv2 = some b) ⟨k, 0, m, sv2, β⟩ := fun β => ⟨hcl6.only fun q o hq e => by rw [Heap.set_other _ _ (hnmb q hq)]; exact e, fun b e => Or.inr e, hn, hone6, Int.le_refl 0, (by decide : (0 : Int) ≤ 3)⟩
          have hold : ∀ r ∈ rs, RowD (h6.set mb ob) (fun b => D' b ∨ blockOf sv2 = some b) r := fun r hr => by
            have x := hrow r hr
            refine ⟨(x.only (h' := h6.set mb ob) fun q o hq e hnm => hoth q o (fun e1 => ?_) e).cells, fun b e => Or.inl (x.blk b e), x.len, x.one, x.age0, x.age3⟩
            obtain ⟨es, cl, e2, _⟩ := him.out
            rw [e1, e2] at e
            exact hnm es cl (Option.some.inj e).symm
          split at hr
          · obtain ⟨y, hy, rfl⟩ := List.mem_map.1 hr
            split
            · exact hnew _
            · exact hold y hy
          · rcases List.mem_append.1 hr with hr | hr
            · exact hold r hr
            · rw [List.mem_singleton.1 hr]; exact hnew _
        · rcases hd with hd | hd
          · by_cases e1 : b = mb
            · rw [e1, Heap.set_same]; simp
            · cases e : h3 b with
              | none => exact absurd e (hdm b hd)
              | some o => rw [hoth b o e1 e]; simp
          · rw [Heap.set_other _ _ (hnmb b hd)]; exact (hnew6 b hd).2
end Go.Proofs.Ytielfejpnkcjbaa

/- Get of a table. -/
set_option linter.unusedVariables false
set_option linter.unusedSimpArgs false
namespace Go.Proofs.Ytielfejpnkcjbaa
open Sl
/-- What Get answers: an entry with a list of its own; or nothing. -/
def GetAns (ts : List AT) (k k' : ThK) (ag : Int) (mg : MsgA) (is : Bool) : Prop :=
  (is = true ∧ k' = k ∧ ∃ x ∈ ts, x.key = k ∧ ag = x.age ∧ mg = x.msg) ∨ (is = false ∧ k' = kzero ∧ ag = 0 ∧ mg = mzero ∧ ∀ x ∈ ts, x.key ≠ k)
theorem tget2_ok {h : Heap} {D : Nat → Prop} {p : Nat} {ts : List AT} (k0 : ThK) (t : TableAt h D p ts) :
    SCalls Try.prog 24 #[.pointer (some ⟨p, 0, none⟩), thV k0] h (fun r h' => h.le h' ∧ ∃ k ag mg is sv, GetAns ts k0 k ag mg is ∧ r = .tuple #[entV k ag mg sv, .bool is] ∧ Cells h' 1 sv mg.srcs.length (mg.srcs.map (.int .u32)) ∧ mg.srcs.length ≤ 1000000 ∧ sv.oneCell' = true ∧ ∀ b, blockOf sv = some b → h b = none) := by
  refine s_enter Try.func24 rfl (by rw [Try.ntmps24]; simp) ?_
  rw [Try.ntmps24]
  generalize hT : T0 #[.pointer (some ⟨p, 0, none⟩), thV k0] = T
  have h0 : T 0 = .pointer (some ⟨p, 0, none⟩) := by rw [← hT]; rfl
  have h1 : T 1 = .agg #[.int .i64 k0.1.1, .int .i64 k0.1.2.1, .int .u32 k0.1.2.2, .int .u32 k0.2.1, .int .u32 k0.2.2] := by rw [← hT]; rfl
  clear hT
  repeat refine s_seq ?_
  refine s_region ?_
  refine w_al rfl dC (want_none rfl) (a_boxN rfl evA) ?_
  intro b3 hb3
  refine w_al rfl dC (want_none rfl) (a_allocZ (z := .agg #[.int .i64 0, .int .i64 0, .int .u32 0, .int .u32 0, .int .u32 0, .int .i64 0, .int .i64 0, .int .u32 0, .int .u32 0, .int .u32 0, .int .u32 0, .int .i64 0, .int .i64 0, .bool false, .slice none 0 0]) (zs := #[.int .i64 0, .int .i64 0, .int .u32 0, .int .u32 0, .int .u32 0, .int .i64 0, .int .i64 0, .int .u32 0, .int .u32 0, .int .u32 0, .int .u32 0, .int .i64 0, .int .i64 0, .bool false, .slice none 0 0]) rfl kR rfl) ?_
  intro b4 hb4
  have hne4_3 : b4 ≠ b3 := by rintro rfl; first | (simp [Heap.set] at hb4; done) | (simp [Heap.set] at hb4; split at hb4 <;> simp at hb4; done) | (simp [Heap.set] at hb4; (repeat' (split at hb4)) <;> simp_all)
  have hne3_4 := hne4_3.symm
  refine w_pv rfl dC (want_none rfl) (p_val evA) ?_
  refine w_nil ?_
  refine genH fun hx0 hh => ?_
  have hb3v : hx0 b3 = some (.cells #[.int .i64 k0.1.1, .int .i64 k0.1.2.1, .int .u32 k0.1.2.2, .int .u32 k0.2.1, .int .u32 k0.2.2] 57 (0, 0)) := by rw [hh, Heap.set_other _ _ hne3_4]; exact Heap.set_same _ _ _
  have hb4v : ∃ cs, cs.size = 15 ∧ hx0 b4 = some (.cells cs 64 (0, 0)) := ⟨_, rfl, by rw [hh]; exact Heap.set_same _ _ _⟩
  obtain ⟨cs4, hcs4, hb4v⟩ := hb4v
  have hle : h.le hx0 := by rw [hh]; exact Heap.le_trans (Heap.le_set _ hb3) (Heap.le_set _ hb4)
  have hb4n : h b4 = none := by rw [Heap.set_other _ _ hne4_3] at hb4; exact hb4
  clear hh hb4
  have tx : TableAt hx0 D p ts := by
    obtain ⟨mv, ty, hp, hDp, hmap⟩ := t.out
    refine ⟨⟨mv, ty, hle _ _ hp, hDp, hmap.imp id fun ⟨mb, rs, cl, e1, e2, e3, e4, e5⟩ => ⟨mb, rs, cl, e1, e2, ⟨hle _ _ e3.1, e3.2⟩, e4, fun r hr => (e5 r hr).only fun b o _ e _ => hle b o e⟩⟩, fun b hb => ?_⟩
    cases e : h b with
    | none => exact absurd e (t.dom b hb)
    | some o => rw [hle b o e]; simp
  obtain ⟨mv, ty, vs, hp, hDp, hvs1, hvs15, hlook, _, hor⟩ := table_look tx k0
  have hag : (Value.agg #[.int .i64 k0.1.1, .int .i64 k0.1.2.1, .int .u32 k0.1.2.2, .int .u32 k0.2.1, .int .u32 k0.2.2]) = thV k0 := rfl
  obtain ⟨k, ag, mg, is, sv, hans, hany, hvs, hrc, hrl, hone⟩ : ∃ k ag mg is sv, GetAns ts k0 k ag mg is ∧ (ts.any fun x => decide (x.key = k0)) = is ∧ Value.agg vs = entV k ag mg sv ∧ Cells hx0 1 sv mg.srcs.length (mg.srcs.map (.int .u32)) ∧ mg.srcs.length ≤ 1000000 ∧ sv.oneCell' = true := by
    rcases hor with ⟨hz, hno⟩ | ⟨x', hx', hk', sv, hvs, hrow⟩
    · exact ⟨kzero, 0, mzero, false, .slice none 0 0, .inr ⟨rfl, rfl, rfl, rfl, hno⟩, by rw [List.any_eq_false]; exact fun x hx e => hno x hx (by simpa using e), hz, .zero none 0, by decide, rfl⟩
    · exact ⟨k0, x'.age, x'.msg, true, sv, .inl ⟨rfl, rfl, x', hx', hk', rfl, rfl⟩, List.any_eq_true.2 ⟨x', hx', by simpa using hk'⟩, hvs, hrow.cells, hrow.len, hrow.one⟩
  rw [hany] at hlook
  have hvs' : vs = #[.int .i64 k.1.1, .int .i64 k.1.2.1, .int .u32 k.1.2.2, .int .u32 k.2.1, .int .u32 k.2.2, .int .i64 ag, .int .i64 mg.kind, .int .u32 mg.frm, .int .u32 mg.to, .int .u32 mg.src, .int .u32 mg.grp, .int .i64 mg.rank, .int .i64 mg.cost, .bool mg.only, sv] := by
    unfold entV at hvs; exact Value.agg.inj hvs
  subst hvs'
  clear tx hvs
  repeat refine s_seq ?_
  refine s_draw [(0, true), (1, true), (2, true), (3, true), (4, true), (5, true), (6, true), (7, true), (8, true), (9, true), (10, true), (11, true)] [] [10] rfl kR kR ?_
  refine d_pv rfl rfl dC rfl rfl (want_none rfl) (p_val evA) ?_
  refine d_rd0 rfl rfl dC rfl rfl (want_none rfl) (fun _ => PureOp.read (p_val evA) _) ?_
  refine d_pv rfl rfl dC rfl rfl (want_none rfl) (p_fieldAddr (k := 0) rfl evA kR) ?_
  refine d_rd [_] rfl rfl dC rfl rfl (want_none rfl) (r_load1 rfl Try.underlying58 rfl evA (restr1 hpA) ceA) ?_
  refine d_rd [_] rfl rfl dC rfl rfl (want_none rfl) (r_loadN (n := 5) rfl Try.underlying57 rfl evA (restr1 hpA) kR szA) ?_
  refine d_rd (mvBlk mv) rfl rfl dC rfl rfl (want_none rfl) (hlook rfl evA evA) ?_
  refine d_pv rfl rfl dC rfl rfl (want_none rfl) (p_val evA) ?_
  refine d_pv rfl rfl dC rfl rfl (want_none rfl) (p_val evA) ?_
  refine d_pv rfl rfl dC rfl rfl (want_none rfl) (p_val evA) ?_
  refine d_qal rfl rfl dC (by decide) rfl (want_none rfl) (a_allocZ (z := .agg #[.int .i64 0, .int .i64 0, .int .u32 0, .int .u32 0, .int .u32 0, .int .i64 0, .int .i64 0, .int .u32 0, .int .u32 0, .int .u32 0, .int .u32 0, .int .i64 0, .int .i64 0, .bool false, .slice none 0 0]) (zs := #[.int .i64 0, .int .i64 0, .int .u32 0, .int .u32 0, .int .u32 0, .int .i64 0, .int .i64 0, .int .u32 0, .int .u32 0, .int .u32 0, .int .u32 0, .int .i64 0, .int .i64 0, .bool false, .slice none 0 0]) rfl kR rfl) ?_
  intro b6 hb6
  refine d_lst rfl rfl dC (by decide) rfl (want_none rfl) (s_storeN (n := 15) rfl evA evA ocA kR szA kR hpA szA ?_)
  refine d_pv rfl rfl dC rfl rfl (want_none rfl) (p_val evA) ?_
  refine d_nil ?_
  rw [set_set]
  refine genH fun h2 hh => ?_
  have hb6v : h2 b6 = some (.cells #[.int .i64 k.1.1, .int .i64 k.1.2.1, .int .u32 k.1.2.2, .int .u32 k.2.1, .int .u32 k.2.2, .int .i64 ag, .int .i64 mg.kind, .int .u32 mg.frm, .int .u32 mg.to, .int .u32 mg.src, .int .u32 mg.grp, .int .i64 mg.rank, .int .i64 mg.cost, .bool mg.only, sv] 64 (0, 0)) := by rw [hh]; exact Heap.set_same _ _ _
  have hle2 : hx0.le h2 := by rw [hh]; exact Heap.le_set _ hb6
  clear hh hlook
  have hb4w := hle2 _ _ hb4v
  have hcl2 := hrc.le hle2
  have hln := hrl
  have h46 : b4 ≠ b6 := fun e => by rw [e, hb6] at hb4v; cases hb4v
  have hb6n : h b6 = none := by
    cases e : h b6 with
    | none => rfl
    | some o => rw [hle b6 o e] at hb6; cases hb6
  have hmg : (Value.agg #[.int .i64 mg.kind, .int .u32 mg.frm, .int .u32 mg.to, .int .u32 mg.src, .int .u32 mg.grp, .int .i64 mg.rank, .int .i64 mg.cost, .bool mg.only, sv]) = msgV mg sv := rfl
  repeat refine s_seq ?_
  refine s_region ?_
  refine w_pv rfl dC (want_none rfl) (p_fieldAddr (k := 6) rfl evA kR) ?_
  refine w_rd rfl dC (want_none rfl) (r_loadN (n := 9) rfl Try.underlying55 rfl evA hpA kR szA) ?_
  refine w_ac rfl dC (want_none rfl) (s_call rfl rfl Try.func47 kR kR evA ?_); refine (own_ok mg sv hcl2 hln hone).mono ?_; rintro r h3 ⟨hle3, sv2, rfl, hcl3, hone3, hnew3⟩; have hb6w := hle3 _ _ hb6v
  refine w_pv rfl dC (want_none rfl) (p_fieldAddr (k := 6) rfl evA kR) ?_
  refine w_st rfl (want_none rfl) (s_storeN (n := 9) rfl evA evA ocA kR szA kR hpA szA ?_)
  refine w_nil ?_
  refine genH fun h4 hh => ?_
  have hb6x : h4 b6 = some (.cells #[.int .i64 k.1.1, .int .i64 k.1.2.1, .int .u32 k.1.2.2, .int .u32 k.2.1, .int .u32 k.2.2, .int .i64 ag, .int .i64 mg.kind, .int .u32 mg.frm, .int .u32 mg.to, .int .u32 mg.src, .int .u32 mg.grp, .int .i64 mg.rank, .int .i64 mg.cost, .bool mg.only, sv2] 64 (0, 0)) := by rw [hh]; exact Heap.set_same _ _ _
  have hk4 : ∀ q, q ≠ b6 → h4 q = h3 q := fun q hq => by rw [hh]; exact Heap.set_other _ _ hq
  clear hh
  have hb4x : h4 b4 = some (.cells cs4 64 (0, 0)) := by rw [hk4 _ h46]; exact hle3 _ _ hb4w
  have hs6 : ∀ b, blockOf sv2 = some b → b ≠ b6 ∧ b ≠ b4 := fun b e => ⟨fun e1 => (by have := (hnew3 b e).1; rw [e1, hb6v] at this; cases this), fun e1 => (by have := (hnew3 b e).1; rw [e1, hb4w] at this; cases this)⟩
  have hcl4 : Cells h4 1 sv2 mg.srcs.length (mg.srcs.map (.int .u32)) := hcl3.only fun q o hq e => by rw [hk4 q (hs6 q hq).1]; exact e
  have hle4 : h.le h4 := fun q o e => by
    rw [hk4 q (fun e1 => by rw [e1, hb6n] at e; cases e)]; exact hle3 q o (hle2 q o (hle q o e))
  have hsz4 : 0 + 15 ≤ cs4.size := by omega
  have hext : (#[.int .i64 k.1.1, .int .i64 k.1.2.1, .int .u32 k.1.2.2, .int .u32 k.2.1, .int .u32 k.2.2, .int .i64 ag, .int .i64 mg.kind, .int .u32 mg.frm, .int .u32 mg.to, .int .u32 mg.src, .int .u32 mg.grp, .int .i64 mg.rank, .int .i64 mg.cost, .bool mg.only, sv2] : Array Value).extract 0 (0 + 15) = #[.int .i64 k.1.1, .int .i64 k.1.2.1, .int .u32 k.1.2.2, .int .u32 k.2.1, .int .u32 k.2.2, .int .i64 ag, .int .i64 mg.kind, .int .u32 mg.frm, .int .u32 mg.to, .int .u32 mg.src, .int .u32 mg.grp, .int .i64 mg.rank, .int .i64 mg.cost, .bool mg.only, sv2] := Array.extract_size
  repeat refine s_seq ?_
  refine s_region ?_
  refine w_rd rfl dC (want_none rfl) (r_loadN (n := 15) rfl Try.underlying64 rfl evA hpA kR szA) ?_
  refine w_pv rfl dC (want_none rfl) (p_val evA) ?_
  refine w_st rfl (want_none rfl) (s_storeN (n := 15) rfl evA evA ocA kR szA kR hpA szA ?_)
  refine w_pv rfl dC (want_none rfl) (p_val evA) ?_
  refine w_nil ?_
  refine s_ret ⟨_, res_many (rs := [.cell 4 64, .tmp 5]) rfl (by simp) (.cons (res_cellN (n := 15) Try.underlying64 rfl slA (Heap.set_same _ _ _) kR (by simp [splice, hcs4])) (.cons rfl .nil)), Heap.le_set_of hle4 hb4n _, k, ag, mg, is, sv2, hans, ?_, ?_, hln, hone3, ?_⟩
  · simp only [pval, ev, upd, binVal, intBin, Option.map_some, ↓reduceIte, reduceCtorEq, Nat.reduceEqDiff, Nat.reduceBEq, List.map_toArray, List.map_cons, List.map_nil, cond_true, cond_false, decide_true, decide_false, Bool.not_true, Bool.not_false, Bool.true_and, Bool.false_and, Bool.and_true, Bool.and_false, beq_self_eq_true, bne_self_eq_false, List.getElem_toArray, List.getElem_cons_succ, List.getElem_cons_zero]
    have : splice cs4 0 #[.int .i64 k.1.1, .int .i64 k.1.2.1, .int .u32 k.1.2.2, .int .u32 k.2.1, .int .u32 k.2.2, .int .i64 ag, .int .i64 mg.kind, .int .u32 mg.frm, .int .u32 mg.to, .int .u32 mg.src, .int .u32 mg.grp, .int .i64 mg.rank, .int .i64 mg.cost, .bool mg.only, sv2].toList = #[.int .i64 k.1.1, .int .i64 k.1.2.1, .int .u32 k.1.2.2, .int .u32 k.2.1, .int .u32 k.2.2, .int .i64 ag, .int .i64 mg.kind, .int .u32 mg.frm, .int .u32 mg.to, .int .u32 mg.src, .int .u32 mg.grp, .int .i64 mg.rank, .int .i64 mg.cost, .bool mg.only, sv2] := by
      unfold splice
      rw [List.drop_eq_nil_of_le (by simp; omega)]
      rfl
    exact congrArg (fun a => Value.tuple #[.agg a, .bool is]) this
  · exact hcl4.only fun q o hq e => by rw [Heap.set_other _ _ (hs6 q hq).2]; exact e
  · intro q hq
    have h1 := (hnew3 q hq).1
    cases e : h q with
    | none => rfl
    | some o => rw [hle2 q o (hle q o e)] at h1; cases h1
theorem tget_ok {h : Heap} {D : Nat → Prop} {p : Nat} {ts : List AT} (k : ThK) (t : TableAt h D p ts) (x : AT) (hx : x ∈ ts) (hxk : x.key = k) (huniq : ∀ y ∈ ts, y.key = k → y = x) :
    SCalls Try.prog 24 #[.pointer (some ⟨p, 0, none⟩), thV k] h (fun r h' => h.le h' ∧ ∃ sv, r = .tuple #[entV k x.age x.msg sv, .bool true] ∧ Cells h' 1 sv x.msg.srcs.length (x.msg.srcs.map (.int .u32)) ∧ x.msg.srcs.length ≤ 1000000 ∧ sv.oneCell' = true) := by
  refine (tget2_ok k t).mono ?_
  rintro r h' ⟨hle, k', ag, mg, is, sv, hans, rfl, hc, hl, h1, _⟩
  rcases hans with ⟨rfl, rfl, y, hy, hyk, rfl, rfl⟩ | ⟨_, _, _, _, hno⟩
  · cases huniq y hy hyk
    exact ⟨hle, sv, rfl, hc, hl, h1⟩
  · exact absurd hxk (hno x hx)
end Go.Proofs.Ytielfejpnkcjbaa

/- Keys, messages held against each other. -/
set_option linter.unusedVariables false
set_option linter.unusedSimpArgs false
namespace Go.Proofs.Ytielfejpnkcjbaa
open Sl
def keyV (s g : Int) : Value := .agg #[.int .u32 s, .int .u32 g]
theorem sameKey_ok (s1 g1 s2 g2 : Int) (h : Heap) : SCalls Try.prog 26 #[keyV s1 g1, keyV s2 g2] h (fun r h' => h.le h' ∧ r = .bool (s1 == s2 && g1 == g2)) := by
  refine s_enter Try.func26 rfl (by rw [Try.ntmps26]; simp) ?_
  rw [Try.ntmps26]
  generalize hT : T0 #[keyV s1 g1, keyV s2 g2] = T
  have h0 : T 0 = .agg #[.int .u32 s1, .int .u32 g1] := by rw [← hT]; rfl
  have h1 : T 1 = .agg #[.int .u32 s2, .int .u32 g2] := by rw [← hT]; rfl
  clear hT
  repeat refine s_seq ?_
  refine s_region ?_
  refine w_al rfl dC (want_none rfl) (a_boxN rfl evA) ?_
  intro b2 hb2
  refine w_al rfl dC (want_none rfl) (a_boxN rfl evA) ?_
  intro b3 hb3
  have hne3_2 : b3 ≠ b2 := by rintro rfl; first | (simp [Heap.set] at hb3; done) | (simp [Heap.set] at hb3; split at hb3 <;> simp at hb3; done) | (simp [Heap.set] at hb3; (repeat' (split at hb3)) <;> simp_all)
  have hne2_3 := hne3_2.symm
  refine w_pv rfl dC (want_none rfl) (p_val evA) ?_
  refine w_nil ?_
  refine genH fun h2 hh => ?_
  have hb2v : h2 b2 = some (.cells #[.int .u32 s1, .int .u32 g1] 52 (0, 0)) := by rw [hh, Heap.set_other _ _ hne2_3]; exact Heap.set_same _ _ _
  have hb3v : h2 b3 = some (.cells #[.int .u32 s2, .int .u32 g2] 52 (0, 0)) := by rw [hh]; exact Heap.set_same _ _ _
  have hle : h.le h2 := by rw [hh]; exact Heap.le_trans (Heap.le_set _ hb2) (Heap.le_set _ hb3)
  clear hh
  cases hs : (s1 == s2) with
  | true =>
    repeat refine s_seq ?_
    refine s_region ?_
    refine w_pv rfl dC (want_none rfl) (p_fieldAddr (k := 0) rfl evA kR) ?_
    refine w_rd rfl dC (want_none rfl) (r_load1 rfl Try.underlying23 rfl evA hpA ceA) ?_
    refine w_pv rfl dC (want_none rfl) (p_fieldAddr (k := 0) rfl evA kR) ?_
    refine w_rd rfl dC (want_none rfl) (r_load1 rfl Try.underlying23 rfl evA hpA ceA) ?_
    refine w_pv rfl dC (want_none rfl) (p_val evA) ?_
    refine w_pv rfl dC (want_none rfl) (p_val evA) ?_
    refine w_pv rfl dC (want_let rfl rfl evA) (p_fieldAddr (k := 1) rfl evA kR) ?_
    refine w_rd rfl dC (want_let rfl rfl evA) (r_load1 rfl Try.underlying23 rfl evA hpA ceA) ?_
    refine w_pv rfl dC (want_let rfl rfl evA) (p_fieldAddr (k := 1) rfl evA kR) ?_
    refine w_rd rfl dC (want_let rfl rfl evA) (r_load1 rfl Try.underlying23 rfl evA hpA ceA) ?_
    refine w_pv rfl dC (want_let rfl rfl evA) (p_val evA) ?_
    refine w_pv rfl dC (want_none rfl) (p_val evA) ?_
    refine w_pv rfl dC (want_none rfl) (p_val evA) ?_
    refine w_nil ?_
    exact s_ret ⟨_, res_one rfl rfl, hle, slA⟩
  | false =>
    repeat refine s_seq ?_
    refine s_region ?_
    refine w_pv rfl dC (want_none rfl) (p_fieldAddr (k := 0) rfl evA kR) ?_
    refine w_rd rfl dC (want_none rfl) (r_load1 rfl Try.underlying23 rfl evA hpA ceA) ?_
    refine w_pv rfl dC (want_none rfl) (p_fieldAddr (k := 0) rfl evA kR) ?_
    refine w_rd rfl dC (want_none rfl) (r_load1 rfl Try.underlying23 rfl evA hpA ceA) ?_
    refine w_pv rfl dC (want_none rfl) (p_val evA) ?_
    refine w_pv rfl dC (want_none rfl) (p_val evA) ?_
    refine w_skp rfl dC (want_not rfl rfl evA rfl) ?_
    refine w_skp rfl dC (want_not rfl rfl evA rfl) ?_
    refine w_skp rfl dC (want_not rfl rfl evA rfl) ?_
    refine w_skp rfl dC (want_not rfl rfl evA rfl) ?_
    refine w_skp rfl dC (want_not rfl rfl evA rfl) ?_
    refine w_pv rfl dC (want_none rfl) (p_val evA) ?_
    refine w_pv rfl dC (want_none rfl) (p_val evA) ?_
    refine w_nil ?_
    exact s_ret ⟨_, res_one rfl rfl, hle, slA⟩
theorem sameMsg_ok (m : MsgA) (sv1 sv2 : Value) (h : Heap) (hc1 : Cells h 1 sv1 m.srcs.length (m.srcs.map (.int .u32))) (hc2 : Cells h 1 sv2 m.srcs.length (m.srcs.map (.int .u32))) (hn : m.srcs.length ≤ 1000000) (ho1 : sv1.oneCell' = true) (ho2 : sv2.oneCell' = true) :
    SCalls Try.prog 25 #[msgV m sv1, msgV m sv2] h (fun r h' => h.le h' ∧ r = .bool true) := by
  refine s_enter Try.func25 rfl (by rw [Try.ntmps25]; simp) ?_
  rw [Try.ntmps25]
  generalize hT : T0 #[msgV m sv1, msgV m sv2] = T
  have h0 : T 0 = .agg #[.int .i64 m.kind, .int .u32 m.frm, .int .u32 m.to, .int .u32 m.src, .int .u32 m.grp, .int .i64 m.rank, .int .i64 m.cost, .bool m.only, sv1] := by rw [← hT]; rfl
  have h1 : T 1 = .agg #[.int .i64 m.kind, .int .u32 m.frm, .int .u32 m.to, .int .u32 m.src, .int .u32 m.grp, .int .i64 m.rank, .int .i64 m.cost, .bool m.only, sv2] := by rw [← hT]; rfl
  clear hT
  repeat refine s_seq ?_
  refine s_region ?_
  refine w_al rfl dC (want_none rfl) (a_boxN rfl evA) ?_
  intro b2 hb2
  refine w_al rfl dC (want_none rfl) (a_boxN rfl evA) ?_
  intro b3 hb3
  have hne3_2 : b3 ≠ b2 := by rintro rfl; first | (simp [Heap.set] at hb3; done) | (simp [Heap.set] at hb3; split at hb3 <;> simp at hb3; done) | (simp [Heap.set] at hb3; (repeat' (split at hb3)) <;> simp_all)
  have hne2_3 := hne3_2.symm
  refine w_pv rfl dC (want_none rfl) (p_val evA) ?_
  refine w_nil ?_
  refine genH fun h2 hh => ?_
  have hb2v : h2 b2 = some (.cells #[.int .i64 m.kind, .int .u32 m.frm, .int .u32 m.to, .int .u32 m.src, .int .u32 m.grp, .int .i64 m.rank, .int .i64 m.cost, .bool m.only, sv1] 55 (0, 0)) := by rw [hh, Heap.set_other _ _ hne2_3]; exact Heap.set_same _ _ _
  have hb3v : h2 b3 = some (.cells #[.int .i64 m.kind, .int .u32 m.frm, .int .u32 m.to, .int .u32 m.src, .int .u32 m.grp, .int .i64 m.rank, .int .i64 m.cost, .bool m.only, sv2] 55 (0, 0)) := by rw [hh]; exact Heap.set_same _ _ _
  have hle : h.le h2 := by rw [hh]; exact Heap.le_trans (Heap.le_set _ hb2) (Heap.le_set _ hb3)
  clear hh
  have hkey : (Value.agg #[.int .u32 m.src, .int .u32 m.grp]) = keyV m.src m.grp := rfl
  have heq : eqv Try.prog 10000 4 (.bool m.only) (.bool m.only) = some true := by simp [eqv]
  repeat refine s_seq ?_
  refine s_region ?_
  refine w_pv rfl dC (want_none rfl) (p_fieldAddr (k := 0) rfl evA kR) ?_
  refine w_rd rfl dC (want_none rfl) (r_load1 rfl Try.underlying3 rfl evA hpA ceA) ?_
  refine w_pv rfl dC (want_none rfl) (p_fieldAddr (k := 0) rfl evA kR) ?_
  refine w_rd rfl dC (want_none rfl) (r_load1 rfl Try.underlying3 rfl evA hpA ceA) ?_
  refine w_pv rfl dC (want_none rfl) (p_val evA) ?_
  refine w_pv rfl dC (want_none rfl) (p_val evA) ?_
  refine w_pv rfl dC (want_let rfl rfl evA) (p_fieldAddr (k := 1) rfl evA kR) ?_
  refine w_rd rfl dC (want_let rfl rfl evA) (r_load1 rfl Try.underlying23 rfl evA hpA ceA) ?_
  refine w_pv rfl dC (want_let rfl rfl evA) (p_fieldAddr (k := 1) rfl evA kR) ?_
  refine w_rd rfl dC (want_let rfl rfl evA) (r_load1 rfl Try.underlying23 rfl evA hpA ceA) ?_
  refine w_pv rfl dC (want_let rfl rfl evA) (p_val evA) ?_
  refine w_pv rfl dC (want_none rfl) (p_val evA) ?_
  refine w_pv rfl dC (want_none rfl) (p_val evA) ?_
  refine w_pv rfl dC (want_let rfl rfl evA) (p_fieldAddr (k := 2) rfl evA kR) ?_
  refine w_rd rfl dC (want_let rfl rfl evA) (r_load1 rfl Try.underlying23 rfl evA hpA ceA) ?_
  refine w_pv rfl dC (want_let rfl rfl evA) (p_fieldAddr (k := 2) rfl evA kR) ?_
  refine w_rd rfl dC (want_let rfl rfl evA) (r_load1 rfl Try.underlying23 rfl evA hpA ceA) ?_
  refine w_pv rfl dC (want_let rfl rfl evA) (p_val evA) ?_
  refine w_pv rfl dC (want_none rfl) (p_val evA) ?_
  refine w_pv rfl dC (want_none rfl) (p_val evA) ?_
  refine w_pv rfl dC (want_let rfl rfl evA) (p_fieldAddr (k := 3) rfl evA kR) ?_
  refine w_rd rfl dC (want_let rfl rfl evA) (r_loadN (n := 2) rfl Try.underlying52 rfl evA hpA kR szA) ?_
  refine w_pv rfl dC (want_let rfl rfl evA) (p_fieldAddr (k := 3) rfl evA kR) ?_
  refine w_rd rfl dC (want_let rfl rfl evA) (r_loadN (n := 2) rfl Try.underlying52 rfl evA hpA kR szA) ?_
  refine w_ac rfl dC (want_let rfl rfl evA) (s_call rfl rfl Try.func26 kR kR evA ?_); refine (sameKey_ok m.src m.grp m.src m.grp _).mono ?_; rintro r h3 ⟨hle3, rfl⟩; have hb2w := hle3 _ _ hb2v; have hb3w := hle3 _ _ hb3v
  refine w_pv rfl dC (want_none rfl) (p_val evA) ?_
  refine w_pv rfl dC (want_none rfl) (p_val evA) ?_
  refine w_pv rfl dC (want_let rfl rfl evA) (p_fieldAddr (k := 5) rfl evA kR) ?_
  refine w_rd rfl dC (want_let rfl rfl evA) (r_load1 rfl Try.underlying3 rfl evA hpA ceA) ?_
  refine w_pv rfl dC (want_let rfl rfl evA) (p_fieldAddr (k := 5) rfl evA kR) ?_
  refine w_rd rfl dC (want_let rfl rfl evA) (r_load1 rfl Try.underlying3 rfl evA hpA ceA) ?_
  refine w_pv rfl dC (want_let rfl rfl evA) (p_val evA) ?_
  refine w_pv rfl dC (want_none rfl) (p_val evA) ?_
  refine w_pv rfl dC (want_none rfl) (p_val evA) ?_
  refine w_pv rfl dC (want_let rfl rfl evA) (p_fieldAddr (k := 6) rfl evA kR) ?_
  refine w_rd rfl dC (want_let rfl rfl evA) (r_load1 rfl Try.underlying3 rfl evA hpA ceA) ?_
  refine w_pv rfl dC (want_let rfl rfl evA) (p_fieldAddr (k := 6) rfl evA kR) ?_
  refine w_rd rfl dC (want_let rfl rfl evA) (r_load1 rfl Try.underlying3 rfl evA hpA ceA) ?_
  refine w_pv rfl dC (want_let rfl rfl evA) (p_val evA) ?_
  refine w_pv rfl dC (want_none rfl) (p_val evA) ?_
  refine w_pv rfl dC (want_none rfl) (p_val evA) ?_
  refine w_pv rfl dC (want_let rfl rfl evA) (p_fieldAddr (k := 7) rfl evA kR) ?_
  refine w_rd rfl dC (want_let rfl rfl evA) (r_load1 rfl Try.underlying4 rfl evA hpA ceA) ?_
  refine w_pv rfl dC (want_let rfl rfl evA) (p_fieldAddr (k := 7) rfl evA kR) ?_
  refine w_rd rfl dC (want_let rfl rfl evA) (r_load1 rfl Try.underlying4 rfl evA hpA ceA) ?_
  refine w_rd rfl dC (want_let rfl rfl evA) (r_eql rfl evA evA gdA eqA rfl) ?_
  refine w_pv rfl dC (want_none rfl) (p_val evA) ?_
  refine w_pv rfl dC (want_none rfl) (p_val evA) ?_
  refine w_pv rfl dC (want_let rfl rfl evA) (p_fieldAddr (k := 8) rfl evA kR) ?_
  refine w_rd rfl dC (want_let rfl rfl evA) (r_load1 rfl Try.underlying53 rfl evA hpA ceA) ?_
  refine w_pv rfl dC (want_let rfl rfl evA) (p_fieldAddr (k := 8) rfl evA kR) ?_
  refine w_rd rfl dC (want_let rfl rfl evA) (r_load1 rfl Try.underlying53 rfl evA hpA ceA) ?_
  refine w_ac rfl dC (want_let rfl rfl evA) (s_call rfl rfl Try.func48 kR kR evA ?_); refine (sameAddrs_ok sv1 sv2 m.srcs m.srcs _ ((hc1.le hle).le hle3) ((hc2.le hle).le hle3) (by omega) (by omega)).mono ?_; rintro r h4 ⟨rfl, rfl⟩
  refine w_pv rfl dC (want_none rfl) (p_val evA) ?_
  refine w_pv rfl dC (want_none rfl) (p_val evA) ?_
  refine w_nil ?_
  exact s_ret ⟨_, res_one rfl rfl, Heap.le_trans hle hle3, slA⟩
end Go.Proofs.Ytielfejpnkcjbaa

/- Made slices; lists of addresses copied one by one. -/
set_option linter.unusedVariables false
set_option linter.unusedSimpArgs false
namespace Go.Proofs.Ytielfejpnkcjbaa.Sl
/-- 'make([]T, l, c)'. -/
theorem s_makeSlice {P : Program} {o : Oper} {ρ : Operand → Value} {h : Heap} {K' : Value → Heap → Prop} {t e sz l c : Nat} {x y : Operand} {k k' : IntKind} (ho : o.op = .makeSlice t x y) (hu : P.underlying t = some (.slice e)) (hi : infoOk P e sz = true) (hx : ρ x = .int k (l : Nat)) (hy : ρ y = .int k' (c : Nat)) (hlc : l ≤ c) (hc : c ≤ 1000000)
    (kk : ∀ b cells, h b = none → cells.size = c * sz → K' (.slice (some ⟨b, 0, none⟩) l c) (h.set b (.cells cells e))) : SOp P o ρ h K' := by
  obtain ⟨i, z, hi, hz, hs, hz1, hb⟩ := infoOk_spec hi
  refine sop_alloc_at (obj := .cells (madeCells z.cells (c * i.size)) e) (vf := fun b => .slice (some ⟨b, 0, none⟩) l c) (fun w _ => ?_) (fun b hb => kk b _ hb (by rw [size_madeCells, hs]))
  have hm : i.bytes * c ≤ 4096 * 1000000 := Nat.mul_le_mul hb hc
  have hm' : (i.bytes : Int) * (c : Int) ≤ 281474976710656 := by
    have : ((i.bytes * c : Nat) : Int) ≤ ((4096 * 1000000 : Nat) : Int) := Int.ofNat_le.2 hm
    rw [Int.natCast_mul] at this
    omega
  have := run_make (P := P) w t e i z hu hi hz k k' (l : Int) (c : Int) (by omega) (by omega) hm' (by omega)
  simp only [execOp, ho, hx, hy, this, Sem.run_bind, Sem.run_map, Result.andThen_ok, Sem.run_pure, Int.toNat_natCast]
end Go.Proofs.Ytielfejpnkcjbaa.Sl
namespace Go.Proofs.Ytielfejpnkcjbaa
open Sl
theorem addrs_ok {h : Heap} {v : Value} (xs : List Int) (hc : Cells h 1 v xs.length (xs.map (.int .u32))) (hn : xs.length ≤ 1000000) :
    SCalls Try.prog 21 #[v] h (fun r h' => h.le h' ∧ Own h' 23 1 r xs.length (xs.map (.int .u32)) ∧ ∀ b, blockOf r = some b → h b = none) := by
  refine s_enter Try.func21 rfl (by rw [Try.ntmps21]; simp) ?_
  rw [Try.ntmps21]
  obtain ⟨a, c, rfl⟩ := hc.form
  generalize hT : T0 #[.slice a xs.length c] = T
  have h0 : T 0 = .slice a xs.length c := by rw [← hT]; rfl
  clear hT
  repeat refine s_seq ?_
  refine s_region ?_
  refine w_pv rfl dC (want_none rfl) (p_val evA) ?_
  refine w_nil ?_
  repeat refine s_seq ?_
  refine s_region ?_
  refine w_pv rfl dC (want_none rfl) (p_val evA) ?_
  refine w_rd rfl dC (want_none rfl) (r_len_slice rfl Try.underlying53 evA) ?_
  refine w_ac rfl dC (want_none rfl) (s_makeSlice (l := 0) (sz := 1) rfl Try.underlying53 kR evA evA (Nat.zero_le _) hn ?_); intro b0 cells hb0 hcells
  refine w_pv rfl dC (want_none rfl) (p_val evA) ?_
  refine w_nil ?_
  repeat refine s_seq ?_
  refine s_region ?_
  refine w_pv rfl dC (want_none rfl) (p_val evA) ?_
  refine w_nil ?_
  have hle := Heap.le_set (.cells cells 23 (0, 0)) hb0
  have hown : Own (h.set b0 (.cells cells 23 (0, 0))) 23 1 (.slice (some ⟨b0, 0, none⟩) 0 xs.length) 0 [] := .at_ (Heap.set_same _ _ _) rfl (Nat.zero_le _) (by omega) (by simp)
  generalize (h.set b0 (.cells cells 23 (0, 0))) = hx at hle hown ⊢
  refine (s_block (s_loop (fun m T h' => ∃ (i : Nat) (v : Value), m = xs.length - i ∧ i ≤ xs.length ∧ h.le h' ∧ Own h' 23 1 v i ((xs.map (Value.int .u32)).take i) ∧ (∀ b, blockOf v = some b → h b = none) ∧ T 0 = .slice a xs.length c ∧ T 3 = v ∧ T 4 = .int .i64 (i : Nat)) (n0 := xs.length)
    ⟨0, _, by omega, by omega, hle, hown, fun b e => (by cases e; exact hb0), slA, by simp only [pval, ev, upd, binVal, intBin, Option.map_some, ↓reduceIte, reduceCtorEq, Nat.reduceEqDiff, Nat.reduceBEq, List.map_toArray, List.map_cons, List.map_nil, cond_true, cond_false, decide_true, decide_false, Bool.not_true, Bool.not_false, Bool.true_and, Bool.false_and, Bool.and_true, Bool.and_false, beq_self_eq_true, bne_self_eq_false, List.getElem_toArray, List.getElem_cons_succ, List.getElem_cons_zero, *] <;> rfl, by simp only [pval, ev, upd, binVal, intBin, Option.map_some, ↓reduceIte, reduceCtorEq, Nat.reduceEqDiff, Nat.reduceBEq, List.map_toArray, List.map_cons, List.map_nil, cond_true, cond_false, decide_true, decide_false, Bool.not_true, Bool.not_false, Bool.true_and, Bool.false_and, Bool.and_true, Bool.and_false, beq_self_eq_true, bne_self_eq_false, List.getElem_toArray, List.getElem_cons_succ, List.getElem_cons_zero, *] <;> rfl⟩ ?_))
  clear h0 T hle hown
  rintro m T h' ⟨i, v, rfl, hi, hle, hown, hnew, h0, h3, h4⟩
  by_cases hlt : i < xs.length
  · have e1 : decide ((i : Int) < (xs.length : Int)) = true := decide_eq_true (by omega)
    have hw3 : IntKind.i64.wrap ((i : Int) + 1) = ((i + 1 : Nat) : Int) := wrap64_nat _ _ (by omega) (by omega)
    obtain ⟨b1, o1, k1, f1, t1, z1, q1, hb1, hg1⟩ := (hc.le hle).get hlt
    cases q1
    obtain ⟨x, hxi⟩ : ∃ x, xs[i]? = some x := ⟨_, List.getElem?_eq_getElem hlt⟩
    have g1 : f1[o1 + i * 1]? = some (.int .u32 x) := by have := hg1 0 (by omega); simpa [hxi] using this
    clear hg1
    have hii : (0 : Int) ≤ (i : Int) := by omega
    have hi1 : (i : Int) < (xs.length : Int) := by omega
    repeat refine s_seq ?_
    refine s_region ?_
    refine w_pv rfl dC (want_none rfl) (p_val evA) ?_
    refine w_pv rfl dC (want_none rfl) (p_val evA) ?_
    refine w_rd rfl dC (want_none rfl) (r_len_slice rfl Try.underlying53 evA) ?_
    refine w_pv rfl dC (want_none rfl) (p_val evA) ?_
    refine w_nil ?_
    repeat refine s_seq ?_
    refine s_cond (t := true) slA ?_
    repeat refine s_seq ?_
    refine s_skip ?_
    repeat refine s_seq ?_
    refine s_block ?_
    repeat refine s_seq ?_
    refine s_region ?_
    refine w_pv rfl dC (want_none rfl) (p_val evA) ?_
    refine w_pv rfl dC (want_none rfl) (p_val evA) ?_
    refine w_pv rfl dC (want_none rfl) (p_val evA) ?_
    refine w_pv rfl dC (want_none rfl) (p_indexAddr (sz := 1) rfl Try.underlying53 kR kR evA evA hii hi1) ?_
    refine w_rd rfl dC (want_none rfl) (r_load1 rfl Try.underlying23 rfl evA hpA ceA) ?_
    refine w_al rfl dC (want_none rfl) (a_buildSlice1 (sz := 1) rfl Try.underlying53 evA kR ceA (by decide) (by decide)) ?_
    intro b19 hb19
    have hle19 := Heap.le_set (.cells #[.int .u32 x] 23 (0, 0)) hb19; refine w_ac rfl dC (want_none rfl) (s_append (sz := 1) rfl Try.underlying53 Try.underlying53 kR evA evA (hown.le hle19) (.at_ (cs := [.int .u32 x]) (Heap.set_same _ _ _) rfl (Nat.le_refl _) rfl) (by simp [Value.oneCell']) (by omega) ?_); intro v' h2 own' grew
    refine w_pv rfl dC (want_none rfl) (p_val evA) ?_
    refine w_nil ?_
    have hle2 : h.le h2 := fun q o e => grew.same q o (hle19 q o (hle q o e)) fun e1 => by have := hnew q e1.symm; rw [this] at e; cases e
    have htk : (xs.map (Value.int .u32)).take i ++ [.int .u32 x] = (xs.map (Value.int .u32)).take (i + 1) := by
      rw [List.take_add_one]; simp [hxi]
    rw [htk] at own'
    have hnew2 : ∀ b, blockOf v' = some b → h b = none := fun b e => by
      rcases grew.blk with e1 | ⟨b', e1, e2⟩
      · exact hnew b (by rw [← e1]; exact e)
      · rw [e] at e1; cases e1
        cases e3 : h b with
        | none => rfl
        | some o => exact absurd ((hle19 b o (hle b o e3)).symm.trans e2) (by simp)
    clear hxi htk
    repeat refine s_seq ?_
    refine s_region ?_
    refine w_pv rfl dC (want_none rfl) (p_val evA) ?_
    refine w_pv rfl dC (want_none rfl) (p_val evA) ?_
    refine w_pv rfl dC (want_none rfl) (p_val evA) ?_
    refine w_nil ?_
    exact ⟨xs.length - (i + 1), by omega, i + 1, v', rfl, by omega, hle2, own', hnew2, slA, slA, slA⟩
  · have hin : i = xs.length := by omega
    have e1 : decide ((i : Int) < (xs.length : Int)) = false := decide_eq_false (by omega)
    rw [hin, List.take_of_length_le (by simp)] at hown
    clear hin
    repeat refine s_seq ?_
    refine s_region ?_
    refine w_pv rfl dC (want_none rfl) (p_val evA) ?_
    refine w_pv rfl dC (want_none rfl) (p_val evA) ?_
    refine w_rd rfl dC (want_none rfl) (r_len_slice rfl Try.underlying53 evA) ?_
    refine w_pv rfl dC (want_none rfl) (p_val evA) ?_
    refine w_nil ?_
    repeat refine s_seq ?_
    refine s_cond (t := false) slA ?_
    repeat refine s_seq ?_
    refine s_exit ?_
    repeat refine s_seq ?_
    refine s_region ?_
    refine w_pv rfl dC (want_none rfl) (p_val evA) ?_
    refine w_pv rfl dC (want_none rfl) (p_val evA) ?_
    refine w_nil ?_
    exact s_ret ⟨_, res_one rfl rfl, hle, by simp only [pval, ev, upd, binVal, intBin, Option.map_some, ↓reduceIte, reduceCtorEq, Nat.reduceEqDiff, Nat.reduceBEq, List.map_toArray, List.map_cons, List.map_nil, cond_true, cond_false, decide_true, decide_false, Bool.not_true, Bool.not_false, Bool.true_and, Bool.false_and, Bool.and_true, Bool.and_false, beq_self_eq_true, bne_self_eq_false, List.getElem_toArray, List.getElem_cons_succ, List.getElem_cons_zero, *] <;> exact hown, fun b e => hnew b (by simp only [pval, ev, upd, binVal, intBin, Option.map_some, ↓reduceIte, reduceCtorEq, Nat.reduceEqDiff, Nat.reduceBEq, List.map_toArray, List.map_cons, List.map_nil, cond_true, cond_false, decide_true, decide_false, Bool.not_true, Bool.not_false, Bool.true_and, Bool.false_and, Bool.and_true, Bool.and_false, beq_self_eq_true, bne_self_eq_false, List.getElem_toArray, List.getElem_cons_succ, List.getElem_cons_zero, *] at e; exact e)⟩
end Go.Proofs.Ytielfejpnkcjbaa

/- cmp.Compare, cmp.Or. -/
set_option linter.unusedVariables false
set_option linter.unusedSimpArgs false
namespace Go.Proofs.Ytielfejpnkcjbaa
open Sl
def cmpI (a b : Int) : Int := if a < b then -1 else if a > b then 1 else 0
theorem isNaNInt_ok (a : Int) (h : Heap) : SCalls Try.prog 68 #[.int .i64 a] h (fun r h' => h' = h ∧ r = .bool false) := by
  refine s_enter Try.func68 rfl (by rw [Try.ntmps68]; simp) ?_
  rw [Try.ntmps68]
  generalize hT : T0 #[.int .i64 a] = T
  have h0 : T 0 = .int .i64 a := by rw [← hT]; rfl
  clear hT
  repeat refine s_seq ?_
  refine s_region ?_
  refine w_pv rfl dC (want_none rfl) (p_val evA) ?_
  refine w_nil ?_
  repeat refine s_seq ?_
  refine s_region ?_
  refine w_pv rfl dC (want_none rfl) (p_val evA) ?_
  refine w_pv rfl dC (want_none rfl) (p_val evA) ?_
  refine w_pv rfl dC (want_none rfl) (p_val evA) ?_
  refine w_pv rfl dC (want_none rfl) (p_val evA) ?_
  refine w_nil ?_
  exact s_ret ⟨_, res_one rfl rfl, rfl, slA⟩
theorem cmpInt_ok (a b : Int) (h : Heap) : SCalls Try.prog 59 #[.int .i64 a, .int .i64 b] h (fun r h' => h' = h ∧ r = .int .i64 (cmpI a b)) := by
  refine s_enter Try.func59 rfl (by rw [Try.ntmps59]; simp) ?_
  rw [Try.ntmps59]
  generalize hT : T0 #[.int .i64 a, .int .i64 b] = T
  have h0 : T 0 = .int .i64 a := by rw [← hT]; rfl
  have h1 : T 1 = .int .i64 b := by rw [← hT]; rfl
  clear hT
  unfold cmpI
  by_cases hlt : a < b
  · have e1 : decide (a < b) = true := decide_eq_true hlt
    simp only [if_pos hlt]
    clear hlt
    repeat refine s_seq ?_
    refine s_region ?_
    refine w_pv rfl dC (want_none rfl) (p_val evA) ?_
    refine w_nil ?_
    repeat refine s_seq ?_
    refine s_region ?_
    refine w_pv rfl dC (want_none rfl) (p_val evA) ?_
    refine w_ac rfl dC (want_none rfl) (s_call rfl rfl Try.func68 kR kR evA ?_); refine (isNaNInt_ok _ _).mono ?_; rintro _ h ⟨rfl, rfl⟩
    refine w_pv rfl dC (want_none rfl) (p_val evA) ?_
    refine w_nil ?_
    repeat refine s_seq ?_
    refine s_region ?_
    refine w_pv rfl dC (want_none rfl) (p_val evA) ?_
    refine w_ac rfl dC (want_none rfl) (s_call rfl rfl Try.func68 kR kR evA ?_); refine (isNaNInt_ok _ _).mono ?_; rintro _ h ⟨rfl, rfl⟩
    refine w_pv rfl dC (want_none rfl) (p_val evA) ?_
    refine w_nil ?_
    repeat refine s_seq ?_
    refine s_region ?_
    refine w_pv rfl dC (want_none rfl) (p_val evA) ?_
    refine w_nil ?_
    repeat refine s_seq ?_
    refine s_cond (t := false) slA ?_
    repeat refine s_seq ?_
    refine s_skip ?_
    repeat refine s_seq ?_
    refine s_region ?_
    refine w_pv rfl dC (want_none rfl) (p_val evA) ?_
    refine w_nil ?_
    repeat refine s_seq ?_
    refine s_cond (t := false) slA ?_
    repeat refine s_seq ?_
    refine s_skip ?_
    repeat refine s_seq ?_
    refine s_region ?_
    refine w_pv rfl dC (want_none rfl) (p_val evA) ?_
    refine w_pv rfl dC (want_none rfl) (p_val evA) ?_
    refine w_pv rfl dC (want_none rfl) (p_val evA) ?_
    refine w_nil ?_
    repeat refine s_seq ?_
    refine s_cond (t := true) slA ?_
    repeat refine s_seq ?_
    refine s_region ?_
    refine w_pv rfl dC (want_none rfl) (p_val evA) ?_
    refine w_nil ?_
    exact s_ret ⟨_, res_one rfl rfl, rfl, slA⟩
  · have e1 : decide (a < b) = false := decide_eq_false hlt
    simp only [if_neg hlt]
    by_cases hgt : a > b
    · have e2 : decide (a > b) = true := decide_eq_true hgt
      simp only [if_pos hgt]
      clear hlt hgt
      repeat refine s_seq ?_
      refine s_region ?_
      refine w_pv rfl dC (want_none rfl) (p_val evA) ?_
      refine w_nil ?_
      repeat refine s_seq ?_
      refine s_region ?_
      refine w_pv rfl dC (want_none rfl) (p_val evA) ?_
      refine w_ac rfl dC (want_none rfl) (s_call rfl rfl Try.func68 kR kR evA ?_); refine (isNaNInt_ok _ _).mono ?_; rintro _ h ⟨rfl, rfl⟩
      refine w_pv rfl dC (want_none rfl) (p_val evA) ?_
      refine w_nil ?_
      repeat refine s_seq ?_
      refine s_region ?_
      refine w_pv rfl dC (want_none rfl) (p_val evA) ?_
      refine w_ac rfl dC (want_none rfl) (s_call rfl rfl Try.func68 kR kR evA ?_); refine (isNaNInt_ok _ _).mono ?_; rintro _ h ⟨rfl, rfl⟩
      refine w_pv rfl dC (want_none rfl) (p_val evA) ?_
      refine w_nil ?_
      repeat refine s_seq ?_
      refine s_region ?_
      refine w_pv rfl dC (want_none rfl) (p_val evA) ?_
      refine w_nil ?_
      repeat refine s_seq ?_
      refine s_cond (t := false) slA ?_
      repeat refine s_seq ?_
      refine s_skip ?_
      repeat refine s_seq ?_
      refine s_region ?_
      refine w_pv rfl dC (want_none rfl) (p_val evA) ?_
      refine w_nil ?_
      repeat refine s_seq ?_
      refine s_cond (t := false) slA ?_
      repeat refine s_seq ?_
      refine s_skip ?_
      repeat refine s_seq ?_
      refine s_region ?_
      refine w_pv rfl dC (want_none rfl) (p_val evA) ?_
      refine w_pv rfl dC (want_none rfl) (p_val evA) ?_
      refine w_pv rfl dC (want_none rfl) (p_val evA) ?_
      refine w_nil ?_
      repeat refine s_seq ?_
      refine s_cond (t := false) slA ?_
      repeat refine s_seq ?_
      refine s_skip ?_
      repeat refine s_seq ?_
      refine s_region ?_
      refine w_pv rfl dC (want_none rfl) (p_val evA) ?_
      refine w_pv rfl dC (want_none rfl) (p_val evA) ?_
      refine w_pv rfl dC (want_none rfl) (p_val evA) ?_
      refine w_nil ?_
      repeat refine s_seq ?_
      refine s_cond (t := true) slA ?_
      repeat refine s_seq ?_
      refine s_region ?_
      refine w_pv rfl dC (want_none rfl) (p_val evA) ?_
      refine w_nil ?_
      exact s_ret ⟨_, res_one rfl rfl, rfl, slA⟩
    · have e2 : decide (a > b) = false := decide_eq_false hgt
      simp only [if_neg hgt]
      clear hlt hgt
      repeat refine s_seq ?_
      refine s_region ?_
      refine w_pv rfl dC (want_none rfl) (p_val evA) ?_
      refine w_nil ?_
      repeat refine s_seq ?_
      refine s_region ?_
      refine w_pv rfl dC (want_none rfl) (p_val evA) ?_
      refine w_ac rfl dC (want_none rfl) (s_call rfl rfl Try.func68 kR kR evA ?_); refine (isNaNInt_ok _ _).mono ?_; rintro _ h ⟨rfl, rfl⟩
      refine w_pv rfl dC (want_none rfl) (p_val evA) ?_
      refine w_nil ?_
      repeat refine s_seq ?_
      refine s_region ?_
      refine w_pv rfl dC (want_none rfl) (p_val evA) ?_
      refine w_ac rfl dC (want_none rfl) (s_call rfl rfl Try.func68 kR kR evA ?_); refine (isNaNInt_ok _ _).mono ?_; rintro _ h ⟨rfl, rfl⟩
      refine w_pv rfl dC (want_none rfl) (p_val evA) ?_
      refine w_nil ?_
      repeat refine s_seq ?_
      refine s_region ?_
      refine w_pv rfl dC (want_none rfl) (p_val evA) ?_
      refine w_nil ?_
      repeat refine s_seq ?_
      refine s_cond (t := false) slA ?_
      repeat refine s_seq ?_
      refine s_skip ?_
      repeat refine s_seq ?_
      refine s_region ?_
      refine w_pv rfl dC (want_none rfl) (p_val evA) ?_
      refine w_nil ?_
      repeat refine s_seq ?_
      refine s_cond (t := false) slA ?_
      repeat refine s_seq ?_
      refine s_skip ?_
      repeat refine s_seq ?_
      refine s_region ?_
      refine w_pv rfl dC (want_none rfl) (p_val evA) ?_
      refine w_pv rfl dC (want_none rfl) (p_val evA) ?_
      refine w_pv rfl dC (want_none rfl) (p_val evA) ?_
      refine w_nil ?_
      repeat refine s_seq ?_
      refine s_cond (t := false) slA ?_
      repeat refine s_seq ?_
      refine s_skip ?_
      repeat refine s_seq ?_
      refine s_region ?_
      refine w_pv rfl dC (want_none rfl) (p_val evA) ?_
      refine w_pv rfl dC (want_none rfl) (p_val evA) ?_
      refine w_pv rfl dC (want_none rfl) (p_val evA) ?_
      refine w_nil ?_
      repeat refine s_seq ?_
      refine s_cond (t := false) slA ?_
      repeat refine s_seq ?_
      refine s_skip ?_
      repeat refine s_seq ?_
      refine s_region ?_
      refine w_pv rfl dC (want_none rfl) (p_val evA) ?_
      refine w_nil ?_
      exact s_ret ⟨_, res_one rfl rfl, rfl, slA⟩
theorem isNaNAddr_ok (a : Int) (h : Heap) : SCalls Try.prog 67 #[.int .u32 a] h (fun r h' => h' = h ∧ r = .bool false) := by
  refine s_enter Try.func67 rfl (by rw [Try.ntmps67]; simp) ?_
  rw [Try.ntmps67]
  generalize hT : T0 #[.int .u32 a] = T
  have h0 : T 0 = .int .u32 a := by rw [← hT]; rfl
  clear hT
  repeat refine s_seq ?_
  refine s_region ?_
  refine w_pv rfl dC (want_none rfl) (p_val evA) ?_
  refine w_nil ?_
  repeat refine s_seq ?_
  refine s_region ?_
  refine w_pv rfl dC (want_none rfl) (p_val evA) ?_
  refine w_pv rfl dC (want_none rfl) (p_val evA) ?_
  refine w_pv rfl dC (want_none rfl) (p_val evA) ?_
  refine w_pv rfl dC (want_none rfl) (p_val evA) ?_
  refine w_nil ?_
  exact s_ret ⟨_, res_one rfl rfl, rfl, slA⟩
theorem cmpAddr_ok (a b : Int) (h : Heap) : SCalls Try.prog 58 #[.int .u32 a, .int .u32 b] h (fun r h' => h' = h ∧ r = .int .i64 (cmpI a b)) := by
  refine s_enter Try.func58 rfl (by rw [Try.ntmps58]; simp) ?_
  rw [Try.ntmps58]
  generalize hT : T0 #[.int .u32 a, .int .u32 b] = T
  have h0 : T 0 = .int .u32 a := by rw [← hT]; rfl
  have h1 : T 1 = .int .u32 b := by rw [← hT]; rfl
  clear hT
  unfold cmpI
  by_cases hlt : a < b
  · have e1 : decide (a < b) = true := decide_eq_true hlt
    simp only [if_pos hlt]
    clear hlt
    repeat refine s_seq ?_
    refine s_region ?_
    refine w_pv rfl dC (want_none rfl) (p_val evA) ?_
    refine w_nil ?_
    repeat refine s_seq ?_
    refine s_region ?_
    refine w_pv rfl dC (want_none rfl) (p_val evA) ?_
    refine w_ac rfl dC (want_none rfl) (s_call rfl rfl Try.func67 kR kR evA ?_); refine (isNaNAddr_ok _ _).mono ?_; rintro _ h ⟨rfl, rfl⟩
    refine w_pv rfl dC (want_none rfl) (p_val evA) ?_
    refine w_nil ?_
    repeat refine s_seq ?_
    refine s_region ?_
    refine w_pv rfl dC (want_none rfl) (p_val evA) ?_
    refine w_ac rfl dC (want_none rfl) (s_call rfl rfl Try.func67 kR kR evA ?_); refine (isNaNAddr_ok _ _).mono ?_; rintro _ h ⟨rfl, rfl⟩
    refine w_pv rfl dC (want_none rfl) (p_val evA) ?_
    refine w_nil ?_
    repeat refine s_seq ?_
    refine s_region ?_
    refine w_pv rfl dC (want_none rfl) (p_val evA) ?_
    refine w_nil ?_
    repeat refine s_seq ?_
    refine s_cond (t := false) slA ?_
    repeat refine s_seq ?_
    refine s_skip ?_
    repeat refine s_seq ?_
    refine s_region ?_
    refine w_pv rfl dC (want_none rfl) (p_val evA) ?_
    refine w_nil ?_
    repeat refine s_seq ?_
    refine s_cond (t := false) slA ?_
    repeat refine s_seq ?_
    refine s_skip ?_
    repeat refine s_seq ?_
    refine s_region ?_
    refine w_pv rfl dC (want_none rfl) (p_val evA) ?_
    refine w_pv rfl dC (want_none rfl) (p_val evA) ?_
    refine w_pv rfl dC (want_none rfl) (p_val evA) ?_
    refine w_nil ?_
    repeat refine s_seq ?_
    refine s_cond (t := true) slA ?_
    repeat refine s_seq ?_
    refine s_region ?_
    refine w_pv rfl dC (want_none rfl) (p_val evA) ?_
    refine w_nil ?_
    exact s_ret ⟨_, res_one rfl rfl, rfl, slA⟩
  · have e1 : decide (a < b) = false := decide_eq_false hlt
    simp only [if_neg hlt]
    by_cases hgt : a > b
    · have e2 : decide (a > b) = true := decide_eq_true hgt
      simp only [if_pos hgt]
      clear hlt hgt
      repeat refine s_seq ?_
      refine s_region ?_
      refine w_pv rfl dC (want_none rfl) (p_val evA) ?_
      refine w_nil ?_
      repeat refine s_seq ?_
      refine s_region ?_
      refine w_pv rfl dC (want_none rfl) (p_val evA) ?_
      refine w_ac rfl dC (want_none rfl) (s_call rfl rfl Try.func67 kR kR evA ?_); refine (isNaNAddr_ok _ _).mono ?_; rintro _ h ⟨rfl, rfl⟩
      refine w_pv rfl dC (want_none rfl) (p_val evA) ?_
      refine w_nil ?_
      repeat refine s_seq ?_
      refine s_region ?_
      refine w_pv rfl dC (want_none rfl) (p_val evA) ?_
      refine w_ac rfl dC (want_none rfl) (s_call rfl rfl Try.func67 kR kR evA ?_); refine (isNaNAddr_ok _ _).mono ?_; rintro _ h ⟨rfl, rfl⟩
      refine w_pv rfl dC (want_none rfl) (p_val evA) ?_
      refine w_nil ?_
      repeat refine s_seq ?_
      refine s_region ?_
      refine w_pv rfl dC (want_none rfl) (p_val evA) ?_
      refine w_nil ?_
      repeat refine s_seq ?_
      refine s_cond (t := false) slA ?_
      repeat refine s_seq ?_
      refine s_skip ?_
      repeat refine s_seq ?_
      refine s_region ?_
      refine w_pv rfl dC (want_none rfl) (p_val evA) ?_
      refine w_nil ?_
      repeat refine s_seq ?_
      refine s_cond (t := false) slA ?_
      repeat refine s_seq ?_
      refine s_skip ?_
      repeat refine s_seq ?_
      refine s_region ?_
      refine w_pv rfl dC (want_none rfl) (p_val evA) ?_
      refine w_pv rfl dC (want_none rfl) (p_val evA) ?_
      refine w_pv rfl dC (want_none rfl) (p_val evA) ?_
      refine w_nil ?_
      repeat refine s_seq ?_
      refine s_cond (t := false) slA ?_
      repeat refine s_seq ?_
      refine s_skip ?_
      repeat refine s_seq ?_
      refine s_region ?_
      refine w_pv rfl dC (want_none rfl) (p_val evA) ?_
      refine w_pv rfl dC (want_none rfl) (p_val evA) ?_
      refine w_pv rfl dC (want_none rfl) (p_val evA) ?_
      refine w_nil ?_
      repeat refine s_seq ?_
      refine s_cond (t := true) slA ?_
      repeat refine s_seq ?_
      refine s_region ?_
      refine w_pv rfl dC (want_none rfl) (p_val evA) ?_
      refine w_nil ?_
      exact s_ret ⟨_, res_one rfl rfl, rfl, slA⟩
    · have e2 : decide (a > b) = false := decide_eq_false hgt
      simp only [if_neg hgt]
      clear hlt hgt
      repeat refine s_seq ?_
      refine s_region ?_
      refine w_pv rfl dC (want_none rfl) (p_val evA) ?_
      refine w_nil ?_
      repeat refine s_seq ?_
      refine s_region ?_
      refine w_pv rfl dC (want_none rfl) (p_val evA) ?_
      refine w_ac rfl dC (want_none rfl) (s_call rfl rfl Try.func67 kR kR evA ?_); refine (isNaNAddr_ok _ _).mono ?_; rintro _ h ⟨rfl, rfl⟩
      refine w_pv rfl dC (want_none rfl) (p_val evA) ?_
      refine w_nil ?_
      repeat refine s_seq ?_
      refine s_region ?_
      refine w_pv rfl dC (want_none rfl) (p_val evA) ?_
      refine w_ac rfl dC (want_none rfl) (s_call rfl rfl Try.func67 kR kR evA ?_); refine (isNaNAddr_ok _ _).mono ?_; rintro _ h ⟨rfl, rfl⟩
      refine w_pv rfl dC (want_none rfl) (p_val evA) ?_
      refine w_nil ?_
      repeat refine s_seq ?_
      refine s_region ?_
      refine w_pv rfl dC (want_none rfl) (p_val evA) ?_
      refine w_nil ?_
      repeat refine s_seq ?_
      refine s_cond (t := false) slA ?_
      repeat refine s_seq ?_
      refine s_skip ?_
      repeat refine s_seq ?_
      refine s_region ?_
      refine w_pv rfl dC (want_none rfl) (p_val evA) ?_
      refine w_nil ?_
      repeat refine s_seq ?_
      refine s_cond (t := false) slA ?_
      repeat refine s_seq ?_
      refine s_skip ?_
      repeat refine s_seq ?_
      refine s_region ?_
      refine w_pv rfl dC (want_none rfl) (p_val evA) ?_
      refine w_pv rfl dC (want_none rfl) (p_val evA) ?_
      refine w_pv rfl dC (want_none rfl) (p_val evA) ?_
      refine w_nil ?_
      repeat refine s_seq ?_
      refine s_cond (t := false) slA ?_
      repeat refine s_seq ?_
      refine s_skip ?_
      repeat refine s_seq ?_
      refine s_region ?_
      refine w_pv rfl dC (want_none rfl) (p_val evA) ?_
      refine w_pv rfl dC (want_none rfl) (p_val evA) ?_
      refine w_pv rfl dC (want_none rfl) (p_val evA) ?_
      refine w_nil ?_
      repeat refine s_seq ?_
      refine s_cond (t := false) slA ?_
      repeat refine s_seq ?_
      refine s_skip ?_
      repeat refine s_seq ?_
      refine s_region ?_
      refine w_pv rfl dC (want_none rfl) (p_val evA) ?_
      refine w_nil ?_
      exact s_ret ⟨_, res_one rfl rfl, rfl, slA⟩
/-- The first that is not 0. -/
def orI (xs : List Int) : Int := (xs.find? fun x => !(x == 0)).getD 0
theorem or_ok {h : Heap} {v : Value} (xs : List Int) (hc : Cells h 1 v xs.length (xs.map (.int .i64))) (hn : xs.length ≤ 1000000) :
    SCalls Try.prog 57 #[v] h (fun r h' => h' = h ∧ r = .int .i64 (orI xs)) := by
  refine s_enter Try.func57 rfl (by rw [Try.ntmps57]; simp) ?_
  rw [Try.ntmps57]
  obtain ⟨a, c, rfl⟩ := hc.form
  generalize hT : T0 #[.slice a xs.length c] = T
  have h0 : T 0 = .slice a xs.length c := by rw [← hT]; rfl
  clear hT
  repeat refine s_seq ?_
  refine s_region ?_
  refine w_pv rfl dC (want_none rfl) (p_val evA) ?_
  refine w_nil ?_
  repeat refine s_seq ?_
  refine s_region ?_
  refine w_pv rfl dC (want_none rfl) (p_val evA) ?_
  refine w_nil ?_
  repeat refine s_seq ?_
  refine s_region ?_
  refine w_pv rfl dC (want_none rfl) (p_val evA) ?_
  refine w_rd rfl dC (want_none rfl) (r_len_slice rfl Try.underlying28 evA) ?_
  refine w_pv rfl dC (want_none rfl) (p_val evA) ?_
  refine w_nil ?_
  refine (s_block (s_loop (fun m T h' => ∃ i : Nat, m = xs.length - i ∧ i ≤ xs.length ∧ h' = h ∧ (∀ x ∈ xs.take i, x = 0) ∧ T 3 = .int .i64 0 ∧ T 6 = .slice a xs.length c ∧ T 7 = .int .i64 (xs.length : Nat) ∧ T 8 = .int .i64 (i : Nat)) (n0 := xs.length)
    ⟨0, by omega, by omega, rfl, by simp, slA, slA, slA, by simp only [pval, ev, upd, binVal, intBin, Option.map_some, ↓reduceIte, reduceCtorEq, Nat.reduceEqDiff, Nat.reduceBEq, List.map_toArray, List.map_cons, List.map_nil, cond_true, cond_false, decide_true, decide_false, Bool.not_true, Bool.not_false, Bool.true_and, Bool.false_and, Bool.and_true, Bool.and_false, beq_self_eq_true, bne_self_eq_false, List.getElem_toArray, List.getElem_cons_succ, List.getElem_cons_zero, *] <;> rfl⟩ ?_))
  clear h0 T
  rintro m T h' ⟨i, rfl, hi, rfl, hz, h3, h6, h7, h8⟩
  by_cases hlt : i < xs.length
  · have e1 : decide ((i : Int) < (xs.length : Int)) = true := decide_eq_true (by omega)
    have hw3 : IntKind.i64.wrap ((i : Int) + 1) = ((i + 1 : Nat) : Int) := wrap64_nat _ _ (by omega) (by omega)
    obtain ⟨b1, o1, k1, f1, t1, z1, q1, hb1, hg1⟩ := hc.get hlt
    cases q1
    obtain ⟨x, hxi⟩ : ∃ x, xs[i]? = some x := ⟨_, List.getElem?_eq_getElem hlt⟩
    have g1 : f1[o1 + i * 1]? = some (.int .i64 x) := by have := hg1 0 (by omega); simpa [hxi] using this
    clear hg1
    have hii : (0 : Int) ≤ (i : Int) := by omega
    have hi1 : (i : Int) < (xs.length : Int) := by omega
    by_cases hx0 : x = 0
    · have e2 : (x != 0) = false := by simp [hx0]
      have hz2 : ∀ y ∈ xs.take (i + 1), y = 0 := by
        intro y hy
        rw [List.take_add_one, hxi] at hy
        rcases List.mem_append.1 hy with hy | hy
        · exact hz y hy
        · simp at hy; rw [hy]; exact hx0
      clear hx0 hxi
      repeat refine s_seq ?_
      refine s_region ?_
      refine w_pv rfl dC (want_none rfl) (p_val evA) ?_
      refine w_nil ?_
      repeat refine s_seq ?_
      refine s_cond (t := true) slA ?_
      repeat refine s_seq ?_
      refine s_skip ?_
      repeat refine s_seq ?_
      refine s_block ?_
      repeat refine s_seq ?_
      refine s_region ?_
      refine w_pv rfl dC (want_none rfl) (p_indexAddr (sz := 1) rfl Try.underlying28 kR kR evA evA hii hi1) ?_
      refine w_rd rfl dC (want_none rfl) (r_load1 rfl Try.underlying3 rfl evA hpA ceA) ?_
      refine w_pv rfl dC (want_none rfl) (p_val evA) ?_
      refine w_nil ?_
      repeat refine s_seq ?_
      refine s_region ?_
      refine w_pv rfl dC (want_none rfl) (p_val evA) ?_
      refine w_pv rfl dC (want_none rfl) (p_val evA) ?_
      refine w_pv rfl dC (want_none rfl) (p_val evA) ?_
      refine w_nil ?_
      repeat refine s_seq ?_
      refine s_cond (t := false) slA ?_
      repeat refine s_seq ?_
      refine s_skip ?_
      repeat refine s_seq ?_
      refine s_region ?_
      refine w_pv rfl dC (want_none rfl) (p_val evA) ?_
      refine w_pv rfl dC (want_none rfl) (p_val evA) ?_
      refine w_nil ?_
      exact ⟨xs.length - (i + 1), by omega, i + 1, rfl, by omega, rfl, hz2, slA, slA, slA, slA⟩
    · have e2 : (x != 0) = true := by simpa using hx0
      have hor : orI xs = x := by
        unfold orI
        have h1 : xs = xs.take i ++ x :: xs.drop (i + 1) := by
          have : xs[i] = x := (List.getElem?_eq_some_iff.1 hxi).2
          rw [← this, List.getElem_cons_drop, List.take_append_drop]
        have h2 : (xs.take i).find? (fun x => !(x == 0)) = none := by
          rw [List.find?_eq_none]; intro y hy; simp [hz y hy]
        rw [h1, List.find?_append, h2]
        simp [hx0]
      clear hx0 hxi hz
      repeat refine s_seq ?_
      refine s_region ?_
      refine w_pv rfl dC (want_none rfl) (p_val evA) ?_
      refine w_nil ?_
      repeat refine s_seq ?_
      refine s_cond (t := true) slA ?_
      repeat refine s_seq ?_
      refine s_skip ?_
      repeat refine s_seq ?_
      refine s_block ?_
      repeat refine s_seq ?_
      refine s_region ?_
      refine w_pv rfl dC (want_none rfl) (p_indexAddr (sz := 1) rfl Try.underlying28 kR kR evA evA hii hi1) ?_
      refine w_rd rfl dC (want_none rfl) (r_load1 rfl Try.underlying3 rfl evA hpA ceA) ?_
      refine w_pv rfl dC (want_none rfl) (p_val evA) ?_
      refine w_nil ?_
      repeat refine s_seq ?_
      refine s_region ?_
      refine w_pv rfl dC (want_none rfl) (p_val evA) ?_
      refine w_pv rfl dC (want_none rfl) (p_val evA) ?_
      refine w_pv rfl dC (want_none rfl) (p_val evA) ?_
      refine w_nil ?_
      repeat refine s_seq ?_
      refine s_cond (t := true) slA ?_
      repeat refine s_seq ?_
      refine s_region ?_
      refine w_pv rfl dC (want_none rfl) (p_val evA) ?_
      refine w_pv rfl dC (want_none rfl) (p_val evA) ?_
      refine w_nil ?_
      exact s_ret ⟨_, res_one rfl rfl, rfl, slA⟩
  · have e1 : decide ((i : Int) < (xs.length : Int)) = false := decide_eq_false (by omega)
    have hor : orI xs = 0 := by
      unfold orI
      have : xs.find? (fun x => !(x == 0)) = none := by
        rw [List.find?_eq_none]; intro y hy
        have := hz y (by rw [List.take_of_length_le (by omega)]; exact hy)
        simp [this]
      rw [this]; rfl
    clear hz
    repeat refine s_seq ?_
    refine s_region ?_
    refine w_pv rfl dC (want_none rfl) (p_val evA) ?_
    refine w_nil ?_
    repeat refine s_seq ?_
    refine s_cond (t := false) slA ?_
    repeat refine s_seq ?_
    refine s_exit ?_
    repeat refine s_seq ?_
    refine s_region ?_
    refine w_pv rfl dC (want_none rfl) (p_val evA) ?_
    refine w_pv rfl dC (want_none rfl) (p_val evA) ?_
    refine w_nil ?_
    exact s_ret ⟨_, res_one rfl rfl, rfl, slA⟩
end Go.Proofs.Ytielfejpnkcjbaa
