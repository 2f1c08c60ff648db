import Derived.Test.YtihdpjinaafenaaGreatDoorFr7
import Derived.Laws.BytesString
noncomputable section
/- What is reckoned, what is read: that the operations give just this. -/
set_option linter.unusedVariables false
set_option linter.unusedSimpArgs false
namespace Go.Proofs.YtihdpjinaafenaaGreatDoor.Ce
open Go.Proofs.YtihdpjinaafenaaGreatDoor.Sl
open Ab (isOne isMany isSl isArr isIntT isStr zeroIs okCall)
section
variable {P : Program} {N : Kn P} {β : Bk} {H : CH} {n0 : Id} {ck : Nat} {h : Heap} {T : SL CV} {Tc : Tm} {o : Oper}
def RoOk (P:Program) (β:Bk) (H:CH) (h:Heap) (Tc:Tm) (o:Oper):Ro → Prop
 | .no=>True
 | .ok c=>∃ v,VR β c v ∧ PureOp P o (ev Tc) v
 | .rd c id=>∃ v,VR β c v ∧ isRead o.op = true ∧ ∃ x,β id = some x ∧ (hget id H).live = true ∧ ∀ g:Heap,g x.b = h x.b → ReadOp P o (ev Tc) g v
theorem g_i (r:TR β T Tc) {x:CP} (hx:x.ok = true) {k:IntKind} {n:Int} (e:x.get T = .i k n):ev Tc x.op = .int k n:=by
 have:=CP.get_ok r x hx; rw [e] at this; generalize ev Tc x.op = v at this; cases this; rfl
theorem g_b (r:TR β T Tc) {x:CP} (hx:x.ok = true) {b:Bool} (e:x.get T = .b b):ev Tc x.op = .bool b:=by
 have:=CP.get_ok r x hx; rw [e] at this; generalize ev Tc x.op = v at this; cases this; rfl
theorem g_s (r:TR β T Tc) {x:CP} (hx:x.ok = true) {l:List Nat} (e:x.get T = .s l):ev Tc x.op = .string (byt l) ∧ l.all (fun x=>Nat.blt x 256) = true:=by
 have:=CP.get_ok r x hx; rw [e] at this; generalize ev Tc x.op = v at this; cases this; exact ⟨rfl,by assumption⟩
theorem g_p (r:TR β T Tc) {x:CP} (hx:x.ok = true) {id:Id} {off:Nat} (e:x.get T = .p id off):∃ y,β id = some y ∧ ev Tc x.op = .pointer (some ⟨y.b,off,none⟩):=by
 have:=CP.get_ok r x hx; rw [e] at this; generalize ev Tc x.op = v at this; cases this; exact ⟨_,by assumption,rfl⟩
theorem g_agg (r:TR β T Tc) {x:CP} (hx:x.ok = true) {cs:List CV} (e:x.get T = .agg cs):∃ vs:List Value,ev Tc x.op = .agg vs.toArray ∧ VRs β cs vs ∧ cs.all CV.one = true:=by
 have:=CP.get_ok r x hx; rw [e] at this; generalize ev Tc x.op = v at this; cases this; exact ⟨_,rfl,by assumption,by assumption⟩
theorem g_tup (r:TR β T Tc) {x:CP} (hx:x.ok = true) {cs:List CV} (e:x.get T = .tup cs):∃ vs:List Value,ev Tc x.op = .tuple vs.toArray ∧ VRs β cs vs:=by
 have:=CP.get_ok r x hx; rw [e] at this; generalize ev Tc x.op = v at this; cases this; exact ⟨_,rfl,by assumption⟩
theorem g_m (r:TR β T Tc) {x:CP} (hx:x.ok = true) {id:Id} (e:x.get T = .m id):∃ y,β id = some y ∧ ev Tc x.op = .map (some y.b):=by
 have:=CP.get_ok r x hx; rw [e] at this; generalize ev Tc x.op = v at this; cases this; exact ⟨_,by assumption,rfl⟩
theorem g_nm (r:TR β T Tc) {x:CP} (hx:x.ok = true) (e:x.get T = .nm):ev Tc x.op = .map none:=by
 have:=CP.get_ok r x hx; rw [e] at this; generalize ev Tc x.op = v at this; cases this; rfl
theorem g_ns (r:TR β T Tc) {x:CP} (hx:x.ok = true) (e:x.get T = .ns):ev Tc x.op = .slice none 0 0:=by
 have:=CP.get_ok r x hx; rw [e] at this; generalize ev Tc x.op = v at this; cases this; rfl
theorem g_z (r:TR β T Tc) {x:CP} (hx:x.ok = true) {c:Option Nat} (e:x.get T = .z c):∃ a k,ev Tc x.op = .slice a 0 k ∧ (c = none ∨ c = some k) ∧ (a = none → k = 0 ∧ c = none):=by
 have:=CP.get_ok r x hx; rw [e] at this; generalize ev Tc x.op = v at this; cases this; exact ⟨_,_,rfl,by assumption,by assumption⟩
theorem g_sl (r:TR β T Tc) {x:CP} (hx:x.ok = true) {id:Id} {off n sz:Nat} {c:Option Nat} (e:x.get T = .sl id off n sz c):∃ y k,β id = some y ∧ ev Tc x.op = .slice (some ⟨y.b,off,none⟩) n k ∧ n ≤ k ∧ off + k * sz ≤ y.len ∧ (c = none ∨ c = some k):=by
 have:=CP.get_ok r x hx; rw [e] at this; generalize ev Tc x.op = v at this; cases this; exact ⟨_,_,by assumption,rfl,by assumption,by assumption,by assumption⟩
theorem r_index_str {ρ:Operand → Value} {t:TypeId} {x i:Operand} {s:ByteArray} {k:IntKind} {j:Nat} {c:UInt8} (ho:o.op = .index t x i) (hu:P.underlying t = some .string) (hx:ρ x = .string s) (hi:ρ i = .int k j) (hc:s[j]? = some c):ReadOp P o ρ h (.int .u8 c.toNat):=by
 intro w r
 simp [execOp,ho,Instr.index,hx,hi,asIntOf,run_underlying hu,hc]
theorem HR.cells (r:HR N.toKy β H n0 ck h) {id:Id} {st t:Nat} {cs:List CV} (e:hget id H = .cells st t cs) {x:Blk} (hx:β id = some x):∃ vs tl:List Value,h x.b = some (.cells (vs ++ tl).toArray t (0,0)) ∧ (vs ++ tl).length = x.len ∧ VRs β cs vs ∧ cs.all CV.one = true:=by
 have:=r.obj id x hx
 rw [e] at this
 cases this with
 | cells hb hl hr h1=>exact ⟨_,_,hb,hl,hr,h1⟩
theorem nth_some {l:List CV} {j:Nat} {c:CV} (e:nth l j = some c):l[j]? = some c:=by
 rw [← nth_eq]; exact e
theorem rMv_ok (r:TR β T Tc) {x:CP} (hx:x.ok = true) (hop:o.op = .move x.op ∨ o.op = .assign x.op):RoOk P β H h Tc o (rMv x T H):=by
 refine ⟨_,CP.get_ok r x hx,p_val ?_⟩
 rcases hop with e | e <;> rw [e] <;> rfl
theorem rPick_ok (r:TR β T Tc) {c x y:CP} (hc:c.ok = true) (hx:x.ok = true) (hy:y.ok = true) (hop:o.op = .pick c.op x.op y.op):RoOk P β H h Tc o (rPick c x y T H):=by
 unfold rPick; rw [fPick_eq]; unfold sPick
 split
 ·rename_i t e
  have h1:=g_b r hc e
  cases t with
  | true=>exact ⟨_,CP.get_ok r x hx,p_val (by rw [hop]; simp [pval,h1])⟩
  | false=>exact ⟨_,CP.get_ok r y hy,p_val (by rw [hop]; simp [pval,h1])⟩
 ·trivial
theorem intBin_pure {op:BinOp} {k:IntKind} {a b:Int} {v:Value} (hv:intBin op k a b = some v) {t ty:TypeId} {x y:Operand} (hop:o.op = .binOp op t x y ty) (hx:ev Tc x = .int k a) (hy:ev Tc y = .int k b):PureOp P o (ev Tc) v:=Ab.intBin_of hv hop hx hy
theorem binF_ok {op:BinOp} {k:IntKind} {a b:Int} {t ty:TypeId} {x y:Operand} (hop:o.op = .binOp op t x y ty) (hx:ev Tc x = .int k a) (hy:ev Tc y = .int k b):RoOk P β H h Tc o (binF op k a b):=by
 have i:∀ v,intBin op k a b = some v → ∀ c,VR β c v → RoOk P β H h Tc o (.ok c):=fun v e c hc=>⟨v,hc,intBin_pure e hop hx hy⟩
 unfold binF
 split
 case h_14 =>
  cases hb:ieqb b 0 with
  | true=>trivial
  | false =>
   rw [ieqb_eq] at hb
   refine ⟨_,.i _ _,?_⟩
   rw [wrF_eq]
   exact (r_quo (h:=fun _=>none) hop hx hy (by simpa using hb)).pure0
 case h_15 =>
  cases hb:ieqb b 0 with
  | true=>trivial
  | false =>
   rw [ieqb_eq] at hb
   exact ⟨_,.i _ _,(r_rem (h:=fun _=>none) hop hx hy (by simpa using hb)).pure0⟩
 case h_8=>exact i _ rfl _ (by rw [ieqb_eq]; exact .b _)
 case h_9=>exact i _ rfl _ (by rw [ieqb_eq]; exact .b _)
 case h_10=>exact i _ rfl _ (by rw [iltb_eq]; exact .b _)
 case h_11 =>
  refine i _ rfl _ ?_
  have:(!decide (b < a)) = decide (a ≤ b):=by rw [Bool.eq_iff_iff]; simp
  rw [iltb_eq,this]; exact .b _
 case h_12=>exact i _ rfl _ (by rw [iltb_eq]; exact .b _)
 case h_13 =>
  refine i _ rfl _ ?_
  have:(!decide (a < b)) = decide (a ≥ b):=by rw [Bool.eq_iff_iff]; simp
  rw [iltb_eq,this]; exact .b _
 case h_16=>trivial
 all_goals exact i _ rfl _ (by rw [wrF_eq]; exact .i _ _)
theorem shF_ok {op:BinOp} {k k':IntKind} {a b:Int} {t ty:TypeId} {x y:Operand} (hop:o.op = .binOp op t x y ty) (hx:ev Tc x = .int k a) (hy:ev Tc y = .int k' b):RoOk P β H h Tc o (shF op k a b):=by
 unfold shF
 split
 ·rename_i m s
  refine ⟨_,.i _ _,?_⟩
  have:=(r_shl (P:=P) (h:=fun _=>none) hop hx hy (by simp)).pure0
  rw [wrF_eq]
  have e:(Int.ofNat (m * 2 ^ (min s k.bits)):Int) = (Int.ofNat m) * 2 ^ (min (Int.ofNat s).toNat k.bits):=by simp
  rw [e]; exact this
 ·rename_i m s
  refine ⟨_,.i _ _,?_⟩
  have:=(r_shr (P:=P) (h:=fun _=>none) hop hx hy (by simp)).pure0
  have e:(Int.ofNat (m / 2 ^ (min s k.bits)):Int) = (Int.ofNat m).fdiv (2 ^ (min (Int.ofNat s).toNat k.bits)):=by
   show ((m / 2 ^ (min s k.bits):Nat):Int) = ((m:Nat):Int).fdiv (2 ^ (min s k.bits))
   have h2:((2:Int) ^ (min s k.bits)) = ((2 ^ (min s k.bits):Nat):Int):=by simp
   rw [h2,Int.fdiv_eq_ediv_of_nonneg _ (Int.natCast_nonneg _)]; rfl
  rw [e]; exact this
 ·trivial
theorem rBin_ok (r:TR β T Tc) {op:BinOp} {t ty:Nat} {x y:CP} (hx:x.ok = true) (hy:y.ok = true) (hop:o.op = .binOp op t x.op y.op ty):RoOk P β H h Tc o (rBin op t x y ty T H):=by
 unfold rBin; rw [fBin_eq]; unfold sBin
 split
 ·rename_i k n k' m e1 e2
  have h1:=g_i r hx e1
  have h2:=g_i r hy e2
  cases isSh op with
  | true=>exact shF_ok hop h1 h2
  | false =>
   simp only [cond_false]
   cases hk:ikb k k' with
   | false=>trivial
   | true=>have:=ikb_eq hk; subst this; exact binF_ok hop h1 h2
 ·trivial
theorem byt_list (l:List Nat):(byt l).toList = l.map UInt8.ofNat:=by
 rw [ByteArray.toList_eq]; rfl
theorem u8_inj {a b:Nat} (ha:Nat.blt a 256 = true) (hb:Nat.blt b 256 = true):(UInt8.ofNat a = UInt8.ofNat b) ↔ a = b:=by
 have ha:=Nat.le_of_ble_eq_true ha
 have hb:=Nat.le_of_ble_eq_true hb
 constructor
 ·intro e
  have:=congrArg UInt8.toNat e
  simp at this; omega
 ·intro e; rw [e]
theorem leqb_eq:∀ {x y:List Nat},x.all (fun x=>Nat.blt x 256) = true → y.all (fun x=>Nat.blt x 256) = true → leqb x y = (x.map UInt8.ofNat == y.map UInt8.ofNat)
 | [],[],_,_=>rfl
 | [],_ :: _,_,_=>rfl
 | _ :: _,[],_,_=>rfl
 | a :: l,b :: r,ha,hb=>by
  simp only [List.all_cons,Bool.and_eq_true] at ha hb
  simp only [leqb,List.map_cons,List.cons_beq_cons,leqb_eq ha.2 hb.2]
  congr 1
  rw [Bool.eq_iff_iff,Nat.beq_eq,beq_iff_eq,u8_inj ha.1 hb.1]
theorem lltb_eq:∀ {x y:List Nat},x.all (fun x=>Nat.blt x 256) = true → y.all (fun x=>Nat.blt x 256) = true → lltb x y = Op.bytesLess (x.map UInt8.ofNat) (y.map UInt8.ofNat)
 | [],[],_,_=>rfl
 | [],_ :: _,_,_=>rfl
 | _ :: _,[],_,_=>rfl
 | a :: l,b :: r,ha,hb=>by
  simp only [List.all_cons,Bool.and_eq_true] at ha hb
  simp only [lltb,List.map_cons,Op.bytesLess,lltb_eq ha.2 hb.2]
  have h1:Nat.blt a b = decide (UInt8.ofNat a < UInt8.ofNat b):=by
   have ha:=Nat.le_of_ble_eq_true ha.1
   have hb:=Nat.le_of_ble_eq_true hb.1
   rw [Bool.eq_iff_iff,decide_eq_true_eq,UInt8.lt_iff_toNat_lt]
   simp only [Nat.blt,Nat.ble_eq,UInt8.toNat_ofNat']
   omega
  have h2:Nat.beq a b = (UInt8.ofNat a == UInt8.ofNat b):=by rw [Bool.eq_iff_iff,Nat.beq_eq,beq_iff_eq,u8_inj ha.1 hb.1]
  rw [h1,h2]
theorem rBins_ok (r:TR β T Tc) {op:BinOp} {t ty:Nat} {x y:CP} (hx:x.ok = true) (hy:y.ok = true) (hop:o.op = .binOp op t x.op y.op ty):RoOk P β H h Tc o (rBins op t x y ty T H):=by
 unfold rBins fBins
 split
 ·rename_i l m e1 e2
  obtain ⟨h1,b1⟩:=g_s r hx e1
  obtain ⟨h2,b2⟩:=g_s r hy e2
  unfold strF
  split
  ·refine ⟨_,.b _,?_⟩
   have:=(r_eql_str (P:=P) (h:=fun _=>none) hop h1 h2).pure0
   rw [leqb_eq b1 b2,← byt_list,← byt_list]; exact this
  ·refine ⟨_,.b _,?_⟩
   have:=(r_neq_str (P:=P) (h:=fun _=>none) hop h1 h2).pure0
   rw [leqb_eq b1 b2,← byt_list,← byt_list]; exact this
  ·refine ⟨_,.b _,fun w=>?_⟩
   rw [lltb_eq b1 b2,← byt_list,← byt_list]
   simp [execOp,hop,h1,h2,eqGuard,binOp,Op.stringOp]
  ·cases hl:Nat.blt (l.length + m.length) 1000000 with
   | false=>trivial
   | true =>
    have hl:=Nat.le_of_ble_eq_true hl
    refine ⟨_,.s _ (by rw [List.all_append,b1,b2]; rfl),fun w=>?_⟩
    have hs:(byt l).size + (byt m).size = l.length + m.length:=by simp [byt,ByteArray.size]
    have hn:¬ (((byt l).size + (byt m).size:Nat):Int) > IntKind.i64.max:=by
     rw [hs]
     have:IntKind.i64.max = 9223372036854775807:=by decide
     rw [this]; omega
    have ha:byt l ++ byt m = byt (l ++ m):=by
     apply ByteArray.ext
     rw [ByteArray.data_append]
     simp [byt]
    simp only [execOp,hop,h1,h2,eqGuard,binOp,Op.stringOp,Sem.run_bind,Sem.run_pure,Result.andThen_ok,Sem.run_ite,if_neg hn,ha]
    simp
  ·trivial
 ·trivial
theorem keq_eq:∀ a b:List Int,keq a b = decide (a = b)
 | [],[]=>rfl
 | [],_ :: _=>rfl
 | _ :: _,[]=>rfl
 | n :: a,m :: b=>by simp only [keq,ieqb_eq,keq_eq a b]; rw [Bool.eq_iff_iff]; simp
theorem nums_ok:∀ {ks:List IntKind} {cs:List CV} {vs:List Value} {l:List Int},nums ks cs = some l → VRs β cs vs → l.length = ks.length ∧ vs = zipK ks l
 | [],[],_,_,e,.nil=>by cases e; exact ⟨rfl,rfl⟩
 | k :: ks,c :: cs,_,l,e,.cons h1 r1=>by
  unfold nums at e
  split at e
  ·rename_i h _; cases h
  ·rename_i k2 ks2 k' n r2 hks hc
   cases hks; cases hc
   cases hk:ikb k k' with
   | false=>rw [hk] at e; cases e
   | true =>
    rw [hk] at e
    have:=ikb_eq hk
    subst this
    simp only [cond_true] at e
    split at e
    ·rename_i l' hl
     cases e
     obtain ⟨h2,h3⟩:=nums_ok hl r1
     cases h1
     exact ⟨by simp [h2],by rw [h3]; rfl⟩
    ·cases e
  ·cases e
 | [],_ :: _,_,_,e,_=>by simp [nums] at e
 | _ :: _,[],_,_,e,_=>by simp [nums] at e
theorem eq_fin {n:Bool} {q:Bool} {t ty:Nat} {x y:CP} {u v:Value} (hop:o.op = .binOp (match n with | true=>.neq | false=>.eql) t x.op y.op ty) (hu:ev Tc x.op = u) (hv:ev Tc y.op = v) (f:Ab.EqFit P t x.op y.op u v q):PureOp P o (ev Tc) (.bool (bif n then !q else q)):=by
 obtain ⟨h1,h2,h3⟩:=f
 cases n with
 | false=>exact (r_eql (P:=P) (h:=fun _=>none) hop hu hv (by cases u <;> cases v <;> exact h1) h2 (by cases u <;> exact h3)).pure0
 | true=>exact (r_neq (P:=P) (h:=fun _=>none) hop hu hv (by cases u <;> cases v <;> exact h1) h2 (by cases u <;> exact h3)).pure0
theorem litC_op {x:CP} (h:litC x = true):isLit x.op = true:=by cases x <;> first | rfl | cases h
theorem z_some {c:Nat} {v:Value} (h:VR β (.z (some c)) v):∃ a k,v = .slice (some a) 0 k:=by
 cases h with
 | z he hn =>
  rename_i a k
  cases a with
  | none=>cases (hn rfl).2
  | some a=>exact ⟨_,_,rfl⟩
theorem eqF_fit {c:Nat} {a b:CV} {q:Bool} (e:eqF c a b = some q) {u v:Value} (hu:VR β a u) (hv:VR β b v) {t:TypeId} {x y:CP} (ht:isEqC P c t y = true):Ab.EqFit P t x.op y.op u v q:=by
 unfold eqF at e
 split at e <;> (try (cases e; done))
 all_goals cases e
 all_goals simp only [isEqC] at ht
 all_goals split at ht <;> (try (cases ht; done))
 all_goals (try (rename_i h0 _; cases h0; done))
 all_goals rename_i hu'
 all_goals first | (obtain ⟨a,k,rfl⟩:=z_some hu; cases hv; refine ⟨?_,?_,rfl⟩) | (cases hu; cases hv; refine ⟨?_,?_,rfl⟩)
 all_goals first | rfl | (simp [eqv,hu']; done) | (unfold eqv; simp [hu']; done) | simp only [litC_op ht,Bool.or_true]
theorem rEq_ok (r:TR β T Tc) {n:Bool} {c t ty:Nat} {x y:CP} (hx:x.ok = true) (hy:y.ok = true) (ht:isEqC P c t y = true) (hop:o.op = .binOp (match n with | true=>.neq | false=>.eql) t x.op y.op ty):RoOk P β H h Tc o (rEq n c t x y ty T H):=by
 unfold rEq fEq
 split
 ·rename_i q e
  exact ⟨_,.b _,eq_fin hop rfl rfl (eqF_fit e (CP.get_ok r x hx) (CP.get_ok r y hy) ht)⟩
 ·trivial
theorem rEqst_ok (r:TR β T Tc) {n:Bool} {ks:List IntKind} {t ty:Nat} {x y:CP} (hx:x.ok = true) (hy:y.ok = true) (ht:N.eqs t = some ks) (hop:o.op = .binOp (match n with | true=>.neq | false=>.eql) t x.op y.op ty):RoOk P β H h Tc o (rEqst n ks t x y ty T H):=by
 unfold rEqst fEqst
 split
 ·rename_i p q e1 e2
  split
  ·rename_i l m h1 h2
   obtain ⟨vs,hv,rv,_⟩:=g_agg r hx e1
   obtain ⟨us,hu,ru,_⟩:=g_agg r hy e2
   obtain ⟨l1,l2⟩:=nums_ok h1 rv
   obtain ⟨m1,m2⟩:=nums_ok h2 ru
   obtain ⟨g1,g2⟩:=N.eqlaw t ks ht
   refine ⟨_,.b _,eq_fin hop hv hu ⟨by simp [g1],?_,rfl⟩⟩
   rw [l2,m2,keq_eq]
   exact g2 l m l1 m1
  ·trivial
 ·trivial
theorem rNot_ok (r:TR β T Tc) {t:Nat} {x:CP} (hx:x.ok = true) (hop:o.op = .unOp .not t x.op):RoOk P β H h Tc o (rNot t x T H):=by
 unfold rNot; rw [fNot_eq]; unfold sNot
 split
 ·rename_i b e
  exact ⟨_,.b _,p_val (by rw [hop]; simp only [pval,g_b r hx e])⟩
 ·trivial
theorem rBnot_ok (r:TR β T Tc) {t:Nat} {x:CP} (hx:x.ok = true) (hop:o.op = .unOp .xor t x.op):RoOk P β H h Tc o (rBnot t x T H):=by
 unfold rBnot fBnot
 split
 ·rename_i k n e
  exact ⟨_,.i _ _,(r_bnot (h:=fun _=>none) hop (g_i r hx e)).pure0⟩
 ·trivial
theorem isIntT_spec {t:TypeId} (h:isIntT P t = true):∃ k,P.underlying t = some (.int k):=by
 unfold Ab.isIntT at h
 split at h
 ·rename_i k e; exact ⟨k,e⟩
 ·cases h
theorem rConv_ok (r:TR β T Tc) {s d:Nat} {x:CP} {k:IntKind} (hx:x.ok = true) (hs:isIntT P s = true) (hd:(match P.underlying d with | some (.int k')=>k' == k | _=>false) = true) (hop:o.op = .convert s d x.op):RoOk P β H h Tc o (rConv s d x k T H):=by
 unfold rConv; rw [fConv_eq]; unfold sConv
 split
 ·rename_i k' n e
  obtain ⟨ks,hks⟩:=isIntT_spec hs
  split at hd
  ·rename_i k2 hk2
   have:k2 = k:=by simpa using hd
   subst this
   refine ⟨_,.i _ _,?_⟩
   rw [wrF_eq]
   exact (r_convert_int (h:=fun _=>none) hop hks hk2 (g_i r hx e) rfl).pure0
  ·cases hd
 ·trivial
theorem rCstr_ok (r:TR β T Tc) {s d:Nat} {x:CP} (hx:x.ok = true) (hs:isIntT P s = true) (hd:isStr P d = true) (hop:o.op = .convert s d x.op):RoOk P β H h Tc o (rCstr s d x T H):=by
 unfold rCstr fCstr
 split
 ·rename_i k n e
  cases hn:Nat.blt n 128 with
  | false=>trivial
  | true =>
   have hn:=Nat.le_of_ble_eq_true hn
   obtain ⟨ks,hks⟩:=isIntT_spec hs
   refine ⟨_,.s [n] (by simp [Nat.blt]; omega),fun w=>?_⟩
   have he:Utf8.encode (Int.ofNat n) = byt [n]:=by
    have hv:Utf8.valid (Int.ofNat n) = true:=by
     have:(Int.ofNat n) = (n:Int):=rfl
     rw [this]; simp [Utf8.valid]; omega
    unfold Utf8.encode
    have h3:(Int.ofNat n).toNat = n:=rfl
    simp only [hv,if_true,h3]
    rw [if_pos (by omega)]; rfl
   simp [execOp,hop,convert,run_underlying hks,run_underlying (Ab.isStr_spec hd),g_i r hx e,Conv.intToString]; exact he
 ·trivial
theorem rNilc_ok (r:TR β T Tc) {x:CP} (hx:x.ok = true) (hop:o.op = .nilCheck x.op):RoOk P β H h Tc o (rNilc x T H):=by
 have k:=CP.get_ok r x hx
 unfold rNilc fNilc
 split
 ·rename_i id off e
  rw [e] at k
  refine ⟨_,k,?_⟩
  obtain ⟨y,hy,hv⟩:=g_p r hx e
  exact p_val (by rw [hop]; simp only [pval,hv])
 ·rename_i n e
  rw [e] at k
  generalize hv:ev Tc x.op = v at k
  cases k
  exact ⟨_,.g n,p_val (by rw [hop]; simp only [pval,hv])⟩
 ·rename_i f xs ys e
  rw [e] at k
  generalize hv:ev Tc x.op = v at k
  cases k with
  | fn f ha hb=>exact ⟨_,.fn f ha hb,p_val (by rw [hop]; simp only [pval,hv])⟩
 ·trivial
theorem rFa_ok (r:TR β T Tc) {t f off:Nat} {x:CP} (hx:x.ok = true) (hs:fieldOff P t f = some off) (hop:o.op = .fieldAddr t x.op f):RoOk P β H h Tc o (rFa t x f off T H):=by
 unfold rFa; rw [fFa_eq]; unfold sFa
 split
 ·rename_i id off' e
  obtain ⟨y,hy,hv⟩:=g_p r hx e
  exact ⟨_,.p _ hy,p_fieldAddr hop hv hs⟩
 ·trivial
theorem rFd1_ok (r:TR β T Tc) {t f off:Nat} {x:CP} (hx:x.ok = true) (hs:fieldPart P t f = some (off,1,false)) (hop:o.op = .field t x.op f):RoOk P β H h Tc o (rFd1 t x f off T H):=by
 unfold rFd1; rw [fFd1_eq]; unfold sFd1
 split
 ·rename_i cs e
  split
  ·rename_i c hc
   obtain ⟨vs,hv,rv,_⟩:=g_agg r hx e
   obtain ⟨v,h1,h2⟩:=rv.get (nth_some hc)
   exact ⟨_,h2,p_field1 hop hv hs (by simpa using h1)⟩
  ·trivial
 ·trivial
theorem all_sub {l:List CV} {a b:Nat} (h:l.all CV.one = true):((l.drop a).take b).all CV.one = true:=by
 rw [List.all_eq_true] at h ⊢
 exact fun x hx=>h x (List.mem_of_mem_drop (List.mem_of_mem_take hx))
theorem rFdN_ok (r:TR β T Tc) {t f off n:Nat} {x:CP} (hx:x.ok = true) (hs:fieldPart P t f = some (off,n,true)) (hop:o.op = .field t x.op f):RoOk P β H h Tc o (rFdN t x f off n T H):=by
 unfold rFdN fFdN
 simp only [takeR_eq,dropR_eq]
 split
 ·rename_i cs e
  obtain ⟨vs,hv,rv,h1⟩:=g_agg r hx e
  refine ⟨_,.agg (all_sub h1) ((rv.drop off).take n),?_⟩
  have:=p_fieldN (P:=P) hop hv hs
  have h6:vs.toArray.extract off (off + n) = ((vs.drop off).take n).toArray:=by simp
  rwa [h6] at this
 ·trivial
theorem rIx_ok (r:TR β T Tc) {t e sz:Nat} {x i:CP} (hx:x.ok = true) (hi:i.ok = true) (hs:isSl P t e = true) (hz:P.cellsOf e = sz) (he:(P.info? e).isSome = true) (hop:o.op = .indexAddr t x.op i.op):RoOk P β H h Tc o (rIx t x i e sz T H):=by
 unfold rIx; rw [fIx_eq]; unfold sIx
 split
 ·rename_i id off n sz' c k j e1 e2
  cases hj:Nat.blt j n with
  | false=>trivial
  | true =>
   have hj:=Nat.le_of_ble_eq_true hj
   obtain ⟨y,kk,hy,hv,hn,hc,_⟩:=g_sl r hx e1
   refine ⟨_,.p _ hy,?_⟩
   have:=p_indexAddr (P:=P) hop (Ab.isSl_spec hs) hz he hv (g_i r hi e2) (by simp) (by simp; omega)
   simpa using this
 ·trivial
theorem rIxa_ok (r:TR β T Tc) {t e sz n:Nat} {x i:CP} (hx:x.ok = true) (hi:i.ok = true) (hs:isArr P t n e = true) (hz:P.cellsOf e = sz) (he:(P.info? e).isSome = true) (hop:o.op = .indexAddr t x.op i.op):RoOk P β H h Tc o (rIxa t x i e sz n T H):=by
 unfold rIxa; rw [fIxa_eq]; unfold sIxa
 split
 ·rename_i id off k j e1 e2
  cases hj:Nat.blt j n with
  | false=>trivial
  | true =>
   have hj:=Nat.le_of_ble_eq_true hj
   obtain ⟨y,hy,hv⟩:=g_p r hx e1
   refine ⟨_,.p _ hy,?_⟩
   have:=p_indexAddrA (P:=P) hop (Ab.isArr_spec hs) hz he hv (g_i r hi e2) (by simp) (by simp; omega)
   simpa using this
 ·trivial
theorem rIxs_ok (r:TR β T Tc) {t:Nat} {x i:CP} (hx:x.ok = true) (hi:i.ok = true) (hs:isStr P t = true) (hop:o.op = .index t x.op i.op):RoOk P β H h Tc o (rIxs t x i T H):=by
 unfold rIxs fIxs
 split
 ·rename_i l k j e1 e2
  split
  ·rename_i c l' hd
   obtain ⟨hv,hb⟩:=g_s r hx e1
   refine ⟨_,.i _ _,?_⟩
   have hg:l[j]? = some c:=by have:=congrArg (·[0]?) hd; simpa using this
   have hc:Nat.blt c 256 = true:=List.all_eq_true.1 hb c (List.mem_of_getElem? hg)
   have hc:=Nat.le_of_ble_eq_true hc
   have hs':(byt l)[j]? = some (UInt8.ofNat c):=by
    have hlt:j < l.length:=(List.getElem?_eq_some_iff.1 hg).1
    have he:l[j] = c:=(List.getElem?_eq_some_iff.1 hg).2
    have hsz:j < (byt l).size:=by simpa [byt,ByteArray.size] using hlt
    rw [getElem?_pos (byt l) j hsz]
    congr 1
    show ((l.map UInt8.ofNat).toArray)[j]'(by simpa using hlt) = _
    simp [he]
   have:=(r_index_str (P:=P) (h:=fun _=>none) hop (Ab.isStr_spec hs) hv (g_i r hi e2) hs').pure0
   have e3:((UInt8.ofNat c).toNat:Int) = Int.ofNat c:=by simp; omega
   rw [e3] at this
   exact this
  ·trivial
 ·trivial
theorem rIxv_ok (r:TR β T Tc) {t e n:Nat} {x i:CP} (hx:x.ok = true) (hi:i.ok = true) (hs:isArr P t n e = true) (h1:isOne P e = true) (hz:P.cellsOf e = 1) (hop:o.op = .index t x.op i.op):RoOk P β H h Tc o (rIxv t x i e n T H):=by
 unfold rIxv fIxv
 split
 ·rename_i cs k j e1 e2
  cases hj:Nat.blt j n with
  | false=>trivial
  | true =>
   have hj:=Nat.le_of_ble_eq_true hj
   simp only [cond_true]
   split
   ·rename_i c hc
    obtain ⟨vs,hv,rv,_⟩:=g_agg r hx e1
    obtain ⟨v,h2,h3⟩:=rv.get (nth_some hc)
    refine ⟨v,h3,fun w=>?_⟩
    obtain ⟨d,hd,hd2⟩:=Ab.isOne_spec h1
    have hpv:partV P e vs.toArray j = some v:=by
     unfold partV
     rw [hd]
     cases d <;> first | (simpa using h2) | (simp at hd2)
    have hlt:(0:Int) ≤ (j:Int) ∧ (j:Int) < (n:Int):=by omega
    have hie:(P.info? e).isSome = true:=Sl.info_of_underlying hd
    have hij:=g_i r hi e2
    simp only [Int.ofNat_eq_natCast] at hij
    simp [execOp,hop,Instr.index,hij,asIntOf,run_underlying (Ab.isArr_spec hs),hv,hlt,run_cellsOf _ _ hie,hz,run_partV hpv]
    try omega
   ·trivial
 ·trivial
end
end Go.Proofs.YtihdpjinaafenaaGreatDoor.Ce

/- Operations by hand: a slice of bytes to a string. -/
namespace Go.Proofs.YtihdpjinaafenaaGreatDoor.Sl
section
variable {P : Program} {o : Oper} {ρ : Operand → Value} {h : Heap}
theorem push_all:∀ (l:List Nat) (acc:ByteArray),((l.map (fun x:Nat=>(x:Int))).foldl (fun r n=>r.push (UInt8.ofNat n.toNat)) acc) = ⟨acc.data ++ (l.map UInt8.ofNat).toArray⟩
 | [],acc=>by simp
 | x :: l,acc=>by
  simp only [List.map_cons,List.foldl_cons,Int.toNat_natCast]
  rw [push_all l]
  apply ByteArray.ext
  simp [ByteArray.push]
theorem r_cvbs {s d e:TypeId} {x:Operand} {b off n c:Nat} {cs:Array Value} {t:TypeId} {fz:Nat × Nat} {l:List Nat} (ho:o.op = .convert s d x) (hs:P.underlying s = some (.slice e)) (he:P.underlying e = some (.int .u8)) (hd:P.underlying d = some .string) (hx:ρ x = .slice (some ⟨b,off,none⟩) n c) (hb:h b = some (.cells cs t fz)) (hl:l.length = n) (hv:∀ (j x:Nat),l[j]? = some x → cs[off + j]? = some (.int .u8 (x:Int))):ReadOp P o ρ h (.string ⟨(l.map UInt8.ofNat).toArray⟩):=by
 intro w r
 have hlc:(loadCells ⟨b,off,none⟩ n).run P w = .ok ((l.map (fun x:Nat=>(x:Int))).map (Value.int .u8)).toArray w:=by
  subst hl
  have:=run_loadCells_list (P:=P) (w:=w) ⟨b,off,none⟩ ((l.map (fun x:Nat=>(x:Int))).map (Value.int .u8)) (fun j v hj=>by
   have ha:(Addr.mk b off none).add j = ⟨b,off + j,none⟩:=by unfold Addr.add; split <;> simp_all
   rw [ha,r.cell hb]
   simp only [List.getElem?_map,Option.map_eq_some_iff] at hj
   obtain ⟨i,⟨m,hm,rfl⟩,rfl⟩:=hj
   exact hv j m hm)
  simpa using this
 have h2:=run_bytesToString (P:=P) w ⟨b,off,none⟩ n c _ hlc
 rw [push_all] at h2
 simp [execOp,ho,hx,run_convert_bytes_string w s d e _ _ _ hs he hd,h2]
theorem p_cvbs_nil {s d e:TypeId} {x:Operand} {n c:Nat} (ho:o.op = .convert s d x) (hs:P.underlying s = some (.slice e)) (he:P.underlying e = some (.int .u8)) (hd:P.underlying d = some .string) (hx:ρ x = .slice none n c):PureOp P o ρ (.string ⟨#[]⟩):=by
 intro w
 simp only [execOp,ho,hx]
 have h2:(Conv.bytesToString (.slice none n c)).run P w = .ok (.string ⟨#[]⟩) w:=rfl
 simp [run_convert_bytes_string w s d e none n c hs he hd,h2]
end
end Go.Proofs.YtihdpjinaafenaaGreatDoor.Sl

/- What is reckoned, what is read: the rest; all of it. -/
namespace Go.Proofs.YtihdpjinaafenaaGreatDoor.Ce
open Go.Proofs.YtihdpjinaafenaaGreatDoor.Sl
open Ab (isOne isMany isSl isArr isIntT isStr zeroIs okCall)
section
variable {P : Program} {N : Kn P} {β : Bk} {H : CH} {n0 : Id} {ck : Nat} {h : Heap} {T : SL CV} {Tc : Tm} {o : Oper}
theorem rLd_ok (r:TR β T Tc) (hr:HR N.toKy β H n0 ck h) {t:Nat} {x:CP} (hx:x.ok = true) (hs:isOne P t = true) (hop:o.op = .load t x.op):RoOk P β H h Tc o (rLd t x T H):=by
 unfold rLd; rw [fLd_eq]; unfold sLd
 split
 ·rename_i id off e
  split
  ·rename_i st t' cs hc
   split
   ·rename_i c hn
    obtain ⟨y,hy,hv⟩:=g_p r hx e
    obtain ⟨vs,tl,hb,hl,rv,_⟩:=hr.cells hc hy
    obtain ⟨v,h1,h2⟩:=rv.get (nth_some hn)
    refine ⟨v,h2,by rw [hop]; rfl,y,hy,by rw [hc]; rfl,fun g hg=>?_⟩
    refine Ab.r_ld1 hop hs hv (hg.trans hb) ?_
    have hlt:off < vs.length:=(List.getElem?_eq_some_iff.1 h1).1
    simp only [List.getElem?_toArray]
    rw [List.getElem?_append_left hlt]; exact h1
   ·trivial
  ·trivial
 ·trivial
theorem rLdg_ok (r:TR β T Tc) (hr:HR N.toKy β H n0 ck h) {t g:Nat} {id:Id} (hs:isOne P t = true) (hg:(match N.gl g with | some i=>decide (i = id) | none=>false) = true) (hop:o.op = .load t (.global g)):RoOk P β H h Tc o (rLdg t g id T H):=by
 have hg':N.gl g = some id:=by
  cases e:N.gl g with
  | none=>rw [e] at hg; cases hg
  | some i=>rw [e] at hg; rw [of_decide_eq_true hg]
 obtain ⟨y,hy,hyb⟩:=hr.gl g id hg'
 unfold rLdg; rw [fLd_eq]; unfold sLd
 simp only
 split
 ·rename_i st t' cs hc
  split
  ·rename_i c hn
   obtain ⟨vs,tl,hb,hl,rv,_⟩:=hr.cells hc hy
   obtain ⟨v,h1,h2⟩:=rv.get (nth_some hn)
   refine ⟨v,h2,by rw [hop]; rfl,y,hy,by rw [hc]; rfl,fun g' hg=>?_⟩
   refine Ab.r_ld1 hop hs (show ev Tc (.global g) = .pointer (some ⟨y.b,0,none⟩) by rw [hyb]; rfl) (hg.trans hb) ?_
   have hlt:0 < vs.length:=(List.getElem?_eq_some_iff.1 h1).1
   simp only [List.getElem?_toArray]
   rw [List.getElem?_append_left hlt]; exact h1
  ·trivial
 ·trivial
theorem rIxg_ok (r:TR β T Tc) (hr:HR N.toKy β H n0 ck h) {t g e sz n:Nat} {id:Id} {i:CP} (hi:i.ok = true) (hs:isArr P t n e = true) (hz:P.cellsOf e = sz) (he:(P.info? e).isSome = true) (hg:(match N.gl g with | some i=>decide (i = id) | none=>false) = true) (hop:o.op = .indexAddr t (.global g) i.op):RoOk P β H h Tc o (rIxg t g id i e sz n T H):=by
 have hg':N.gl g = some id:=by
  cases e:N.gl g with
  | none=>rw [e] at hg; cases hg
  | some i=>rw [e] at hg; rw [of_decide_eq_true hg]
 obtain ⟨y,hy,hyb⟩:=hr.gl g id hg'
 unfold rIxg; rw [fIxa_eq]; unfold sIxa
 split
 ·rename_i id' off k j e1 e2
  cases e1
  cases hj:Nat.blt j n with
  | false=>trivial
  | true =>
   have hj:=Nat.le_of_ble_eq_true hj
   refine ⟨_,.p _ hy,?_⟩
   have:=p_indexAddrA (P:=P) hop (Ab.isArr_spec hs) hz he (show ev Tc (.global g) = .pointer (some ⟨y.b,0,none⟩) by rw [hyb]; rfl) (g_i r hi e2) (by simp) (by simp; omega)
   simpa using this
 ·trivial
theorem u8s_spec:∀ {cs:List CV} {l:List Nat},u8s cs = some l → l.length = cs.length ∧ l.all (fun x=>Nat.blt x 256) = true ∧ ∀ (j x:Nat),l[j]? = some x → cs[j]? = some (.i .u8 (x:Int))
 | [],l,e=>by cases e; exact ⟨rfl,rfl,fun j x h=>by simp at h⟩
 | c :: cs,l,e=>by
  unfold u8s at e
  split at e
  ·rename_i e1; cases e1
  ·rename_i n r e1
   cases e1
   cases hn:Nat.blt n 256 with
   | false=>rw [hn] at e; cases e
   | true =>
    rw [hn] at e
    simp only [cond_true] at e
    split at e
    ·rename_i l' hl'
     cases e
     obtain ⟨h1,h2,h3⟩:=u8s_spec hl'
     refine ⟨by simp [h1],by simp [hn,h2],fun j x h=>?_⟩
     cases j with
     | zero=>simp at h; subst h; rfl
     | succ j=>simpa using h3 j x (by simpa using h)
    ·cases e
  ·cases e
theorem rCvbs_ok (r:TR β T Tc) (hr:HR N.toKy β H n0 ck h) {s d e:Nat} {x:CP} (hx:x.ok = true) (hs:isSl P s e = true) (he:(match P.underlying e with | some (.int .u8)=>true | _=>false) = true) (hd:isStr P d = true) (hop:o.op = .convert s d x.op):RoOk P β H h Tc o (rCvbs s d x e T H):=by
 have he':P.underlying e = some (.int .u8):=by
  split at he
  ·assumption
  ·cases he
 unfold rCvbs sCvbs
 split
 ·rename_i id off n c e1
  split
  ·rename_i st t' cs hc
   cases hle:leR (off + n) cs with
   | false=>trivial
   | true =>
    simp only [cond_true]
    rw [leR_eq] at hle
    have hle:=Nat.le_of_ble_eq_true hle
    split
    ·rename_i l hl
     rw [takeR_eq,dropR_eq] at hl
     obtain ⟨h1,h2,h3⟩:=u8s_spec hl
     obtain ⟨y,kk,hy,hv,hn,hcc,_⟩:=g_sl r hx e1
     obtain ⟨vs,tl,hb,hll,rv,_⟩:=hr.cells hc hy
     refine ⟨_,.s l h2,by rw [hop]; rfl,y,hy,by rw [hc]; rfl,fun g hg=>?_⟩
     refine r_cvbs hop (Ab.isSl_spec hs) he' (Ab.isStr_spec hd) hv (hg.trans hb) (by rw [h1]; simp; omega) (fun j x hj=>?_)
     have h4:=h3 j x hj
     have hjn:j < n:=by
      have:=(List.getElem?_eq_some_iff.1 hj).1
      rw [h1] at this
      simp at this
      omega
     rw [List.getElem?_take,if_pos hjn,List.getElem?_drop] at h4
     obtain ⟨v,h5,h6⟩:=rv.get h4
     have h7:v = .int .u8 (x:Int):=by cases h6; rfl
     subst h7
     have hlt:off + j < vs.length:=(List.getElem?_eq_some_iff.1 h5).1
     simp only [List.getElem?_toArray]
     rw [List.getElem?_append_left hlt]; exact h5
    ·trivial
  ·trivial
 ·rename_i e1
  exact ⟨_,.s [] rfl,p_cvbs_nil hop (Ab.isSl_spec hs) he' (Ab.isStr_spec hd) (g_ns r hx e1)⟩
 ·trivial
theorem rLdN_ok (r:TR β T Tc) (hr:HR N.toKy β H n0 ck h) {t n:Nat} {x:CP} (hx:x.ok = true) (hs:isMany P t = true) (hn:P.cellsOf t = n) (hop:o.op = .load t x.op):RoOk P β H h Tc o (rLdN t x n T H):=by
 unfold rLdN; rw [fLdN_eq]; unfold sLdN
 simp only [takeR_eq,dropR_eq,leR_eq]
 split
 ·rename_i id off e
  split
  ·rename_i st t' cs hc
   cases hb:Nat.ble (off + n) cs.length with
   | false=>trivial
   | true =>
    have hle:=Nat.le_of_ble_eq_true hb
    obtain ⟨y,hy,hv⟩:=g_p r hx e
    obtain ⟨vs,tl,hb,hl,rv,h1⟩:=hr.cells hc hy
    have hlen:=rv.len
    refine ⟨_,.agg (all_sub h1) ((rv.drop off).take n),by rw [hop]; rfl,y,hy,by rw [hc]; rfl,fun g hg=>?_⟩
    have:=Ab.r_ldN (P:=P) hop hs hv (hg.trans hb) hn (by simp; omega)
    have h6:(vs ++ tl).toArray.extract off (off + n) = ((vs.drop off).take n).toArray:=by
     simp only [List.extract_toArray,List.extract_eq_take_drop]
     congr 1
     rw [Nat.add_sub_cancel_left,List.drop_append_of_le_length (by omega),List.take_append_of_le_length (by simp; omega)]
    rwa [h6] at this
  ·trivial
 ·trivial
theorem rLen_ok (r:TR β T Tc) {t e:Nat} {x:CP} (hx:x.ok = true) (hs:isSl P t e = true) (hop:o.op = .call ⟨.builtin .len,#[x.op],#[t]⟩):RoOk P β H h Tc o (rLen t x e T H):=by
 unfold rLen fLen
 have hu:=Ab.isSl_spec hs
 split
 ·rename_i id off n sz c e
  obtain ⟨y,k,hy,hv,_⟩:=g_sl r hx e
  exact ⟨_,.i _ _,(r_len_slice (h:=fun _=>none) hop hu hv).pure0⟩
 ·rename_i c e
  obtain ⟨a,k,hv,_⟩:=g_z r hx e
  exact ⟨_,.i _ _,(r_len_slice (h:=fun _=>none) hop hu hv).pure0⟩
 ·rename_i e
  exact ⟨_,.i _ _,(r_len_slice (h:=fun _=>none) hop hu (g_ns r hx e)).pure0⟩
 ·trivial
theorem rLens_ok (r:TR β T Tc) {t:Nat} {x:CP} (hx:x.ok = true) (hs:isStr P t = true) (hop:o.op = .call ⟨.builtin .len,#[x.op],#[t]⟩):RoOk P β H h Tc o (rLens t x T H):=by
 unfold rLens fLens
 split
 ·rename_i l e
  obtain ⟨hv,_⟩:=g_s r hx e
  refine ⟨_,.i _ _,?_⟩
  have:=(r_len_string (P:=P) (h:=fun _=>none) hop (Ab.isStr_spec hs) hv).pure0
  have h1:(byt l).size = l.length:=by simp [byt,ByteArray.size]
  rw [h1] at this
  exact this
 ·trivial
theorem HR.map (r:HR N.toKy β H n0 ck h) {id:Id} {st t:Nat} {fl:Bool} {cl:Nat} {es:List (List Int × CV)} (e:hget id H = .map st t fl cl es) {x:Blk} (hx:β id = some x):∃ (s:Sh) (l:List (s.key × Value)) (bs:List Nat),N.sh t = some s ∧ h x.b = some (.map (MBn s.enc l bs).toArray cl) ∧ Bs bs cl l.length ∧ (fl = false → bs = List.range l.length ∧ cl = l.length) ∧ Keys1 l ∧ l.map (fun p=>p.1.1) = es.map (·.1) ∧ VRs β (es.map (·.2)) (l.map (·.2)):=by
 have:=r.obj id x hx
 rw [e] at this
 cases this with
 | map s hs l bs hb hbs hfl n1 hk hr=>exact ⟨s,l,bs,hs,hb,hbs,hfl,n1,hk,hr⟩
theorem MBn_len {κ:Type} (enc:κ → Value) (l:List (κ × Value)) (bs:List Nat) (h:bs.length = l.length):(MBn enc l bs).length = l.length:=by simp [MBn,h]
theorem MBn_born {κ:Type} (enc:κ → Value):∀ (l:List (κ × Value)) (bs:List Nat),bs.length = l.length → (MBn enc l bs).map (·.born) = bs
 | [],[],_=>rfl
 | [],_ :: _,h=>by simp at h
 | _ :: _,[],h=>by simp at h
 | p :: l,b :: bs,h=>by
  have:=MBn_born enc l bs (by simpa using h)
  simpa [MBn] using this
theorem MBn_rep {κ:Type} (enc:κ → Value):∀ (l:List (κ × Value)) (bs:List Nat),bs.length = l.length → EsRep enc (MBn enc l bs) l
 | [],[],_=>rfl
 | [],_ :: _,h=>by simp at h
 | _ :: _,[],h=>by simp at h
 | p :: l,b :: bs,h=>by
  have:=MBn_rep enc l bs (by simpa using h)
  simpa [MBn,EsRep] using this
theorem MBn_isMap {κ:Type} {enc:κ → Value} {l:List (κ × Value)} {bs:List Nat} {cl:Nat} {b:Nat} {g:Heap} (hb:g b = some (.map (MBn enc l bs).toArray cl)) (hbs:Bs bs cl l.length):IsMap g b enc l:=by
 refine ⟨_,_,hb,MBn_rep enc l bs hbs.len,?_,fun e he=>?_⟩
 ·simp only [MBn_born enc l bs hbs.len]; exact hbs.nd
 ·have:e.born ∈ (MBn enc l bs).map (·.born):=List.mem_map.2 ⟨e,he,rfl⟩
  rw [MBn_born enc l bs hbs.len] at this
  exact hbs.lt _ this
theorem MB_len {κ:Type} (enc:κ → Value) (l:List (κ × Value)):(MB enc l).length = l.length:=by simp [MB]
theorem MB_rep {κ:Type} (enc:κ → Value) (l:List (κ × Value)):EsRep enc (MB enc l) l:=by
 unfold EsRep MB
 rw [List.map_map]
 have h1:((fun e:MapEntry=>(e.key,e.val)) ∘ fun p:(κ × Value) × Nat=>({ key:=enc p.1.1,val:=p.1.2,born:=p.2 }:MapEntry)) = (fun p:κ × Value=>(enc p.1,p.2)) ∘ Prod.fst:=rfl
 rw [h1,← List.map_map,List.zipIdx_map_fst]
theorem rLenm_ok (r:TR β T Tc) (hr:HR N.toKy β H n0 ck h) {t:Nat} {x:CP} (hx:x.ok = true) (hs:(match P.underlying t with | some (.map _ _)=>true | _=>false) = true) (hop:o.op = .call ⟨.builtin .len,#[x.op],#[t]⟩):RoOk P β H h Tc o (rLenm t x T H):=by
 unfold rLenm fLenm
 split at hs
 case h_2=>cases hs
 rename_i kt et hu
 split
 ·rename_i id e
  split
  ·rename_i st t' fl cl es hc
   obtain ⟨y,hy,hv⟩:=g_m r hx e
   obtain ⟨s,l,bs,_,hb,hbs,_,_,hk,_⟩:=hr.map hc hy
   refine ⟨_,.i _ _,by rw [hop]; rfl,y,hy,by rw [hc]; rfl,fun g hg=>?_⟩
   have:=r_len_map (P:=P) hop hu hv (hg.trans hb)
   have h1:(MBn s.enc l bs).toArray.size = es.length:=by
    rw [List.size_toArray,MBn_len _ _ _ hbs.len]
    have:=congrArg List.length hk
    simpa using this
   rw [h1] at this
   exact this
  ·trivial
 ·rename_i e
  exact ⟨_,.i _ _,(r_len_map_nil (h:=fun _=>none) hop hu (g_nm r hx e)).pure0⟩
 ·trivial
theorem rMin_ok (r:TR β T Tc) {t:Nat} {x y:CP} (hx:x.ok = true) (hy:y.ok = true) (hop:o.op = .call ⟨.builtin .min,#[x.op,y.op],#[t,t]⟩):RoOk P β H h Tc o (rMin x y t T H):=by
 unfold rMin fMin
 split
 ·rename_i k n k' m e1 e2
  cases hk:ikb k k' with
  | false=>trivial
  | true =>
   have:=ikb_eq hk
   subst this
   refine ⟨_,.i _ _,?_⟩
   have:=(r_min2 (P:=P) (h:=fun _=>none) hop (g_i r hx e1) (g_i r hy e2)).pure0
   rw [iltb_eq]
   by_cases hm:m < n <;> simpa [hm] using this
 ·trivial
theorem rMax_ok (r:TR β T Tc) {t:Nat} {x y:CP} (hx:x.ok = true) (hy:y.ok = true) (hop:o.op = .call ⟨.builtin .max,#[x.op,y.op],#[t,t]⟩):RoOk P β H h Tc o (rMax x y t T H):=by
 unfold rMax fMax
 split
 ·rename_i k n k' m e1 e2
  cases hk:ikb k k' with
  | false=>trivial
  | true =>
   have:=ikb_eq hk
   subst this
   refine ⟨_,.i _ _,?_⟩
   have:=(r_max2 (P:=P) (h:=fun _=>none) hop (g_i r hx e1) (g_i r hy e2)).pure0
   rw [iltb_eq]
   by_cases hm:n < m <;> simpa [hm] using this
 ·trivial
theorem getp_ok (r:TR β T Tc):∀ {l:List (Nat × CP)},l.all (fun p=>p.2.ok) = true → (getp l T).map (·.1) = l.map (·.1) ∧ VRs β ((getp l T).map (·.2)) (l.map fun p=>ev Tc p.2.op)
 | [],_=>⟨rfl,.nil⟩
 | (i,x) :: l,hl=>by
  simp only [List.all_cons,Bool.and_eq_true] at hl
  obtain ⟨h1,h2⟩:=getp_ok r hl.2
  exact ⟨by simp only [getp,List.map_cons] at h1 ⊢; rw [← h1],.cons (CP.get_ok r x hl.1) h2⟩
theorem gets_ok (r:TR β T Tc):∀ {l:List CP},CPs l = true → VRs β (gets l T) (l.map fun p=>ev Tc p.op)
 | [],_=>.nil
 | x :: l,hl=>by
  simp only [CPs,List.all_cons,Bool.and_eq_true] at hl
  exact .cons (CP.get_ok r x hl.1) (gets_ok r hl.2)
theorem fillC_ok {pl:List (Nat × Nat)}:∀ {ps:List (Nat × CV)} {vs:List (Nat × Value)} {cs:List CV} {us:List Value} {cs':List CV},VRs β cs us → cs.all CV.one = true → ps.map (·.1) = vs.map (·.1) → VRs β (ps.map (·.2)) (vs.map (·.2)) → fillC pl cs ps = some cs' →
  ∃ us',fillL pl us vs = some us' ∧ VRs β cs' us' ∧ cs'.all CV.one = true
 | [],vs,cs,us,cs',r,h1,e1,r2,e=>by
  cases vs with
  | nil=>cases e; exact ⟨us,rfl,r,h1⟩
  | cons p vs=>simp at e1
 | (i,x) :: ps,vs,cs,us,cs',r,h1,e1,r2,e=>by
  cases vs with
  | nil=>simp at e1
  | cons p vs =>
   obtain ⟨i',v⟩:=p
   simp only [List.map_cons,List.cons.injEq] at e1
   obtain ⟨rfl,e1⟩:=e1
   cases r2 with
   | cons rx rs =>
    unfold fillC at e
    unfold fillL
    split at e
    ·cases e
    ·rename_i off size hp
     have rc:=rx.cells
     cases hc:(Nat.beq x.cells.length size && Nat.ble (off + size) cs.length && x.cells.all CV.one) with
     | false=>rw [hc] at e; cases e
     | true =>
      rw [hc] at e
      simp only [Bool.and_eq_true,Nat.beq_eq,Nat.ble_eq] at hc
      obtain ⟨⟨c1,c2⟩,c3⟩:=hc
      simp only [hp]
      have hlen:=rc.len
      rw [if_pos ⟨by rw [← c1,← hlen,Array.length_toList],by rw [r.len]; exact c2⟩]
      have hsz:v.cells.size = size:=by rw [← c1,← hlen,Array.length_toList]
      have h3:=(r.take off).append (rc.append (r.drop (off + size)))
      rw [← List.append_assoc (us.take off)] at h3
      refine fillC_ok (by simpa [hsz] using h3) ?_ e1 rs e
      rw [List.all_append,List.all_append,c3]
      have ha:=all_sub (l:=cs) (a:=0) (b:=off) h1
      have hb:=all_sub (l:=cs) (a:=off + size) (b:=cs.length) h1
      rw [List.drop_zero] at ha
      rw [List.take_of_length_le (by simp)] at hb
      rw [ha,hb]; rfl
theorem fill_mono {f g:Nat → Option (Nat × Nat)} (k:∀ i x,f i = some x → g i = some x):∀ {vs:List (Nat × Value)} {cs c:Array Value},Instr.fill f cs vs = some c → Instr.fill g cs vs = some c
 | [],cs,c,e=>e
 | (i,v) :: vs,cs,c,e=>by
  unfold Instr.fill at e ⊢
  cases hf:f i with
  | none=>rw [hf] at e; cases e
  | some x =>
   obtain ⟨off,size⟩:=x
   rw [hf] at e
   rw [k i _ hf]
   simp only at e ⊢
   split at e
   ·cases e
   ·rename_i hc
    rw [if_neg hc]
    exact fill_mono k e
theorem built_A {t:Nat} {pl:List (Nat × Nat)} {z:Array Value} {vs:List (Nat × Value)} {cells:Array Value} (hp:placesA P t = some pl) (hz:zeroOf P t = some z) (hc:Instr.fill (pl.toArray[·]?) z vs = some cells):P.built t vs = some cells:=by
 unfold placesA at hp
 split at hp
 ·rename_i n e hu
  unfold zeroOf at hz
  unfold Program.built
  cases hi:P.info? t with
  | none=>simp [hi] at hz
  | some it =>
   cases hzz:it.zero with
   | none=>simp [hi,hzz] at hz
   | some zz =>
    simp only [hi,hzz,Option.bind_some,Option.map_some,Option.some.injEq] at hz
    subst hz
    cases hie:P.info? e with
    | none=>simp [hie] at hp
    | some ie =>
     simp only [hie,Option.map_some,Option.some.injEq] at hp
     subst hp
     simp only [hu,hzz,hie]
     refine fill_mono (fun i x hx=>?_) hc
     simp only [List.getElem?_toArray,List.getElem?_map] at hx
     cases hr:(List.range n)[i]? with
     | none=>rw [hr] at hx; cases hx
     | some j =>
      rw [hr] at hx
      have:i = j:=by
       have:=(List.getElem?_eq_some_iff.1 hr).2
       simpa using this
      subst this
      simpa using hx
 ·cases hp
theorem rBld_ok (r:TR β T Tc) {t:Nat} {parts:List (Nat × CP)} {pl:List (Nat × Nat)} {z:List CV} (hx:parts.all (fun p=>p.2.ok) = true) (hp:placesOf P t = some pl ∨ placesA P t = some pl) (hz:zeroIs P t (CV.vals z) = true) (hzs:CV.shuts z = true) (hz1:z.all CV.one = true)
  (hop:o.op = .build t (parts.map fun p=>(p.1,p.2.op)).toArray):RoOk P β H h Tc o (rBld t parts pl z T H):=by
 unfold rBld fBld
 split
 ·rename_i cs e
  obtain ⟨h1,h2⟩:=getp_ok r hx
  obtain ⟨us,h3,h4,h5⟩:=fillC_ok (vs:=parts.map fun p=>(p.1,ev Tc p.2.op)) (shuts_ok β z hzs) hz1 (by rw [h1,List.map_map]; rfl) (by rw [List.map_map]; exact h2) e
  rcases hp with hp | hp
  ·exact ⟨_,.agg h5 h4,p_buildL hop (by simp) hp (Ab.zeroIs_eq hz) h3⟩
  ·refine ⟨_,.agg h5 h4,p_build (vs:=parts.map fun p=>(p.1,ev Tc p.2.op)) hop (by simp) (built_A hp (Ab.zeroIs_eq hz) (fill_fillL h3))⟩
 ·trivial
theorem rExt_ok (r:TR β T Tc) {i:Nat} {x:CP} (hx:x.ok = true) (hop:o.op = .extract x.op i):RoOk P β H h Tc o (rExt x i T H):=by
 unfold rExt; rw [fExt_eq]; unfold sExt
 split
 ·rename_i cs e
  split
  ·rename_i c hc
   obtain ⟨vs,hv,rv⟩:=g_tup r hx e
   obtain ⟨v,h1,h2⟩:=rv.get (nth_some hc)
   exact ⟨_,h2,p_val (by rw [hop]; simp only [pval,hv]; simpa using h1)⟩
  ·trivial
 ·trivial
theorem rMkf_ok (r:TR β T Tc) {f:Pos} {xs ys:List CP} (hx:CPs xs = true) (hy:CPs ys = true) (hop:o.op = .makeFunc (.func (f.nat - 1)) (xs.map CP.op).toArray (ys.map CP.op).toArray):RoOk P β H h Tc o (rMkf f xs ys T H):=by
 refine ⟨_,.fn f (gets_ok r hx) (gets_ok r hy),p_val ?_⟩
 rw [hop]
 simp [pval,Function.comp_def]
theorem rMki_ok (r:TR β T Tc) {t:Nat} {x:CP} (hx:x.ok = true) (hs:(match P.underlying t with | some (.interface _) | none=>false | _=>true) = true) (hop:o.op = .makeInterface t x.op):RoOk P β H h Tc o (rMki t x T H):=by
 refine ⟨_,.ifc t (CP.get_ok r x hx),p_val ?_⟩
 rw [hop]
 simp only [pval]
 split at hs
 ·cases hs
 ·cases hs
 ·rename_i h1 h2
  cases hu:P.underlying t with
  | none=>exact absurd hu h2
  | some d=>cases d <;> first | rfl | exact absurd hu (h1 _)
theorem bdF_ok (r:TR β T Tc) {d:Nat} {x:Option CP} {j:Nat} (hx:opC x = true) (e:bdF d x T = some j):((x.map CP.op = none) ∧ (j:Int) = d) ∨ ∃ y k,x.map CP.op = some y ∧ ev Tc y = .int k j:=by
 cases x with
 | none=>cases e; exact .inl ⟨rfl,rfl⟩
 | some y =>
  simp only [bdF,opG,bdV] at e
  split at e
  ·rename_i k j' hy; cases e; exact .inr ⟨_,k,rfl,g_i r hx hy⟩
  ·cases e
theorem rSli_ok (r:TR β T Tc) {t e sz:Nat} {x:CP} {lo hi:Option CP} (hx:x.ok = true) (hlo:opC lo = true) (hhi:opC hi = true) (hs:isSl P t e = true) (hz:P.cellsOf e = sz) (he:(P.info? e).isSome = true)
  (hop:o.op = .slice t x.op (lo.map CP.op) (hi.map CP.op) none):RoOk P β H h Tc o (rSli t x lo hi e sz T H):=by
 unfold rSli fSli
 have hu:=Ab.isSl_spec hs
 split
 ·rename_i id off n sz' c e0
  obtain ⟨y,kk,hy,hv,hn,hcc,hc⟩:=g_sl r hx e0
  split
  ·rename_i l k h1 h2
   have b1:=bdF_ok r hlo h1
   have b2:=bdF_ok r hhi h2
   cases hb:(Nat.beq sz sz' && Nat.ble l k && Nat.ble k n) with
   | false=>trivial
   | true =>
    simp only [Bool.and_eq_true,Nat.beq_eq,Nat.ble_eq] at hb
    obtain ⟨⟨c1,c2⟩,c3⟩:=hb
    subst c1
    have hps:=Ab.p_slice (P:=P) hop hu he hz hv hn b1 b2 c2 c3
    have hsub:subC c l = none ∨ subC c l = some (kk - l):=by
     rcases hc with rfl | rfl
     ·exact .inl rfl
     ·exact .inr rfl
    simp only [cond_true]
    cases hlk:Nat.beq l k with
    | true =>
     have:l = k:=Nat.eq_of_beq_eq_true hlk
     subst this
     rw [Nat.sub_self] at hps
     by_cases hkl:kk = l
     ·rw [if_pos hkl] at hps; exact ⟨_,.z hsub (fun e=>by cases e),hps⟩
     ·rw [if_neg hkl] at hps; exact ⟨_,.z hsub (fun e=>by cases e),hps⟩
    | false =>
     have hne:l ≠ k:=fun e=>by rw [e,Nat.beq_refl] at hlk; cases hlk
     have hkl:kk ≠ l:=by omega
     rw [if_neg hkl] at hps
     have ha:(Addr.mk y.b off none).add (l * sz) = ⟨y.b,off + l * sz,none⟩:=by unfold Addr.add; split <;> simp_all
     simp only [Option.map_some,ha] at hps
     refine ⟨_,.sl hy (by omega) ?_ hsub,hps⟩
     have:(l + (kk - l)) * sz = kk * sz:=by congr 1; omega
     rw [Nat.add_mul] at this
     omega
  ·trivial
 ·rename_i c e0
  obtain ⟨a,kk,hv,hc,hn⟩:=g_z r hx e0
  split
  ·rename_i h1 h2
   have b1:=bdF_ok r hlo h1
   have b2:=bdF_ok r hhi h2
   have hps:=Ab.p_slice (P:=P) (l:=0) (k:=0) hop hu he hz hv (Nat.zero_le _) b1 b2 (Nat.le_refl _) (Nat.le_refl _)
   have ha:Option.map (fun x:Addr=>x.add (0 * sz)) a = a:=by cases a <;> simp [Addr.add]
   rw [ha,ite_self] at hps
   exact ⟨_,.z hc hn,hps⟩
  ·trivial
 ·rename_i e0
  split
  ·rename_i h1 h2
   have b1:=bdF_ok r hlo h1
   have b2:=bdF_ok r hhi h2
   have hps:=Ab.p_slice (P:=P) (l:=0) (k:=0) hop hu he hz (g_ns r hx e0) (Nat.le_refl _) b1 b2 (Nat.le_refl _) (Nat.le_refl _)
   rw [Option.map_none,ite_self] at hps
   exact ⟨_,.ns,hps⟩
  ·trivial
 ·trivial
theorem rSl0_ok (r:TR β T Tc) {t e:Nat} {x hi mx:CP} (hx:x.ok = true) (hhi:hi.ok = true) (hmx:mx.ok = true) (hs:isSl P t e = true) (he:(P.info? e).isSome = true)
  (hop:o.op = .slice t x.op none (some hi.op) (some mx.op)):RoOk P β H h Tc o (rSl0 t x hi mx e T H):=by
 unfold rSl0 fSl0
 have hu:=Ab.isSl_spec hs
 split
 ·rename_i k1 k2 e1 e2
  split
  ·rename_i id off n sz c e0
   obtain ⟨y,kk,hy,hv,_⟩:=g_sl r hx e0
   exact ⟨_,.z (.inr rfl) (fun e=>by cases e),p_slice_000 hop hu he hv (g_i r hhi e1) (g_i r hmx e2)⟩
  ·rename_i e0
   obtain ⟨a,kk,hv,_,hn⟩:=g_z r hx e0
   exact ⟨_,.z (.inl rfl) (fun _=>⟨rfl,rfl⟩),p_slice_000 hop hu he hv (g_i r hhi e1) (g_i r hmx e2)⟩
  ·rename_i c e0
   obtain ⟨a,kk,hv,_,hn⟩:=g_z r hx e0
   exact ⟨_,.z (.inr rfl) (fun e=>by cases (hn e).2),p_slice_000 hop hu he hv (g_i r hhi e1) (g_i r hmx e2)⟩
  ·rename_i e0
   exact ⟨_,.ns,p_slice_000 hop hu he (g_ns r hx e0) (g_i r hhi e1) (g_i r hmx e2)⟩
  ·trivial
 ·trivial
theorem keyOf_ok {s:Sh} {c:CV} {l:List Int} (e:keyOf s c = some l) {v:Value} (hv:VR β c v):∃ hl:l.length = s.n,v = s.enc ⟨l,hl⟩:=by
 unfold keyOf at e
 split at e
 ·rename_i k k' n
  cases hk:ikb k k' with
  | false=>rw [hk] at e; cases e
  | true =>
   rw [hk] at e
   have:=ikb_eq hk
   subst this
   cases e
   cases hv
   exact ⟨rfl,rfl⟩
 ·rename_i ks cs
  cases hv with
  | agg h1 rv =>
   obtain ⟨h2,h3⟩:=nums_ok e rv
   exact ⟨h2,by rw [h3]; rfl⟩
 ·cases e
theorem zIs_ok {t:Nat} {z:CV} (h:zIs P t z = true):zeroV P t = some z.val:=by
 unfold zIs at h
 split at h
 ·rename_i v hv
  rw [hv]
  simp only [Bool.and_eq_true] at h
  have h1:=Ab.sameZs_eq h.1
  have h2:=h.2
  generalize z.val = w at h1 h2
  have h1:v.cells = w.cells:=Array.ext' h1
  congr 1
  clear hv
  cases v <;> cases w <;> first | (simp at h2; done) | rfl | (simp [Value.cells] at h1; done) | (simp [Value.cells] at h1; simp [h1])
 ·cases h
theorem findE_ok {s:Sh} {k:List Int} (hk:k.length = s.n):∀ {es:List (List Int × CV)} {l:List (s.key × Value)},l.map (fun p=>p.1.1) = es.map (·.1) → VRs β (es.map (·.2)) (l.map (·.2)) →
  (∀ c,findE k es = some c → hasK l ⟨k,hk⟩ = true ∧ ∃ v,getK l ⟨k,hk⟩ = some v ∧ VR β c v) ∧ (findE k es = none → hasK l ⟨k,hk⟩ = false ∧ getK l ⟨k,hk⟩ = none)
 | [],[],_,_=>⟨fun c e=>(by cases e),fun _=>⟨rfl,rfl⟩⟩
 | [],_ :: _,e,_=>by simp at e
 | _ :: _,[],e,_=>by simp at e
 | e :: es,p :: l,h1,h2=>by
  simp only [List.map_cons,List.cons.injEq] at h1
  simp only [List.map_cons] at h2
  cases h2 with
  | cons r1 r2 =>
   obtain ⟨i1,i2⟩:=findE_ok hk h1.2 r2
   have hd:keq k e.1 = decide ((⟨k,hk⟩:s.key) = p.1):=by
    rw [keq_eq,← h1.1]
    rw [Bool.eq_iff_iff,decide_eq_true_eq,decide_eq_true_eq]
    exact ⟨fun e=>Subtype.ext e,fun e=>congrArg Subtype.val e⟩
   unfold findE hasK getK
   rw [hd]
   cases hdd:decide ((⟨k,hk⟩:s.key) = p.1) with
   | true =>
    simp only [cond_true,List.any_cons,hdd,Bool.true_or,List.find?_cons,Option.map_some]
    exact ⟨fun c e=>by cases e; exact ⟨trivial,_,rfl,r1⟩,fun e=>by cases e⟩
   | false =>
    simp only [cond_false,List.any_cons,hdd,Bool.false_or,List.find?_cons]
    exact ⟨i1,i2⟩
theorem rLku_ok (r:TR β T Tc) (hr:HR N.toKy β H n0 ck h) {t et:Nat} {s:Sh} {x k:CP} {ok:Bool} {z:CV} (hx:x.ok = true) (hk:k.ok = true) (hs:shOk N.sh t s = true) (hz:z.shut = true) (hzi:zIs P et z = true) (het:(match P.underlying t with | some (.map _ et')=>et' == et | _=>false) = true)
  (hop:o.op = .lookup t x.op k.op ok):RoOk P β H h Tc o (rLku t s x k ok et z T H):=by
 unfold rLku fLku
 simp only [findER_eq]
 have hsh:=shOk_spec hs
 obtain ⟨kt,et',d,hu,hd,law⟩:=N.law t s hsh
 rw [hu] at het
 have het:et' = et:=by simpa using het
 subst het
 have hzv:=zIs_ok hzi
 split
 ·rename_i l e
  obtain ⟨hl,hkv⟩:=keyOf_ok e (CP.get_ok r k hk)
  split
  ·rename_i id e0
   split
   ·rename_i st t' fl cl es hc
    obtain ⟨y,hy,hv⟩:=g_m r hx e0
    obtain ⟨s',l',bs,hs',hb,hbs,hfl,n1,hkk,hvv⟩:=hr.map hc hy
    cases htt:Nat.beq t t' with
    | false=>trivial
    | true =>
     have:=Nat.eq_of_beq_eq_true htt
     subst this
     rw [hsh] at hs'
     cases hs'
     obtain ⟨i1,i2⟩:=findE_ok hl hkk hvv
     have rd:∀ g:Heap,g y.b = h y.b → ReadOp P o (ev Tc) g (if ok then .tuple #[(getK l' ⟨l,hl⟩).getD z.val,.bool (hasK l' ⟨l,hl⟩)] else (getK l' ⟨l,hl⟩).getD z.val):=fun g hg =>
      r_lookupZ law hop hu hd hzv hv hkv (MBn_isMap (hg.trans hb) hbs)
     simp only [cond_true]
     split
     ·rename_i v hf
      obtain ⟨h1,v',h2,h3⟩:=i1 v hf
      rw [h1,h2] at rd
      cases ok with
      | true=>exact ⟨_,.tup (.cons h3 (.cons (.b true) .nil)),by rw [hop]; rfl,y,hy,by rw [hc]; rfl,fun g hg=>rd g hg⟩
      | false=>exact ⟨_,h3,by rw [hop]; rfl,y,hy,by rw [hc]; rfl,fun g hg=>rd g hg⟩
     ·rename_i hf
      obtain ⟨h1,h2⟩:=i2 hf
      rw [h1,h2] at rd
      cases ok with
      | true=>exact ⟨_,.tup (.cons (shut_ok β z hz) (.cons (.b false) .nil)),by rw [hop]; rfl,y,hy,by rw [hc]; rfl,fun g hg=>rd g hg⟩
      | false=>exact ⟨_,shut_ok β z hz,by rw [hop]; rfl,y,hy,by rw [hc]; rfl,fun g hg=>rd g hg⟩
   ·trivial
  ·rename_i e0
   have:=(r_lookup_nilZ (P:=P) (h:=fun _=>none) law hop hu hd hzv (g_nm r hx e0) hkv).pure0
   cases ok with
   | true=>exact ⟨_,.tup (.cons (shut_ok β z hz) (.cons (.b false) .nil)),this⟩
   | false=>exact ⟨_,shut_ok β z hz,this⟩
  ·trivial
 ·trivial
theorem r_neg {ρ:Operand → Value} {t:TypeId} {x:Operand} {k:IntKind} {a:Int} (ho:o.op = .unOp .neg t x) (hx:ρ x = .int k a):ReadOp P o ρ h (.int k (k.wrap (0 - a))):=by
 intro w r
 simp [execOp,ho,hx,Op.unary,Op.intArith]
theorem rNeg_ok (r:TR β T Tc) {t:Nat} {x:CP} (hx:x.ok = true) (hop:o.op = .unOp .neg t x.op):RoOk P β H h Tc o (rNeg t x T H):=by
 unfold rNeg fNeg
 rw [CV.onI_eq]
 split
 ·rename_i k n e
  rw [subF_eq]
  refine ⟨_,.i _ _,?_⟩
  rw [wrF_eq]
  exact (r_neg (h:=fun _=>none) hop (g_i r hx e)).pure0
 ·trivial
theorem byt_part (l:List Nat) (a b:Nat) (h:b ≤ l.length):(byt l).extract a b = byt ((l.drop a).take (b - a)):=by
 apply ByteArray.ext
 rw [ByteArray.data_extract]
 apply Array.ext'
 simp [byt,List.extract_eq_take_drop,List.map_take,List.map_drop]
theorem p_slice_str {ρ:Operand → Value} {t:TypeId} {x:Operand} {lo hi:Option Operand} {s:ByteArray} {l k:Nat} (ho:o.op = .slice t x lo hi none) (hu:P.underlying t = some .string) (hx:ρ x = .string s)
  (hl:(lo = none ∧ (l:Int) = 0) ∨ ∃ y kk,lo = some y ∧ ρ y = .int kk l) (hh:(hi = none ∧ (k:Int) = s.size) ∨ ∃ y kk,hi = some y ∧ ρ y = .int kk k) (c1:l ≤ k) (c2:k ≤ s.size):PureOp P o ρ (.string (s.extract l k)):=by
 intro w
 rcases hl with ⟨rfl,hl⟩ | ⟨y,kk,rfl,hl⟩ <;> rcases hh with ⟨rfl,hh⟩ | ⟨z,kz,rfl,hh⟩
 ·have:l = 0:=by omega
  have:k = s.size:=by omega
  subst_vars
  simp [execOp,ho,Instr.sliceAt,Instr.slice,run_underlying hu,hx,Instr.sliceBounds]
 ·have:l = 0:=by omega
  subst_vars
  simp [execOp,ho,Instr.sliceAt,Instr.slice,run_underlying hu,hx,Instr.sliceBounds,Instr.sliceBound,asIntOf,hh,c2]
 ·have:k = s.size:=by omega
  subst_vars
  simp [execOp,ho,Instr.sliceAt,Instr.slice,run_underlying hu,hx,Instr.sliceBounds,Instr.sliceBound,asIntOf,hl,c1]
 ·simp [execOp,ho,Instr.sliceAt,Instr.slice,run_underlying hu,hx,Instr.sliceBounds,Instr.sliceBound,asIntOf,hl,hh,c1,c2]
theorem rSlis_ok (r:TR β T Tc) {t:Nat} {x:CP} {lo hi:Option CP} (hx:x.ok = true) (hlo:opC lo = true) (hhi:opC hi = true) (hs:isStr P t = true)
  (hop:o.op = .slice t x.op (lo.map CP.op) (hi.map CP.op) none):RoOk P β H h Tc o (rSlis t x lo hi T H):=by
 unfold rSlis
 rw [fSlis_eq]
 split
 ·rename_i l e0
  obtain ⟨hv,hb⟩:=g_s r hx e0
  split
  ·rename_i a b h1 h2
   have b1:=bdF_ok r hlo h1
   have b2:=bdF_ok r hhi h2
   cases hc:(Nat.ble a b && Nat.ble b l.length) with
   | false=>trivial
   | true =>
    simp only [Bool.and_eq_true,Nat.ble_eq] at hc
    have hsz:(byt l).size = l.length:=by simp [byt,ByteArray.size]
    have hp:=p_slice_str (P:=P) hop (Ab.isStr_spec hs) hv b1 (by rw [hsz]; exact b2) hc.1 (by rw [hsz]; exact hc.2)
    rw [byt_part l a b hc.2] at hp
    refine ⟨_,.s _ ?_,hp⟩
    rw [List.all_eq_true] at hb ⊢
    exact fun y hy=>hb y (List.mem_of_mem_drop (List.mem_of_mem_take hy))
  ·trivial
 ·trivial
theorem p_slice_arr {t e:TypeId} {x:Operand} {lo hi:Option Operand} {a:Addr} {n l k sz:Nat} (hop:o.op = .slice t x lo hi none) (hu:P.underlying t = some (.array n e)) (he:(P.info? e).isSome = true) (hs:P.cellsOf e = sz) (hx:ev Tc x = .pointer (some a))
  (hl:(lo = none ∧ (l:Int) = 0) ∨ ∃ y kk,lo = some y ∧ ev Tc y = .int kk l) (hk:(hi = none ∧ (k:Int) = n) ∨ ∃ y kk,hi = some y ∧ ev Tc y = .int kk k) (hlk:l ≤ k) (hkn:k ≤ n) :
  PureOp P o (ev Tc) (.slice (some (if n = l then a else a.add (l * sz))) (k - l) (n - l)):=by
 intro w
 subst hs
 have h1:∀ y:Nat,∀ kk:IntKind,∀ m:Nat,∀ bc:BoundsCode,y ≤ m → (Instr.sliceBound (.int kk (y:Int)) m bc).run P w = .ok y w:=fun y kk m bc hm=>by
  have:(0:Int) ≤ (y:Int) ∧ (y:Int) ≤ (m:Int):=by omega
  simp [Instr.sliceBound,asIntOf,this] <;> omega
 have hb:(Instr.sliceBounds false n n (lo.map (ev Tc)) (hi.map (ev Tc)) none).run P w = .ok (l,k,n) w:=by
  rcases hl with ⟨rfl,h2⟩ | ⟨y,kk,rfl,h2⟩ <;> rcases hk with ⟨rfl,h3⟩ | ⟨z,kz,rfl,h3⟩
  ·have:l = 0:=by omega
   have:k = n:=by omega
   subst_vars; simp [Instr.sliceBounds]
  ·have:l = 0:=by omega
   subst this
   simp [Instr.sliceBounds,h3,h1 k kz n _ hkn]
  ·have:k = n:=by omega
   subst this
   simp [Instr.sliceBounds,h2,h1 l kk k _ hlk]
  ·simp [Instr.sliceBounds,h2,h3,h1 l kk k _ hlk,h1 k kz n _ hkn]
 simp only [execOp,hop,Instr.sliceAt,Sem.run_bind,run_underlying hu,Result.andThen_ok,Instr.sureAddr,hx,Option.map_none,hb,run_cellsOf _ _ he,Sem.run_pure]
theorem rSlia_ok (r:TR β T Tc) (hr:HR N.toKy β H n0 ck h) {t e sz n:Nat} {x:CP} {lo hi:Option CP} (hx:x.ok = true) (hlo:opC lo = true) (hhi:opC hi = true) (hs:isArr P t n e = true) (hz:P.cellsOf e = sz) (he:(P.info? e).isSome = true)
  (hop:o.op = .slice t x.op (lo.map CP.op) (hi.map CP.op) none):RoOk P β H h Tc o (rSlia t x lo hi e sz n T H):=by
 unfold rSlia
 rw [fSlia_eq]
 unfold sSlia
 simp only [leR_eq]
 split
 ·rename_i id off e0
  obtain ⟨y,hy,hv⟩:=g_p r hx e0
  split
  ·rename_i l k h1 h2
   have b1:=bdF_ok r hlo h1
   have b2:=bdF_ok r hhi h2
   split
   ·rename_i st t' cs hc
    cases hb:(Nat.ble l k && Nat.ble k n && Nat.ble (off + n * sz) cs.length) with
    | false=>trivial
    | true =>
     simp only [Bool.and_eq_true,Nat.ble_eq] at hb
     obtain ⟨⟨c1,c2⟩,c3⟩:=hb
     obtain ⟨vs,tl,hh,hl,rv,ho⟩:=hr.cells hc hy
     have hlen:=rv.len
     have hps:=p_slice_arr (P:=P) hop (Ab.isArr_spec hs) he hz hv b1 b2 c1 c2
     simp only [cond_true]
     cases hlk:Nat.beq l k with
     | true =>
      have:l = k:=Nat.eq_of_beq_eq_true hlk
      subst this
      rw [Nat.sub_self] at hps
      exact ⟨_,.z (.inr rfl) (fun e=>by cases e),hps⟩
     | false =>
      have hne:l ≠ k:=fun e=>by rw [e,Nat.beq_refl] at hlk; cases hlk
      have hkl:n ≠ l:=by omega
      rw [if_neg hkl] at hps
      have ha:(Addr.mk y.b off none).add (l * sz) = ⟨y.b,off + l * sz,none⟩:=by unfold Addr.add; split <;> simp_all
      rw [ha] at hps
      refine ⟨_,.sl hy (by omega) ?_ (.inr rfl),hps⟩
      have h3:(l + (n - l)) * sz = n * sz:=by congr 1; omega
      rw [Nat.add_mul] at h3
      have:(vs ++ tl).length = vs.length + tl.length:=List.length_append
      omega
   ·trivial
  ·trivial
 ·trivial
theorem rS2a_ok (r:TR β T Tc) {t n:Nat} {x:CP} (hx:x.ok = true) (hs:arrN P t n = true) (hop:o.op = .sliceToArrayPointer t x.op):RoOk P β H h Tc o (rS2a t x n T H):=by
 unfold rS2a
 rw [fS2a_eq]
 unfold sS2a
 split
 ·rename_i id off m sz c e0
  obtain ⟨y,k,hy,hv,hn,hcc,_⟩:=g_sl r hx e0
  obtain ⟨e,hu⟩:=arrN_spec hs
  cases hb:Nat.ble n m with
  | false=>trivial
  | true =>
   have hle:=Nat.le_of_ble_eq_true hb
   refine ⟨_,.p off hy,?_⟩
   intro w
   have hlt:¬ m < n:=by omega
   simp [execOp,hop,Instr.arrayAt,run_underlying hu,hv,hlt]
 ·trivial
end
end Go.Proofs.YtihdpjinaafenaaGreatDoor.Ce

/- Literals of lists of several. -/
namespace Go.Proofs.YtihdpjinaafenaaGreatDoor.Sl
end Go.Proofs.YtihdpjinaafenaaGreatDoor.Sl
