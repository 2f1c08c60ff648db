import Derived.Test.YtihdpjinaafenaaGreatDoorNb18
import Derived.Test.YtihdpjinaafenaaGreatDoorProg
noncomputable section
/- The evaluator: answers known ahead of time: Number's of values not looked at; a call that was evaluated. -/
set_option linter.unusedVariables false
set_option linter.unusedSimpArgs false
namespace Go.Proofs.YtihdpjinaafenaaGreatDoor.Ce
open Go.Proofs.YtihdpjinaafenaaGreatDoor.Sl Go.RowKit
variable {P : Program}
def posB:Pos → Pos → Bool
 | .h,.h=>true
 | .o p,.o q=>posB p q
 | .i p,.i q=>posB p q
 | _,_=>false
theorem posB_eq:∀ {p q:Pos},posB p q = true → p = q
 | .h,.h,_=>rfl
 | .o p,.o q,h=>by rw [posB_eq (p:=p) (q:=q) h]
 | .i p,.i q,h=>by rw [posB_eq (p:=p) (q:=q) h]
 | .h,.o _,h=>by cases h
 | .h,.i _,h=>by cases h
 | .o _,.h,h=>by cases h
 | .o _,.i _,h=>by cases h
 | .i _,.h,h=>by cases h
 | .i _,.o _,h=>by cases h
theorem calls_pure {f:FuncId} {args:Array Value} {R:Value → Heap → Prop} (c:SCalls P f args (fun _=>none) R) (h:Heap):SCalls P f args h (fun r h'=>h.le h' ∧ ∃ h1,R r h1):=by
 intro w rel
 refine (c w (fun b o e=>by cases e)).mono ?_
 rintro e w' ⟨v,h1,rfl,hR,r,st⟩
 refine ⟨v,h,rfl,⟨Heap.le_refl _,h1,hR⟩,fun b o e=>?_,⟨st.os,st.tape,st.output,st.size,fun b hb _=>st.keep b hb rfl,fun b e1 e2=>absurd e1 e2⟩⟩
 rw [st.keep b (rel.lt e) rfl]; exact rel b o e
def lookN (j b:Nat):List (Nat × Nat × Nat) → Option CV
 | []=>none
 | e :: r=>bif Nat.beq j e.1 && Nat.beq b e.2.1 then some (.i .i64 (.ofNat e.2.2)) else lookN j b r
def numF (tb:List (Nat × Nat × Nat)):NF:=fun args H n ck=>match args with
 | [.xi j,.i .i64 (.ofNat b)]=>match lookN j b tb with
  | some v=>some (.ok v H n ck)
  | none=>none
 | _=>none
def tfF:NF:=fun args H n ck=>match args with
 | []=>some (.ok (.b true) H n ck)
 | _=>none
def lookF (f:Pos) (l:List (Pos × NF)):Option NF:=List.rec none (fun e _ ih=>Bool.rec ih (some e.2) (posB f e.1)) l
def omL (l:List (Pos × NF)):Om:=fun f args H n ck=>Option.rec none (fun F=>F args H n ck) (lookF f l)
def omX (num:Pos) (fs:List Pos) (tb:List (Nat × Nat × Nat)) (ex:List (Pos × NF)):Om:=omL ((num,numF tb) :: (fs.map (fun f=>(f,tfF)) ++ ex))
theorem lookN_mem {j b:Nat} {v:CV}:∀ {tb:List (Nat × Nat × Nat)},lookN j b tb = some v → ∃ r,(j,b,r) ∈ tb ∧ v = .i .i64 (.ofNat r)
 | [],h=>by cases h
 | (j',b',r) :: tb,h=>by
  unfold lookN at h
  cases hb:(Nat.beq j j' && Nat.beq b b') with
  | true =>
   rw [hb] at h
   cases h
   simp only [Bool.and_eq_true,Nat.beq_eq] at hb
   exact ⟨r,by simp [hb.1,hb.2],rfl⟩
  | false =>
   rw [hb] at h
   obtain ⟨r',h1,h2⟩:=lookN_mem h
   exact ⟨r',List.mem_cons_of_mem _ h1,h2⟩
theorem lookF_mem {f:Pos} {F:NF}:∀ {l:List (Pos × NF)},lookF f l = some F → (f,F) ∈ l
 | [],h=>by cases h
 | (g,G) :: l,h=>by
  replace h:(Bool.rec (lookF f l) (some G) (posB f g):Option NF) = some F:=h
  cases hp:posB f g with
  | true=>rw [hp] at h; cases h; rw [posB_eq hp]; exact List.mem_cons_self
  | false=>rw [hp] at h; exact List.mem_cons_of_mem _ (lookF_mem h)
theorem omL_ok {N:Kn P} {l:List (Pos × NF)} (h:∀ e ∈ l,NFOk N e.1 e.2):OmOk N (omL l):=by
 intro f args H n ck v H' n' ck' e
 replace e:(Option.rec none (fun F=>F args H n ck) (lookF f l):Option Ao) = some (.ok v H' n' ck'):=e
 cases hl:lookF f l with
 | none=>rw [hl] at e; cases e
 | some F =>
  rw [hl] at e
  exact h (f,F) (lookF_mem hl) args H n ck v H' n' ck' e
theorem numF_ok {N:Kn P} {num:Pos} {tb:List (Nat × Nat × Nat)} (ai:Nat → Int) (hx:∀ j b r,(j,b,r) ∈ tb → N.ξ j = .int .i64 (ai j)) (htb:∀ j b r,(j,b,r) ∈ tb → ai j % (b:Int) = (r:Int) ∧ 0 < b ∧ b ≤ 4611686018427387904)
  (hnum:Ab.okCall P (num.nat - 1) = true) (hN:∀ (n b:Int) (h:Heap),0 < b → b ≤ 4611686018427387904 → SCalls P (num.nat - 1) #[.int .i64 n,.int .i64 b] h (fun v h'=>h' = h ∧ v = .int .i64 (n % b))):NFOk N num (numF tb):=by
 intro args H n ck v H' n' ck' e β h vs hr rv
 unfold numF at e
 split at e
 ·rename_i j b
  split at e
  ·rename_i v0 hv0
   cases e
   obtain ⟨r,hr1,rfl⟩:=lookN_mem hv0
   obtain ⟨h1,h2,h3⟩:=htb j b r hr1
   refine ⟨hnum,?_⟩
   cases rv with
   | cons r1 rv =>
    cases rv with
    | cons r2 rv =>
     cases rv
     cases r1
     cases r2
     rw [hr.xs,hx j b r hr1]
     refine (hN (ai j) (b:Int) h (by omega) (by omega)).mono fun u h' ⟨e1,e2⟩=>?_
     subst e1
     rw [e2,h1]
     exact aft_le hr (Heap.le_refl _) (.i _ _)
  ·cases e
 ·cases e
theorem tfF_ok {N:Kn P} {f:Pos} (h1:Ab.okCall P (f.nat - 1) = true) (h2:SCalls P (f.nat - 1) #[] (fun _=>none) (fun r _=>r = .bool true)):NFOk N f tfF:=by
 intro args H n ck v H' n' ck' e β h vs hr rv
 unfold tfF at e
 split at e
 ·cases e
  refine ⟨h1,?_⟩
  cases rv
  refine (calls_pure h2 h).mono fun u h' ⟨e1,_,e2⟩=>?_
  rw [e2]
  exact aft_le hr e1 (.b true)
 ·cases e
theorem omG_ok {N:Kn P} {num:Pos} {fs:List Pos} {tb:List (Nat × Nat × Nat)} {ex:List (Pos × NF)} (ai:Nat → Int) (hx:∀ j b r,(j,b,r) ∈ tb → N.ξ j = .int .i64 (ai j)) (htb:∀ j b r,(j,b,r) ∈ tb → ai j % (b:Int) = (r:Int) ∧ 0 < b ∧ b ≤ 4611686018427387904)
  (hnum:Ab.okCall P (num.nat - 1) = true) (hN:∀ (n b:Int) (h:Heap),0 < b → b ≤ 4611686018427387904 → SCalls P (num.nat - 1) #[.int .i64 n,.int .i64 b] h (fun v h'=>h' = h ∧ v = .int .i64 (n % b)))
  (hfs:∀ f ∈ fs,Ab.okCall P (f.nat - 1) = true ∧ SCalls P (f.nat - 1) #[] (fun _=>none) (fun r _=>r = .bool true)) (hex:∀ e ∈ ex,NFOk N e.1 e.2):OmOk N (omX num fs tb ex):=by
 refine omL_ok fun e he=>?_
 rcases List.mem_cons.1 he with rfl | he
 ·exact numF_ok ai hx htb hnum hN
 ·rcases List.mem_append.1 he with he | he
  ·obtain ⟨f,hf,rfl⟩:=List.mem_map.1 he
   exact tfF_ok (hfs f hf).1 (hfs f hf).2
  ·exact hex e he
def om0:Om:=fun _ _ _ _ _=>none
theorem om0_ok {N:Kn P}:OmOk N om0:=fun _ _ _ _ _ _ _ _ _ e=>by cases e
end Go.Proofs.YtihdpjinaafenaaGreatDoor.Ce

/- Plain facts on addresses' bits. No program. -/
namespace Go.Proofs.YtihdpjinaafenaaGreatDoor
theorem wrap64_in (n:Int) (h:-9223372036854775808 ≤ n) (h':n ≤ 9223372036854775807):IntKind.i64.wrap n = n:=by
 show (if (true && decide (n % 18446744073709551616 ≥ 9223372036854775808)) = true then n % 18446744073709551616 - 18446744073709551616 else n % 18446744073709551616) = n
 simp only [Bool.true_and,decide_eq_true_eq]
 split <;> omega
theorem wrap64_nat (n:Int) (m:Nat) (h:n = (m:Int)) (h':m ≤ 9223372036854775807):IntKind.i64.wrap n = (m:Int):=by rw [h,wrap64_in _ (by omega) (by omega)]
def maskNat (m:Nat):Nat:=4294967296 - 2 ^ (32 - m)
def cut (A m:Nat):Nat:=A &&& maskNat m
end Go.Proofs.YtihdpjinaafenaaGreatDoor

/- rivuletworld.Number. -/
namespace Go.Proofs.YtihdpjinaafenaaGreatDoor
open Sl
theorem tmod_fix (n b:Int) (hb:0 < b):(0 ≤ n.tmod b → n.tmod b = n % b) ∧ (n.tmod b < 0 → n.tmod b + b = n % b) ∧ -b < n.tmod b ∧ n.tmod b < b:=by
 have h1:=Int.tmod_eq_emod (a:=n) (b:=b)
 have h2:=Int.emod_nonneg n (show b ≠ 0 by omega)
 have h3:=Int.emod_lt_of_pos n hb
 have hab:(b.natAbs:Int) = b:=by omega
 split at h1
 ·omega
 ·rename_i hc
  have hne:n % b ≠ 0:=fun e=>hc (.inr (Int.dvd_of_emod_eq_zero e))
  rw [hab] at h1
  omega
theorem number_ok (n b:Int) (hb:0 < b) (hb':b ≤ 4611686018427387904) (h:Heap):SCalls Tryz.prog 13 #[.int .i64 n,.int .i64 b] h (fun v h'=>h' = h ∧ v = .int .i64 (n % b)):=by
 refine s_enter Tryz.func13 rfl (by rw [Tryz.ntmps13]; simp) ?_
 rw [Tryz.ntmps13]
 obtain ⟨hf1,hf2,hlow,hhigh⟩:=tmod_fix n b hb
 have h2:=Int.emod_nonneg n (show b ≠ 0 by omega)
 have h3:=Int.emod_lt_of_pos n hb
 have hbn:b ≠ 0:=by omega
 have hbn':(b == 0) = false:=by simp [hbn]
 have hw:IntKind.i64.wrap (n.tmod b) = n.tmod b:=wrap64_in _ (by omega) (by omega)
 generalize hT:T0 #[.int .i64 n,.int .i64 b] = T
 have h0:T 0 = .int .i64 n:=by rw [← hT]; rfl
 have h1:T 1 = .int .i64 b:=by rw [← hT]; rfl
 clear hT
 repeat refine s_seq ?_
 repeat refine s_seq ?_
 refine s_region ?_
 refine w_pv rfl dC (want_none rfl) (p_val evA) ?_
 refine w_nil ?_
 repeat refine s_seq ?_
 refine s_region ?_
 refine w_pv rfl dC (want_none rfl) (p_val evA) ?_
 refine w_pv rfl dC (want_none rfl) (p_val evA) ?_
 refine w_rd rfl dC (want_none rfl) (r_rem rfl evA evA arA) ?_
 refine w_pv rfl dC (want_none rfl) (p_val evA) ?_
 refine w_nil ?_
 repeat refine s_seq ?_
 refine s_region ?_
 refine w_pv rfl dC (want_none rfl) (p_val evA) ?_
 refine w_pv rfl dC (want_none rfl) (p_val evA) ?_
 refine w_nil ?_
 generalize n.tmod b = r at *
 generalize n % b = r' at *
 by_cases hr:r < 0
 ·have hd:decide (r < 0) = true:=decide_eq_true hr
  have hw2:IntKind.i64.wrap (r + b) = r':=by rw [hf2 hr]; exact wrap64_in _ (by omega) (by omega)
  clear hf1 hf2
  repeat refine s_seq ?_
  refine s_cond (t:=true) slA ?_
  repeat refine s_seq ?_
  refine s_region ?_
  refine w_pv rfl dC (want_none rfl) (p_val evA) ?_
  refine w_pv rfl dC (want_none rfl) (p_val evA) ?_
  refine w_pv rfl dC (want_none rfl) (p_val evA) ?_
  refine w_pv rfl dC (want_none rfl) (p_val evA) ?_
  refine w_nil ?_
  repeat refine s_seq ?_
  refine s_region ?_
  refine w_pv rfl dC (want_none rfl) (p_val evA) ?_
  refine w_pv rfl dC (want_none rfl) (p_val evA) ?_
  refine w_nil ?_
  refine s_ret ⟨_,res_one rfl rfl,rfl,?_⟩
  simp only [pval,ev,upd,binVal,intBin,Option.map_some,↓reduceIte,reduceCtorEq,Nat.reduceEqDiff,Nat.reduceBEq,List.map_toArray,List.map_cons,List.map_nil,cond_true,cond_false,decide_true,decide_false,Bool.not_true,Bool.not_false,Bool.true_and,Bool.false_and,Bool.and_true,Bool.and_false,beq_self_eq_true,bne_self_eq_false,List.getElem_toArray,List.getElem_cons_succ,List.getElem_cons_zero, *]
 ·have hd:decide (r < 0) = false:=decide_eq_false hr
  have hw2:r = r':=hf1 (by omega)
  subst hw2
  clear hf1 hf2
  repeat refine s_seq ?_
  refine s_cond (t:=false) slA ?_
  repeat refine s_seq ?_
  refine s_skip ?_
  repeat refine s_seq ?_
  refine s_region ?_
  refine w_pv rfl dC (want_none rfl) (p_val evA) ?_
  refine w_pv rfl dC (want_none rfl) (p_val evA) ?_
  refine w_nil ?_
  refine s_ret ⟨_,res_one rfl rfl,rfl,?_⟩
  simp only [pval,ev,upd,binVal,intBin,Option.map_some,↓reduceIte,reduceCtorEq,Nat.reduceEqDiff,Nat.reduceBEq,List.map_toArray,List.map_cons,List.map_nil,cond_true,cond_false,decide_true,decide_false,Bool.not_true,Bool.not_false,Bool.true_and,Bool.false_and,Bool.and_true,Bool.and_false,beq_self_eq_true,bne_self_eq_false,List.getElem_toArray,List.getElem_cons_succ,List.getElem_cons_zero, *]
end Go.Proofs.YtihdpjinaafenaaGreatDoor

/- Which keys are sound: checked by reckoning. -/
namespace Go.Proofs.YtihdpjinaafenaaGreatDoor.Sl
mutual
def ckv (P:Program):Nat → TypeId → Value → Bool
 | 0,_,_=>false
 | n + 1,t,v=>match P.underlying t,v with
  | some (.struct fs),.agg cs=>ckvF P n cs fs.toList
  | some (.int _),_=>true
  | some .string,_=>true
  | some .bool,_=>true
  | _,_=>false
def ckvF (P:Program):Nat → Array Value → List Field → Bool
 | _,_,[]=>true
 | n, cs, f :: r => (if f.name = "_" then true else match partV P f.type cs f.offset with | some a => ckv P n f.type a | none => false) && ckvF P n cs r
end
theorem run_ckv {P:Program}:∀ (n:Nat) (t:TypeId) (v:Value) (emp:Bool) (w:World),ckv P n t v = true → (Instr.checkKey emp n t v).run P w = .ok () w:=by
 intro n
 induction n with
 | zero=>intro t v emp w h; simp [ckv] at h
 | succ n ih =>
  have ihF : ∀ (fs : List Field) (cs : Array Value) (emp : Bool) (w : World), ckvF P n cs fs = true → (forIn (m := Sem) fs PUnit.unit fun f __s => if f.name = "_" then pure (ForInStep.yield PUnit.unit) else do
    let x ← part f.type cs f.offset
    (fun a=>ForInStep.yield PUnit.unit) <$> Instr.checkKey emp n f.type x).run P w = .ok PUnit.unit w:=by
   intro fs
   induction fs with
   | nil=>intro cs emp w h; rfl
   | cons f r ihr =>
    intro cs emp w h
    simp only [ckvF,Bool.and_eq_true] at h
    obtain ⟨h1,h2⟩:=h
    have ih2:=ihr cs emp w h2
    simp only [List.forIn_cons,Sem.run_bind]
    by_cases hf : f.name = "_"
    ·simp only [hf,if_true,Sem.run_pure,Result.andThen_ok]; exact ih2
    ·simp only [hf,if_false] at h1
     cases hp:partV P f.type cs f.offset with
     | none=>rw [hp] at h1; cases h1
     | some a =>
      rw [hp] at h1
      simp only [hf,if_false,Sem.run_bind,run_partV hp,Result.andThen_ok,Sem.run_map,ih f.type a emp w h1,Sem.run_pure]
      exact ih2
  intro t v emp w h
  unfold ckv at h
  split at h
  ·rename_i fs cs hu
   simp only [Instr.checkKey,Sem.run_bind,run_underlying hu,Result.andThen_ok]
   have:=ihF fs.toList cs emp w h
   rw [Array.forIn_toList] at this
   simp [this]
  all_goals first | (rename_i hu; simp [Instr.checkKey,run_underlying hu]; done) | (cases h; done)
end Go.Proofs.YtihdpjinaafenaaGreatDoor.Sl
namespace Go.Proofs.YtihdpjinaafenaaGreatDoor
open Sl
structure Chg (D D':Nat → Prop) (h h':Heap):Prop where
 keep:∀ b o,¬ D b → h b = some o → h' b = some o
 ext:∀ b,D' b → D b ∨ h b = none
theorem Chg.refl (D:Nat → Prop) (h:Heap):Chg D D h h:=⟨fun _ _ _ e=>e,fun _ d=>.inl d⟩
theorem Chg.trans {D D1 D2:Nat → Prop} {h h1 h2:Heap} (a:Chg D D1 h h1) (b:Chg D1 D2 h1 h2):Chg D D2 h h2 where
 keep:=fun k o hn e=>b.keep k o (fun d=>by
  rcases a.ext k d with d | d
  ·exact hn d
  ·rw [d] at e; cases e) (a.keep k o hn e)
 ext:=fun k d=>by
  rcases b.ext k d with d | d
  ·exact a.ext k d
  ·by_cases hd:D k
   ·exact .inl hd
   ·cases e:h k with
    | none=>exact .inr rfl
    | some o=>rw [a.keep k o hd e] at d; cases d
theorem Chg.le {D D':Nat → Prop} {h h' h2:Heap} (a:Chg D D' h h') (l:h'.le h2):Chg D D' h h2:=⟨fun b o hn e=>l b o (a.keep b o hn e),a.ext⟩
end Go.Proofs.YtihdpjinaafenaaGreatDoor

/- The table of what was heard, in memory. -/
namespace Go.Proofs.YtihdpjinaafenaaGreatDoor
open Sl
abbrev ThK:=(Int × Int × Int) × (Int × Int)
def thV (k:ThK):Value:=.agg #[.int .i64 k.1.1,.int .i64 k.1.2.1,.int .u32 k.1.2.2,.int .u32 k.2.1,.int .u32 k.2.2]
structure MsgA where
 kind:Int
 frm:Int
 to:Int
 src:Int
 grp:Int
 rank:Int
 cost:Int
 only:Bool
 srcs:List Int
def entV (k:ThK) (age:Int) (m:MsgA) (sv:Value):Value:=.agg #[.int .i64 k.1.1,.int .i64 k.1.2.1,.int .u32 k.1.2.2,.int .u32 k.2.1,.int .u32 k.2.2,.int .i64 age,.int .i64 m.kind,.int .u32 m.frm,.int .u32 m.to,.int .u32 m.src,.int .u32 m.grp,.int .i64 m.rank,.int .i64 m.cost,.bool m.only,sv]
structure Rc where
 key:ThK
 age:Int
 msg:MsgA
 sv:Value
 born:Nat
def Rc.ey (r:Rc):Ey ThK:=⟨r.key,entV r.key r.age r.msg r.sv,r.born⟩
structure AT where
 key:ThK
 age:Int
 msg:MsgA
def Rc.t (r:Rc):AT:=⟨r.key,r.age,r.msg⟩
structure RowD (h:Heap) (D:Nat → Prop) (r:Rc):Prop where
 cells:Cells h 1 r.sv r.msg.srcs.length (r.msg.srcs.map (.int .u32))
 blk:∀ b,blockOf r.sv = some b → D b
 len:r.msg.srcs.length ≤ 1000000
 one:r.sv.oneCell' = true
 age0:0 ≤ r.age
 age3:r.age ≤ 3
structure TableAt (h:Heap) (D:Nat → Prop) (p:Nat) (ts:List AT):Prop where
 out:∃ (mv:Value) (ty:TypeId),h p = some (.cells #[mv] ty (0,0)) ∧ D p ∧ ((mv = .map none ∧ ts = []) ∨ ∃ (mb:Nat) (rs:List Rc) (cl:Nat),mv = .map (some mb) ∧ D mb ∧ IsMapN h mb thV (rs.map Rc.ey) cl ∧ ts = rs.map Rc.t ∧ ∀ r ∈ rs,RowD h D r)
 dom:∀ b,D b → h b ≠ none
theorem thing_key:KeyLaw Tryz.prog 144 thV where
 now:=by
  intro d hd
  rw [Tryz.underlying144] at hd
  cases hd
  exact .inr fun _ _=>rfl
 eq:=by
  intro k k' w
  refine run_eqv 10000 _ _ _ _ w ?_
  obtain ⟨⟨a1,a2,a3⟩,a4,a5⟩:=k
  obtain ⟨⟨b1,b2,b3⟩,b4,b5⟩:=k'
  have h52:Tryz.prog.cellsOf 47 = 2:=by kernel_rfl
  simp [eqv,eqvFields,partV,thV,h52]
  rw [Bool.eq_iff_iff]; simp; omega
 check:=fun emp k w=>run_ckv 10000 _ _ emp w (by
  have h52:Tryz.prog.cellsOf 47 = 2:=by kernel_rfl
  simp [ckv,ckvF,partV,thV,h52])
 bits:=by intro k; simp [Instr.sameBits,thV]
theorem RowD.only {h h':Heap} {D:Nat → Prop} {r:Rc} (x:RowD h D r) (e:∀ b o,D b → h b = some o → (∀ es cl,o ≠ .map es cl) → h' b = some o):RowD h' D r:=by
 refine ⟨?_,x.blk,x.len,x.one,x.age0,x.age3⟩
 have hc:=x.cells
 have hb:=x.blk
 generalize r.sv = v at hc hb ⊢
 generalize r.msg.srcs.map (Value.int .u32) = cs at hc ⊢
 generalize r.msg.srcs.length = n at hc ⊢
 cases hc with
 | zero a c=>exact .zero a c
 | at_ h1 hl hnc hc=>exact .at_ (e _ _ (hb _ rfl) h1 (by intros; simp)) hl hnc hc
def gone (r:Rc):Bool:=decide (r.age + 1 > 3)
def tickR (r:Rc):Option Rc:=if gone r then none else some { r with age:=r.age + 1 }
def midR (seen:List Nat) (r:Rc):Option Rc:=if r.born ∈ seen then tickR r else some r
def mids (rs:List Rc) (seen:List Nat):List Rc:=rs.filterMap (midR seen)
def goneN (rs:List Rc) (seen:List Nat):Nat:=(rs.filter fun r=>decide (r.born ∈ seen) && gone r).length
theorem goneN_nil (rs:List Rc):goneN rs [] = 0:=by
 unfold goneN
 induction rs with
 | nil=>rfl
 | cons r rs ih=>rw [List.filter_cons]; simp only [List.not_mem_nil,decide_false,Bool.false_and,Bool.false_eq_true,if_false] at ih ⊢; exact ih
theorem midR_same {seen:List Nat} {r y:Rc} (h:midR seen r = some y):y.key = r.key ∧ y.born = r.born ∧ y.msg = r.msg ∧ y.sv = r.sv ∧ (r.born ∉ seen → y = r):=by
 unfold midR at h
 split at h
 ·unfold tickR at h
  split at h
  ·cases h
  ·cases h; rename_i h1 _; exact ⟨rfl,rfl,rfl,rfl,fun h2=>absurd h1 h2⟩
 ·cases h; exact ⟨rfl,rfl,rfl,rfl,fun _=>rfl⟩
theorem mids_nil (rs:List Rc):mids rs [] = rs:=by
 unfold mids
 induction rs with
 | nil=>rfl
 | cons r rs ih=>rw [List.filterMap_cons]; simp [midR]; exact ih
theorem mids_at {rs:List Rc} {seen:List Nat} {e:Ey ThK} (he:e ∈ (mids rs seen).map Rc.ey) (hs:e.born ∉ seen):∃ r ∈ rs,e = r.ey ∧ r.born ∉ seen:=by
 obtain ⟨y,hy,rfl⟩:=List.mem_map.1 he
 obtain ⟨r,hr,h1⟩:=List.mem_filterMap.1 hy
 obtain ⟨_,h2,_,_,h3⟩:=midR_same h1
 have hs':r.born ∉ seen:=by rw [← h2]; exact hs
 exact ⟨r,hr,by rw [h3 hs'],hs'⟩
theorem filter_mid {f f':Rc → Option Rc} {p:Rc → Bool}:∀ {rs:List Rc},(∀ x ∈ rs,f' x = (f x).filter p) → (rs.filterMap f).filter p = rs.filterMap f'
 | [],_=>rfl
 | r :: rs,h=>by
  have ih:=filter_mid (rs:=rs) (f:=f) (f':=f') (p:=p) (fun x hx=>h x (by simp [hx]))
  have h0:=h r (by simp)
  rw [List.filterMap_cons,List.filterMap_cons,h0]
  cases f r with
  | none=>simpa using ih
  | some y =>
   cases hp:p y with
   | true=>simp [Option.filter,hp,ih]
   | false=>simp [Option.filter,hp,ih]
theorem map_mid {f f':Rc → Option Rc} {g:Rc → Rc} {rs:List Rc} (h:∀ x ∈ rs,f' x = (f x).map g):(rs.filterMap f).map g = rs.filterMap f':=by
 induction rs with
 | nil=>rfl
 | cons r rs ih =>
  have ih:=ih (fun x hx=>h x (by simp [hx]))
  rw [List.filterMap_cons,List.filterMap_cons,h r (by simp)]
  cases f r with
  | none=>simpa using ih
  | some y=>simp [ih]
theorem fm_congr {f g:Rc → Option Rc} {rs:List Rc} (h:∀ x ∈ rs,f x = g x):rs.filterMap f = rs.filterMap g:=by
 induction rs with
 | nil=>rfl
 | cons r rs ih=>rw [List.filterMap_cons,List.filterMap_cons,h r (by simp),ih (fun x hx=>h x (by simp [hx]))]
theorem uniq_born {rs:List Rc} (nd:(rs.map (·.born)).Nodup) {r x:Rc} (hr:r ∈ rs) (hx:x ∈ rs) (e:x.born = r.born):x = r:=by
 induction rs with
 | nil=>cases hr
 | cons a rs ih =>
  simp only [List.map_cons,List.nodup_cons] at nd
  rcases List.mem_cons.1 hr with hr2 | hr2 <;> rcases List.mem_cons.1 hx with hx2 | hx2
  ·rw [hr2,hx2]
  ·exact absurd (List.mem_map.2 ⟨x,hx2,by rw [e,hr2]⟩) nd.1
  ·exact absurd (List.mem_map.2 ⟨r,hr2,by rw [← e,hx2]⟩) nd.1
  ·exact ih nd.2 hr2 hx2
theorem uniq_key {rs:List Rc} (nd:(rs.map (·.key)).Nodup) {r x:Rc} (hr:r ∈ rs) (hx:x ∈ rs) (e:x.key = r.key):x = r:=by
 induction rs with
 | nil=>cases hr
 | cons a rs ih =>
  simp only [List.map_cons,List.nodup_cons] at nd
  rcases List.mem_cons.1 hr with hr2 | hr2 <;> rcases List.mem_cons.1 hx with hx2 | hx2
  ·rw [hr2,hx2]
  ·exact absurd (List.mem_map.2 ⟨x,hx2,by rw [e,hr2]⟩) nd.1
  ·exact absurd (List.mem_map.2 ⟨r,hr2,by rw [← e,hx2]⟩) nd.1
  ·exact ih nd.2 hr2 hx2
section
variable {rs : List Rc} {seen : List Nat} {r : Rc}
theorem mid_del (nb:(rs.map (·.born)).Nodup) (nk:(rs.map (·.key)).Nodup) (hr:r ∈ rs) (hs:r.born ∉ seen) (hg:gone r = true):delN ((mids rs seen).map Rc.ey) r.key = (mids rs (seen ++ [r.born])).map Rc.ey:=by
 have h1:delN ((mids rs seen).map Rc.ey) r.key = ((mids rs seen).filter fun y=>!decide (y.key = r.key)).map Rc.ey:=by
  unfold delN; rw [List.filter_map]; rfl
 rw [h1]
 congr 1
 refine filter_mid fun x hx=>?_
 by_cases hxr:x.born = r.born
 ·have:=uniq_born nb hr hx hxr
  subst this
  have e1:midR seen x = some x:=by simp [midR,hs]
  have e2:midR (seen ++ [x.born]) x = none:=by simp [midR,tickR,hg]
  rw [e1,e2]; simp [Option.filter]
 ·have e1:midR (seen ++ [r.born]) x = midR seen x:=by simp [midR,hxr]
  rw [e1]
  cases hm:midR seen x with
  | none=>rfl
  | some y =>
   have hk:y.key ≠ r.key:=fun e=>by
    rw [(midR_same hm).1] at e
    exact hxr (by rw [uniq_key nk hr hx e])
   simp [Option.filter,hk]
theorem mid_set (nb:(rs.map (·.born)).Nodup) (nk:(rs.map (·.key)).Nodup) (hr:r ∈ rs) (hs:r.born ∉ seen) (hg:gone r = false):setN ((mids rs seen).map Rc.ey) r.key (entV r.key (r.age + 1) r.msg r.sv) = (mids rs (seen ++ [r.born])).map Rc.ey:=by
 have h1:setN ((mids rs seen).map Rc.ey) r.key (entV r.key (r.age + 1) r.msg r.sv) = ((mids rs seen).map fun y=>if y.key = r.key then { r with age:=r.age + 1 } else y).map Rc.ey:=by
  unfold setN
  rw [List.map_map,List.map_map]
  apply List.map_congr_left
  intro y hy
  obtain ⟨x,hx,hm⟩:=List.mem_filterMap.1 hy
  simp only [Function.comp]
  by_cases hk:y.key = r.key
  ·have hk2:x.key = r.key:=by rw [← (midR_same hm).1]; exact hk
   have:=uniq_key nk hr hx hk2
   subst this
   have:=(midR_same hm).2.2.2.2 hs
   subst this
   simp [Rc.ey]
  ·rw [if_neg hk,if_neg (by simpa [Rc.ey] using hk)]
 rw [h1]
 congr 1
 refine map_mid fun x hx=>?_
 by_cases hxr:x.born = r.born
 ·have:=uniq_born nb hr hx hxr
  subst this
  have e1:midR seen x = some x:=by simp [midR,hs]
  have e2:midR (seen ++ [x.born]) x = some { x with age:=x.age + 1 }:=by simp [midR,tickR,hg]
  rw [e1,e2]; simp
 ·have e1:midR (seen ++ [r.born]) x = midR seen x:=by simp [midR,hxr]
  rw [e1]
  cases hm:midR seen x with
  | none=>rfl
  | some y =>
   have hk:y.key ≠ r.key:=fun e=>by
    rw [(midR_same hm).1] at e
    exact hxr (by rw [uniq_key nk hr hx e])
   simp [hk]
theorem gone_step (nb:(rs.map (·.born)).Nodup) (hr:r ∈ rs) (hs:r.born ∉ seen):goneN rs (seen ++ [r.born]) = goneN rs seen + if gone r then 1 else 0:=by
 unfold goneN
 induction rs with
 | nil=>cases hr
 | cons a rs ih =>
  simp only [List.map_cons,List.nodup_cons] at nb
  rcases List.mem_cons.1 hr with rfl | hr
  ·have hrest:(rs.filter fun x=>decide (x.born ∈ seen ++ [r.born]) && gone x) = rs.filter fun x=>decide (x.born ∈ seen) && gone x:=by
    apply List.filter_congr
    intro x hx
    have:x.born ≠ r.born:=fun e=>nb.1 (List.mem_map.2 ⟨x,hx,e⟩)
    simp [this]
   rw [List.filter_cons,List.filter_cons,hrest]
   cases hg:gone r <;> simp [hs]
  ·have hne:a.born ≠ r.born:=fun e=>nb.1 (List.mem_map.2 ⟨r,hr,e.symm⟩)
   have ih:=ih nb.2 hr
   rw [List.filter_cons,List.filter_cons]
   simp only [List.mem_append,List.mem_singleton,hne,or_false] at ih ⊢
   split
   ·simp only [List.length_cons,ih]; omega
   ·exact ih
end
theorem mids_all {rs:List Rc} {seen:List Nat} (h:∀ e ∈ (mids rs seen).map Rc.ey,e.born ∈ seen):mids rs seen = rs.filterMap tickR ∧ goneN rs seen = (rs.filter gone).length:=by
 have hin:∀ r ∈ rs,r.born ∈ seen:=by
  intro r hr
  by_cases hs:r.born ∈ seen
  ·exact hs
  ·exact h r.ey (List.mem_map.2 ⟨r,List.mem_filterMap.2 ⟨r,hr,by simp [midR,hs]⟩,rfl⟩)
 constructor
 ·unfold mids
  refine fm_congr fun r hr=>?_
  simp [midR,hin r hr]
 ·unfold goneN
  congr 1
  apply List.filter_congr
  intro r hr
  simp [hin r hr]
def kzero:ThK:=((0,0,0),(0,0))
def mzero:MsgA:=⟨0,0,0,0,0,0,0,false,[]⟩
end Go.Proofs.YtihdpjinaafenaaGreatDoor

/- Tick, told outright: what is there behind it. -/
namespace Go.Proofs.YtihdpjinaafenaaGreatDoor
open Sl
structure RowX (r:Rc):Prop where
 one:r.sv.oneCell' = true
 age0:0 ≤ r.age
 age3:r.age ≤ 3
theorem tick_x {tl:List Value} {h:Heap} {p mb cl:Nat} {ty:TypeId} {rs:List Rc} (hp:h p = some (.cells (Value.map (some mb) :: tl).toArray ty (0,0))) (him:IsMapN h mb thV (rs.map Rc.ey) cl) (hrow:∀ r ∈ rs,RowX r) (few:rs.length ≤ 1000000) :
  SCalls Tryz.prog 70 #[.pointer (some ⟨p,0,none⟩)] h (fun v h'=>v = .int .i64 ((rs.filter gone).length:Nat) ∧ (∀ b o,b ≠ mb → h b = some o → h' b = some o) ∧ IsMapN h' mb thV ((rs.filterMap tickR).map Rc.ey) cl):=by
 refine s_enter Tryz.func70 rfl (by rw [Tryz.ntmps70]; simp) ?_
 rw [Tryz.ntmps70]
 generalize hT:T0 #[.pointer (some ⟨p,0,none⟩)] = T
 have h0:T 0 = .pointer (some ⟨p,0,none⟩):=by rw [← hT]; rfl
 clear hT
 have hp0:=hp
 generalize hDD:(fun b=>b = p ∨ b = mb:Nat → Prop) = D
 have hDp:D p:=by rw [← hDD]; exact .inl rfl
 have hDm:D mb:=by rw [← hDD]; exact .inr rfl
 have hdom:∀ b,D b → h b ≠ none:=fun b hb=>by
  rw [← hDD] at hb
  rcases hb with rfl | rfl
  ·rw [hp]; simp
  ·rw [him.1]; simp
 have nb:(rs.map (·.born)).Nodup:=by have:=him.2.1; rw [List.map_map] at this; exact this
 have nk:(rs.map (·.key)).Nodup:=by have:=him.2.2.2; rw [List.map_map] at this; exact this
 repeat refine s_seq ?_
 refine s_region ?_
 refine w_pv rfl dC (want_none rfl) (p_val evA) ?_
 refine w_nil ?_
 repeat refine s_seq ?_
 refine s_region ?_
 refine w_pv rfl dC (want_none rfl) (p_val evA) ?_
 refine w_nil ?_
 repeat refine s_seq ?_
 refine s_region ?_
 refine w_pv rfl dC (want_none rfl) (p_val evA) ?_
 refine w_pv rfl dC (want_none rfl) (p_val evA) ?_
 refine w_pv rfl dC (want_none rfl) (p_fieldAddr (k:=0) rfl evA kR) ?_
 refine w_rd rfl dC (want_none rfl) (r_load1 rfl Tryz.underlying136 rfl evA hpA ceA) ?_
 refine w_ac rfl dC (want_none rfl) (s_range rfl Tryz.underlying136 evA him ?_); intro it hitn
 refine w_nil ?_
 have hle:=Heap.le_set (.mapIter (some mb) cl #[] cl) hitn
 have hit:IsIter (h.set it (.mapIter (some mb) cl #[] cl)) it mb cl []:=Heap.set_same h it (.mapIter (some mb) cl #[] cl)
 generalize h.set it (.mapIter (some mb) cl #[] cl) = hx at hle hit ⊢
 have hlen:rs.length ≤ 1000000:=few
 have hdomle:∀ b,D b → hx b ≠ none:=fun b hb=>by
  cases e:h b with
  | none=>exact absurd e (hdom b hb)
  | some o=>rw [hle b o e]; simp
 refine s_join (fun T h'=>∃ seen,(∀ e ∈ (mids rs seen).map Rc.ey,e.born ∈ seen) ∧ IsMapN h' mb thV ((mids rs seen).map Rc.ey) cl ∧ h' p = some (.cells (Value.map (some mb) :: tl).toArray ty (0,0)) ∧ (∀ r ∈ rs,RowX r) ∧ Chg D D h h' ∧ (∀ b,D b → h' b ≠ none) ∧ T 3 = .int .i64 (goneN rs seen:Nat)) ?_ ?_
 ·refine (s_block (s_loop (fun m T h'=>∃ seen:List Nat,m = rs.length - seen.length ∧ seen.Nodup ∧ (∀ β ∈ seen,β ∈ rs.map (·.born)) ∧ IsIter h' it mb cl seen ∧ IsMapN h' mb thV ((mids rs seen).map Rc.ey) cl ∧ h' p = some (.cells (Value.map (some mb) :: tl).toArray ty (0,0)) ∧ (∀ r ∈ rs,RowX r) ∧ Chg D D h h' ∧ (∀ b,D b → h' b ≠ none) ∧ T 0 = .pointer (some ⟨p,0,none⟩) ∧ T 3 = .int .i64 (goneN rs seen:Nat) ∧ T 10 = .pointer (some ⟨it,0,none⟩)) (n0:=rs.length)
   ⟨[],by simp,by simp,by simp,hit,by rw [mids_nil]; exact ⟨hle _ _ him.1,him.2⟩,hle _ _ hp,hrow,(Chg.refl _ _).le hle,hdomle,slA,by rw [goneN_nil]; simp only [pval,ev,upd,binVal,intBin,Option.map_some,↓reduceIte,reduceCtorEq,Nat.reduceEqDiff,Nat.reduceBEq,List.map_toArray,List.map_cons,List.map_nil,cond_true,cond_false,decide_true,decide_false,Bool.not_true,Bool.not_false,Bool.true_and,Bool.false_and,Bool.and_true,Bool.and_false,beq_self_eq_true,bne_self_eq_false,List.getElem_toArray,List.getElem_cons_succ,List.getElem_cons_zero, *] <;> rfl,slA⟩ ?_))
  clear h0 T hit hp him hrow hle hdomle
  rintro m T h' ⟨seen,rfl,hsn,hsub,hit,him,hp,hrow,hchg,hdm,h0,h3,h10⟩
  repeat refine s_seq ?_
  refine s_region ?_
  refine w_ac rfl dC (want_none rfl) (s_next rfl evA hit him (fun hall=>?_) (fun e he hs=>?_))
  all_goals (refine w_pv rfl dC (want_none rfl) (p_val evA) ?_)
  all_goals (refine w_nil ?_)
  ·repeat refine s_seq ?_
   refine s_cond (t:=false) slA ?_
   repeat refine s_seq ?_
   refine s_exit ?_
   exact ⟨seen,hall,him,hp,hrow,hchg,hdm,slA⟩
  ·obtain ⟨r,hr,rfl,hs'⟩:=mids_at he hs
   have hDit:¬ D it:=fun hd=>hdom it hd hitn
   have hne1:mb ≠ it:=fun e=>hDit (by rw [← e]; exact hDm)
   have hne2:p ≠ it:=fun e=>hDit (by rw [← e]; exact hDp)
   refine genH fun h2 hh=>?_
   have hk:∀ k,k ≠ it → h2 k = h' k:=fun k hk=>by rw [hh]; exact Heap.set_other _ _ hk
   have hit2:IsIter h2 it mb cl (seen ++ [r.born]):=by rw [hh]; exact Heap.set_same _ _ _
   have him2:IsMapN h2 mb thV ((mids rs seen).map Rc.ey) cl:=⟨by rw [hk _ hne1]; exact him.1,him.2⟩
   have hp2:h2 p = some (.cells (Value.map (some mb) :: tl).toArray ty (0,0)):=by rw [hk _ hne2]; exact hp
   have hrow2:∀ r ∈ rs,RowX r:=hrow
   have hchg2:Chg D D h h2:=⟨fun b o hd e=>by rw [hk b (fun e1=>by rw [e1,hitn] at e; cases e)]; exact hchg.keep b o hd e,fun b hd=>.inl hd⟩
   have hdm2:∀ b,D b → h2 b ≠ none:=fun b hb=>by rw [hk b (fun e=>hDit (by rw [← e]; exact hb))]; exact hdm b hb
   clear hh
   have hone:=(hrow r hr).one
   repeat refine s_seq ?_
   refine s_cond (t:=true) slA ?_
   repeat refine s_seq ?_
   refine s_skip ?_
   repeat refine s_seq ?_
   refine s_block ?_
   repeat refine s_seq ?_
   refine s_region ?_
   refine w_rd rfl dC (want_none rfl) (r_entry rfl evA hit2 him2 he rfl) ?_
   refine w_pv rfl dC (want_none rfl) (p_val evA) ?_
   refine w_pv rfl dC (want_none rfl) (p_val evA) ?_
   refine w_al rfl dC (want_none rfl) (a_allocZ (z:=.agg #[.int .i64 0,.int .i64 0,.int .u32 0,.int .u32 0,.int .u32 0]) (zs:=#[.int .i64 0,.int .i64 0,.int .u32 0,.int .u32 0,.int .u32 0]) rfl kR rfl) ?_
   intro b4 hb4
   refine w_al rfl dC (want_none rfl) (a_allocZ (z:=.agg #[.int .i64 0,.int .i64 0,.int .u32 0,.int .u32 0,.int .u32 0,.int .i64 0,.int .i64 0,.int .u32 0,.int .u32 0,.int .u32 0,.int .u32 0,.int .i64 0,.int .i64 0,.bool false,.slice none 0 0]) (zs:=#[.int .i64 0,.int .i64 0,.int .u32 0,.int .u32 0,.int .u32 0,.int .i64 0,.int .i64 0,.int .u32 0,.int .u32 0,.int .u32 0,.int .u32 0,.int .i64 0,.int .i64 0,.bool false,.slice none 0 0]) rfl kR rfl) ?_
   intro b5 hb5
   have hne5_4:b5 ≠ b4:=by rintro rfl; first | (simp [Heap.set] at hb5; done) | (simp [Heap.set] at hb5; split at hb5 <;> simp at hb5; done) | (simp [Heap.set] at hb5; (repeat' (split at hb5)) <;> simp_all)
   have hne4_5:=hne5_4.symm
   refine w_st rfl (want_none rfl) (s_storeN (n:=5) rfl evA evA ocA kR szA kR hpA szA ?_)
   refine w_st rfl (want_none rfl) (s_storeN (n:=15) rfl evA evA ocA kR szA kR hpA szA ?_)
   refine w_nil ?_
   have hb5n:h2 b5 = none:=by rw [Heap.set_other _ _ hne5_4] at hb5; exact hb5
   refine genH fun h3 hh=>?_
   have hb5v:h3 b5 = some (.cells #[.int .i64 r.key.1.1,.int .i64 r.key.1.2.1,.int .u32 r.key.1.2.2,.int .u32 r.key.2.1,.int .u32 r.key.2.2,.int .i64 r.age,.int .i64 r.msg.kind,.int .u32 r.msg.frm,.int .u32 r.msg.to,.int .u32 r.msg.src,.int .u32 r.msg.grp,.int .i64 r.msg.rank,.int .i64 r.msg.cost,.bool r.msg.only,r.sv] 153 (0,0)):=by rw [hh]; exact Heap.set_same _ _ _
   have hb4v:h3 b4 = some (.cells #[.int .i64 r.key.1.1,.int .i64 r.key.1.2.1,.int .u32 r.key.1.2.2,.int .u32 r.key.2.1,.int .u32 r.key.2.2] 144 (0,0)):=by rw [hh,Heap.set_other _ _ hne4_5]; exact Heap.set_same _ _ _
   have hk3:∀ k,k ≠ b4 → k ≠ b5 → h3 k = h2 k:=fun k h4 h5=>by rw [hh,Heap.set_other _ _ h5,Heap.set_other _ _ h4,Heap.set_other _ _ h5,Heap.set_other _ _ h4]
   clear hh hb5
   have hnb4:∀ k,h2 k ≠ none → k ≠ b4 ∧ k ≠ b5:=fun k hk=>⟨fun e=>hk (by rw [e]; exact hb4),fun e=>hk (by rw [e]; exact hb5n)⟩
   have hage:=(hrow r hr).age0
   have hage3:=(hrow r hr).age3
   have hw:IntKind.i64.wrap (r.age + 1) = r.age + 1:=wrap64_in _ (by omega) (by omega)
   repeat refine s_seq ?_
   refine s_region ?_
   refine w_pv rfl dC (want_none rfl) (p_fieldAddr (k:=5) rfl evA kR) ?_
   refine w_rd rfl dC (want_none rfl) (r_load1 rfl Tryz.underlying3 rfl evA hpA ceA) ?_
   refine w_pv rfl dC (want_none rfl) (p_val evA) ?_
   refine w_pv rfl dC (want_none rfl) (p_fieldAddr (k:=5) rfl evA kR) ?_
   refine w_st rfl (want_none rfl) (s_store1 rfl evA evA ocA kR kR hpA szA ?_)
   refine w_nil ?_
   repeat refine s_seq ?_
   refine s_region ?_
   refine w_pv rfl dC (want_none rfl) (p_fieldAddr (k:=5) rfl evA kR) ?_
   refine w_rd rfl dC (want_none rfl) (r_load1 rfl Tryz.underlying3 rfl evA hpA ceA) ?_
   refine w_pv rfl dC (want_none rfl) (p_val evA) ?_
   refine w_nil ?_
   refine genH fun h4 hh=>?_
   have hb5w:h4 b5 = some (.cells #[.int .i64 r.key.1.1,.int .i64 r.key.1.2.1,.int .u32 r.key.1.2.2,.int .u32 r.key.2.1,.int .u32 r.key.2.2,.int .i64 (r.age + 1),.int .i64 r.msg.kind,.int .u32 r.msg.frm,.int .u32 r.msg.to,.int .u32 r.msg.src,.int .u32 r.msg.grp,.int .i64 r.msg.rank,.int .i64 r.msg.cost,.bool r.msg.only,r.sv] 153 (0,0)):=by rw [hh]; exact Heap.set_same _ _ _
   have hk4:∀ k,k ≠ b5 → h4 k = h3 k:=fun k h5=>by rw [hh]; exact Heap.set_other _ _ h5
   clear hh
   have hb4w:h4 b4 = some (.cells #[.int .i64 r.key.1.1,.int .i64 r.key.1.2.1,.int .u32 r.key.1.2.2,.int .u32 r.key.2.1,.int .u32 r.key.2.2] 144 (0,0)):=by rw [hk4 _ hne4_5]; exact hb4v
   have hk24:∀ k o,h2 k = some o → h4 k = some o:=fun k o e=>by
    obtain ⟨h5,h6⟩:=hnb4 k (by rw [e]; simp)
    rw [hk4 k h6,hk3 k h5 h6]; exact e
   have him4:IsMapN h4 mb thV ((mids rs seen).map Rc.ey) cl:=⟨hk24 _ _ him2.1,him2.2⟩
   have hit4:IsIter h4 it mb cl (seen ++ [r.born]):=hk24 _ _ hit2
   have hp4:=hk24 _ _ hp2
   have hrow4:∀ r ∈ rs,RowX r:=hrow2
   have hchg4:Chg D D h h4:=hchg2.le hk24
   have hdm4:∀ b,D b → h4 b ≠ none:=fun b hb=>by
    cases e:h2 b with
    | none=>exact absurd e (hdm2 b hb)
    | some o=>rw [hk24 b o e]; simp
   clear hb5v hb4v hk3 hk4 hk24 him2 hit2 hp2 hrow2 hchg2 hdm2 hb4 hb5n hnb4 hit him hp hrow hchg hdm hk
   have hsn':(seen ++ [r.born]).Nodup:=List.nodup_append.2 ⟨hsn,by simp,fun a ha b hb e=>hs' (by simp at hb; rw [← hb,← e]; exact ha)⟩
   have hsub':∀ β ∈ seen ++ [r.born],β ∈ rs.map (·.born):=fun β hβ=>by
    rcases List.mem_append.1 hβ with h1 | h1
    ·exact hsub β h1
    ·rw [List.mem_singleton.1 h1]; exact List.mem_map.2 ⟨r,hr,rfl⟩
   have hlt:rs.length - (seen ++ [r.born]).length < rs.length - seen.length:=by
    have:=List.Nodup.length_le_of_subset hsn' (fun β hβ=>hsub' β hβ)
    simp only [List.length_append,List.length_map,List.length_cons,List.length_nil] at this ⊢
    omega
   have hgs:=gone_step nb hr hs'
   have hmb:mb ≠ it ∧ mb ≠ p:=⟨hne1,fun e=>by have:=him4.1; rw [e,hp4] at this; cases this⟩
   cases hg:gone r with
   | true =>
    have hg':decide (r.age + 1 > 3) = true:=hg
    rw [hg] at hgs
    simp only [if_true] at hgs
    have hgn:goneN rs seen + 1 ≤ 1000000:=by rw [← hgs]; exact Nat.le_trans (List.length_filter_le _ _) hlen
    have hwg:IntKind.i64.wrap (((goneN rs seen:Nat):Int) + 1) = ((goneN rs (seen ++ [r.born]):Nat):Int):=by rw [hgs]; exact wrap64_nat _ _ (by omega) (by omega)
    have hdel:=mid_del nb nk hr hs' hg
    have hag:(Value.agg #[.int .i64 r.key.1.1,.int .i64 r.key.1.2.1,.int .u32 r.key.1.2.2,.int .u32 r.key.2.1,.int .u32 r.key.2.2]) = thV r.key:=rfl
    repeat refine s_seq ?_
    refine s_cond (t:=true) slA ?_
    repeat refine s_seq ?_
    refine s_draw [(0,true),(1,true),(2,true),(3,true),(4,true),(5,true)] [] [5] rfl kR kR ?_
    refine d_pv rfl rfl dC rfl rfl (want_none rfl) (p_val evA) ?_
    refine d_rd0 rfl rfl dC rfl rfl (want_none rfl) (fun _=>PureOp.read (p_val evA) _) ?_
    refine d_pv rfl rfl dC rfl rfl (want_none rfl) (p_fieldAddr (k:=0) rfl evA kR) ?_
    refine d_rd [_] rfl rfl dC rfl rfl (want_none rfl) (r_load1 rfl Tryz.underlying136 rfl evA (restr1 hpA) ceA) ?_
    refine d_rd [_] rfl rfl dC rfl rfl (want_none rfl) (r_loadN (n:=5) rfl Tryz.underlying144 rfl evA (restr1 hpA) kR szA) ?_
    refine d_lst rfl rfl dC (by decide) rfl (want_none rfl) (s_delete (k:=r.key) thing_key rfl Tryz.underlying136 Tryz.underlying144 evA evA him4 ?_)
    refine d_nil ?_
    repeat refine s_seq ?_
    refine s_region ?_
    refine w_pv rfl dC (want_none rfl) (p_val evA) ?_
    refine w_pv rfl dC (want_none rfl) (p_val evA) ?_
    refine w_pv rfl dC (want_none rfl) (p_val evA) ?_
    refine w_nil ?_
    have him5:=delN_map (k:=r.key) him4
    rw [hdel] at him5
    rw [hdel]
    have hk5:∀ k o,k ≠ mb → h4 k = some o → (h4.set mb (.map (((mids rs (seen ++ [r.born])).map Rc.ey).map (mkE thV)).toArray cl)) k = some o:=fun k o h1 e=>by rw [Heap.set_other _ _ h1]; exact e
    have hsm:=Heap.set_same h4 mb (.map (((mids rs (seen ++ [r.born])).map Rc.ey).map (mkE thV)).toArray cl)
    generalize (h4.set mb (.map (((mids rs (seen ++ [r.born])).map Rc.ey).map (mkE thV)).toArray cl)) = h5 at him5 hk5 hsm ⊢
    refine s_exit ?_
    refine ⟨_,hlt,seen ++ [r.born],rfl,hsn',hsub',hk5 _ _ (Ne.symm hmb.1) hit4,him5,hk5 _ _ (Ne.symm hmb.2) hp4,hrow4,⟨fun b o hd e=>hk5 _ _ (fun e1=>hd (by rw [e1]; exact hDm)) (hchg4.keep b o hd e),fun b hd=>.inl hd⟩,fun b hb=>?_,slA,slA,slA⟩
    by_cases e1:b = mb
    ·rw [e1,hsm]; simp
    ·cases e:h4 b with
     | none=>exact absurd e (hdm4 b hb)
     | some o=>rw [hk5 b o e1 e]; simp
   | false =>
    have hg':decide (r.age + 1 > 3) = false:=hg
    rw [hg] at hgs
    simp only [Bool.false_eq_true,if_false,Nat.add_zero] at hgs
    have hset:=mid_set nb nk hr hs' hg
    have hag:(Value.agg #[.int .i64 r.key.1.1,.int .i64 r.key.1.2.1,.int .u32 r.key.1.2.2,.int .u32 r.key.2.1,.int .u32 r.key.2.2]) = thV r.key:=rfl
    repeat refine s_seq ?_
    refine s_cond (t:=false) slA ?_
    repeat refine s_seq ?_
    refine s_skip ?_
    repeat refine s_seq ?_
    refine s_draw [(0,true),(1,true),(2,true),(3,true),(4,true),(5,true),(6,true)] [] [6] rfl kR kR ?_
    refine d_pv rfl rfl dC rfl rfl (want_none rfl) (p_val evA) ?_
    refine d_rd0 rfl rfl dC rfl rfl (want_none rfl) (fun _=>PureOp.read (p_val evA) _) ?_
    refine d_pv rfl rfl dC rfl rfl (want_none rfl) (p_fieldAddr (k:=0) rfl evA kR) ?_
    refine d_rd [_] rfl rfl dC rfl rfl (want_none rfl) (r_load1 rfl Tryz.underlying136 rfl evA (restr1 hpA) ceA) ?_
    refine d_rd [_] rfl rfl dC rfl rfl (want_none rfl) (r_loadN (n:=5) rfl Tryz.underlying144 rfl evA (restr1 hpA) kR szA) ?_
    refine d_rd [_] rfl rfl dC rfl rfl (want_none rfl) (r_loadN (n:=15) rfl Tryz.underlying153 rfl evA (restr1 hpA) kR szA) ?_
    refine d_lst rfl rfl dC (by decide) rfl (want_none rfl) (s_mapUpdateN (k:=r.key) (v:=entV r.key (r.age + 1) r.msg r.sv) thing_key rfl Tryz.underlying136 Tryz.underlying144 evA evA evA him4 ⟨r.ey,he,rfl⟩ ?_)
    refine d_nil ?_
    have him5:=setN_map (k:=r.key) (v:=entV r.key (r.age + 1) r.msg r.sv) him4
    rw [hset] at him5
    rw [hset]
    have hk5:∀ k o,k ≠ mb → h4 k = some o → (h4.set mb (.map (((mids rs (seen ++ [r.born])).map Rc.ey).map (mkE thV)).toArray cl)) k = some o:=fun k o h1 e=>by rw [Heap.set_other _ _ h1]; exact e
    have hsm:=Heap.set_same h4 mb (.map (((mids rs (seen ++ [r.born])).map Rc.ey).map (mkE thV)).toArray cl)
    generalize (h4.set mb (.map (((mids rs (seen ++ [r.born])).map Rc.ey).map (mkE thV)).toArray cl)) = h5 at him5 hk5 hsm ⊢
    refine ⟨_,hlt,seen ++ [r.born],rfl,hsn',hsub',hk5 _ _ (Ne.symm hmb.1) hit4,him5,hk5 _ _ (Ne.symm hmb.2) hp4,hrow4,⟨fun b o hd e=>hk5 _ _ (fun e1=>hd (by rw [e1]; exact hDm)) (hchg4.keep b o hd e),fun b hd=>.inl hd⟩,fun b hb=>?_,slA,slA,slA⟩
    by_cases e1:b = mb
    ·rw [e1,hsm]; simp
    ·cases e:h4 b with
     | none=>exact absurd e (hdm4 b hb)
     | some o=>rw [hk5 b o e1 e]; simp
 ·clear h0 T hit hp him hrow hle
  rintro T h' ⟨seen,hall,him,hp,hrow,hchg,hdm,h3⟩
  obtain ⟨hm1,hm2⟩:=mids_all hall
  repeat refine s_seq ?_
  refine s_region ?_
  refine w_pv rfl dC (want_none rfl) (p_val evA) ?_
  refine w_pv rfl dC (want_none rfl) (p_val evA) ?_
  refine w_nil ?_
  refine s_ret ⟨_,res_one rfl rfl,slA,fun b o hb e=>?_,by rw [← hm1]; exact him⟩
  by_cases hbp:b = p
  ·subst hbp; rw [hp0] at e; cases e; exact hp
  ·exact hchg.keep b o (fun hd=>by rw [← hDD] at hd; exact hd.elim hbp hb) e
theorem tick_x0 {tl:List Value} {h:Heap} {p:Nat} {ty:TypeId} (hp:h p = some (.cells (Value.map none :: tl).toArray ty (0,0))) :
  SCalls Tryz.prog 70 #[.pointer (some ⟨p,0,none⟩)] h (fun v h'=>v = .int .i64 0 ∧ h.le h'):=by
 refine s_enter Tryz.func70 rfl (by rw [Tryz.ntmps70]; simp) ?_
 rw [Tryz.ntmps70]
 generalize hT:T0 #[.pointer (some ⟨p,0,none⟩)] = T
 have h0:T 0 = .pointer (some ⟨p,0,none⟩):=by rw [← hT]; rfl
 clear hT
 repeat refine s_seq ?_
 refine s_region ?_
 refine w_pv rfl dC (want_none rfl) (p_val evA) ?_
 refine w_nil ?_
 repeat refine s_seq ?_
 refine s_region ?_
 refine w_pv rfl dC (want_none rfl) (p_val evA) ?_
 refine w_nil ?_
 repeat refine s_seq ?_
 refine s_region ?_
 refine w_pv rfl dC (want_none rfl) (p_val evA) ?_
 refine w_pv rfl dC (want_none rfl) (p_val evA) ?_
 refine w_pv rfl dC (want_none rfl) (p_fieldAddr (k:=0) rfl evA kR) ?_
 refine w_rd rfl dC (want_none rfl) (r_load1 rfl Tryz.underlying136 rfl evA hpA ceA) ?_
 refine w_ac rfl dC (want_none rfl) (s_range_nil rfl Tryz.underlying136 evA ?_); intro it hitn
 refine w_nil ?_
 have hle:=Heap.le_set (.mapIter none 0 #[] 0) hitn
 have hit:=Heap.set_same h it (.mapIter none 0 #[] 0)
 generalize h.set it (.mapIter none 0 #[] 0) = hx at hle hit ⊢
 refine s_join (fun T h'=>h' = hx ∧ T 3 = .int .i64 0) ?_ ?_
 ·refine (s_block (s_loop (fun m T h'=>h' = hx ∧ T 3 = .int .i64 0 ∧ T 10 = .pointer (some ⟨it,0,none⟩)) (n0:=0) ⟨rfl,slA,slA⟩ ?_))
  clear h0 T
  rintro m T h' ⟨rfl,h3,h10⟩
  repeat refine s_seq ?_
  refine s_region ?_
  refine w_rd rfl dC (want_none rfl) (r_next_nil rfl evA hit) ?_
  refine w_pv rfl dC (want_none rfl) (p_val evA) ?_
  refine w_nil ?_
  repeat refine s_seq ?_
  refine s_cond (t:=false) slA ?_
  repeat refine s_seq ?_
  refine s_exit ?_
  exact ⟨rfl,slA⟩
 ·clear h0 T
  rintro T h' ⟨rfl,h3⟩
  repeat refine s_seq ?_
  refine s_region ?_
  refine w_pv rfl dC (want_none rfl) (p_val evA) ?_
  refine w_pv rfl dC (want_none rfl) (p_val evA) ?_
  refine w_nil ?_
  exact s_ret ⟨_,res_one rfl rfl,by simp only [pval,ev,upd,binVal,intBin,Option.map_some,↓reduceIte,reduceCtorEq,Nat.reduceEqDiff,Nat.reduceBEq,List.map_toArray,List.map_cons,List.map_nil,cond_true,cond_false,decide_true,decide_false,Bool.not_true,Bool.not_false,Bool.true_and,Bool.false_and,Bool.and_true,Bool.and_false,beq_self_eq_true,bne_self_eq_false,List.getElem_toArray,List.getElem_cons_succ,List.getElem_cons_zero, *] <;> rfl,hle⟩
end Go.Proofs.YtihdpjinaafenaaGreatDoor

/- A native: (*age.Table).Tick. -/
namespace Go.Proofs.YtihdpjinaafenaaGreatDoor
open Sl Ce
def entKs:List IntKind:=[.i64,.i64,.u32,.u32,.u32,.i64,.i64,.u32,.u32,.u32,.u32,.i64,.i64]
def thKs:List IntKind:=[.i64,.i64,.u32,.u32,.u32]
def rcI (k0 k1 k2 k3 k4:Int) (a:Nat) (m0 m1 m2 m3 m4 m5 m6:Int) (o:Bool) (sv:CV):CV:=.agg [.i .i64 k0,.i .i64 k1,.i .u32 k2,.i .u32 k3,.i .u32 k4,.i .i64 (.ofNat a),.i .i64 m0,.i .u32 m1,.i .u32 m2,.i .u32 m3,.i .u32 m4,.i .i64 m5,.i .i64 m6,.b o,sv]
def tick1 (k:List Int) (c:CV):Option (Option CV):=match c with
 | .agg cs=>match nums entKs (takeR cs 13),dropR cs 13 with
  | some [k0,k1,k2,k3,k4,.ofNat a,m0,m1,m2,m3,m4,m5,m6],[.b o,sv]=>bif keqR k [k0,k1,k2,k3,k4] && Nat.ble a 3 && sv.oneR then some (bif Nat.ble 3 a then none else some (rcI k0 k1 k2 k3 k4 (a + 1) m0 m1 m2 m3 m4 m5 m6 o sv)) else none
  | _,_=>none
 | _=>none
def tickE:List (List Int × CV) → Option (List (List Int × CV) × Nat)
 | []=>some ([],0)
 | e :: r=>match tick1 e.1 e.2,tickE r with
  | some (some c),some (l,n)=>some ((e.1,c) :: l,n)
  | some none,some (l,n)=>some (l,n + 1)
  | _,_=>none
theorem tick1_ok {β:Bk} {k:List Int} {c:CV} {v:Value} {x:Option CV} (e:tick1 k c = some x) (r:VR β c v) :
  ∃ rc:Rc,k = [rc.key.1.1,rc.key.1.2.1,rc.key.1.2.2,rc.key.2.1,rc.key.2.2] ∧ v = entV rc.key rc.age rc.msg rc.sv ∧ RowX rc ∧ (match x with | none=>gone rc = true | some c'=>gone rc = false ∧ VR β c' (entV rc.key (rc.age + 1) rc.msg rc.sv)):=by
 cases r <;> try (cases e; done)
 rename_i cs vs hall hr
 simp only [tick1,takeR_eq,dropR_eq,keqR_eq,CV.oneR_eq] at e
 split at e
 case h_2=>cases e
 rename_i k0 k1 k2 k3 k4 a m0 m1 m2 m3 m4 m5 m6 o sv hn hd
 cases hb:(keq k [k0,k1,k2,k3,k4] && Nat.ble a 3 && sv.one) with
 | false=>rw [hb] at e; cases e
 | true =>
  rw [hb] at e
  simp only [cond_true,Option.some.injEq] at e
  simp only [Bool.and_eq_true,Nat.ble_eq,keq_eq,decide_eq_true_eq] at hb
  obtain ⟨⟨hk,ha⟩,h1⟩:=hb
  rw [← List.take_append_drop 13 cs,hd] at hr
  obtain ⟨va,vb,rfl,ra,rb⟩:=hr.split
  obtain ⟨hl,rfl⟩:=nums_ok hn ra
  cases rb with
  | cons rb1 rb =>
   cases rb with
   | cons rb2 rb =>
    cases rb
    cases rb1
    rename_i v2
    have ho:v2.oneCell' = true:=rb2.one h1
    refine ⟨⟨((k0,k1,k2),(k3,k4)),(a:Int),⟨m0,m1,m2,m3,m4,m5,m6,o,[]⟩,v2,0⟩,hk,rfl,⟨ho,by show (0:Int) ≤ (a:Int); omega,by show (a:Int) ≤ 3; omega⟩,?_⟩
    cases hg:Nat.ble 3 a with
    | true =>
     rw [hg] at e
     subst e
     have:=Nat.le_of_ble_eq_true hg
     show decide ((a:Int) + 1 > 3) = true
     rw [decide_eq_true_eq]; omega
    | false =>
     rw [hg] at e
     subst e
     have h3:¬ 3 ≤ a:=fun h=>by rw [Nat.ble_eq_true_of_le h] at hg; cases hg
     refine ⟨by show decide ((a:Int) + 1 > 3) = false; rw [decide_eq_false_iff_not]; omega,?_⟩
     refine .agg (vs:=[.int .i64 k0,.int .i64 k1,.int .u32 k2,.int .u32 k3,.int .u32 k4,.int .i64 ((a:Int) + 1),.int .i64 m0,.int .u32 m1,.int .u32 m2,.int .u32 m3,.int .u32 m4,.int .i64 m5,.int .i64 m6,.bool o,v2]) (by simp only [List.all_cons,List.all_nil,h1]; rfl) ?_
     exact .cons (.i _ _) (.cons (.i _ _) (.cons (.i _ _) (.cons (.i _ _) (.cons (.i _ _) (.cons (.i .i64 (Int.ofNat (a + 1))) (.cons (.i _ _) (.cons (.i _ _) (.cons (.i _ _) (.cons (.i _ _) (.cons (.i _ _) (.cons (.i _ _) (.cons (.i _ _) (.cons (.b _) (.cons rb2 .nil))))))))))))))
def bornAt (rc:Rc) (b:Nat):Rc:={ rc with born:=b }
theorem tickE_ok {β:Bk}:∀ {es es':List (List Int × CV)} {n:Nat} {l:List ((Sh.agg thKs).key × Value)} {bs:List Nat},tickE es = some (es',n) → bs.length = l.length → l.map (fun p=>p.1.1) = es.map (·.1) → VRs β (es.map (·.2)) (l.map (·.2)) →
  ∃ rs:List Rc,rs.map (fun r=>mkE thV r.ey) = MBn (Sh.agg thKs).enc l bs ∧ rs.map (·.born) = bs ∧ (∀ r ∈ rs,RowX r) ∧ n = (rs.filter gone).length ∧
   ∃ (l':List ((Sh.agg thKs).key × Value)) (bs':List Nat),bs'.length = l'.length ∧ (rs.filterMap tickR).map (fun r=>mkE thV r.ey) = MBn (Sh.agg thKs).enc l' bs' ∧ (rs.filterMap tickR).map (·.born) = bs' ∧ List.Sublist bs' bs ∧ List.Sublist (l'.map (·.1)) (l.map (·.1)) ∧ l'.map (fun p=>p.1.1) = es'.map (·.1) ∧ VRs β (es'.map (·.2)) (l'.map (·.2))
 | [],es',n,[],[],e,_,_,_=>by
  cases e
  exact ⟨[],rfl,rfl,fun r h=>(by cases h),rfl,[],[],rfl,rfl,rfl,.slnil,.slnil,rfl,.nil⟩
 | [],_,_,[],_ :: _,_,h,_,_=>by simp at h
 | [],_,_,_ :: _,_,_,_,h,_=>by simp at h
 | _ :: _,_,_,[],_,_,_,h,_=>by simp at h
 | _ :: _,_,_,_ :: _,[],_,h,_,_=>by simp at h
 | e :: es,es',n,(kk,v) :: l,b :: bs,he,hlen,hkeys,hvr=>by
  simp only [List.map_cons,List.cons.injEq] at hkeys
  simp only [List.map_cons] at hvr
  cases hvr with
  | cons r1 r2 =>
  unfold tickE at he
  split at he
  ·rename_i c l0 n0 h1 h2
   cases he
   obtain ⟨rs,a1,a2,a3,a4,l',bs',b1,b2,b3,b4,b5,b6,b7⟩:=tickE_ok (bs:=bs) h2 (by simpa using hlen) hkeys.2 r2
   obtain ⟨rc,c1,c2,c3,c4,c5⟩:=tick1_ok h1 r1
   have hk:kk.1 = [rc.key.1.1,rc.key.1.2.1,rc.key.1.2.2,rc.key.2.1,rc.key.2.2]:=hkeys.1.trans c1
   have henc:(Sh.agg thKs).enc kk = thV rc.key:=by simp only [Sh.enc,hk,thKs,zipK,thV]
   have hg:gone (bornAt rc b) = false:=c4
   refine ⟨bornAt rc b :: rs,?_,by simp [bornAt,a2],fun r hr=>?_,?_,(kk,entV rc.key (rc.age + 1) rc.msg rc.sv) :: l',b :: bs',by simp [b1],?_,?_,b4.cons_cons _,b5.cons_cons _,by simp [b6,hkeys.1],.cons c5 b7⟩
   ·simp only [List.map_cons,a1]
    simp [MBn,mkE,Rc.ey,bornAt,henc,c2]
   ·rcases List.mem_cons.1 hr with rfl | hr
    ·exact ⟨c3.one,c3.age0,c3.age3⟩
    ·exact a3 r hr
   ·rw [List.filter_cons,hg]; exact a4
   ·rw [List.filterMap_cons]
    simp only [tickR,hg,Bool.false_eq_true,if_false,List.map_cons]
    rw [b2]
    simp [MBn,mkE,Rc.ey,bornAt,henc]
   ·rw [List.filterMap_cons]
    simp only [tickR,hg,Bool.false_eq_true,if_false,List.map_cons]
    rw [b3]; rfl
  ·rename_i l0 n0 h1 h2
   cases he
   obtain ⟨rs,a1,a2,a3,a4,l',bs',b1,b2,b3,b4,b5,b6,b7⟩:=tickE_ok (bs:=bs) h2 (by simpa using hlen) hkeys.2 r2
   obtain ⟨rc,c1,c2,c3,c4⟩:=tick1_ok h1 r1
   have hk:kk.1 = [rc.key.1.1,rc.key.1.2.1,rc.key.1.2.2,rc.key.2.1,rc.key.2.2]:=hkeys.1.trans c1
   have henc:(Sh.agg thKs).enc kk = thV rc.key:=by simp only [Sh.enc,hk,thKs,zipK,thV]
   have hg:gone (bornAt rc b) = true:=c4
   refine ⟨bornAt rc b :: rs,?_,by simp [bornAt,a2],fun r hr=>?_,?_,l',bs',b1,?_,?_,b4.cons _,b5.cons _,b6,b7⟩
   ·simp only [List.map_cons,a1]
    simp [MBn,mkE,Rc.ey,bornAt,henc,c2]
   ·rcases List.mem_cons.1 hr with rfl | hr
    ·exact ⟨c3.one,c3.age0,c3.age3⟩
    ·exact a3 r hr
   ·rw [List.filter_cons,hg]; simp [a4]
   ·rw [List.filterMap_cons]
    simp only [tickR,hg,if_true]
    exact b2
   ·rw [List.filterMap_cons]
    simp only [tickR,hg,if_true]
    exact b3
  ·cases he
def tickF (mt:Nat):NF:=fun args H n ck=>match args with
 | [.p id 0]=>match hget id H with
  | .cells _ _ [.nm]=>some (.ok (.i .i64 (.ofNat 0)) H n ck)
  | .cells _ _ [.m mid]=>match hget mid H with
   | .map _ t _ cl es=>bif Nat.beq t mt && leR 1000 es then none else (bif Nat.beq t mt then (match tickE es with
     | some (es',k)=>some (.ok (.i .i64 (.ofNat k)) (hset mid (.map (ck + 1) t true cl es') H) n (ck + 1))
     | none=>none) else none)
   | _=>none
  | _=>none
 | _=>none
theorem Ce.Aft.le {P:Program} {N:Kn P} {β:Bk} {H:CH} {n:Ce.Id} {ck:Nat} {h h1 h':Heap} {c:CV} {H':CH} {n':Ce.Id} {ck':Nat} {v:Value} (hr:HR N.toKy β H n ck h) (a:Aft N β H ck h c H' n' ck' v h1) (l:h1.le h'):Aft N β H ck h c H' n' ck' v h':=by
 obtain ⟨⟨β',h2,h3,h4⟩,h5,h6⟩:=a
 refine ⟨⟨β',h2,h3.same fun p x hx hl=>?_,h4⟩,fun p x hx hl=>⟨(h5 p x hx hl).1,fun e=>?_⟩,h6⟩
 ·cases e:h1 x.b with
  | none=>exact absurd e (h3.at_ p x hx hl)
  | some o=>exact l _ _ e
 ·obtain ⟨h7,h8⟩:=(h5 p x hx hl).2 e
  refine ⟨h7,?_⟩
  rw [← h8]
  cases e1:h1 x.b with
  | none=>rw [h8] at e1; exact absurd e1 (hr.at_ p x hx hl)
  | some o=>exact l _ _ e1
theorem thV_inj {a b:ThK} (h:thV a = thV b):a = b:=by
 obtain ⟨⟨a1,a2,a3⟩,a4,a5⟩:=a
 obtain ⟨⟨b1,b2,b3⟩,b4,b5⟩:=b
 simp only [thV,Value.agg.injEq,Array.mk.injEq,List.cons.injEq,Value.int.injEq,true_and,and_true] at h
 simp only [h]
theorem enc_keys {l:List ((Sh.agg thKs).key × Value)} {bs:List Nat} (hl:bs.length = l.length) {rs:List Rc} (e:rs.map (fun r=>mkE thV r.ey) = MBn (Sh.agg thKs).enc l bs) (n1:Keys1 l):((rs.map Rc.ey).map (·.key)).Nodup:=by
 have h1:(rs.map (fun r=>thV r.key)) = l.map fun p=>(Sh.agg thKs).enc p.1:=by
  have:=congrArg (List.map (·.key)) e
  simp only [MBn,List.map_map] at this
  have h2:(List.map ((fun x:MapEntry=>x.key) ∘ fun r=>mkE thV r.ey) rs) = rs.map (fun r=>thV r.key):=rfl
  rw [h2] at this
  rw [this]
  have h3:∀ (l:List ((Sh.agg thKs).key × Value)) (bs:List Nat),bs.length = l.length → List.map ((fun x:MapEntry=>x.key) ∘ fun p=>({ key:=(Sh.agg thKs).enc p.1.1,val:=p.1.2,born:=p.2 }:MapEntry)) (l.zip bs) = l.map fun p=>(Sh.agg thKs).enc p.1:=by
   intro l
   induction l with
   | nil=>intro bs _; simp
   | cons a l ih =>
    intro bs hb
    cases bs with
    | nil=>simp at hb
    | cons b bs=>simp only [List.zip_cons_cons,List.map_cons,ih bs (by simpa using hb)]; rfl
  exact h3 l bs hl
 have h4:(l.map fun p=>(Sh.agg thKs).enc p.1).Nodup:=by
  have h5:∀ a b:(Sh.agg thKs).key,(Sh.agg thKs).enc a = (Sh.agg thKs).enc b → a = b:=by
   intro a b hab
   obtain ⟨a,ha⟩:=a
   obtain ⟨b,hb⟩:=b
   match a,ha,b,hb with
   | [a0,a1,a2,a3,a4],_,[b0,b1,b2,b3,b4],_ =>
    have:=thV_inj (a:=((a0,a1,a2),(a3,a4))) (b:=((b0,b1,b2),(b3,b4))) hab
    simp only [Prod.mk.injEq] at this
    obtain ⟨⟨rfl,rfl,rfl⟩,rfl,rfl⟩:=this
    rfl
  have h6:(l.map (·.1)).Nodup:=n1
  have:(l.map fun p=>(Sh.agg thKs).enc p.1) = (l.map (·.1)).map (Sh.agg thKs).enc:=by rw [List.map_map]; rfl
  rw [this]
  exact List.Pairwise.map _ (fun a b hne e=>hne (h5 a b e)) h6
 rw [← h1] at h4
 rw [List.map_map]
 have h7:((rs.map Rc.key).map thV).Nodup:=by rw [List.map_map]; exact h4
 have h8:∀ l:List ThK,(l.map thV).Nodup → l.Nodup:=by
  intro l
  induction l with
  | nil=>intro _; exact List.nodup_nil
  | cons a l ih =>
   intro h
   simp only [List.map_cons,List.nodup_cons] at h ⊢
   exact ⟨fun hm=>h.1 (List.mem_map.2 ⟨a,hm,rfl⟩),ih h.2⟩
 exact h8 _ h7
theorem isMapN_of {h:Heap} {b cl:Nat} {l:List ((Sh.agg thKs).key × Value)} {bs:List Nat} {rs:List Rc} (hb:h b = some (.map (MBn (Sh.agg thKs).enc l bs).toArray cl)) (hbs:Bs bs cl l.length) (n1:Keys1 l) (a1:rs.map (fun r=>mkE thV r.ey) = MBn (Sh.agg thKs).enc l bs) (a2:rs.map (·.born) = bs):IsMapN h b thV (rs.map Rc.ey) cl:=by
 refine ⟨?_,?_,fun e he=>?_,enc_keys hbs.len a1 n1⟩
 ·rw [hb,← a1,List.map_map]; rfl
 ·rw [List.map_map]
  have:((fun e:Ey ThK=>e.born) ∘ Rc.ey) = fun r=>r.born:=rfl
  rw [this,a2]; exact hbs.nd
 ·obtain ⟨r,hr,rfl⟩:=List.mem_map.1 he
  exact hbs.lt _ (by rw [← a2]; exact List.mem_map.2 ⟨r,hr,rfl⟩)
theorem tickF_ok {N:Kn Tryz.prog} {mt:Nat} {f:Pos} (hf:f.nat - 1 = 70) (hs:N.sh mt = some (.agg thKs)) (hok:Ab.okCall Tryz.prog 70 = true):NFOk N f (tickF mt):=by
 intro args H n ck v H' n' ck' e β h vs hr rv
 rw [hf]
 refine ⟨hok,?_⟩
 unfold tickF at e
 split at e
 case h_2=>cases e
 rename_i id
 cases rv with
 | cons r1 rv =>
 cases rv
 cases r1 with
 | p off hy =>
 rename_i y
 split at e
 ·rename_i st t hc
  cases e
  obtain ⟨us,tl,hb,hl,hv,h1⟩:=hr.cells hc hy
  cases hv with
  | cons c1 c2 =>
  cases c2
  cases c1
  refine (tick_x0 (tl:=tl) hb).mono fun u h' ⟨e1,e2⟩=>?_
  rw [e1]
  exact aft_le hr e2 (.i _ _)
 ·rename_i st t mid hc
  split at e
  case h_2=>cases e
  rename_i st' t' fl cl es hc2
  cases htt:Nat.beq t' mt with
  | false=>rw [htt] at e; cases e
  | true =>
  cases hlr:leR 1000 es with
  | true=>rw [htt,hlr] at e; cases e
  | false =>
  rw [htt,hlr] at e
  simp only [Bool.and_false,cond_false,cond_true] at e
  split at e
  case h_2=>cases e
  rename_i es' k he
  cases e
  have:=Nat.eq_of_beq_eq_true htt
  subst this
  obtain ⟨us,tl,hb,hl,hv,h1⟩:=hr.cells hc hy
  cases hv with
  | cons c1 c2 =>
  cases c2
  cases c1 with
  | m hx =>
  rename_i x
  obtain ⟨s',l,bs,hs',hb2,hbs,hfl,n1,hkk,hvv⟩:=hr.map hc2 hx
  rw [hs] at hs'
  cases hs'
  obtain ⟨rs,a1,a2,a3,a4,l',bs',b1,b2,b3,b4,b5,b6,b7⟩:=tickE_ok he hbs.len hkk hvv
  have him:=isMapN_of hb2 hbs n1 a1 a2
  have hlen:rs.length ≤ 1000000:=by
   have e1:rs.length = bs.length:=by rw [← a2,List.length_map]
   have e2:l.length = es.length:=by have:=congrArg List.length hkk; simpa using this
   have e3:¬ 1000 ≤ es.length:=fun h4=>by rw [leR_eq,Nat.ble_eq_true_of_le h4] at hlr; cases hlr
   rw [e1,hbs.len]; omega
  refine (tick_x (tl:=tl) hb him a3 hlen).mono fun u h' ⟨e1,e2,e3⟩=>?_
  rw [e1,← a4]
  have e4:=e3.1
  rw [List.map_map] at e4
  have e5:(List.map ((fun e:Ey ThK=>({ key:=thV e.key,val:=e.val,born:=e.born }:MapEntry)) ∘ Rc.ey) (rs.filterMap tickR)) = (rs.filterMap tickR).map fun r=>mkE thV r.ey:=rfl
  rw [e5,b2] at e4
  have hbs':Bs bs' cl l'.length:=⟨b1,b4.nodup hbs.nd,fun b hb=>hbs.lt b (b4.subset hb)⟩
  have n1':Keys1 l':=b5.nodup n1
  refine Ce.Aft.le hr (aft_turn hr hx (live_map hc2) rfl (.map (.agg thKs) hs l' bs' (Heap.set_same _ _ _) hbs' (fun e=>by cases e) n1' b6 b7) (.i _ _)) fun b o e6=>?_
  by_cases hbx:b = x.b
  ·subst hbx; rw [Heap.set_same] at e6; cases e6; exact e4
  ·rw [Heap.set_other _ _ hbx] at e6; exact e2 b o hbx e6
 ·cases e
end Go.Proofs.YtihdpjinaafenaaGreatDoor
