import Derived.Test.YtihdpjinaafenaaGreatDoorFr2
import Derived.Deep.Upon
import Derived.ProofKit
import Derived.OpenShut
import Derived.Carry
noncomputable section
/- The rules for single operations (third part): cuts, stores, calls, append. -/
set_option linter.unusedVariables false
set_option linter.unusedSimpArgs false
namespace Go.Proofs.YtihdpjinaafenaaGreatDoor.Sl
section
variable {P : Program} {o : Oper} {ρ : Operand → Value} {h : Heap} {K : Value → Heap → Prop}
theorem p_slice_000 {t e:TypeId} {x hi mx:Operand} {a:Option Addr} {n c:Nat} {k k':IntKind} (ho:o.op = .slice t x none (some hi) (some mx)) (hu:P.underlying t = some (.slice e)) (he:(P.info? e).isSome = true) (hx:ρ x = .slice a n c) (hh:ρ hi = .int k 0) (hm:ρ mx = .int k' 0) :
  PureOp P o ρ (.slice a 0 0):=by
 intro w
 simp [execOp,ho,Instr.sliceAt,Instr.slice,Instr.sliceBounds,Instr.sliceBound,run_underlying hu,hx,hh,hm,asIntOf,run_cellsOf _ _ he]

theorem Rel.setRow {w:World} (r:Rel h w) {b:Nat} {cs cs':Array Value} {e:TypeId} {fz:Nat × Nat} (hb:h b = some (.cells cs e fz)):Rel (h.set b (.cells cs' e fz)) (w.setRow b cs'):=by
 intro k o' e'
 by_cases hk:k = b
 ·subst hk; rw [Heap.set_same] at e'; cases e'; exact setRow_heap w k cs cs' e fz (r k _ hb)
 ·rw [Heap.set_other _ _ hk] at e'; rw [setRow_other w b k cs' hk]; exact r k o' e'
theorem Step.setRow {w:World} (r:Rel h w) {b:Nat} {cs cs':Array Value} {e:TypeId} {fz:Nat × Nat} (hb:h b = some (.cells cs e fz)):Step h (h.set b (.cells cs' e fz)) w (w.setRow b cs'):=by
 refine ⟨rfl,rfl,rfl,by simp,fun k hk hn=>?_,fun k h1 h2=>?_⟩
 ·have:k ≠ b:=fun e1=>by rw [e1,hb] at hn; cases hn
  exact setRow_other w b k cs' this
 ·by_cases hk:k = b
  ·rw [hk,hb] at h1; cases h1
  ·rw [Heap.set_other _ _ hk] at h2; exact absurd h1 h2
theorem s_store1 {t:TypeId} {x y:Operand} {b off:Nat} {cs:Array Value} {e:TypeId} {v:Value} (ho:o.op = .store t x y) (hx:ρ x = .pointer (some ⟨b,off,none⟩)) (hy:ρ y = v) (h1:v.oneCell' = true) (ht:P.cellsOf t = 1) (hi:(P.info? t).isSome = true)
  (hb:h b = some (.cells cs e (0,0))) (hc:off < cs.size) (k:K undef (h.set b (.cells (cs.setIfInBounds off v) e (0,0)))):SOp P o ρ h K:=by
 intro w r
 have hv:v.cells = #[v]:=by cases v <;> simp [Value.oneCell'] at h1 <;> rfl
 have hst:=run_storeCells_at (P:=P) b off e [v] 0 cs w (r b _ hb) (by simp; omega) (by simpa using h1)
 have hcs:(cs.toList.take (off + 0) ++ [v] ++ cs.toList.drop (off + 0 + [v].length)).toArray = cs.setIfInBounds off v:=by
  apply Array.ext'
  simp only [Array.toList_setIfInBounds,Nat.add_zero,List.length_singleton]
  rw [List.set_eq_take_append_cons_drop]
  simp [hc]
 rw [hcs] at hst
 refine .inl ⟨undef,_,_,.inr ⟨rfl,?_⟩,k,r.setRow hb,Step.setRow r hb⟩
 simp only [execOp,ho,Instr.storeAt,Sem.run_bind,Instr.sureAddr,hx,Sem.run_pure,Result.andThen_ok,storeVar,run_cellsOf _ _ hi,ht,hy,hv]
 simp [hst]
def splice (cs:Array Value) (off:Nat) (vs:List Value):Array Value:=(cs.toList.take off ++ vs ++ cs.toList.drop (off + vs.length)).toArray
theorem s_storeN {t:TypeId} {x y:Operand} {b off:Nat} {cs:Array Value} {e:TypeId} {vs:Array Value} {n:Nat} (ho:o.op = .store t x y) (hx:ρ x = .pointer (some ⟨b,off,none⟩)) (hy:ρ y = .agg vs) (h1:vs.all (·.oneCell') = true) (ht:P.cellsOf t = n) (hn:vs.size = n) (hi:(P.info? t).isSome = true)
  (hb:h b = some (.cells cs e (0,0))) (hc:off + n ≤ cs.size) (k:K undef (h.set b (.cells (splice cs off vs.toList) e (0,0)))):SOp P o ρ h K:=by
 intro w r
 subst hn
 have hst:=run_storeCells_at (P:=P) b off e vs.toList 0 cs w (r b _ hb) (by simp; omega) (by intro v hv; exact Array.all_eq_true_iff_forall_mem.1 h1 v (by simpa using hv))
 refine .inl ⟨undef,_,_,.inr ⟨rfl,?_⟩,k,r.setRow hb,Step.setRow r hb⟩
 simp only [execOp,ho,Instr.storeAt,Sem.run_bind,Instr.sureAddr,hx,Sem.run_pure,Result.andThen_ok,storeVar,run_cellsOf _ _ hi,ht,hy,Value.cells]
 simp only [Nat.add_zero] at hst
 simp [hst,splice]

theorem s_call {f : FuncId} {fn : Func} {args : Array Operand} {vs : Array Value} {tys : Array TypeId} (ho : o.op = .call ⟨.value (.func f), args, tys⟩) (hr : ρ (.func f) = .func (.func f) #[] #[]) (hf : P.funcs[f]? = some fn) (hn : (fn.name == "runtime.NumGoroutine") = false) (hb : fn.body.isNone = false)
  (ha:args.map ρ = vs) (c:SCalls P f vs h K):SOp P o ρ h K:=by
 intro w r
 subst ha
 refine .inr ⟨.enter f (args.map ρ),w,?_,rfl,rfl,rfl,rfl,c⟩
 have hn' : fn.name ≠ "runtime.NumGoroutine" := by simpa using hn
 have hb':fn.body ≠ none:=by intro e; rw [e] at hb; cases hb
 simp [execOp,ho,resolve,hr,Deferred.ofValue,invoke,callFunc,program,Sem.run,hf,hn',hb']
theorem s_callv {f : FuncId} {fn : Func} {x : Operand} {first captured : Array Value} {args : Array Operand} {vs : Array Value} {tys : Array TypeId} (ho : o.op = .call ⟨.value x, args, tys⟩) (hr : ρ x = .func (.func f) first captured) (hf : P.funcs[f]? = some fn) (hn : (fn.name == "runtime.NumGoroutine") = false) (hb : fn.body.isNone = false)
  (ha:first ++ args.map ρ ++ captured = vs) (c:SCalls P f vs h K):SOp P o ρ h K:=by
 intro w r
 subst ha
 refine .inr ⟨.enter f (first ++ args.map ρ ++ captured),w,?_,rfl,rfl,rfl,rfl,c⟩
 have hn' : fn.name ≠ "runtime.NumGoroutine" := by simpa using hn
 have hb':fn.body ≠ none:=by intro e; rw [e] at hb; cases hb
 simp [execOp,ho,resolve,hr,Deferred.ofValue,invoke,callFunc,program,Sem.run,hf,hn',hb']

inductive Cells (h:Heap) (sz:Nat):Value → Nat → List Value → Prop where
 | zero (a:Option Addr) (c:Nat):Cells h sz (.slice a 0 c) 0 []
 | at_ {b off n c:Nat} {full:Array Value} {e:TypeId} {fz:Nat × Nat} {cs:List Value} (hb:h b = some (.cells full e fz)) (hl:cs.length = n * sz) (hnc:n ≤ c) (hc:(full.toList.drop off).take (n * sz) = cs):Cells h sz (.slice (some ⟨b,off,none⟩) n c) n cs
inductive Own (h:Heap) (e:TypeId) (sz:Nat):Value → Nat → List Value → Prop where
 | nil:Own h e sz (.slice none 0 0) 0 []
 | at_ {b n c:Nat} {full:Array Value} {cs:List Value} (hb:h b = some (.cells full e (0,0))) (hl:cs.length = n * sz) (hnc:n ≤ c) (hcap:c * sz ≤ full.size) (hc:full.toList.take (n * sz) = cs):Own h e sz (.slice (some ⟨b,0,none⟩) n c) n cs
theorem Cells.nil {sz:Nat}:Cells h sz (.slice none 0 0) 0 []:=.zero none 0
theorem Own.cells {e:TypeId} {sz n:Nat} {v:Value} {cs:List Value} (x:Own h e sz v n cs):Cells h sz v n cs:=by
 cases x with
 | nil=>exact .nil
 | at_ hb hl hnc hcap hc=>exact .at_ hb hl hnc (by simpa using hc)
theorem Cells.le {h':Heap} {sz n:Nat} {v:Value} {cs:List Value} (x:Cells h sz v n cs) (l:h.le h'):Cells h' sz v n cs:=by
 cases x with
 | zero a c=>exact .zero a c
 | at_ hb hl hnc hc=>exact .at_ (l _ _ hb) hl hnc hc
theorem Own.le {h':Heap} {e:TypeId} {sz n:Nat} {v:Value} {cs:List Value} (x:Own h e sz v n cs) (l:h.le h'):Own h' e sz v n cs:=by
 cases x with
 | nil=>exact .nil
 | at_ hb hl hnc hcap hc=>exact .at_ (l _ _ hb) hl hnc hcap hc
def blockOf:Value → Option Nat
 | .slice (some a) _ _=>some a.block
 | _=>none
theorem Cells.src {w:World} (r:Rel h w) {sz n:Nat} {v:Value} {cs:List Value} (x:Cells h sz v n cs) (h1:∀ u ∈ cs,u.oneCell' = true) {tx e':TypeId} (hk:P.underlying tx = some (.slice e')):Src P sz tx v n cs w:=by
 cases x with
 | zero a c=>cases a with
  | none=>exact Src.ofNil w hk c
  | some a=>exact Src.ofSlice w hk a 0 c [] (by simp) (by intro j u hj; simp at hj) h1
 | @at_ b off n c full e fz cs hb hl hnc hc =>
  refine Src.ofSlice w hk _ _ _ _ hl ?_ h1
  intro j u hj
  have ha:(Addr.mk b off none).add j = ⟨b,off + j,none⟩:=by unfold Addr.add; split <;> simp_all
  rw [ha,r.cell hb]
  rw [← hc] at hj
  have hlt:j < n * sz:=by
   rcases Nat.lt_or_ge j (n * sz) with h2 | h2
   ·exact h2
   ·rw [List.getElem?_eq_none (by simp; omega)] at hj; cases hj
  rw [List.getElem?_take_of_lt hlt,List.getElem?_drop] at hj
  simpa using hj
theorem Cells.first {w:World} (r:Rel h w) {sz n:Nat} {v:Value} {cs:List Value} (x:Cells h sz v n cs):(Builtin.firstCells sz n v).run P w = .ok cs.toArray w:=by
 cases x with
 | zero a c=>cases a with
  | none=>exact run_firstCells_none w sz 0 0 c
  | some a=>exact run_firstCells_some w sz 0 a 0 c [] (by simp) (by intro j u hj; simp at hj)
 | @at_ b off n c full e fz cs hb hl hnc hc =>
  refine run_firstCells_some w sz n _ n c cs hl ?_
  intro j u hj
  have ha:(Addr.mk b off none).add j = ⟨b,off + j,none⟩:=by unfold Addr.add; split <;> simp_all
  rw [ha,r.cell hb]
  rw [← hc] at hj
  have hlt:j < n * sz:=by
   rcases Nat.lt_or_ge j (n * sz) with h2 | h2
   ·exact h2
   ·rw [List.getElem?_eq_none (by simp; omega)] at hj; cases hj
  rw [List.getElem?_take_of_lt hlt,List.getElem?_drop] at hj
  simpa using hj
theorem Cells.len {sz n:Nat} {v:Value} {cs:List Value} (x:Cells h sz v n cs):cs.length = n * sz:=by
 cases x with
 | zero a c=>simp
 | at_ hb hl hnc hc=>exact hl
theorem size_zeroCells (z:Array Value) (n:Nat):(Builtin.zeroCells z n).size = n * z.size:=by simp [Builtin.zeroCells]
structure Grew (h h':Heap) (v v':Value):Prop where
 same:∀ b o,h b = some o → some b ≠ blockOf v → h' b = some o
 blk:blockOf v' = blockOf v ∨ ∃ b,blockOf v' = some b ∧ h b = none
 new:∀ b,h b = none → h' b ≠ none → blockOf v' = some b
theorem s_append0 {t tx e:TypeId} {x y:Operand} {i:TypeInfo} {z:Value} {v u:Value} {sz n m:Nat} {cs news:List Value}
  (ho:o.op = .call ⟨.builtin .append,#[x,y],#[t,tx]⟩) (ht:P.underlying t = some (.slice e)) {e':TypeId} (htx:P.underlying tx = some (.slice e')) (hi:P.info? e = some i) (hz:i.zero = some z) (hsz:i.size = sz) (hz1:z.cells.size = sz)
  (hx:ρ x = v) (hy:ρ y = u) (own:Own h e sz v n cs) (src:Cells h sz u m news) (h1:∀ u ∈ news,u.oneCell' = true) (hfit:(n + m) * i.bytes ≤ 140737488355328) (hfit2:n + m ≤ 4611686018427387904)
  (k:∀ v' h',Own h' e sz v' (n + m) (cs ++ news) → Grew h h' v v' → K v' h'):SOp P o ρ h K:=by
 intro w r
 subst hsz
 have hsrc:=src.src r h1 htx
 have hnl:=src.len
 have hexec:∀ r',(Builtin.append_ #[t,tx] o.type #[v,u]).run P w = r' → (execOp ρ o).run P w = r'.andThen fun a w'=>.ok (.value a) w':=by
  intro r' e
  simp only [execOp,ho,resolve,Sem.run_bind,Sem.run_pure,Result.andThen_ok,invoke,builtin]
  simp [hx,hy,e]
 by_cases hm:m = 0
 ·-- nothing is appended
  subst hm
  have hn0:news = []:=List.eq_nil_of_length_eq_zero (by rw [hnl]; simp)
  subst hn0
  have hrun:(Builtin.append_ #[t,tx] o.type #[v,u]).run P w = .ok v w:=by
   cases own with
   | nil=>exact run_append_nothing w t tx o.type e i ht hi none 0 0 (Nat.le_refl _) u hsrc
   | @at_ b n c full cs hb hl hnc hcap hc=>exact run_append_nothing w t tx o.type e i ht hi _ n c hnc u hsrc
  refine .inl ⟨v,w,h,.inl (by rw [hexec _ hrun]; rfl),k v h (by simpa using own) ⟨fun _ _ e _=>e,.inl rfl,fun b e1 e2=>absurd e1 e2⟩,r,Step.refl _ _⟩
 ·-- it grows in a new block
  have grow:∀ c,blockOf v = none ∨ True → (∃ a,v = .slice a n c) → c < n + m → ∃ v' w' h',(execOp ρ o).run P w = .ok (.value v') w' ∧ K v' h' ∧ Rel h' w' ∧ Step h h' w w':=by
   rintro c _ ⟨a,rfl⟩ hc
   have hold:(Builtin.firstCells i.size n (.slice a n c)).run P w.drew = .ok cs.toArray w.drew:=own.cells.first (w:=w.drew) r
   have hrun:=run_append_grow_src (P:=P) w t tx o.type e i z ht hi hz a n c cs hold u m news hsrc hc (by omega) (growslice_fits hc hfit)
   have hcapge:n + m ≤ grownCap w (n + m) c e:=by unfold grownCap Question.cut; simp
   have hcl:=own.cells.len
   refine ⟨_,_,h.set w.heap.size (.cells ((cs ++ news).toArray ++ Builtin.zeroCells z.cells (grownCap w (n + m) c e - (n + m))) e (0,0)),by rw [hexec _ hrun]; rfl,?_,?_,?_⟩
   ·have hn:h w.heap.size = none:=by
     cases e1:h w.heap.size with
     | none=>rfl
     | some o=>have:=r.lt e1; omega
    refine k _ _ (.at_ (Heap.set_same _ _ _) ?_ hcapge ?_ ?_) ⟨?_,.inr ⟨_,rfl,hn⟩,?_⟩
    ·simp [hcl,hnl,Nat.add_mul]
    ·rw [Array.size_append,size_zeroCells,hz1]
     simp only [List.size_toArray,List.length_append,hcl,hnl]
     have:grownCap w (n + m) c e * i.size = (n + m) * i.size + (grownCap w (n + m) c e - (n + m)) * i.size:=by
      rw [← Nat.add_mul]; congr 1; omega
     rw [this,Nat.add_mul]; exact Nat.le_refl _
    ·have:(cs ++ news).length = (n + m) * i.size:=by simp [hcl,hnl,Nat.add_mul]
     rw [Array.toList_append,← this]
     exact List.take_left
    ·intro b o' e1 _
     have:b ≠ w.heap.size:=fun e2=>by have:=r.lt e1; omega
     rw [Heap.set_other _ _ this]; exact e1
    ·intro b e1 e2
     by_cases hb:b = w.heap.size
     ·rw [hb]; rfl
     ·rw [Heap.set_other _ _ hb] at e2; exact absurd e1 e2
   ·intro b o' e1
    by_cases hb:b = w.heap.size
    ·subst hb; rw [Heap.set_same] at e1; cases e1; exact heap_alloc_new w.drew _
    ·rw [Heap.set_other _ _ hb] at e1
     exact (heap_alloc w.drew _ b (r.lt e1)).trans (r b o' e1)
   ·refine ⟨rfl,rfl,rfl,by rw [size_alloc]; show w.heap.size ≤ w.heap.size + 1; omega,fun b hb _=>heap_alloc w.drew _ b hb,fun b e1 e2=>?_⟩
    by_cases hb:b = w.heap.size
    ·omega
    ·rw [Heap.set_other _ _ hb] at e2; exact absurd e1 e2
  cases own with
  | nil =>
   obtain ⟨v',w',h',e1,e2,e3,e4⟩:=grow 0 (.inr trivial) ⟨_,rfl⟩ (by omega)
   exact .inl ⟨v',w',h',.inl e1,e2,e3,e4⟩
  | @at_ b n c full cs hb hl hnc hcap hc =>
   by_cases hroom:n + m ≤ c
   ·-- there is room
    have hle:(n + m) * i.size ≤ c * i.size:=Nat.mul_le_mul_right _ hroom
    rw [Nat.add_mul] at hle
    have hst:=run_storeCells_at (P:=P) b (0 + n * i.size) e news 0 full w (r b _ hb) (by rw [hnl]; omega) hsrc.one
    have ha:(Addr.mk b 0 none).add (n * i.size) = ⟨b,0 + n * i.size,none⟩:=by unfold Addr.add; split <;> simp_all
    simp only [Nat.add_zero,Nat.zero_add] at hst ha
    have hrun:(Builtin.append_ #[t,tx] o.type #[.slice (some ⟨b,0,none⟩) n c,u]).run P w = .ok (.slice (some ⟨b,0,none⟩) (n + m) c) (w.setRow b (full.toList.take (n * i.size) ++ news ++ full.toList.drop (n * i.size + news.length)).toArray):=by
     simp [Builtin.append_,run_underlying ht,run_underlying htx,sizeOf,typeInfo,hi,hsrc.len,hsrc.cells,hroom,ha,hst]
    refine .inl ⟨_,_,_,.inl (by rw [hexec _ hrun]; rfl),k _ _ (.at_ (Heap.set_same _ _ _) ?_ hroom ?_ ?_) ⟨?_,.inl rfl,?_⟩,r.setRow hb,Step.setRow r hb⟩
    ·simp [hl,hnl,Nat.add_mul]
    ·simp only [List.size_toArray,List.length_append,List.length_take,List.length_drop,Array.length_toList]
     omega
    ·rw [hc]
     have:(cs ++ news).length = (n + m) * i.size:=by simp [hl,hnl,Nat.add_mul]
     rw [← this]
     show List.take _ ((cs ++ news) ++ _) = _
     exact List.take_left
    ·intro k' o' e1 e2
     have:k' ≠ b:=fun e3=>e2 (by rw [e3]; rfl)
     rw [Heap.set_other _ _ this]; exact e1
    ·intro k' e1 e2
     by_cases hk:k' = b
     ·rw [hk,hb] at e1; cases e1
     ·rw [Heap.set_other _ _ hk] at e2; exact absurd e1 e2
   ·obtain ⟨v',w',h',e1,e2,e3,e4⟩:=grow c (.inr trivial) ⟨_,rfl⟩ (by omega)
    exact .inl ⟨v',w',h',.inl e1,e2,e3,e4⟩
def infoOk (P:Program) (e sz:Nat):Bool:=match P.info? e with
 | some i=>match i.zero with
  | some z=>i.size == sz && z.cells.size == sz && decide (i.bytes ≤ 4096)
  | none=>false
 | none=>false
theorem infoOk_spec {e sz:Nat} (h:infoOk P e sz = true):∃ i z,P.info? e = some i ∧ i.zero = some z ∧ i.size = sz ∧ z.cells.size = sz ∧ i.bytes ≤ 4096:=by
 unfold infoOk at h
 split at h
 ·rename_i i hi
  split at h
  ·rename_i z hz
   simp only [Bool.and_eq_true,beq_iff_eq,decide_eq_true_eq] at h
   exact ⟨i,z,hi,hz,h.1.1,h.1.2,h.2⟩
  ·cases h
 ·cases h
theorem s_append {t tx e:TypeId} {x y:Operand} {v u:Value} {sz n m:Nat} {cs news:List Value}
  (ho:o.op = .call ⟨.builtin .append,#[x,y],#[t,tx]⟩) (ht:P.underlying t = some (.slice e)) {e':TypeId} (htx:P.underlying tx = some (.slice e')) (hi:infoOk P e sz = true)
  (hx:ρ x = v) (hy:ρ y = u) (own:Own h e sz v n cs) (src:Cells h sz u m news) (h1:∀ u ∈ news,u.oneCell' = true) (hfit:n + m ≤ 34359738368)
  (k:∀ v' h',Own h' e sz v' (n + m) (cs ++ news) → Grew h h' v v' → K v' h'):SOp P o ρ h K:=by
 obtain ⟨i,z,hi,hz,hs,hz1,hb⟩:=infoOk_spec hi
 refine s_append0 ho ht htx hi hz hs hz1 hx hy own src h1 ?_ (by omega) k
 exact Nat.le_trans (Nat.mul_le_mul hfit hb) (by decide)
end
end Go.Proofs.YtihdpjinaafenaaGreatDoor.Sl

/- Functions: how one is entered, what it hands back. Wrappers for the walk. -/
namespace Go.Proofs.YtihdpjinaafenaaGreatDoor.Sl
section
variable {P : Program} {N : Nat} {ops : Array Oper} {Q : Tm → Heap → Prop} {T : Tm} {h : Heap}
def ResOne (P:Program) (T:Tm) (h:Heap):ResultVar → Value → Prop
 | .tmp t,v=>T t = v
 | .cell a ty,v=>∃ o:Oper,∃ x,o.op = .load ty x ∧ ReadOp P o (fun _=>T a) h v ∧ ∃ ad,T a = .pointer (some ad)
def Res (P:Program) (fn:Func) (T:Tm) (h:Heap) (v:Value):Prop:=∀ (D:List Deferred) (w:World) (a:Act),Rel h w → Reads fn.ntmps T a D → (results fn a.tmps).run P w = .ok v w
def resSem (tmps:Array Value):ResultVar → Sem Value
 | .tmp t=>pure (tmps.getD t undef)
 | .cell a t=>do loadVar t (← asAddr (tmps.getD a undef))
theorem results_eq (fn:Func) (tmps:Array Value):results fn tmps = (do let vs ← fn.results.mapM (resSem tmps); pure (if h:vs.size = 1 then vs[0] else .tuple vs)):=by
 unfold results
 congr 2
theorem resOne_run {r:ResultVar} {v:Value} (x:ResOne P T h r v) {w:World} {a:Act} {N:Nat} {D:List Deferred} (rw_:Rel h w) (ra:Reads N T a D):(resSem a.tmps r).run P w = .ok v w:=by
 have hT:∀ t,a.tmps.getD t undef = T t:=fun t=>congrFun ra.eval (.tmp t)
 cases r with
 | tmp t=>simp only [ResOne] at x; simp [resSem,hT t,x]
 | cell ad ty =>
  obtain ⟨o,y,ho,hr,p,hp⟩:=x
  have:=hr w rw_
  simp only [execOp,ho,Instr.loadAt,hp,Instr.sureAddr,Sem.run_bind,Sem.run_pure,Result.andThen_ok] at this
  simp only [resSem,hT,hp,asAddr,Sem.run_bind,Sem.run_pure,Result.andThen_ok]
  cases hl:(loadVar ty p).run P w with
  | ok v' w'=>rw [hl] at this; simp at this; rw [this.1,this.2]
  | halt x w'=>rw [hl] at this; simp at this
theorem res_one {fn:Func} {r:ResultVar} {v:Value} (hr:fn.results = #[r]) (x:ResOne P T h r v):Res P fn T h v:=by
 intro D w a rw_ ra
 have:=resOne_run x rw_ ra
 rw [results_eq,hr,Array.mapM_eq_mapM_toList]
 simp only [List.mapM_cons,List.mapM_nil,Sem.run_bind,Sem.run_map,this,Result.andThen_ok,Sem.run_pure]
 rfl
inductive ResAll (P:Program) (T:Tm) (h:Heap):List ResultVar → List Value → Prop where
 | nil:ResAll P T h [] []
 | cons {r:ResultVar} {v:Value} {rs:List ResultVar} {vs:List Value}:ResOne P T h r v → ResAll P T h rs vs → ResAll P T h (r :: rs) (v :: vs)
theorem res_many {fn:Func} {rs:List ResultVar} {vs:List Value} (hr:fn.results = rs.toArray) (hn:rs.length ≠ 1) (x:ResAll P T h rs vs):Res P fn T h (.tuple vs.toArray):=by
 intro D w a rw_ ra
 have key:((rs.mapM (resSem a.tmps)).run P w = .ok vs w) ∧ vs.length = rs.length:=by
  clear hr hn
  induction x with
  | nil=>simp
  | cons h1 h2 ih =>
   have:=resOne_run h1 rw_ ra
   simp only [List.mapM_cons,Sem.run_bind,this,Result.andThen_ok,ih.1,Sem.run_pure,List.length_cons,ih.2,and_self]
 rw [results_eq,hr,Array.mapM_eq_mapM_toList]
 simp only [Sem.run_bind,Sem.run_map,key.1,Result.andThen_ok,Sem.run_pure]
 have:vs.toArray.size ≠ 1:=by simpa [key.2] using hn
 rw [dif_neg this]
def retQ (P:Program) (fn:Func) (R:Value → Heap → Prop):Exit → Tm → Heap → Prop
 | .normal,T,h | .ret,T,h=>∃ v,Res P fn T h v ∧ R v h
 | _,_,_=>False
def T0 (args:Array Value):Tm:=fun t=>args.getD t undef
theorem reads0 {args:Array Value} {N:Nat} (hN:args.size ≤ N):Reads N (T0 args) { tmps:=args ++ Array.replicate (N - args.size) undef,defers:=[] } []:=by
 refine ⟨by simp; omega,fun t ht=>?_,fun t ht=>?_,rfl⟩
 ·simp only [T0,Array.getD_eq_getD_getElem?]
  rcases Nat.lt_or_ge t args.size with h1 | h1
  ·simp [Array.getElem?_append_left h1,h1]
  ·rw [Array.getElem?_append_right h1,Array.getElem?_eq_none h1,Array.getElem?_replicate,if_pos (by omega)]; rfl
 ·simp only [T0,Array.getD_eq_getD_getElem?]; rw [Array.getElem?_eq_none (Nat.le_trans hN ht)]; rfl
theorem s_enter {f:FuncId} {fn:Func} {c:Code} {args:Array Value} {R:Value → Heap → Prop} (hf:P.funcs[f]? = some fn) (hb:fn.body = some c) (hN:args.size ≤ fn.ntmps)
  (s:SCode P fn.ntmps c (retQ P fn R) (T0 args) h):SCalls P f args h R:=by
 intro w r
 refine (callsIn_wide (n:=0)).1 (callsIn_of_wp hf hb trivial (wpIn_mono (s none [] w _ r (reads0 hN)) ?_))
 ·rintro e a' w' ⟨T',h',q,r',st,ra'⟩
  cases e with
  | normal=>obtain ⟨v,hr,hR⟩:=q; exact ⟨ra'.defers,v,hr [] w' a' r' ra',v,h',rfl,hR,r',st⟩
  | ret=>obtain ⟨v,hr,hR⟩:=q; exact ⟨ra'.defers,v,hr [] w' a' r' ra',v,h',rfl,hR,r',st⟩
  | _=>exact q.elim

theorem w_nil (q:Q T h):sops P N ops Q [] T h:=q
variable {pp loud : List Nat} {F : List RdA} {E : Env}
theorem d_nil (q:Q T h):sdraw P N ops pp loud Q [] T h F E:=q
end
end Go.Proofs.YtihdpjinaafenaaGreatDoor.Sl

/- Maps: their entries as a list of keys and values, in the order in which they came. -/
namespace Go.Proofs.YtihdpjinaafenaaGreatDoor.Sl
structure KeyLaw (P:Program) (kt:TypeId) {κ:Type} [DecidableEq κ] (enc:κ → Value):Prop where
 now:∀ d,P.underlying kt = some d → (∀ k k',Instr.sameNow d (enc k) (enc k') = some (decide (k = k'))) ∨ (∀ k k',Instr.sameNow d (enc k) (enc k') = none)
 eq:∀ k k' w,(Op.equal kt (enc k) (enc k')).run P w = .ok (decide (k = k')) w
 check:∀ emp k w,(Instr.checkKey emp 10000 kt (enc k)).run P w = .ok () w
 bits:∀ k,Instr.sameBits 10000 (enc k) (enc k) = true
section
variable {P : Program} {kt : TypeId} {κ : Type} [DecidableEq κ] {enc : κ → Value}
def findK (k:κ):List (κ × Value) → Nat → Option (Nat × Value)
 | [],_=>none
 | (k',v) :: r,i=>if k = k' then some (i,v) else findK k r (i + 1)
def getK (l:List (κ × Value)) (k:κ):Option Value:=(l.find? fun p=>decide (k = p.1)).map (·.2)
def hasK (l:List (κ × Value)) (k:κ):Bool:=l.any fun p=>decide (k = p.1)
def putK (l:List (κ × Value)) (k:κ) (v:Value):List (κ × Value):=if hasK l k then l.map (fun p=>if k = p.1 then (p.1,v) else p) else l ++ [(k,v)]
theorem findK_val (k:κ):∀ (l:List (κ × Value)) (i:Nat),(findK k l i).map (·.2) = getK l k
 | [],i=>rfl
 | (k',v) :: r,i=>by
  unfold findK getK
  by_cases h:k = k'
  ·simp [h]
  ·rw [if_neg h,findK_val k r (i + 1)]; simp [getK,h]
theorem findK_some (k:κ):∀ (l:List (κ × Value)) (i j:Nat) (v:Value),findK k l i = some (j,v) → ∃ m,j = i + m ∧ l[m]? = some (k,v)
 | [],i,j,v,h=>by simp [findK] at h
 | (k',v') :: r,i,j,v,h=>by
  unfold findK at h
  by_cases hk:k = k'
  ·rw [if_pos hk] at h; simp only [Option.some.injEq,Prod.mk.injEq] at h
   exact ⟨0,by omega,by simp [hk,h.2]⟩
  ·rw [if_neg hk] at h
   obtain ⟨m,hm,hl⟩:=findK_some k r (i + 1) j v h
   exact ⟨m + 1,by omega,by simpa using hl⟩
theorem findK_none (k:κ):∀ (l:List (κ × Value)) (i:Nat),findK k l i = none ↔ hasK l k = false
 | [],i=>by simp [findK,hasK]
 | (k',v) :: r,i=>by
  unfold findK
  by_cases h:k = k'
  ·simp [h,hasK]
  ·rw [if_neg h,findK_none k r (i + 1)]; simp [hasK,h]
def EsRep (enc:κ → Value) (es:List MapEntry) (l:List (κ × Value)):Prop:=es.map (fun e=>(e.key,e.val)) = l.map (fun p=>(enc p.1,p.2))
end
section
variable {κ : Type} {enc : κ → Value}
theorem EsRep.nil:EsRep enc [] ([]:List (κ × Value)):=rfl
end
section
variable {P : Program} {kt : TypeId} {κ : Type} [DecidableEq κ] {enc : κ → Value}
theorem run_findAsking (K:KeyLaw P kt enc) (k:κ) (w:World):∀ (es:List MapEntry) (l:List (κ × Value)) (i:Nat),EsRep enc es l → (Instr.findAsking kt (enc k) es i).run P w = .ok (findK k l i) w
 | [],l,i,h=>by
  cases l with
  | nil=>simp [Instr.findAsking,findK]
  | cons p r=>simp [EsRep] at h
 | e :: es,l,i,h=>by
  cases l with
  | nil=>simp [EsRep] at h
  | cons p r =>
   obtain ⟨k',v⟩:=p
   simp only [EsRep,List.map_cons,List.cons.injEq,Prod.mk.injEq] at h
   obtain ⟨⟨hk,hv⟩,hr⟩:=h
   have ih:=run_findAsking K k w es r (i + 1) hr
   simp only [Instr.findAsking,findK,Sem.run_bind,hk,K.eq k k' w,Result.andThen_ok]
   by_cases hkk:k = k'
   ·simp [hkk,hv]
   ·simp [hkk,ih]
theorem findNow_eq {d:TypeDesc} (hd:∀ k k',Instr.sameNow d (enc k) (enc k') = some (decide (k = k'))) (k:κ):∀ (es:List MapEntry) (l:List (κ × Value)) (i:Nat),EsRep enc es l → Instr.findNow d (enc k) es i = some (findK k l i)
 | [],l,i,h=>by
  cases l with
  | nil=>simp [Instr.findNow,findK]
  | cons p r=>simp [EsRep] at h
 | e :: es,l,i,h=>by
  cases l with
  | nil=>simp [EsRep] at h
  | cons p r =>
   obtain ⟨k',v⟩:=p
   simp only [EsRep,List.map_cons,List.cons.injEq,Prod.mk.injEq] at h
   obtain ⟨⟨hk,hv⟩,hr⟩:=h
   have ih:=findNow_eq hd k es r (i + 1) hr
   simp only [Instr.findNow,findK,hk,hd k k']
   by_cases hkk:k = k'
   ·simp [hkk,hv]
   ·simp [hkk,ih]
theorem run_findKey (K:KeyLaw P kt enc) {d:TypeDesc} (hu:P.underlying kt = some d) (k:κ) (w:World) (es:List MapEntry) (l:List (κ × Value)) (h:EsRep enc es l):(Instr.findKey kt (enc k) es).run P w = .ok (findK k l 0) w:=by
 simp only [Instr.findKey,Sem.run_bind,run_underlying hu,Result.andThen_ok]
 rcases K.now d hu with hd | hd
 ·rw [findNow_eq hd k es l 0 h]; rfl
 ·cases es with
  | nil =>
   cases l with
   | nil=>rfl
   | cons p r=>simp [EsRep] at h
  | cons e es =>
   cases l with
   | nil=>simp [EsRep] at h
   | cons p r =>
    have hk:e.key = enc p.1:=by simp only [EsRep,List.map_cons,List.cons.injEq,Prod.mk.injEq] at h; exact h.1.1
    have:Instr.findNow d (enc k) (e :: es) 0 = none:=by simp [Instr.findNow,hk,hd]
    rw [this]
    exact run_findAsking K k w _ _ 0 h
structure IsMap (h:Heap) (b:Nat) (enc:κ → Value) (l:List (κ × Value)):Prop where
 out:∃ es cl,h b = some (.map es cl) ∧ EsRep enc es.toList l ∧ (es.toList.map (·.born)).Nodup ∧ ∀ e ∈ es.toList,e.born < cl
end
section
variable {κ : Type} {enc : κ → Value}
theorem IsMap.le {h h':Heap} {b:Nat} {l:List (κ × Value)} (x:IsMap h b enc l) (le:h.le h'):IsMap h' b enc l:=by
 obtain ⟨es,cl,e,r⟩:=x.out
 exact ⟨es,cl,le _ _ e,r⟩
end
section
variable {P : Program} {kt : TypeId} {κ : Type} [DecidableEq κ] {enc : κ → Value}
end
section
variable {κ : Type} {enc : κ → Value}
theorem IsMap.of {h h':Heap} {b:Nat} {l:List (κ × Value)} (x:IsMap h b enc l) (e:h' b = h b):IsMap h' b enc l:=by
 obtain ⟨es,cl,e1,r⟩:=x.out
 exact ⟨es,cl,by rw [e]; exact e1,r⟩
end
section
variable {P : Program} {kt : TypeId} {κ : Type} [DecidableEq κ] {enc : κ → Value}
end
section
variable {κ : Type} {enc : κ → Value}
theorem IsMap.some {h:Heap} {b:Nat} {l:List (κ × Value)} (x:IsMap h b enc l):∃ o,h b = some o:=by
 obtain ⟨es,cl,e,r⟩:=x.out
 exact ⟨_,e⟩
end
section
variable {P : Program} {kt : TypeId} {κ : Type} [DecidableEq κ] {enc : κ → Value}
end
section
variable {κ : Type} {enc : κ → Value}
theorem IsMap.made (h:Heap) (b:Nat):IsMap (h.set b (.map #[] 0)) b enc []:=⟨#[],0,Heap.set_same _ _ _,rfl,by simp,by simp⟩
end
section
variable {P : Program} {kt : TypeId} {κ : Type} [DecidableEq κ] {enc : κ → Value}
variable {o : Oper} {ρ : Operand → Value} {h : Heap} {K' : Value → Heap → Prop}
end
section
variable {κ : Type} {enc : κ → Value} {h : Heap}
end
section
variable {P : Program} {kt : TypeId} {κ : Type} [DecidableEq κ] {enc : κ → Value}
variable {o : Oper} {ρ : Operand → Value} {h : Heap} {K' : Value → Heap → Prop}
theorem r_lookup (K:KeyLaw P kt enc) {t et:TypeId} {m x:Operand} {b:Nat} {l:List (κ × Value)} {k:κ} {d:TypeDesc} {i:TypeInfo} {z:Value} {ok:Bool} (ho:o.op = .lookup t m x ok) (ht:P.underlying t = some (.map kt et)) (hk:P.underlying kt = some d) (hi:P.info? et = some i) (hz:i.zero = some z)
  (hm:ρ m = .map (some b)) (hx:ρ x = enc k) (im:IsMap h b enc l):ReadOp P o ρ h (if ok then .tuple #[(getK l k).getD z,.bool (hasK l k)] else (getK l k).getD z):=by
 obtain ⟨es,cl,e,r,_,_⟩:=im.out
 intro w rw_
 have hb:=rw_ b _ e
 have hf:=run_findKey K hk k w es.toList l r
 have hfv:=findK_val k l 0
 simp only [execOp,ho,Instr.lookup,Sem.run_bind,run_underlying ht,Result.andThen_ok,hm,hx,getObj,Sem.run,hb,Sem.run_pure,K.check,hf]
 cases hfk:findK k l 0 with
 | none =>
  have hh:=(findK_none k l 0).1 hfk
  rw [hfk] at hfv
  have hg:getK l k = none:=by rw [← hfv]; rfl
  simp [zeroValue,typeInfo,program,Sem.run,hi,hz,hg,hh]
 | some p =>
  obtain ⟨j,v⟩:=p
  rw [hfk] at hfv
  have hg:getK l k = some v:=by rw [← hfv]; rfl
  have hh:hasK l k = true:=by
   cases e1:hasK l k with
   | true=>rfl
   | false=>rw [(findK_none k l 0).2 e1] at hfk; cases hfk
  simp [hg,hh]
theorem r_lookup_nil (K:KeyLaw P kt enc) {t et:TypeId} {m x:Operand} {k:κ} {i:TypeInfo} {z:Value} {d:TypeDesc} {ok:Bool} (ho:o.op = .lookup t m x ok) (ht:P.underlying t = some (.map kt et)) (hk:P.underlying kt = some d) (hi:P.info? et = some i) (hz:i.zero = some z)
  (hm:ρ m = .map none) (hx:ρ x = enc k):ReadOp P o ρ h (if ok then .tuple #[z,.bool false] else z):=by
 intro w rw_
 have hf:=run_findKey K hk k w [] [] rfl
 simp only [execOp,ho,Instr.lookup,Sem.run_bind,run_underlying ht,Result.andThen_ok,hm,hx,Sem.run_pure,K.check,hf,findK]
 simp [zeroValue,typeInfo,program,Sem.run,hi,hz]
end
section
variable {κ : Type} {enc : κ → Value} {h : Heap}
end
section
variable {P : Program} {kt : TypeId} {κ : Type} [DecidableEq κ] {enc : κ → Value}
variable {o : Oper} {ρ : Operand → Value} {h : Heap} {K' : Value → Heap → Prop}
theorem Rel.setObj {w:World} (r:Rel h w) {b:Nat} {o o':Obj} (hb:h b = some o):Rel (h.set b o') { w with heap:=w.heap.setIfInBounds b o' }:=by
 have hlt:=r.lt hb
 intro k x e
 by_cases hk:k = b
 ·subst hk; rw [Heap.set_same] at e; cases e; simp [Array.getElem?_setIfInBounds,hlt]
 ·rw [Heap.set_other _ _ hk] at e
  show (w.heap.setIfInBounds b o')[k]? = _
  rw [Array.getElem?_setIfInBounds_ne (fun e=>hk e.symm)]; exact r k x e
theorem Step.setObj {w:World} {b:Nat} {o o':Obj} (hb:h b = some o):Step h (h.set b o') w { w with heap:=w.heap.setIfInBounds b o' }:=by
 refine ⟨rfl,rfl,rfl,by simp,fun k hk hn=>?_,fun k h1 h2=>?_⟩
 ·have:k ≠ b:=fun e1=>by rw [e1,hb] at hn; cases hn
  show (w.heap.setIfInBounds b o')[k]? = _
  rw [Array.getElem?_setIfInBounds_ne (fun e=>this e.symm)]
 ·by_cases hk:k = b
  ·rw [hk,hb] at h1; cases h1
  ·rw [Heap.set_other _ _ hk] at h2; exact absurd h1 h2
def Keys1 (l:List (κ × Value)):Prop:=(l.map (·.1)).Nodup
theorem putK_keys (l:List (κ × Value)) (n1:Keys1 l) (k:κ) (v:Value):Keys1 (putK l k v):=by
 unfold putK Keys1
 split
 ·rename_i hh
  have:(l.map (fun p=>if k = p.1 then (p.1,v) else p)).map (·.1) = l.map (·.1):=by
   rw [List.map_map]; apply List.map_congr_left; intro p _; simp only [Function.comp]; split <;> rfl
  rw [this]; exact n1
 ·rename_i hh
  rw [List.map_append]
  have hn:k ∉ l.map (·.1):=by
   intro hm
   obtain ⟨p,hp,e⟩:=List.mem_map.1 hm
   exact hh (List.any_eq_true.2 ⟨p,hp,by simp [e]⟩)
  refine List.nodup_append.2 ⟨n1,by simp,?_⟩
  intro a ha b hb e
  simp only [List.map_cons,List.map_nil,List.mem_singleton] at hb
  exact hn (by rw [← hb,← e]; exact ha)
end
end Go.Proofs.YtihdpjinaafenaaGreatDoor.Sl

/- Short words for what the walk's printed lines prove over and over: each bears its proof as its default. -/
namespace Go.Proofs.YtihdpjinaafenaaGreatDoor.Sl
theorem evA {p:Prop} (e:p:=by simp only [pval,ev,upd,binVal,intBin,Option.map_some,↓reduceIte,reduceCtorEq,Nat.reduceEqDiff,Nat.reduceBEq,List.map_toArray,List.map_cons,List.map_nil,cond_true,cond_false,decide_true,decide_false,Bool.not_true,Bool.not_false,Bool.true_and,Bool.false_and,Bool.and_true,Bool.and_false,beq_self_eq_true,bne_self_eq_false,List.getElem_toArray,List.getElem_cons_succ,List.getElem_cons_zero, *] <;> exact rfl):p:=e
theorem slA {p:Prop} (e:p:=by simp only [pval,ev,upd,binVal,intBin,Option.map_some,↓reduceIte,reduceCtorEq,Nat.reduceEqDiff,Nat.reduceBEq,List.map_toArray,List.map_cons,List.map_nil,cond_true,cond_false,decide_true,decide_false,Bool.not_true,Bool.not_false,Bool.true_and,Bool.false_and,Bool.and_true,Bool.and_false,beq_self_eq_true,bne_self_eq_false,List.getElem_toArray,List.getElem_cons_succ,List.getElem_cons_zero, *]):p:=e
theorem hpA {p:Prop} (e:p:=by repeat (first | assumption | exact Heap.set_same _ _ _ | (refine Heap.set_old (by assumption) ?_) | (refine Heap.set_oth (by assumption) ?_))):p:=e
theorem ceA {p:Prop} (e:p:=by first | rfl | assumption | (simp; done)):p:=e
theorem arA {p:Prop} (e:p:=by first | omega | decide | simp):p:=e
theorem kR {p:Prop} (e:p:=by kernel_rfl):p:=e
theorem dC {p:Prop} (e:p:=by decide):p:=e
end Go.Proofs.YtihdpjinaafenaaGreatDoor.Sl

/- What the walk's printed lines cite. -/
namespace Go.Proofs.YtihdpjinaafenaaGreatDoor.Sl
section
variable {P : Program} {N : Nat} {ops : Array Oper} {Q : Tm → Heap → Prop} {T : Tm} {h : Heap} {o : Oper} {r : List Oper} {d : Nat} {v : Value}
theorem want_none (hg:o.guard = none):want ops T o = true:=by simp [want,hg]
theorem want_let {j t:Nat} {b:Bool} (hg:o.guard = some (j,b)) (hj:((ops[j]?).bind (·.dst)) = some t) (hT:T t = .bool b):want ops T o = true:=by simp [want,hg,hj,hT]
theorem want_not {j t:Nat} {b b':Bool} (hg:o.guard = some (j,b)) (hj:((ops[j]?).bind (·.dst)) = some t) (hT:T t = .bool b') (hb:(b' == b) = false):want ops T o = false:=by simp only [want,hg,hj,hT]; exact hb
theorem w_ac (hd:o.dst = some d) (hN:d < N) (hg:want ops T o = true) (p:SOp P o (ev T) h (fun v h'=>sops P N ops Q r (upd T d v) h')):sops P N ops Q (o :: r) T h:=by
 refine ⟨fun t ht=>by rw [hd] at ht; cases ht; exact hN,?_⟩
 rw [hg,hd]; exact p
theorem w_rd (hd:o.dst = some d) (hN:d < N) (hg:want ops T o = true) (p:ReadOp P o (ev T) h v) (s:sops P N ops Q r (upd T d v) h):sops P N ops Q (o :: r) T h:=w_ac hd hN hg (p.sop s)
theorem w_pv (hd:o.dst = some d) (hN:d < N) (hg:want ops T o = true) (p:PureOp P o (ev T) v) (s:sops P N ops Q r (upd T d v) h):sops P N ops Q (o :: r) T h:=w_ac hd hN hg ((p.read h).sop s)
theorem w_al {obj:Obj} {vf:Nat → Value} (hd:o.dst = some d) (hN:d < N) (hg:want ops T o = true) (p:AllocOp P o (ev T) obj vf) (s:∀ b,h b = none → sops P N ops Q r (upd T d (vf b)) (h.set b obj)):sops P N ops Q (o :: r) T h:=w_ac hd hN hg (p.sop s)
variable {pp loud : List Nat} {F : List RdA} {E : Env} {i : Nat} {re : List Ent}
theorem d_pv (ho:opAt ops i = o) (hd:o.dst = some d) (hp:i ∉ pp) (ha:isAct o.op = false) (hr:isRead o.op = false) (hw:want ops T o = true) (p:PureOp P o (ev T) v) (s:sdraw P N ops pp loud Q re (upd T d v) h F E):sdraw P N ops pp loud Q ((i,true) :: re) T h F E:=by
 subst ho
 simp only [sdraw,hp,if_false,hw,if_true,ha,hr,Bool.false_eq_true,hd]
 exact ⟨v,p,s⟩
theorem d_rdA (A:RdA) (ho:opAt ops i = o) (hd:o.dst = some d) (hp:i ∉ pp) (ha:isAct o.op = false) (hr:isRead o.op = true) (hw:want ops T o = true) (hA:A.on h) (p:∀ g,A.on g → ReadOp P o (ev T) g v) (s:sdraw P N ops pp loud Q re (upd T d v) h (A :: F) E):sdraw P N ops pp loud Q ((i,true) :: re) T h F E:=by
 subst ho
 simp only [sdraw,hp,if_false,hw,if_true,ha,hr,Bool.false_eq_true,hd]
 exact ⟨v,A,hA,p,s⟩
def rdNone:RdA:=⟨fun _=>True,fun _ _ _ h=>h⟩
def rdAt (S:List Nat) (h:Heap):RdA:=⟨fun g=>∀ b,b ∈ S → ∀ x,h b = some x → g b = some x,fun g g' l a b hb x e=>l b x (a b hb x e)⟩
theorem d_rd (S:List Nat) (ho:opAt ops i = o) (hd:o.dst = some d) (hp:i ∉ pp) (ha:isAct o.op = false) (hr:isRead o.op = true) (hw:want ops T o = true) (p:ReadOp P o (ev T) (fun b=>if b ∈ S then h b else none) v) (s:sdraw P N ops pp loud Q re (upd T d v) h (rdAt S h :: F) E):sdraw P N ops pp loud Q ((i,true) :: re) T h F E :=
 d_rdA (rdAt S h) ho hd hp ha hr hw (fun _ _ _ e=>e) (fun g hg w r=>p w (fun b x e=>by
  dsimp only at e
  split at e
  ·rename_i hb; exact r b x (hg b hb x e)
  ·cases e)) s
theorem restr1 {b:Nat} {x:Obj} {l:List Nat} (e:h b = some x):(fun k=>if k ∈ b :: l then h k else none) b = some x:=by simpa using e
theorem ReadOp.pure0 {ρ:Operand → Value} (hr:ReadOp P o ρ (fun _=>none) v):PureOp P o ρ v:=fun w=>hr w (fun b o e=>by cases e)
theorem d_skp (ho:opAt ops i = o) (hd:o.dst = some d) (hp:i ∉ pp) (hw:want ops T o = false) (s:sdraw P N ops pp loud Q re (upd T d undef) h F E):sdraw P N ops pp loud Q ((i,true) :: re) T h F E:=by
 subst ho
 simp only [sdraw,hp,if_false,hw,Bool.false_eq_true,hd]
 exact s
theorem d_qac (ho:opAt ops i = o) (hd:o.dst = some d) (hp:i ∉ pp) (hl:i ∉ loud) (ha:isAct o.op = true) (hw:want ops T o = true) (p:SOp P o (ev T) h (fun v h'=>(∀ A ∈ F,A.on h → A.on h') ∧ sdraw P N ops pp loud Q re (upd T d v) h' F E)):sdraw P N ops pp loud Q ((i,true) :: re) T h F E:=by
 subst ho
 simp only [sdraw,hp,hl,if_false,hw,if_true,ha,hd]
 exact p
theorem Heap.set_old {b k:Nat} {x y:Obj} (hb:h b = none) (hk:h k = some x):h.set b y k = some x:=by
 have:k ≠ b:=fun e=>by rw [e,hb] at hk; cases hk
 rw [Heap.set_other _ _ this]; exact hk
theorem Heap.set_oth {b k:Nat} {x y:Obj} (hb:k ≠ b) (hk:h k = some x):h.set b y k = some x:=by
 rw [Heap.set_other _ _ hb]; exact hk
variable {ρ : Operand → Value}
def fieldOff (P:Program) (t f:Nat):Option Nat:=match P.underlying t with
 | some (.struct fs)=>match fs[f]? with
  | some fd=>if P.cellsOf fd.type = 0 then none else some fd.offset
  | none=>none
 | _=>none
theorem p_fieldAddr {t f b off k:Nat} {x:Operand} (ho:o.op = .fieldAddr t x f) (hx:ρ x = .pointer (some ⟨b,off,none⟩)) (hk:fieldOff P t f = some k):PureOp P o ρ (.pointer (some ⟨b,off + k,none⟩)):=by
 refine p_val ?_
 rw [ho]
 simp only [pval,hx]
 unfold fieldOff at hk
 split at hk
 ·rename_i fs hu
  simp only [hu]
  split at hk
  ·rename_i fd hf
   simp only [hf]
   split at hk
   ·cases hk
   ·rename_i hz
    simp only [Option.some.injEq] at hk
    rw [if_neg hz,hk]
  ·cases hk
 ·cases hk
def fieldPart (P:Program) (t f:Nat):Option (Nat × Nat × Bool):=match P.underlying t with
 | some (.struct fs)=>match fs[f]? with
  | some fd=>match P.underlying fd.type with
   | some (.struct _) | some (.array _ _)=>some (fd.offset,P.cellsOf fd.type,true)
   | some _=>some (fd.offset,1,false)
   | none=>none
  | none=>none
 | _=>none
theorem p_field1 {t f k:Nat} {x:Operand} {cs:Array Value} (ho:o.op = .field t x f) (hx:ρ x = .agg cs) (hk:fieldPart P t f = some (k,1,false)) (hv:cs[k]? = some v):PureOp P o ρ v:=by
 refine p_val ?_
 rw [ho]
 simp only [pval,hx]
 unfold fieldPart at hk
 split at hk <;> (try simp only [reduceCtorEq] at hk)
 rename_i fs hu
 simp only [hu]
 split at hk <;> (try simp only [reduceCtorEq] at hk)
 rename_i fd hf
 simp only [hf]
 split at hk <;> (try simp only [Option.some.injEq,Prod.mk.injEq,Bool.true_eq_false,and_false,reduceCtorEq] at hk)
 rename_i d h1 h2 hd
 simp only [hd]
 obtain ⟨rfl,_⟩:=hk
 cases d <;> first | (exact hv) | (exfalso; first | exact h1 _ rfl | exact h2 _ _ rfl)
theorem p_fieldN {t f k n:Nat} {x:Operand} {cs:Array Value} (ho:o.op = .field t x f) (hx:ρ x = .agg cs) (hk:fieldPart P t f = some (k,n,true)):PureOp P o ρ (.agg (cs.extract k (k + n))):=by
 refine p_val ?_
 rw [ho]
 simp only [pval,hx]
 unfold fieldPart at hk
 split at hk <;> (try simp only [reduceCtorEq] at hk)
 rename_i fs hu
 simp only [hu]
 split at hk <;> (try simp only [reduceCtorEq] at hk)
 rename_i fd hf
 simp only [hf]
 split at hk <;> (try simp only [Option.some.injEq,Prod.mk.injEq,Bool.false_eq_true,and_false,reduceCtorEq] at hk)
 ·rename_i hd
  simp only [hd]
  obtain ⟨rfl,rfl,_⟩:=hk
  rfl
 ·rename_i hd
  simp only [hd]
  obtain ⟨rfl,rfl,_⟩:=hk
  rfl
theorem a_boxN {t:TypeId} {x:Operand} {cs:Array Value} (ho:o.op = .box t x) (hx:ρ x = .agg cs):AllocOp P o ρ (.cells cs t) (fun b=>.pointer (some ⟨b,0,none⟩)):=by
 have:=a_box (P:=P) (ρ:=ρ) ho
 rw [hx] at this
 exact this
theorem p_build {t:TypeId} {parts:Array (Nat × Operand)} {vs:List (Nat × Value)} {cells:Array Value} (ho:o.op = .build t parts) (hv:(parts.map fun (i,x)=>(i,ρ x)).toList = vs) (hb:P.built t vs = some cells):PureOp P o ρ (.agg cells):=by
 refine p_val ?_
 rw [ho]
 simp only [pval,hv,hb,Option.map_some]
theorem a_buildSlice0 {t e:Nat} (ho:o.op = .buildSlice t 0 #[]) (hu:P.underlying t = some (.slice e)) (he:(P.info? e).isSome = true):AllocOp P o ρ (.cells #[] e) (fun b=>.slice (some ⟨b,0,none⟩) 0 0):=by
 intro w
 simp [execOp,ho,Instr.buildSlice,run_underlying hu,run_cellsOf _ _ he,Instr.fill,newRow,newObj,Sem.run,show Array.range 0 = #[] from rfl]
def placesOf (P:Program) (t:Nat):Option (List (Nat × Nat)):=match P.underlying t with
 | some (.struct fs)=>fs.toList.mapM fun f=>(P.info? f.type).map fun i=>(f.offset,i.size)
 | _=>none
def zeroOf (P:Program) (t:Nat):Option (Array Value):=((P.info? t).bind (·.zero)).map (·.cells)
theorem p_buildW {t:TypeId} {parts:Array (Nat × Operand)} {vs:List (Nat × Value)} {places:List (Nat × Nat)} {z cells:Array Value} (ho:o.op = .build t parts) (hv:(parts.map fun (i,x)=>(i,ρ x)).toList = vs)
  (hp:placesOf P t = some places) (hz:zeroOf P t = some z) (hc:Instr.fill (places.toArray[·]?) z vs = some cells):PureOp P o ρ (.agg cells):=by
 refine p_build ho hv ?_
 unfold placesOf at hp
 unfold zeroOf at hz
 split at hp <;> (try simp only [reduceCtorEq] at hp)
 rename_i fs hu
 unfold Program.built
 cases hi:P.info? t with
 | none=>simp [hi] at hz
 | some i =>
  cases hzz:i.zero with
  | none=>simp [hi,hzz] at hz
  | some zz =>
   simp only [hi,hzz,Option.bind_some,Option.map_some,Option.some.injEq] at hz
   subst hz
   simp only [hu,hzz,hp]
   exact hc
end
end Go.Proofs.YtihdpjinaafenaaGreatDoor.Sl

/- Maps: an entry that is sought, and then told its value ('m[k]++'). -/
namespace Go.Proofs.YtihdpjinaafenaaGreatDoor.Sl
section
variable {P : Program} {kt : TypeId} {κ : Type} [DecidableEq κ] {enc : κ → Value}
variable {o : Oper} {ρ : Operand → Value} {h : Heap} {K' : Value → Heap → Prop}
theorem foldl_set_get (off:Nat):∀ (vs:List Value) (k:Nat) (cells:Array Value),off + k + vs.length ≤ cells.size → ∀ m,
  ((vs.zipIdx k).foldl (fun (cs:Array Value) (x:Value × Nat)=>cs.setIfInBounds (off + x.2) x.1) cells)[m]? = if off + k ≤ m ∧ m < off + k + vs.length then vs[m - (off + k)]? else cells[m]?
 | [],k,cells,_,m=>by
  have:¬ (off + k ≤ m ∧ m < off + k + 0):=by omega
  simp only [List.zipIdx_nil,List.foldl_nil,List.length_nil,if_neg this]
 | v :: vs,k,cells,h,m=>by
  simp only [List.length_cons] at h
  simp only [List.zipIdx_cons,List.foldl_cons,List.length_cons]
  rw [foldl_set_get off vs (k + 1) _ (by simp; omega) m,Array.getElem?_setIfInBounds]
  by_cases h1:off + (k + 1) ≤ m ∧ m < off + (k + 1) + vs.length
  ·rw [if_pos h1,if_pos (by omega)]
   rw [show m - (off + k) = (m - (off + (k + 1))) + 1 by omega]
   simp
  ·rw [if_neg h1]
   by_cases h2:off + k = m
   ·subst h2
    rw [if_pos rfl,if_pos (by omega),if_pos (by omega)]
    simp
   ·rw [if_neg h2,if_neg (by omega)]
theorem fill_at {off:Nat} {vs cells:Array Value} (h:off + vs.size ≤ cells.size):vs.zipIdx.foldl (fun cs (c,j)=>cs.setIfInBounds (off + j) c) cells = (cells.toList.take off ++ vs.toList ++ cells.toList.drop (off + vs.size)).toArray:=by
 apply Array.ext_getElem?
 intro m
 have h1:=foldl_set_get off vs.toList 0 cells (by simpa using h) m
 rw [← Array.foldl_toList,Array.toList_zipIdx]
 rw [h1]
 simp only [List.getElem?_toArray,Nat.add_zero,Array.length_toList]
 by_cases h2:off ≤ m ∧ m < off + vs.size
 ·rw [if_pos h2,List.append_assoc,List.getElem?_append_right (by simp; omega),List.getElem?_append_left (by simp; omega)]
  simp only [List.length_take,Array.length_toList]
  rw [show min off cells.size = off by omega]
 ·rw [if_neg h2]
  rcases Nat.lt_or_ge m off with h3 | h3
  ·rw [List.append_assoc,List.getElem?_append_left (by simp; omega),List.getElem?_take_of_lt h3]; simp
  ·rw [List.getElem?_append_right (by simp; omega),List.getElem?_drop]
   simp only [List.length_append,List.length_take,Array.length_toList,Array.getElem?_toList]
   congr 1; omega
def fillL (places:List (Nat × Nat)):List Value → List (Nat × Value) → Option (List Value)
 | cs,[]=>some cs
 | cs,(i,v) :: r=>match places[i]? with
  | none=>none
  | some (off,size)=>if v.cells.size = size ∧ off + size ≤ cs.length then fillL places (cs.take off ++ v.cells.toList ++ cs.drop (off + size)) r else none
theorem fill_fillL {places:List (Nat × Nat)}:∀ {vs:List (Nat × Value)} {cs cs':List Value},fillL places cs vs = some cs' → Instr.fill (places.toArray[·]?) cs.toArray vs = some cs'.toArray
 | [],cs,cs',h=>by simp only [fillL,Option.some.injEq] at h; rw [h]; rfl
 | (i,v) :: r,cs,cs',h=>by
  unfold fillL at h
  split at h
  ·cases h
  ·rename_i off size hp
   split at h
   ·rename_i hc
    obtain ⟨hc1,hc2⟩:=hc
    have hp':places.toArray[i]? = some (off,size):=by simpa using hp
    unfold Instr.fill
    simp only [hp']
    have h2:(decide (v.cells.size ≠ size) || decide (off + v.cells.size > cs.toArray.size)) = false:=by
     simp only [Bool.or_eq_false_iff,decide_eq_false_iff_not,List.size_toArray]; omega
    rw [h2]
    simp only [Bool.false_eq_true,if_false]
    rw [fill_at (by simp; omega),hc1]
    exact fill_fillL h
   ·cases h
theorem p_buildL {t:TypeId} {parts:Array (Nat × Operand)} {vs:List (Nat × Value)} {places:List (Nat × Nat)} {z cells:List Value} (ho:o.op = .build t parts) (hv:(parts.map fun (i,x)=>(i,ρ x)).toList = vs)
  (hp:placesOf P t = some places) (hz:zeroOf P t = some z.toArray) (hc:fillL places z vs = some cells):PureOp P o ρ (.agg cells.toArray) :=
 p_buildW ho hv hp hz (fill_fillL hc)
theorem hasK_mem {l:List (κ × Value)} {k:κ}:hasK l k = true ↔ k ∈ l.map (·.1):=by
 unfold hasK
 rw [List.any_eq_true]
 simp only [decide_eq_true_eq,List.mem_map]
 exact ⟨fun ⟨p,hp,e⟩=>⟨p,hp,e.symm⟩,fun ⟨p,hp,e⟩=>⟨p,hp,e.symm⟩⟩
structure IsMapE (h:Heap) (b:Nat) (enc:κ → Value) (l:List (κ × Value)) (k:κ) (β:Nat):Prop where
 out:∃ (es:Array MapEntry) (cl j:Nat) (e:MapEntry) (v:Value),h b = some (.map es cl) ∧ EsRep enc es.toList l ∧ (es.toList.map (·.born)).Nodup ∧ (∀ e ∈ es.toList,e.born < cl) ∧ es[j]? = some e ∧ e.born = β ∧ l[j]? = some (k,v)
end
section
variable {κ : Type} {enc : κ → Value} {h : Heap}
theorem IsMapE.map {b:Nat} {l:List (κ × Value)} {k:κ} {β:Nat} (x:IsMapE h b enc l k β):IsMap h b enc l:=by
 obtain ⟨es,cl,j,e,v,h1,h2,h3,h4,_⟩:=x.out
 exact ⟨es,cl,h1,h2,h3,h4⟩
end
section
variable {P : Program} {kt : TypeId} {κ : Type} [DecidableEq κ] {enc : κ → Value}
variable {o : Oper} {ρ : Operand → Value} {h : Heap} {K' : Value → Heap → Prop}
end
section
variable {κ : Type} {enc : κ → Value} {h : Heap}
theorem IsMapE.of {h':Heap} {b:Nat} {l:List (κ × Value)} {k:κ} {β:Nat} (x:IsMapE h b enc l k β) (e:h' b = h b):IsMapE h' b enc l k β:=by
 obtain ⟨es,cl,j,e1,v,h1,h2⟩:=x.out
 exact ⟨es,cl,j,e1,v,by rw [e]; exact h1,h2⟩
end
section
variable {P : Program} {kt : TypeId} {κ : Type} [DecidableEq κ] {enc : κ → Value}
variable {o : Oper} {ρ : Operand → Value} {h : Heap} {K' : Value → Heap → Prop}
def zeroV (P:Program) (t:TypeId):Option Value:=(P.info? t).bind (·.zero)
theorem zeroV_spec {t:TypeId} {z:Value} (hz:zeroV P t = some z):∃ i,P.info? t = some i ∧ i.zero = some z:=by
 unfold zeroV at hz
 cases hi:P.info? t with
 | none=>rw [hi] at hz; cases hz
 | some i=>rw [hi] at hz; exact ⟨i,rfl,hz⟩
theorem a_allocZ {t:TypeId} {z:Value} {zs:Array Value} (ho:o.op = .alloc t) (hz:zeroV P t = some z) (hc:z.cells = zs):AllocOp P o ρ (.cells zs t) (fun b=>.pointer (some ⟨b,0,none⟩)):=by
 obtain ⟨i,hi,hz⟩:=zeroV_spec hz
 subst hc
 exact a_alloc ho hi hz
theorem r_lookupZ (K:KeyLaw P kt enc) {t et:TypeId} {m x:Operand} {b:Nat} {l:List (κ × Value)} {k:κ} {d:TypeDesc} {z:Value} {ok:Bool} (ho:o.op = .lookup t m x ok) (ht:P.underlying t = some (.map kt et)) (hk:P.underlying kt = some d) (hz:zeroV P et = some z)
  (hm:ρ m = .map (some b)) (hx:ρ x = enc k) (im:IsMap h b enc l):ReadOp P o ρ h (if ok then .tuple #[(getK l k).getD z,.bool (hasK l k)] else (getK l k).getD z):=by
 obtain ⟨i,hi,hz⟩:=zeroV_spec hz
 exact r_lookup K ho ht hk hi hz hm hx im
theorem r_lookup_nilZ (K:KeyLaw P kt enc) {t et:TypeId} {m x:Operand} {k:κ} {z:Value} {d:TypeDesc} {ok:Bool} (ho:o.op = .lookup t m x ok) (ht:P.underlying t = some (.map kt et)) (hk:P.underlying kt = some d) (hz:zeroV P et = some z)
  (hm:ρ m = .map none) (hx:ρ x = enc k):ReadOp P o ρ h (if ok then .tuple #[z,.bool false] else z):=by
 obtain ⟨i,hi,hz⟩:=zeroV_spec hz
 exact r_lookup_nil K ho ht hk hi hz hm hx
end
end Go.Proofs.YtihdpjinaafenaaGreatDoor.Sl

/- From a call's contract over a partial heap to what a row asks of the world behind it. -/
namespace Go.Proofs.YtihdpjinaafenaaGreatDoor.Sl
open Go.ChangeShapes Go.WideShapes Go.ChangeAt Go.RowKit
theorem trodAll_below {H:Type} {enc:TypeId × Value → H} {P:Program} (hl:laidOutB P = true) {W W':World} (hb:Below W.heap.size W W'):∀ (ts:List TypeId) (vs:List Value) (ds:List (DataW H)) (ps:List MemPlace),
  ts.all (fun t=>P.readableRec t && decide (t < P.types.size)) = true → (∀ x ∈ ps,x.block < W.heap.size) → DataW.TrodAll enc P W 0 (fun _=>true) true ts vs ds ps → DataW.TrodAll enc P W' 0 (fun b=>decide (b < W.heap.size)) true ts vs ds ps
 | [],[],[],ps,_,_,h=>h
 | t :: ts,v :: vs,d :: ds,ps,ht,hp,h=>by
  obtain ⟨p,q,h1,h2,rfl⟩:=h
  simp only [List.all_cons,Bool.and_eq_true,decide_eq_true_eq] at ht
  exact ⟨p,q,Below.trod hl ht.1.1 ht.1.2 h1 hb (fun x hx=>hp x (by simp [hx])),trodAll_below hl hb ts vs ds q ht.2 (fun x hx=>hp x (by simp [hx])) h2,rfl⟩
 | [],_ :: _,_,_,_,_,h=>h.elim
 | [],[],_ :: _,_,_,_,h=>h.elim
 | _ :: _,[],_,_,_,_,h=>h.elim
 | _ :: _,_ :: _,[],_,_,_,h=>h.elim
theorem law_post {H:Type} {enc:TypeId × Value → H} {P:Program} {f:Func} {s:ChangeSpec} {apart fresh:Bool} {W W':World} {args:Array Value} {ds:List (DataW H)} {before:List MemPlace} {tb:TypeId}
  (hl:laidOutB P = true) (ht:f.params.toList.all (fun t=>P.readableRec t && decide (t < P.types.size)) = true) (hv:s.vars = []) (hr:f.resultTypes = #[tb]) (hub:P.underlying tb = some .bool)
  (hfn:s.fn H (ds ++ []) = { results:=[.lit (.bool true)],args:=ds }) (hW:DataW.Whole enc P f.params.toList s.vars apart W args.toList ds [] before) (hb:Below W.heap.size W W') :
  s.post enc P f apart fresh false false W args (.bool true) W':=by
 have hlt:=hW.lt
 obtain ⟨p,q,hA,hV,rfl,hz,hn⟩:=hW
 have hV':=hV
 rw [hv] at hV'
 have hq:q = []:=hV'
 subst hq
 refine ⟨ds,[],_,[],p,[],⟨p,[],hA,hV,rfl,hz,hn⟩,?_,?_,?_,hb.frame _,fun h=>by cases h⟩
 ·rw [hfn,hr]
  exact trodAll_cons_mk (shut_bool hub _) trodAll_mk0
 ·rw [hfn]
  exact trodAll_below hl hb _ _ _ _ ht (fun x hx=>hlt x (by simp [hx])) hA
 ·rw [hfn,hv]; rfl
end Go.Proofs.YtihdpjinaafenaaGreatDoor.Sl

/- Maps: ranges over them, what is deleted; made slices. -/
namespace Go.Proofs.YtihdpjinaafenaaGreatDoor.Sl
section
variable {P : Program} {kt : TypeId} {κ : Type} {enc : κ → Value}
structure Ey (κ:Type) where
 key:κ
 val:Value
 born:Nat
def IsMapN (h:Heap) (b:Nat) (enc:κ → Value) (l:List (Ey κ)) (cl:Nat):Prop :=
 h b = some (.map (l.map fun e=>{ key:=enc e.key,val:=e.val,born:=e.born:MapEntry }).toArray cl) ∧ (l.map (·.born)).Nodup ∧ (∀ e ∈ l,e.born < cl) ∧ (l.map (·.key)).Nodup
def unE (e:Ey κ):κ × Value:=(e.key,e.val)
theorem IsMapN.map {h:Heap} {b:Nat} {l:List (Ey κ)} {cl:Nat} (x:IsMapN h b enc l cl):IsMap h b enc (l.map unE) ∧ Keys1 (l.map unE):=by
 obtain ⟨h1,h2,h3,h4⟩:=x
 refine ⟨⟨_,cl,h1,?_,?_,?_⟩,?_⟩
 ·simp [EsRep,unE,Function.comp_def]
 ·simpa [Function.comp_def] using h2
 ·simpa using h3
 ·simpa [Keys1,unE,Function.comp_def] using h4
theorem zipNames (enc:κ → Value):∀ (es:List MapEntry) (l:List (κ × Value)),EsRep enc es l → ∃ n:List (Ey κ),n.map unE = l ∧ es = n.map fun e=>{ key:=enc e.key,val:=e.val,born:=e.born:MapEntry }
 | [],[],_=>⟨[],rfl,rfl⟩
 | [],p :: l,h=>by simp [EsRep] at h
 | e :: es,[],h=>by simp [EsRep] at h
 | e :: es,p :: l,h=>by
  simp only [EsRep,List.map_cons,List.cons.injEq,Prod.mk.injEq] at h
  obtain ⟨n,h1,h2⟩:=zipNames enc es l h.2
  refine ⟨⟨p.1,p.2,e.born⟩ :: n,by simp [unE,h1],?_⟩
  simp only [List.map_cons,← h2,← h.1.1,← h.1.2]
theorem IsMap.named {h:Heap} {b:Nat} {l:List (κ × Value)} (x:IsMap h b enc l) (n1:Keys1 l):∃ n cl,n.map unE = l ∧ IsMapN h b enc n cl:=by
 obtain ⟨es,cl,h1,h2,h3,h4⟩:=x.out
 obtain ⟨n,h5,h6⟩:=zipNames enc es.toList l h2
 refine ⟨n,cl,h5,?_,?_,?_,?_⟩
 ·rw [h1,← h6]
 ·rw [h6] at h3; simpa [Function.comp_def] using h3
 ·rw [h6] at h4; simpa using h4
 ·rw [← h5] at n1; simpa [Keys1,unE,Function.comp_def] using n1
variable {o : Oper} {ρ : Operand → Value} {h : Heap} {K' : Value → Heap → Prop}
end
section
variable {P : Program} {kt : TypeId} {κ : Type} [DecidableEq κ] {enc : κ → Value}
variable {o : Oper} {ρ : Operand → Value} {h : Heap} {K' : Value → Heap → Prop}
end
end Go.Proofs.YtihdpjinaafenaaGreatDoor.Sl
