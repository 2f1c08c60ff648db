import Derived.Test.YtihdpjinaafenaaGreatDoorFr3
noncomputable section
/- An evaluator that the kernel can run: values and blocks by names of its own; how these stand to the model's. -/
set_option linter.unusedVariables false
set_option linter.unusedSimpArgs false
namespace Go.Proofs.YtihdpjinaafenaaGreatDoor.Ce
open Go.Proofs.YtihdpjinaafenaaGreatDoor.Sl
inductive Pos where
 | h | o (p:Pos) | i (p:Pos)
 deriving DecidableEq
def Pos.succ (p:Pos):Pos:=Pos.rec (.o .h) (fun p _=>.i p) (fun _ ih=>.o ih) p
def Pos.nat:Pos → Nat
 | .h=>1
 | .o p=>2 * p.nat
 | .i p=>2 * p.nat + 1
theorem Pos.pos:∀ p:Pos,0 < p.nat
 | .h=>Nat.one_pos
 | .o p=>by have:=p.pos; simp only [Pos.nat]; omega
 | .i p=>by simp only [Pos.nat]; omega
theorem Pos.nat_succ:∀ p:Pos,p.succ.nat = p.nat + 1
 | .h=>rfl
 | .o p=>rfl
 | .i p=>by
  show 2 * p.succ.nat = 2 * p.nat + 1 + 1
  rw [p.nat_succ]; omega
theorem Pos.nat_inj:∀ {p q:Pos},p.nat = q.nat → p = q
 | .h,.h,_=>rfl
 | .h,.o q,e=>by have:=q.pos; simp only [Pos.nat] at e; omega
 | .h,.i q,e=>by have:=q.pos; simp only [Pos.nat] at e; omega
 | .o p,.h,e=>by have:=p.pos; simp only [Pos.nat] at e; omega
 | .o p,.o q,e=>by rw [Pos.nat_inj (p:=p) (q:=q) (by simp only [Pos.nat] at e; omega)]
 | .o p,.i q,e=>by simp only [Pos.nat] at e; omega
 | .i p,.h,e=>by have:=p.pos; simp only [Pos.nat] at e; omega
 | .i p,.o q,e=>by simp only [Pos.nat] at e; omega
 | .i p,.i q,e=>by rw [Pos.nat_inj (p:=p) (q:=q) (by simp only [Pos.nat] at e; omega)]
def pos:Nat → Pos
 | 0=>.h
 | t + 1=>(pos t).succ
theorem pos_nat:∀ t,(pos t).nat = t + 1
 | 0=>rfl
 | t + 1=>by rw [pos,Pos.nat_succ,pos_nat t]
inductive Tr (α:Type) where
 | e | n (v:α) (l r:Tr α)
section
variable {α : Type}
def Tr.get (d:α) (p:Pos):Tr α → α :=
 Pos.rec (motive:=fun _=>Tr α → α) (fun t=>Tr.rec d (fun v _ _ _ _=>v) t) (fun _ ih t=>Tr.rec d (fun _ l _ _ _=>ih l) t) (fun _ ih t=>Tr.rec d (fun _ _ r _ _=>ih r) t) p
def Tr.set (d:α) (p:Pos) (x:α):Tr α → Tr α :=
 Pos.rec (motive:=fun _=>Tr α → Tr α) (fun t=>Tr.rec (.n x .e .e) (fun _ l r _ _=>.n x l r) t) (fun _ ih t=>Tr.rec (.n d (ih .e) .e) (fun v l r _ _=>.n v (ih l) r) t) (fun _ ih t=>Tr.rec (.n d .e (ih .e)) (fun v l r _ _=>.n v l (ih r)) t) p
theorem Tr.get_e (d:α) (p:Pos):Tr.get d p .e = d:=by cases p <;> rfl
def Tr.upd (d:α) (p:Pos) (f:α → α):Tr α → Tr α :=
 Pos.rec (motive:=fun _=>Tr α → Tr α) (fun t=>Tr.rec (.n (f d) .e .e) (fun v l r _ _=>.n (f v) l r) t) (fun _ ih t=>Tr.rec (.n d (ih .e) .e) (fun v l r _ _=>.n v (ih l) r) t) (fun _ ih t=>Tr.rec (.n d .e (ih .e)) (fun v l r _ _=>.n v l (ih r)) t) p
theorem Tr.get_upd (d:α) (f:α → α):∀ (p q:Pos) (t:Tr α),Tr.get d q (Tr.upd d p f t) = if q = p then f (Tr.get d p t) else Tr.get d q t
 | .h,.h,.e=>rfl
 | .h,.h,.n _ _ _=>rfl
 | .h,.o q,.e=>by rw [if_neg (by simp)]; exact Tr.get_e d q
 | .h,.i q,.e=>by rw [if_neg (by simp)]; exact Tr.get_e d q
 | .h,.o q,.n _ _ _=>by rw [if_neg (by simp)]; rfl
 | .h,.i q,.n _ _ _=>by rw [if_neg (by simp)]; rfl
 | .o p,.h,.e=>by rw [if_neg (by simp)]; rfl
 | .o p,.h,.n _ _ _=>by rw [if_neg (by simp)]; rfl
 | .i p,.h,.e=>by rw [if_neg (by simp)]; rfl
 | .i p,.h,.n _ _ _=>by rw [if_neg (by simp)]; rfl
 | .o p,.i q,.e=>by rw [if_neg (by simp)]; exact Tr.get_e d q
 | .o p,.i q,.n _ _ _=>by rw [if_neg (by simp)]; rfl
 | .i p,.o q,.e=>by rw [if_neg (by simp)]; exact Tr.get_e d q
 | .i p,.o q,.n _ _ _=>by rw [if_neg (by simp)]; rfl
 | .o p,.o q,.e=>by
  show Tr.get d q (Tr.upd d p f .e) = if _ then f d else d
  rw [Tr.get_upd d f p q .e,Tr.get_e,Tr.get_e]; simp
 | .o p,.o q,.n v l r=>by
  show Tr.get d q (Tr.upd d p f l) = _
  rw [Tr.get_upd d f p q l]; simp; rfl
 | .i p,.i q,.e=>by
  show Tr.get d q (Tr.upd d p f .e) = if _ then f d else d
  rw [Tr.get_upd d f p q .e,Tr.get_e,Tr.get_e]; simp
 | .i p,.i q,.n v l r=>by
  show Tr.get d q (Tr.upd d p f r) = _
  rw [Tr.get_upd d f p q r]; simp; rfl
end
inductive D where
 | d0 | d1 | d2 | d3 | d4 | d5 | d6 | d7 | d8 | d9 | d10 | d11 | d12 | d13 | d14 | d15
 deriving DecidableEq
structure Pg (α:Type) where
 (a0 a1 a2 a3 a4 a5 a6 a7 a8 a9 a10 a11 a12 a13 a14 a15:α)
section
variable {α : Type}
def Pg.get (d:D):Pg α → α:=D.rec (motive:=fun _=>Pg α → α) Pg.a0 Pg.a1 Pg.a2 Pg.a3 Pg.a4 Pg.a5 Pg.a6 Pg.a7 Pg.a8 Pg.a9 Pg.a10 Pg.a11 Pg.a12 Pg.a13 Pg.a14 Pg.a15 d
def Pg.upd (d:D):(α → α) → Pg α → Pg α:=D.rec (motive:=fun _=>(α → α) → Pg α → Pg α) (fun f t=>Pg.rec (fun a0 a1 a2 a3 a4 a5 a6 a7 a8 a9 a10 a11 a12 a13 a14 a15=>⟨f a0,a1,a2,a3,a4,a5,a6,a7,a8,a9,a10,a11,a12,a13,a14,a15⟩) t) (fun f t=>Pg.rec (fun a0 a1 a2 a3 a4 a5 a6 a7 a8 a9 a10 a11 a12 a13 a14 a15=>⟨a0,f a1,a2,a3,a4,a5,a6,a7,a8,a9,a10,a11,a12,a13,a14,a15⟩) t) (fun f t=>Pg.rec (fun a0 a1 a2 a3 a4 a5 a6 a7 a8 a9 a10 a11 a12 a13 a14 a15=>⟨a0,a1,f a2,a3,a4,a5,a6,a7,a8,a9,a10,a11,a12,a13,a14,a15⟩) t) (fun f t=>Pg.rec (fun a0 a1 a2 a3 a4 a5 a6 a7 a8 a9 a10 a11 a12 a13 a14 a15=>⟨a0,a1,a2,f a3,a4,a5,a6,a7,a8,a9,a10,a11,a12,a13,a14,a15⟩) t) (fun f t=>Pg.rec (fun a0 a1 a2 a3 a4 a5 a6 a7 a8 a9 a10 a11 a12 a13 a14 a15=>⟨a0,a1,a2,a3,f a4,a5,a6,a7,a8,a9,a10,a11,a12,a13,a14,a15⟩) t) (fun f t=>Pg.rec (fun a0 a1 a2 a3 a4 a5 a6 a7 a8 a9 a10 a11 a12 a13 a14 a15=>⟨a0,a1,a2,a3,a4,f a5,a6,a7,a8,a9,a10,a11,a12,a13,a14,a15⟩) t) (fun f t=>Pg.rec (fun a0 a1 a2 a3 a4 a5 a6 a7 a8 a9 a10 a11 a12 a13 a14 a15=>⟨a0,a1,a2,a3,a4,a5,f a6,a7,a8,a9,a10,a11,a12,a13,a14,a15⟩) t) (fun f t=>Pg.rec (fun a0 a1 a2 a3 a4 a5 a6 a7 a8 a9 a10 a11 a12 a13 a14 a15=>⟨a0,a1,a2,a3,a4,a5,a6,f a7,a8,a9,a10,a11,a12,a13,a14,a15⟩) t) (fun f t=>Pg.rec (fun a0 a1 a2 a3 a4 a5 a6 a7 a8 a9 a10 a11 a12 a13 a14 a15=>⟨a0,a1,a2,a3,a4,a5,a6,a7,f a8,a9,a10,a11,a12,a13,a14,a15⟩) t) (fun f t=>Pg.rec (fun a0 a1 a2 a3 a4 a5 a6 a7 a8 a9 a10 a11 a12 a13 a14 a15=>⟨a0,a1,a2,a3,a4,a5,a6,a7,a8,f a9,a10,a11,a12,a13,a14,a15⟩) t) (fun f t=>Pg.rec (fun a0 a1 a2 a3 a4 a5 a6 a7 a8 a9 a10 a11 a12 a13 a14 a15=>⟨a0,a1,a2,a3,a4,a5,a6,a7,a8,a9,f a10,a11,a12,a13,a14,a15⟩) t) (fun f t=>Pg.rec (fun a0 a1 a2 a3 a4 a5 a6 a7 a8 a9 a10 a11 a12 a13 a14 a15=>⟨a0,a1,a2,a3,a4,a5,a6,a7,a8,a9,a10,f a11,a12,a13,a14,a15⟩) t) (fun f t=>Pg.rec (fun a0 a1 a2 a3 a4 a5 a6 a7 a8 a9 a10 a11 a12 a13 a14 a15=>⟨a0,a1,a2,a3,a4,a5,a6,a7,a8,a9,a10,a11,f a12,a13,a14,a15⟩) t) (fun f t=>Pg.rec (fun a0 a1 a2 a3 a4 a5 a6 a7 a8 a9 a10 a11 a12 a13 a14 a15=>⟨a0,a1,a2,a3,a4,a5,a6,a7,a8,a9,a10,a11,a12,f a13,a14,a15⟩) t) (fun f t=>Pg.rec (fun a0 a1 a2 a3 a4 a5 a6 a7 a8 a9 a10 a11 a12 a13 a14 a15=>⟨a0,a1,a2,a3,a4,a5,a6,a7,a8,a9,a10,a11,a12,a13,f a14,a15⟩) t) (fun f t=>Pg.rec (fun a0 a1 a2 a3 a4 a5 a6 a7 a8 a9 a10 a11 a12 a13 a14 a15=>⟨a0,a1,a2,a3,a4,a5,a6,a7,a8,a9,a10,a11,a12,a13,a14,f a15⟩) t) d
theorem Pg.get_upd (d e:D) (f:α → α) (t:Pg α):Pg.get e (Pg.upd d f t) = if e = d then f (Pg.get d t) else Pg.get e t:=by
 cases t; cases d <;> cases e <;> rfl
def Pg.all (x:α):Pg α:=⟨x,x,x,x,x,x,x,x,x,x,x,x,x,x,x,x⟩
theorem Pg.get_all (d:D) (x:α):Pg.get d (Pg.all x) = x:=by cases d <;> rfl
end
inductive Bx (α:Type) where
 | mk (f:α)
def Bx.f {α:Type} (b:Bx α):α:=Bx.rec (fun f=>f) b
def D.sel {α:Type} (d:D):Bx (Pg α → α):=D.rec (motive:=fun _=>Bx (Pg α → α)) (.mk fun t=>Pg.rec (fun a0 a1 a2 a3 a4 a5 a6 a7 a8 a9 a10 a11 a12 a13 a14 a15=>a0) t) (.mk fun t=>Pg.rec (fun a0 a1 a2 a3 a4 a5 a6 a7 a8 a9 a10 a11 a12 a13 a14 a15=>a1) t) (.mk fun t=>Pg.rec (fun a0 a1 a2 a3 a4 a5 a6 a7 a8 a9 a10 a11 a12 a13 a14 a15=>a2) t) (.mk fun t=>Pg.rec (fun a0 a1 a2 a3 a4 a5 a6 a7 a8 a9 a10 a11 a12 a13 a14 a15=>a3) t) (.mk fun t=>Pg.rec (fun a0 a1 a2 a3 a4 a5 a6 a7 a8 a9 a10 a11 a12 a13 a14 a15=>a4) t) (.mk fun t=>Pg.rec (fun a0 a1 a2 a3 a4 a5 a6 a7 a8 a9 a10 a11 a12 a13 a14 a15=>a5) t) (.mk fun t=>Pg.rec (fun a0 a1 a2 a3 a4 a5 a6 a7 a8 a9 a10 a11 a12 a13 a14 a15=>a6) t) (.mk fun t=>Pg.rec (fun a0 a1 a2 a3 a4 a5 a6 a7 a8 a9 a10 a11 a12 a13 a14 a15=>a7) t) (.mk fun t=>Pg.rec (fun a0 a1 a2 a3 a4 a5 a6 a7 a8 a9 a10 a11 a12 a13 a14 a15=>a8) t) (.mk fun t=>Pg.rec (fun a0 a1 a2 a3 a4 a5 a6 a7 a8 a9 a10 a11 a12 a13 a14 a15=>a9) t) (.mk fun t=>Pg.rec (fun a0 a1 a2 a3 a4 a5 a6 a7 a8 a9 a10 a11 a12 a13 a14 a15=>a10) t) (.mk fun t=>Pg.rec (fun a0 a1 a2 a3 a4 a5 a6 a7 a8 a9 a10 a11 a12 a13 a14 a15=>a11) t) (.mk fun t=>Pg.rec (fun a0 a1 a2 a3 a4 a5 a6 a7 a8 a9 a10 a11 a12 a13 a14 a15=>a12) t) (.mk fun t=>Pg.rec (fun a0 a1 a2 a3 a4 a5 a6 a7 a8 a9 a10 a11 a12 a13 a14 a15=>a13) t) (.mk fun t=>Pg.rec (fun a0 a1 a2 a3 a4 a5 a6 a7 a8 a9 a10 a11 a12 a13 a14 a15=>a14) t) (.mk fun t=>Pg.rec (fun a0 a1 a2 a3 a4 a5 a6 a7 a8 a9 a10 a11 a12 a13 a14 a15=>a15) t) d
def D.udF {α:Type} (d:D):Bx ((α → α) → Pg α → Pg α):=D.rec (motive:=fun _=>Bx ((α → α) → Pg α → Pg α)) (.mk fun f t=>Pg.rec (fun a0 a1 a2 a3 a4 a5 a6 a7 a8 a9 a10 a11 a12 a13 a14 a15=>⟨f a0,a1,a2,a3,a4,a5,a6,a7,a8,a9,a10,a11,a12,a13,a14,a15⟩) t) (.mk fun f t=>Pg.rec (fun a0 a1 a2 a3 a4 a5 a6 a7 a8 a9 a10 a11 a12 a13 a14 a15=>⟨a0,f a1,a2,a3,a4,a5,a6,a7,a8,a9,a10,a11,a12,a13,a14,a15⟩) t) (.mk fun f t=>Pg.rec (fun a0 a1 a2 a3 a4 a5 a6 a7 a8 a9 a10 a11 a12 a13 a14 a15=>⟨a0,a1,f a2,a3,a4,a5,a6,a7,a8,a9,a10,a11,a12,a13,a14,a15⟩) t) (.mk fun f t=>Pg.rec (fun a0 a1 a2 a3 a4 a5 a6 a7 a8 a9 a10 a11 a12 a13 a14 a15=>⟨a0,a1,a2,f a3,a4,a5,a6,a7,a8,a9,a10,a11,a12,a13,a14,a15⟩) t) (.mk fun f t=>Pg.rec (fun a0 a1 a2 a3 a4 a5 a6 a7 a8 a9 a10 a11 a12 a13 a14 a15=>⟨a0,a1,a2,a3,f a4,a5,a6,a7,a8,a9,a10,a11,a12,a13,a14,a15⟩) t) (.mk fun f t=>Pg.rec (fun a0 a1 a2 a3 a4 a5 a6 a7 a8 a9 a10 a11 a12 a13 a14 a15=>⟨a0,a1,a2,a3,a4,f a5,a6,a7,a8,a9,a10,a11,a12,a13,a14,a15⟩) t) (.mk fun f t=>Pg.rec (fun a0 a1 a2 a3 a4 a5 a6 a7 a8 a9 a10 a11 a12 a13 a14 a15=>⟨a0,a1,a2,a3,a4,a5,f a6,a7,a8,a9,a10,a11,a12,a13,a14,a15⟩) t) (.mk fun f t=>Pg.rec (fun a0 a1 a2 a3 a4 a5 a6 a7 a8 a9 a10 a11 a12 a13 a14 a15=>⟨a0,a1,a2,a3,a4,a5,a6,f a7,a8,a9,a10,a11,a12,a13,a14,a15⟩) t) (.mk fun f t=>Pg.rec (fun a0 a1 a2 a3 a4 a5 a6 a7 a8 a9 a10 a11 a12 a13 a14 a15=>⟨a0,a1,a2,a3,a4,a5,a6,a7,f a8,a9,a10,a11,a12,a13,a14,a15⟩) t) (.mk fun f t=>Pg.rec (fun a0 a1 a2 a3 a4 a5 a6 a7 a8 a9 a10 a11 a12 a13 a14 a15=>⟨a0,a1,a2,a3,a4,a5,a6,a7,a8,f a9,a10,a11,a12,a13,a14,a15⟩) t) (.mk fun f t=>Pg.rec (fun a0 a1 a2 a3 a4 a5 a6 a7 a8 a9 a10 a11 a12 a13 a14 a15=>⟨a0,a1,a2,a3,a4,a5,a6,a7,a8,a9,f a10,a11,a12,a13,a14,a15⟩) t) (.mk fun f t=>Pg.rec (fun a0 a1 a2 a3 a4 a5 a6 a7 a8 a9 a10 a11 a12 a13 a14 a15=>⟨a0,a1,a2,a3,a4,a5,a6,a7,a8,a9,a10,f a11,a12,a13,a14,a15⟩) t) (.mk fun f t=>Pg.rec (fun a0 a1 a2 a3 a4 a5 a6 a7 a8 a9 a10 a11 a12 a13 a14 a15=>⟨a0,a1,a2,a3,a4,a5,a6,a7,a8,a9,a10,a11,f a12,a13,a14,a15⟩) t) (.mk fun f t=>Pg.rec (fun a0 a1 a2 a3 a4 a5 a6 a7 a8 a9 a10 a11 a12 a13 a14 a15=>⟨a0,a1,a2,a3,a4,a5,a6,a7,a8,a9,a10,a11,a12,f a13,a14,a15⟩) t) (.mk fun f t=>Pg.rec (fun a0 a1 a2 a3 a4 a5 a6 a7 a8 a9 a10 a11 a12 a13 a14 a15=>⟨a0,a1,a2,a3,a4,a5,a6,a7,a8,a9,a10,a11,a12,a13,f a14,a15⟩) t) (.mk fun f t=>Pg.rec (fun a0 a1 a2 a3 a4 a5 a6 a7 a8 a9 a10 a11 a12 a13 a14 a15=>⟨a0,a1,a2,a3,a4,a5,a6,a7,a8,a9,a10,a11,a12,a13,a14,f a15⟩) t) d
theorem D.sel_eq {α:Type} (d:D) (T:Pg α):d.sel.f T = Pg.get d T:=by cases d <;> rfl
theorem D.udF_eq {α:Type} (d:D) (f:α → α) (T:Pg α):d.udF.f f T = Pg.upd d f T:=by cases d <;> rfl
def D.nat:D → Nat
 | .d0=>0
 | .d1=>1
 | .d2=>2
 | .d3=>3
 | .d4=>4
 | .d5=>5
 | .d6=>6
 | .d7=>7
 | .d8=>8
 | .d9=>9
 | .d10=>10
 | .d11=>11
 | .d12=>12
 | .d13=>13
 | .d14=>14
 | .d15=>15
theorem D.lt (d:D):d.nat < 16:=by cases d <;> decide
theorem D.nat_inj {a b:D} (h:a.nat = b.nat):a = b:=by cases a <;> cases b <;> first | rfl | (cases h; done)
structure Sp where
 (b a:D)
 deriving DecidableEq
def Sp.nat (p:Sp):Nat:=16 * p.b.nat + p.a.nat + 1
theorem Sp.nat_inj {p q:Sp} (h:p.nat - 1 = q.nat - 1):p = q:=by
 obtain ⟨b,a⟩:=p; obtain ⟨c,d⟩:=q
 simp only [Sp.nat] at h
 have h1:=D.lt a; have h2:=D.lt d
 rw [D.nat_inj (a:=b) (b:=c) (by omega),D.nat_inj (a:=a) (b:=d) (by omega)]
abbrev SL (α:Type):=Pg (Pg α)
def sget {α:Type} (p:Sp) (T:SL α):α:=Sp.rec (fun b a=>Pg.get a (Pg.get b T)) p
def sset {α:Type} (p:Sp) (x:α) (T:SL α):SL α:=Sp.rec (fun b a=>Pg.upd b (Pg.upd a (fun _=>x)) T) p
theorem sget_sset {α:Type} (p q:Sp) (x:α) (T:SL α):sget q (sset p x T) = if q = p then x else sget q T:=by
 obtain ⟨b,a⟩:=p; obtain ⟨c,d⟩:=q
 show Pg.get d (Pg.get c (Pg.upd b (Pg.upd a (fun _=>x)) T)) = _
 rw [Pg.get_upd]
 by_cases h:c = b
 ·subst h
  rw [if_pos rfl,Pg.get_upd]
  by_cases h2:d = a
  ·subst h2; simp
  ·rw [if_neg h2,if_neg (by simpa using h2)]; rfl
 ·rw [if_neg h,if_neg (by simp [h])]; rfl
def Sp.gf {α:Type} (p:Sp):Bx (SL α → α):=Sp.rec (fun b a=>Bx.rec (fun fb=>Bx.rec (fun fa=>.mk fun T=>fa (fb T)) (D.sel a)) (D.sel b)) p
def Sp.sf {α:Type} (p:Sp):Bx (α → SL α → SL α):=Sp.rec (fun b a=>Bx.rec (fun fb=>Bx.rec (fun fa=>.mk fun x T=>fb (fun g=>fa (fun _=>x) g) T) (D.udF a)) (D.udF b)) p
theorem Sp.gf_eq {α:Type} (p:Sp) (T:SL α):p.gf.f T = sget p T:=by
 obtain ⟨b,a⟩:=p
 show (Bx.rec (motive:=fun _=>Bx (SL α → α)) (fun fb=>Bx.rec (motive:=fun _=>Bx (SL α → α)) (fun fa=>.mk fun T=>fa (fb T)) (D.sel a)) (D.sel b)).f T = Pg.get a (Pg.get b T)
 rw [← D.sel_eq,← D.sel_eq]
 cases D.sel (α:=Pg α) b; cases D.sel (α:=α) a; rfl
theorem Sp.sf_eq {α:Type} (p:Sp) (x:α) (T:SL α):p.sf.f x T = sset p x T:=by
 obtain ⟨b,a⟩:=p
 show (Bx.rec (motive:=fun _=>Bx (α → SL α → SL α)) (fun fb=>Bx.rec (motive:=fun _=>Bx (α → SL α → SL α)) (fun fa=>.mk fun x T=>fb (fun g=>fa (fun _=>x) g) T) (D.udF a)) (D.udF b)).f x T = Pg.upd b (Pg.upd a (fun _=>x)) T
 rw [← D.udF_eq]
 have:Pg.upd a (fun _=>x) = (D.udF a).f (fun _=>x):=by funext t; rw [D.udF_eq]
 rw [this]
 cases D.udF (α:=Pg α) b; cases D.udF (α:=α) a; rfl
def Sp.succ (p:Sp):Sp:=Sp.rec (fun b a=>D.rec (motive:=fun _=>Sp) ⟨b,.d1⟩ ⟨b,.d2⟩ ⟨b,.d3⟩ ⟨b,.d4⟩ ⟨b,.d5⟩ ⟨b,.d6⟩ ⟨b,.d7⟩ ⟨b,.d8⟩ ⟨b,.d9⟩ ⟨b,.d10⟩ ⟨b,.d11⟩ ⟨b,.d12⟩ ⟨b,.d13⟩ ⟨b,.d14⟩ ⟨b,.d15⟩ ⟨D.rec (motive:=fun _=>D) .d1 .d2 .d3 .d4 .d5 .d6 .d7 .d8 .d9 .d10 .d11 .d12 .d13 .d14 .d15 .d0 b,.d0⟩ a) p
def sp:Nat → Sp
 | 0=>⟨.d0,.d0⟩
 | t + 1=>(sp t).succ
theorem Sp.nat_succ (p:Sp) (h:p.nat < 256):p.succ.nat = p.nat + 1:=by
 obtain ⟨b,a⟩:=p
 cases a <;> first | rfl | (cases b <;> first | rfl | (exact absurd h (by decide)))
theorem sp_nat:∀ t,t < 256 → (sp t).nat = t + 1
 | 0,_=>rfl
 | t + 1,h=>by rw [sp,Sp.nat_succ _ (by rw [sp_nat t (by omega)]; omega),sp_nat t (by omega)]
structure Id where
 pg:Pos
 (c b a:D)
 deriving DecidableEq
def Id.nat (p:Id):Nat:=((((p.pg.nat - 1) * 16 + p.c.nat) * 16) + p.b.nat) * 16 + p.a.nat + 1
theorem Id.pos (p:Id):0 < p.nat:=by simp only [Id.nat]; omega
theorem Id.nat_inj {p q:Id} (h:p.nat = q.nat):p = q:=by
 obtain ⟨x,c,b,a⟩:=p; obtain ⟨y,f,e,d⟩:=q
 simp only [Id.nat] at h
 have h1:=D.lt a; have h2:=D.lt b; have h3:=D.lt c; have h4:=D.lt d; have h5:=D.lt e; have h6:=D.lt f
 have hx:=x.pos; have hy:=y.pos
 rw [Pos.nat_inj (p:=x) (q:=y) (by omega),D.nat_inj (a:=a) (b:=d) (by omega),D.nat_inj (a:=b) (b:=e) (by omega),D.nat_inj (a:=c) (b:=f) (by omega)]
abbrev i0:Id:=⟨.h,.d0,.d0,.d0⟩
abbrev Ht (α:Type):=Tr (Pg (Pg (Pg α)))
section
variable {α : Type}
def iget (d:Pg (Pg (Pg α))) (p:Id) (H:Ht α):α:=Id.rec (fun pg c b a=>Pg.get a (Pg.get b (Pg.get c (Tr.get d pg H)))) p
def iset (d:Pg (Pg (Pg α))) (p:Id) (x:α) (H:Ht α):Ht α:=Id.rec (fun pg c b a=>Tr.upd d pg (Pg.upd c (Pg.upd b (Pg.upd a (fun _=>x)))) H) p
theorem iget_iset (d:Pg (Pg (Pg α))) (p q:Id) (x:α) (H:Ht α):iget d q (iset d p x H) = if q = p then x else iget d q H:=by
 obtain ⟨pg,c,b,a⟩:=p; obtain ⟨pg',c',b',a'⟩:=q
 show Pg.get a' (Pg.get b' (Pg.get c' (Tr.get d pg' (Tr.upd d pg (Pg.upd c (Pg.upd b (Pg.upd a (fun _=>x)))) H)))) = _
 rw [Tr.get_upd]
 by_cases e0:pg' = pg
 ·subst e0
  rw [if_pos rfl,Pg.get_upd]
  by_cases e1:c' = c
  ·subst e1
   rw [if_pos rfl,Pg.get_upd]
   by_cases e2:b' = b
   ·subst e2
    rw [if_pos rfl,Pg.get_upd]
    by_cases e3:a' = a
    ·subst e3; simp
    ·rw [if_neg e3,if_neg (by simpa using e3)]; rfl
   ·rw [if_neg e2,if_neg (by simp [e2])]; rfl
  ·rw [if_neg e1,if_neg (by simp [e1])]; rfl
 ·rw [if_neg e0,if_neg (by simp [e0])]; rfl
end
def Id.succ (p:Id):Id:=Id.rec (fun pg c b a=>D.rec (motive:=fun _=>Id) ⟨pg,c,b,.d1⟩ ⟨pg,c,b,.d2⟩ ⟨pg,c,b,.d3⟩ ⟨pg,c,b,.d4⟩ ⟨pg,c,b,.d5⟩ ⟨pg,c,b,.d6⟩ ⟨pg,c,b,.d7⟩ ⟨pg,c,b,.d8⟩ ⟨pg,c,b,.d9⟩ ⟨pg,c,b,.d10⟩ ⟨pg,c,b,.d11⟩ ⟨pg,c,b,.d12⟩ ⟨pg,c,b,.d13⟩ ⟨pg,c,b,.d14⟩ ⟨pg,c,b,.d15⟩ (D.rec (motive:=fun _=>Id) ⟨pg,c,.d1,.d0⟩ ⟨pg,c,.d2,.d0⟩ ⟨pg,c,.d3,.d0⟩ ⟨pg,c,.d4,.d0⟩ ⟨pg,c,.d5,.d0⟩ ⟨pg,c,.d6,.d0⟩ ⟨pg,c,.d7,.d0⟩ ⟨pg,c,.d8,.d0⟩ ⟨pg,c,.d9,.d0⟩ ⟨pg,c,.d10,.d0⟩ ⟨pg,c,.d11,.d0⟩ ⟨pg,c,.d12,.d0⟩ ⟨pg,c,.d13,.d0⟩ ⟨pg,c,.d14,.d0⟩ ⟨pg,c,.d15,.d0⟩ (D.rec (motive:=fun _=>Id) ⟨pg,.d1,.d0,.d0⟩ ⟨pg,.d2,.d0,.d0⟩ ⟨pg,.d3,.d0,.d0⟩ ⟨pg,.d4,.d0,.d0⟩ ⟨pg,.d5,.d0,.d0⟩ ⟨pg,.d6,.d0,.d0⟩ ⟨pg,.d7,.d0,.d0⟩ ⟨pg,.d8,.d0,.d0⟩ ⟨pg,.d9,.d0,.d0⟩ ⟨pg,.d10,.d0,.d0⟩ ⟨pg,.d11,.d0,.d0⟩ ⟨pg,.d12,.d0,.d0⟩ ⟨pg,.d13,.d0,.d0⟩ ⟨pg,.d14,.d0,.d0⟩ ⟨pg,.d15,.d0,.d0⟩ ⟨pg.succ,.d0,.d0,.d0⟩ c) b) a) p
theorem Id.nat_succ (p:Id):p.succ.nat = p.nat + 1:=by
 obtain ⟨pg,c,b,a⟩:=p
 cases a <;> first | rfl | skip
 cases b <;> first | rfl | skip
 ·show (Id.nat ⟨pg,c,.d1,.d0⟩) = _; simp only [Id.nat,D.nat]; omega
 ·show (Id.nat ⟨pg,c,.d2,.d0⟩) = _; simp only [Id.nat,D.nat]; omega
 ·show (Id.nat ⟨pg,c,.d3,.d0⟩) = _; simp only [Id.nat,D.nat]; omega
 ·show (Id.nat ⟨pg,c,.d4,.d0⟩) = _; simp only [Id.nat,D.nat]; omega
 ·show (Id.nat ⟨pg,c,.d5,.d0⟩) = _; simp only [Id.nat,D.nat]; omega
 ·show (Id.nat ⟨pg,c,.d6,.d0⟩) = _; simp only [Id.nat,D.nat]; omega
 ·show (Id.nat ⟨pg,c,.d7,.d0⟩) = _; simp only [Id.nat,D.nat]; omega
 ·show (Id.nat ⟨pg,c,.d8,.d0⟩) = _; simp only [Id.nat,D.nat]; omega
 ·show (Id.nat ⟨pg,c,.d9,.d0⟩) = _; simp only [Id.nat,D.nat]; omega
 ·show (Id.nat ⟨pg,c,.d10,.d0⟩) = _; simp only [Id.nat,D.nat]; omega
 ·show (Id.nat ⟨pg,c,.d11,.d0⟩) = _; simp only [Id.nat,D.nat]; omega
 ·show (Id.nat ⟨pg,c,.d12,.d0⟩) = _; simp only [Id.nat,D.nat]; omega
 ·show (Id.nat ⟨pg,c,.d13,.d0⟩) = _; simp only [Id.nat,D.nat]; omega
 ·show (Id.nat ⟨pg,c,.d14,.d0⟩) = _; simp only [Id.nat,D.nat]; omega
 ·show (Id.nat ⟨pg,c,.d15,.d0⟩) = _; simp only [Id.nat,D.nat]; omega
 ·cases c
  ·show (Id.nat ⟨pg,.d1,.d0,.d0⟩) = _; simp only [Id.nat,D.nat]; omega
  ·show (Id.nat ⟨pg,.d2,.d0,.d0⟩) = _; simp only [Id.nat,D.nat]; omega
  ·show (Id.nat ⟨pg,.d3,.d0,.d0⟩) = _; simp only [Id.nat,D.nat]; omega
  ·show (Id.nat ⟨pg,.d4,.d0,.d0⟩) = _; simp only [Id.nat,D.nat]; omega
  ·show (Id.nat ⟨pg,.d5,.d0,.d0⟩) = _; simp only [Id.nat,D.nat]; omega
  ·show (Id.nat ⟨pg,.d6,.d0,.d0⟩) = _; simp only [Id.nat,D.nat]; omega
  ·show (Id.nat ⟨pg,.d7,.d0,.d0⟩) = _; simp only [Id.nat,D.nat]; omega
  ·show (Id.nat ⟨pg,.d8,.d0,.d0⟩) = _; simp only [Id.nat,D.nat]; omega
  ·show (Id.nat ⟨pg,.d9,.d0,.d0⟩) = _; simp only [Id.nat,D.nat]; omega
  ·show (Id.nat ⟨pg,.d10,.d0,.d0⟩) = _; simp only [Id.nat,D.nat]; omega
  ·show (Id.nat ⟨pg,.d11,.d0,.d0⟩) = _; simp only [Id.nat,D.nat]; omega
  ·show (Id.nat ⟨pg,.d12,.d0,.d0⟩) = _; simp only [Id.nat,D.nat]; omega
  ·show (Id.nat ⟨pg,.d13,.d0,.d0⟩) = _; simp only [Id.nat,D.nat]; omega
  ·show (Id.nat ⟨pg,.d14,.d0,.d0⟩) = _; simp only [Id.nat,D.nat]; omega
  ·show (Id.nat ⟨pg,.d15,.d0,.d0⟩) = _; simp only [Id.nat,D.nat]; omega
  ·show (Id.nat ⟨pg.succ,.d0,.d0,.d0⟩) = _
   have:=pg.pos
   simp only [Id.nat,D.nat,Pos.nat_succ]; omega
inductive CV where
 | u | b (x:Bool) | i (k:IntKind) (n:Int) | s (l:List Nat)
 | p (id:Id) (off:Nat) | np | g (n:Nat)
 | sl (id:Id) (off n sz:Nat) (c:Option Nat) | z (c:Option Nat) | ns
 | m (id:Id) | nm
 | fn (f:Pos) (a b:List CV) | nf
 | ifc (t:Nat) (x:CV) | ni
 | agg (cs:List CV) | tup (cs:List CV) | xi (j:Nat) | yl (id:Id)
def CV.one:CV → Bool
 | .u | .agg _ | .tup _=>false
 | _=>true
inductive X1 (α:Type) where
 | no | yes (a:α)
inductive X2 (α β:Type) where
 | no | yes (a:α) (b:β)
inductive X5 where
 | no | yes (a:Id) (b c d:Nat) (e:Option Nat)
section
variable {α : Type}
def CV.toB (c:CV):X1 (Bool):=CV.rec (motive_1:=fun _=>X1 (Bool)) (motive_2:=fun _=>Unit) .no .yes (fun _ _=>.no) (fun _=>.no) (fun _ _=>.no) .no (fun _=>.no) (fun _ _ _ _ _=>.no) (fun _=>.no) .no (fun _=>.no) .no (fun _ _ _ _ _=>.no) .no (fun _ _ _=>.no) .no (fun _ _=>.no) (fun _ _=>.no) (fun _=>.no) (fun _=>.no) () (fun _ _ _ _=>()) c
def CV.onB (d:α) (f:Bool → α) (c:CV):α:=X1.rec d f (CV.toB c)
theorem CV.onB_eq (d:α) (f:Bool → α) (c:CV):CV.onB d f c = match c with | .b a1=>f a1 | _=>d:=by cases c <;> rfl
def CV.toI (c:CV):X2 IntKind Int:=CV.rec (motive_1:=fun _=>X2 IntKind Int) (motive_2:=fun _=>Unit) .no (fun _=>.no) .yes (fun _=>.no) (fun _ _=>.no) .no (fun _=>.no) (fun _ _ _ _ _=>.no) (fun _=>.no) .no (fun _=>.no) .no (fun _ _ _ _ _=>.no) .no (fun _ _ _=>.no) .no (fun _ _=>.no) (fun _ _=>.no) (fun _=>.no) (fun _=>.no) () (fun _ _ _ _=>()) c
def CV.onI (d:α) (f:IntKind → Int → α) (c:CV):α:=X2.rec d f (CV.toI c)
theorem CV.onI_eq (d:α) (f:IntKind → Int → α) (c:CV):CV.onI d f c = match c with | .i a1 a2=>f a1 a2 | _=>d:=by cases c <;> rfl
def CV.toP (c:CV):X2 Id Nat:=CV.rec (motive_1:=fun _=>X2 Id Nat) (motive_2:=fun _=>Unit) .no (fun _=>.no) (fun _ _=>.no) (fun _=>.no) .yes .no (fun _=>.no) (fun _ _ _ _ _=>.no) (fun _=>.no) .no (fun _=>.no) .no (fun _ _ _ _ _=>.no) .no (fun _ _ _=>.no) .no (fun _ _=>.no) (fun _ _=>.no) (fun _=>.no) (fun _=>.no) () (fun _ _ _ _=>()) c
def CV.onP (d:α) (f:Id → Nat → α) (c:CV):α:=X2.rec d f (CV.toP c)
def CV.toSl (c:CV):X5:=CV.rec (motive_1:=fun _=>X5) (motive_2:=fun _=>Unit) .no (fun _=>.no) (fun _ _=>.no) (fun _=>.no) (fun _ _=>.no) .no (fun _=>.no) .yes (fun _=>.no) .no (fun _=>.no) .no (fun _ _ _ _ _=>.no) .no (fun _ _ _=>.no) .no (fun _ _=>.no) (fun _ _=>.no) (fun _=>.no) (fun _=>.no) () (fun _ _ _ _=>()) c
def CV.onSl (d:α) (f:Id → Nat → Nat → Nat → Option Nat → α) (c:CV):α:=X5.rec d f (CV.toSl c)
def CV.toAgg (c:CV):X1 (List CV):=CV.rec (motive_1:=fun _=>X1 (List CV)) (motive_2:=fun _=>Unit) .no (fun _=>.no) (fun _ _=>.no) (fun _=>.no) (fun _ _=>.no) .no (fun _=>.no) (fun _ _ _ _ _=>.no) (fun _=>.no) .no (fun _=>.no) .no (fun _ _ _ _ _=>.no) .no (fun _ _ _=>.no) .no (fun l _=>.yes l) (fun _ _=>.no) (fun _=>.no) (fun _=>.no) () (fun _ _ _ _=>()) c
def CV.onAgg (d:α) (f:List CV → α) (c:CV):α:=X1.rec d f (CV.toAgg c)
def CV.toS (c:CV):X1 (List Nat):=CV.rec (motive_1:=fun _=>X1 (List Nat)) (motive_2:=fun _=>Unit) .no (fun _=>.no) (fun _ _=>.no) .yes (fun _ _=>.no) .no (fun _=>.no) (fun _ _ _ _ _=>.no) (fun _=>.no) .no (fun _=>.no) .no (fun _ _ _ _ _=>.no) .no (fun _ _ _=>.no) .no (fun _ _=>.no) (fun _ _=>.no) (fun _=>.no) (fun _=>.no) () (fun _ _ _ _=>()) c
def CV.onS (d:α) (f:List Nat → α) (c:CV):α:=X1.rec d f (CV.toS c)
def CV.toTup (c:CV):X1 (List CV):=CV.rec (motive_1:=fun _=>X1 (List CV)) (motive_2:=fun _=>Unit) .no (fun _=>.no) (fun _ _=>.no) (fun _=>.no) (fun _ _=>.no) .no (fun _=>.no) (fun _ _ _ _ _=>.no) (fun _=>.no) .no (fun _=>.no) .no (fun _ _ _ _ _=>.no) .no (fun _ _ _=>.no) .no (fun _ _=>.no) (fun l _=>.yes l) (fun _=>.no) (fun _=>.no) () (fun _ _ _ _=>()) c
def CV.onTup (d:α) (f:List CV → α) (c:CV):α:=X1.rec d f (CV.toTup c)
end
inductive G3 where
 | no | un | t | f
def CV.g3 (c:CV):G3:=CV.rec (motive_1:=fun _=>G3) (motive_2:=fun _=>Unit) .un (fun t=>Bool.rec .f .t t) (fun _ _=>.no) (fun _=>.no) (fun _ _=>.no) .no (fun _=>.no) (fun _ _ _ _ _=>.no) (fun _=>.no) .no (fun _=>.no) .no (fun _ _ _ _ _=>.no) .no (fun _ _ _=>.no) .no (fun _ _=>.no) (fun _ _=>.no) (fun _=>.no) (fun _=>.no) () (fun _ _ _ _=>()) c
def CV.oneR (c:CV):Bool:=CV.rec (motive_1:=fun _=>Bool) (motive_2:=fun _=>Unit) false (fun _=>true) (fun _ _=>true) (fun _=>true) (fun _ _=>true) true (fun _=>true) (fun _ _ _ _ _=>true) (fun _=>true) true (fun _=>true) true (fun _ _ _ _ _=>true) true (fun _ _ _=>true) true (fun _ _=>false) (fun _ _=>false) (fun _=>true) (fun _=>true) () (fun _ _ _ _=>()) c
theorem CV.oneR_eq (c:CV):c.oneR = c.one:=by cases c <;> rfl
def byt (l:List Nat):ByteArray:=⟨(l.map UInt8.ofNat).toArray⟩
structure Blk where
 b:Nat
 len:Nat
structure Bk where
 f:Id → Option Blk
 x:Nat → Value
instance:CoeFun Bk (fun _=>Id → Option Blk):=⟨Bk.f⟩
mutual
inductive VR (β:Bk):CV → Value → Prop where
 | u:VR β .u undef
 | b (x:Bool):VR β (.b x) (.bool x)
 | i (k:IntKind) (n:Int):VR β (.i k n) (.int k n)
 | s (l:List Nat) (h:l.all (fun x=>Nat.blt x 256) = true):VR β (.s l) (.string (byt l))
 | p {id:Id} (off:Nat) {x:Blk} (h:β id = some x):VR β (.p id off) (.pointer (some ⟨x.b,off,none⟩))
 | np:VR β .np (.pointer none)
 | g (n:Nat):VR β (.g n) (.pointer (some ⟨n,0,none⟩))
 | sl {id:Id} {off n sz:Nat} {c:Option Nat} {x:Blk} {k:Nat} (h:β id = some x) (hn:n ≤ k) (hc:off + k * sz ≤ x.len) (he:c = none ∨ c = some k):VR β (.sl id off n sz c) (.slice (some ⟨x.b,off,none⟩) n k)
 | z {a:Option Addr} {k:Nat} {c:Option Nat} (he:c = none ∨ c = some k) (hn:a = none → k = 0 ∧ c = none):VR β (.z c) (.slice a 0 k)
 | ns:VR β .ns (.slice none 0 0)
 | m {id:Id} {x:Blk} (h:β id = some x):VR β (.m id) (.map (some x.b))
 | nm:VR β .nm (.map none)
 | fn (f:Pos) {a b:List CV} {va vb:List Value} (ha:VRs β a va) (hb:VRs β b vb):VR β (.fn f a b) (.func (.func (f.nat - 1)) va.toArray vb.toArray)
 | nf:VR β .nf .nilFunc
 | ifc (t:Nat) {x:CV} {v:Value} (h:VR β x v):VR β (.ifc t x) (.iface t v)
 | ni:VR β .ni .nilIface
 | agg {cs:List CV} {vs:List Value} (h1:cs.all CV.one = true) (h:VRs β cs vs):VR β (.agg cs) (.agg vs.toArray)
 | tup {cs:List CV} {vs:List Value} (h:VRs β cs vs):VR β (.tup cs) (.tuple vs.toArray)
 | xi (j:Nat) (h:(β.x j).oneCell' = true):VR β (.xi j) (β.x j)
 | yl {id:Id} {x:Blk} (h:β id = some x):VR β (.yl id) (.func (.yield x.b) #[] #[])
inductive VRs (β:Bk):List CV → List Value → Prop where
 | nil:VRs β [] []
 | cons {c:CV} {v:Value} {cs:List CV} {vs:List Value} (h:VR β c v) (r:VRs β cs vs):VRs β (c :: cs) (v :: vs)
end
structure Bk.le (β β':Bk):Prop where
 f:∀ p x,β p = some x → β' p = some x
 x:β'.x = β.x
instance (β β':Bk):CoeFun (Bk.le β β') (fun _=>∀ p x,β p = some x → β' p = some x):=⟨Bk.le.f⟩
theorem Bk.le_refl (β:Bk):β.le β:=⟨fun _ _ e=>e,rfl⟩
theorem Bk.le_trans {β β' β'':Bk} (a:β.le β') (b:β'.le β''):β.le β'':=⟨fun p x e=>b p x (a p x e),b.x.trans a.x⟩
section
variable {β β' : Bk}
theorem VR.le (l:β.le β') {c:CV} {v:Value} (r:VR β c v):VR β' c v :=
 VR.rec (motive_1:=fun c v _=>VR β' c v) (motive_2:=fun cs vs _=>VRs β' cs vs) .u (fun x=>.b x) (fun k n=>.i k n) (fun l h=>.s l h) (fun off _ h=>.p off (l _ _ h)) .np (fun n=>.g n)
  (fun h hn hc he=>.sl (l _ _ h) hn hc he) (fun he hn=>.z he hn) .ns (fun h=>.m (l _ _ h)) .nm (fun f _ _ _ _ _ _ ha hb=>.fn f ha hb) .nf (fun t _ _ _ h=>.ifc t h) .ni (fun h1 _ h=>.agg h1 h) (fun _ h=>.tup h) (fun j h=>by rw [← l.x] at h ⊢; exact .xi j h) (fun h=>.yl (l _ _ h)) .nil (fun _ _ h r=>.cons h r) r
theorem VRs.le (l:β.le β'):∀ {cs:List CV} {vs:List Value},VRs β cs vs → VRs β' cs vs
 | _,_,.nil=>.nil
 | _,_,.cons h r=>.cons (h.le l) (VRs.le l r)
theorem VRs.len:∀ {cs:List CV} {vs:List Value},VRs β cs vs → vs.length = cs.length
 | _,_,.nil=>rfl
 | _,_,.cons _ r=>by simp [r.len]
theorem VR.one {c:CV} {v:Value} (r:VR β c v) (h1:c.one = true):v.oneCell' = true:=by
 cases r <;> first | rfl | assumption | cases h1
theorem VRs.one:∀ {cs:List CV} {vs:List Value},VRs β cs vs → cs.all CV.one = true → ∀ v ∈ vs,v.oneCell' = true
 | _,_,.nil,_,v,hv=>by cases hv
 | _,_,.cons h r,h1,v,hv=>by
  simp only [List.all_cons,Bool.and_eq_true] at h1
  rcases List.mem_cons.1 hv with rfl | hv
  ·exact h.one h1.1
  ·exact r.one h1.2 v hv
theorem VRs.get:∀ {cs:List CV} {vs:List Value},VRs β cs vs → ∀ {j:Nat} {c:CV},cs[j]? = some c → ∃ v,vs[j]? = some v ∧ VR β c v
 | _,_,.nil,j,c,e=>by simp at e
 | _,_,.cons h r,0,c,e=>by simp at e; subst e; exact ⟨_,rfl,h⟩
 | _,_,.cons h r,j + 1,c,e=>by simpa using r.get (by simpa using e)
theorem VRs.append:∀ {cs:List CV} {vs:List Value} {cs':List CV} {vs':List Value},VRs β cs vs → VRs β cs' vs' → VRs β (cs ++ cs') (vs ++ vs')
 | _,_,_,_,.nil,b=>b
 | _,_,_,_,.cons h r,b=>.cons h (r.append b)
theorem VRs.take:∀ {cs:List CV} {vs:List Value} (n:Nat),VRs β cs vs → VRs β (cs.take n) (vs.take n)
 | _,_,0,_=>by simp; exact .nil
 | _,_,n + 1,.nil=>by simp; exact .nil
 | _,_,n + 1,.cons h r=>by simpa using .cons h (r.take n)
theorem VRs.drop:∀ {cs:List CV} {vs:List Value} (n:Nat),VRs β cs vs → VRs β (cs.drop n) (vs.drop n)
 | _,_,0,r=>by simpa using r
 | _,_,n + 1,.nil=>by simp; exact .nil
 | _,_,n + 1,.cons h r=>by simpa using r.drop n
theorem VRs.split:∀ {cs cs':List CV} {vs:List Value},VRs β (cs ++ cs') vs → ∃ a b,vs = a ++ b ∧ VRs β cs a ∧ VRs β cs' b
 | [],cs',vs,r=>⟨[],vs,rfl,.nil,r⟩
 | c :: cs,cs',_,.cons h r=>by
  obtain ⟨a,b,rfl,ra,rb⟩:=VRs.split (cs:=cs) r
  exact ⟨_ :: a,b,rfl,.cons h ra,rb⟩
theorem VRs.mk:∀ {cs:List CV} {vs:List Value},vs.length = cs.length → (∀ (j:Nat) (c:CV) (v:Value),cs[j]? = some c → vs[j]? = some v → VR β c v) → VRs β cs vs
 | [],[],_,_=>.nil
 | [],_ :: _,h,_=>by simp at h
 | _ :: _,[],h,_=>by simp at h
 | c :: cs,v :: vs,h,k=>.cons (k 0 c v rfl rfl) (VRs.mk (by simpa using h) fun j c v a b=>k (j + 1) c v (by simpa using a) (by simpa using b))
def CV.cells:CV → List CV
 | .agg cs=>cs
 | c=>[c]
theorem VR.cells {c:CV} {v:Value} (r:VR β c v):VRs β c.cells v.cells.toList:=by
 cases r
 case agg h1 h=>simpa [CV.cells,Value.cells] using h
 case xi j h =>
  have hv:(β.x j).cells = #[β.x j]:=by generalize β.x j = v at h; cases v <;> first | rfl | cases h
  rw [hv]
  exact .cons (.xi j h) .nil
 all_goals exact .cons (by first | exact .u | constructor <;> assumption | constructor) .nil
end
def sl0:SL CV:=Pg.all (Pg.all .u)
def TR (β:Bk) (T:SL CV) (Tc:Tm):Prop:=∀ p:Sp,VR β (sget p T) (Tc (p.nat - 1))
theorem TR.le {β β':Bk} {T:SL CV} {Tc:Tm} (r:TR β T Tc) (l:β.le β'):TR β' T Tc:=fun t=>(r t).le l
theorem TR.at {β:Bk} {T:SL CV} {Tc:Tm} (r:TR β T Tc) (p:Sp):VR β (sget p T) (Tc (p.nat - 1)):=r p
theorem TR.put {β:Bk} {T:SL CV} {Tc:Tm} (r:TR β T Tc) (p:Sp) {c:CV} {v:Value} (h:VR β c v):TR β (sset p c T) (upd Tc (p.nat - 1) v):=fun t=>by
 rw [sget_sset]
 unfold upd
 by_cases e:t = p
 ·subst e; rw [if_pos rfl,if_pos rfl]; exact h
 ·rw [if_neg e,if_neg (fun e1=>e (Sp.nat_inj e1))]; exact r t
theorem TR.nil {β:Bk}:TR β sl0 (fun _=>undef):=fun t=>by
 have:sget t sl0 = .u:=by
  obtain ⟨b,a⟩:=t
  show Pg.get a (Pg.get b (Pg.all (Pg.all CV.u))) = _
  rw [Pg.get_all,Pg.get_all]
 rw [this]; exact .u
end Go.Proofs.YtihdpjinaafenaaGreatDoor.Ce

/- Loops over functions: the statement, a round, a call of yield, a function that holds such a loop. -/
namespace Go.Proofs.YtihdpjinaafenaaGreatDoor.Sl
section
variable {P : Program} {N : Nat} {Q : Exit → Tm → Heap → Prop} {T : Tm} {h : Heap} {w : World}
theorem rel_alloc (r:Rel h w) (o:Obj):Rel (h.set w.heap.size o) (w.alloc o):=fun b o' e=>by
 by_cases hb:b = w.heap.size
 ·subst hb; rw [Heap.set_same] at e; cases e; exact heap_alloc_new w o
 ·rw [Heap.set_other _ _ hb] at e; rw [heap_alloc w o b (r.lt e)]; exact r b o' e
theorem rel_alloc_same (r:Rel h w) (o:Obj):Rel h (w.alloc o):=fun b o' e=>by
 rw [heap_alloc w o b (r.lt e)]; exact r b o' e
def Mk (B:Nat) (h:Heap) (w:World) (m:Bool) (D:List Deferred):Prop:=match m with
 | false=>D = []
 | true=>∃ r,D = [{ target:=.collected r,args:=#[] }] ∧ B ≤ r ∧ r < w.heap.size ∧ h r = none ∧ w.heap[r]? = some (.deferred (some []))
theorem Mk.step {B:Nat} {h':Heap} {w':World} {m:Bool} {D:List Deferred} (k:Mk B h w m D) (st:Step h h' w w'):Mk B h' w' m D:=by
 cases m with
 | false=>exact k
 | true =>
  obtain ⟨r,e,h1,h2,h3,h4⟩:=k
  refine ⟨r,e,h1,Nat.lt_of_lt_of_le h2 st.size,?_,(st.keep r h2 h3).trans h4⟩
  cases e1:h' r with
  | none=>rfl
  | some o=>have:=st.fresh r h3 (by rw [e1]; simp); omega
def PostM (N B:Nat) (h:Heap) (w:World) (Q:Exit → Bool → Tm → Heap → Prop) (e:Exit) (a':Act) (w':World):Prop :=
 ∃ m' T' h' D',Q e m' T' h' ∧ Rel h' w' ∧ Step h h' w w' ∧ Reads N T' a' D' ∧ Mk B h' w' m' D'
def SCodeM (P:Program) (N:Nat) (c:Code) (m:Bool) (Q:Exit → Bool → Tm → Heap → Prop) (T:Tm) (h:Heap):Prop :=
 ∀ (B:Nat) (D:List Deferred) (w:World) (a:Act),B ≤ w.heap.size → Rel h w → Reads N T a D → Mk B h w m D → c.wpIn (wideR none) 0 P (PostM N B h w Q) a w
theorem SCodeM.mono {c:Code} {m:Bool} {Q Q':Exit → Bool → Tm → Heap → Prop} (s:SCodeM P N c m Q T h) (i:∀ e m T h,Q e m T h → Q' e m T h):SCodeM P N c m Q' T h :=
 fun B D w a hB r ra k=>wpIn_mono (s B D w a hB r ra k) fun e a' w' ⟨m',T',h',D',q,x⟩=>⟨m',T',h',D',i _ _ _ _ q,x⟩
theorem m_plain {c:Code} {m:Bool} (s:SCode P N c Q T h):SCodeM P N c m (fun e m' T' h'=>m' = m ∧ Q e T' h') T h :=
 fun B D w a hB r ra k=>wpIn_mono (s none D w a r ra) fun e a' w' ⟨T',h',q,r',st,ra'⟩=>⟨m,T',h',D,⟨rfl,q⟩,r',st,ra',k.step st⟩
def thenM (next:Bool → Tm → Heap → Prop) (Q:Exit → Bool → Tm → Heap → Prop):Exit → Bool → Tm → Heap → Prop
 | .normal=>next
 | e=>Q e
def blockM (id:Nat) (Q:Exit → Bool → Tm → Heap → Prop):Exit → Bool → Tm → Heap → Prop
 | .exit i=>if i = id then Q .normal else Q (.exit i)
 | e=>Q e
theorem m_seq {x y:Code} {m:Bool} {Q:Exit → Bool → Tm → Heap → Prop} (s:SCodeM P N x m (thenM (fun m T h=>SCodeM P N y m Q T h) Q) T h):SCodeM P N (.seq x y) m Q T h:=fun B D w a hB r ra k=>by
 refine wpIn_seq (wpIn_mono (s B D w a hB r ra k) ?_)
 rintro e a' w' ⟨m',T',h',D',q,r',st,ra',k'⟩
 cases e with
 | normal=>exact wpIn_mono (q B D' w' a' (Nat.le_trans hB st.size) r' ra' k') fun e a'' w'' ⟨m2,T2,h2,D2,q2,r2,st2,ra2,k2⟩=>⟨m2,T2,h2,D2,q2,r2,st.trans st2,ra2,k2⟩
 | _=>exact ⟨m',T',h',D',q,r',st,ra',k'⟩
theorem m_block {id:Nat} {c:Code} {m:Bool} {Q:Exit → Bool → Tm → Heap → Prop} (s:SCodeM P N c m (blockM id Q) T h):SCodeM P N (.block id c) m Q T h:=fun B D w a hB r ra k=>by
 refine wpIn_block (wpIn_mono (s B D w a hB r ra k) ?_)
 rintro e a' w' ⟨m',T',h',D',q,x⟩
 cases e with
 | exit i =>
  by_cases hi:i = id
  ·simp only [blockM,hi,if_true] at q; simp only [Exit.inBlock,hi,if_true]; exact ⟨m',T',h',D',q,x⟩
  ·simp only [blockM,hi,if_false] at q; simp only [Exit.inBlock,hi,if_false]; exact ⟨m',T',h',D',q,x⟩
 | _=>exact ⟨m',T',h',D',q,x⟩
abbrev loop0 (fn:FuncId) (tmps:Array Value) (ps:Array Tmp) (A Bd:Code) (D:Nat):Loop:={ state:=.ready,pending:=none,fn,tmps,params:=ps,assign:=A,body:=Bd,defers:=D }
theorem m_range {g : Operand} {ps : Array Tmp} {A Bd : Code} {Q : Exit → Bool → Tm → Heap → Prop} {f : FuncId} {fn : Func} {va vb : Array Value} (hg : ev T g = .func (.func f) va vb) (hf : P.funcs[f]? = some fn) (hn : (fn.name == "runtime.NumGoroutine") = false) (hb : fn.body.isNone = false)
  (s:∀ (l k:Nat) (tmps:Array Value) (D:Nat),h l = none → Reads N T { tmps:=tmps,defers:=[] } [] →
   SCalls P f (va ++ #[.func (.yield l) #[] #[]] ++ vb) (h.set l (.loop (loop0 k tmps ps A Bd D))) (fun _ h'=>∃ r:Loop,h' l = some (.loop r) ∧ r.state ≠ .busy ∧ r.pending = none ∧ Q .normal true T (h'.set l (.loop { r with state:=.exhausted })))) :
  SCodeM P N (.rangeFunc g ps A Bd) false Q T h:=by
 intro B D w a hB rl ra hD
 have hD:D = []:=hD
 subst hD
 refine wpIn_rangeFunc fun k _=>?_
 have hdef:a.defers = []:=ra.defers
 obtain ⟨w1,hw1⟩:∃ w1,w.alloc (.deferred (some [])) = w1:=⟨_,rfl⟩
 have hs1:w1.heap.size = w.heap.size + 1:=by rw [← hw1,size_alloc]
 have r1:Rel h w1:=by rw [← hw1]; exact rel_alloc_same rl _
 have hl:h (w.heap.size + 1) = none:=by
  cases e:h (w.heap.size + 1) with
  | none=>rfl
  | some o=>have:=rl.lt e; omega
 have hk:h w.heap.size = none:=by
  cases e:h w.heap.size with
  | none=>rfl
  | some o=>have:=rl.lt e; omega
 obtain ⟨w2,hw2⟩:∃ w2,w1.alloc (.loop (loop0 k a.tmps ps A Bd w.heap.size)) = w2:=⟨_,rfl⟩
 have hs2:w2.heap.size = w.heap.size + 2:=by rw [← hw2,size_alloc,hs1]
 have r2:Rel (h.set (w.heap.size + 1) (.loop (loop0 k a.tmps ps A Bd w.heap.size))) w2:=by
  have:=rel_alloc r1 (.loop (loop0 k a.tmps ps A Bd w.heap.size))
  rw [hs1,hw2] at this; exact this
 have old:∀ b,b < w1.heap.size → w2.heap[b]? = w1.heap[b]?:=fun b hb=>by rw [← hw2]; exact heap_alloc w1 _ b hb
 have old1:∀ b,b < w.heap.size → w1.heap[b]? = w.heap[b]?:=fun b hb=>by rw [← hw1]; exact heap_alloc w _ b hb
 have hmk:w2.heap[w.heap.size]? = some (.deferred (some [])):=(old _ (by omega)).trans (by rw [← hw1]; exact heap_alloc_new w _)
 have st1:Step h (h.set (w.heap.size + 1) (.loop (loop0 k a.tmps ps A Bd w.heap.size))) w w2:=by
  refine ⟨by rw [← hw2,← hw1]; rfl,by rw [← hw2,← hw1]; rfl,by rw [← hw2,← hw1]; rfl,by omega,fun b hb _=>(old b (by omega)).trans (old1 b hb),fun b h1 h2=>?_⟩
  by_cases e:b = w.heap.size + 1
  ·omega
  ·rw [Heap.set_other _ _ e] at h2; exact absurd h1 h2
 have hn' : fn.name ≠ "runtime.NumGoroutine" := by simpa using hn
 have hb':fn.body ≠ none:=by intro e; rw [e] at hb; cases hb
 refine ⟨w.heap.size + 1,[{ target:=.collected w.heap.size,args:=#[] }],w2,{ target:=.fn (.func f) vb,args:=va ++ #[.func (.yield (w.heap.size + 1)) #[] #[]] },w2,f,va ++ #[.func (.yield (w.heap.size + 1)) #[] #[]] ++ vb,w2,?_,?_,fun _ _=>trivial,?_,fun hd=>by simp [wideR] at hd,?_⟩
 ·rw [← hw2,← hw1]; exact run_enterLoop_outer k a.tmps ps A Bd
 ·have hev:a.eval = ev T:=ra.eval
  show (Deferred.ofValue (a.eval g) (#[Operand.const (.func (.yield (w.heap.size + 1)) #[] #[])].map a.eval)).run P w2 = _
  rw [hev,hg]
  simp [Deferred.ofValue,ev]
 ·simp [invoke,callFunc,program,Sem.run,hf,hn',hb']
 ·refine Calls.inR ((s (w.heap.size + 1) k a.tmps w.heap.size hl ⟨ra.size,ra.at_,ra.out,rfl⟩ w2 r2).mono ?_)
  rintro e w3 ⟨v,h3,rfl,⟨r,e3,hst,hpd,hq⟩,r3,st3⟩
  refine ⟨none,w3.putObj (w.heap.size + 1) (.loop { r with state:=.exhausted }),?_,?_⟩
  ·rw [run_endLoop (r3 _ _ e3) hst,hpd]
  ·refine ⟨true,T,_,[{ target:=.collected w.heap.size,args:=#[] }],hq,r3.setObj e3,(st1.trans st3).trans (Step.setObj e3),⟨ra.size,ra.at_,ra.out,by simp [hdef]⟩,?_⟩
   refine Mk.step (w:=w3) (h:=h3) (m:=true) ?_ (Step.setObj e3)
   refine Mk.step (w:=w2) (h:=h.set (w.heap.size + 1) (.loop (loop0 k a.tmps ps A Bd w.heap.size))) (m:=true) ?_ st3
   exact ⟨w.heap.size,rfl,hB,by omega,by rw [Heap.set_other _ _ (by omega)]; exact hk,hmk⟩
theorem s_round {l:Nat} {f:FuncId} {tmps:Array Value} {A Bd:Code} {R:Value → Heap → Prop} (hT:Reads N T { tmps:=tmps,defers:=[] } [])
  (sA:SCode P N A (fun e T1 h1=>e = .normal ∧ ∃ r1:Loop,h1 l = some (.loop r1) ∧ r1.state = .ready ∧
   SCode P N Bd (fun e T2 h2=>e = .normal ∧ ∃ r2:Loop,h2 l = some (.loop r2) ∧ R (.bool true) (h2.set l (.loop { r2 with state:=.ready,pending:=none }))) T1 (h1.set l (.loop { r1 with state:=.busy }))) T h) :
  SRound P l f tmps A Bd h R:=by
 intro w rl
 refine roundIn_of_wpIn (F:=wideR none) trivial (wpIn_mono (sA (some l) [] w _ rl hT) ?_)
 rintro e a1 w1 ⟨T1,h1,⟨rfl,r1,e1,hs,sB⟩,rel1,st1,ra1⟩
 refine ⟨_,run_beginRound (rel1 _ _ e1) hs,wpIn_mono (sB (some l) [] _ _ (rel1.setObj e1) ra1) ?_⟩
 rintro e a2 w2 ⟨T2,h2,⟨rfl,r2,e2,hR⟩,rel2,st2,ra2⟩
 exact ⟨_,_,run_endRound none (rel2 _ _ e2),.bool true,_,rfl,hR,rel2.setObj e2,(st1.trans ((Step.setObj e1).trans st2)).trans (Step.setObj e2)⟩
def setPs (ps:Array Tmp) (vs tmps:Array Value):Array Value:=(ps.zip vs).foldl (fun tmps (t,a)=>tmps.setIfInBounds t a) tmps
def setTs:List (Tmp × Value) → Tm → Tm
 | [],T=>T
 | p :: l,T=>setTs l (upd T p.1 p.2)
theorem reads_setPs {ps:Array Tmp} {vs tmps:Array Value} (hp:∀ t ∈ ps.toList,t < N) (r:Reads N T { tmps:=tmps,defers:=[] } []):Reads N (setTs (ps.toList.zip vs.toList) T) { tmps:=setPs ps vs tmps,defers:=[] } []:=by
 have e:setPs ps vs tmps = (ps.toList.zip vs.toList).foldl (fun tmps p=>tmps.setIfInBounds p.1 p.2) tmps:=by
  unfold setPs
  rw [← Array.foldl_toList,Array.toList_zip]
 rw [e]
 have hz:∀ p ∈ ps.toList.zip vs.toList,p.1 < N:=fun p hpz=>hp _ (List.of_mem_zip hpz).1
 clear e
 generalize ps.toList.zip vs.toList = l at hz
 induction l generalizing T tmps with
 | nil=>exact r
 | cons p l ih =>
  refine ih ?_ fun q hq=>hz q (List.mem_cons_of_mem _ hq)
  have:=r.put (some p.1) (fun t ht=>by cases ht; exact hz p List.mem_cons_self) p.2
  exact this
theorem s_yield {o:Oper} {ρ:Operand → Value} {K:Value → Heap → Prop} {l:Nat} {r:Loop} {x:Operand} {args:Array Operand} {vs:Array Value} {tys:Array TypeId} (ho:o.op = .call ⟨.value x,args,tys⟩) (hr:ρ x = .func (.yield l) #[] #[]) (hl:h l = some (.loop r)) (ha:args.map ρ = vs) (hs:vs.size = r.params.size)
  (c:SRound P l r.fn (setPs r.params vs r.tmps) r.assign r.body h K):SOp P o ρ h K:=by
 intro w rl
 refine .inr ⟨.round l r.fn (setPs r.params vs r.tmps) r.assign r.body,w,?_,rfl,rfl,rfl,rfl,c⟩
 have hy:(Instr.yield l vs).run P w = .ok (.round l r.fn (setPs r.params vs r.tmps) r.assign r.body) w:=run_yield (P:=P) (args:=vs) (rl _ _ hl) hs
 simp [execOp,ho,resolve,hr,Deferred.ofValue,invoke,ha,hy]
def retM (P:Program) (fn:Func) (R:Value → Heap → Prop):Exit → Bool → Tm → Heap → Prop
 | .normal,_,T,h | .ret,_,T,h=>∃ v,Res P fn T h v ∧ R v h
 | _,_,_,_=>False
theorem s_enterM {f:FuncId} {fn:Func} {c:Code} {args:Array Value} {R:Value → Heap → Prop} (hf:P.funcs[f]? = some fn) (hb:fn.body = some c) (hN:args.size ≤ fn.ntmps)
  (s:SCodeM P fn.ntmps c false (retM P fn R) (T0 args) h):SCalls P f args h R:=by
 intro w r
 refine (callsIn_wide (n:=0)).1 (callsIn_of_wp_marks hf hb trivial (wpIn_mono (s w.heap.size [] w _ (Nat.le_refl _) r (reads0 hN) rfl) ?_))
 rintro e a' w' ⟨m',T',h',D',q,r',st,ra',k'⟩
 have fin:∀ v,Res P fn T' h' v → R v h' → LeavesInM Fence.wide 0 P fn a'.tmps (fun e w'=>∃ v h',e = .returned v ∧ R v h' ∧ Rel h' w' ∧ Step h h' w w') a'.defers .returning w':=by
  intro v hr hR
  rw [ra'.defers]
  cases m' with
  | false =>
   have hD:D' = []:=k'
   subst hD
   exact ⟨v,hr [] w' a' r' ra',v,h',rfl,hR,r',st⟩
  | true =>
   obtain ⟨b,rfl,h1,h2,h3,h4⟩:=k'
   have r2:Rel h' (w'.putObj b (.deferred none)):=fun c o e=>by
    rw [World.putObj_heap_other (fun e'=>by rw [e',h3] at e; cases e)]; exact r' c o e
   refine ⟨by simp,.inl ⟨b,_,rfl,run_takeDeferred h4,?_⟩⟩
   refine ⟨v,hr _ _ a' r2 ra',v,h',rfl,hR,r2,⟨st.os,st.tape,st.output,by rw [World.putObj_size]; exact st.size,fun c hc hn=>?_,st.fresh⟩⟩
   rw [World.putObj_heap_other (by omega)]; exact st.keep c hc hn
 cases e with
 | normal=>obtain ⟨v,hr,hR⟩:=q; exact fin v hr hR
 | ret=>obtain ⟨v,hr,hR⟩:=q; exact fin v hr hR
 | _=>exact q.elim
end
end Go.Proofs.YtihdpjinaafenaaGreatDoor.Sl

/- The evaluator's blocks; how they stand to the heap; what turns them. -/
namespace Go.Proofs.YtihdpjinaafenaaGreatDoor.Ce
open Go.Proofs.YtihdpjinaafenaaGreatDoor.Sl
inductive CO where
 | dead (st:Nat)
 | cells (st:Nat) (t:Nat) (cs:List CV)
 | map (st:Nat) (t:Nat) (fl:Bool) (cl:Nat) (es:List (List Int × CV))
 | it (st:Nat) (m:Id) (cl:Nat) (seen:List Nat)
 | it0 (st:Nat)
 | lp (st:Nat) (busy:Bool) (f:Pos) (T:SL CV)
abbrev CH:=Ht CO
def dead3:Pg (Pg (Pg CO)):=Pg.all (Pg.all (Pg.all (.dead 0)))
abbrev ch0:CH:=.e
def CO.st:CO → Nat
 | .dead s | .cells s _ _ | .map s _ _ _ _ | .lp s _ _ _ | .it s _ _ _ | .it0 s=>s
def CO.live:CO → Bool
 | .dead _=>false
 | _=>true
def hget (p:Id) (H:CH):CO:=iget dead3 p H
def hset (p:Id) (o:CO) (H:CH):CH:=iset dead3 p o H
theorem hget_nil (p:Id):hget p ch0 = .dead 0:=by
 obtain ⟨pg,c,b,a⟩:=p
 show Pg.get a (Pg.get b (Pg.get c (Tr.get dead3 pg .e))) = _
 rw [Tr.get_e]
 show Pg.get a (Pg.get b (Pg.get c (Pg.all (Pg.all (Pg.all (CO.dead 0)))))) = _
 rw [Pg.get_all,Pg.get_all,Pg.get_all]
theorem hget_set (p q:Id) (o:CO) (H:CH):hget q (hset p o H) = if q = p then o else hget q H:=iget_iset _ _ _ _ _
theorem hget_same (p:Id) (o:CO) (H:CH):hget p (hset p o H) = o:=by rw [hget_set,if_pos rfl]
theorem hget_ne {p q:Id} (h:q ≠ p) (o:CO) (H:CH):hget q (hset p o H) = hget q H:=by rw [hget_set,if_neg h]
inductive Sh where
 | int (k:IntKind)
 | agg (ks:List IntKind)
def Sh.n:Sh → Nat
 | .int _=>1
 | .agg ks=>ks.length
def zipK:List IntKind → List Int → List Value
 | k :: ks,n :: ns=>.int k n :: zipK ks ns
 | _,_=>[]
abbrev Sh.key (s:Sh):Type:={ l:List Int // l.length = s.n }
def Sh.enc (s:Sh) (l:s.key):Value:=match s with
 | .int k=>.int k (l.1.headD 0)
 | .agg ks=>.agg (zipK ks l.1).toArray
structure Ky (P:Program) where
 ξ:Nat → Value
 sh:TypeId → Option Sh
 law:∀ t s,sh t = some s → ∃ kt et d,P.underlying t = some (.map kt et) ∧ P.underlying kt = some d ∧ KeyLaw P kt s.enc
 /-- By which names package variables go. -/
 gl:Nat → Option Id:=fun _=>none
variable {P : Program}
def MB {κ:Type} (enc:κ → Value) (l:List (κ × Value)):List MapEntry:=l.zipIdx.map fun p=>{ key:=enc p.1.1,val:=p.1.2,born:=p.2 }
def MBn {κ:Type} (enc:κ → Value) (l:List (κ × Value)) (bs:List Nat):List MapEntry:=(l.zip bs).map fun p=>{ key:=enc p.1.1,val:=p.1.2,born:=p.2 }
structure Bs (bs:List Nat) (cl n:Nat):Prop where
 len:bs.length = n
 nd:bs.Nodup
 lt:∀ b ∈ bs,b < cl
theorem MBn_range {κ:Type} (enc:κ → Value) (l:List (κ × Value)):MBn enc l (List.range l.length) = MB enc l:=by
 unfold MBn MB
 rw [List.zipIdx_eq_zip_range',List.range_eq_range']
theorem Bs.range (n:Nat):Bs (List.range n) n n:=⟨List.length_range,List.nodup_range,fun b hb=>List.mem_range.1 hb⟩
def rfC:Code → Option (Array Tmp × Code × Code)
 | .rangeFunc _ ps a b=>some (ps,a,b)
 | .seq x y=>match rfC x with
  | some r=>some r
  | none=>rfC y
 | .block _ x=>rfC x
 | _=>none
def rfP (P:Program) (f:FuncId):Option (Array Tmp × Code × Code):=((P.funcs[f]?).bind (·.body)).bind rfC
def ntP (P:Program) (f:FuncId):Nat:=((P.funcs[f]?).map (·.ntmps)).getD 0
inductive ORp (K:Ky P) (β:Bk) (h:Heap) (x:Blk):CO → Prop where
 | dead (st:Nat):ORp K β h x (.dead st)
 | cells {st t:Nat} {cs:List CV} {vs tl:List Value} (hb:h x.b = some (.cells (vs ++ tl).toArray t (0,0))) (hl:(vs ++ tl).length = x.len) (hr:VRs β cs vs) (h1:cs.all CV.one = true):ORp K β h x (.cells st t cs)
 | map {st t:Nat} {fl:Bool} {cl:Nat} {es:List (List Int × CV)} (s:Sh) (hs:K.sh t = some s) (l:List (s.key × Value)) (bs:List Nat) (hb:h x.b = some (.map (MBn s.enc l bs).toArray cl)) (hbs:Bs bs cl l.length) (hfl:fl = false → bs = List.range l.length ∧ cl = l.length) (n1:Keys1 l) (hk:l.map (fun p=>p.1.1) = es.map (·.1)) (hr:VRs β (es.map (·.2)) (l.map (·.2))):ORp K β h x (.map st t fl cl es)
 | it {st:Nat} {m:Id} {cl:Nat} {seen:List Nat} {y:Blk} (hm:β m = some y) (hb:h x.b = some (.mapIter (some y.b) cl seen.toArray cl)):ORp K β h x (.it st m cl seen)
 | it0 {st:Nat} (hb:h x.b = some (.mapIter none 0 #[] 0)):ORp K β h x (.it0 st)
 | lp {st:Nat} {busy:Bool} {f:Pos} {T:SL CV} {r:Loop} {Tc:Tm} (hb:h x.b = some (.loop r)) (hs:r.state = bif busy then .busy else .ready) (hp:r.pending = none) (hr:rfP P (f.nat - 1) = some (r.params,r.assign,r.body)) (hT:TR β T Tc) (ht:Reads (ntP P (f.nat - 1)) Tc { tmps:=r.tmps,defers:=[] } []):ORp K β h x (.lp st busy f T)
structure HR (K:Ky P) (β:Bk) (H:CH) (n:Id) (ck:Nat) (h:Heap):Prop where
 has:∀ p,(hget p H).live = true → ∃ x,β p = some x
 obj:∀ p x,β p = some x → ORp K β h x (hget p H)
 inj:∀ p q x y,(hget p H).live = true → (hget q H).live = true → β p = some x → β q = some y → x.b = y.b → p = q
 new:∀ p,n.nat ≤ p.nat → β p = none
 ck:∀ p,(hget p H).st ≤ ck
 new0:∀ p,n.nat ≤ p.nat → (hget p H).st = 0
 xs:β.x = K.ξ
 gl:∀ g p,K.gl g = some p → ∃ x,β p = some x ∧ x.b = g
def Keep (β:Bk) (H H':CH) (h h':Heap):Prop:=∀ p x,β p = some x → (hget p H).live = true → (hget p H).st ≤ (hget p H').st ∧ ((hget p H').st = (hget p H).st → hget p H' = hget p H ∧ h' x.b = h x.b)
theorem Keep.refl (β:Bk) (H:CH) (h:Heap):Keep β H H h h:=fun _ _ _ _=>⟨Nat.le_refl _,fun _=>⟨rfl,rfl⟩⟩
theorem Keep.trans {β β':Bk} {H H1 H2:CH} {h h1 h2:Heap} (a:Keep β H H1 h h1) (l:β.le β') (b:Keep β' H1 H2 h1 h2) (m:∀ p,(hget p H1).st ≤ (hget p H2).st):Keep β H H2 h h2:=fun p x e hl=>by
 have ha:=a p x e hl
 refine ⟨Nat.le_trans ha.1 (m p),fun e1=>?_⟩
 have h2:=m p
 obtain ⟨h3,h4⟩:=ha.2 (by omega)
 obtain ⟨h5,h6⟩:=(b p x (l _ _ e) (by rw [h3]; exact hl)).2 (by omega)
 exact ⟨h5.trans h3,h6.trans h4⟩
section
variable {K : Ky P} {β β' : Bk} {H : CH} {n : Id} {ck st : Nat} {h h' : Heap} {x : Blk}
theorem ORp.le (l:β.le β') {o:CO} (r:ORp K β h x o) (e:h' x.b = h x.b):ORp K β' h' x o:=by
 cases r with
 | dead st=>exact .dead st
 | cells hb hl hr h1=>exact .cells (by rw [e]; exact hb) hl (hr.le l) h1
 | map s hs l' bs hb hbs hfl n1 hk hr=>exact .map s hs l' bs (by rw [e]; exact hb) hbs hfl n1 hk (hr.le l)
 | it hm hb=>exact .it (l _ _ hm) (by rw [e]; exact hb)
 | it0 hb=>exact .it0 (by rw [e]; exact hb)
 | lp hb hs hp hr hT ht=>exact .lp (by rw [e]; exact hb) hs hp hr (hT.le l) ht
def Bk.put (β:Bk) (p:Id) (x:Blk):Bk:=⟨fun q=>if q = p then some x else β q,β.x⟩
theorem HR.nn (r:HR K β H n ck h):β n = none:=r.new n (Nat.le_refl _)
theorem HR.put_le (r:HR K β H n ck h) (x:Blk):β.le (β.put n x):=⟨fun p y e=>by
 show (if p = n then some x else β p) = some y
 by_cases hp:p = n
 ·rw [hp,r.nn] at e; cases e
 ·rw [if_neg hp]; exact e,rfl⟩
theorem Bk.put_same (β:Bk) (p:Id) (x:Blk):β.put p x p = some x:=by simp [Bk.put]
theorem ORp.some {o:CO} (r:ORp K β h x o) (hl:o.live = true):h x.b ≠ none:=by
 cases r with
 | dead st=>cases hl
 | cells hb hl hr h1=>rw [hb]; simp
 | map s hs l' bs hb hbs hfl n1 hk hr=>rw [hb]; simp
 | it hm hb=>rw [hb]; simp
 | it0 hb=>rw [hb]; simp
 | lp hb hs hp hr hT ht=>rw [hb]; simp
theorem HR.at_ (r:HR K β H n ck h) (p:Id) (x:Blk) (e:β p = some x) (hl:(hget p H).live = true):h x.b ≠ none:=(r.obj p x e).some hl
theorem ORp.dead_of {o:CO} (hl:o.live = false):ORp K β h x o:=by
 cases o with
 | dead st=>exact .dead st
 | cells _ _ _=>cases hl
 | map _ _ _ _ _=>cases hl
 | it _ _ _ _=>cases hl
 | it0 _=>cases hl
 | lp _ _ _ _=>cases hl
theorem HR.same (r:HR K β H n ck h) (e:∀ p x,β p = some x → (hget p H).live = true → h' x.b = h x.b):HR K β H n ck h' :=
 ⟨r.has,fun p x hx=>by
  cases hl:(hget p H).live with
  | true=>exact (r.obj p x hx).le (Bk.le_refl _) (e p x hx hl)
  | false=>exact .dead_of hl,r.inj,r.new,r.ck,r.new0,r.xs,r.gl⟩
theorem HR.fresh (r:HR K β H n ck h) {b:Nat} (hb:h b = none) (ob:Obj):HR K β H n ck (h.set b ob) ∧ Keep β H H h (h.set b ob):=by
 have e:∀ p x,β p = some x → (hget p H).live = true → (h.set b ob) x.b = h x.b:=fun p x hx hl=>Heap.set_other _ _ fun e1=>r.at_ p x hx hl (by rw [e1]; exact hb)
 exact ⟨r.same e,fun p x hx hl=>⟨Nat.le_refl _,fun _=>⟨rfl,e p x hx hl⟩⟩⟩
theorem HR.alloc (r:HR K β H n ck h) {b:Nat} {ob:Obj} {o:CO} {len:Nat} (hb:h b = none) (ho:ORp K (β.put n ⟨b,len⟩) (h.set b ob) ⟨b,len⟩ o) (hst:o.st ≤ ck):HR K (β.put n ⟨b,len⟩) (hset n o H) n.succ ck (h.set b ob):=by
 have old:∀ p x,β p = some x → p ≠ n ∧ ((hget p H).live = true → x.b ≠ b):=fun p x e=>⟨fun e1=>(by rw [e1,r.nn] at e; cases e),fun hl e1=>r.at_ p x e hl (by rw [e1]; exact hb)⟩
 have inv:∀ p y,β.put n ⟨b,len⟩ p = some y → (p = n ∧ y = ⟨b,len⟩) ∨ (p ≠ n ∧ β p = some y):=fun p y e=>by
  replace e:(if p = n then some ⟨b,len⟩ else β p) = some y:=e
  split at e
  ·rename_i hp; cases e; exact .inl ⟨hp,rfl⟩
  ·rename_i hp; exact .inr ⟨hp,e⟩
 refine ⟨fun p hp=>?_,fun p y e=>?_,fun p q y z hp hq e1 e2 e3=>?_,fun p hp=>?_,fun p=>?_,fun p hp=>?_,r.xs,fun g p e=>(r.gl g p e).imp fun y hy=>⟨r.put_le _ _ _ hy.1,hy.2⟩⟩
 ·by_cases e:p = n
  ·subst e; exact ⟨_,Bk.put_same _ _ _⟩
  ·rw [hget_ne e] at hp
   obtain ⟨y,hy⟩:=r.has p hp
   exact ⟨y,r.put_le _ _ _ hy⟩
 ·rcases inv p y e with ⟨rfl,rfl⟩ | ⟨hne,e⟩
  ·rw [hget_same]; exact ho
  ·rw [hget_ne hne]
   cases hl:(hget p H).live with
   | true=>exact (r.obj p y e).le (r.put_le _) (Heap.set_other _ _ ((old p y e).2 hl))
   | false=>exact .dead_of hl
 ·rcases inv p y e1 with ⟨a1,a2⟩ | ⟨a1,a2⟩ <;> rcases inv q z e2 with ⟨b1,b2⟩ | ⟨b1,b2⟩
  ·rw [a1,b1]
  ·rw [a2] at e3; rw [hget_ne b1] at hq; exact absurd e3.symm ((old q z b2).2 hq)
  ·rw [b2] at e3; rw [hget_ne a1] at hp; exact absurd e3 ((old p y a2).2 hp)
  ·rw [hget_ne a1] at hp; rw [hget_ne b1] at hq; exact r.inj p q y z hp hq a2 b2 e3
 ·rw [Id.nat_succ] at hp
  have hne:p ≠ n:=fun e=>by rw [e] at hp; omega
  show (if p = n then some ⟨b,len⟩ else β p) = none
  rw [if_neg hne]; exact r.new p (by omega)
 ·by_cases e:p = n
  ·subst e; rw [hget_same]; exact hst
  ·rw [hget_ne e]; exact r.ck p
 ·rw [Id.nat_succ] at hp
  have hne:p ≠ n:=fun e=>by rw [e] at hp; omega
  rw [hget_ne hne]; exact r.new0 p (by omega)
theorem HR.alloc_keep (r:HR K β H n ck h) {b:Nat} {ob:Obj} (o:CO) (hb:h b = none):Keep β H (hset n o H) h (h.set b ob):=fun p x e hl=>by
 have hne:p ≠ n:=fun e1=>by rw [e1,r.nn] at e; cases e
 rw [hget_ne hne]
 exact ⟨Nat.le_refl _,fun _=>⟨rfl,Heap.set_other _ _ fun e1=>r.at_ p x e hl (by rw [e1]; exact hb)⟩⟩
theorem Keep.set {p:Id} (hp:(hget p H).st < st) {o:CO} (ho:o.st = st) (e:∀ q y,q ≠ p → β q = some y → (hget q H).live = true → h' y.b = h y.b):Keep β H (hset p o H) h h':=fun q y hy hl=>by
 by_cases hq:q = p
 ·subst hq; rw [hget_same]; exact ⟨by omega,fun e1=>by omega⟩
 ·rw [hget_ne hq]; exact ⟨Nat.le_refl _,fun _=>⟨rfl,e q y hq hy hl⟩⟩
theorem HR.oth (r:HR K β H n ck h) {p:Id} (hx:β p = some x) (hp:(hget p H).live = true):∀ q y,q ≠ p → β q = some y → (hget q H).live = true → y.b ≠ x.b:=fun q y hne e hq e1=>hne (r.inj q p y x hq hp e hx e1)
theorem HR.turn (r:HR K β H n ck h) {p:Id} (hx:β p = some x) (hp:(hget p H).live = true) {ob:Obj} {o:CO} (ho:ORp K β (h.set x.b ob) x o) (hst:o.st = ck + 1):HR K β (hset p o H) n (ck + 1) (h.set x.b ob) ∧ Keep β H (hset p o H) h (h.set x.b ob):=by
 have oth:=r.oth hx hp
 refine ⟨⟨fun q hq=>?_,fun q y e=>?_,fun a c y z ha hc e1 e2 e3=>?_,r.new,fun q=>?_,fun q hq=>?_,r.xs,r.gl⟩,Keep.set (st:=ck + 1) (by have:=r.ck p; omega) hst fun q y hne e hl=>Heap.set_other _ _ (oth q y hne e hl)⟩
 ·by_cases e:q = p
  ·subst e; exact ⟨_,hx⟩
  ·rw [hget_ne e] at hq; exact r.has q hq
 ·by_cases e1:q = p
  ·subst e1; rw [hx] at e; cases e; rw [hget_same]; exact ho
  ·rw [hget_ne e1]
   cases hl:(hget q H).live with
   | true=>exact (r.obj q y e).le (Bk.le_refl _) (Heap.set_other _ _ (oth q y e1 e hl))
   | false=>exact .dead_of hl
 ·have hl:∀ q,(hget q (hset p o H)).live = true → (hget q H).live = true:=fun q hq=>by
   by_cases e:q = p
   ·subst e; exact hp
   ·rw [hget_ne e] at hq; exact hq
  exact r.inj a c y z (hl a ha) (hl c hc) e1 e2 e3
 ·by_cases e:q = p
  ·subst e; rw [hget_same]; omega
  ·rw [hget_ne e]; exact Nat.le_succ_of_le (r.ck q)
 ·have hne:q ≠ p:=fun e=>by rw [e] at hq; rw [r.new p hq] at hx; cases hx
  rw [hget_ne hne]; exact r.new0 q hq
theorem HR.moved (r:HR K β H n ck h) {p:Id} (hx:β p = some x) (hp:(hget p H).live = true) {y:Blk} (hy:y.b = x.b ∨ h y.b = none) {o:CO} (hst:o.st = ck + 1) (ho:ORp K (β.put n y) h' y o) (same:∀ b ob,h b = some ob → b ≠ x.b → h' b = some ob) :
  HR K (β.put n y) (hset n o (hset p (.dead (ck + 1)) H)) n.succ (ck + 1) h' ∧ Keep β H (hset n o (hset p (.dead (ck + 1)) H)) h h':=by
 have oth:=r.oth hx hp
 have hpn:p ≠ n:=fun e1=>by rw [e1,r.nn] at hx; cases hx
 have kp:∀ q z,q ≠ p → β q = some z → (hget q H).live = true → h' z.b = h z.b:=fun q z hne e hl=>by
  cases e1:h z.b with
  | none=>exact absurd e1 (r.at_ q z e hl)
  | some ob=>exact same _ _ e1 (oth q z hne e hl)
 have inv:∀ q z,β.put n y q = some z → (q = n ∧ z = y) ∨ (q ≠ n ∧ β q = some z):=fun q z e=>by
  replace e:(if q = n then some y else β q) = some z:=e
  split at e
  ·rename_i hq; cases e; exact .inl ⟨hq,rfl⟩
  ·rename_i hq; exact .inr ⟨hq,e⟩
 have lv:∀ q,q ≠ n → (hget q (hset n o (hset p (.dead (ck + 1)) H))).live = true → q ≠ p ∧ (hget q H).live = true:=fun q hq hl=>by
  rw [hget_ne hq] at hl
  by_cases e:q = p
  ·subst e; rw [hget_same] at hl; cases hl
  ·rw [hget_ne e] at hl; exact ⟨e,hl⟩
 have yne:∀ q z,q ≠ p → β q = some z → (hget q H).live = true → z.b ≠ y.b:=fun q z hne e hl e1=>by
  rcases hy with hy | hy
  ·exact oth q z hne e hl (e1.trans hy)
  ·exact r.at_ q z e hl (by rw [e1]; exact hy)
 refine ⟨⟨fun q hq=>?_,fun q z e=>?_,fun a c z w ha hc e1 e2 e3=>?_,fun q hq=>?_,fun q=>?_,fun q hq=>?_,r.xs,fun g p e=>(r.gl g p e).imp fun w hw=>⟨r.put_le _ _ _ hw.1,hw.2⟩⟩,fun q z e hl=>?_⟩
 ·by_cases e:q = n
  ·subst e; exact ⟨_,Bk.put_same _ _ _⟩
  ·obtain ⟨z,hz⟩:=r.has q (lv q e hq).2
   exact ⟨z,r.put_le _ _ _ hz⟩
 ·rcases inv q z e with ⟨rfl,rfl⟩ | ⟨hne,e⟩
  ·rw [hget_same]; exact ho
  ·rw [hget_ne hne]
   by_cases e1:q = p
   ·subst e1; rw [hget_same]; exact .dead _
   ·rw [hget_ne e1]
    cases hl:(hget q H).live with
    | true=>exact (r.obj q z e).le (r.put_le _) (kp q z e1 e hl)
    | false=>exact .dead_of hl
 ·rcases inv a z e1 with ⟨a1,a2⟩ | ⟨a1,a2⟩ <;> rcases inv c w e2 with ⟨b1,b2⟩ | ⟨b1,b2⟩
  ·rw [a1,b1]
  ·obtain ⟨h1,h2⟩:=lv c b1 hc
   rw [a2] at e3; exact absurd e3.symm (yne c w h1 b2 h2)
  ·obtain ⟨h1,h2⟩:=lv a a1 ha
   rw [b2] at e3; exact absurd e3 (yne a z h1 a2 h2)
  ·exact r.inj a c z w (lv a a1 ha).2 (lv c b1 hc).2 a2 b2 e3
 ·rw [Id.nat_succ] at hq
  have hne:q ≠ n:=fun e=>by rw [e] at hq; omega
  show (if q = n then some y else β q) = none
  rw [if_neg hne]; exact r.new q (by omega)
 ·by_cases e:q = n
  ·subst e; rw [hget_same]; omega
  ·rw [hget_ne e]
   by_cases e1:q = p
   ·subst e1; rw [hget_same]; exact Nat.le_refl _
   ·rw [hget_ne e1]; exact Nat.le_succ_of_le (r.ck q)
 ·rw [Id.nat_succ] at hq
  have hne:q ≠ n:=fun e=>by rw [e] at hq; omega
  have hne2:q ≠ p:=fun e=>by
   rw [e] at hq
   rw [r.new p (by omega)] at hx; cases hx
  rw [hget_ne hne,hget_ne hne2]; exact r.new0 q (by omega)
 ·have hne:q ≠ n:=fun e1=>by rw [e1,r.nn] at e; cases e
  rw [hget_ne hne]
  by_cases e1:q = p
  ·subst e1; rw [hget_same]
   have:=r.ck q
   exact ⟨by show _ ≤ ck + 1; omega,fun e2=>by change ck + 1 = _ at e2; omega⟩
  ·rw [hget_ne e1]; exact ⟨Nat.le_refl _,fun _=>⟨rfl,kp q z e1 e hl⟩⟩
end
end Go.Proofs.YtihdpjinaafenaaGreatDoor.Ce
