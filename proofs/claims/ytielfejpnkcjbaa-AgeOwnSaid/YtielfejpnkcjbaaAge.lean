/- The table of what was heard, in memory. -/
import Derived.Test.YtielfejpnkcjbaaMapsC
import Derived.Test.YtielfejpnkcjbaaTrie
set_option linter.unusedVariables false
set_option linter.unusedSimpArgs false
namespace Go.Proofs.Ytielfejpnkcjbaa
open Sl
abbrev ThK := (Int × Int × Int) × (Int × Int)
def thV (k : ThK) : Value := .agg #[.int .i64 k.1.1, .int .i64 k.1.2.1, .int .u32 k.1.2.2, .int .u32 k.2.1, .int .u32 k.2.2]
structure MsgA where
  kind : Int
  frm : Int
  to : Int
  src : Int
  grp : Int
  rank : Int
  cost : Int
  only : Bool
  srcs : List Int
def msgV (m : MsgA) (sv : Value) : Value := .agg #[.int .i64 m.kind, .int .u32 m.frm, .int .u32 m.to, .int .u32 m.src, .int .u32 m.grp, .int .i64 m.rank, .int .i64 m.cost, .bool m.only, sv]
def entV (k : ThK) (age : Int) (m : MsgA) (sv : Value) : Value := .agg #[.int .i64 k.1.1, .int .i64 k.1.2.1, .int .u32 k.1.2.2, .int .u32 k.2.1, .int .u32 k.2.2, .int .i64 age, .int .i64 m.kind, .int .u32 m.frm, .int .u32 m.to, .int .u32 m.src, .int .u32 m.grp, .int .i64 m.rank, .int .i64 m.cost, .bool m.only, sv]
/-- An entry, with where its list lies, and its birth. -/
structure Rc where
  key : ThK
  age : Int
  msg : MsgA
  sv : Value
  born : Nat
def Rc.ey (r : Rc) : Ey ThK := ⟨r.key, entV r.key r.age r.msg r.sv, r.born⟩
structure AT where
  key : ThK
  age : Int
  msg : MsgA
def Rc.t (r : Rc) : AT := ⟨r.key, r.age, r.msg⟩
structure RowD (h : Heap) (D : Nat → Prop) (r : Rc) : Prop where
  cells : Cells h 1 r.sv r.msg.srcs.length (r.msg.srcs.map (.int .u32))
  blk : ∀ b, blockOf r.sv = some b → D b
  len : r.msg.srcs.length ≤ 1000000
  one : r.sv.oneCell' = true
  age0 : 0 ≤ r.age
  age3 : r.age ≤ 3
structure TableAt (h : Heap) (D : Nat → Prop) (p : Nat) (ts : List AT) : Prop where
  out : ∃ (mv : Value) (ty : TypeId), h p = some (.cells #[mv] ty (0, 0)) ∧ D p ∧ ((mv = .map none ∧ ts = []) ∨ ∃ (mb : Nat) (rs : List Rc) (cl : Nat), mv = .map (some mb) ∧ D mb ∧ IsMapN h mb thV (rs.map Rc.ey) cl ∧ ts = rs.map Rc.t ∧ ∀ r ∈ rs, RowD h D r)
  dom : ∀ b, D b → h b ≠ none
theorem thing_key : KeyLaw Try.prog 57 thV where
  now := by
    intro d hd
    rw [Try.underlying57] at hd
    cases hd
    exact .inr fun _ _ => rfl
  eq := by
    intro k k' w
    refine run_eqv 10000 _ _ _ _ w ?_
    obtain ⟨⟨a1, a2, a3⟩, a4, a5⟩ := k
    obtain ⟨⟨b1, b2, b3⟩, b4, b5⟩ := k'
    have h52 : Try.prog.cellsOf 52 = 2 := by kernel_rfl
    simp [eqv, eqvFields, partV, thV, h52]
    rw [Bool.eq_iff_iff]; simp; omega
  check := fun emp k w => run_ckv 10000 _ _ emp w (by
    have h52 : Try.prog.cellsOf 52 = 2 := by kernel_rfl
    simp [ckv, ckvF, partV, thV, h52])
  bits := by intro k; simp [Instr.sameBits, thV]
theorem RowD.only {h h' : Heap} {D : Nat → Prop} {r : Rc} (x : RowD h D r) (e : ∀ b o, D b → h b = some o → (∀ es cl, o ≠ .map es cl) → h' b = some o) : RowD h' D r := by
  refine ⟨?_, x.blk, x.len, x.one, x.age0, x.age3⟩
  have hc := x.cells
  have hb := x.blk
  generalize r.sv = v at hc hb ⊢
  generalize r.msg.srcs.map (Value.int .u32) = cs at hc ⊢
  generalize r.msg.srcs.length = n at hc ⊢
  cases hc with
  | zero a c => exact .zero a c
  | at_ h1 hl hnc hc => exact .at_ (e _ _ (hb _ rfl) h1 (by intros; simp)) hl hnc hc
/-! ### Ticks -/
def gone (r : Rc) : Bool := decide (r.age + 1 > 3)
def tickR (r : Rc) : Option Rc := if gone r then none else some { r with age := r.age + 1 }
/-- What is there when the entries born in 'seen' have been ticked. -/
def midR (seen : List Nat) (r : Rc) : Option Rc := if r.born ∈ seen then tickR r else some r
def mids (rs : List Rc) (seen : List Nat) : List Rc := rs.filterMap (midR seen)
def goneN (rs : List Rc) (seen : List Nat) : Nat := (rs.filter fun r => decide (r.born ∈ seen) && gone r).length
theorem goneN_nil (rs : List Rc) : goneN rs [] = 0 := by
  unfold goneN
  induction rs with
  | nil => rfl
  | cons r rs ih => rw [List.filter_cons]; simp only [List.not_mem_nil, decide_false, Bool.false_and, Bool.false_eq_true, if_false] at ih ⊢; exact ih
theorem midR_same {seen : List Nat} {r y : Rc} (h : midR seen r = some y) : y.key = r.key ∧ y.born = r.born ∧ y.msg = r.msg ∧ y.sv = r.sv ∧ (r.born ∉ seen → y = r) := by
  unfold midR at h
  split at h
  · unfold tickR at h
    split at h
    · cases h
    · cases h; rename_i h1 _; exact ⟨rfl, rfl, rfl, rfl, fun h2 => absurd h1 h2⟩
  · cases h; exact ⟨rfl, rfl, rfl, rfl, fun _ => rfl⟩
theorem mids_nil (rs : List Rc) : mids rs [] = rs := by
  unfold mids
  induction rs with
  | nil => rfl
  | cons r rs ih => rw [List.filterMap_cons]; simp [midR]; exact ih
theorem mids_at {rs : List Rc} {seen : List Nat} {e : Ey ThK} (he : e ∈ (mids rs seen).map Rc.ey) (hs : e.born ∉ seen) : ∃ r ∈ rs, e = r.ey ∧ r.born ∉ seen := by
  obtain ⟨y, hy, rfl⟩ := List.mem_map.1 he
  obtain ⟨r, hr, h1⟩ := List.mem_filterMap.1 hy
  obtain ⟨_, h2, _, _, h3⟩ := midR_same h1
  have hs' : r.born ∉ seen := by rw [← h2]; exact hs
  exact ⟨r, hr, by rw [h3 hs'], hs'⟩
theorem filter_mid {f f' : Rc → Option Rc} {p : Rc → Bool} : ∀ {rs : List Rc}, (∀ x ∈ rs, f' x = (f x).filter p) → (rs.filterMap f).filter p = rs.filterMap f'
  | [], _ => rfl
  | r :: rs, h => by
    have ih := filter_mid (rs := rs) (f := f) (f' := f') (p := p) (fun x hx => h x (by simp [hx]))
    have h0 := h r (by simp)
    rw [List.filterMap_cons, List.filterMap_cons, h0]
    cases f r with
    | none => simpa using ih
    | some y =>
      cases hp : p y with
      | true => simp [Option.filter, hp, ih]
      | false => simp [Option.filter, hp, ih]
theorem map_mid {f f' : Rc → Option Rc} {g : Rc → Rc} {rs : List Rc} (h : ∀ x ∈ rs, f' x = (f x).map g) : (rs.filterMap f).map g = rs.filterMap f' := by
  induction rs with
  | nil => rfl
  | cons r rs ih =>
    have ih := ih (fun x hx => h x (by simp [hx]))
    rw [List.filterMap_cons, List.filterMap_cons, h r (by simp)]
    cases f r with
    | none => simpa using ih
    | some y => simp [ih]
theorem fm_congr {f g : Rc → Option Rc} {rs : List Rc} (h : ∀ x ∈ rs, f x = g x) : rs.filterMap f = rs.filterMap g := by
  induction rs with
  | nil => rfl
  | cons r rs ih => rw [List.filterMap_cons, List.filterMap_cons, h r (by simp), ih (fun x hx => h x (by simp [hx]))]
theorem uniq_born {rs : List Rc} (nd : (rs.map (·.born)).Nodup) {r x : Rc} (hr : r ∈ rs) (hx : x ∈ rs) (e : x.born = r.born) : x = r := by
  induction rs with
  | nil => cases hr
  | cons a rs ih =>
    simp only [List.map_cons, List.nodup_cons] at nd
    rcases List.mem_cons.1 hr with hr2 | hr2 <;> rcases List.mem_cons.1 hx with hx2 | hx2
    · rw [hr2, hx2]
    · exact absurd (List.mem_map.2 ⟨x, hx2, by rw [e, hr2]⟩) nd.1
    · exact absurd (List.mem_map.2 ⟨r, hr2, by rw [← e, hx2]⟩) nd.1
    · exact ih nd.2 hr2 hx2
theorem uniq_key {rs : List Rc} (nd : (rs.map (·.key)).Nodup) {r x : Rc} (hr : r ∈ rs) (hx : x ∈ rs) (e : x.key = r.key) : x = r := by
  induction rs with
  | nil => cases hr
  | cons a rs ih =>
    simp only [List.map_cons, List.nodup_cons] at nd
    rcases List.mem_cons.1 hr with hr2 | hr2 <;> rcases List.mem_cons.1 hx with hx2 | hx2
    · rw [hr2, hx2]
    · exact absurd (List.mem_map.2 ⟨x, hx2, by rw [e, hr2]⟩) nd.1
    · exact absurd (List.mem_map.2 ⟨r, hr2, by rw [← e, hx2]⟩) nd.1
    · exact ih nd.2 hr2 hx2
section
variable {rs : List Rc} {seen : List Nat} {r : Rc}
theorem mid_del (nb : (rs.map (·.born)).Nodup) (nk : (rs.map (·.key)).Nodup) (hr : r ∈ rs) (hs : r.born ∉ seen) (hg : gone r = true) : delN ((mids rs seen).map Rc.ey) r.key = (mids rs (seen ++ [r.born])).map Rc.ey := by
  have h1 : delN ((mids rs seen).map Rc.ey) r.key = ((mids rs seen).filter fun y => !decide (y.key = r.key)).map Rc.ey := by
    unfold delN; rw [List.filter_map]; rfl
  rw [h1]
  congr 1
  refine filter_mid fun x hx => ?_
  by_cases hxr : x.born = r.born
  · have := uniq_born nb hr hx hxr
    subst this
    have e1 : midR seen x = some x := by simp [midR, hs]
    have e2 : midR (seen ++ [x.born]) x = none := by simp [midR, tickR, hg]
    rw [e1, e2]; simp [Option.filter]
  · have e1 : midR (seen ++ [r.born]) x = midR seen x := by simp [midR, hxr]
    rw [e1]
    cases hm : midR seen x with
    | none => rfl
    | some y =>
      have hk : y.key ≠ r.key := fun e => by
        rw [(midR_same hm).1] at e
        exact hxr (by rw [uniq_key nk hr hx e])
      simp [Option.filter, hk]
theorem mid_set (nb : (rs.map (·.born)).Nodup) (nk : (rs.map (·.key)).Nodup) (hr : r ∈ rs) (hs : r.born ∉ seen) (hg : gone r = false) : setN ((mids rs seen).map Rc.ey) r.key (entV r.key (r.age + 1) r.msg r.sv) = (mids rs (seen ++ [r.born])).map Rc.ey := by
  have h1 : setN ((mids rs seen).map Rc.ey) r.key (entV r.key (r.age + 1) r.msg r.sv) = ((mids rs seen).map fun y => if y.key = r.key then { r with age := r.age + 1 } else y).map Rc.ey := by
    unfold setN
    rw [List.map_map, List.map_map]
    apply List.map_congr_left
    intro y hy
    obtain ⟨x, hx, hm⟩ := List.mem_filterMap.1 hy
    simp only [Function.comp]
    by_cases hk : y.key = r.key
    · have hk2 : x.key = r.key := by rw [← (midR_same hm).1]; exact hk
      have := uniq_key nk hr hx hk2
      subst this
      have := (midR_same hm).2.2.2.2 hs
      subst this
      simp [Rc.ey]
    · rw [if_neg hk, if_neg (by simpa [Rc.ey] using hk)]
  rw [h1]
  congr 1
  refine map_mid fun x hx => ?_
  by_cases hxr : x.born = r.born
  · have := uniq_born nb hr hx hxr
    subst this
    have e1 : midR seen x = some x := by simp [midR, hs]
    have e2 : midR (seen ++ [x.born]) x = some { x with age := x.age + 1 } := by simp [midR, tickR, hg]
    rw [e1, e2]; simp
  · have e1 : midR (seen ++ [r.born]) x = midR seen x := by simp [midR, hxr]
    rw [e1]
    cases hm : midR seen x with
    | none => rfl
    | some y =>
      have hk : y.key ≠ r.key := fun e => by
        rw [(midR_same hm).1] at e
        exact hxr (by rw [uniq_key nk hr hx e])
      simp [hk]
theorem gone_step (nb : (rs.map (·.born)).Nodup) (hr : r ∈ rs) (hs : r.born ∉ seen) : goneN rs (seen ++ [r.born]) = goneN rs seen + if gone r then 1 else 0 := by
  unfold goneN
  induction rs with
  | nil => cases hr
  | cons a rs ih =>
    simp only [List.map_cons, List.nodup_cons] at nb
    rcases List.mem_cons.1 hr with rfl | hr
    · have hrest : (rs.filter fun x => decide (x.born ∈ seen ++ [r.born]) && gone x) = rs.filter fun x => decide (x.born ∈ seen) && gone x := by
        apply List.filter_congr
        intro x hx
        have : x.born ≠ r.born := fun e => nb.1 (List.mem_map.2 ⟨x, hx, e⟩)
        simp [this]
      rw [List.filter_cons, List.filter_cons, hrest]
      cases hg : gone r <;> simp [hs]
    · have hne : a.born ≠ r.born := fun e => nb.1 (List.mem_map.2 ⟨r, hr, e.symm⟩)
      have ih := ih nb.2 hr
      rw [List.filter_cons, List.filter_cons]
      simp only [List.mem_append, List.mem_singleton, hne, or_false] at ih ⊢
      split
      · simp only [List.length_cons, ih]; omega
      · exact ih
end
theorem mids_all {rs : List Rc} {seen : List Nat} (h : ∀ e ∈ (mids rs seen).map Rc.ey, e.born ∈ seen) : mids rs seen = rs.filterMap tickR ∧ goneN rs seen = (rs.filter gone).length := by
  have hin : ∀ r ∈ rs, r.born ∈ seen := by
    intro r hr
    by_cases hs : r.born ∈ seen
    · exact hs
    · exact h r.ey (List.mem_map.2 ⟨r, List.mem_filterMap.2 ⟨r, hr, by simp [midR, hs]⟩, rfl⟩)
  constructor
  · unfold mids
    refine fm_congr fun r hr => ?_
    simp [midR, hin r hr]
  · unfold goneN
    congr 1
    apply List.filter_congr
    intro r hr
    simp [hin r hr]
end Go.Proofs.Ytielfejpnkcjbaa
