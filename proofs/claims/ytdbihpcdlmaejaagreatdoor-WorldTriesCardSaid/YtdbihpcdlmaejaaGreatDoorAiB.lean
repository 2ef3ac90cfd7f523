/- An evaluator for the model's code, proved sound: part AiB. Not of one program: lemmas for the claim. -/
import Derived.Test.YtdbihpcdlmaejaaGreatDoorAiA
import Derived.Calls
import Derived.MapKept
import Derived.Laws.Sem
import Derived.Laws.Cells
import Derived.Laws.Strings
/- What an abstract value, an abstract heap stand for in a world. -/
namespace Go.Ai
open Go

/-- where a block lies: the world's block, the place of its first cell, how many cells there are from there, the cells of one element -/
structure L where
  cb : Nat
  base : Nat
  size : Nat
  e : Nat

abbrev Loc := Nat → Option L

/-- one cell's value -/
def oneCell (v : Value) : Bool :=
  match v with
  | .agg _ | .tuple _ => false
  | _ => true


mutual
inductive Rep (loc : Loc) : AVal → Value → Prop
  | bool (b : Bool) : Rep loc (.bool b) (.bool b)
  | int (k : IntKind) (n : Int) : Rep loc (.int k n) (.int k n)
  | str (s : List UInt8) : Rep loc (.str s) (.string ⟨s.toArray⟩)
  | ptr (b off : Nat) (l : L) (h : loc b = some l) : Rep loc (.ptr b off) (.pointer (some ⟨l.cb, l.base + off, none⟩))
  | nilp : Rep loc .nilp (.pointer none)
  | sl (b off len cap e c : Nat) (l : L) (h : loc b = some l) (hc : cap ≤ c) (hz : l.e ≠ 0 → l.e = e ∧ off + c * e ≤ l.size) : Rep loc (.sl b off len cap e) (.slice (some ⟨l.cb, l.base + off, none⟩) len c)
  | sl0 (b off e : Nat) (a : Addr) (l : L) (h : loc b = some l) : Rep loc (.sl b off 0 0 e) (.slice (some a) 0 0)
  | nils : Rep loc .nils (.slice none 0 0)
  | mp (b : Nat) (l : L) (h : loc b = some l) : Rep loc (.mp b) (.map (some l.cb))
  | nilm : Rep loc .nilm (.map none)
  | fn (f : FuncId) (a c : List AVal) (a' c' : List Value) (ha : RepL loc a a') (hc : RepL loc c c') : Rep loc (.fn f a c) (.func (.func f) a'.toArray c'.toArray)
  | nilf : Rep loc .nilf .nilFunc
  | ifc (t : TypeId) (v : AVal) (v' : Value) (hv : Rep loc v v') : Rep loc (.ifc t v) (.iface t v')
  | nili : Rep loc .nili .nilIface
  | agg (cs : List AVal) (cs' : List Value) (hc : RepL loc cs cs') : Rep loc (.agg cs) (.agg cs'.toArray)
  | tup (cs : List AVal) (cs' : List Value) (hc : RepL loc cs cs') : Rep loc (.tup cs) (.tuple cs'.toArray)
  | yld (l : Nat) : Rep loc (.yld l) (.func (.yield l) #[] #[])
inductive RepL (loc : Loc) : List AVal → List Value → Prop
  | nil : RepL loc [] []
  | cons (v : AVal) (v' : Value) (r : List AVal) (r' : List Value) (h : Rep loc v v') (hr : RepL loc r r') : RepL loc (v :: r) (v' :: r')
end

def LocLe (loc loc' : Loc) : Prop := ∀ b l, loc b = some l → loc' b = some l

theorem LocLe.refl (loc : Loc) : LocLe loc loc := fun _ _ h => h
theorem LocLe.trans {a b c : Loc} (h : LocLe a b) (k : LocLe b c) : LocLe a c := fun x l e => k x l (h x l e)

mutual
theorem Rep.mono {loc loc' : Loc} (hle : LocLe loc loc') : ∀ {v : AVal} {v' : Value}, Rep loc v v' → Rep loc' v v'
  | _, _, .bool b => .bool b
  | _, _, .int k n => .int k n
  | _, _, .str s => .str s
  | _, _, .ptr b off l h => .ptr b off l (hle b l h)
  | _, _, .nilp => .nilp
  | _, _, .sl b off len cap e c l h hc hz => .sl b off len cap e c l (hle b l h) hc hz
  | _, _, .sl0 b off e a l h => .sl0 b off e a l (hle b l h)
  | _, _, .nils => .nils
  | _, _, .mp b l h => .mp b l (hle b l h)
  | _, _, .nilm => .nilm
  | _, _, .fn f a c a' c' ha hc => .fn f a c a' c' (ha.mono hle) (hc.mono hle)
  | _, _, .nilf => .nilf
  | _, _, .ifc t v v' hv => .ifc t v v' (hv.mono hle)
  | _, _, .nili => .nili
  | _, _, .agg cs cs' hc => .agg cs cs' (hc.mono hle)
  | _, _, .tup cs cs' hc => .tup cs cs' (hc.mono hle)
  | _, _, .yld l => .yld l
theorem RepL.mono {loc loc' : Loc} (hle : LocLe loc loc') : ∀ {v : List AVal} {v' : List Value}, RepL loc v v' → RepL loc' v v'
  | _, _, .nil => .nil
  | _, _, .cons v v' r r' h hr => .cons v v' r r' (h.mono hle) (hr.mono hle)
end

theorem Rep.undef {loc : Loc} : Rep loc undef Go.undef := .tup [] [] .nil

theorem RepL.length {loc : Loc} : ∀ {v : List AVal} {v' : List Value}, RepL loc v v' → v.length = v'.length
  | _, _, .nil => rfl
  | _, _, .cons _ _ _ _ _ hr => by simp [hr.length]

theorem RepL.append {loc : Loc} : ∀ {a : List AVal} {a' : List Value}, RepL loc a a' → ∀ {b : List AVal} {b' : List Value}, RepL loc b b' → RepL loc (a ++ b) (a' ++ b')
  | _, _, .nil, _, _, hb => hb
  | _, _, .cons v v' r r' h hr, _, _, hb => .cons v v' _ _ h (hr.append hb)

theorem RepL.get {loc : Loc} : ∀ {a : List AVal} {a' : List Value}, RepL loc a a' → ∀ (i : Nat) (v : AVal), a[i]? = some v → ∃ v', a'[i]? = some v' ∧ Rep loc v v'
  | _, _, .nil, _, _, h => by simp at h
  | _, _, .cons v v' r r' h hr, 0, w, e => by simp at e; subst e; exact ⟨v', rfl, h⟩
  | _, _, .cons v v' r r' h hr, i + 1, w, e => by simp at e; obtain ⟨x, hx, hr⟩ := hr.get i w e; exact ⟨x, by simpa using hx, hr⟩

theorem RepL.get' {loc : Loc} : ∀ {a : List AVal} {a' : List Value}, RepL loc a a' → ∀ (i : Nat) (v' : Value), a'[i]? = some v' → ∃ v, a[i]? = some v ∧ Rep loc v v'
  | _, _, .nil, _, _, h => by simp at h
  | _, _, .cons v v' r r' h hr, 0, w, e => by simp at e; subst e; exact ⟨v, rfl, h⟩
  | _, _, .cons v v' r r' h hr, i + 1, w, e => by simp at e; obtain ⟨x, hx, hr⟩ := hr.get' i w e; exact ⟨x, by simpa using hx, hr⟩

theorem RepL.take {loc : Loc} : ∀ {a : List AVal} {a' : List Value}, RepL loc a a' → ∀ n, RepL loc (a.take n) (a'.take n)
  | _, _, .nil, n => by simp; exact .nil
  | _, _, .cons v v' r r' h hr, 0 => by simp; exact .nil
  | _, _, .cons v v' r r' h hr, n + 1 => by simp; exact .cons _ _ _ _ h (hr.take n)

theorem RepL.drop {loc : Loc} : ∀ {a : List AVal} {a' : List Value}, RepL loc a a' → ∀ n, RepL loc (a.drop n) (a'.drop n)
  | _, _, .nil, n => by simp; exact .nil
  | _, _, .cons v v' r r' h hr, 0 => by simp; exact .cons _ _ _ _ h hr
  | _, _, .cons v v' r r' h hr, n + 1 => by simp; exact hr.drop n

theorem RepL.over {loc : Loc} {a b : List AVal} {a' b' : List Value} (h : RepL loc a a') (k : RepL loc b b') (off : Nat) : RepL loc (over a off b) (a'.take off ++ (b' ++ a'.drop (off + b'.length))) := by
  unfold Ai.over
  rw [k.length]
  exact (h.take off).append (k.append (h.drop _))

theorem Rep.cells {loc : Loc} {v : AVal} {v' : Value} (h : Rep loc v v') : RepL loc (cellsOf v) v'.cells.toList := by
  cases h with
  | agg cs cs' hc => simpa [cellsOf, Value.cells] using hc
  | _ => simp only [cellsOf, Value.cells]; exact .cons _ _ _ _ (by constructor <;> assumption) .nil

theorem Rep.flat {loc : Loc} {v : AVal} {v' : Value} (h : Rep loc v v') (hf : flat v = true) : oneCell v' = true := by
  cases h <;> simp_all [Ai.flat, oneCell]

theorem RepL.flat {loc : Loc} : ∀ {a : List AVal} {a' : List Value}, RepL loc a a' → a.all Ai.flat = true → ∀ v' ∈ a', oneCell v' = true
  | _, _, .nil, _ => by simp
  | _, _, .cons v v' r r' h hr, hf => by
    simp only [List.all_cons, Bool.and_eq_true] at hf
    intro x hx
    cases hx with
    | head => exact h.flat hf.1
    | tail _ hx => exact hr.flat hf.2 x hx

theorem cv_rep {loc : Loc} {v : Value} {a : AVal} (h : cv v = some a) : Rep loc a v := by
  unfold cv at h
  split at h <;> simp only [Option.some.injEq, reduceCtorEq] at h <;> subst h
  case h_3 s => exact Rep.str s.data.toList
  all_goals constructor

theorem cvL_rep {loc : Loc} : ∀ {l : List Value} {a : List AVal}, cvL l = some a → RepL loc a l
  | [], _, h => by simp [cvL] at h; subst h; exact .nil
  | v :: r, a, h => by
    simp only [cvL] at h
    split at h
    · rename_i x y hx hy
      simp only [Option.some.injEq] at h; subst h
      exact .cons _ _ _ _ (cv_rep hx) (cvL_rep hy)
    · simp at h

theorem cvA_rep {loc : Loc} {v : Value} {a : AVal} (h : cvA v = some a) : Rep loc a v := by
  unfold cvA at h
  split at h
  · rename_i cs
    simp only [Option.map_eq_some_iff] at h
    obtain ⟨x, hx, rfl⟩ := h
    exact .agg x cs.toList (cvL_rep hx)
  · exact cv_rep h

/-! ## Maps -/

inductive RepE (loc : Loc) : List (AVal × AVal) → List MapEntry → Prop
  | nil : RepE loc [] []
  | cons (k v : AVal) (e : MapEntry) (r : List (AVal × AVal)) (r' : List MapEntry) (hk : Rep loc k e.key) (hv : Rep loc v e.val) (hr : RepE loc r r') : RepE loc ((k, v) :: r) (e :: r')

theorem RepE.mono {loc loc' : Loc} (hle : LocLe loc loc') {a : List (AVal × AVal)} {b : List MapEntry} (h : RepE loc a b) : RepE loc' a b := by
  induction h with
  | nil => exact .nil
  | cons k v e r r' hk hv _ ih => exact .cons k v e r r' (hk.mono hle) (hv.mono hle) ih

theorem RepE.length {loc : Loc} {a : List (AVal × AVal)} {b : List MapEntry} (h : RepE loc a b) : a.length = b.length := by
  induction h with
  | nil => rfl
  | cons _ _ _ _ _ _ _ _ ih => simp [ih]

/-- the keys are of one kind, and no two are the same -/
def KeysOK (sk : Bool) (es : List (AVal × AVal)) : Prop :=
  (∀ p ∈ es, keyEq sk p.1 p.1 = some true) ∧ es.Pairwise fun a b => keyEq sk a.1 b.1 = some false

def Dist (es : List (AVal × AVal)) : Prop := ∃ sk, KeysOK sk es

/-! ## Heaps -/

def writable (h : AHeap) (b : Nat) : Prop :=
  match h.get b with
  | some (.cells _ ro _) => ro = false
  | some (.map _) => True
  | some (.iter ..) => True
  | _ => False

def alive (h : AHeap) (b : Nat) : Prop :=
  match h.get b with
  | some .dead => False
  | none => False
  | _ => True

/-- no cell that there is is frozen; a variable's block bears no mark at all -/
def unfrozen (e : Nat) (n : Nat) (fz : Nat × Nat) : Prop := (e = 0 → fz = (0, 0)) ∧ (fz.1 = fz.2 ∨ n ≤ fz.1)

def ObjRep (loc : Loc) (l : L) : AObj → Obj → Prop
  | .cells e ro vs, .cells C _ fz => l.e = e ∧ l.base + l.size ≤ C.size ∧ vs.length ≤ l.size ∧ RepL loc vs ((C.toList.drop l.base).take vs.length) ∧ (ro = false → unfrozen e C.size fz)
  | .map es, .map es' ck => Dist es ∧ MapKept.Stamped es' ck ∧ ∃ c, List.Perm c es'.toList ∧ RepE loc es c
  | .iter s pos, .stringIter s' pos' => s' = ⟨s.toArray⟩ ∧ pos' = pos ∧ l.base = 0
  | .dead, _ => True
  | _, _ => False

structure Sim (loc : Loc) (h : AHeap) (w : World) : Prop where
  dom : ∀ b l, loc b = some l → b < h.n ∧ l.cb < w.heap.size
  top : ∀ b, h.n ≤ b → h.get b = none
  obj : ∀ b l o, loc b = some l → h.get b = some o → ∃ o', w.heap[l.cb]? = some o' ∧ ObjRep loc l o o'
  inj : ∀ b c l m, loc b = some l → loc c = some m → b ≠ c → writable h b → alive h c → l.cb ≠ m.cb
  zero : ∀ b l, loc b = some l → l.e = 0 → l.base = 0

/-- from one state to a later one -/
structure Step (loc : Loc) (h : AHeap) (w : World) (loc' : Loc) (h' : AHeap) (w' : World) : Prop where
  le : LocLe loc loc'
  pend : ∀ b, b < h.n → loc b = none → loc' b = none ∧ h'.get b = h.get b
  n : h.n ≤ h'.n
  size : w.heap.size ≤ w'.heap.size
  wr : ∀ b, b < h.n → writable h' b → writable h b
  fresh : ∀ b l, loc b = none → loc' b = some l → w.heap.size ≤ l.cb ∨ ∃ c m, loc c = some m ∧ m.cb = l.cb ∧ writable h c
  frame : ∀ cb, cb < w.heap.size → (∀ b l, loc b = some l → l.cb = cb → ¬ writable h b) → w'.heap[cb]? = w.heap[cb]?
  os : w'.os = w.os
  output : w'.output = w.output

theorem Step.refl (loc : Loc) (h : AHeap) (w : World) : Step loc h w loc h w where
  le := LocLe.refl _
  pend := fun _ _ e => ⟨e, rfl⟩
  n := Nat.le_refl _
  size := Nat.le_refl _
  wr := fun _ _ e => e
  fresh := fun b l e f => by rw [e] at f; cases f
  frame := fun _ _ _ => rfl
  os := rfl
  output := rfl

theorem Step.trans {loc loc' loc'' : Loc} {h h' h'' : AHeap} {w w' w'' : World} (s : Step loc h w loc' h' w') (t : Step loc' h' w' loc'' h'' w'')
    (hd : ∀ b l, loc b = some l → b < h.n) : Step loc h w loc'' h'' w'' where
  le := s.le.trans t.le
  pend := fun b hb e => by
    obtain ⟨e1, g1⟩ := s.pend b hb e
    obtain ⟨e2, g2⟩ := t.pend b (Nat.lt_of_lt_of_le hb s.n) e1
    exact ⟨e2, g2.trans g1⟩
  n := Nat.le_trans s.n t.n
  size := Nat.le_trans s.size t.size
  wr := fun b hb e => s.wr b hb (t.wr b (Nat.lt_of_lt_of_le hb s.n) e)
  fresh := fun b l e f => by
    cases e1 : loc' b with
    | some m =>
      have : m = l := by have := t.le b m e1; rw [f] at this; exact (Option.some.inj this).symm
      subst this
      exact s.fresh b m e e1
    | none =>
      rcases t.fresh b l e1 f with hl | ⟨c, m, hc, hm, hw⟩
      · exact .inl (Nat.le_trans s.size hl)
      · cases e2 : loc c with
        | some m' =>
          have : m' = m := by have := s.le c m' e2; rw [hc] at this; exact (Option.some.inj this).symm
          subst this
          exact .inr ⟨c, m', e2, hm, s.wr c (hd c m' e2) hw⟩
        | none =>
          rcases s.fresh c m e2 hc with hl | ⟨c2, m2, hc2, hm2, hw2⟩
          · exact .inl (by rw [← hm]; exact hl)
          · exact .inr ⟨c2, m2, hc2, by rw [hm2, hm], hw2⟩
  frame := fun cb hcb hno => by
    have h1 := s.frame cb hcb hno
    have h2 := t.frame cb (Nat.lt_of_lt_of_le hcb s.size) (fun b l e f hw => by
      cases e2 : loc b with
      | some m =>
        have : m = l := by have := s.le b m e2; rw [e] at this; exact (Option.some.inj this).symm
        subst this
        exact hno b m e2 f (s.wr b (hd b m e2) hw)
      | none =>
        rcases s.fresh b l e2 e with hl | ⟨c, m, hc, hm, hw2⟩
        · omega
        · exact hno c m hc (by rw [hm, f]) hw2)
    exact h2.trans h1
  os := t.os.trans s.os
  output := t.output.trans s.output

theorem Sim.of_heap {loc : Loc} {h : AHeap} {w w' : World} (s : Sim loc h w) (e : w'.heap = w.heap) : Sim loc h w' where
  dom := by rw [e]; exact s.dom
  top := s.top
  obj := by rw [e]; exact s.obj
  inj := s.inj
  zero := s.zero

/-- a draw moves a count alone -/
theorem Step.of_heap {loc : Loc} {h : AHeap} {w w' : World} (e : w'.heap = w.heap) (ho : w'.os = w.os) (hp : w'.output = w.output) : Step loc h w loc h w' where
  le := LocLe.refl _
  pend := fun _ _ e => ⟨e, rfl⟩
  n := Nat.le_refl _
  size := by rw [e]; exact Nat.le_refl _
  wr := fun _ _ e => e
  fresh := fun b l e f => by rw [e] at f; cases f
  frame := fun _ _ _ => by rw [e]
  os := ho
  output := hp

/-! ## Reading -/

theorem Sim.cells {loc : Loc} {h : AHeap} {w : World} (s : Sim loc h w) {b : Nat} {l : L} {e : Nat} {ro : Bool} {vs : List AVal} (hl : loc b = some l) (hg : h.get b = some (.cells e ro vs)) :
    ∃ C ty fz, w.heap[l.cb]? = some (.cells C ty fz) ∧ l.e = e ∧ l.base + l.size ≤ C.size ∧ vs.length ≤ l.size ∧ RepL loc vs ((C.toList.drop l.base).take vs.length) ∧ (ro = false → unfrozen e C.size fz) := by
  obtain ⟨o', ho, hr⟩ := s.obj b l _ hl hg
  cases o' with
  | cells C ty fz => exact ⟨C, ty, fz, ho, hr⟩
  | _ => exact hr.elim

theorem slice_some {l r : List AVal} {off n : Nat} (h : slice l off n = some r) : off + n ≤ l.length ∧ r = (l.drop off).take n := by
  unfold slice at h
  split at h
  · rename_i hle; exact ⟨hle, (Option.some.inj h).symm⟩
  · cases h

/-- cells that are read, as the world has them -/
theorem Sim.load {loc : Loc} {h : AHeap} {w : World} (s : Sim loc h w) {b off n : Nat} {cs : List AVal} {l : L} (hl : loc b = some l) (hn : loadN h b off n = some cs) :
    ∃ cs', RepL loc cs cs' ∧ cs'.length = n ∧ ∀ j v, cs'[j]? = some v → w.cell? ⟨l.cb, l.base + off + j, none⟩ = some v := by
  unfold loadN getCells at hn
  split at hn
  · rename_i e ro vs hg
    simp only [Option.bind_some] at hn
    obtain ⟨hle, rfl⟩ := slice_some hn
    obtain ⟨C, ty, fz, hC, he, hs, hv, hr, _⟩ := s.cells hl hg
    refine ⟨_, (hr.drop off).take n, ?_, ?_⟩
    · simp only [List.length_take, List.length_drop, Array.length_toList]; omega
    · intro j v hj
      have hjn : j < n := by
        rcases Nat.lt_or_ge j n with h | h
        · exact h
        · rw [List.getElem?_eq_none (by simp; omega)] at hj; cases hj
      simp only [World.cell?, hC, Option.isSome_none, Bool.false_eq_true, if_false]
      rw [List.getElem?_take, if_pos hjn, List.getElem?_drop, List.getElem?_take, if_pos (by omega), List.getElem?_drop] at hj
      rw [← hj, Array.getElem?_toList]
      congr 1; omega
  · simp at hn

end Go.Ai

/- What is made and what is written, in an abstract heap and in a world alike. -/
namespace Go.Ai
open Go

def upd (loc : Loc) (b : Nat) (l : L) : Loc := fun c => if c = b then some l else loc c

theorem upd_le {loc : Loc} {b : Nat} {l : L} (h : loc b = none) : LocLe loc (upd loc b l) := by
  intro c m hc
  unfold upd
  split
  · rename_i e; subst e; rw [h] at hc; cases hc
  · exact hc

theorem upd_self {loc : Loc} {b : Nat} {l : L} : upd loc b l b = some l := by simp [upd]

theorem ObjRep.mono {loc loc' : Loc} (hle : LocLe loc loc') {l : L} {o : AObj} {o' : Obj} (h : ObjRep loc l o o') : ObjRep loc' l o o' := by
  unfold ObjRep at *
  split
  · obtain ⟨h1, h2, h3, h4, h5⟩ := h; exact ⟨h1, h2, h3, h4.mono hle, h5⟩
  · obtain ⟨hd, hst, c, hp, hr⟩ := h; exact ⟨hd, hst, c, hp, hr.mono hle⟩
  · exact h
  · trivial
  · rename_i x y z q; simp_all

theorem Sim.none_n {loc : Loc} {h : AHeap} {w : World} (s : Sim loc h w) : loc h.n = none := by
  cases e : loc h.n with
  | none => rfl
  | some l => exact absurd (s.dom _ _ e).1 (Nat.lt_irrefl _)

/-- a new block -/
theorem alloc_sim {loc : Loc} {h : AHeap} {w w' : World} (s : Sim loc h w) (o : AObj) (o' : Obj) (l : L) (hl : l.cb = w.heap.size) (hw : w'.heap = w.heap.push o')
    (ho : w'.os = w.os) (hp : w'.output = w.output) (hr : ObjRep (upd loc h.n l) l o o') (hz : l.base = 0 := by rfl) :
    Sim (upd loc h.n l) (h.push o) w' ∧ Step loc h w (upd loc h.n l) (h.push o) w' := by
  have hn := s.none_n
  have hle : LocLe loc (upd loc h.n l) := upd_le hn
  have hget : ∀ b, b ≠ h.n → (h.push o).get b = h.get b := fun b hb => by rw [AHeap.get_push, if_neg (fun e => hb e.symm)]
  have hsz : w'.heap.size = w.heap.size + 1 := by rw [hw]; simp
  refine ⟨⟨?_, ?_, ?_, ?_, fun b m hm he => by unfold upd at hm; split at hm; (cases hm; exact hz); exact s.zero b m hm he⟩, ⟨hle, ?_, ?_, ?_, ?_, ?_, ?_, ho, hp⟩⟩
  · intro b m hm
    unfold upd at hm
    split at hm
    · rename_i e; subst e; cases hm; exact ⟨by simp, by omega⟩
    · have := s.dom b m hm; exact ⟨by simp; omega, by omega⟩
  · intro b hb
    rw [AHeap.n_push] at hb
    rw [hget b (by omega)]; exact s.top b (by omega)
  · intro b m ob hm hob
    unfold upd at hm
    split at hm
    · rename_i e; subst e; cases hm
      rw [AHeap.get_push, if_pos rfl] at hob; cases hob
      refine ⟨o', ?_, hr⟩
      rw [hw, hl]; simp
    · rename_i hne
      rw [hget b hne] at hob
      obtain ⟨o2, h2, r2⟩ := s.obj b m ob hm hob
      have hlt := (s.dom b m hm).2
      refine ⟨o2, ?_, r2.mono hle⟩
      rw [hw, Array.getElem?_push, if_neg (by omega)]; exact h2
  · intro b c m k hm hk hne hwb hac
    unfold upd at hm hk
    split at hm
    · rename_i e; subst e; cases hm
      split at hk
      · rename_i e2; exact absurd e2.symm hne
      · have := (s.dom c k hk).2; omega
    · rename_i hb
      split at hk
      · rename_i e2; subst e2; cases hk
        have := (s.dom b m hm).2; omega
      · rename_i hc
        refine s.inj b c m k hm hk hne ?_ ?_
        · unfold writable at *; rw [hget b hb] at hwb; exact hwb
        · unfold alive at *; rw [hget c hc] at hac; exact hac
  · intro b hb e
    exact ⟨by unfold upd; rw [if_neg (by omega)]; exact e, hget b (by omega)⟩
  · simp
  · omega
  · intro b hb hwb
    unfold writable at *; rw [hget b (by omega)] at hwb; exact hwb
  · intro b m e hm
    unfold upd at hm
    split at hm
    · cases hm; left; omega
    · rw [e] at hm; cases hm
  · intro cb hcb _
    rw [hw, Array.getElem?_push, if_neg (by omega)]

/-- a block that is turned -/
theorem set_sim {loc : Loc} {h : AHeap} {w w' : World} (s : Sim loc h w) {b : Nat} {l : L} (hl : loc b = some l) (hb : writable h b) (o : AObj) (o' : Obj)
    (hw : w'.heap = w.heap.setIfInBounds l.cb o') (ho : w'.os = w.os) (hp : w'.output = w.output) (hr : ObjRep loc l o o') :
    Sim loc (h.set b o) w' ∧ Step loc h w loc (h.set b o) w' := by
  have hsz : w'.heap.size = w.heap.size := by rw [hw]; simp
  have hlt := (s.dom b l hl).2
  have hget : ∀ c, c ≠ b → (h.set b o).get c = h.get c := fun c hc => by rw [AHeap.get_set, if_neg (fun e => hc e.symm)]
  have halive : ∀ c, c ≠ b → ∀ m, loc c = some m → alive h c → m.cb ≠ l.cb := fun c hc m hm ha => fun e => s.inj b c l m hl hm (fun x => hc x.symm) hb ha e.symm
  refine ⟨⟨?_, ?_, ?_, ?_, s.zero⟩, ⟨LocLe.refl _, ?_, ?_, ?_, ?_, ?_, ?_, ho, hp⟩⟩
  · intro c m hm
    have := s.dom c m hm
    exact ⟨this.1, by omega⟩
  · intro c hc
    rw [AHeap.n_set] at hc
    have hne : c ≠ b := by have := (s.dom b l hl).1; omega
    rw [hget c hne]; exact s.top c hc
  · intro c m ob hm hob
    by_cases hc : c = b
    · subst hc
      rw [AHeap.get_set, if_pos rfl] at hob; cases hob
      rw [hl] at hm; cases hm
      refine ⟨o', ?_, hr⟩
      rw [hw]; simp [hlt]
    · rw [hget c hc] at hob
      obtain ⟨o2, h2, r2⟩ := s.obj c m ob hm hob
      by_cases ha : alive h c
      · refine ⟨o2, ?_, r2⟩
        rw [hw, Array.getElem?_setIfInBounds_ne (fun e => halive c hc m hm ha e.symm)]; exact h2
      · have hd : ob = .dead := by
          unfold alive at ha; rw [hob] at ha
          cases ob <;> simp_all
        subst hd
        have : m.cb < w'.heap.size := by have := (s.dom c m hm).2; omega
        exact ⟨w'.heap[m.cb], by rw [Array.getElem?_eq_getElem this], trivial⟩
  · intro c d m k hm hk hne hwc had
    have hwc' : writable h c := by
      by_cases hc : c = b
      · subst hc; exact hb
      · unfold writable at *; rw [hget c hc] at hwc; exact hwc
    have had' : alive h d := by
      by_cases hd : d = b
      · subst hd; unfold alive; unfold writable at hb; split <;> simp_all
      · unfold alive at *; rw [hget d hd] at had; exact had
    exact s.inj c d m k hm hk hne hwc' had'
  · intro c hc e
    have : c ≠ b := by intro x; subst x; rw [hl] at e; cases e
    exact ⟨e, hget c this⟩
  · simp
  · omega
  · intro c hc hwc
    by_cases hcb : c = b
    · subst hcb; exact hb
    · unfold writable at *; rw [hget c hcb] at hwc; exact hwc
  · intro c m e f; rw [e] at f; cases f
  · intro cb hcb hno
    have : cb ≠ l.cb := fun e => hno b l hl e.symm hb
    rw [hw, Array.getElem?_setIfInBounds_ne (fun e => this e.symm)]

/-! ## Storing a row of cells -/

theorem list_set_split (l : List Value) (i : Nat) (v : Value) (h : i < l.length) : l.set i v = l.take i ++ (v :: l.drop (i + 1)) := by
  rw [List.set_eq_take_append_cons_drop, if_pos h]

theorem run_storeCells {P : Program} (g o : Nat) (t : TypeId) (fz : Nat × Nat) : ∀ (vs : List Value) (i : Nat) (cur : Array Value) (w : World),
    w.heap[g]? = some (.cells cur t fz) → o + i + vs.length ≤ cur.size → (fz.2 ≤ fz.1 ∨ cur.size ≤ fz.1) → (∀ v ∈ vs, oneCell v = true) →
    ∃ new : Array Value, new.toList = cur.toList.take (o + i) ++ (vs ++ cur.toList.drop (o + i + vs.length)) ∧
      (storeCells ⟨g, o, none⟩ vs i).run P w = .ok () { w with heap := w.heap.setIfInBounds g (.cells new t fz) }
  | [], i, cur, w, hg, hle, hf, h1 => by
    refine ⟨cur, by simp, ?_⟩
    have hlt : g < w.heap.size := by
      rcases Nat.lt_or_ge g w.heap.size with h | h
      · exact h
      · rw [Array.getElem?_eq_none h] at hg; cases hg
    have : w.heap.setIfInBounds g (.cells cur t fz) = w.heap := by
      apply Array.ext_getElem?
      intro k
      by_cases hk : g = k
      · subst hk; rw [hg]; simp [hlt]
      · rw [Array.getElem?_setIfInBounds_ne hk]
    simp only [storeCells, pure, Sem.run, this]
  | v :: vs, i, cur, w, hg, hle, hf, h1 => by
    have hlt : g < w.heap.size := by
      rcases Nat.lt_or_ge g w.heap.size with h | h
      · exact h
      · rw [Array.getElem?_eq_none h] at hg; cases hg
    simp only [List.length_cons] at hle
    have hoi : o + i < cur.size := by omega
    have hv := h1 v (by simp)
    have ha : Addr.add ⟨g, o, none⟩ i = ⟨g, o + i, none⟩ := by
      unfold Addr.add; split
      · rename_i e; subst e; rfl
      · rfl
    have hset : w.setCell ⟨g, o + i, none⟩ v = { w with heap := w.heap.setIfInBounds g (.cells (cur.setIfInBounds (o + i) v) t fz) } := by
      unfold World.setCell
      congr 1
      apply Array.ext_getElem?
      intro k
      rw [Array.getElem?_modify]
      by_cases hk : g = k
      · subst hk
        have : w.heap[g] = .cells cur t fz := by have := hg; rw [Array.getElem?_eq_getElem hlt] at this; exact Option.some.inj this
        simp [hlt, this]
      · rw [if_neg hk, Array.getElem?_setIfInBounds_ne hk]
    have hcell : w.cell? ⟨g, o + i, none⟩ = some cur[o + i] := by
      simp only [World.cell?, hg, Option.isSome_none, Bool.false_eq_true, if_false]
      exact Array.getElem?_eq_getElem hoi
    have hfz : w.frozen? ⟨g, o + i, none⟩ = false := by
      simp only [World.frozen?, hg, Bool.and_eq_false_iff, decide_eq_false_iff_not]
      rcases hf with h | h
      · rcases Nat.lt_or_ge (o + i) fz.1 with h2 | h2
        · left; omega
        · right; omega
      · left; omega
    obtain ⟨new, hnew, hrun⟩ := run_storeCells (P := P) g o t fz vs (i + 1) (cur.setIfInBounds (o + i) v) { w with heap := w.heap.setIfInBounds g (.cells (cur.setIfInBounds (o + i) v) t fz) }
      (by simp [hlt]) (by simp; omega) (by simpa using hf) (fun x hx => h1 x (by simp [hx]))
    refine ⟨new, ?_, ?_⟩
    · rw [hnew]
      simp only [Array.toList_setIfInBounds, List.length_cons]
      have e1 : (cur.toList.set (o + i) v).take (o + (i + 1)) = cur.toList.take (o + i) ++ [v] := by
        rw [list_set_split _ _ _ (by simpa using hoi), ← Nat.add_assoc, List.take_append]
        have hm : min (o + i) cur.size = o + i := by omega
        have hm2 : o + i + 1 - (o + i) = 1 := by omega
        simp only [List.length_take, Array.length_toList, hm, hm2, List.take_take, List.take_succ_cons, List.take_zero]
        congr 2; omega
      have e2 : (cur.toList.set (o + i) v).drop (o + (i + 1) + vs.length) = cur.toList.drop (o + i + (vs.length + 1)) := by
        rw [List.drop_set, if_pos (by omega)]
        congr 1; omega
      rw [e1, e2]; simp
    · have hst : (store ⟨g, o + i, none⟩ v).run P w = .ok () (w.setCell ⟨g, o + i, none⟩ v) := by
        unfold store
        cases v <;> first | (simp [oneCell] at hv; done) | (simp [Sem.run, hcell, hfz])
      simp only [storeCells, ha, Sem.run_bind, hst, hset, Result.andThen_ok, hrun]
      congr 2
      apply Array.ext_getElem?
      intro k
      by_cases hk : g = k
      · subst hk; simp [hlt]
      · rw [Array.getElem?_setIfInBounds_ne hk, Array.getElem?_setIfInBounds_ne hk, Array.getElem?_setIfInBounds_ne hk]

end Go.Ai

/- The operations: what the evaluator computes is what the model computes, in every world that the heap stands for. -/
set_option linter.unusedSimpArgs false
set_option linter.unusedVariables false
namespace Go.Ai
open Go

/-- the laid variables lie where they are named -/
def Globs (G : List Nat) (loc : Loc) : Prop := ∀ g, g ∈ G → ∃ l, loc g = some l ∧ l.cb = g ∧ l.base = 0

theorem Globs.mono {G : List Nat} {loc loc' : Loc} (hle : LocLe loc loc') (h : Globs G loc) : Globs G loc' := fun g hg =>
  let ⟨l, h1, h2, h3⟩ := h g hg; ⟨l, hle _ _ h1, h2, h3⟩

section
variable {G : List Nat} {P : Program} {loc : Loc} {h : AHeap} {w : World}

/-- the places of a frame that are looked at -/
def AtRep (loc : Loc) (ts : List Nat) (e : Env) (tm : Array Value) : Prop := ∀ i, i ∈ ts → Rep loc (e.at i) (tm.getD i Go.undef)

theorem AtRep.left {ts us : List Nat} {e : Env} {tm : Array Value} (h : AtRep loc (ts ++ us) e tm) : AtRep loc ts e tm := fun i hi => h i (List.mem_append_left _ hi)
theorem AtRep.right {ts us : List Nat} {e : Env} {tm : Array Value} (h : AtRep loc (ts ++ us) e tm) : AtRep loc us e tm := fun i hi => h i (List.mem_append_right _ hi)

theorem copr_rep {x : Operand} {y : Opr} (hc : copr G x = some y) {e : Env} {a : Act} (hg : Globs G loc) (he : AtRep loc (oprTmps y) e a.tmps) : Rep loc (y.ev e) (a.eval x) := by
  cases x with
  | tmp t =>
    simp only [copr, Option.some.injEq] at hc; subst hc
    exact he t (by simp [oprTmps])
  | const v =>
    simp only [copr, Option.map_eq_some_iff] at hc
    obtain ⟨z, hz, rfl⟩ := hc
    exact cvA_rep hz
  | global g =>
    simp only [copr] at hc
    split at hc
    · rename_i hm
      simp only [Option.some.injEq] at hc; subst hc
      obtain ⟨l, h1, h2, h3⟩ := hg g (by simpa using hm)
      have := Rep.ptr g 0 l h1
      rw [h2, h3] at this
      exact this
    · cases hc
  | func f =>
    simp only [copr, Option.some.injEq] at hc; subst hc
    exact .fn f [] [] [] [] .nil .nil

theorem coprs_rep {xs : List Operand} : ∀ {ys : List Opr}, coprs G xs = some ys → ∀ {e : Env} {a : Act}, Globs G loc → AtRep loc (oprsTmps ys) e a.tmps →
    RepL loc (ys.map (·.ev e)) (xs.map a.eval) := by
  induction xs with
  | nil => intro ys hc; simp only [coprs, Option.some.injEq] at hc; subst hc; intros; exact .nil
  | cons x r ih =>
    intro ys hc e a hg he
    simp only [coprs] at hc
    split at hc
    · rename_i y z hy hz
      simp only [Option.some.injEq] at hc; subst hc
      simp only [oprsTmps, List.flatMap_cons] at he
      exact .cons _ _ _ _ (copr_rep hy hg he.left) (ih hz hg he.right)
    · cases hc

theorem run_tsize {t : TypeId} {n : Nat} (ht : tsize P t = some n) : (sizeOf t).run P w = .ok n w := by
  simp only [tsize, Option.map_eq_some_iff] at ht
  obtain ⟨i, hi, rfl⟩ := ht
  simp [sizeOf, typeInfo, hi]

theorem run_tagg {t : TypeId} {g : Bool} (ht : tagg P t = some g) : (isAgg t).run P w = .ok g w := by
  unfold tagg at ht
  unfold isAgg underlying
  split at ht <;> simp only [Option.some.injEq, reduceCtorEq] at ht <;> subst ht <;> rename_i hu <;> simp [hu]

theorem run_und {t : TypeId} {d : TypeDesc} (hu : P.underlying t = some d) : (underlying t).run P w = .ok d w := by simp [underlying, hu]

theorem run_tzero {t : TypeId} {zs : List AVal} (ht : tzero P t = some zs) : ∃ z, (zeroValue t).run P w = .ok z w ∧ RepL loc zs z.cells.toList ∧ ∃ i, P.info? t = some i ∧ zs.length = i.size ∧ i.zero = some z := by
  simp only [tzero, Option.bind_eq_some_iff] at ht
  obtain ⟨i, hi, z, hz, c, hc, ht⟩ := ht
  split at ht
  · rename_i hlen
    simp only [Option.some.injEq] at ht; subst ht
    exact ⟨z, by simp [zeroValue, typeInfo, hi, hz], cvL_rep hc, i, hi, hlen, hz⟩
  · cases ht

theorem addr_add (cb o j : Nat) : Addr.add ⟨cb, o, none⟩ j = ⟨cb, o + j, none⟩ := by
  unfold Addr.add; split
  · rename_i e; subst e; rfl
  · rfl

/-- a variable is read -/
theorem run_load (s : Sim loc h w) {b off n : Nat} {g : Bool} {v : AVal} {t : TypeId} {l : L} (hl : loc b = some l) (hv : (loadN h b off n).bind (ofCells g) = some v)
    (ht : tagg P t = some g) (hn : tsize P t = some n) : ∃ v', (loadVar t ⟨l.cb, l.base + off, none⟩).run P w = .ok v' w ∧ Rep loc v v' := by
  simp only [Option.bind_eq_some_iff] at hv
  obtain ⟨cs, hcs, hv⟩ := hv
  obtain ⟨cs', hr, hlen, hc⟩ := s.load hl hcs
  unfold loadVar
  simp only [Sem.run_bind, run_tagg ht, Result.andThen_ok]
  unfold ofCells at hv
  cases g with
  | true =>
    simp only [if_true, Option.some.injEq] at hv; subst hv
    refine ⟨.agg cs'.toArray, ?_, .agg _ _ hr⟩
    have := run_loadCells_list (P := P) w ⟨l.cb, l.base + off, none⟩ cs' (fun j v hj => by rw [addr_add]; exact hc j v hj)
    rw [hlen] at this
    simp [run_tsize hn, this]
  | false =>
    simp only [Bool.false_eq_true, if_false] at hv
    split at hv
    · simp only [Option.some.injEq] at hv; subst hv
      cases hr with
      | cons _ v' _ _ h1 h2 =>
        cases h2
        have := hc 0 v' rfl
        refine ⟨v', ?_, h1⟩
        simp only [Nat.add_zero] at this
        simp [this]
    · cases hv

theorem upon_value {o : Oper} {a : Act} {next : Act → World → Prop} {Q : Exit → Act → World → Prop} {v' : Value} {w' : World} (hr : (execOp a.eval o).run P w = .ok (.value v') w')
    (k : next (a.put o.dst v') w') : o.wp P a w next Q := by
  unfold Oper.wp; rw [hr]; exact k

theorem upon_skip {o : Oper} {a : Act} {next : Act → World → Prop} {Q : Exit → Act → World → Prop} {w' : World} (hr : (execOp a.eval o).run P w = .ok .skip w')
    (k : next (a.put o.dst Go.undef) w') : o.wp P a w next Q := by
  unfold Oper.wp; rw [hr]; exact k

/-! ## Plain operations -/

theorem intop_run {op : BinOp} {k : IntKind} {a b : Int} {v : AVal} (hv : intop op k a b = some v) (t : TypeId) :
    ∃ v', (binOp op t (.int k a) (.int k b)).run P w = .ok v' w ∧ Rep loc v v' := by
  unfold intop at hv
  split at hv <;> (try simp only [Option.some.injEq, reduceCtorEq] at hv) <;> (try subst hv)
  case h_4 =>
    split at hv
    · cases hv
    · rename_i hb
      simp only [Option.some.injEq] at hv; subst hv
      exact ⟨_, by simp [binOp, Op.intDiv, hb], Rep.int _ _⟩
  case h_5 =>
    split at hv
    · cases hv
    · rename_i hb
      simp only [Option.some.injEq] at hv; subst hv
      exact ⟨_, by simp [binOp, Op.intDiv, hb], Rep.int _ _⟩
  all_goals first
    | (refine ⟨_, ?_, Rep.int _ _⟩; simp [binOp, Op.intArith, Op.intBits]; done)
    | (refine ⟨_, ?_, Rep.bool _⟩; simp [binOp, Op.intCmp]; done)

theorem strop_run {op : BinOp} {a b : List UInt8} {v : AVal} (hv : strop op a b = some v) (t : TypeId) :
    ∃ v', (binOp op t (.string ⟨a.toArray⟩) (.string ⟨b.toArray⟩)).run P w = .ok v' w ∧ Rep loc v v' := by
  have hless : ∀ x y : List UInt8, Op.bytesLess x y = bytesLess x y := by
    intro x
    induction x with
    | nil => intro y; cases y <;> rfl
    | cons c x ih => intro y; cases y with
      | nil => rfl
      | cons d y => simp [Op.bytesLess, bytesLess, ih]
  unfold strop at hv
  split at hv <;> (try simp only [Option.some.injEq, reduceCtorEq] at hv) <;> (try subst hv)
  case h_1 =>
    split at hv
    · rename_i hle
      simp only [Option.some.injEq] at hv; subst hv
      refine ⟨.string ⟨(a ++ b).toArray⟩, ?_, .str _⟩
      have hn : ¬ (((⟨a.toArray⟩ : ByteArray).size + (⟨b.toArray⟩ : ByteArray).size : Nat) : Int) > IntKind.i64.max := by
        have e1 : (⟨a.toArray⟩ : ByteArray).size = a.length := by simp [ByteArray.size]
        have e2 : (⟨b.toArray⟩ : ByteArray).size = b.length := by simp [ByteArray.size]
        have e3 : IntKind.i64.max = 9223372036854775807 := by decide
        rw [e1, e2, e3]; unfold maxStr at hle; omega
      have happ : (⟨a.toArray⟩ : ByteArray) ++ (⟨b.toArray⟩ : ByteArray) = ⟨(a ++ b).toArray⟩ := by
        apply ByteArray.ext
        simp
      simp only [binOp, Op.stringOp]
      rw [if_neg hn, happ]
      simp
    · cases hv
  all_goals (refine ⟨_, ?_, Rep.bool _⟩; simp [binOp, Op.stringOp, ByteArray.toList_mk, hless])

theorem binop_run {op : BinOp} {x y v : AVal} {x' y' : Value} (hv : binop op x y = some v) (hx : Rep loc x x') (hy : Rep loc y y') (t : TypeId) (X Y : Operand) :
    ∃ v', (do eqGuard op t X Y x' y'; binOp op t x' y' : Sem Value).run P w = .ok v' w ∧ Rep loc v v' := by
  unfold binop at hv
  split at hv
  · rename_i k a k' b
    cases hx; cases hy
    have hg : eqGuard op t X Y (.int k a) (.int k' b) = pure () := by cases op <;> rfl
    rw [hg]
    simp only [Sem.run_bind, Sem.run_pure, Result.andThen_ok]
    split at hv
    · unfold shiftop at hv
      split at hv
      · cases hv
      · rename_i hb
        simp only [Option.some.injEq] at hv; subst hv
        exact ⟨_, by simp only [binOp, Op.shift]; rw [if_neg hb]; rfl, by constructor⟩
    · unfold shiftop at hv
      split at hv
      · cases hv
      · rename_i hb
        simp only [Option.some.injEq] at hv; subst hv
        exact ⟨_, by simp only [binOp, Op.shift]; rw [if_neg hb]; rfl, by constructor⟩
    · split at hv
      · rename_i hk; subst hk
        exact intop_run hv t
      · cases hv
  · rename_i a b
    cases hx; cases hy
    have hg : eqGuard op t X Y (.string ⟨a.toArray⟩) (.string ⟨b.toArray⟩) = pure () := by cases op <;> rfl
    rw [hg]
    simp only [Sem.run_bind, Sem.run_pure, Result.andThen_ok]
    exact strop_run hv t
  · cases hv
end
end Go.Ai

/- The operations that do not write, one by one. -/
set_option linter.unusedSimpArgs false
set_option linter.unusedVariables false
namespace Go.Ai
open Go

section
variable {G : List Nat} {P : Program} {loc : Loc} {h h' : AHeap} {w : World} {e : Env} {a : Act} {o : Oper} {v : AVal}

/-- an operation comes to v, and the heap to h' -/
def Out (P : Program) (o : Oper) (a : Act) (loc : Loc) (h : AHeap) (w : World) (v : AVal) (h' : AHeap) : Prop :=
  ∀ (next : Act → World → Prop) (Q : Exit → Act → World → Prop), (∀ loc' v' w', Step loc h w loc' h' w' → Sim loc' h' w' → Rep loc' v v' → next (a.put o.dst v') w') → o.wp P a w next Q

theorem out_same (s : Sim loc h w) {v' : Value} (hr : (execOp a.eval o).run P w = .ok (.value v') w) (hv : Rep loc v v') : Out P o a loc h w v h :=
  fun _ _ k => upon_value hr (k loc v' w (Step.refl ..) s hv)

theorem out_value {loc' : Loc} {v' : Value} {w' : World} (hr : (execOp a.eval o).run P w = .ok (.value v') w') (s : Sim loc' h' w' ∧ Step loc h w loc' h' w') (hv : Rep loc' v v') : Out P o a loc h w v h' :=
  fun _ _ k => upon_value hr (k loc' v' w' s.2 s.1 hv)

theorem out_skip {loc' : Loc} {w' : World} (hr : (execOp a.eval o).run P w = .ok .skip w') (s : Sim loc' h' w' ∧ Step loc h w loc' h' w') : Out P o a loc h w undef h' :=
  fun _ _ k => upon_skip hr (k loc' Go.undef w' s.2 s.1 Rep.undef)

theorem o_mv {x : Operand} {y : Opr} (ho : o.op = .move x ∨ o.op = .assign x) (hc : copr G x = some y) (hg : Globs G loc) (s : Sim loc h w) (he : AtRep loc (oprTmps y) e a.tmps) :
    Out P o a loc h w (y.ev e) h := by
  refine out_same s (v' := a.eval x) ?_ (copr_rep hc hg he)
  rcases ho with ho | ho <;> simp [execOp, ho]

theorem o_pick {x y z : Operand} {x' y' z' : Opr} {t : Bool} (ho : o.op = .pick x y z) (hx : copr G x = some x') (hy : copr G y = some y') (hz : copr G z = some z') (hg : Globs G loc) (s : Sim loc h w)
    (he : AtRep loc (oprTmps x' ++ (oprTmps y' ++ oprTmps z')) e a.tmps) (ht : x'.ev e = .bool t) : Out P o a loc h w (if t then y'.ev e else z'.ev e) h := by
  have rx := copr_rep hx hg he.left
  have ry := copr_rep hy hg he.right.left
  have rz := copr_rep hz hg he.right.right
  rw [ht] at rx
  generalize hX : a.eval x = X at rx
  cases rx
  cases t
  · exact out_same s (v' := a.eval z) (by simp [execOp, ho, hX, asBool]) rz
  · exact out_same s (v' := a.eval y) (by simp [execOp, ho, hX, asBool]) ry

theorem o_load {t : TypeId} {x : Operand} {y : Opr} {g : Bool} {n b off : Nat} (ho : o.op = .load t x) (hx : copr G x = some y) (hg : Globs G loc) (s : Sim loc h w) (he : AtRep loc (oprTmps y) e a.tmps)
    (ht : tagg P t = some g) (hn : tsize P t = some n) (hp : y.ev e = .ptr b off) (hv : (loadN h b off n).bind (ofCells g) = some v) : Out P o a loc h w v h := by
  have rx := copr_rep hx hg he
  rw [hp] at rx
  generalize hX : a.eval x = X at rx
  cases rx with
  | ptr _ _ l hl =>
    obtain ⟨v', hr, hv'⟩ := run_load (P := P) s hl hv ht hn
    exact out_same s (v' := v') (by simp [execOp, ho, hX, Instr.loadAt, Instr.sureAddr, hr]) hv'

theorem o_nilchk {x : Operand} {y : Opr} {b off : Nat} (ho : o.op = .nilCheck x) (hx : copr G x = some y) (hg : Globs G loc) (s : Sim loc h w) (he : AtRep loc (oprTmps y) e a.tmps)
    (hp : y.ev e = .ptr b off) : Out P o a loc h w (.ptr b off) h := by
  have rx := copr_rep hx hg he
  rw [hp] at rx
  generalize hX : a.eval x = X at rx
  cases rx with
  | ptr _ _ l hl => exact out_same s (v' := .pointer (some ⟨l.cb, l.base + off, none⟩)) (by simp [execOp, ho, hX]) (.ptr _ _ l hl)

theorem o_bin {op : BinOp} {t u : TypeId} {x y : Operand} {x' y' : Opr} (ho : o.op = .binOp op t x y u) (hx : copr G x = some x') (hy : copr G y = some y') (hg : Globs G loc) (s : Sim loc h w)
    (he : AtRep loc (oprTmps x' ++ oprTmps y') e a.tmps) (hv : binop op (x'.ev e) (y'.ev e) = some v) : Out P o a loc h w v h := by
  obtain ⟨v', hr, hv'⟩ := binop_run (P := P) (w := w) hv (copr_rep hx hg he.left) (copr_rep hy hg he.right) t x y
  refine out_same s (v' := v') ?_ hv'
  simp only [execOp, ho, Sem.run_bind] at hr ⊢
  simp [hr]

theorem eqKind_bool {t : TypeId} (h : eqKind P t = some 3) : P.underlying t = some .bool := by
  unfold eqKind at h
  split at h <;> simp_all
  split at h <;> simp_all

theorem eqKind_ptr {t : TypeId} (h : eqKind P t = some 1) : ∃ el n, P.underlying t = some (.pointer el) ∧ tsize P el = some (n + 1) := by
  unfold eqKind at h
  split at h <;> simp_all
  split at h <;> simp_all

theorem eqKind_sl {t : TypeId} (h : eqKind P t = some 2) : ∃ el, P.underlying t = some (.slice el) := by
  unfold eqKind at h
  split at h <;> simp_all
  split at h <;> simp_all

theorem eqKind_mp {t : TypeId} (h : eqKind P t = some 4) : ∃ k el, P.underlying t = some (.map k el) := by
  unfold eqKind at h
  split at h <;> simp_all
  split at h <;> simp_all

theorem eqKind_fn {t : TypeId} (h : eqKind P t = some 5) : ∃ x y z, P.underlying t = some (.func x y z) := by
  unfold eqKind at h
  split at h <;> simp_all
  split at h <;> simp_all

theorem run_bool_eq {t : TypeId} (h : eqKind P t = some 3) (x y : Bool) : (Op.equal t (.bool x) (.bool y)).run P w = .ok (x == y) w := by
  have hu := eqKind_bool h
  have key : ∀ d : Nat, (Op.equalIn (d + 1) t (.bool x) (.bool y)).run P w = .ok (x == y) w := fun d => by simp [Op.equalIn, run_und hu]
  exact key 9999

theorem o_beq {neg : Bool} {t u : TypeId} {x y : Operand} {x' y' : Opr} {b c : Bool} (ho : o.op = .binOp (if neg then .neq else .eql) t x y u) (hx : copr G x = some x') (hy : copr G y = some y') (hg : Globs G loc) (s : Sim loc h w)
    (he : AtRep loc (oprTmps x' ++ oprTmps y') e a.tmps) (hk : eqKind P t = some 3) (hb : x'.ev e = .bool b) (hc : y'.ev e = .bool c) : Out P o a loc h w (.bool (if neg then !(b == c) else b == c)) h := by
  have rx := copr_rep hx hg he.left
  have ry := copr_rep hy hg he.right
  rw [hb] at rx; rw [hc] at ry
  generalize hX : a.eval x = X at rx
  generalize hY : a.eval y = Y at ry
  cases rx; cases ry
  have hG : ∀ op, eqGuard op t x y (.bool b) (.bool c) = pure () := fun op => by cases op <;> rfl
  refine out_same s (v' := .bool (if neg then !(b == c) else b == c)) ?_ (.bool _)
  cases neg <;> simp [execOp, ho, hX, hY, hG, binOp, run_bool_eq hk]

theorem isVar_spec {b : Nat} (h0 : isVar h b = true) : ∃ vs, h.get b = some (.cells 0 false vs) := by
  unfold isVar at h0
  split at h0
  · rename_i e ro vs hg
    simp only [Bool.and_eq_true, Bool.not_eq_true'] at h0
    have : e = 0 := Nat.eq_of_beq_eq_true h0.1
    subst this
    exact ⟨vs, by rw [hg, h0.2]⟩
  · cases h0

theorem o_peq {neg : Bool} {t u : TypeId} {x y : Operand} {x' y' : Opr} {r : Bool} (ho : o.op = .binOp (if neg then .neq else .eql) t x y u) (hx : copr G x = some x') (hy : copr G y = some y') (hg : Globs G loc) (s : Sim loc h w)
    (he : AtRep loc (oprTmps x' ++ oprTmps y') e a.tmps) (hk : eqKind P t = some 1) (hr : ptrEq h (x'.ev e) (y'.ev e) = some r) : Out P o a loc h w (.bool (if neg then !r else r)) h := by
  have rx := copr_rep hx hg he.left
  have ry := copr_rep hy hg he.right
  obtain ⟨el, n, hu, hz⟩ := eqKind_ptr hk
  generalize hX : a.eval x = X at rx
  generalize hY : a.eval y = Y at ry
  have key0 : (∀ d : Nat, (Op.equalIn (d + 1) t X Y).run P w = .ok r w) ∧ ∀ op, eqGuard op t x y X Y = pure () := by
    generalize x'.ev e = A at *
    generalize y'.ev e = B at *
    unfold ptrEq at hr
    split at hr
    · cases rx; cases ry
      simp only [Option.some.injEq] at hr; subst hr
      exact ⟨fun d => by simp [Op.equalIn, run_und hu], fun op => by cases op <;> rfl⟩
    · cases rx; cases ry
      simp only [Option.some.injEq] at hr; subst hr
      exact ⟨fun d => by simp [Op.equalIn, run_und hu], fun op => by cases op <;> rfl⟩
    · cases rx; cases ry
      simp only [Option.some.injEq] at hr; subst hr
      exact ⟨fun d => by simp [Op.equalIn, run_und hu], fun op => by cases op <;> rfl⟩
    · rename_i b i c j
      split at hr
      · rename_i hv
        simp only [Bool.and_eq_true] at hv
        simp only [Option.some.injEq] at hr; subst hr
        obtain ⟨vs, gb⟩ := isVar_spec hv.1
        obtain ⟨us, gc⟩ := isVar_spec hv.2
        cases rx with
        | ptr _ _ l hl =>
        cases ry with
        | ptr _ _ m hm =>
        refine ⟨fun d => ?_, fun op => by cases op <;> rfl⟩
        obtain ⟨C, ty, fz, hC, -, -, -, -, hf⟩ := s.cells hl gb
        obtain ⟨D, tz, gz, hD, -, -, -, -, hf2⟩ := s.cells hm gc
        have hf := (hf rfl).1 rfl
        have hf2 := (hf2 rfl).1 rfl
        subst hf; subst hf2
        have hsz : (sizeOf el).run P w = .ok (n + 1) w := run_tsize hz
        simp only [Op.equalIn, Sem.run_bind, run_und hu, Result.andThen_ok, hsz, ne_eq, Nat.add_eq_zero_iff, Nat.succ_ne_self, and_false, not_false_eq_true, if_true, Nat.one_ne_zero]
        unfold sameAddr
        by_cases hbc : b = c
        · subst hbc
          rw [hl] at hm; cases hm
          have : (l.cb == l.cb) = true := by simp
          simp only [this, if_true]
          have e1 : ((⟨l.cb, l.base + i, none⟩ : Addr) == ⟨l.cb, l.base + j, none⟩) = (Nat.beq b b && Nat.beq i j) := by
            by_cases hij : i = j
            · subst hij
              have : Nat.beq i i = true := by simp
              have h2 : Nat.beq b b = true := by simp
              simp [this, h2]
            · have : Nat.beq i j = false := by
                cases hb : Nat.beq i j with
                | true => exact absurd (Nat.eq_of_beq_eq_true hb) hij
                | false => rfl
              rw [this]
              simp only [Bool.and_false, beq_eq_false_iff_ne, ne_eq, Addr.mk.injEq, true_and, and_true]
              omega
          rw [← e1]; simp
        · have hne : l.cb ≠ m.cb := s.inj b c l m hl hm hbc (by unfold writable; rw [gb]) (by unfold alive; rw [gc]; trivial)
          have h1 : (l.cb == m.cb) = false := by simp [hne]
          have h2 : Nat.beq b c = false := by
            cases hb : Nat.beq b c with
            | true => exact absurd (Nat.eq_of_beq_eq_true hb) hbc
            | false => rfl
          simp [h1, h2, World.frozen?, World.shape?, hC, hD, noView, viewAt, mayBeOne, stringish]
      · cases hr
    · cases hr
  have key : (Op.equal t X Y).run P w = .ok r w ∧ ∀ op, eqGuard op t x y X Y = pure () := ⟨key0.1 9999, key0.2⟩
  clear key0
  obtain ⟨k1, k2⟩ := key
  refine out_same s (v' := .bool (if neg then !r else r)) ?_ (.bool _)
  have hb : ∀ op : BinOp, op = .eql ∨ op = .neq → (binOp op t X Y).run P w = .ok (.bool (if op = .neq then !r else r)) w := by
    intro op hop
    generalize x'.ev e = A at *
    generalize y'.ev e = B at *
    unfold ptrEq at hr
    split at hr <;> (try cases hr) <;> (cases rx <;> cases ry <;> rcases hop with rfl | rfl <;> simp_all [binOp])
  cases neg
  · have := hb .eql (.inl rfl)
    simp [execOp, ho, hX, hY, k2, this]
  · have := hb .neq (.inr rfl)
    simp [execOp, ho, hX, hY, k2, this]
end
end Go.Ai

/- More operations that do not write. -/
set_option linter.unusedSimpArgs false
set_option linter.unusedVariables false
namespace Go.Ai
open Go

section
variable {G : List Nat} {P : Program} {loc : Loc} {h h' : AHeap} {w : World} {e : Env} {a : Act} {o : Oper} {v : AVal}

/-- what '== nil' is asked of has such a type -/
def nilKind (P : Program) (t : TypeId) : NK → Prop
  | .sl => eqKind P t = some 2
  | .mp => eqKind P t = some 4
  | .fn => eqKind P t = some 5

theorem o_nileq {k : NK} {neg : Bool} {t u : TypeId} {x y : Operand} {x' y' : Opr} {r : Bool} (ho : o.op = .binOp (if neg then .neq else .eql) t x y u) (hx : copr G x = some x') (hy : copr G y = some y') (hg : Globs G loc) (s : Sim loc h w)
    (he : AtRep loc (oprTmps x' ++ oprTmps y') e a.tmps) (hk : nilKind P t k) (hr : nilEq k (x'.ev e) (y'.ev e) = some r) : Out P o a loc h w (.bool (if neg then !r else r)) h := by
  have rx := copr_rep hx hg he.left
  have ry := copr_rep hy hg he.right
  generalize hX : a.eval x = X at rx
  generalize hY : a.eval y = Y at ry
  generalize x'.ev e = A at *
  generalize y'.ev e = B at *
  have key0 : (∀ d : Nat, (Op.equalIn (d + 1) t X Y).run P w = .ok r w) ∧ (∀ op, eqGuard op t x y X Y = pure ()) ∧ (binOp .eql t X Y = (do pure (.bool (← Op.equal t X Y)))) ∧ (binOp .neq t X Y = (do pure (.bool (!(← Op.equal t X Y))))) := by
    cases k
    · obtain ⟨el, hu⟩ := eqKind_sl hk
      unfold nilEq at hr
      split at hr <;> simp only [Option.some.injEq, reduceCtorEq] at hr <;> subst hr <;> (try contradiction) <;> cases rx <;> cases ry <;>
        exact ⟨fun d => by simp [Op.equalIn, run_und hu], fun op => by cases op <;> rfl, rfl, rfl⟩
    · obtain ⟨k, el, hu⟩ := eqKind_mp hk
      unfold nilEq at hr
      split at hr <;> simp only [Option.some.injEq, reduceCtorEq] at hr <;> subst hr <;> (try contradiction) <;> cases rx <;> cases ry <;>
        exact ⟨fun d => by simp [Op.equalIn, run_und hu], fun op => by cases op <;> rfl, rfl, rfl⟩
    · obtain ⟨p, q, z, hu⟩ := eqKind_fn hk
      unfold nilEq at hr
      split at hr <;> simp only [Option.some.injEq, reduceCtorEq] at hr <;> subst hr <;> (try contradiction) <;> cases rx <;> cases ry <;>
        exact ⟨fun d => by simp [Op.equalIn, run_und hu], fun op => by cases op <;> rfl, rfl, rfl⟩
  have key : (Op.equal t X Y).run P w = .ok r w := key0.1 9999
  obtain ⟨-, k2, k3, k4⟩ := key0
  refine out_same s (v' := .bool (if neg then !r else r)) ?_ (.bool _)
  cases neg <;> simp [execOp, ho, hX, hY, k2, k3, k4, key]

theorem o_un {op : UnOp} {t : TypeId} {x : Operand} {y : Opr} (ho : o.op = .unOp op t x) (hx : copr G x = some y) (hg : Globs G loc) (s : Sim loc h w) (he : AtRep loc (oprTmps y) e a.tmps)
    (hv : unop op (y.ev e) = some v) : Out P o a loc h w v h := by
  have rx := copr_rep hx hg he
  generalize hX : a.eval x = X at rx
  unfold unop at hv
  split at hv <;> simp only [Option.some.injEq, reduceCtorEq] at hv <;> subst hv <;> rename_i hy <;> rw [hy] at rx <;> cases rx
  · exact out_same s (v' := .bool _) (by simp [execOp, ho, hX, Op.unary]) (.bool _)
  · exact out_same s (v' := .int _ _) (by simp [execOp, ho, hX, Op.unary, Op.intArith]) (.int _ _)
  · exact out_same s (v' := .int _ _) (by simp [execOp, ho, hX, Op.unary, Op.intBits]) (.int _ _)

theorem o_mki {t : TypeId} {d : TypeDesc} {x : Operand} {y : Opr} (ho : o.op = .makeInterface t x) (hx : copr G x = some y) (hg : Globs G loc) (s : Sim loc h w) (he : AtRep loc (oprTmps y) e a.tmps)
    (hd : P.underlying t = some d) (hi : ∀ ms, d ≠ .interface ms) : Out P o a loc h w (.ifc t (y.ev e)) h := by
  refine out_same s (v' := .iface t (a.eval x)) ?_ (.ifc _ _ _ (copr_rep hx hg he))
  simp only [execOp, ho, Instr.makeInterface, Sem.run_bind, run_und hd, Result.andThen_ok]
  cases d <;> simp_all

theorem o_mkf {f : FuncId} {x y : Array Operand} {x' y' : List Opr} (ho : o.op = .makeFunc (.func f) x y) (hx : coprs G x.toList = some x') (hy : coprs G y.toList = some y') (hg : Globs G loc) (s : Sim loc h w)
    (he : AtRep loc (oprsTmps x' ++ oprsTmps y') e a.tmps) : Out P o a loc h w (.fn f (x'.map (·.ev e)) (y'.map (·.ev e))) h := by
  refine out_same s (v' := .func (.func f) (x.toList.map a.eval).toArray (y.toList.map a.eval).toArray) ?_ (.fn f _ _ _ _ (coprs_rep hx hg he.left) (coprs_rep hy hg he.right))
  have hm : ∀ z : Array Operand, z.map a.eval = (z.toList.map a.eval).toArray := fun z => by rw [← Array.toList_map]
  simp [execOp, ho, Instr.makeFunc, hm]

theorem o_fa {t : TypeId} {fs : Array Field} {i n : Nat} {f : Field} {x : Operand} {y : Opr} {b off : Nat} (ho : o.op = .fieldAddr t x i) (hx : copr G x = some y) (hg : Globs G loc) (s : Sim loc h w) (he : AtRep loc (oprTmps y) e a.tmps)
    (hu : P.underlying t = some (.struct fs)) (hf : fs[i]? = some f) (hz : tsize P f.type = some (n + 1)) (hp : y.ev e = .ptr b off) : Out P o a loc h w (.ptr b (off + f.offset)) h := by
  have rx := copr_rep hx hg he
  rw [hp] at rx
  generalize hX : a.eval x = X at rx
  cases rx with
  | ptr _ _ l hl =>
    refine out_same s (v' := .pointer (some ⟨l.cb, l.base + (off + f.offset), none⟩)) ?_ (.ptr _ _ l hl)
    have hsz : (sizeOf f.type).run P w = .ok (n + 1) w := run_tsize hz
    simp [execOp, ho, hX, Instr.fieldAt, run_und hu, hf, Instr.sureAddr, fieldPlace, hsz, addr_add, Nat.add_assoc]

theorem ofCells_part {g : Bool} {n off : Nat} {cs : List AVal} {cs' : List Value} {t : TypeId} (hr : RepL loc cs cs') (hv : (slice cs off n).bind (ofCells g) = some v) (ht : tagg P t = some g) (hn : tsize P t = some n) :
    ∃ v', (part t cs'.toArray off).run P w = .ok v' w ∧ Rep loc v v' := by
  simp only [Option.bind_eq_some_iff] at hv
  obtain ⟨xs, hxs, hv⟩ := hv
  obtain ⟨hle, rfl⟩ := slice_some hxs
  have hr2 := (hr.drop off).take n
  unfold part
  simp only [Sem.run_bind, run_tagg ht, Result.andThen_ok]
  unfold ofCells at hv
  cases g with
  | true =>
    simp only [if_true, Option.some.injEq] at hv; subst hv
    refine ⟨.agg ((cs'.drop off).take n).toArray, ?_, .agg _ _ hr2⟩
    simp [run_tsize hn, List.take_drop]
  | false =>
    simp only [Bool.false_eq_true, if_false] at hv
    split at hv
    · rename_i x hx
      simp only [Option.some.injEq] at hv; subst hv
      rw [hx] at hr2
      generalize hy : (cs'.drop off).take n = ys at hr2
      cases hr2 with
      | cons _ v' _ _ h1 h2 =>
        cases h2
        refine ⟨v', ?_, h1⟩
        have h3 : ((cs'.drop off).take n)[0]? = some v' := by rw [hy]; rfl
        have hn0 : 0 < n := by
          rcases Nat.eq_zero_or_pos n with h0 | h0
          · subst h0; simp at hy
          · exact h0
        rw [List.getElem?_take, if_pos hn0, List.getElem?_drop, Nat.add_zero] at h3
        simp [h3]
    · cases hv

theorem o_fld {t : TypeId} {fs : Array Field} {i n : Nat} {f : Field} {x : Operand} {y : Opr} {cs : List AVal} {g : Bool} (ho : o.op = .field t x i) (hx : copr G x = some y) (hg : Globs G loc) (s : Sim loc h w) (he : AtRep loc (oprTmps y) e a.tmps)
    (hu : P.underlying t = some (.struct fs)) (hf : fs[i]? = some f) (ht : tagg P f.type = some g) (hz : tsize P f.type = some n) (hp : y.ev e = .agg cs) (hv : (slice cs f.offset n).bind (ofCells g) = some v) : Out P o a loc h w v h := by
  have rx := copr_rep hx hg he
  rw [hp] at rx
  generalize hX : a.eval x = X at rx
  cases rx with
  | agg _ cs' hc =>
    obtain ⟨v', hr, hv'⟩ := ofCells_part (P := P) (w := w) hc hv ht hz
    exact out_same s (v' := v') (by simp [execOp, ho, hX, Instr.field, run_und hu, hf, asAgg, hr]) hv'

theorem o_ext {i : Nat} {x : Operand} {y : Opr} {vs : List AVal} (ho : o.op = .extract x i) (hx : copr G x = some y) (hg : Globs G loc) (s : Sim loc h w) (he : AtRep loc (oprTmps y) e a.tmps)
    (hp : y.ev e = .tup vs) (hv : vs[i]? = some v) : Out P o a loc h w v h := by
  have rx := copr_rep hx hg he
  rw [hp] at rx
  generalize hX : a.eval x = X at rx
  cases rx with
  | tup _ cs' hc =>
    obtain ⟨v', h1, h2⟩ := hc.get i v hv
    exact out_same s (v' := v') (by simp [execOp, ho, hX, Instr.extract, h1]) h2

theorem o_ia_sl {t el : TypeId} {x z : Operand} {y u : Opr} {sz b off len cap ez : Nat} {k : IntKind} {i : Int} (ho : o.op = .indexAddr t x z) (hx : copr G x = some y) (hz : copr G z = some u) (hg : Globs G loc) (s : Sim loc h w)
    (he : AtRep loc (oprTmps y ++ oprTmps u) e a.tmps) (hu : P.underlying t = some (.slice el)) (hs : tsize P el = some sz) (hp : y.ev e = .sl b off len cap ez) (hi : u.ev e = .int k i) (hb : 0 ≤ i ∧ i < len) :
    Out P o a loc h w (.ptr b (off + i.toNat * sz)) h := by
  have rx := copr_rep hx hg he.left
  have rz := copr_rep hz hg he.right
  rw [hp] at rx; rw [hi] at rz
  generalize hX : a.eval x = X at rx
  generalize hZ : a.eval z = Z at rz
  cases rz
  cases rx with
  | sl _ _ _ _ _ c l hl hc hz =>
    refine out_same s (v' := .pointer (some ⟨l.cb, l.base + (off + i.toNat * sz), none⟩)) ?_ (.ptr _ _ l hl)
    simp [execOp, ho, hX, hZ, Instr.indexAt, asIntOf, run_und hu, hb, run_tsize hs, addr_add, Nat.add_assoc]
  | sl0 => omega

theorem o_ia_arr {t el : TypeId} {x z : Operand} {y u : Opr} {n sz b off : Nat} {k : IntKind} {i : Int} (ho : o.op = .indexAddr t x z) (hx : copr G x = some y) (hz : copr G z = some u) (hg : Globs G loc) (s : Sim loc h w)
    (he : AtRep loc (oprTmps y ++ oprTmps u) e a.tmps) (hu : P.underlying t = some (.array n el)) (hs : tsize P el = some sz) (hp : y.ev e = .ptr b off) (hi : u.ev e = .int k i) (hb : 0 ≤ i ∧ i < n) :
    Out P o a loc h w (.ptr b (off + i.toNat * sz)) h := by
  have rx := copr_rep hx hg he.left
  have rz := copr_rep hz hg he.right
  rw [hp] at rx; rw [hi] at rz
  generalize hX : a.eval x = X at rx
  generalize hZ : a.eval z = Z at rz
  cases rz
  cases rx with
  | ptr _ _ l hl =>
    refine out_same s (v' := .pointer (some ⟨l.cb, l.base + (off + i.toNat * sz), none⟩)) ?_ (.ptr _ _ l hl)
    simp [execOp, ho, hX, hZ, Instr.indexAt, asIntOf, run_und hu, hb, run_tsize hs, addr_add, Nat.add_assoc, Instr.sureAddr]

theorem o_idx_str {t : TypeId} {x z : Operand} {y u : Opr} {st : List UInt8} {k : IntKind} {i : Int} {c : UInt8} (ho : o.op = .index t x z) (hx : copr G x = some y) (hz : copr G z = some u) (hg : Globs G loc) (s : Sim loc h w)
    (he : AtRep loc (oprTmps y ++ oprTmps u) e a.tmps) (hu : P.underlying t = some .string) (hp : y.ev e = .str st) (hi : u.ev e = .int k i) (hb : 0 ≤ i) (hc : st[i.toNat]? = some c) :
    Out P o a loc h w (byteV c) h := by
  have rx := copr_rep hx hg he.left
  have rz := copr_rep hz hg he.right
  rw [hp] at rx; rw [hi] at rz
  generalize hX : a.eval x = X at rx
  generalize hZ : a.eval z = Z at rz
  cases rz; cases rx
  refine out_same s (v' := .int .u8 c.toNat) ?_ (.int _ _)
  have hget : (⟨st.toArray⟩ : ByteArray)[i.toNat]? = some c := by
    have : i.toNat < st.length := by
      rcases Nat.lt_or_ge i.toNat st.length with h | h
      · exact h
      · rw [List.getElem?_eq_none h] at hc; cases hc
    rw [getElem?_pos (⟨st.toArray⟩ : ByteArray) i.toNat (by simpa [ByteArray.size] using this)]
    rw [List.getElem?_eq_getElem this] at hc
    simp only [Option.some.injEq] at hc ⊢
    rw [← hc]; rfl
  simp [execOp, ho, hX, hZ, Instr.index, asIntOf, run_und hu, hb, hget]

theorem o_idx_arr {t el : TypeId} {x z : Operand} {y u : Opr} {n sz : Nat} {g : Bool} {cs : List AVal} {k : IntKind} {i : Int} (ho : o.op = .index t x z) (hx : copr G x = some y) (hz : copr G z = some u) (hg : Globs G loc) (s : Sim loc h w)
    (he : AtRep loc (oprTmps y ++ oprTmps u) e a.tmps) (hu : P.underlying t = some (.array n el)) (ht : tagg P el = some g) (hs : tsize P el = some sz) (hp : y.ev e = .agg cs) (hi : u.ev e = .int k i) (hb : 0 ≤ i ∧ i < n)
    (hv : (slice cs (i.toNat * sz) sz).bind (ofCells g) = some v) : Out P o a loc h w v h := by
  have rx := copr_rep hx hg he.left
  have rz := copr_rep hz hg he.right
  rw [hp] at rx; rw [hi] at rz
  generalize hX : a.eval x = X at rx
  generalize hZ : a.eval z = Z at rz
  cases rz
  cases rx with
  | agg _ cs' hc =>
    obtain ⟨v', hr, hv'⟩ := ofCells_part (P := P) (w := w) hc hv ht hs
    exact out_same s (v' := v') (by simp [execOp, ho, hX, hZ, Instr.index, asIntOf, run_und hu, hb, run_tsize hs, hr]) hv'

theorem o_mn {x z : Operand} {y u : Opr} {k k' : IntKind} {i j : Int} {c : Call} (ho : o.op = .call c) (hc : c.callee = .builtin .min) (ha : c.args.toList = [x, z]) (hx : copr G x = some y) (hz : copr G z = some u) (hg : Globs G loc) (s : Sim loc h w)
    (he : AtRep loc (oprTmps y ++ oprTmps u) e a.tmps) (hi : y.ev e = .int k i) (hj : u.ev e = .int k' j) : Out P o a loc h w (.int k (if j < i then j else i)) h := by
  have rx := copr_rep hx hg he.left
  have rz := copr_rep hz hg he.right
  rw [hi] at rx; rw [hj] at rz
  generalize hX : a.eval x = X at rx
  generalize hZ : a.eval z = Z at rz
  cases rz; cases rx
  have hargs : c.args = #[x, z] := by apply Array.ext'; simpa using ha
  refine out_same s (v' := .int k (if j < i then j else i)) ?_ (.int _ _)
  simp [execOp, ho, resolve, hc, hargs, invoke, builtin, Builtin.min_, hX, hZ, Builtin.min2]

theorem o_mx {x z : Operand} {y u : Opr} {k k' : IntKind} {i j : Int} {c : Call} (ho : o.op = .call c) (hc : c.callee = .builtin .max) (ha : c.args.toList = [x, z]) (hx : copr G x = some y) (hz : copr G z = some u) (hg : Globs G loc) (s : Sim loc h w)
    (he : AtRep loc (oprTmps y ++ oprTmps u) e a.tmps) (hi : y.ev e = .int k i) (hj : u.ev e = .int k' j) : Out P o a loc h w (.int k (if j > i then j else i)) h := by
  have rx := copr_rep hx hg he.left
  have rz := copr_rep hz hg he.right
  rw [hi] at rx; rw [hj] at rz
  generalize hX : a.eval x = X at rx
  generalize hZ : a.eval z = Z at rz
  cases rz; cases rx
  have hargs : c.args = #[x, z] := by apply Array.ext'; simpa using ha
  refine out_same s (v' := .int k (if j > i then j else i)) ?_ (.int _ _)
  simp [execOp, ho, resolve, hc, hargs, invoke, builtin, Builtin.max_, hX, hZ, Builtin.max2]

theorem o_tass {t u : TypeId} {d : TypeDesc} {x : Operand} {y : Opr} (ho : o.op = .typeAssert x u t false) (hx : copr G x = some y) (hg : Globs G loc) (s : Sim loc h w) (he : AtRep loc (oprTmps y) e a.tmps)
    (hd : P.underlying t = some d) (hi : ∀ ms, d ≠ .interface ms) (hp : y.ev e = .ifc t v) : Out P o a loc h w v h := by
  have rx := copr_rep hx hg he
  rw [hp] at rx
  generalize hX : a.eval x = X at rx
  cases rx with
  | ifc _ _ v' hv =>
    refine out_same s (v' := v') ?_ hv
    simp only [execOp, ho, hX, Instr.typeAssert, Sem.run_bind, run_und hd, Result.andThen_ok]
    cases d <;> simp_all
end
end Go.Ai

/- Slicing, lengths, look-ups, parts put together. -/
set_option linter.unusedSimpArgs false
set_option linter.unusedVariables false
namespace Go.Ai
open Go

section
variable {G : List Nat} {P : Program} {loc : Loc} {h h' : AHeap} {w : World} {e : Env} {a : Act} {o : Oper} {v : AVal}

theorem bound_some {x : AVal} {x' : Value} {y m : Nat} (hx : Rep loc x x') (hb : bound x y = some m) : ∃ k n, x' = .int k n ∧ 0 ≤ n ∧ n ≤ y ∧ m = n.toNat := by
  unfold bound at hb
  split at hb
  · cases hx
    split at hb
    · rename_i hc
      simp only [Option.some.injEq] at hb; subst hb
      exact ⟨_, _, rfl, hc.1, hc.2, rfl⟩
    · cases hb
  · cases hb

theorem run_sliceBound {x : AVal} {x' : Value} {y m : Nat} (hx : Rep loc x x') (hb : bound x y = some m) (code : BoundsCode) (z : Nat) (hz : y ≤ z) : (Instr.sliceBound x' z code).run P w = .ok m w ∧ m ≤ y := by
  obtain ⟨k, n, rfl, h0, h1, rfl⟩ := bound_some hx hb
  have : 0 ≤ n ∧ n ≤ (z : Int) := ⟨h0, by omega⟩
  exact ⟨by simp [Instr.sliceBound, asIntOf, this], by omega⟩

/-- an operand that may be missing -/
def RepO (loc : Loc) : Option AVal → Option Value → Prop
  | none, none => True
  | some x, some y => Rep loc x y
  | _, _ => False

/-- the bounds, where the world's capacity may be greater -/
theorem run_bounds {lo hi mx : Option AVal} {lo' hi' mx' : Option Value} {len cap c l u m : Nat} (hlo : RepO loc lo lo') (hhi : RepO loc hi hi') (hmx : RepO loc mx mx') (hb : bounds len cap lo hi mx = some (l, u, m))
    (hc : cap ≤ c) (isS : Bool) : ∃ m', (Instr.sliceBounds isS len c lo' hi' mx').run P w = .ok (l, u, m') w ∧ m ≤ m' ∧ m' ≤ c ∧ l ≤ u ∧ u ≤ m ∧ (mx.isSome → m' = m) ∧ (mx = none → m = cap ∧ m' = c) := by
  unfold bounds at hb
  simp only [Option.bind_eq_some_iff] at hb
  obtain ⟨m0, hm0, h0, hh0, l0, hl0, hb⟩ := hb
  simp only [Option.some.injEq, Prod.mk.injEq] at hb
  obtain ⟨rfl, rfl, rfl⟩ := hb
  have hM : ∃ m', m0 ≤ m' ∧ m' ≤ c ∧ (mx.isSome → m' = m0) ∧ (mx = none → m0 = cap ∧ m' = c) ∧ ((mx = none ∧ mx' = none ∧ m' = c) ∨ ∃ v, mx' = some v ∧ ∀ code, (Instr.sliceBound v c code).run P w = .ok m' w) := by
    cases mx with
    | none => cases mx' with
      | none => simp only [Option.some.injEq] at hm0; subst hm0; exact ⟨c, hc, Nat.le_refl _, by simp, fun _ => ⟨rfl, rfl⟩, .inl ⟨rfl, rfl, rfl⟩⟩
      | some _ => exact hmx.elim
    | some x => cases mx' with
      | none => exact hmx.elim
      | some y => exact ⟨m0, Nat.le_refl _, by have := (run_sliceBound (P := P) (w := w) hmx hm0 .index c hc).2; omega, fun _ => rfl, by simp, .inr ⟨y, rfl, fun code => (run_sliceBound (P := P) (w := w) hmx hm0 code c hc).1⟩⟩
  obtain ⟨m', h1, h2, h3, h4, hM⟩ := hM
  have hH : h0 ≤ m0 ∧ ((hi' = none ∧ mx' = none ∧ h0 = len) ∨ ∃ v, hi' = some v ∧ ∀ code, (Instr.sliceBound v m' code).run P w = .ok h0 w) := by
    cases hi with
    | none => cases hi' with
      | none =>
        simp only at hh0
        split at hh0
        · cases hh0
        · rename_i hns
          split at hh0
          case isFalse => cases hh0
          rename_i hle
          simp only [Option.some.injEq] at hh0; subst hh0
          cases mx with
          | some _ => simp at hns
          | none => cases mx' with
            | none => exact ⟨hle, .inl ⟨rfl, rfl, rfl⟩⟩
            | some _ => exact hmx.elim
      | some _ => exact hhi.elim
    | some x => cases hi' with
      | none => exact hhi.elim
      | some y => exact ⟨(run_sliceBound (P := P) (w := w) hhi hh0 .index m' h1).2, .inr ⟨y, rfl, fun code => (run_sliceBound (P := P) (w := w) hhi hh0 code m' h1).1⟩⟩
  have hL : l0 ≤ h0 ∧ ((lo' = none ∧ l0 = 0) ∨ ∃ v, lo' = some v ∧ ∀ code, (Instr.sliceBound v h0 code).run P w = .ok l0 w) := by
    cases lo with
    | none => cases lo' with
      | none => simp only [Option.some.injEq] at hl0; subst hl0; exact ⟨Nat.zero_le _, .inl ⟨rfl, rfl⟩⟩
      | some _ => exact hlo.elim
    | some x => cases lo' with
      | none => exact hlo.elim
      | some y => exact ⟨(run_sliceBound (P := P) (w := w) hlo hl0 .index h0 (Nat.le_refl _)).2, .inr ⟨y, rfl, fun code => (run_sliceBound (P := P) (w := w) hlo hl0 code h0 (Nat.le_refl _)).1⟩⟩
  refine ⟨m', ?_, h1, h2, hL.1, hH.1, h3, h4⟩
  unfold Instr.sliceBounds
  rcases hM with ⟨_, rfl, rfl⟩ | ⟨v1, rfl, r1⟩ <;> rcases hH.2 with ⟨rfl, e2, rfl⟩ | ⟨v2, rfl, r2⟩ <;> rcases hL.2 with ⟨rfl, rfl⟩ | ⟨v3, rfl, r3⟩ <;> (try cases e2) <;> simp_all

theorem oopr_rep {x : Option Operand} {y : Option Opr} (hc : oopr G x = some y) (hg : Globs G loc) (he : AtRep loc (ooprTmps y) e a.tmps) : RepO loc (y.map (·.ev e)) (x.map a.eval) := by
  cases x with
  | none => simp only [oopr, Option.some.injEq] at hc; subst hc; trivial
  | some x =>
    simp only [oopr, Option.map_eq_some_iff] at hc
    obtain ⟨z, hz, rfl⟩ := hc
    exact copr_rep hz hg he

theorem o_slc_str {t : TypeId} {x : Operand} {y : Opr} {lo hi : Option Operand} {lo' hi' : Option Opr} {st : List UInt8} {l u m : Nat} (ho : o.op = .slice t x lo hi none) (hx : copr G x = some y) (hlo : oopr G lo = some lo') (hhi : oopr G hi = some hi')
    (hg : Globs G loc) (s : Sim loc h w) (he : AtRep loc (oprTmps y ++ (ooprTmps lo' ++ (ooprTmps hi' ++ []))) e a.tmps) (hu : P.underlying t = some .string) (hp : y.ev e = .str st)
    (hb : bounds st.length st.length (lo'.map (·.ev e)) (hi'.map (·.ev e)) none = some (l, u, m)) : Out P o a loc h w (.str ((st.drop l).take (u - l))) h := by
  have rx := copr_rep hx hg he.left
  rw [hp] at rx
  generalize hX : a.eval x = X at rx
  cases rx
  obtain ⟨m', hrun, -⟩ := run_bounds (P := P) (w := w) (oopr_rep hlo hg he.right.left) (oopr_rep hhi hg he.right.right.left) (show RepO loc none none from trivial) hb (Nat.le_refl _) false
  refine out_same s (v' := .string ⟨((st.drop l).take (u - l)).toArray⟩) ?_ (.str _)
  have hsz : (⟨st.toArray⟩ : ByteArray).size = st.length := by simp [ByteArray.size]
  have hext : (⟨st.toArray⟩ : ByteArray).extract l u = ⟨((st.drop l).take (u - l)).toArray⟩ := by
    apply ByteArray.ext
    simp
  simp [execOp, ho, hX, Instr.sliceAt, run_und hu, Instr.slice, hsz, hrun, hext]

theorem o_slc_sl {t el : TypeId} {x : Operand} {y : Opr} {lo hi mx : Option Operand} {lo' hi' mx' : Option Opr} {sz b off len cap l u m : Nat} (ho : o.op = .slice t x lo hi mx) (hx : copr G x = some y) (hlo : oopr G lo = some lo') (hhi : oopr G hi = some hi') (hmx : oopr G mx = some mx')
    (hg : Globs G loc) (s : Sim loc h w) (he : AtRep loc (oprTmps y ++ (ooprTmps lo' ++ (ooprTmps hi' ++ ooprTmps mx'))) e a.tmps) (hu : P.underlying t = some (.slice el)) (hsz : tsize P el = some sz) (hp : y.ev e = .sl b off len cap sz)
    (hb : bounds len cap (lo'.map (·.ev e)) (hi'.map (·.ev e)) (mx'.map (·.ev e)) = some (l, u, m)) : Out P o a loc h w (.sl b (off + l * sz) (u - l) (m - l) sz) h := by
  have rx := copr_rep hx hg he.left
  rw [hp] at rx
  generalize hX : a.eval x = X at rx
  cases rx with
  | sl _ _ _ _ _ c L hl hc hz =>
    obtain ⟨m', hrun, h1, h2, h3, h4, h5, h6⟩ := run_bounds (P := P) (w := w) (oopr_rep hlo hg he.right.left) (oopr_rep hhi hg he.right.right.left) (oopr_rep hmx hg he.right.right.right) hb hc true
    by_cases hml : m' = l
    · have e1 : u - l = 0 := by omega
      have e2 : m - l = 0 := by omega
      rw [e1, e2]
      refine out_same s (v' := .slice (some ⟨L.cb, L.base + off, none⟩) 0 0) ?_ (.sl0 _ _ _ _ _ hl)
      have e3 : m' - l = 0 := by omega
      simp [execOp, ho, hX, Instr.sliceAt, run_und hu, Instr.slice, hrun, run_tsize hsz, hml, e1, e3]
    · refine out_same s (v' := .slice (some ⟨L.cb, L.base + (off + l * sz), none⟩) (u - l) (m' - l)) ?_ (.sl _ _ _ _ _ _ L hl (by omega) ?_)
      · simp [execOp, ho, hX, Instr.sliceAt, run_und hu, Instr.slice, hrun, run_tsize hsz, hml, addr_add, Nat.add_assoc]
      · intro hne
        have := (hz hne).2
        refine ⟨(hz hne).1, ?_⟩
        have e4 : off + l * sz + (m' - l) * sz = off + m' * sz := by rw [Nat.add_assoc, ← Nat.add_mul]; congr 2; omega
        rw [e4]
        have := Nat.mul_le_mul_right sz h2
        omega
  | sl0 _ _ _ A L hl =>
    obtain ⟨m', hrun, h1, h2, h3, h4, h5, h6⟩ := run_bounds (P := P) (w := w) (oopr_rep hlo hg he.right.left) (oopr_rep hhi hg he.right.right.left) (oopr_rep hmx hg he.right.right.right) hb (Nat.le_refl _) true
    have e1 : l = 0 := by omega
    have e2 : u = 0 := by omega
    have e3 : m = 0 := by omega
    have e4 : m' = 0 := by omega
    subst e1; subst e2; subst e3; subst e4
    refine out_same s (v' := .slice (some A) 0 0) ?_ (.sl0 _ _ _ _ _ hl)
    simp [execOp, ho, hX, Instr.sliceAt, run_und hu, Instr.slice, hrun, run_tsize hsz]

theorem o_slc_nil {t el : TypeId} {x : Operand} {y : Opr} {lo hi mx : Option Operand} {lo' hi' mx' : Option Opr} {sz l u m : Nat} (ho : o.op = .slice t x lo hi mx) (hx : copr G x = some y) (hlo : oopr G lo = some lo') (hhi : oopr G hi = some hi') (hmx : oopr G mx = some mx')
    (hg : Globs G loc) (s : Sim loc h w) (he : AtRep loc (oprTmps y ++ (ooprTmps lo' ++ (ooprTmps hi' ++ ooprTmps mx'))) e a.tmps) (hu : P.underlying t = some (.slice el)) (hsz : tsize P el = some sz) (hp : y.ev e = .nils)
    (hb : bounds 0 0 (lo'.map (·.ev e)) (hi'.map (·.ev e)) (mx'.map (·.ev e)) = some (l, u, m)) : Out P o a loc h w .nils h := by
  have rx := copr_rep hx hg he.left
  rw [hp] at rx
  generalize hX : a.eval x = X at rx
  cases rx
  obtain ⟨m', hrun, h1, h2, h3, h4, h5, h6⟩ := run_bounds (P := P) (w := w) (oopr_rep hlo hg he.right.left) (oopr_rep hhi hg he.right.right.left) (oopr_rep hmx hg he.right.right.right) hb (Nat.le_refl _) true
  have e1 : l = 0 := by omega
  have e2 : u = 0 := by omega
  have e4 : m' = 0 := by omega
  subst e1; subst e2; subst e4
  exact out_same s (v' := .slice none 0 0) (by simp [execOp, ho, hX, Instr.sliceAt, run_und hu, Instr.slice, hrun, run_tsize hsz]) .nils

theorem o_slc_arr {t el : TypeId} {x : Operand} {y : Opr} {lo hi mx : Option Operand} {lo' hi' mx' : Option Opr} {n sz b off l u m : Nat} (ho : o.op = .slice t x lo hi mx) (hx : copr G x = some y) (hlo : oopr G lo = some lo') (hhi : oopr G hi = some hi') (hmx : oopr G mx = some mx')
    (hg : Globs G loc) (s : Sim loc h w) (he : AtRep loc (oprTmps y ++ (ooprTmps lo' ++ (ooprTmps hi' ++ ooprTmps mx'))) e a.tmps) (hu : P.underlying t = some (.array n el)) (hsz : tsize P el = some sz) (hp : y.ev e = .ptr b off)
    (hsize : ∀ l, loc b = some l → l.e = 0)
    (hb : bounds n n (lo'.map (·.ev e)) (hi'.map (·.ev e)) (mx'.map (·.ev e)) = some (l, u, m)) : Out P o a loc h w (.sl b (off + l * sz) (u - l) (m - l) sz) h := by
  have rx := copr_rep hx hg he.left
  rw [hp] at rx
  generalize hX : a.eval x = X at rx
  cases rx with
  | ptr _ _ L hl =>
    obtain ⟨m', hrun, h1, h2, h3, h4, h5, h6⟩ := run_bounds (P := P) (w := w) (oopr_rep hlo hg he.right.left) (oopr_rep hhi hg he.right.right.left) (oopr_rep hmx hg he.right.right.right) hb (Nat.le_refl _) false
    by_cases hml : m' = l
    · have e1 : u - l = 0 := by omega
      have e2 : m - l = 0 := by omega
      rw [e1, e2]
      refine out_same s (v' := .slice (some ⟨L.cb, L.base + off, none⟩) 0 0) ?_ (.sl0 _ _ _ _ _ hl)
      simp [execOp, ho, hX, Instr.sliceAt, run_und hu, Instr.sureAddr, hrun, run_tsize hsz, hml, e1]
    · refine out_same s (v' := .slice (some ⟨L.cb, L.base + (off + l * sz), none⟩) (u - l) (m' - l)) ?_ (.sl _ _ _ _ _ _ L hl (by omega) (fun hne => absurd (hsize L hl) hne))
      simp [execOp, ho, hX, Instr.sliceAt, run_und hu, Instr.sureAddr, hrun, run_tsize hsz, hml, addr_add, Nat.add_assoc]

theorem run_builtin {b : Builtin} {c : Call} {xs : List Operand} (ho : o.op = .call c) (hc : c.callee = .builtin b) (ha : c.args.toList = xs) {n : Next} {w' : World}
    (hr : (builtin b c.argTypes o.type (c.args.map fun | .const _ => true | _ => false) (xs.map a.eval).toArray).run P w = .ok n w') : (execOp a.eval o).run P w = .ok n w' := by
  have hargs : c.args.map a.eval = (xs.map a.eval).toArray := by rw [← ha, ← Array.toList_map]
  simp only [execOp, ho, Sem.run_bind, resolve, hc, Sem.run_pure, Result.andThen_ok, invoke, hargs]
  exact hr

theorem o_len_str {x : Operand} {y : Opr} {st : List UInt8} {c : Call} (ho : o.op = .call c) (hc : c.callee = .builtin .len) (ha : c.args.toList = [x]) (hx : copr G x = some y) (hg : Globs G loc) (s : Sim loc h w) (he : AtRep loc (oprTmps y) e a.tmps)
    {t : TypeId} (ht : c.argTypes[0]? = some t) (hu : P.underlying t = some .string) (hp : y.ev e = .str st) : Out P o a loc h w (goI st.length) h := by
  have rx := copr_rep hx hg he
  rw [hp] at rx
  generalize hX : a.eval x = X at rx
  cases rx
  refine out_same s (v' := .int .i64 st.length) (run_builtin ho hc ha ?_) (.int _ _)
  have hsz : (⟨st.toArray⟩ : ByteArray).size = st.length := by simp [ByteArray.size]
  simp [builtin, Builtin.len_, ht, run_und hu, hX, goInt, hsz]

theorem o_len_sl {x : Operand} {y : Opr} {b off n cap ez : Nat} {c : Call} (ho : o.op = .call c) (hc : c.callee = .builtin .len) (ha : c.args.toList = [x]) (hx : copr G x = some y) (hg : Globs G loc) (s : Sim loc h w) (he : AtRep loc (oprTmps y) e a.tmps)
    {t el : TypeId} (ht : c.argTypes[0]? = some t) (hu : P.underlying t = some (.slice el)) (hp : y.ev e = .sl b off n cap ez) : Out P o a loc h w (goI n) h := by
  have rx := copr_rep hx hg he
  rw [hp] at rx
  generalize hX : a.eval x = X at rx
  refine out_same s (v' := .int .i64 n) (run_builtin ho hc ha ?_) (.int _ _)
  cases rx <;> simp [builtin, Builtin.len_, ht, run_und hu, hX, goInt]

theorem o_len_nils {x : Operand} {y : Opr} {c : Call} (ho : o.op = .call c) (hc : c.callee = .builtin .len) (ha : c.args.toList = [x]) (hx : copr G x = some y) (hg : Globs G loc) (s : Sim loc h w) (he : AtRep loc (oprTmps y) e a.tmps)
    {t el : TypeId} (ht : c.argTypes[0]? = some t) (hu : P.underlying t = some (.slice el)) (hp : y.ev e = .nils) : Out P o a loc h w (goI 0) h := by
  have rx := copr_rep hx hg he
  rw [hp] at rx
  generalize hX : a.eval x = X at rx
  refine out_same s (v' := .int .i64 (0 : Nat)) (run_builtin ho hc ha ?_) (.int _ _)
  cases rx; simp [builtin, Builtin.len_, ht, run_und hu, hX, goInt]

theorem o_len_nilm {x : Operand} {y : Opr} {c : Call} (ho : o.op = .call c) (hc : c.callee = .builtin .len) (ha : c.args.toList = [x]) (hx : copr G x = some y) (hg : Globs G loc) (s : Sim loc h w) (he : AtRep loc (oprTmps y) e a.tmps)
    {t k el : TypeId} (ht : c.argTypes[0]? = some t) (hu : P.underlying t = some (.map k el)) (hp : y.ev e = .nilm) : Out P o a loc h w (goI 0) h := by
  have rx := copr_rep hx hg he
  rw [hp] at rx
  generalize hX : a.eval x = X at rx
  refine out_same s (v' := .int .i64 (0 : Nat)) (run_builtin ho hc ha ?_) (.int _ _)
  cases rx; simp [builtin, Builtin.len_, ht, run_und hu, hX, goInt]

theorem Sim.map {b : Nat} {l : L} {es : List (AVal × AVal)} (s : Sim loc h w) (hl : loc b = some l) (hg : h.get b = some (.map es)) :
    ∃ es' ck, w.heap[l.cb]? = some (.map es' ck) ∧ Dist es ∧ MapKept.Stamped es' ck ∧ ∃ c, List.Perm c es'.toList ∧ RepE loc es c := by
  obtain ⟨o', ho, hr⟩ := s.obj b l _ hl hg
  cases o' with
  | map es' ck => exact ⟨es', ck, ho, hr⟩
  | _ => exact hr.elim

theorem run_getObj_map {r : Nat} {es : Array MapEntry} {ck : Nat} (hm : w.heap[r]? = some (.map es ck)) : (getObj r).run P w = .ok (.map es ck) w := by
  simp [getObj, Sem.run, hm]

theorem o_len_mp {x : Operand} {y : Opr} {b : Nat} {es : List (AVal × AVal)} {c : Call} (ho : o.op = .call c) (hc : c.callee = .builtin .len) (ha : c.args.toList = [x]) (hx : copr G x = some y) (hg : Globs G loc) (s : Sim loc h w) (he : AtRep loc (oprTmps y) e a.tmps)
    {t k el : TypeId} (ht : c.argTypes[0]? = some t) (hu : P.underlying t = some (.map k el)) (hp : y.ev e = .mp b) (hm : h.get b = some (.map es)) : Out P o a loc h w (goI es.length) h := by
  have rx := copr_rep hx hg he
  rw [hp] at rx
  generalize hX : a.eval x = X at rx
  cases rx with
  | mp _ l hl =>
    obtain ⟨es', ck, h1, -, -, c2, h2, h3⟩ := s.map hl hm
    refine out_same s (v' := .int .i64 es.length) (run_builtin ho hc ha ?_) (.int _ _)
    have : es'.size = es.length := by rw [h3.length, h2.length_eq]; simp
    simp [builtin, Builtin.len_, ht, run_und hu, hX, goInt, run_getObj_map h1, this]
end
end Go.Ai

