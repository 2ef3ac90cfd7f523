/- An evaluator for the model's code, proved sound: part AiA. Not of one program: lemmas for the claim. -/
import GoSem.Dispatch
/- An evaluator for the model's code without a world and without a tape: its values, its heap, its operations. -/
namespace Go.Ai

/-- Abstract values: blocks have numbers of their own. -/
inductive AVal where
  | bool (b : Bool)
  | int (k : IntKind) (n : Int)
  | str (s : List UInt8)
  | ptr (b off : Nat)
  | nilp
  /-- block, place, length, capacity (at least), cells of an element -/
  | sl (b off len cap e : Nat)
  | nils
  | mp (b : Nat)
  | nilm
  | fn (f : FuncId) (fst cap : List AVal)
  | nilf
  | ifc (t : TypeId) (v : AVal)
  | nili
  | agg (cs : List AVal)
  | tup (vs : List AVal)
  /-- a loop's yield, by its record's place in the world -/
  | yld (l : Nat)
  deriving Inhabited

abbrev undef : AVal := .tup []

/-- A tree of places, by the bits of their numbers. -/
inductive Tr (α : Type) where
  | lf
  | nd (l : Tr α) (v : Option α) (r : Tr α)

namespace Tr
variable {α : Type}
def get : Tr α → Nat → Option α
  | .lf, _ => none
  | .nd l v r, i => cond (Nat.beq i 0) v (cond (Nat.beq (i % 2) 1) (l.get (i / 2)) (r.get (i / 2 - 1)))

def setF : Nat → Tr α → Nat → α → Tr α
  | 0, t, _, _ => t
  | n + 1, .lf, i, v => cond (Nat.beq i 0) (.nd .lf (some v) .lf) (cond (Nat.beq (i % 2) 1) (.nd (setF n .lf (i / 2) v) none .lf) (.nd .lf none (setF n .lf (i / 2 - 1) v)))
  | n + 1, .nd l x r, i, v => cond (Nat.beq i 0) (.nd l (some v) r) (cond (Nat.beq (i % 2) 1) (.nd (setF n l (i / 2) v) x r) (.nd l x (setF n r (i / 2 - 1) v)))

def set (t : Tr α) (i : Nat) (v : α) : Tr α := setF (i + 1) t i v

theorem cond_beq {β : Type} (i j : Nat) (a b : β) : cond (Nat.beq i j) a b = if i = j then a else b := by
  cases h : Nat.beq i j with
  | true => simp [Nat.eq_of_beq_eq_true h]
  | false => simp [Nat.ne_of_beq_eq_false h]

theorem get_lf (j : Nat) : (Tr.lf : Tr α).get j = none := rfl

theorem get_nd (l r : Tr α) (v : Option α) (i : Nat) : (Tr.nd l v r).get i = if i = 0 then v else if i % 2 = 1 then l.get (i / 2) else r.get (i / 2 - 1) := by
  rw [get]
  simp only [cond_beq]

theorem get_setF (n : Nat) : ∀ (t : Tr α) (i j : Nat) (v : α), i < n → (setF n t i v).get j = if i = j then some v else t.get j := by
  induction n with
  | zero => intro t i j v h; omega
  | succ n ih =>
    intro t i j v h
    have key : ∀ (l : Tr α) (x : Option α) (r : Tr α), (cond (Nat.beq i 0) (Tr.nd l (some v) r) (cond (Nat.beq (i % 2) 1) (.nd (setF n l (i / 2) v) x r) (.nd l x (setF n r (i / 2 - 1) v)))).get j = if i = j then some v else (Tr.nd l x r).get j := by
      intro l x r
      simp only [cond_beq]
      by_cases h0 : i = 0
      · subst h0
        rw [if_pos rfl, get_nd, get_nd]
        by_cases hj : j = 0
        · subst hj; simp
        · have : ¬ 0 = j := fun e => hj e.symm
          simp [hj, this]
      · rw [if_neg h0]
        by_cases h1 : i % 2 = 1
        · rw [if_pos h1, get_nd, get_nd]
          by_cases hj : j = 0
          · subst hj; simp [h0]
          · by_cases hj1 : j % 2 = 1
            · rw [if_neg hj, if_neg hj, if_pos hj1, if_pos hj1, ih l (i / 2) (j / 2) v (by omega)]
              by_cases e : i = j
              · subst e; simp
              · have : ¬ i / 2 = j / 2 := by omega
                simp [e, this]
            · have : ¬ i = j := by intro e; subst e; exact hj1 h1
              simp [hj, hj1, this]
        · rw [if_neg h1, get_nd, get_nd]
          by_cases hj : j = 0
          · subst hj; simp [h0]
          · by_cases hj1 : j % 2 = 1
            · have : ¬ i = j := by intro e; subst e; exact h1 hj1
              simp [hj, hj1, this]
            · rw [if_neg hj, if_neg hj, if_neg hj1, if_neg hj1, ih r (i / 2 - 1) (j / 2 - 1) v (by omega)]
              by_cases e : i = j
              · subst e; simp
              · have : ¬ i / 2 - 1 = j / 2 - 1 := by omega
                simp [e, this]
    cases t with
    | lf =>
      have := key .lf none .lf
      simp only [setF]
      rw [this, get_nd, get_lf]
      by_cases e : i = j
      · simp [e]
      · simp only [e, if_false, get_lf, ite_self]
    | nd l x r => exact key l x r

theorem get_set (t : Tr α) (i j : Nat) (v : α) : (t.set i v).get j = if i = j then some v else t.get j :=
  get_setF (i + 1) t i j v (by omega)
end Tr

inductive AObj where
  /-- e: cells of one element, where it is a slice's own row (0: it is none) · ro: it may not be written -/
  | cells (e : Nat) (ro : Bool) (vs : List AVal)
  | map (es : List (AVal × AVal))
  | iter (s : List UInt8) (pos : Nat)
  | dead
  deriving Inhabited

structure AHeap where
  t : Tr AObj
  n : Nat

def AHeap.get (h : AHeap) (b : Nat) : Option AObj := h.t.get b
def AHeap.set (h : AHeap) (b : Nat) (o : AObj) : AHeap := ⟨h.t.set b o, h.n⟩
def AHeap.push (h : AHeap) (o : AObj) : AHeap := ⟨h.t.set h.n o, h.n + 1⟩

@[simp] theorem AHeap.n_set (h : AHeap) (b : Nat) (o : AObj) : (h.set b o).n = h.n := rfl
@[simp] theorem AHeap.n_push (h : AHeap) (o : AObj) : (h.push o).n = h.n + 1 := rfl
theorem AHeap.get_set (h : AHeap) (b c : Nat) (o : AObj) : (h.set b o).get c = if b = c then some o else h.get c := Tr.get_set ..
theorem AHeap.get_push (h : AHeap) (c : Nat) (o : AObj) : (h.push o).get c = if h.n = c then some o else h.get c := Tr.get_set ..

abbrev Env := Tr AVal
def Env.at (e : Env) (i : Nat) : AVal := (Tr.get e i).getD undef
theorem Env.at_set (e : Env) (i j : Nat) (v : AVal) : Env.at (Tr.set e i v) j = if i = j then v else e.at j := by
  unfold Env.at; rw [Tr.get_set]; split <;> rfl

inductive Opr where
  | t (i : Nat)
  | k (v : AVal)
  deriving Inhabited

def Opr.ev (e : Env) : Opr → AVal
  | .t i => e.at i
  | .k v => v

inductive SK where
  | str
  | sl (e : Nat)
  | arr (n e : Nat)
  deriving Inhabited

inductive Cv where
  | int (k : IntKind)
  | s2b | b2s | str | bs
  deriving Inhabited

/-- what a length is asked of -/
inductive LK where
  | str | sl | mp
  deriving Inhabited

/-- is one of two the nil, of slices, maps, functions (at least one is)? -/
inductive NK where
  | sl | mp | fn
  deriving Inhabited

inductive AOp where
  | mv (x : Opr)
  | pick (c a b : Opr)
  | alloc (zs : List AVal)
  | box (n : Nat) (x : Opr)
  | build (zs : List AVal) (ps : List (Nat × Nat × Opr))
  | bslice (e len : Nat) (zs : List AVal) (ps : List (Nat × Nat × Opr))
  | load (agg : Bool) (n : Nat) (a : Opr)
  | store (n : Nat) (a x : Opr)
  | nilchk (x : Opr)
  | bin (op : BinOp) (x y : Opr)
  | beq (neg : Bool) (x y : Opr)
  | peq (neg : Bool) (x y : Opr)
  | nileq (k : NK) (neg : Bool) (x y : Opr)
  | un (op : UnOp) (x : Opr)
  | conv (c : Cv) (x : Opr)
  | mki (t : TypeId) (x : Opr)
  | mkf (f : FuncId) (fst cap : List Opr)
  | mkm
  | mks (e bytes : Nat) (zs : List AVal) (l c : Opr)
  | slc (k : SK) (x : Opr) (lo hi mx : Option Opr)
  | fa (off : Nat) (x : Opr)
  | fld (agg : Bool) (off n : Nat) (x : Opr)
  | ia (k : SK) (x i : Opr)
  | idx (k : SK) (agg : Bool) (x i : Opr)
  /-- sk: the map's keys are strings (else whole numbers) -/
  | look (sk : Bool) (z : AVal) (ok : Bool) (m k : Opr)
  | mset (sk : Bool) (m k v : Opr)
  | ext (i : Nat) (x : Opr)
  | call (f : FuncId) (args : List Opr)
  | callv (x : Opr) (args : List Opr)
  | callm (name : String) (x : Opr) (args : List Opr)
  | len (k : LK) (x : Opr)
  | app (e bytes : Nat) (s x : Opr)
  | copy (e : Nat) (d s : Opr)
  | del (sk : Bool) (m k : Opr)
  | clr (zs : List AVal) (x : Opr)
  | mn (x y : Opr)
  | mx (x y : Opr)
  | rng (x : Opr)
  | nxt (x : Opr)
  | tass (t : TypeId) (x : Opr)
  | bad
  deriving Inhabited

structure AOper where
  d : Option Nat
  g : Option (Nat × Bool)
  op : AOp
  deriving Inhabited

/-- chk: the operation, done again, gives what it gave -/
inductive Item where
  | op (o : AOper)
  | chk (o : AOper)
  deriving Inhabited

inductive ACode where
  | skip
  | reg (items : List Item)
  | seq (a b : ACode)
  | ite (c : Opr) (a b : ACode)
  | block (id : Nat) (c : ACode)
  | loop (c : ACode)
  | exit (id : Nat)
  | ret
  | bad
  deriving Inhabited

inductive RV where
  | t (i : Nat)
  | c (i : Nat) (agg : Bool) (n : Nat)
  deriving Inhabited

structure AFunc where
  rs : List RV
  body : ACode
  deriving Inhabited

/-! ## The operations -/

def cellsOf : AVal → List AVal
  | .agg cs => cs
  | v => [v]

/-- the value of one cell -/
def flat : AVal → Bool
  | .agg _ | .tup _ => false
  | _ => true

def getCells (h : AHeap) (b : Nat) : Option (List AVal) :=
  match h.get b with
  | some (.cells _ _ vs) => some vs
  | _ => none

def slice (l : List AVal) (off n : Nat) : Option (List AVal) :=
  if off + n ≤ l.length then some ((l.drop off).take n) else none

def over (l : List AVal) (off : Nat) (ns : List AVal) : List AVal := l.take off ++ (ns ++ l.drop (off + ns.length))

def loadN (h : AHeap) (b off n : Nat) : Option (List AVal) := (getCells h b).bind (slice · off n)

def storeN (h : AHeap) (b off : Nat) (ns : List AVal) : Option AHeap :=
  match h.get b with
  | some (.cells e false vs) => if off + ns.length ≤ vs.length ∧ ns.all flat = true then some (h.set b (.cells e false (over vs off ns))) else none
  | _ => none

/-- a value out of its cells -/
def ofCells (agg : Bool) (cs : List AVal) : Option AVal :=
  if agg then some (.agg cs) else match cs with
    | [v] => some v
    | _ => none

def bytesLess : List UInt8 → List UInt8 → Bool
  | _, [] => false
  | [], _ :: _ => true
  | a :: x, b :: y => a < b || (a == b && bytesLess x y)

def maxStr : Nat := 2 ^ 40

def intop (op : BinOp) (k : IntKind) (a b : Int) : Option AVal :=
  match op with
  | .add => some (.int k (k.wrap (a + b)))
  | .sub => some (.int k (k.wrap (a - b)))
  | .mul => some (.int k (k.wrap (a * b)))
  | .quo => if b = 0 then none else some (.int k (k.wrap (a.tdiv b)))
  | .rem => if b = 0 then none else some (.int k (a.tmod b))
  | .and => some (.int k (k.wrap (BitVec.ofInt k.bits a &&& BitVec.ofInt k.bits b).toNat))
  | .or => some (.int k (k.wrap (BitVec.ofInt k.bits a ||| BitVec.ofInt k.bits b).toNat))
  | .xor => some (.int k (k.wrap (BitVec.ofInt k.bits a ^^^ BitVec.ofInt k.bits b).toNat))
  | .andNot => some (.int k (k.wrap (BitVec.ofInt k.bits a &&& ~~~ BitVec.ofInt k.bits b).toNat))
  | .eql => some (.bool (a == b))
  | .neq => some (.bool (a != b))
  | .lss => some (.bool (decide (a < b)))
  | .leq => some (.bool (decide (a ≤ b)))
  | .gtr => some (.bool (decide (a > b)))
  | .geq => some (.bool (decide (a ≥ b)))
  | _ => none

def shiftop (op : BinOp) (k : IntKind) (a b : Int) : Option AVal :=
  if b < 0 then none else match op with
    | .shl => some (.int k (k.wrap (a * 2 ^ (min b.toNat k.bits))))
    | .shr => some (.int k (a.fdiv (2 ^ (min b.toNat k.bits))))
    | _ => none

def strop (op : BinOp) (a b : List UInt8) : Option AVal :=
  match op with
  | .add => if a.length + b.length ≤ maxStr then some (.str (a ++ b)) else none
  | .eql => some (.bool (a == b))
  | .neq => some (.bool !(a == b))
  | .lss => some (.bool (bytesLess a b))
  | .leq => some (.bool (bytesLess a b || a == b))
  | .gtr => some (.bool !(bytesLess a b || a == b))
  | .geq => some (.bool !(bytesLess a b))
  | _ => none

def binop (op : BinOp) (x y : AVal) : Option AVal :=
  match x, y with
  | .int k a, .int k' b => match op with
    | .shl => shiftop .shl k a b
    | .shr => shiftop .shr k a b
    | _ => if k = k' then intop op k a b else none
  | .str a, .str b => strop op a b
  | _, _ => none

/-- a variable's block -/
def isVar (h : AHeap) (b : Nat) : Bool :=
  match h.get b with
  | some (.cells e ro _) => Nat.beq e 0 && !ro
  | _ => false

def ptrEq (h : AHeap) : AVal → AVal → Option Bool
  | .nilp, .nilp => some true
  | .nilp, .ptr _ _ => some false
  | .ptr _ _, .nilp => some false
  | .ptr a i, .ptr b j => if isVar h a && isVar h b then some (Nat.beq a b && Nat.beq i j) else none
  | _, _ => none

def nilEq : NK → AVal → AVal → Option Bool
  | .sl, .nils, .nils => some true
  | .sl, .nils, .sl .. => some false
  | .sl, .sl .., .nils => some false
  | .mp, .nilm, .nilm => some true
  | .mp, .nilm, .mp _ => some false
  | .mp, .mp _, .nilm => some false
  | .fn, .nilf, .nilf => some true
  | .fn, .nilf, .fn .. => some false
  | .fn, .fn .., .nilf => some false
  | _, _, _ => none

def unop (op : UnOp) (x : AVal) : Option AVal :=
  match op, x with
  | .not, .bool b => some (.bool (!b))
  | .neg, .int k n => some (.int k (k.wrap (0 - n)))
  | .xor, .int k n => some (.int k (k.wrap (BitVec.ofInt k.bits (if k.signed then -1 else k.max) ^^^ BitVec.ofInt k.bits n).toNat))
  | _, _ => none

def byteV (c : UInt8) : AVal := .int .u8 c.toNat
def toByte : AVal → Option UInt8
  | .int .u8 n => some (UInt8.ofNat n.toNat)
  | _ => none

def toBytes : List AVal → Option (List UInt8)
  | [] => some []
  | v :: r => match toByte v with
    | some c => (toBytes r).map (c :: ·)
    | none => none

/-- are two keys the same? -/
def keyEq (sk : Bool) : AVal → AVal → Option Bool
  | .int k a, .int k' b => if sk = false ∧ k = k' then some (a == b) else none
  | .str a, .str b => if sk = true then some (a == b) else none
  | _, _ => none

def findKey (sk : Bool) (k : AVal) : List (AVal × AVal) → Option (Option AVal)
  | [] => some none
  | (x, v) :: r => match keyEq sk k x with
    | some true => some (some v)
    | some false => findKey sk k r
    | none => none

def putKey (sk : Bool) (k v : AVal) : List (AVal × AVal) → Option (List (AVal × AVal))
  | [] => some [(k, v)]
  | (x, w) :: r => match keyEq sk k x with
    | some true => some ((x, v) :: r)
    | some false => (putKey sk k v r).map ((x, w) :: ·)
    | none => none

def delKey (sk : Bool) (k : AVal) : List (AVal × AVal) → Option (List (AVal × AVal))
  | [] => some []
  | (x, w) :: r => match keyEq sk k x with
    | some true => some r
    | some false => (delKey sk k r).map ((x, w) :: ·)
    | none => none

def goI (n : Nat) : AVal := .int .i64 n

def bound (x : AVal) (y : Nat) : Option Nat :=
  match x with
  | .int _ n => if 0 ≤ n ∧ n ≤ y then some n.toNat else none
  | _ => none

def bounds (len cap : Nat) (lo hi mx : Option AVal) : Option (Nat × Nat × Nat) :=
  (match mx with | some v => bound v cap | none => some cap).bind fun m =>
  (match hi with | some v => bound v m | none => if mx.isSome then none else if len ≤ m then some len else none).bind fun h =>
  (match lo with | some v => bound v h | none => some 0).bind fun l => some (l, h, m)

/-- the parts, laid over the cells: each a place, a size, a value -/
def fill (cs : List AVal) : List (Nat × Nat × AVal) → Option (List AVal)
  | [] => some cs
  | (off, n, v) :: r => let ns := cellsOf v
    if ns.length = n ∧ off + n ≤ cs.length then fill (over cs off ns) r else none

def evParts (e : Env) (ps : List (Nat × Nat × Opr)) : List (Nat × Nat × AVal) := ps.map fun p => (p.1, p.2.1, p.2.2.ev e)

abbrev CallT := FuncId → List AVal → AHeap → Option (AVal × AHeap)

/-- the function of a type's method, and how the receiver is handed on (as it is; or what it points to) -/
abbrev Meth := TypeId → String → Option (FuncId × Option (Bool × Nat))

def repl (n : Nat) (x : List AVal) : List AVal := (List.replicate n x).flatten

/-- the elements of what is appended or copied: how many, their cells -/
def elems (h : AHeap) (s : Nat) : AVal → Option (Nat × List AVal)
  | .sl b off n _ z => if z = s then (loadN h b off (n * s)).map fun cs => (n, cs) else none
  | .nils => some (0, [])
  | .str t => if s = 1 then some (t.length, t.map byteV) else none
  | _ => none

def appendTo (h : AHeap) (s bytes : Nat) (d : AVal) (n : Nat) (xs : List AVal) : Option (AVal × AHeap) :=
  match d with
  | .nils => if n = 0 then some (.nils, h) else if n * bytes ≤ maxStr ∧ n ≤ maxStr then some (.sl h.n 0 n n s, h.push (.cells s false xs)) else none
  | .sl b off len cap z =>
    if z ≠ s then none
    else if n = 0 then (if len ≤ cap then some (.sl b off len cap s, h) else none)
    else if len + n ≤ cap then (storeN h b (off + len * s) xs).map fun h' => (.sl b off (len + n) cap s, h')
    else if (len + n) * bytes ≤ maxStr ∧ len + n ≤ maxStr ∧ xs.all flat = true then
      match h.get b with
      | some (.cells s' false vs) => if s' = s ∧ 0 < s then (slice vs off (len * s)).map fun old => (.sl h.n 0 (len + n) (len + n) s, (h.set b .dead).push (.cells s false (old ++ xs))) else none
      | _ => none
    else none
  | _ => none

def lookKey (h : AHeap) (sk : Bool) (m k : AVal) : Option (Option AVal) :=
  match m with
  | .nilm => some none
  | .mp b => match h.get b with
    | some (.map es) => findKey sk k es
    | _ => none
  | _ => none

def step (M : Meth) (call : CallT) (e : Env) (h : AHeap) : AOp → Option (AVal × AHeap)
  | .mv x => some (x.ev e, h)
  | .pick c a b => match c.ev e with
    | .bool t => some (if t then a.ev e else b.ev e, h)
    | _ => none
  | .alloc zs => some (.ptr h.n 0, h.push (.cells 0 false zs))
  | .box n x => let cs := cellsOf (x.ev e); if cs.length = n then some (.ptr h.n 0, h.push (.cells 0 false cs)) else none
  | .build zs ps => (fill zs (evParts e ps)).map fun cs => (.agg cs, h)
  | .bslice s len zs ps => (fill (repl len zs) (evParts e ps)).map fun cs => (.sl h.n 0 len len s, h.push (.cells s false cs))
  | .load agg n a => match a.ev e with
    | .ptr b off => ((loadN h b off n).bind (ofCells agg)).map fun v => (v, h)
    | _ => none
  | .store n a x => match a.ev e with
    | .ptr b off => let cs := cellsOf (x.ev e); if cs.length = n then (storeN h b off cs).map fun h' => (undef, h') else none
    | _ => none
  | .nilchk x => match x.ev e with
    | .ptr b off => some (.ptr b off, h)
    | _ => none
  | .bin op x y => (binop op (x.ev e) (y.ev e)).map fun v => (v, h)
  | .beq neg x y => match x.ev e, y.ev e with
    | .bool a, .bool b => some (.bool (if neg then !(a == b) else a == b), h)
    | _, _ => none
  | .peq neg x y => (ptrEq h (x.ev e) (y.ev e)).map fun t => (.bool (if neg then !t else t), h)
  | .nileq k neg x y => (nilEq k (x.ev e) (y.ev e)).map fun t => (.bool (if neg then !t else t), h)
  | .un op x => (unop op (x.ev e)).map fun v => (v, h)
  | .conv c x => match c, x.ev e with
    | .int k, .int _ n => some (.int k (k.wrap n), h)
    | .s2b, .str s => some (.sl h.n 0 s.length s.length 1, h.push (.cells 1 false (s.map byteV)))
    | .b2s, .nils => some (.str [], h)
    | .b2s, .sl b off len _ _ => ((loadN h b off len).bind toBytes).map fun s => (.str s, h)
    | .str, .str s => some (.str s, h)
    | .bs, .sl b off len cap z => match h.get b with
      | some (.cells s false _) => if 0 < s ∧ 0 < cap then some (.sl b off len cap z, h) else none
      | _ => none
    | _, _ => none
  | .mki t x => some (.ifc t (x.ev e), h)
  | .mkf f a c => some (.fn f (a.map (·.ev e)) (c.map (·.ev e)), h)
  | .mkm => some (.mp h.n, h.push (.map []))
  | .mks s bytes zs l c => match l.ev e, c.ev e with
    | .int _ l, .int _ c => if 0 ≤ l ∧ l ≤ c ∧ c ≤ maxStr ∧ c * bytes ≤ maxStr then some (.sl h.n 0 l.toNat c.toNat s, h.push (.cells s false (repl c.toNat zs))) else none
    | _, _ => none
  | .slc k x lo hi mx => match k, x.ev e with
    | .str, .str s => if mx.isSome then none else (bounds s.length s.length (lo.map (·.ev e)) (hi.map (·.ev e)) none).map fun r => (.str ((s.drop r.1).take (r.2.1 - r.1)), h)
    | .sl s, .sl b off len cap z => if z = s then (bounds len cap (lo.map (·.ev e)) (hi.map (·.ev e)) (mx.map (·.ev e))).map fun r => (.sl b (off + r.1 * s) (r.2.1 - r.1) (r.2.2 - r.1) s, h) else none
    | .sl _, .nils => (bounds 0 0 (lo.map (·.ev e)) (hi.map (·.ev e)) (mx.map (·.ev e))).map fun _ => (.nils, h)
    | .arr n s, .ptr b off => if isVar h b then (bounds n n (lo.map (·.ev e)) (hi.map (·.ev e)) (mx.map (·.ev e))).map fun r => (.sl b (off + r.1 * s) (r.2.1 - r.1) (r.2.2 - r.1) s, h) else none
    | _, _ => none
  | .fa o x => match x.ev e with
    | .ptr b off => some (.ptr b (off + o), h)
    | _ => none
  | .fld agg o n x => match x.ev e with
    | .agg cs => ((slice cs o n).bind (ofCells agg)).map fun v => (v, h)
    | _ => none
  | .ia k x i => match i.ev e with
    | .int _ i => match k, x.ev e with
      | .arr n s, .ptr b off => if 0 ≤ i ∧ i < n then some (.ptr b (off + i.toNat * s), h) else none
      | .sl s, .sl b off len _ _ => if 0 ≤ i ∧ i < len then some (.ptr b (off + i.toNat * s), h) else none
      | _, _ => none
    | _ => none
  | .idx k agg x i => match i.ev e with
    | .int _ i => match k, x.ev e with
      | .str, .str s => if 0 ≤ i then (s[i.toNat]?).map fun c => (byteV c, h) else none
      | .arr n s, .agg cs => if 0 ≤ i ∧ i < n then ((slice cs (i.toNat * s) s).bind (ofCells agg)).map fun v => (v, h) else none
      | _, _ => none
    | _ => none
  | .look sk z ok m k => (lookKey h sk (m.ev e) (k.ev e)).map fun r => (if ok then .tup [r.getD z, .bool r.isSome] else r.getD z, h)
  | .mset sk m k v => match m.ev e with
    | .mp b => match h.get b with
      | some (.map es) => if (keyEq sk (k.ev e) (k.ev e)).isSome then (putKey sk (k.ev e) (v.ev e) es).map fun es => (undef, h.set b (.map es)) else none
      | _ => none
    | _ => none
  | .ext i x => match x.ev e with
    | .tup vs => (vs[i]?).map fun v => (v, h)
    | _ => none
  | .call f args => call f (args.map (·.ev e)) h
  | .callv x args => match x.ev e with
    | .fn f a c => call f (a ++ (args.map (·.ev e) ++ c)) h
    | _ => none
  | .callm name x args => match x.ev e with
    | .ifc t v => match M t name with
      | some (f, none) => call f (v :: args.map (·.ev e)) h
      | some (f, some (agg, n)) => match v with
        | .ptr b off => ((loadN h b off n).bind (ofCells agg)).bind fun w => call f (w :: args.map (·.ev e)) h
        | _ => none
      | none => none
    | _ => none
  | .len k x => match k, x.ev e with
    | .str, .str s => some (goI s.length, h)
    | .sl, .sl _ _ n _ _ => some (goI n, h)
    | .sl, .nils => some (goI 0, h)
    | .mp, .nilm => some (goI 0, h)
    | .mp, .mp b => match h.get b with
      | some (.map es) => some (goI es.length, h)
      | _ => none
    | _, _ => none
  | .app s bytes d x => (elems h s (x.ev e)).bind fun r => appendTo h s bytes (d.ev e) r.1 r.2
  | .copy s d x => match d.ev e with
    | .nils => (elems h s (x.ev e)).map fun _ => (goI 0, h)
    | .sl b off len _ z => if z ≠ s then none else (elems h s (x.ev e)).bind fun r =>
      if min r.1 len = 0 then some (goI 0, h) else (storeN h b off (r.2.take (min r.1 len * s))).map fun h' => (goI (min r.1 len), h')
    | _ => none
  | .del sk m k => match m.ev e with
    | .nilm => some (undef, h)
    | .mp b => match h.get b with
      | some (.map es) => (delKey sk (k.ev e) es).map fun es => (undef, h.set b (.map es))
      | _ => none
    | _ => none
  | .clr zs x => match x.ev e with
    | .nils => some (undef, h)
    | .sl b off n _ _ => if n = 0 then some (undef, h) else (storeN h b off (repl n zs)).map fun h' => (undef, h')
    | _ => none
  | .mn x y => match x.ev e, y.ev e with
    | .int k a, .int _ b => some (.int k (if b < a then b else a), h)
    | _, _ => none
  | .mx x y => match x.ev e, y.ev e with
    | .int k a, .int _ b => some (.int k (if b > a then b else a), h)
    | _, _ => none
  | .rng x => match x.ev e with
    | .str s => some (.ptr h.n 0, h.push (.iter s 0))
    | _ => none
  | .nxt x => match x.ev e with
    | .ptr b 0 => match h.get b with
      | some (.iter s pos) =>
        if pos < s.length then
          some (.tup [.bool true, goI pos, .int .i32 (Utf8.decode ⟨s.toArray⟩ pos).1], h.set b (.iter s (pos + (Utf8.decode ⟨s.toArray⟩ pos).2)))
        else some (.tup [.bool false], h)
      | _ => none
    | _ => none
  | .tass t x => match x.ev e with
    | .ifc u v => if u = t then some (v, h) else none
    | _ => none
  | .bad => none

mutual
/-- the same value (as far as it is told) -/
def AVal.same : AVal → AVal → Bool
  | .bool a, .bool b => a == b
  | .int j a, .int k b => j == k && a == b
  | .str a, .str b => a == b
  | .ptr a i, .ptr b j => Nat.beq a b && Nat.beq i j
  | .nilp, .nilp => true
  | .sl a i n c x, .sl b j m d y => Nat.beq a b && Nat.beq i j && Nat.beq n m && Nat.beq c d && Nat.beq x y
  | .nils, .nils => true
  | .mp a, .mp b => Nat.beq a b
  | .nilm, .nilm => true
  | .fn f a c, .fn g b d => Nat.beq f g && sameL a b && sameL c d
  | .nilf, .nilf => true
  | .ifc t v, .ifc u w => Nat.beq t u && v.same w
  | .nili, .nili => true
  | .agg a, .agg b => sameL a b
  | .tup a, .tup b => sameL a b
  | _, _ => false
def sameL : List AVal → List AVal → Bool
  | [], [] => true
  | a :: x, b :: y => a.same b && sameL x y
  | _, _ => false
end

def wants (e : Env) : Option (Nat × Bool) → Bool
  | none => true
  | some (j, w) => match e.at j with
    | .bool b => b == w
    | _ => false

def put (e : Env) (d : Option Nat) (v : AVal) : Env :=
  match d with
  | some d => Tr.set e d v
  | none => e

def runItems (M : Meth) (call : CallT) : List Item → Env → AHeap → Option (Env × AHeap)
  | [], e, h => some (e, h)
  | .op o :: r, e, h =>
    if wants e o.g then match step M call e h o.op with
      | some (v, h') => runItems M call r (put e o.d v) h'
      | none => none
    else runItems M call r (put e o.d undef) h
  | .chk o :: r, e, h =>
    if wants e o.g then match step M call e h o.op, o.d with
      | some (v, _), some d => if v.same (e.at d) then runItems M call r e h else none
      | _, _ => none
    else runItems M call r e h

inductive Ex where
  | nrm
  | out (id : Nat)
  | ret

def iter (body : Env → AHeap → Option (Ex × Env × AHeap)) : Nat → Env → AHeap → Option (Ex × Env × AHeap)
  | 0, _, _ => none
  | k + 1, e, h => match body e h with
    | some (.nrm, e', h') => iter body k e' h'
    | r => r

def exec (M : Meth) (call : CallT) (k : Nat) : ACode → Env → AHeap → Option (Ex × Env × AHeap)
  | .skip, e, h => some (.nrm, e, h)
  | .reg items, e, h => match runItems M call items e h with
    | some (e', h') => some (.nrm, e', h')
    | none => none
  | .seq a b, e, h => match exec M call k a e h with
    | some (.nrm, e', h') => exec M call k b e' h'
    | r => r
  | .ite c a b, e, h => match c.ev e with
    | .bool true => exec M call k a e h
    | .bool false => exec M call k b e h
    | _ => none
  | .block id c, e, h => match exec M call k c e h with
    | some (.out i, e', h') => if i = id then some (.nrm, e', h') else some (.out i, e', h')
    | r => r
  | .loop c, e, h => iter (exec M call k c) k e h
  | .exit id, e, h => some (.out id, e, h)
  | .ret, e, h => some (.ret, e, h)
  | .bad, _, _ => none

def envFrom (i : Nat) (e : Env) : List AVal → Env
  | [] => e
  | v :: r => envFrom (i + 1) (Tr.set e i v) r

def results (e : Env) (h : AHeap) : List RV → Option (List AVal)
  | [] => some []
  | .t i :: r => (results e h r).map (e.at i :: ·)
  | .c i agg n :: r => match e.at i with
    | .ptr b off => ((loadN h b off n).bind (ofCells agg)).bind fun v => (results e h r).map (v :: ·)
    | _ => none

def ofResults : List AVal → AVal
  | [v] => v
  | vs => .tup vs

structure Tab where
  fn : FuncId → Option AFunc
  prim : FuncId → Option (CallT → List AVal → AHeap → Option (AVal × AHeap))
  meth : Meth

def callN (T : Tab) : Nat → CallT
  | 0, _, _, _ => none
  | k + 1, f, args, h =>
    match T.prim f with
    | some p => p (callN T k) args h
    | none => match T.fn f with
      | none => none
      | some fn => match exec T.meth (callN T k) k fn.body (envFrom 0 .lf args) h with
        | some (.nrm, e, h') => (results e h' fn.rs).map fun vs => (ofResults vs, h')
        | some (.ret, e, h') => (results e h' fn.rs).map fun vs => (ofResults vs, h')
        | _ => none

end Go.Ai

/- The model's code, turned into the evaluator's: types resolved, orders that are drawn planned. -/
namespace Go.Ai
open Go

def cv : Value → Option AVal
  | .bool b => some (.bool b)
  | .int k n => some (.int k n)
  | .string s => some (.str s.data.toList)
  | .pointer none => some .nilp
  | .slice none 0 0 => some .nils
  | .map none => some .nilm
  | .nilFunc => some .nilf
  | .nilIface => some .nili
  | _ => none

def cvL : List Value → Option (List AVal)
  | [] => some []
  | v :: r => match cv v, cvL r with
    | some x, some y => some (x :: y)
    | _, _ => none

def cvA : Value → Option AVal
  | .agg cs => (cvL cs.toList).map .agg
  | v => cv v

def copr (G : List Nat) : Operand → Option Opr
  | .tmp t => some (.t t)
  | .const v => (cvA v).map .k
  | .global g => if G.contains g then some (.k (.ptr g 0)) else none
  | .func f => some (.k (.fn f [] []))

def coprs (G : List Nat) : List Operand → Option (List Opr)
  | [] => some []
  | x :: r => match copr G x, coprs G r with
    | some y, some z => some (y :: z)
    | _, _ => none

def oopr (G : List Nat) : Option Operand → Option (Option Opr)
  | none => some none
  | some x => (copr G x).map some

section
variable (G : List Nat) (P : Program)

def tsize (t : TypeId) : Option Nat := (P.info? t).map (·.size)

def tzero (t : TypeId) : Option (List AVal) :=
  (P.info? t).bind fun i => i.zero.bind fun z => (cvL z.cells.toList).bind fun zs => if zs.length = i.size then some zs else none

def tagg (t : TypeId) : Option Bool :=
  match P.underlying t with
  | some (.struct _) => some true
  | some (.array ..) => some true
  | some _ => some false
  | none => none

/-- the zero value is one of cells just where the type is one of such -/
def zeroKind (t : TypeId) (g : Bool) : Bool :=
  match P.info? t with
  | some i => match i.zero with
    | some (.agg _) => g
    | some _ => !g
    | none => false
  | none => false

/-- is it a string or an integer type? (true: a string) -/
def tkey (t : TypeId) : Option Bool :=
  match P.underlying t with
  | some .string => some true
  | some (.int _) => some false
  | _ => none

def isU8 (t : TypeId) : Bool :=
  match P.underlying t with
  | some (.int .u8) => true
  | _ => false

def places : List Field → Option (List (Nat × Nat))
  | [] => some []
  | f :: r => match tsize P f.type, places r with
    | some s, some l => some ((f.offset, s) :: l)
    | _, _ => none

def cparts (pl : Nat → Option (Nat × Nat)) : List (Nat × Operand) → Option (List (Nat × Nat × Opr))
  | [] => some []
  | (i, x) :: r => match pl i, copr G x, cparts pl r with
    | some (o, s), some y, some z => some ((o, s, y) :: z)
    | _, _, _ => none

/-- a value of the type may be handed to '==' as a plain value -/
def eqKind (t : TypeId) : Option Nat :=
  match P.underlying t with
  | some .bool => some 3
  | some (.int _) => some 0
  | some .string => some 0
  | some (.pointer e) => match tsize P e with
    | some (_ + 1) => some 1
    | _ => none
  | some (.slice _) => some 2
  | some (.map ..) => some 4
  | some (.func ..) => some 5
  | _ => none

def cbuiltin (b : Builtin) (t : TypeId) (u : Option TypeId) (xs : List Opr) : Option AOp :=
  match b, xs with
  | .len, [x] => match P.underlying t with
    | some (.array n _) => some (.mv (.k (goI n)))
    | some .string => some (.len .str x)
    | some (.slice _) => some (.len .sl x)
    | some (.map ..) => some (.len .mp x)
    | _ => none
  | .append, [s, x] => match P.underlying t, u.bind P.underlying with
    | some (.slice e), some (.slice _) => match tsize P e, tzero P e with
      | some z, some _ => some (.app z (P.bytesOf e) s x)
      | _, _ => none
    | some (.slice e), some .string => match tsize P e, tzero P e with
      | some z, some _ => some (.app z (P.bytesOf e) s x)
      | _, _ => none
    | _, _ => none
  | .copy, [s, x] => match P.underlying t with
    | some (.slice e) => (tsize P e).map fun z => .copy z s x
    | _ => none
  | .delete, [m, k] => match P.underlying t with
    | some (.map kt _) => (tkey P kt).map fun sk => .del sk m k
    | _ => none
  | .clear, [x] => match P.underlying t with
    | some (.slice e) => (tzero P e).map fun z => .clr z x
    | _ => none
  | .min, [x, y] => some (.mn x y)
  | .max, [x, y] => some (.mx x y)
  | _, _ => none

def cop (o : Oper) : Option AOp :=
  match o.op with
  | .move x => (copr G x).map .mv
  | .assign x => (copr G x).map .mv
  | .pick c a b => match copr G c, copr G a, copr G b with
    | some c, some a, some b => some (.pick c a b)
    | _, _, _ => none
  | .alloc t => (tzero P t).map .alloc
  | .box t x => match tsize P t, copr G x with
    | some n, some x => some (.box n x)
    | _, _ => none
  | .build t ps => match tzero P t, P.underlying t with
    | some z, some (.struct fs) => match places P fs.toList with
      | some pl => (cparts G (fun i => pl[i]?) ps.toList).map fun ps => .build z ps
      | none => none
    | some z, some (.array _ e) => match tsize P e with
      | some s => (cparts G (fun i => some (i * s, s)) ps.toList).map fun ps => .build z ps
      | none => none
    | _, _ => none
  | .buildSlice t n ps => match P.underlying t with
    | some (.slice e) => match tsize P e, tzero P e with
      | some s, some z => if n * s ≤ 2 ^ 24 then (cparts G (fun i => some (i * s, s)) ps.toList).map fun ps => .bslice s n z ps else none
      | _, _ => none
    | _ => none
  | .load t a => match tagg P t, tsize P t, copr G a with
    | some g, some n, some a => some (.load g n a)
    | _, _, _ => none
  | .store t a x => match tsize P t, copr G a, copr G x with
    | some n, some a, some x => some (.store n a x)
    | _, _, _ => none
  | .nilCheck x => (copr G x).map .nilchk
  | .binOp op t x y _ => match copr G x, copr G y with
    | some x, some y => match op with
      | .eql => match eqKind P t with
        | some 0 => some (.bin .eql x y)
        | some 1 => some (.peq false x y)
        | some 2 => some (.nileq .sl false x y)
        | some 4 => some (.nileq .mp false x y)
        | some 5 => some (.nileq .fn false x y)
        | some 3 => some (.beq false x y)
        | _ => none
      | .neq => match eqKind P t with
        | some 0 => some (.bin .neq x y)
        | some 1 => some (.peq true x y)
        | some 2 => some (.nileq .sl true x y)
        | some 4 => some (.nileq .mp true x y)
        | some 5 => some (.nileq .fn true x y)
        | some 3 => some (.beq true x y)
        | _ => none
      | _ => some (.bin op x y)
    | _, _ => none
  | .unOp op _ x => (copr G x).map (.un op)
  | .convert s d x => match copr G x with
    | some x => match P.underlying s, P.underlying d with
      | some (.int _), some (.int k) => some (.conv (.int k) x)
      | some .string, some .string => some (.conv .str x)
      | some .string, some (.slice e) => if isU8 P e then some (.conv .s2b x) else none
      | some (.slice e), some .string => if isU8 P e then some (.conv .b2s x) else none
      | some (.slice _), some (.slice e) => if s == d && isU8 P e then some (.conv .bs x) else none
      | _, _ => none
    | none => none
  | .makeInterface t x => match P.underlying t, copr G x with
    | some (.interface _), _ => none
    | some _, some x => some (.mki t x)
    | _, _ => none
  | .makeFunc (.func f) a c => match coprs G a.toList, coprs G c.toList with
    | some a, some c => some (.mkf f a c)
    | _, _ => none
  | .makeMap _ none => some .mkm
  | .makeSlice t l c => match P.underlying t with
    | some (.slice e) => match tsize P e, tzero P e, copr G l, copr G c with
      | some s, some z, some l, some c => some (.mks s (P.bytesOf e) z l c)
      | _, _, _, _ => none
    | _ => none
  | .slice t x lo hi mx => match copr G x, oopr G lo, oopr G hi, oopr G mx with
    | some x, some lo, some hi, some mx => match P.underlying t with
      | some .string => some (.slc .str x lo hi mx)
      | some (.slice e) => (tsize P e).map fun s => .slc (.sl s) x lo hi mx
      | some (.array n e) => (tsize P e).map fun s => .slc (.arr n s) x lo hi mx
      | _ => none
    | _, _, _, _ => none
  | .fieldAddr s x f => match P.underlying s with
    | some (.struct fs) => match fs[f]? with
      | some f => match tsize P f.type, copr G x with
        | some (_ + 1), some x => some (.fa f.offset x)
        | _, _ => none
      | none => none
    | _ => none
  | .field s x f => match P.underlying s with
    | some (.struct fs) => match fs[f]? with
      | some f => match tagg P f.type, tsize P f.type, copr G x with
        | some g, some n, some x => some (.fld g f.offset n x)
        | _, _, _ => none
      | none => none
    | _ => none
  | .indexAddr t x i => match copr G x, copr G i with
    | some x, some i => match P.underlying t with
      | some (.slice e) => (tsize P e).map fun s => .ia (.sl s) x i
      | some (.array n e) => (tsize P e).map fun s => .ia (.arr n s) x i
      | _ => none
    | _, _ => none
  | .index t x i => match copr G x, copr G i with
    | some x, some i => match P.underlying t with
      | some .string => some (.idx .str false x i)
      | some (.array n e) => match tagg P e, tsize P e with
        | some g, some s => some (.idx (.arr n s) g x i)
        | _, _ => none
      | _ => none
    | _, _ => none
  | .lookup t m k ok => match copr G m, copr G k with
    | some m, some k => match P.underlying t with
      | some (.map kt e) => match tkey P kt, tagg P e, tzero P e with
        | some sk, some g, some z => if zeroKind P e g then (ofCells g z).map fun z => .look sk z ok m k else none
        | _, _, _ => none
      | _ => none
    | _, _ => none
  | .mapUpdate t m k v => match copr G m, copr G k, copr G v with
    | some m, some k, some v => match P.underlying t with
      | some (.map kt _) => (tkey P kt).map fun sk => .mset sk m k v
      | _ => none
    | _, _, _ => none
  | .insert t m k v => match copr G m, copr G k, copr G v with
    | some m, some k, some v => match P.underlying t with
      | some (.map kt _) => (tkey P kt).map fun sk => .mset sk m k v
      | _ => none
    | _, _, _ => none
  | .extract x i => (copr G x).map (.ext i)
  | .range t x => match P.underlying t with
    | some .string => (copr G x).map .rng
    | _ => none
  | .next x true => (copr G x).map .nxt
  | .typeAssert x _ t false => match P.underlying t, copr G x with
    | some (.interface _), _ => none
    | some _, some x => some (.tass t x)
    | _, _ => none
  | .call c => match coprs G c.args.toList with
    | some xs => match c.callee with
      | .value (.func f) => some (.call f xs)
      | .value x => (copr G x).map fun x => .callv x xs
      | .invoke r m => (copr G r).map fun x => .callm m x xs
      | .builtin b => match c.argTypes[0]? with
        | some t => cbuiltin P b t c.argTypes[1]? xs
        | none => none
    | none => none
  | _ => none

/-- A method that a type has by itself. -/
def methOf : Meth := fun t name =>
  (P.info? t).bind fun i => (i.methods.find? (·.name == name)).bind fun m =>
    if m.path.isEmpty then match m.func with
      | some (f, pr) => match P.underlying t with
        | some (.pointer e) => if pr then some (f, none) else match tagg P e, tsize P e with
          | some a, some s => some (f, some (a, s))
          | _, _ => none
        | some _ => if pr then none else some (f, none)
        | none => none
      | none => none
    else none

/-- the guard: the place of the other operation's answer -/
def cguard (ops : List Oper) (n : Nat) : Option (Nat × Bool) → Option (Option (Nat × Bool))
  | none => some none
  | some (j, w) => match ops[j]? with
    | some p => match p.dst with
      | some d => if d < n then some (some (d, w)) else none
      | none => none
    | none => none

def coper (ops : List Oper) (n : Nat) (o : Oper) : Option AOper :=
  match cguard ops n o.guard with
  | some g => if (o.dst.all fun d => decide (d < n)) then some { d := o.dst, g := g, op := (cop G P o).getD .bad } else none
  | none => none

def copers (ops : List Oper) (n : Nat) : List Oper → Option (List AOper)
  | [] => some []
  | o :: r => match coper G P ops n o, copers ops n r with
    | some x, some y => some (x :: y)
    | _, _ => none
end

/-! ## An order that is drawn -/

/-- 0: looks at nothing · 1: reads memory · 2: makes a block that is the same each time · 3: more -/
def cls : AOp → Nat
  | .mv _ | .pick .. | .build .. | .bin .. | .beq .. | .nileq .. | .un .. | .mki .. | .mkf .. | .fa .. | .fld .. | .ia .. | .idx .. | .ext .. | .mn .. | .mx .. | .tass .. | .nilchk _ => 0
  | .conv (.int _) _ | .conv .str _ => 0
  | .slc .str .. | .slc (.sl _) .. => 0
  | .len .str _ | .len .sl _ => 0
  | .load .. | .slc (.arr ..) .. | .look .. | .peq .. | .len .mp _ | .conv .b2s _ => 1
  | .alloc _ | .mkm => 2
  | _ => 3

/-- an edge that holds in every mode -/
def always (e : Edge) : Bool := Region.binds .any e

def edgesOf (o : Oper) : List Nat := (o.after.toList.filter always).map (·.on)

def ancOf (acc : List Nat) (es : List Nat) : Nat := es.foldl (fun s e => s ||| 2 ^ e ||| acc.getD e 0) 0

/-- of each operation those that come ahead of it, as the bits of a number -/
def ancsFrom (acc : List Nat) : List Oper → List Nat
  | [] => acc
  | o :: r => ancsFrom (acc ++ [ancOf acc (edgesOf o)]) r

/-- an operation as the plan sees it: its number, itself, what comes ahead -/
structure PO where
  i : Nat
  o : AOper
  anc : Nat
  deriving Inhabited

def PO.al (p : PO) : Bool := Nat.beq (cls p.o.op) 2 && (!p.o.g.isSome && p.o.d.isSome)
def PO.eff (p : PO) : Bool := Nat.beq (cls p.o.op) 3 || (Nat.beq (cls p.o.op) 2 && !p.al)
def PO.rd (p : PO) : Bool := Nat.beq (cls p.o.op) 1
def ahead (x : Nat) (p : PO) : Bool := p.anc.testBit x

def zipPO (i : Nat) : List AOper → List Nat → List PO
  | o :: r, a :: s => ⟨i, o, a⟩ :: zipPO (i + 1) r s
  | _, _ => []

/-- the first that may be next: no effect, if there is such a one -/
def pickOne (done : Nat) (l : List PO) : Option PO :=
  match l.find? fun p => !p.eff && (Nat.beq (p.anc &&& done) p.anc) with
  | some p => some p
  | none => l.find? fun p => Nat.beq (p.anc &&& done) p.anc

def orderIt : Nat → Nat → List PO → List PO
  | 0, _, _ => []
  | n + 1, done, l => match pickOne done l with
    | some p => p :: orderIt n (done ||| 2 ^ p.i) (l.filter fun q => !Nat.beq q.i p.i)
    | none => []

/-- behind an effect each read that is not ahead of it is done again -/
def plan (rs : List PO) : List PO → List Item
  | [] => []
  | p :: r => .op p.o :: ((if p.eff then (rs.filter fun q => !ahead q.i p).map fun q => Item.chk q.o else []) ++ plan (if p.rd then p :: rs else rs) r)

def oprTmps : Opr → List Nat
  | .t i => [i]
  | .k _ => []
def oprsTmps (l : List Opr) : List Nat := l.flatMap oprTmps
def ooprTmps : Option Opr → List Nat
  | none => []
  | some x => oprTmps x

/-- the places that an operation looks at -/
def tmpsOf : AOp → List Nat
  | .mv x | .nilchk x | .un _ x | .conv _ x | .mki _ x | .fa _ x | .fld _ _ _ x | .ext _ x | .len _ x | .clr _ x | .rng x | .nxt x | .tass _ x | .box _ x | .load _ _ x => oprTmps x
  | .pick a b c => oprTmps a ++ (oprTmps b ++ oprTmps c)
  | .build _ ps | .bslice _ _ _ ps => ps.flatMap fun p => oprTmps p.2.2
  | .store _ a x | .bin _ a x | .beq _ a x | .peq _ a x | .nileq _ _ a x | .ia _ a x | .idx _ _ a x | .look _ _ _ a x | .app _ _ a x | .copy _ a x | .del _ a x | .mn a x | .mx a x | .mks _ _ _ a x => oprTmps a ++ oprTmps x
  | .mkf _ a c => oprsTmps a ++ oprsTmps c
  | .slc _ x a b c => oprTmps x ++ (ooprTmps a ++ (ooprTmps b ++ ooprTmps c))
  | .mset _ m k v => oprTmps m ++ (oprTmps k ++ oprTmps v)
  | .call _ xs => oprsTmps xs
  | .callv x xs | .callm _ x xs => oprTmps x ++ oprsTmps xs
  | .alloc _ | .mkm | .bad => []

def guardTmp (o : AOper) : List Nat :=
  match o.g with
  | some (d, _) => [d]
  | none => []

/-- the places that an operation looks at, its guard's too -/
def looks (o : AOper) : List Nat := guardTmp o ++ tmpsOf o.op

/-- does p write a place that q looks at? -/
def wrAt (p q : PO) : Bool :=
  match p.o.d with
  | some d => (looks q.o).contains d
  | none => false

def sameD (p q : PO) : Bool :=
  match p.o.d, q.o.d with
  | some a, some b => Nat.beq a b
  | _, _ => false

/-- p stands ahead of q in the plan: they are two, q need not come first, an effect has all behind it, no place is written twice, who writes what the other looks at is ahead -/
def pairOk (p q : PO) : Bool :=
  !Nat.beq p.i q.i && !ahead q.i p && (!p.eff || ahead p.i q) && !sameD p q && (!(wrAt p q || wrAt q p) || ahead p.i q) && !(p.rd && !q.eff && wrAt q p)

def chainOk : List PO → Bool
  | [] => true
  | p :: r => !(p.rd && wrAt p p) && r.all (pairOk p) && chainOk r

def ancOk (acc : List Nat) : List Oper → List Nat → Bool
  | o :: r, a :: s => Nat.beq a (ancOf acc (edgesOf o)) && ancOk acc r s
  | [], [] => true
  | _, _ => false

def edgesDown (i : Nat) : List Oper → Bool
  | [] => true
  | o :: r => (edgesOf o).all (fun e => decide (e < i)) && edgesDown (i + 1) r

def coverOk (c : List PO) : Nat → Bool
  | 0 => true
  | n + 1 => c.any (fun p => Nat.beq p.i n) && coverOk c n

/-- an entry of a map that is written down: key by key, in whatever order -/
def isLit (p : PO) : Bool :=
  match p.o.op with
  | .mset _ (.t _) (.k _) _ => !p.o.g.isSome && !p.o.d.isSome
  | _ => false

def litOf (sk : Bool) (m : Nat) (p : PO) : Bool :=
  match p.o.op with
  | .mset sk' (.t m') (.k k) _ => (sk' == sk) && Nat.beq m' m && (match keyEq sk k k with | some true => true | _ => false)
  | _ => false

def litKey (p : PO) : AVal :=
  match p.o.op with
  | .mset _ _ (.k k) _ => k
  | _ => undef

def keysOff (sk : Bool) : List PO → Bool
  | [] => true
  | p :: r => r.all (fun q => match keyEq sk (litKey p) (litKey q) with | some false => true | _ => false) && keysOff sk r

def idsOk : List PO → Bool
  | [] => true
  | p :: r => r.all (fun q => !Nat.beq p.i q.i) && idsOk r

/-- the map is made in this very region -/
def litMade (m : Nat) (I : List PO) (q : PO) : Bool :=
  q.al && (match q.o.op with | .mkm => true | _ => false) && (match q.o.d with | some d => Nat.beq d m | none => false) && I.all (fun i => ahead q.i i)

def litOk (F I : List PO) : Bool :=
  match I with
  | p :: _ => (match p.o.op with
    | .mset sk (.t m) _ _ => I.all (litOf sk m) && keysOff sk I && F.any (litMade m I)
    | _ => false)
  | [] => false

def litItems (c : List PO) : Option (List Item) :=
  let F := c.filter fun p => !isLit p
  let I := c.filter isLit
  if chainOk F && F.all (fun p => !p.eff && !p.rd) && litOk F I && idsOk (F ++ I) && I.all (fun i => F.all fun q => !wrAt q i || ahead q.i i) then some (plan [] F ++ I.map fun p => .op p.o) else none

def drawItems (ops : List Oper) (l : List AOper) : Option (List Item) :=
  let as := ancsFrom [] ops
  let c := orderIt ops.length 0 (zipPO 0 l as)
  if edgesDown 0 ops && ancOk as ops as && coverOk c ops.length && Nat.beq c.length ops.length then (if chainOk c then some (plan [] c) else litItems c) else none

section
variable (G : List Nat) (P : Program)
def ccode (n : Nat) : Code → Option ACode
  | .skip => some .skip
  | .region _ ops draw => match copers G P ops.toList n ops.toList with
    | some l => if draw then (drawItems ops.toList l).map .reg else some (.reg (l.map .op))
    | none => none
  | .seq a b => match ccode n a, ccode n b with
    | some a, some b => some (.seq a b)
    | _, _ => none
  | .cond c a b => match copr G c, ccode n a, ccode n b with
    | some c, some a, some b => some (.ite c a b)
    | _, _, _ => none
  | .block id c => (ccode n c).map (.block id)
  | .loop c => (ccode n c).map .loop
  | .exit id => some (.exit id)
  | .ret => some .ret
  | _ => some .bad

def crvs : List ResultVar → Option (List RV)
  | [] => some []
  | .tmp t :: r => (crvs r).map (.t t :: ·)
  | .cell a t :: r => match tagg P t, tsize P t, crvs r with
    | some g, some n, some r => some (.c a g n :: r)
    | _, _, _ => none

def cfunc (f : Func) : Option AFunc :=
  match f.body with
  | some c => if f.name == "runtime.NumGoroutine" then none else match crvs P f.results.toList, ccode G P f.ntmps c with
    | some rs, some c => some { rs := rs, body := c }
    | _, _ => none
  | none => none
end
end Go.Ai

