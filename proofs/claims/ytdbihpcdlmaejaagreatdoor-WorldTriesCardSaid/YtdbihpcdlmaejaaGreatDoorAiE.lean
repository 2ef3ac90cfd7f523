/- An evaluator for the model's code, proved sound: part AiE. Not of one program: lemmas for the claim. -/
import Derived.Test.YtdbihpcdlmaejaaGreatDoorAiD
import Derived.Tactics
import Derived.Orders
/- A region in the order of its text. -/
set_option linter.unusedSimpArgs false
set_option linter.unusedVariables false
namespace Go.Ai
open Go

section
variable {G : List Nat} {P : Program} {loc : Loc} {h h' : AHeap} {w : World} {e e' : Env} {a : Act} {n : Nat} {M : Meth} {call : CallT}

/-- the places of a frame, all of them -/
structure EnvRep (loc : Loc) (n : Nat) (e : Env) (tm : Array Value) : Prop where
  size : n ≤ tm.size
  rep : ∀ i, Rep loc (e.at i) (tm.getD i Go.undef)

theorem EnvRep.at (h : EnvRep loc n e a.tmps) (ts : List Nat) : AtRep loc ts e a.tmps := fun i _ => h.rep i

theorem EnvRep.mono {loc' : Loc} {tm : Array Value} (hle : LocLe loc loc') (h : EnvRep loc n e tm) : EnvRep loc' n e tm := ⟨h.size, fun i => (h.rep i).mono hle⟩

theorem put_tmps (a : Act) (d : Option Nat) (v : Value) : (a.put d v).defers = a.defers ∧ (a.put d v).tmps.size = a.tmps.size := by
  cases d <;> simp [Act.put]

theorem getD_put (a : Act) {d : Nat} (v : Value) (hd : d < a.tmps.size) (i : Nat) : (a.put (some d) v).tmps.getD i Go.undef = if d = i then v else a.tmps.getD i Go.undef := by
  simp only [Act.put, Array.getD_eq_getD_getElem?]
  by_cases h : d = i
  · subst h; simp [hd]
  · rw [if_neg h, Array.getElem?_setIfInBounds_ne h]

theorem EnvRep.put {d : Option Nat} {v : AVal} {v' : Value} (h : EnvRep loc n e a.tmps) (hd : ∀ x, d = some x → x < n) (hv : Rep loc v v') : EnvRep loc n (Ai.put e d v) (a.put d v').tmps := by
  refine ⟨by rw [(put_tmps a d v').2]; exact h.size, ?_⟩
  intro i
  cases d with
  | none => exact h.rep i
  | some d =>
    have hlt : d < a.tmps.size := Nat.lt_of_lt_of_le (hd d rfl) h.size
    rw [getD_put a v' hlt i]
    show Rep loc (Env.at (Tr.set e d v) i) _
    rw [Env.at_set]
    split
    · exact hv
    · exact h.rep i

theorem wants_iff {ops : Array Oper} {o : Oper} {g : Option (Nat × Bool)} (hc : cguard ops.toList n o.guard = some g) (hs : n ≤ a.tmps.size) (hr : ∀ d w, g = some (d, w) → Rep loc (e.at d) (a.tmps.getD d Go.undef)) :
    Region.wanted o (yielded ops a.tmps) = wants e g := by
  unfold Region.wanted
  cases hg : o.guard with
  | none =>
    rw [hg] at hc
    simp only [cguard, Option.some.injEq] at hc; subst hc
    rfl
  | some jw =>
    obtain ⟨j, wt⟩ := jw
    rw [hg] at hc
    simp only [cguard] at hc
    split at hc
    · rename_i p hp
      split at hc
      · rename_i d hd
        split at hc
        · rename_i hlt
          simp only [Option.some.injEq] at hc; subst hc
          have hrep := hr d wt rfl
          have hget : a.tmps[d]? = some (a.tmps.getD d Go.undef) := by
            rw [Array.getD_eq_getD_getElem?, Array.getElem?_eq_getElem (Nat.lt_of_lt_of_le hlt hs)]; rfl
          have hj : ops[j]? = some p := by rw [← Array.getElem?_toList]; exact hp
          simp only [yielded, hj, Option.bind_some, hd, hget, wants]
          generalize a.tmps.getD d Go.undef = X at hrep
          generalize e.at d = A at hrep
          cases hrep <;> first | (rename_i b; cases b <;> cases wt <;> rfl) | rfl
        · cases hc
      · cases hc
    · cases hc

theorem coper_spec {ops : List Oper} {o : Oper} {x : AOper} (hc : coper G P ops n o = some x) : x.d = o.dst ∧ cguard ops n o.guard = some x.g ∧ (∀ d, o.dst = some d → d < n) ∧ x.op = (cop G P o).getD .bad := by
  unfold coper at hc
  split at hc
  · rename_i g hg
    split at hc
    · rename_i hd
      simp only [Option.some.injEq] at hc; subst hc
      refine ⟨rfl, hg, ?_, rfl⟩
      intro d hdd
      rw [hdd] at hd
      simpa using hd
    · cases hc
  · cases hc

theorem cop_of_step {o : Oper} {h2 : AHeap} {r : AVal × AHeap} (hs : step M call e h2 ((cop G P o).getD .bad) = some r) : ∃ op, cop G P o = some op ∧ step M call e h2 op = some r := by
  cases hc : cop G P o with
  | none => rw [hc] at hs; simp [step] at hs
  | some op => rw [hc] at hs; exact ⟨op, rfl, hs⟩

/-- a region in the order of its text -/
theorem items_sound (hM : ∀ t n r, M t n = some r → methOf P t n = some r) (hcall : CallOK G P call) {ops : Array Oper} {Q : Exit → Act → World → Prop} : ∀ {l : List Oper} {xs : List AOper} {loc : Loc} {h : AHeap} {w : World} {e : Env} {a : Act},
    copers G P ops.toList n l = some xs → runItems M call (xs.map .op) e h = some (e', h') → Globs G loc → Sim loc h w → EnvRep loc n e a.tmps →
    (∀ loc' a' w', Step loc h w loc' h' w' → Sim loc' h' w' → EnvRep loc' n e' a'.tmps → a'.defers = a.defers → Q .normal a' w') → wpList P ops Q l a w
  | [], xs, loc, h, w, e, a, hc, hr, hg, s, he, k => by
    simp only [copers, Option.some.injEq] at hc; subst hc
    simp only [List.map_nil, runItems, Option.some.injEq, Prod.mk.injEq] at hr
    obtain ⟨rfl, rfl⟩ := hr
    exact k loc a w (Step.refl ..) s he rfl
  | o :: l, xs, loc, h, w, e, a, hc, hr, hg, s, he, k => by
    simp only [copers] at hc
    split at hc
    · rename_i x ys hx hys
      simp only [Option.some.injEq] at hc; subst hc
      obtain ⟨hd, hgd, hdn, hop⟩ := coper_spec hx
      have hw := wants_iff (a := a) (e := e) (loc := loc) hgd he.size (fun d _ _ => he.rep d)
      simp only [List.map_cons, runItems] at hr
      unfold wpList
      rw [hw]
      split
      · rename_i hwt
        rw [if_pos hwt] at hr
        split at hr
        · rename_i v h1 hst
          rw [hop] at hst
          obtain ⟨op, hcop, hst⟩ := cop_of_step hst
          left
          refine step_sound hM hcall hcop hst hg s (he.at _) _ _ ?_
          intro loc1 v1 w1 t1 s1 r1
          have he1 : EnvRep loc1 n (put e x.d v) (a.put o.dst v1).tmps := by rw [hd]; exact (he.mono t1.le).put hdn r1
          refine items_sound hM hcall hys hr (hg.mono t1.le) s1 he1 ?_
          intro loc2 a2 w2 t2 s2 e2 d2
          exact k loc2 a2 w2 (t1.trans t2 (fun b l e => (s.dom b l e).1)) s2 e2 (d2.trans (put_tmps ..).1)
        · cases hr
      · rename_i hwt
        rw [if_neg hwt] at hr
        have he1 : EnvRep loc n (put e x.d undef) (a.put o.dst Go.undef).tmps := by rw [hd]; exact he.put hdn Rep.undef
        refine items_sound hM hcall hys hr hg s he1 ?_
        intro loc2 a2 w2 t2 s2 e2 d2
        exact k loc2 a2 w2 t2 s2 e2 (d2.trans (put_tmps ..).1)
    · cases hc
end
end Go.Ai

/- An operation looks at no other place than it names; what looks at nothing, what only reads. -/
set_option linter.unusedSimpArgs false
set_option linter.unusedVariables false
namespace Go.Ai
open Go

section
variable {G : List Nat} {P : Program} {loc : Loc} {h h' : AHeap} {w : World} {e e' : Env} {a : Act} {n : Nat} {M : Meth} {call : CallT}

def Same (ts : List Nat) (e e' : Env) : Prop := ∀ t, t ∈ ts → e.at t = e'.at t

theorem Same.l {ts us : List Nat} (h : Same (ts ++ us) e e') : Same ts e e' := fun t ht => h t (List.mem_append_left _ ht)
theorem Same.r {ts us : List Nat} (h : Same (ts ++ us) e e') : Same us e e' := fun t ht => h t (List.mem_append_right _ ht)

theorem ev_same {x : Opr} (h : Same (oprTmps x) e e') : x.ev e = x.ev e' := by
  cases x with
  | t i => exact h i (by simp [oprTmps])
  | k v => rfl

theorem evs_same {xs : List Opr} (h : Same (oprsTmps xs) e e') : xs.map (·.ev e) = xs.map (·.ev e') := by
  refine List.map_congr_left fun x hx => ev_same fun t ht => h t ?_
  exact List.mem_flatMap.2 ⟨x, hx, ht⟩

theorem evo_same {x : Option Opr} (h : Same (ooprTmps x) e e') : x.map (·.ev e) = x.map (·.ev e') := by
  cases x with
  | none => rfl
  | some x => exact congrArg some (ev_same h)

theorem evParts_same {ps : List (Nat × Nat × Opr)} (h : Same (ps.flatMap fun p => oprTmps p.2.2) e e') : evParts e ps = evParts e' ps := by
  refine List.map_congr_left fun x hx => ?_
  rw [ev_same (x := x.2.2) fun t ht => h t (List.mem_flatMap.2 ⟨x, hx, ht⟩)]

theorem step_same {op : AOp} (h1 : Same (tmpsOf op) e e') : step M call e h op = step M call e' h op := by
  cases op <;> simp only [tmpsOf] at h1 <;> simp only [step]
  case mv x => rw [ev_same h1]
  case pick c x y => rw [ev_same h1.l, ev_same h1.r.l, ev_same h1.r.r]
  case box n x => rw [ev_same h1]
  case build zs ps => rw [evParts_same h1]
  case bslice a b c ps => rw [evParts_same h1]
  case load x y z => rw [ev_same h1]
  case store n x y => rw [ev_same h1.l, ev_same h1.r]
  case nilchk x => rw [ev_same h1]
  case bin o x y => rw [ev_same h1.l, ev_same h1.r]
  case beq o x y => rw [ev_same h1.l, ev_same h1.r]
  case peq o x y => rw [ev_same h1.l, ev_same h1.r]
  case nileq k o x y => rw [ev_same h1.l, ev_same h1.r]
  case un o x => rw [ev_same h1]
  case conv c x => rw [ev_same h1]
  case mki t x => rw [ev_same h1]
  case mkf f x y => rw [evs_same h1.l, evs_same h1.r]
  case mks s b z x y => rw [ev_same h1.l, ev_same h1.r]
  case slc k x lo hi mx => rw [ev_same h1.l, evo_same h1.r.l, evo_same h1.r.r.l, evo_same h1.r.r.r]
  case fa o x => rw [ev_same h1]
  case fld a o n x => rw [ev_same h1]
  case ia k x i => rw [ev_same h1.l, ev_same h1.r]
  case idx k g x i => rw [ev_same h1.l, ev_same h1.r]
  case look s z ok m k => rw [ev_same h1.l, ev_same h1.r]
  case mset s m k v => rw [ev_same h1.l, ev_same h1.r.l, ev_same h1.r.r]
  case ext i x => rw [ev_same h1]
  case call f xs => rw [evs_same h1]
  case callv x xs => rw [ev_same h1.l, evs_same h1.r]
  case callm m x xs => rw [ev_same h1.l, evs_same h1.r]
  case len k x => rw [ev_same h1]
  case app s b x y => rw [ev_same h1.l, ev_same h1.r]
  case copy s x y => rw [ev_same h1.l, ev_same h1.r]
  case del s m k => rw [ev_same h1.l, ev_same h1.r]
  case clr z x => rw [ev_same h1]
  case mn x y => rw [ev_same h1.l, ev_same h1.r]
  case mx x y => rw [ev_same h1.l, ev_same h1.r]
  case rng x => rw [ev_same h1]
  case nxt x => rw [ev_same h1]
  case tass t x => rw [ev_same h1]

theorem wants_same {o : AOper} (h : Same (guardTmp o) e e') : wants e o.g = wants e' o.g := by
  unfold guardTmp at h
  cases hg : o.g with
  | none => rfl
  | some dw =>
    obtain ⟨d, wt⟩ := dw
    rw [hg] at h
    have := h d (by simp)
    simp only [wants, this]

/-- what looks at nothing -/
theorem pure_step {op : AOp} {v : AVal} (hc : cls op = 0) (hs : step M call e h op = some (v, h')) : h' = h ∧ ∀ h2, step M call e h2 op = some (v, h2) := by
  cases op <;> simp only [cls, reduceCtorEq, Nat.reduceEqDiff] at hc <;> simp only [step] at hs ⊢
  case pick c x y => split at hs <;> simp_all
  case build zs ps => simp only [Option.map_eq_some_iff, Prod.mk.injEq] at hs ⊢; obtain ⟨x, h1, h2, h3⟩ := hs; exact ⟨h3.symm, fun _ => ⟨x, h1, h2, trivial⟩⟩
  case bin o x y => simp only [Option.map_eq_some_iff, Prod.mk.injEq] at hs ⊢; obtain ⟨x, h1, h2, h3⟩ := hs; exact ⟨h3.symm, fun _ => ⟨x, h1, h2, trivial⟩⟩
  case un o x => simp only [Option.map_eq_some_iff, Prod.mk.injEq] at hs ⊢; obtain ⟨x, h1, h2, h3⟩ := hs; exact ⟨h3.symm, fun _ => ⟨x, h1, h2, trivial⟩⟩
  case nileq k o x y => simp only [Option.map_eq_some_iff, Prod.mk.injEq] at hs ⊢; obtain ⟨x, h1, h2, h3⟩ := hs; exact ⟨h3.symm, fun _ => ⟨x, h1, h2, trivial⟩⟩
  case ext i x =>
    split at hs
    · rename_i vs hx
      simp only [hx, Option.map_eq_some_iff, Prod.mk.injEq] at hs ⊢; obtain ⟨x, h1, h2, h3⟩ := hs; exact ⟨h3.symm, fun _ => ⟨x, h1, h2, trivial⟩⟩
    · cases hs
  case fld g o n x =>
    split at hs
    · rename_i vs hx
      simp only [hx, Option.map_eq_some_iff, Prod.mk.injEq] at hs ⊢; obtain ⟨x, h1, h2, h3⟩ := hs; exact ⟨h3.symm, fun _ => ⟨x, h1, h2, trivial⟩⟩
    · cases hs
  case ia k x i =>
    split at hs
    · rename_i j hi
      try simp only [hi]
      split at hs
      · rename_i n s b off hx
        try simp only [hx]
        split at hs
        · rename_i hb; simp only [hb, if_true, Option.some.injEq, Prod.mk.injEq] at hs ⊢; exact ⟨hs.2.symm, fun _ => by simp [hs.1]⟩
        · cases hs
      · rename_i s b off len c z hx
        try simp only [hx]
        split at hs
        · rename_i hb; simp only [hb, if_true, Option.some.injEq, Prod.mk.injEq] at hs ⊢; exact ⟨hs.2.symm, fun _ => by simp [hs.1]⟩
        · cases hs
      · cases hs
    · cases hs
  case idx k g x i =>
    split at hs
    · rename_i j hi
      try simp only [hi]
      split at hs
      · rename_i s hx
        try simp only [hx]
        split at hs
        · rename_i hb; simp only [hb, if_true, Option.map_eq_some_iff, Prod.mk.injEq] at hs ⊢; obtain ⟨x, h1, h2, h3⟩ := hs; exact ⟨h3.symm, fun _ => ⟨x, h1, h2, trivial⟩⟩
        · cases hs
      · rename_i n s cs hx
        try simp only [hx]
        split at hs
        · rename_i hb; simp only [hb, and_self, if_true, Option.map_eq_some_iff, Prod.mk.injEq] at hs ⊢; obtain ⟨x, h1, h2, h3⟩ := hs; exact ⟨h3.symm, fun _ => ⟨x, h1, h2, trivial⟩⟩
        · cases hs
      · cases hs
    · cases hs
  case conv c x =>
    split at hs <;> simp_all [cls]
  case len k x =>
    split at hs <;> simp_all [cls]
  case slc k x lo hi mx =>
    split at hs
    · rename_i s hx
      try simp only [hx]
      split at hs
      · cases hs
      · rename_i hm
        simp only [hm, if_false, Bool.false_eq_true, Option.map_eq_some_iff, Prod.mk.injEq] at hs ⊢; obtain ⟨x, h1, h2, h3⟩ := hs; exact ⟨h3.symm, fun _ => ⟨x, h1, h2, trivial⟩⟩
    · rename_i s b off len cap z hx
      try simp only [hx]
      split at hs
      · rename_i hz
        simp only [hz, if_true, Option.map_eq_some_iff, Prod.mk.injEq] at hs ⊢; obtain ⟨x, h1, h2, h3⟩ := hs; exact ⟨h3.symm, fun _ => ⟨x, h1, h2, trivial⟩⟩
      · cases hs
    · rename_i s hx
      simp only [hx, Option.map_eq_some_iff, Prod.mk.injEq] at hs ⊢; obtain ⟨x, h1, h2, h3⟩ := hs; exact ⟨h3.symm, fun _ => ⟨x, h1, h2, trivial⟩⟩
    · simp [cls] at hc
    · cases hs
  all_goals (first | (split at hs <;> simp_all; done) | simp_all)

/-- a later heap: what there was is there -/
def HLe (h h' : AHeap) : Prop := ∀ b o, h.get b = some o → h'.get b = some o

theorem HLe.cells (hl : HLe h h') {b : Nat} {vs : List AVal} (hg : getCells h b = some vs) : getCells h' b = some vs := by
  unfold getCells at hg ⊢
  split at hg
  · rename_i x y z hb; rw [hl _ _ hb]; exact hg
  · cases hg

theorem HLe.load (hl : HLe h h') {b off n : Nat} {vs : List AVal} (hg : loadN h b off n = some vs) : loadN h' b off n = some vs := by
  unfold loadN at hg ⊢
  simp only [Option.bind_eq_some_iff] at hg ⊢
  obtain ⟨x, h1, h2⟩ := hg
  exact ⟨x, hl.cells h1, h2⟩

theorem HLe.isVar (hl : HLe h h') {b : Nat} (hg : isVar h b = true) : isVar h' b = true := by
  unfold Ai.isVar at hg ⊢
  split at hg
  · rename_i x y z hb; rw [hl _ _ hb]; exact hg
  · cases hg

theorem HLe.look (hl : HLe h h') {sk : Bool} {m k : AVal} {r : Option AVal} (hg : lookKey h sk m k = some r) : lookKey h' sk m k = some r := by
  unfold lookKey at hg ⊢
  split at hg
  · exact hg
  · split at hg
    · rename_i x hb; rw [hl _ _ hb]; exact hg
    · cases hg
  · cases hg

theorem HLe.ptrEq (hl : HLe h h') {x y : AVal} {r : Bool} (hg : ptrEq h x y = some r) : ptrEq h' x y = some r := by
  unfold Ai.ptrEq at hg ⊢
  split at hg
  · exact hg
  · exact hg
  · exact hg
  · split at hg
    · rename_i hb
      simp only [Bool.and_eq_true] at hb
      rw [if_pos (by simp [hl.isVar hb.1, hl.isVar hb.2])]; exact hg
    · cases hg
  · cases hg

/-- what only reads -/
theorem read_step {op : AOp} {v : AVal} (hc : cls op = 1) (hs : step M call e h op = some (v, h')) : h' = h ∧ ∀ h2, HLe h h2 → step M call e h2 op = some (v, h2) := by
  cases op <;> simp only [cls, reduceCtorEq, Nat.reduceEqDiff] at hc <;> simp only [step] at hs ⊢
  case load g n x =>
    split at hs
    · rename_i b off hx
      simp only [hx, Option.map_eq_some_iff, Option.bind_eq_some_iff, Prod.mk.injEq] at hs ⊢
      obtain ⟨x, ⟨y, h0, h1⟩, h2, h3⟩ := hs
      exact ⟨h3.symm, fun k hl => ⟨x, ⟨y, hl.load h0, h1⟩, h2, trivial⟩⟩
    · cases hs
  case peq o x y =>
    simp only [Option.map_eq_some_iff, Prod.mk.injEq] at hs ⊢
    obtain ⟨x, h1, h2, h3⟩ := hs
    exact ⟨h3.symm, fun k hl => ⟨x, hl.ptrEq h1, h2, trivial⟩⟩
  case look s z ok m k =>
    simp only [Option.map_eq_some_iff, Prod.mk.injEq] at hs ⊢
    obtain ⟨x, h1, h2, h3⟩ := hs
    exact ⟨h3.symm, fun k hl => ⟨x, hl.look h1, h2, trivial⟩⟩
  case conv c x =>
    split at hs <;> try (simp [cls] at hc; done)
    · rename_i hx
      simp only [hx, Option.some.injEq, Prod.mk.injEq] at hs ⊢
      exact ⟨hs.2.symm, fun _ _ => ⟨hs.1, trivial⟩⟩
    · rename_i b off len c z hx
      simp only [hx, Option.map_eq_some_iff, Option.bind_eq_some_iff, Prod.mk.injEq] at hs ⊢
      obtain ⟨x, ⟨y, h0, h1⟩, h2, h3⟩ := hs
      exact ⟨h3.symm, fun k hl => ⟨x, ⟨y, hl.load h0, h1⟩, h2, trivial⟩⟩
    · cases hs
  case len k x =>
    split at hs <;> try (simp [cls] at hc; done)
    · rename_i hx
      simp only [hx, Option.some.injEq, Prod.mk.injEq] at hs ⊢
      exact ⟨hs.2.symm, fun _ _ => ⟨hs.1, trivial⟩⟩
    · rename_i b hx
      split at hs
      · rename_i es hb
        simp only [hx, Option.some.injEq, Prod.mk.injEq] at hs ⊢
        refine ⟨hs.2.symm, fun k hl => ?_⟩
        rw [hl _ _ hb]
        simp [hs.1]
      · cases hs
    · cases hs
  case slc k x lo hi mx =>
    split at hs <;> try (simp [cls] at hc; done)
    · rename_i n s b off hx
      try simp only [hx]
      split at hs
      · rename_i hv
        simp only [Option.map_eq_some_iff, Prod.mk.injEq] at hs
        obtain ⟨x, h1, h2, h3⟩ := hs
        refine ⟨h3.symm, fun k hl => ?_⟩
        rw [if_pos (hl.isVar hv)]
        simp only [Option.map_eq_some_iff, Prod.mk.injEq]
        exact ⟨x, h1, h2, trivial⟩
      · cases hs
    · cases hs

mutual
theorem same_sound : ∀ {a b : AVal}, a.same b = true → a = b
  | .bool a, .bool b, h => by simp only [AVal.same, beq_iff_eq] at h; rw [h]
  | .int j a, .int k b, h => by simp only [AVal.same, Bool.and_eq_true, beq_iff_eq] at h; rw [h.1, h.2]
  | .str a, .str b, h => by simp only [AVal.same, beq_iff_eq] at h; rw [h]
  | .ptr a i, .ptr b j, h => by simp only [AVal.same, Bool.and_eq_true, Nat.beq_eq] at h; rw [h.1, h.2]
  | .nilp, .nilp, _ => rfl
  | .sl a i n c x, .sl b j m d y, h => by
    simp only [AVal.same, Bool.and_eq_true, Nat.beq_eq] at h
    obtain ⟨⟨⟨⟨rfl, rfl⟩, rfl⟩, rfl⟩, rfl⟩ := h; rfl
  | .nils, .nils, _ => rfl
  | .mp a, .mp b, h => by simp only [AVal.same, Nat.beq_eq] at h; rw [h]
  | .nilm, .nilm, _ => rfl
  | .fn f a c, .fn g b d, h => by
    simp only [AVal.same, Bool.and_eq_true, Nat.beq_eq] at h
    rw [h.1.1, sameL_sound h.1.2, sameL_sound h.2]
  | .nilf, .nilf, _ => rfl
  | .ifc t v, .ifc u w, h => by
    simp only [AVal.same, Bool.and_eq_true, Nat.beq_eq] at h
    rw [h.1, same_sound h.2]
  | .nili, .nili, _ => rfl
  | .agg a, .agg b, h => by simp only [AVal.same] at h; rw [sameL_sound h]
  | .tup a, .tup b, h => by simp only [AVal.same] at h; rw [sameL_sound h]
theorem sameL_sound : ∀ {a b : List AVal}, sameL a b = true → a = b
  | [], [], _ => rfl
  | a :: x, b :: y, h => by
    simp only [sameL, Bool.and_eq_true] at h
    rw [same_sound h.1, sameL_sound h.2]
end
end
end Go.Ai

/- Code, functions, calls. -/
set_option linter.unusedSimpArgs false
set_option linter.unusedVariables false
namespace Go.Ai
open Go

section
variable {G : List Nat} {P : Program} {loc : Loc} {h h' : AHeap} {w : World} {e e' : Env} {a : Act} {n : Nat} {M : Meth} {call : CallT}

/-- what a plan for an order that is drawn is worth -/
def DrawOK (G : List Nat) (P : Program) (M : Meth) (call : CallT) : Prop :=
  ∀ (n id : Nat) (ops : Array Oper) (l : List AOper) (items : List Item) (loc : Loc) (h h' : AHeap) (w : World) (e e' : Env) (a : Act) (Q : Exit → Act → World → Prop),
    copers G P ops.toList n ops.toList = some l → drawItems ops.toList l = some items → runItems M call items e h = some (e', h') → Globs G loc → Sim loc h w → EnvRep loc n e a.tmps →
    (∀ loc' a' w', Step loc h w loc' h' w' → Sim loc' h' w' → EnvRep loc' n e' a'.tmps → a'.defers = a.defers → Q .normal a' w') → (Code.region id ops true).wp P Q a w

def exOf : Ex → Exit
  | .nrm => .normal
  | .out id => .exit id
  | .ret => .ret

/-- a loop whose first round is at hand -/
def LoopW (P : Program) (c : Code) (Q : Exit → Act → World → Prop) (a : Act) (w : World) : Prop :=
  ∀ (b : Frame) (k : List Go.Item) (cs : List Frame), ∃ e a' w', Q e a' w' ∧ Arrives P (lone (b.at a (.code c :: .inLoop c :: k)) cs w) b k cs e a' w'

theorem LoopW.loop {c : Code} {Q : Exit → Act → World → Prop} (hl : LoopW P c Q a w) : (Code.loop c).wp P Q a w := fun b k cs =>
  let ⟨e, a', w', hq, harr⟩ := hl b k cs
  ⟨e, a', w', hq, .of_steps (.one step_loop) harr⟩

theorem LoopW.round {c : Code} {Q : Exit → Act → World → Prop} (hc : c.wp P (Exit.then (LoopW P c Q) Q) a w) : LoopW P c Q a w := by
  intro b k cs
  obtain ⟨e, a₁, w₁, hq, harr⟩ := hc b (.inLoop c :: k) cs
  cases e with
  | normal =>
    obtain ⟨e₂, a₂, w₂, hq₂, harr₂⟩ := hq b k cs
    exact ⟨e₂, a₂, w₂, hq₂, .of_steps (Steps.trans harr (.one step_inLoop)) harr₂⟩
  | exit id => exact ⟨_, a₁, w₁, hq, .pass (x := .inLoop c) rfl (fun _ _ => .inl (by simp)) harr⟩
  | goto l => exact ⟨_, a₁, w₁, hq, .pass (x := .inLoop c) rfl (fun _ _ => .inl (by simp)) harr⟩
  | ret => exact ⟨_, a₁, w₁, hq, .pass (x := .inLoop c) rfl (fun _ _ => .inl (by simp)) harr⟩
  | panic ch => exact ⟨_, a₁, w₁, hq, .pass (x := .inLoop c) rfl (fun _ _ => .inl (by simp)) harr⟩
  | outgrown => exact ⟨_, a₁, w₁, hq, .pass (x := .inLoop c) rfl (fun _ _ => .inl (by simp)) harr⟩

/-- what a piece of code comes to -/
def CodeOK (G : List Nat) (P : Program) (n : Nat) (c : Code) (f : Env → AHeap → Option (Ex × Env × AHeap)) : Prop :=
  ∀ (e : Env) (h : AHeap) (ex : Ex) (e' : Env) (h' : AHeap), f e h = some (ex, e', h') → ∀ (loc : Loc) (w : World) (a : Act) (Q : Exit → Act → World → Prop), Globs G loc → Sim loc h w → EnvRep loc n e a.tmps →
    (∀ loc' a' w', Step loc h w loc' h' w' → Sim loc' h' w' → EnvRep loc' n e' a'.tmps → a'.defers = a.defers → Q (exOf ex) a' w') → c.wp P Q a w

theorem iter_ok {c : Code} {f : Env → AHeap → Option (Ex × Env × AHeap)} (hf : CodeOK G P n c f) : ∀ (k : Nat) (e : Env) (h : AHeap) (ex : Ex) (e' : Env) (h' : AHeap), iter f k e h = some (ex, e', h') → ∀ (loc : Loc) (w : World) (a : Act) (Q : Exit → Act → World → Prop), Globs G loc → Sim loc h w → EnvRep loc n e a.tmps →
    (∀ loc' a' w', Step loc h w loc' h' w' → Sim loc' h' w' → EnvRep loc' n e' a'.tmps → a'.defers = a.defers → Q (exOf ex) a' w') → LoopW P c Q a w
  | 0, e, h, ex, e', h', hr, _, _, _, _, _, _, _, _ => by simp [iter] at hr
  | k + 1, e, h, ex, e', h', hr, loc, w, a, Q, hg, s, he, hk => by
    simp only [iter] at hr
    refine LoopW.round ?_
    split at hr
    · rename_i e1 h1 hb
      refine hf e h .nrm e1 h1 hb loc w a _ hg s he ?_
      intro loc1 a1 w1 t1 s1 r1 d1
      refine iter_ok hf k e1 h1 ex e' h' hr loc1 w1 a1 Q (hg.mono t1.le) s1 r1 ?_
      intro loc2 a2 w2 t2 s2 r2 d2
      exact hk loc2 a2 w2 (t1.trans t2 (fun b l e => (s.dom b l e).1)) s2 r2 (d2.trans d1)
    · rename_i hne
      cases hb : f e h with
      | none => rw [hb] at hr; cases hr
      | some r =>
        obtain ⟨ex0, e0, h0⟩ := r
        rw [hb] at hr
        simp only [Option.some.injEq, Prod.mk.injEq] at hr
        obtain ⟨rfl, rfl, rfl⟩ := hr
        refine hf e h ex0 e0 h0 hb loc w a _ hg s he ?_
        intro loc1 a1 w1 t1 s1 r1 d1
        have := hk loc1 a1 w1 t1 s1 r1 d1
        cases ex0 with
        | nrm => exact absurd hb (hne _ _)
        | out id => exact this
        | ret => exact this

theorem exec_ok (hM : ∀ t n r, M t n = some r → methOf P t n = some r) (hcall : CallOK G P call) (hdraw : DrawOK G P M call) (k : Nat) : ∀ {c : Code} {ac : ACode}, ccode G P n c = some ac → CodeOK G P n c (exec M call k ac)
  | .skip, ac, hc => by
    simp only [ccode, Option.some.injEq] at hc; subst hc
    intro e h ex e' h' hr loc w a Q hg s he hk
    simp only [exec, Option.some.injEq, Prod.mk.injEq] at hr
    obtain ⟨rfl, rfl, rfl⟩ := hr
    exact wp_skip (hk loc a w (Step.refl ..) s he rfl)
  | .region id ops draw, ac, hc => by
    simp only [ccode] at hc
    split at hc
    case h_2 => cases hc
    rename_i l hl
    split at hc
    · rename_i hd
      subst hd
      obtain ⟨items, hi, rfl⟩ := map_pair hc
      intro e h ex e' h' hr loc w a Q hg s he hk
      simp only [exec] at hr
      split at hr
      · rename_i e1 h1 hrun
        simp only [Option.some.injEq, Prod.mk.injEq] at hr
        obtain ⟨rfl, rfl, rfl⟩ := hr
        exact hdraw n id ops l items loc h h1 w e e1 a Q hl hi hrun hg s he hk
      · cases hr
    · rename_i hd
      have hd : draw = false := by simpa using hd
      subst hd
      simp only [Option.some.injEq] at hc; subst hc
      intro e h ex e' h' hr loc w a Q hg s he hk
      simp only [exec] at hr
      split at hr
      · rename_i e1 h1 hrun
        simp only [Option.some.injEq, Prod.mk.injEq] at hr
        obtain ⟨rfl, rfl, rfl⟩ := hr
        exact wp_region_list (items_sound hM hcall hl hrun hg s he hk)
      · cases hr
  | .seq x y, ac, hc => by
    simp only [ccode] at hc
    split at hc
    case h_2 => cases hc
    rename_i x' y' hx hy
    simp only [Option.some.injEq] at hc; subst hc
    have ix := exec_ok hM hcall hdraw k hx
    have iy := exec_ok hM hcall hdraw k hy
    intro e h ex e' h' hr loc w a Q hg s he hk
    simp only [exec] at hr
    refine wp_seq ?_
    split at hr
    · rename_i e1 h1 hb
      refine ix e h .nrm e1 h1 hb loc w a _ hg s he ?_
      intro loc1 a1 w1 t1 s1 r1 d1
      refine iy e1 h1 ex e' h' hr loc1 w1 a1 Q (hg.mono t1.le) s1 r1 ?_
      intro loc2 a2 w2 t2 s2 r2 d2
      exact hk loc2 a2 w2 (t1.trans t2 (fun b l e => (s.dom b l e).1)) s2 r2 (d2.trans d1)
    · rename_i hne
      refine ix e h ex e' h' hr loc w a _ hg s he ?_
      intro loc1 a1 w1 t1 s1 r1 d1
      have := hk loc1 a1 w1 t1 s1 r1 d1
      cases ex with
      | nrm => exact absurd hr (hne _ _)
      | out id => exact this
      | ret => exact this
  | .cond c x y, ac, hc => by
    simp only [ccode] at hc
    split at hc
    case h_2 => cases hc
    rename_i c' x' y' hcc hx hy
    simp only [Option.some.injEq] at hc; subst hc
    have ix := exec_ok hM hcall hdraw k hx
    have iy := exec_ok hM hcall hdraw k hy
    intro e h ex e' h' hr loc w a Q hg s he hk
    simp only [exec] at hr
    have rc := copr_rep (a := a) hcc hg (he.at _)
    split at hr
    · rename_i hb
      rw [hb] at rc
      generalize hX : a.eval c = X at rc
      cases rc
      exact wp_cond hX (ix e h ex e' h' hr loc w a Q hg s he hk)
    · rename_i hb
      rw [hb] at rc
      generalize hX : a.eval c = X at rc
      cases rc
      exact wp_cond hX (iy e h ex e' h' hr loc w a Q hg s he hk)
    · cases hr
  | .block id c, ac, hc => by
    simp only [ccode] at hc
    obtain ⟨c', hcc, rfl⟩ := map_pair hc
    have ic := exec_ok hM hcall hdraw k hcc
    intro e h ex e' h' hr loc w a Q hg s he hk
    simp only [exec] at hr
    refine wp_block ?_
    split at hr
    · rename_i i e1 h1 hb
      refine ic e h (.out i) e1 h1 hb loc w a _ hg s he ?_
      intro loc1 a1 w1 t1 s1 r1 d1
      split at hr
      · rename_i hi
        simp only [Option.some.injEq, Prod.mk.injEq] at hr
        obtain ⟨rfl, rfl, rfl⟩ := hr
        show (if i = id then Q .normal a1 w1 else Q (.exit i) a1 w1)
        rw [if_pos hi]
        exact hk loc1 a1 w1 t1 s1 r1 d1
      · rename_i hi
        simp only [Option.some.injEq, Prod.mk.injEq] at hr
        obtain ⟨rfl, rfl, rfl⟩ := hr
        show (if i = id then Q .normal a1 w1 else Q (.exit i) a1 w1)
        rw [if_neg hi]
        exact hk loc1 a1 w1 t1 s1 r1 d1
    · rename_i hne
      refine ic e h ex e' h' hr loc w a _ hg s he ?_
      intro loc1 a1 w1 t1 s1 r1 d1
      have := hk loc1 a1 w1 t1 s1 r1 d1
      cases ex with
      | nrm => exact this
      | out i => exact absurd hr (hne _ _ _)
      | ret => exact this
  | .loop c, ac, hc => by
    simp only [ccode] at hc
    obtain ⟨c', hcc, rfl⟩ := map_pair hc
    have ic := exec_ok hM hcall hdraw k hcc
    intro e h ex e' h' hr loc w a Q hg s he hk
    simp only [exec] at hr
    exact (iter_ok ic k e h ex e' h' hr loc w a Q hg s he hk).loop
  | .exit id, ac, hc => by
    simp only [ccode, Option.some.injEq] at hc; subst hc
    intro e h ex e' h' hr loc w a Q hg s he hk
    simp only [exec, Option.some.injEq, Prod.mk.injEq] at hr
    obtain ⟨rfl, rfl, rfl⟩ := hr
    exact wp_exit (hk loc a w (Step.refl ..) s he rfl)
  | .ret, ac, hc => by
    simp only [ccode, Option.some.injEq] at hc; subst hc
    intro e h ex e' h' hr loc w a Q hg s he hk
    simp only [exec, Option.some.injEq, Prod.mk.injEq] at hr
    obtain ⟨rfl, rfl, rfl⟩ := hr
    exact wp_ret (hk loc a w (Step.refl ..) s he rfl)
  | .rangeFunc .., ac, hc => by
    simp only [ccode, Option.some.injEq] at hc; subst hc
    intro e h ex e' h' hr; simp [exec] at hr
  | .scope _, ac, hc => by
    simp only [ccode, Option.some.injEq] at hc; subst hc
    intro e h ex e' h' hr; simp [exec] at hr
  | .label _, ac, hc => by
    simp only [ccode, Option.some.injEq] at hc; subst hc
    intro e h ex e' h' hr; simp [exec] at hr
  | .goto _, ac, hc => by
    simp only [ccode, Option.some.injEq] at hc; subst hc
    intro e h ex e' h' hr; simp [exec] at hr
  | .refuse _, ac, hc => by
    simp only [ccode, Option.some.injEq] at hc; subst hc
    intro e h ex e' h' hr; simp [exec] at hr

/-! ## Functions -/

theorem at_envFrom : ∀ (args : List AVal) (i : Nat) (e : Env) (j : Nat), (envFrom i e args).at j = if i ≤ j ∧ j < i + args.length then args.getD (j - i) undef else e.at j
  | [], i, e, j => by
    rw [envFrom, if_neg]; simp
  | v :: r, i, e, j => by
    rw [envFrom, at_envFrom r (i + 1) (Tr.set e i v) j, Env.at_set]
    simp only [List.length_cons]
    by_cases h1 : i = j
    · subst h1
      rw [if_neg (by omega), if_pos rfl, if_pos (by omega), Nat.sub_self]
      rfl
    · rw [if_neg h1]
      by_cases h2 : i + 1 ≤ j ∧ j < i + 1 + r.length
      · rw [if_pos h2, if_pos (by omega)]
        have : j - i = (j - (i + 1)) + 1 := by omega
        rw [this]; rfl
      · rw [if_neg h2, if_neg (by omega)]

theorem start_rep {args : List AVal} {args' : List Value} (hr : RepL loc args args') (n : Nat) : EnvRep loc n (envFrom 0 .lf args) (args'.toArray ++ Array.replicate (n - args'.toArray.size) Go.undef) := by
  have hlen := hr.length
  refine ⟨by simp; omega, ?_⟩
  intro i
  rw [at_envFrom, Array.getD_eq_getD_getElem?, Array.getElem?_append]
  by_cases hi : i < args.length
  · rw [if_pos (by omega), if_pos (by simp; omega)]
    have h1 : args[i]? = some (args.getD i undef) := by
      rw [List.getD_eq_getElem?_getD, List.getElem?_eq_getElem hi]; rfl
    obtain ⟨v', h2, h3⟩ := hr.get i _ h1
    simp only [Nat.sub_zero, List.getElem?_toArray, h2, Option.getD_some]
    exact h3
  · rw [if_neg (by omega), if_neg (by simp; omega)]
    have : (Env.at .lf i) = undef := rfl
    rw [this, Array.getElem?_replicate]
    split <;> exact Rep.undef

theorem results_rep (hg : Globs G loc) (s : Sim loc h w) (he : EnvRep loc n e a.tmps) : ∀ {rvs : List ResultVar} {rs : List RV} {vs : List AVal}, crvs P rvs = some rs → results e h rs = some vs →
    ∃ vs', RepL loc vs vs' ∧ (rvs.mapM fun
      | .tmp t => pure (a.tmps.getD t Go.undef)
      | .cell x t => do loadVar t (← asAddr (a.tmps.getD x Go.undef)) : Sem (List Value)).run P w = .ok vs' w
  | [], rs, vs, hc, hr => by
    simp only [crvs, Option.some.injEq] at hc; subst hc
    simp only [results, Option.some.injEq] at hr; subst hr
    exact ⟨[], .nil, rfl⟩
  | .tmp t :: rvs, rs, vs, hc, hr => by
    simp only [crvs] at hc
    obtain ⟨rs', hc2, rfl⟩ := map_pair hc
    simp only [results] at hr
    obtain ⟨vs0, hr2, rfl⟩ := map_pair hr
    obtain ⟨vs', h1, h2⟩ := results_rep hg s he hc2 hr2
    refine ⟨_, .cons _ _ _ _ (he.rep t) h1, ?_⟩
    rw [List.mapM_cons]
    simp only [Sem.run_bind, Sem.run_pure, Result.andThen_ok]
    refine (congrArg (fun r => Result.andThen r _) h2).trans ?_
    rfl
  | .cell x t :: rvs, rs, vs, hc, hr => by
    simp only [crvs] at hc
    split at hc
    · rename_i g m r ht hn hc2
      simp only [Option.some.injEq] at hc; subst hc
      simp only [results] at hr
      split at hr
      · rename_i b off hp
        simp only [Option.bind_eq_some_iff] at hr
        obtain ⟨v, hv, hr1⟩ := hr
        obtain ⟨vs0, hr2, rfl⟩ := map_pair hr1
        obtain ⟨vs', h1, h2⟩ := results_rep hg s he hc2 hr2
        have rx := he.rep x
        rw [hp] at rx
        generalize hX : a.tmps.getD x Go.undef = X at rx
        cases rx with
        | ptr _ _ l hl =>
          obtain ⟨v', hr1, hr2⟩ := run_load (P := P) s hl (by simpa [Option.bind_eq_some_iff] using hv) ht hn
          refine ⟨_, .cons _ _ _ _ hr2 h1, ?_⟩
          rw [List.mapM_cons]
          simp only [Sem.run_bind, hX, asAddr, Sem.run_pure, Result.andThen_ok, hr1]
          refine (congrArg (fun r => Result.andThen r _) h2).trans ?_
          rfl
      · cases hr
    · cases hc

theorem results_run {fn : Func} {rs : List RV} {vs : List AVal} (hg : Globs G loc) (s : Sim loc h w) (he : EnvRep loc n e a.tmps) (hc : crvs P fn.results.toList = some rs) (hr : results e h rs = some vs) :
    ∃ v', Rep loc (ofResults vs) v' ∧ (Go.results fn a.tmps).run P w = .ok v' w := by
  obtain ⟨vs', h1, h2⟩ := results_rep (P := P) hg s he hc hr
  have hm : (fn.results.mapM fun
      | .tmp t => pure (a.tmps.getD t Go.undef)
      | .cell x t => do loadVar t (← asAddr (a.tmps.getD x Go.undef)) : Sem (Array Value)).run P w = .ok vs'.toArray w := by
    rw [Array.mapM_eq_mapM_toList, Sem.run_map, h2]; rfl
  have hrun : (Go.results fn a.tmps).run P w = .ok (if h : vs'.toArray.size = 1 then vs'.toArray[0] else .tuple vs'.toArray) w := by
    unfold Go.results
    rw [Sem.run_bind]
    refine (congrArg (fun r => Result.andThen r _) hm).trans ?_
    simp only [Result.andThen_ok, Sem.run_pure]
  rw [hrun]
  cases h1 with
  | nil => exact ⟨.tuple #[], .tup [] [] .nil, by simp⟩
  | cons v v' r r' hv hr1 =>
    cases hr1 with
    | nil => exact ⟨v', hv, by simp⟩
    | cons u u' r r' hu hr2 =>
      refine ⟨.tuple (v' :: u' :: r').toArray, .tup _ _ (.cons _ _ _ _ hv (.cons _ _ _ _ hu hr2)), ?_⟩
      rw [dif_neg (by simp)]

/-- a function that stands for itself -/
def PrimOK (G : List Nat) (P : Program) (f : FuncId) (p : CallT → List AVal → AHeap → Option (AVal × AHeap)) : Prop :=
  ∀ call, CallOK G P call → ∀ args h v h', p call args h = some (v, h') → ∀ loc w args', Globs G loc → RepL loc args args' → Sim loc h w →
    InvOK P f args'.toArray w fun v' w' => ∃ loc', Step loc h w loc' h' w' ∧ Sim loc' h' w' ∧ Rep loc' v v'

structure TabOK (G : List Nat) (P : Program) (T : Tab) : Prop where
  fn : ∀ f x, T.fn f = some x → ∃ pf, P.funcs[f]? = some pf ∧ cfunc G P pf = some x
  prim : ∀ f p, T.prim f = some p → PrimOK G P f p
  meth : ∀ t n r, T.meth t n = some r → methOf P t n = some r
  draw : ∀ call, CallOK G P call → DrawOK G P T.meth call

/-- WHAT THE EVALUATOR COMPUTES, THE MODEL COMPUTES. -/
theorem callN_ok {T : Tab} (hT : TabOK G P T) : ∀ k, CallOK G P (callN T k)
  | 0 => by intro f args h v h' hr; simp [callN] at hr
  | k + 1 => by
    have ih := callN_ok hT k
    intro f args h v h' hr loc w args' hg ha s
    simp only [callN] at hr
    split at hr
    · rename_i p hp
      exact hT.prim f p hp _ ih args h v h' hr loc w args' hg ha s
    · split at hr
      · cases hr
      · rename_i x hx
        obtain ⟨pf, hpf, hc⟩ := hT.fn f x hx
        unfold cfunc at hc
        split at hc
        case h_2 => cases hc
        rename_i body hbody
        split at hc
        case isTrue => cases hc
        rename_i hname
        split at hc
        case h_2 => cases hc
        rename_i rs c hrs hcc
        simp only [Option.some.injEq] at hc; subst hc
        have hcf : (callFunc f args'.toArray).run P w = .ok (.enter f args'.toArray) w := by
          simp only [callFunc, Sem.run_bind, run_program, Result.andThen_ok, hpf]
          rw [if_neg hname, hbody]
          rfl
        unfold InvOK
        rw [hcf]
        have body : ∀ (ex : Ex) (e1 : Env) (h1 : AHeap), exec T.meth (callN T k) k c (envFrom 0 .lf args) h = some (ex, e1, h1) → (ex = .nrm ∨ ex = .ret) → (Ai.results e1 h1 rs).map (fun vs => (ofResults vs, h1)) = some (v, h') →
            Calls P f args'.toArray w fun e w'' => ∃ v', e = .returned v' ∧ ∃ loc', Step loc h w loc' h' w'' ∧ Sim loc' h' w'' ∧ Rep loc' v v' := by
          intro ex e1 h1 hex hor hres
          obtain ⟨vs, hvs, hv⟩ := map_pair hres
          simp only [Prod.mk.injEq] at hv
          obtain ⟨rfl, rfl⟩ := hv
          refine calls_of_wp hpf hbody ?_
          refine exec_ok hT.meth ih (hT.draw _ ih) k hcc _ h ex e1 h1 hex loc w _ _ hg s (start_rep ha pf.ntmps) ?_
          intro loc1 a1 w1 t1 s1 r1 d1
          obtain ⟨v', hv', hrun⟩ := results_run (P := P) (fn := pf) (hg.mono t1.le) s1 r1 hrs hvs
          rcases hor with rfl | rfl
          · exact ⟨d1, v', hrun, v', rfl, loc1, t1, s1, hv'⟩
          · exact ⟨d1, v', hrun, v', rfl, loc1, t1, s1, hv'⟩
        split at hr
        · rename_i e1 h1 hex
          exact body _ _ _ hex (.inl rfl) hr
        · rename_i e1 h1 hex
          exact body _ _ _ hex (.inr rfl) hr
        · cases hr
end
end Go.Ai

/- The two operations that make the same block each time. -/
set_option linter.unusedSimpArgs false
set_option linter.unusedVariables false
namespace Go.Ai
open Go

section
variable {G : List Nat} {P : Program} {loc : Loc} {h h' : AHeap} {w : World} {e e' : Env} {a : Act} {n : Nat} {M : Meth} {call : CallT} {o : Oper}

theorem cbuiltin_al {b : Builtin} {t : TypeId} {u : Option TypeId} {xs : List Opr} {op : AOp} (h : cbuiltin P b t u xs = some op) : cls op ≠ 2 := by
  unfold cbuiltin at h
  repeat' split at h
  all_goals first
    | (cases h; done)
    | (simp only [Option.some.injEq] at h; subst h; simp [cls]; done)
    | (obtain ⟨x, h1, h2⟩ := map_pair h; subst h2; simp [cls]; done)

theorem cop_al {op : AOp} (h : cop G P o = some op) (hc : cls op = 2) : (∃ t zs, o.op = .alloc t ∧ tzero P t = some zs ∧ op = .alloc zs) ∨ ∃ t, o.op = .makeMap t none ∧ op = .mkm := by
  cases ho : o.op
  case alloc t =>
    simp only [cop, ho] at h
    obtain ⟨zs, h1, h2⟩ := map_pair h
    exact .inl ⟨t, zs, rfl, h1, h2.symm⟩
  case makeMap t r =>
    cases r with
    | none => simp only [cop, ho, Option.some.injEq] at h; exact .inr ⟨t, rfl, h.symm⟩
    | some r => simp [cop, ho] at h
  all_goals exfalso
  all_goals simp only [cop, ho, reduceCtorEq] at h
  case call c =>
    repeat' split at h
    all_goals first
      | (exact absurd hc (cbuiltin_al h))
      | (cases h; done)
      | (simp only [Option.some.injEq] at h; subst h; simp [cls] at hc; done)
      | (obtain ⟨x, h1, h2⟩ := map_pair h; subst h2; simp [cls] at hc; done)
  all_goals (repeat' split at h)
  all_goals first
    | (cases h; done)
    | (simp only [Option.some.injEq] at h; subst h; simp [cls] at hc; done)
    | (obtain ⟨x, h1, h2⟩ := map_pair h; subst h2; simp [cls] at hc; done)
    | (rename_i hh; cases hh; done)
    | (rename_i hh _ _ _ _ _ _ _ _; cases hh; done)
    | (simp at *; done)
end
end Go.Ai

/- An order that is drawn: whichever is drawn, it comes to what the plan comes to. -/
set_option linter.unusedSimpArgs false
set_option linter.unusedVariables false
namespace Go.Ai
open Go

/-! ## What is asked of a plan -/

structure Plan (G : List Nat) (P : Program) (n : Nat) (ops : Array Oper) (as : List Nat) (c : List PO) : Prop where
  chain : c.Pairwise fun p q => pairOk p q = true
  self : ∀ p ∈ c, (p.rd && wrAt p p) = false
  mem : ∀ p ∈ c, ∃ o, ops[p.i]? = some o ∧ coper G P ops.toList n o = some p.o ∧ as[p.i]? = some p.anc ∧ p.anc = ancOf as (edgesOf o)

/-- and of all its operations together -/
structure Cov (ops : Array Oper) (as : List Nat) (c : List PO) : Prop where
  down : ∀ i o, ops[i]? = some o → ∀ e ∈ edgesOf o, e < i
  cover : ∀ i, i < ops.size → ∃ p ∈ c, p.i = i
  anc : ∀ (i : Nat) (o : Oper), ops[i]? = some o → ∃ a : Nat, as[i]? = some a ∧ a = ancOf as (edgesOf o)

section
variable {G : List Nat} {P : Program} {n : Nat} {ops : Array Oper} {as : List Nat} {c : List PO}

theorem edgesDown_spec : ∀ {l : List Oper} {k : Nat}, edgesDown k l = true → ∀ (j : Nat) (o : Oper), l[j]? = some o → ∀ e ∈ edgesOf o, e < k + j
  | [], _, _, j, o, h => by simp at h
  | x :: l, k, hd, j, o, h => by
    simp only [edgesDown, Bool.and_eq_true, List.all_eq_true, decide_eq_true_eq] at hd
    intro e he
    cases j with
    | zero => simp at h; subst h; exact hd.1 e he
    | succ j => have := edgesDown_spec hd.2 j o (by simpa using h) e he; omega

theorem ancOk_spec {acc : List Nat} : ∀ {l : List Oper} {s : List Nat}, ancOk acc l s = true → ∀ (j : Nat) (o : Oper), l[j]? = some o → ∃ a, s[j]? = some a ∧ a = ancOf acc (edgesOf o)
  | [], _, _, j, o, h => by simp at h
  | x :: l, [], hd, j, o, h => by simp [ancOk] at hd
  | x :: l, a :: s, hd, j, o, h => by
    simp only [ancOk, Bool.and_eq_true, Nat.beq_eq] at hd
    cases j with
    | zero => simp at h; subst h; exact ⟨a, rfl, hd.1⟩
    | succ j => obtain ⟨b, h1, h2⟩ := ancOk_spec hd.2 j o (by simpa using h); exact ⟨b, by simpa using h1, h2⟩

theorem coverOk_spec : ∀ {m : Nat}, coverOk c m = true → ∀ i, i < m → ∃ p ∈ c, p.i = i
  | 0, _, i, h => by omega
  | m + 1, hc, i, h => by
    simp only [coverOk, Bool.and_eq_true, List.any_eq_true, Nat.beq_eq] at hc
    by_cases e : i = m
    · subst e; exact hc.1
    · exact coverOk_spec hc.2 i (by omega)

theorem chainOk_spec : ∀ {c : List PO}, chainOk c = true → c.Pairwise (fun p q => pairOk p q = true) ∧ ∀ p ∈ c, (p.rd && wrAt p p) = false
  | [], _ => ⟨.nil, by simp⟩
  | p :: r, h => by
    simp only [chainOk, Bool.and_eq_true, Bool.not_eq_true', List.all_eq_true] at h
    obtain ⟨h1, h2⟩ := chainOk_spec h.2
    refine ⟨List.pairwise_cons.2 ⟨h.1.2, h1⟩, ?_⟩
    intro q hq
    cases hq with
    | head => exact h.1.1
    | tail _ hq => exact h2 q hq

theorem copers_get {os : List Oper} : ∀ {l : List Oper} {xs : List AOper}, copers G P os n l = some xs → ∀ (j : Nat) (x : AOper), xs[j]? = some x → ∃ o, l[j]? = some o ∧ coper G P os n o = some x
  | [], xs, h, j, x, hx => by simp only [copers, Option.some.injEq] at h; subst h; simp at hx
  | o :: l, xs, h, j, x, hx => by
    simp only [copers] at h
    split at h
    · rename_i y ys hy hys
      simp only [Option.some.injEq] at h; subst h
      cases j with
      | zero => simp at hx; subst hx; exact ⟨o, rfl, hy⟩
      | succ j => obtain ⟨o2, h1, h2⟩ := copers_get hys j x (by simpa using hx); exact ⟨o2, by simpa using h1, h2⟩
    · cases h

theorem zipPO_mem : ∀ {l : List AOper} {s : List Nat} {i : Nat} {p : PO}, p ∈ zipPO i l s → ∃ j, p.i = i + j ∧ l[j]? = some p.o ∧ s[j]? = some p.anc
  | [], s, i, p, h => by simp [zipPO] at h
  | o :: l, [], i, p, h => by simp [zipPO] at h
  | o :: l, a :: s, i, p, h => by
    simp only [zipPO, List.mem_cons] at h
    rcases h with rfl | h
    · exact ⟨0, rfl, rfl, rfl⟩
    · obtain ⟨j, h1, h2, h3⟩ := zipPO_mem h
      exact ⟨j + 1, by omega, by simpa using h2, by simpa using h3⟩

theorem pickOne_mem {d : Nat} {l : List PO} {p : PO} (h : pickOne d l = some p) : p ∈ l := by
  unfold pickOne at h
  split at h
  · rename_i q hq; cases h; exact List.mem_of_find?_eq_some hq
  · exact List.mem_of_find?_eq_some h

theorem orderIt_mem : ∀ {k d : Nat} {l : List PO} {p : PO}, p ∈ orderIt k d l → p ∈ l
  | 0, _, _, _, h => by simp [orderIt] at h
  | k + 1, d, l, p, h => by
    simp only [orderIt] at h
    split at h
    · rename_i q hq
      simp only [List.mem_cons] at h
      rcases h with rfl | h
      · exact pickOne_mem hq
      · exact (List.mem_filter.1 (orderIt_mem h)).1
    · simp at h

theorem drawItems_spec {l : List AOper} {items : List Item} (hc : copers G P ops.toList n ops.toList = some l) (hd : drawItems ops.toList l = some items) :
    ∃ as c, Cov ops as c ∧ (∀ p ∈ c, ∃ o, ops[p.i]? = some o ∧ coper G P ops.toList n o = some p.o ∧ as[p.i]? = some p.anc ∧ p.anc = ancOf as (edgesOf o)) ∧ c.length = ops.size ∧
      ((chainOk c = true ∧ items = plan [] c) ∨ litItems c = some items) := by
  unfold drawItems at hd
  dsimp only at hd
  split at hd
  · rename_i hh
    simp only [Bool.and_eq_true, Nat.beq_eq, Array.length_toList] at hh
    obtain ⟨⟨⟨h1, h2⟩, h3⟩, h4⟩ := hh
    have g1 : ∀ i o, ops[i]? = some o → ∀ e ∈ edgesOf o, e < i := by
      intro i o ho e he
      have := edgesDown_spec h1 i o (by rw [← ho, Array.getElem?_toList]) e he
      omega
    have g2 : ∀ (i : Nat) (o : Oper), ops[i]? = some o → ∃ a : Nat, (ancsFrom [] ops.toList)[i]? = some a ∧ a = ancOf (ancsFrom [] ops.toList) (edgesOf o) := by
      intro i o ho
      exact ancOk_spec h2 i o (by rw [← ho, Array.getElem?_toList])
    refine ⟨ancsFrom [] ops.toList, _, ⟨g1, coverOk_spec h3, g2⟩, ?_, h4, ?_⟩
    · intro p hp
      obtain ⟨j, e1, e2, e3⟩ := zipPO_mem (orderIt_mem hp)
      have ej : j = p.i := by omega
      subst ej
      obtain ⟨o, g1, g2⟩ := copers_get hc _ _ e2
      obtain ⟨a, g3, g4⟩ := ancOk_spec h2 _ _ g1
      rw [e3] at g3; cases g3
      exact ⟨o, by rw [← Array.getElem?_toList]; exact g1, g2, e3, g4⟩
    · simp only [Array.length_toList] at hd
      split at hd
      · rename_i h5
        simp only [Option.some.injEq] at hd
        exact .inl ⟨h5, hd.symm⟩
      · exact .inr hd
  · cases hd

theorem testBit_ancOf {acc : List Nat} {x : Nat} : ∀ {es : List Nat}, (ancOf acc es).testBit x = true → ∃ e ∈ es, x = e ∨ (acc.getD e 0).testBit x = true := by
  intro es
  have gen : ∀ (es : List Nat) (s : Nat), (es.foldl (fun s e => s ||| 2 ^ e ||| acc.getD e 0) s).testBit x = true → s.testBit x = true ∨ ∃ e ∈ es, x = e ∨ (acc.getD e 0).testBit x = true := by
    intro es
    induction es with
    | nil => intro s h; exact .inl h
    | cons e r ih =>
      intro s h
      rw [List.foldl_cons] at h
      rcases ih _ h with h | ⟨e2, h1, h2⟩
      · rw [Nat.testBit_or, Nat.testBit_or, Bool.or_eq_true, Bool.or_eq_true] at h
        rcases h with (h | h) | h
        · exact .inl h
        · rw [Nat.testBit_two_pow] at h
          exact .inr ⟨e, .head _, .inl (by simpa [eq_comm] using h)⟩
        · exact .inr ⟨e, .head _, .inr h⟩
      · exact .inr ⟨e2, .tail _ h1, h2⟩
  intro h
  rcases gen es 0 h with h | h
  · simp at h
  · exact h

/-! ## What a pair comes to -/

theorem pairOk_spec {p q : PO} (h : pairOk p q = true) : p.i ≠ q.i ∧ ahead q.i p = false ∧ (p.eff = true → ahead p.i q = true) ∧ (∀ t, p.o.d = some t → q.o.d ≠ some t) ∧
    (∀ t, p.o.d = some t → t ∈ looks q.o → ahead p.i q = true) ∧ (∀ t, q.o.d = some t → t ∈ looks p.o → ahead p.i q = true) ∧ (p.rd = true → q.eff = false → ∀ t, q.o.d = some t → t ∉ looks p.o) := by
  simp only [pairOk, Bool.and_eq_true, Bool.not_eq_true', Bool.or_eq_true] at h
  obtain ⟨⟨⟨⟨⟨h1, h2⟩, h3⟩, h4⟩, h5⟩, h6⟩ := h
  refine ⟨?_, h2, ?_, ?_, ?_, ?_, ?_⟩
  · intro e; rw [e] at h1; simp at h1
  · intro he; rcases h3 with h3 | h3
    · rw [he] at h3; cases h3
    · exact h3
  · intro t hp hq
    simp [sameD, hp, hq] at h4
  · intro t hp hl
    rcases h5 with h5 | h5
    · rw [Bool.or_eq_false_iff] at h5
      simp only [wrAt, hp] at h5
      have := List.contains_iff_mem.2 hl
      rw [this] at h5; simp at h5
    · exact h5
  · intro t hp hl
    rcases h5 with h5 | h5
    · rw [Bool.or_eq_false_iff] at h5
      simp only [wrAt, hp] at h5
      have := List.contains_iff_mem.2 hl
      rw [this] at h5; simp at h5
    · exact h5
  · intro hr he t hq hl
    simp only [hr, he, Bool.not_false, Bool.and_true, Bool.true_and, wrAt, hq] at h6
    have := List.contains_iff_mem.2 hl
    rw [this] at h6; cases h6

/-! ## Runs of a plan -/

variable {M : Meth} {call : CallT}

theorem run_keep {t : Nat} : ∀ {items : List Item} {e : Env} {h : AHeap} {e' : Env} {h' : AHeap}, runItems M call items e h = some (e', h') → (∀ o, Item.op o ∈ items → o.d ≠ some t) → e'.at t = e.at t
  | [], e, h, e', h', hr, _ => by
    simp only [runItems, Option.some.injEq, Prod.mk.injEq] at hr
    rw [hr.1]
  | .op o :: r, e, h, e', h', hr, hno => by
    have put_at : ∀ v, (put e o.d v).at t = e.at t := by
      intro v
      have := hno o (.head _)
      cases ho : o.d with
      | none => rfl
      | some d =>
        show Env.at (Tr.set e d v) t = _
        rw [Env.at_set, if_neg (fun x => this (by rw [ho, x]))]
    simp only [runItems] at hr
    split at hr
    · split at hr
      · rename_i v h1 _
        rw [run_keep hr (fun o ho => hno o (.tail _ ho)), put_at]
      · cases hr
    · rw [run_keep hr (fun o ho => hno o (.tail _ ho)), put_at]
  | .chk o :: r, e, h, e', h', hr, hno => by
    simp only [runItems] at hr
    split at hr
    · split at hr
      · split at hr
        · exact run_keep hr (fun o ho => hno o (.tail _ ho))
        · cases hr
      · cases hr
    · exact run_keep hr (fun o ho => hno o (.tail _ ho))

theorem plan_mem {o : AOper} : ∀ {C rs : List PO}, Item.op o ∈ plan rs C → ∃ p ∈ C, p.o = o
  | [], rs, h => by simp [plan] at h
  | p :: C, rs, h => by
    simp only [plan, List.mem_cons, List.mem_append, Item.op.injEq] at h
    rcases h with h | h | h
    · exact ⟨p, .head _, h.symm⟩
    · split at h
      · simp at h
      · simp at h
    · obtain ⟨q, h1, h2⟩ := plan_mem h; exact ⟨q, .tail _ h1, h2⟩

theorem chks_spec : ∀ {l : List AOper} {r : List Item} {e : Env} {h : AHeap} {res : Env × AHeap}, runItems M call (l.map .chk ++ r) e h = some res →
    runItems M call r e h = some res ∧ ∀ o ∈ l, wants e o.g = true → ∃ v h2 d, step M call e h o.op = some (v, h2) ∧ o.d = some d ∧ v = e.at d
  | [], r, e, h, res, hr => ⟨hr, by simp⟩
  | o :: l, r, e, h, res, hr => by
    simp only [List.map_cons, List.cons_append, runItems] at hr
    split at hr
    · rename_i hw
      split at hr
      · rename_i v h2 d hs hd
        split at hr
        · rename_i hsame
          obtain ⟨h3, h4⟩ := chks_spec hr
          refine ⟨h3, ?_⟩
          intro o2 ho2
          cases ho2 with
          | head => intro _; exact ⟨v, h2, d, hs, hd, same_sound hsame⟩
          | tail _ ho2 => exact h4 o2 ho2
        · cases hr
      · cases hr
    · rename_i hw
      obtain ⟨h3, h4⟩ := chks_spec hr
      refine ⟨h3, ?_⟩
      intro o2 ho2 hw2
      cases ho2 with
      | head => exact absurd hw2 hw
      | tail _ ho2 => exact h4 o2 ho2 hw2

end
end Go.Ai

