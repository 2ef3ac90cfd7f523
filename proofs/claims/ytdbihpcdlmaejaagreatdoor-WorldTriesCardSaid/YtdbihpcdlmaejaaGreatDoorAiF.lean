/- An evaluator for the model's code, proved sound: part AiF. Not of one program: lemmas for the claim. -/
import Derived.Test.YtdbihpcdlmaejaaGreatDoorAiE
/- An order that is drawn: the state between, and its moves. -/
set_option linter.unusedSimpArgs false
set_option linter.unusedVariables false
namespace Go.Ai
open Go

def Wr (X : List PO) (t : Nat) : Prop := ∃ q ∈ X, q.o.d = some t

/-- p's predecessors have written, nobody else -/
def Agree (c : List PO) (e0 es : Env) (p : PO) (e : Env) : Prop :=
  ∀ t ∈ looks p.o, ((∃ q ∈ c, q.i ≠ p.i ∧ ahead q.i p = true ∧ q.o.d = some t) → e.at t = es.at t) ∧ ((¬ ∃ q ∈ c, q.i ≠ p.i ∧ ahead q.i p = true ∧ q.o.d = some t) → e.at t = e0.at t)

/-- e0, with what X wrote -/
structure EnvIs (e0 es : Env) (X : List PO) (e : Env) : Prop where
  on : ∀ t, Wr X t → e.at t = es.at t
  off : ∀ t, ¬ Wr X t → e.at t = e0.at t

def mkV : AOp → Nat → AVal
  | .mkm, b => .mp b
  | _, b => .ptr b 0

def objOf : AOp → AObj
  | .alloc zs => .cells 0 false zs
  | _ => .map []

def IsBlk (es : Env) (p : PO) (b : Nat) : Prop := ∃ t, p.o.d = some t ∧ es.at t = mkV p.o.op b

section
variable {G : List Nat} {P : Program} {n : Nat} {ops : Array Oper} {as : List Nat} {c : List PO} {M : Meth} {call : CallT}
variable {e0 es e e' : Env} {h0 hs h : AHeap} {loc0 loc : Loc} {w0 w : World} {a0 a : Act} {X D C rs : List PO} {p : PO} {Q : Exit → Act → World → Prop}

theorem Agree.same (h : Agree c e0 es p e) (k : Agree c e0 es p e') : Same (looks p.o) e e' := fun t ht => by
  by_cases hx : ∃ q ∈ c, q.i ≠ p.i ∧ ahead q.i p = true ∧ q.o.d = some t
  · rw [(h t ht).1 hx, (k t ht).1 hx]
  · rw [(h t ht).2 hx, (k t ht).2 hx]

theorem agree_of (hX : EnvIs e0 es X e) (h1 : ∀ q ∈ c, q.i ≠ p.i → ahead q.i p = true → q ∈ X)
    (h2 : ∀ q ∈ X, ∀ t, q.o.d = some t → t ∈ looks p.o → q ∈ c ∧ q.i ≠ p.i ∧ ahead q.i p = true) : Agree c e0 es p e := by
  intro t ht
  refine ⟨?_, ?_⟩
  · rintro ⟨q, hq, hne, ha, hd⟩
    exact hX.on t ⟨q, h1 q hq hne ha, hd⟩
  · intro hno
    refine hX.off t ?_
    rintro ⟨q, hq, hd⟩
    obtain ⟨a1, a2, a3⟩ := h2 q hq t hd ht
    exact hno ⟨q, a1, a2, a3, hd⟩

theorem put_at {d : Option Nat} {v : AVal} {t : Nat} : (put e d v).at t = if d = some t then v else e.at t := by
  cases d with
  | none => rfl
  | some d =>
    show Env.at (Tr.set e d v) t = _
    rw [Env.at_set]
    simp only [Option.some.injEq]

theorem EnvIs.put (hX : EnvIs e0 es X e) {v : AVal} (hv : ∀ t, p.o.d = some t → es.at t = v) : EnvIs e0 es (p :: X) (put e p.o.d v) := by
  refine ⟨?_, ?_⟩
  · rintro t ⟨q, hq, hd⟩
    rw [put_at]
    split
    · rename_i hp; exact (hv t hp).symm
    · rename_i hp
      cases hq with
      | head => exact absurd hd hp
      | tail _ hq => exact hX.on t ⟨q, hq, hd⟩
  · intro t hno
    rw [put_at, if_neg (fun hp => hno ⟨p, .head _, hp⟩)]
    exact hX.off t (fun ⟨q, hq, hd⟩ => hno ⟨q, .tail _ hq, hd⟩)

theorem EnvIs.of_mem {Y : List PO} (hX : EnvIs e0 es X e) (hm : ∀ q, q ∈ X ↔ q ∈ Y) : EnvIs e0 es Y e :=
  ⟨fun t ⟨q, hq, hd⟩ => hX.on t ⟨q, (hm q).2 hq, hd⟩, fun t hno => hX.off t (fun ⟨q, hq, hd⟩ => hno ⟨q, (hm q).1 hq, hd⟩)⟩

/-- what is known of an operation that is told, but not yet carried out -/
def FactF (M : Meth) (call : CallT) (c : List PO) (e0 es : Env) (p : PO) (h : AHeap) : Prop :=
  ∀ e, Agree c e0 es p e → (wants e p.o.g = true → ∃ v, step M call e h p.o.op = some (v, h) ∧ ∀ t, p.o.d = some t → es.at t = v) ∧ (wants e p.o.g = false → ∀ t, p.o.d = some t → es.at t = undef)

theorem eff_false (h1 : p.eff = false) (h2 : p.al = false) : cls p.o.op = 0 ∨ cls p.o.op = 1 := by
  simp only [PO.eff, h2, Bool.not_false, Bool.and_true, Bool.or_eq_false_iff] at h1
  have h3 : cls p.o.op ≤ 3 := by
    cases p.o.op <;> simp only [cls] <;> try decide
    all_goals (split <;> simp)
  have a1 : cls p.o.op ≠ 3 := fun e => by rw [e] at h1; simp at h1
  have a2 : cls p.o.op ≠ 2 := fun e => by rw [e] at h1; simp at h1
  omega

theorem al_spec (h : p.al = true) : cls p.o.op = 2 ∧ p.o.g = none ∧ ∃ t, p.o.d = some t := by
  simp only [PO.al, Bool.and_eq_true, Nat.beq_eq, Bool.not_eq_true', Option.isSome_eq_false_iff, Option.isNone_iff_eq_none] at h
  exact ⟨h.1, h.2.1, Option.isSome_iff_exists.1 h.2.2⟩

theorem al_step (hc : cls p.o.op = 2) {v : AVal} {h' : AHeap} (hs : step M call e h p.o.op = some (v, h')) : v = mkV p.o.op h.n ∧ h' = h.push (objOf p.o.op) := by
  cases ho : p.o.op
  case alloc zs => rw [ho] at hs; simp only [step, Option.some.injEq, Prod.mk.injEq] at hs; exact ⟨hs.1.symm, hs.2.symm⟩
  case mkm => rw [ho] at hs; simp only [step, Option.some.injEq, Prod.mk.injEq] at hs; exact ⟨hs.1.symm, hs.2.symm⟩
  all_goals (rw [ho] at hc; simp only [cls, reduceCtorEq, Nat.reduceEqDiff] at hc)
  all_goals (split at hc <;> first | (cases hc; done) | (rename_i hh; cases hh; done) | (rename_i hh _; cases hh; done))

theorem mkV_inj {op : AOp} {b b' : Nat} (h : mkV op b = mkV op b') : b = b' := by
  unfold mkV at h
  split at h <;> (injection h)

theorem IsBlk.uniq {b b' : Nat} (h1 : IsBlk es p b) (h2 : IsBlk es p b') : b = b' := by
  obtain ⟨t, ht, e1⟩ := h1
  obtain ⟨t', ht', e2⟩ := h2
  rw [ht] at ht'; cases ht'
  rw [e1] at e2
  exact mkV_inj e2

theorem pw_or {α : Type} {R : α → α → Prop} : ∀ {l : List α}, l.Pairwise R → ∀ {a b : α}, a ∈ l → b ∈ l → a ≠ b → R a b ∨ R b a
  | [], _, a, b, ha, _, _ => by simp at ha
  | x :: l, h, a, b, ha, hb, hne => by
    rw [List.pairwise_cons] at h
    cases ha with
    | head => cases hb with
      | head => exact absurd rfl hne
      | tail _ hb => exact .inl (h.1 b hb)
    | tail _ ha => cases hb with
      | head => exact .inr (h.1 a ha)
      | tail _ hb => exact pw_or h.2 ha hb hne

/-- the state between: X has been carried out, D is told alone, C is neither -/
structure Inv (G : List Nat) (P : Program) (n : Nat) (M : Meth) (call : CallT) (c : List PO) (e0 es : Env) (h0 hs : AHeap) (loc0 : Loc) (w0 : World) (a0 : Act)
    (X D C rs : List PO) (e : Env) (h : AHeap) (ec : Env) (loc : Loc) (w : World) (a : Act) : Prop where
  perm : (X ++ (D ++ C)).Perm c
  fwd : ∀ q, (q ∈ X ∨ q ∈ D) → ∀ p ∈ C, pairOk q p = true
  chain : C.Pairwise fun p q => pairOk p q = true
  closed : ∀ p ∈ X, ∀ q ∈ c, ahead q.i p = true → q ∈ X
  run : runItems M call (plan rs C) e h = some (es, hs)
  rsD : ∀ p ∈ D, p.rd = true → p ∈ rs
  envE : EnvIs e0 es (X ++ D) e
  envC : EnvIs e0 es X ec
  rep : EnvRep loc n ec a.tmps
  sim : Sim loc h w
  step : Step loc0 h0 w0 loc h w
  defs : a.defers = a0.defers
  facts : ∀ p ∈ D, p.al = false → FactF M call c e0 es p h
  blks : ∀ p ∈ D, p.al = true → ∃ b, IsBlk es p b ∧ loc b = none ∧ h0.n ≤ b ∧ b < h.n ∧ h.get b = some (objOf p.o.op)
  dis : ∀ p ∈ D, ∀ q ∈ D, p.i ≠ q.i → p.al = true → q.al = true → ∀ b, IsBlk es p b → IsBlk es q b → False
  effD : ∀ p ∈ D, p.eff = false

theorem Plan.ids (hp : Plan G P n ops as c) : c.Pairwise fun p q => p.i ≠ q.i := hp.chain.imp fun h => (pairOk_spec h).1

theorem Inv.ids (hp : Plan G P n ops as c) {ec : Env} (v : Inv G P n M call c e0 es h0 hs loc0 w0 a0 X D C rs e h ec loc w a) : (X ++ (D ++ C)).Pairwise fun p q => p.i ≠ q.i :=
  (v.perm.pairwise_iff (fun h => Ne.symm h)).2 hp.ids

theorem Inv.mem {ec : Env} (v : Inv G P n M call c e0 es h0 hs loc0 w0 a0 X D C rs e h ec loc w a) {q : PO} : q ∈ c ↔ q ∈ X ∨ q ∈ D ∨ q ∈ C := by
  rw [← v.perm.mem_iff]; simp

theorem Inv.xdc (hp : Plan G P n ops as c) {ec : Env} (v : Inv G P n M call c e0 es h0 hs loc0 w0 a0 X D C rs e h ec loc w a) : (∀ p ∈ X, ∀ q, q ∈ D ∨ q ∈ C → p.i ≠ q.i) ∧ ∀ p ∈ D, ∀ q ∈ C, p.i ≠ q.i := by
  have := v.ids hp
  rw [List.pairwise_append, List.pairwise_append] at this
  exact ⟨fun p h q hq => this.2.2 p h q (by simpa using hq), fun p h q hq => this.2.1.2.2 p h q hq⟩

/-! ### A block that is told and not yet made -/

theorem sim_push (s : Sim loc h w) (o : AObj) : Sim loc (h.push o) w := by
  have hget : ∀ b, b ≠ h.n → (h.push o).get b = h.get b := fun b hb => by rw [AHeap.get_push, if_neg (fun e => hb e.symm)]
  have hne : ∀ b l, loc b = some l → b ≠ h.n := fun b l hl => by have := (s.dom b l hl).1; omega
  refine ⟨?_, ?_, ?_, ?_, s.zero⟩
  · intro b l hl; have := s.dom b l hl; exact ⟨by simp; omega, this.2⟩
  · intro b hb; rw [AHeap.n_push] at hb; rw [hget b (by omega)]; exact s.top b (by omega)
  · intro b l ob hl hg; rw [hget b (hne b l hl)] at hg; exact s.obj b l ob hl hg
  · intro b c l m hl hm hbc hw ha
    refine s.inj b c l m hl hm hbc ?_ ?_
    · unfold writable at *; rw [hget b (hne b l hl)] at hw; exact hw
    · unfold alive at *; rw [hget c (hne c m hm)] at ha; exact ha

theorem step_push (t : Step loc0 h0 w0 loc h w) (o : AObj) : Step loc0 h0 w0 loc (h.push o) w := by
  have hget : ∀ b, b < h0.n → (h.push o).get b = h.get b := fun b hb => by rw [AHeap.get_push, if_neg (fun e => by have := t.n; omega)]
  refine ⟨t.le, ?_, ?_, t.size, ?_, t.fresh, t.frame, t.os, t.output⟩
  · intro b hb hl; obtain ⟨h1, h2⟩ := t.pend b hb hl; exact ⟨h1, by rw [hget b hb]; exact h2⟩
  · have := t.n; simp; omega
  · intro b hb hw; refine t.wr b hb ?_; unfold writable at *; rw [hget b hb] at hw; exact hw

theorem hle_push (s : Sim loc h w) (o : AObj) : HLe h (h.push o) := by
  intro b ob hb
  rw [AHeap.get_push]
  split
  · rename_i e; subst e; rw [s.top h.n (Nat.le_refl _)] at hb; cases hb
  · exact hb

/-- and now it is made -/
theorem bind_sim (s : Sim loc h w) {b : Nat} (hb : loc b = none) (hn : b < h.n) {o : AObj} (hg : h.get b = some o) {o' : Obj} {l : L} (hl : l.cb = w.heap.size) {w' : World} (hw : w'.heap = w.heap.push o')
    (hr : ObjRep (upd loc b l) l o o') (hz : l.base = 0 := by rfl) : Sim (upd loc b l) h w' := by
  have hle : LocLe loc (upd loc b l) := upd_le hb
  have hsz : w'.heap.size = w.heap.size + 1 := by rw [hw]; simp
  refine ⟨?_, s.top, ?_, ?_, fun c m hm he => by unfold upd at hm; split at hm; (cases hm; exact hz); exact s.zero c m hm he⟩
  · intro c m hm
    unfold upd at hm
    split at hm
    · rename_i e; subst e; cases hm; exact ⟨hn, by omega⟩
    · have := s.dom c m hm; exact ⟨this.1, by omega⟩
  · intro c m ob hm hob
    unfold upd at hm
    split at hm
    · rename_i e; subst e; cases hm
      rw [hg] at hob; cases hob
      refine ⟨o', ?_, hr⟩
      rw [hw, hl]; simp
    · obtain ⟨o2, h2, r2⟩ := s.obj c m ob hm hob
      have hlt := (s.dom c m hm).2
      refine ⟨o2, ?_, r2.mono hle⟩
      rw [hw, Array.getElem?_push, if_neg (by omega)]; exact h2
  · intro c d m k hm hk hne hwb hac
    unfold upd at hm hk
    split at hm
    · rename_i e; subst e; cases hm
      split at hk
      · rename_i e2; exact absurd e2.symm hne
      · have := (s.dom d k hk).2; omega
    · split at hk
      · cases hk
        have := (s.dom c m hm).2; omega
      · exact s.inj c d m k hm hk hne hwb hac

theorem bind_step (t : Step loc0 h0 w0 loc h w) {b : Nat} (hb : loc b = none) (hn : h0.n ≤ b) {o' : Obj} {l : L} (hl : l.cb = w.heap.size) {w' : World} (hw : w'.heap = w.heap.push o') (ho : w'.os = w.os) (hp : w'.output = w.output) :
    Step loc0 h0 w0 (upd loc b l) h w' := by
  have hsz : w'.heap.size = w.heap.size + 1 := by rw [hw]; simp
  refine ⟨t.le.trans (upd_le hb), ?_, t.n, by have := t.size; omega, t.wr, ?_, ?_, ho.trans t.os, hp.trans t.output⟩
  · intro c hc he
    obtain ⟨h1, h2⟩ := t.pend c hc he
    exact ⟨by unfold upd; rw [if_neg (by omega)]; exact h1, h2⟩
  · intro c m he hm
    unfold upd at hm
    split at hm
    · cases hm; left; have := t.size; omega
    · exact t.fresh c m he hm
  · intro cb hcb hno
    have h1 := t.frame cb hcb hno
    have := t.size
    rw [hw, Array.getElem?_push, if_neg (by omega)]; exact h1

end
end Go.Ai

/- An order that is drawn: the moves, and the whole. -/
set_option linter.unusedSimpArgs false
set_option linter.unusedVariables false
namespace Go.Ai
open Go

section
variable {G : List Nat} {P : Program} {n : Nat} {ops : Array Oper} {as : List Nat} {c : List PO} {M : Meth} {call : CallT}
variable {e0 es e e' ec : Env} {h0 hs h h1 : AHeap} {loc0 loc loc1 : Loc} {w0 w w1 : World} {a0 a a1 : Act} {X D D1 D2 C rs : List PO} {p : PO} {Q : Exit → Act → World → Prop}

theorem FactF.heap (hc : cls p.o.op = 0) (f : FactF M call c e0 es p h) (h2 : AHeap) : FactF M call c e0 es p h2 := by
  intro e ha
  obtain ⟨f1, f2⟩ := f e ha
  refine ⟨fun hw => ?_, f2⟩
  obtain ⟨v, hs, hv⟩ := f1 hw
  exact ⟨v, (pure_step hc hs).2 h2, hv⟩

theorem FactF.push (hc : cls p.o.op = 0 ∨ cls p.o.op = 1) (f : FactF M call c e0 es p h) {h2 : AHeap} (hl : HLe h h2) : FactF M call c e0 es p h2 := by
  rcases hc with hc | hc
  · exact f.heap hc h2
  · intro e ha
    obtain ⟨f1, f2⟩ := f e ha
    refine ⟨fun hw => ?_, f2⟩
    obtain ⟨v, hs, hv⟩ := f1 hw
    exact ⟨v, (read_step hc hs).2 h2 hl, hv⟩

theorem looks_tmps {p : PO} (h : Same (looks p.o) e e') : Same (tmpsOf p.o.op) e e' := fun t ht => h t (List.mem_append_right _ ht)
theorem looks_guard {p : PO} (h : Same (looks p.o) e e') : Same (guardTmp p.o) e e' := fun t ht => h t (List.mem_append_left _ ht)

/-- what runs in one frame runs in each that agrees -/
theorem fact_of (hw : wants e p.o.g = true) (ha : Agree c e0 es p e) {v : AVal} (hs : step M call e h p.o.op = some (v, h)) (hv : ∀ t, p.o.d = some t → es.at t = v) : FactF M call c e0 es p h := by
  intro e2 ha2
  have hsame := ha2.same ha
  refine ⟨fun _ => ⟨v, by rw [step_same (looks_tmps hsame)]; exact hs, hv⟩, ?_⟩
  intro hw2
  rw [wants_same (looks_guard hsame), hw] at hw2; cases hw2

theorem fact_not (hw : wants e p.o.g = false) (ha : Agree c e0 es p e) (hv : ∀ t, p.o.d = some t → es.at t = undef) (h : AHeap) : FactF M call c e0 es p h := by
  intro e2 ha2
  have hsame := ha2.same ha
  refine ⟨fun hw2 => ?_, fun _ => hv⟩
  rw [wants_same (looks_guard hsame), hw] at hw2; cases hw2

/-- the next of the plan agrees with what it looks at -/
theorem Inv.agreeC (hp : Plan G P n ops as c) (v : Inv G P n M call c e0 es h0 hs loc0 w0 a0 X D (p :: C) rs e h ec loc w a) : Agree c e0 es p e := by
  have hch := List.pairwise_cons.1 v.chain
  refine agree_of v.envE ?_ ?_
  · intro q hq hne ha
    rcases v.mem.1 hq with hx | hd | hcc
    · exact List.mem_append_left _ hx
    · exact List.mem_append_right _ hd
    · cases hcc with
      | head => exact absurd rfl hne
      | tail _ hcc => have := (pairOk_spec (hch.1 q hcc)).2.1; rw [ha] at this; cases this
  · intro q hq t hd ht
    have hq : q ∈ X ∨ q ∈ D := by simpa using hq
    have hpo := pairOk_spec (v.fwd q hq p (.head _))
    refine ⟨v.mem.2 (by rcases hq with h | h <;> simp [h]), hpo.1, hpo.2.2.2.2.1 t hd ht⟩

/-- whoever's predecessors have been carried out agrees with the frame that there is -/
theorem Inv.agreeX (hp : Plan G P n ops as c) (v : Inv G P n M call c e0 es h0 hs loc0 w0 a0 X D C rs e h ec loc w a) (hpm : p ∈ D ∨ p ∈ C) (hanc : ∀ q ∈ c, ahead q.i p = true → q ∈ X) : Agree c e0 es p ec := by
  refine agree_of v.envC (fun q hq _ ha => hanc q hq ha) ?_
  intro q hq t hd ht
  have hne : q.i ≠ p.i := (v.xdc hp).1 q hq p hpm
  have hqc : q ∈ c := v.mem.2 (.inl hq)
  have hpc : p ∈ c := v.mem.2 (.inr hpm)
  refine ⟨hqc, hne, ?_⟩
  rcases pw_or hp.chain hqc hpc (fun e => hne (by rw [e])) with h | h
  · exact (pairOk_spec h).2.2.2.2.1 t hd ht
  · have := (pairOk_spec h).2.2.2.2.2.1 t hd ht
    exact absurd rfl ((v.xdc hp).1 p (v.closed q hq p hpc this) p hpm)

theorem nowrite {rs : List PO} (hch : ∀ q ∈ C, pairOk p q = true) {t : Nat} (ht : p.o.d = some t) : ∀ o, Item.op o ∈ plan rs C → o.d ≠ some t := by
  intro o ho
  obtain ⟨q, hq, rfl⟩ := plan_mem ho
  exact (pairOk_spec (hch q hq)).2.2.2.1 t ht

/-- the next of the plan is told -/
theorem Inv.adv (hp : Plan G P n ops as c) (v : Inv G P n M call c e0 es h0 hs loc0 w0 a0 X D (p :: C) rs e h ec loc w a) (hpe : p.eff = false) :
    ∃ rs' e' h', Inv G P n M call c e0 es h0 hs loc0 w0 a0 X (p :: D) C rs' e' h' ec loc w a := by
  have hag := v.agreeC hp
  have hch := List.pairwise_cons.1 v.chain
  have run := v.run
  simp only [plan, hpe, Bool.false_eq_true, if_false, List.nil_append] at run
  have hperm : (X ++ ((p :: D) ++ C)).Perm c := by
    refine List.Perm.trans ?_ v.perm
    refine List.Perm.append_left X ?_
    exact (List.perm_middle (a := p) (l₁ := D) (l₂ := C)).symm
  have hfwd : ∀ q, (q ∈ X ∨ q ∈ p :: D) → ∀ r ∈ C, pairOk q r = true := by
    intro q hq r hr
    rcases hq with hq | hq
    · exact v.fwd q (.inl hq) r (.tail _ hr)
    · cases hq with
      | head => exact hch.1 r hr
      | tail _ hq => exact v.fwd q (.inr hq) r (.tail _ hr)
  have hrs : ∀ q ∈ p :: D, q.rd = true → q ∈ (if p.rd then p :: rs else rs) := by
    intro q hq hr
    cases hq with
    | head => rw [if_pos hr]; exact .head _
    | tail _ hq =>
      have := v.rsD q hq hr
      split
      · exact .tail _ this
      · exact this
  have heff : ∀ q ∈ p :: D, q.eff = false := by
    intro q hq
    cases hq with
    | head => exact hpe
    | tail _ hq => exact v.effD q hq
  have henv : ∀ (u : AVal), (∀ t, p.o.d = some t → es.at t = u) → EnvIs e0 es (X ++ p :: D) (put e p.o.d u) := fun u hu =>
    (v.envE.put (p := p) hu).of_mem (fun q => by simp; constructor <;> (rintro (h | h | h) <;> simp [h]))
  rw [runItems] at run
  have hids := v.xdc hp
  split at run
  · rename_i hw
    split at run
    · rename_i u h1 hs
      have hes : ∀ t, p.o.d = some t → es.at t = u := fun t ht => by
        rw [run_keep run (nowrite hch.1 ht), put_at, if_pos ht]
      by_cases hal : p.al = true
      · obtain ⟨hcl, hg, t, ht⟩ := al_spec hal
        obtain ⟨rfl, rfl⟩ := al_step hcl hs
        refine ⟨_, _, _, hperm, hfwd, hch.2, v.closed, run, hrs, henv _ hes, v.envC, v.rep, sim_push v.sim _, step_push v.step _, v.defs, ?_, ?_, ?_, heff⟩
        · intro q hq hqa
          cases hq with
          | head => rw [hal] at hqa; cases hqa
          | tail _ hq => exact (v.facts q hq hqa).push (eff_false (v.effD q hq) hqa) (hle_push v.sim _)
        · intro q hq hqa
          cases hq with
          | head => exact ⟨h.n, ⟨t, ht, hes t ht⟩, v.sim.none_n, v.step.n, by simp, by rw [AHeap.get_push, if_pos rfl]⟩
          | tail _ hq =>
            obtain ⟨b, b1, b2, b3, b4, b5⟩ := v.blks q hq hqa
            exact ⟨b, b1, b2, b3, by simp; omega, by rw [AHeap.get_push, if_neg (by omega)]; exact b5⟩
        · intro q hq r hr hne hqa hra b hb1 hb2
          cases hq with
          | head => cases hr with
            | head => exact hne rfl
            | tail _ hr =>
              obtain ⟨b', b1, b2, b3, b4, b5⟩ := v.blks r hr hra
              have e1 := hb1.uniq ⟨t, ht, hes t ht⟩
              have e2 := hb2.uniq b1
              omega
          | tail _ hq => cases hr with
            | head =>
              obtain ⟨b', b1, b2, b3, b4, b5⟩ := v.blks q hq hqa
              have e1 := hb2.uniq ⟨t, ht, hes t ht⟩
              have e2 := hb1.uniq b1
              omega
            | tail _ hr => exact v.dis q hq r hr hne hqa hra b hb1 hb2
      · have hal : p.al = false := by simpa using hal
        have h1h : h1 = h := by
          rcases eff_false hpe hal with hc | hc
          · exact (pure_step hc hs).1
          · exact (read_step hc hs).1
        subst h1h
        refine ⟨_, _, _, hperm, hfwd, hch.2, v.closed, run, hrs, henv _ hes, v.envC, v.rep, v.sim, v.step, v.defs, ?_, ?_, ?_, heff⟩
        · intro q hq hqa
          cases hq with
          | head => exact fact_of hw hag hs hes
          | tail _ hq => exact v.facts q hq hqa
        · intro q hq hqa
          cases hq with
          | head => rw [hal] at hqa; cases hqa
          | tail _ hq => exact v.blks q hq hqa
        · intro q hq r hr hne hqa hra
          cases hq with
          | head => rw [hal] at hqa; cases hqa
          | tail _ hq => cases hr with
            | head => rw [hal] at hra; cases hra
            | tail _ hr => exact v.dis q hq r hr hne hqa hra
    · cases run
  · rename_i hw
    have hw : wants e p.o.g = false := by simpa using hw
    have hal : p.al = false := by
      cases hal : p.al with
      | false => rfl
      | true => obtain ⟨-, hg, -⟩ := al_spec hal; rw [hg] at hw; cases hw
    have hes : ∀ t, p.o.d = some t → es.at t = undef := fun t ht => by
      rw [run_keep run (nowrite hch.1 ht), put_at, if_pos ht]
    refine ⟨_, _, _, hperm, hfwd, hch.2, v.closed, run, hrs, henv _ hes, v.envC, v.rep, v.sim, v.step, v.defs, ?_, ?_, ?_, heff⟩
    · intro q hq hqa
      cases hq with
      | head => exact fact_not hw hag hes _
      | tail _ hq => exact v.facts q hq hqa
    · intro q hq hqa
      cases hq with
      | head => rw [hal] at hqa; cases hqa
      | tail _ hq => exact v.blks q hq hqa
    · intro q hq r hr hne hqa hra
      cases hq with
      | head => rw [hal] at hqa; cases hqa
      | tail _ hq => cases hr with
        | head => rw [hal] at hra; cases hra
        | tail _ hr => exact v.dis q hq r hr hne hqa hra

/-- one that was told has been carried out -/
theorem Inv.afterD (hp : Plan G P n ops as c) (v : Inv G P n M call c e0 es h0 hs loc0 w0 a0 X (D1 ++ p :: D2) C rs e h ec loc w a) (hanc : ∀ q ∈ c, ahead q.i p = true → q ∈ X)
    {u : AVal} (hu : ∀ t, p.o.d = some t → es.at t = u) (hst : Step loc0 h0 w0 loc1 h w1) (s1 : Sim loc1 h w1) (hrep : EnvRep loc1 n (put ec p.o.d u) a1.tmps) (hdef : a1.defers = a.defers)
    (hno : ∀ q ∈ D1 ++ D2, q.al = true → ∀ b, IsBlk es q b → b < h.n → loc b = none → loc1 b = none) :
    Inv G P n M call c e0 es h0 hs loc0 w0 a0 (p :: X) (D1 ++ D2) C rs e h (put ec p.o.d u) loc1 w1 a1 := by
  have hsub : ∀ q, q ∈ D1 ++ D2 → q ∈ D1 ++ p :: D2 := fun q hq => by
    simp only [List.mem_append, List.mem_cons] at hq ⊢
    rcases hq with h | h <;> simp [h]
  have hpD : p ∈ D1 ++ p :: D2 := by simp
  refine ⟨?_, ?_, v.chain, ?_, v.run, fun q hq => v.rsD q (hsub q hq), ?_, v.envC.put hu, hrep, s1, hst, hdef.trans v.defs, fun q hq => v.facts q (hsub q hq), ?_, fun q hq r hr => v.dis q (hsub q hq) r (hsub r hr), fun q hq => v.effD q (hsub q hq)⟩
  · refine List.Perm.trans ?_ v.perm
    show (p :: (X ++ ((D1 ++ D2) ++ C))).Perm _
    refine List.Perm.trans (List.perm_middle (a := p) (l₁ := X) (l₂ := (D1 ++ D2) ++ C)).symm ?_
    refine List.Perm.append_left X ?_
    rw [← List.cons_append]
    exact List.Perm.append_right C (List.perm_middle (a := p) (l₁ := D1) (l₂ := D2)).symm
  · intro q hq r hr
    rcases hq with hq | hq
    · cases hq with
      | head => exact v.fwd p (.inr hpD) r hr
      | tail _ hq => exact v.fwd q (.inl hq) r hr
    · exact v.fwd q (.inr (hsub q hq)) r hr
  · intro q hq r hr ha
    cases hq with
    | head => exact .tail _ (hanc r hr ha)
    | tail _ hq => exact .tail _ (v.closed q hq r hr ha)
  · refine v.envE.of_mem fun q => ?_
    simp only [List.mem_append, List.mem_cons]
    constructor
    · rintro (h | h | h | h) <;> simp [h]
    · rintro ((h | h) | h | h) <;> simp [h]
  · intro q hq hqa
    obtain ⟨b, b1, b2, b3, b4, b5⟩ := v.blks q (hsub q hq) hqa
    exact ⟨b, b1, hno q hq hqa b b1 b4 b2, b3, b4, b5⟩

/-- an effect has been carried out -/
theorem Inv.afterE (hp : Plan G P n ops as c) (hd0 : ∀ b l, loc0 b = some l → b < h0.n) (v : Inv G P n M call c e0 es h0 hs loc0 w0 a0 X D (p :: C) rs e h ec loc w a) (hanc : ∀ q ∈ c, ahead q.i p = true → q ∈ X)
    {u : AVal} {l : List AOper} (hl : ∀ q ∈ D, q.rd = true → q.o ∈ l) {rs' : List PO} (hrs : ∀ q ∈ D, q.rd = true → q ∈ rs') (run : runItems M call (l.map .chk ++ plan rs' C) (put e p.o.d u) h1 = some (es, hs))
    (hst : Step loc h w loc1 h1 w1) (s1 : Sim loc1 h1 w1) (hrep : EnvRep loc1 n (put ec p.o.d u) a1.tmps) (hdef : a1.defers = a.defers) :
    Inv G P n M call c e0 es h0 hs loc0 w0 a0 (p :: X) D C rs' (put e p.o.d u) h1 (put ec p.o.d u) loc1 w1 a1 := by
  have hch := List.pairwise_cons.1 v.chain
  obtain ⟨run2, hchk⟩ := chks_spec run
  have hu : ∀ t, p.o.d = some t → es.at t = u := fun t ht => by
    rw [run_keep run2 (nowrite hch.1 ht), put_at, if_pos ht]
  have henv : EnvIs e0 es ((p :: X) ++ D) (put e p.o.d u) := v.envE.put hu
  have hpc : p ∈ c := v.mem.2 (.inr (.inr (.head _)))
  have hnotD : ∀ q ∈ D, ahead q.i p = false := fun q hq => by
    cases hh : ahead q.i p with
    | false => rfl
    | true => exact absurd rfl ((v.xdc hp).1 q (hanc q (v.mem.2 (.inr (.inl hq))) hh) q (.inl hq))
  refine ⟨?_, ?_, hch.2, ?_, run2, hrs, henv, v.envC.put hu, hrep, s1, v.step.trans hst hd0, hdef.trans v.defs, ?_, ?_, v.dis, v.effD⟩
  · refine List.Perm.trans ?_ v.perm
    show (p :: (X ++ (D ++ C))).Perm _
    rw [← List.append_assoc, ← List.append_assoc]
    exact (List.perm_middle (a := p) (l₁ := X ++ D) (l₂ := C)).symm
  · intro q hq r hr
    rcases hq with hq | hq
    · cases hq with
      | head => exact hch.1 r hr
      | tail _ hq => exact v.fwd q (.inl hq) r (.tail _ hr)
    · exact v.fwd q (.inr hq) r (.tail _ hr)
  · intro q hq r hr ha
    cases hq with
    | head => exact .tail _ (hanc r hr ha)
    | tail _ hq => exact .tail _ (v.closed q hq r hr ha)
  · intro q hq hqa
    have hold := v.facts q hq hqa
    rcases eff_false (v.effD q hq) hqa with hc | hc
    · exact hold.heap hc h1
    · have hrd : q.rd = true := by simp [PO.rd, hc]
      have hqc : q ∈ c := v.mem.2 (.inr (.inl hq))
      have hag : Agree c e0 es q (put e p.o.d u) := by
        refine agree_of henv ?_ ?_
        · intro q2 hq2 hne ha
          rcases v.mem.1 hq2 with hx | hd | hcc
          · exact List.mem_append_left _ (.tail _ hx)
          · exact List.mem_append_right _ hd
          · have := (pairOk_spec (v.fwd q (.inr hq) q2 hcc)).2.1
            rw [ha] at this; cases this
        · intro q2 hq2 t hd ht
          have hq2 : q2 = p ∨ q2 ∈ X ∨ q2 ∈ D := by simpa using hq2
          have hq2c : q2 ∈ c := by
            rcases hq2 with rfl | h | h
            · exact hpc
            · exact v.mem.2 (.inl h)
            · exact v.mem.2 (.inr (.inl h))
          have hne : q2 ≠ q := by
            rintro rfl
            have := hp.self q2 hq2c
            simp only [hrd, Bool.true_and, wrAt, hd] at this
            have hct := List.contains_iff_mem.2 ht
            rw [hct] at this; cases this
          rcases pw_or hp.chain hq2c hqc hne with hpo | hpo
          · have hpo := pairOk_spec hpo
            exact ⟨hq2c, hpo.1, hpo.2.2.2.2.1 t hd ht⟩
          · have hpo := pairOk_spec hpo
            have hah := hpo.2.2.2.2.2.1 t hd ht
            exfalso
            rcases hq2 with rfl | h | h
            · rw [hnotD q hq] at hah; cases hah
            · exact (v.xdc hp).1 q (v.closed q2 h q hqc hah) q (.inl hq) rfl
            · exact hpo.2.2.2.2.2.2 hrd (v.effD q2 h) t hd ht
      cases hw : wants (put e p.o.d u) q.o.g with
      | false => exact fact_not hw hag (hold _ (hag) |>.2 hw) h1
      | true =>
        obtain ⟨v2, h2, d, s2, hd, hv2⟩ := hchk q.o (hl q hq hrd) hw
        have := (read_step hc s2).1
        subst this
        refine fact_of hw hag s2 ?_
        intro t ht
        rw [hd] at ht; cases ht
        rw [hv2]
        exact (henv.on d ⟨q, List.mem_append_right _ hq, hd⟩).symm
  · intro q hq hqa
    obtain ⟨b, b1, b2, b3, b4, b5⟩ := v.blks q hq hqa
    obtain ⟨g1, g2⟩ := hst.pend b b4 b2
    exact ⟨b, b1, g1, b3, by have := hst.n; omega, by rw [g2]; exact b5⟩
end
end Go.Ai

/- An order that is drawn: the whole. -/
set_option linter.unusedSimpArgs false
set_option linter.unusedVariables false
namespace Go.Ai
open Go

section
variable {G : List Nat} {P : Program} {n : Nat} {ops : Array Oper} {as : List Nat} {c : List PO} {M : Meth} {call : CallT}
variable {e0 es e e' ec : Env} {h0 hs h h1 : AHeap} {loc0 loc loc1 : Loc} {w0 w w1 : World} {a0 a a1 : Act} {X D D1 D2 C rs : List PO} {p : PO} {Q : Exit → Act → World → Prop}

theorem Inv.runD (hM : ∀ t n r, M t n = some r → methOf P t n = some r) (hcall : CallOK G P call) (hp : Plan G P n ops as c) (hg0 : Globs G loc0) (hd0 : ∀ b l, loc0 b = some l → b < h0.n)
    (v : Inv G P n M call c e0 es h0 hs loc0 w0 a0 X (D1 ++ p :: D2) C rs e h ec loc w a) (hanc : ∀ q ∈ c, ahead q.i p = true → q ∈ X) {K : Act → World → Prop}
    (hK : ∀ ec' loc' w' a', Inv G P n M call c e0 es h0 hs loc0 w0 a0 (p :: X) (D1 ++ D2) C rs e h ec' loc' w' a' → K a' w') : wpOp P ops Q p.i K a w := by
  have hpD : p ∈ D1 ++ p :: D2 := by simp
  have hpc : p ∈ c := v.mem.2 (.inr (.inl hpD))
  obtain ⟨o, ho, hco, -, -⟩ := hp.mem p hpc
  obtain ⟨hd, hgd, hdn, hop⟩ := coper_spec hco
  have hg : Globs G loc := hg0.mono v.step.le
  have hwi := wants_iff (a := a) (e := ec) (loc := loc) hgd v.rep.size (fun d _ _ => v.rep.rep d)
  have hag := v.agreeX hp (.inl hpD) hanc
  unfold wpOp
  rw [ho]
  dsimp only
  rw [hwi]
  by_cases hal : p.al = true
  · obtain ⟨hcl, hgn, t, ht⟩ := al_spec hal
    have hw : wants ec p.o.g = true := by rw [hgn]; rfl
    rw [if_pos hw]
    left
    obtain ⟨b, ⟨t', ht', hest⟩, b2, b3, b4, b5⟩ := v.blks p hpD hal
    rw [ht] at ht'; cases ht'
    have hcop : cop G P o = some p.o.op := by
      cases hc : cop G P o with
      | none => rw [hc] at hop; rw [hop] at hcl; simp [cls] at hcl
      | some op => rw [hc] at hop; rw [hop]; rfl
    have hno : ∀ l : L, ∀ q ∈ D1 ++ D2, q.al = true → ∀ b', IsBlk es q b' → b' < h.n → loc b' = none → upd loc b l b' = none := by
      intro l q hq hqa b' hb' _ hl
      unfold upd
      rw [if_neg]
      · exact hl
      · rintro rfl
        have hids := v.ids hp
        rw [List.pairwise_append, List.pairwise_append, List.pairwise_append, List.pairwise_cons] at hids
        have hne : q.i ≠ p.i := by
          rcases List.mem_append.1 hq with h | h
          · exact hids.2.1.1.2.2 q h p (.head _)
          · exact Ne.symm (hids.2.1.1.2.1.1 q h)
        have hqD : q ∈ D1 ++ p :: D2 := by
          simp only [List.mem_append, List.mem_cons] at hq ⊢
          rcases hq with h | h <;> simp [h]
        exact v.dis q hqD p hpD hne hqa hal b' hb' ⟨t, ht, hest⟩
    rcases cop_al hcop hcl with ⟨ty, zs, ho1, hz, ho2⟩ | ⟨ty, ho1, ho2⟩
    · obtain ⟨z, hrz, hzr, -⟩ := run_tzero (P := P) (loc := loc) (w := w) hz
      have hlen := hzr.length
      rw [ho2] at hest b5
      have hr : (execOp a.eval o).run P w = .ok (.value (.pointer (some ⟨w.heap.size, 0, none⟩))) { w with heap := w.heap.push (.cells z.cells ty) } := by
        simp [execOp, ho1, Instr.alloc, hrz, newVar, newRow]
      refine upon_value hr ?_
      have hobj : ObjRep (upd loc b ⟨w.heap.size, 0, z.cells.size, 0⟩) ⟨w.heap.size, 0, z.cells.size, 0⟩ (.cells 0 false zs) (.cells z.cells ty (0, 0)) := by
        refine ⟨rfl, by simp, by simpa using Nat.le_of_eq hlen, ?_, fun _ => ⟨fun _ => rfl, .inl rfl⟩⟩
        simp only [List.drop_zero]
        rw [hlen, List.take_length]
        exact hzr.mono (upd_le b2)
      refine hK _ _ _ _ (v.afterD hp hanc (u := .ptr b 0) (fun t2 ht2 => ?_) (bind_step (l := ⟨w.heap.size, 0, z.cells.size, 0⟩) v.step b2 b3 rfl rfl rfl rfl) (bind_sim v.sim b2 b4 b5 rfl rfl hobj) ?_ (put_tmps ..).1 (hno _))
      · rw [ht] at ht2; cases ht2; exact hest
      · rw [hd]
        refine (v.rep.mono (upd_le b2)).put hdn ?_
        have := Rep.ptr (loc := upd loc b ⟨w.heap.size, 0, z.cells.size, 0⟩) b 0 _ upd_self
        simpa using this
    · rw [ho2] at hest b5
      have hr : (execOp a.eval o).run P w = .ok (.value (.map (some w.heap.size))) { w with heap := w.heap.push (.map #[] 0) } := by
        simp [execOp, ho1, Instr.makeMap]
      refine upon_value hr ?_
      have hobj : ObjRep (upd loc b ⟨w.heap.size, 0, 0, 0⟩) ⟨w.heap.size, 0, 0, 0⟩ (.map []) (.map #[] 0) := ⟨⟨true, by simp, .nil⟩, MapKept.stamped_empty 0, [], by simp, .nil⟩
      refine hK _ _ _ _ (v.afterD hp hanc (u := .mp b) (fun t2 ht2 => ?_) (bind_step (l := ⟨w.heap.size, 0, 0, 0⟩) v.step b2 b3 rfl rfl rfl rfl) (bind_sim v.sim b2 b4 b5 rfl rfl hobj) ?_ (put_tmps ..).1 (hno _))
      · rw [ht] at ht2; cases ht2; exact hest
      · rw [hd]
        refine (v.rep.mono (upd_le b2)).put hdn ?_
        exact Rep.mp (loc := upd loc b ⟨w.heap.size, 0, 0, 0⟩) b _ upd_self
  · have hal : p.al = false := by simpa using hal
    obtain ⟨f1, f2⟩ := v.facts p hpD hal ec hag
    split
    · rename_i hw
      obtain ⟨u, hst, hu⟩ := f1 hw
      rw [hop] at hst
      obtain ⟨op, hcop, hst⟩ := cop_of_step hst
      left
      refine step_sound hM hcall hcop hst hg v.sim (v.rep.at _) _ _ ?_
      intro loc1 v1 w1 t1 s1 r1
      refine hK _ _ _ _ (v.afterD hp hanc hu (v.step.trans t1 hd0) s1 ?_ (put_tmps ..).1 (fun q hq hqa b hb hlt hl => (t1.pend b hlt hl).1))
      rw [hd]
      exact (v.rep.mono t1.le).put hdn r1
    · rename_i hw
      have hw : wants ec p.o.g = false := by simpa using hw
      refine hK _ _ _ _ (v.afterD hp hanc (f2 hw) v.step v.sim ?_ (put_tmps ..).1 (fun q hq hqa b hb hlt hl => hl))
      rw [hd]
      exact v.rep.put hdn Rep.undef

theorem Inv.runE (hM : ∀ t n r, M t n = some r → methOf P t n = some r) (hcall : CallOK G P call) (hp : Plan G P n ops as c) (hg0 : Globs G loc0) (hd0 : ∀ b l, loc0 b = some l → b < h0.n)
    (v : Inv G P n M call c e0 es h0 hs loc0 w0 a0 X D (p :: C) rs e h ec loc w a) (hpe : p.eff = true) (hanc : ∀ q ∈ c, ahead q.i p = true → q ∈ X) {K : Act → World → Prop}
    (hK : ∀ rs' e' h' ec' loc' w' a', Inv G P n M call c e0 es h0 hs loc0 w0 a0 (p :: X) D C rs' e' h' ec' loc' w' a' → K a' w') : wpOp P ops Q p.i K a w := by
  have hpc : p ∈ c := v.mem.2 (.inr (.inr (.head _)))
  obtain ⟨o, ho, hco, -, -⟩ := hp.mem p hpc
  obtain ⟨hd, hgd, hdn, hop⟩ := coper_spec hco
  have hg : Globs G loc := hg0.mono v.step.le
  have hwi := wants_iff (a := a) (e := ec) (loc := loc) hgd v.rep.size (fun d _ _ => v.rep.rep d)
  have hagX := v.agreeX hp (.inr (.head _)) hanc
  have hsame := hagX.same (v.agreeC hp)
  have run := v.run
  have hnotD : ∀ q ∈ D, ahead q.i p = false := fun q hq => by
    cases hh : ahead q.i p with
    | false => rfl
    | true => exact absurd rfl ((v.xdc hp).1 q (hanc q (v.mem.2 (.inr (.inl hq))) hh) q (.inl hq))
  have hl : ∀ q ∈ D, q.rd = true → q.o ∈ (rs.filter fun q => !ahead q.i p).map (·.o) := fun q hq hr =>
    List.mem_map.2 ⟨q, List.mem_filter.2 ⟨v.rsD q hq hr, by rw [hnotD q hq]; rfl⟩, rfl⟩
  have hrs : ∀ q ∈ D, q.rd = true → q ∈ (if p.rd then p :: rs else rs) := fun q hq hr => by
    have := v.rsD q hq hr
    split
    · exact .tail _ this
    · exact this
  have hmm : ((rs.filter fun q => !ahead q.i p).map fun q => Item.chk q.o) = ((rs.filter fun q => !ahead q.i p).map (·.o)).map .chk := by
    rw [List.map_map]; rfl
  simp only [plan, hpe, if_true] at run
  rw [hmm, runItems] at run
  rw [← wants_same (looks_guard hsame), ← step_same (looks_tmps hsame)] at run
  unfold wpOp
  rw [ho]
  dsimp only
  rw [hwi]
  split at run
  · rename_i hw
    rw [if_pos hw]
    split at run
    · rename_i u h1 hst
      rw [hop] at hst
      obtain ⟨op, hcop, hst⟩ := cop_of_step hst
      left
      refine step_sound hM hcall hcop hst hg v.sim (v.rep.at _) _ _ ?_
      intro loc1 v1 w1 t1 s1 r1
      refine hK _ _ _ _ _ _ _ (v.afterE hp hd0 hanc hl hrs run t1 s1 ?_ (put_tmps ..).1)
      rw [hd]
      exact (v.rep.mono t1.le).put hdn r1
    · cases run
  · rename_i hw
    rw [if_neg hw]
    refine hK _ _ _ _ _ _ _ (v.afterE hp hd0 hanc hl hrs run (Step.refl ..) v.sim ?_ (put_tmps ..).1)
    rw [hd]
    exact v.rep.put hdn Rep.undef

/-- the plan is told as far as p -/
theorem Inv.reach (hp : Plan G P n ops as c) (hanc : ∀ q ∈ c, ahead q.i p = true → q ∈ X) : ∀ {C D rs : List PO} {e : Env} {h : AHeap}, Inv G P n M call c e0 es h0 hs loc0 w0 a0 X D C rs e h ec loc w a → p ∈ C →
    ∃ D' C' rs' e' h', Inv G P n M call c e0 es h0 hs loc0 w0 a0 X D' C' rs' e' h' ec loc w a ∧ (p ∈ D' ∨ ∃ C'', C' = p :: C'' ∧ p.eff = true) ∧ (∀ q, (q ∈ D' ∨ q ∈ C') ↔ (q ∈ D ∨ q ∈ C)) ∧ D'.length + C'.length = D.length + C.length
  | [], D, rs, e, h, v, hm => by simp at hm
  | q :: C, D, rs, e, h, v, hm => by
    by_cases hq : q.eff = true
    · have hqp : q = p := by
        cases hm with
        | head => rfl
        | tail _ hm =>
          have hpo := pairOk_spec ((List.pairwise_cons.1 v.chain).1 p hm)
          have hx := hanc q (v.mem.2 (.inr (.inr (.head _)))) (hpo.2.2.1 hq)
          exact absurd rfl ((v.xdc hp).1 q hx q (.inr (.head _)))
      subst hqp
      exact ⟨D, q :: C, rs, e, h, v, .inr ⟨C, rfl, hq⟩, fun _ => Iff.rfl, rfl⟩
    · obtain ⟨rs1, e1, h1, v1⟩ := v.adv hp (by simpa using hq)
      have hiff : ∀ r, (r ∈ q :: D ∨ r ∈ C) ↔ (r ∈ D ∨ r ∈ q :: C) := fun r => by
        simp only [List.mem_cons]; constructor
        · rintro ((h | h) | h) <;> simp [h]
        · rintro (h | h | h) <;> simp [h]
      by_cases hqp : q = p
      · subst hqp
        exact ⟨_, _, _, _, _, v1, .inl (.head _), hiff, by simp; omega⟩
      · have hm2 : p ∈ C := by
          cases hm with
          | head => exact absurd rfl hqp
          | tail _ hm => exact hm
        obtain ⟨D', C', rs', e', h', v', hor, hi, hlen⟩ := Inv.reach hp hanc v1 hm2
        exact ⟨D', C', rs', e', h', v', hor, fun r => (hi r).trans (hiff r), by simp at hlen ⊢; omega⟩

theorem exists_min : ∀ {l : List PO}, l ≠ [] → ∃ p ∈ l, ∀ q ∈ l, p.i ≤ q.i
  | [], h => absurd rfl h
  | [p], _ => ⟨p, .head _, fun q hq => by cases hq with
    | head => exact Nat.le_refl _
    | tail _ hq => cases hq⟩
  | p :: q :: l, _ => by
    obtain ⟨m, hm, hmin⟩ := exists_min (l := q :: l) (by simp)
    by_cases hle : p.i ≤ m.i
    · refine ⟨p, .head _, fun r hr => ?_⟩
      cases hr with
      | head => exact Nat.le_refl _
      | tail _ hr => exact Nat.le_trans hle (hmin r hr)
    · refine ⟨m, .tail _ hm, fun r hr => ?_⟩
      cases hr with
      | head => omega
      | tail _ hr => exact hmin r hr

theorem edgesOf_mem {o : Oper} {x : Nat} (h : x ∈ edgesOf o) : ∃ ed ∈ o.after, Region.binds .any ed = true ∧ ed.on = x := by
  unfold edgesOf at h
  obtain ⟨ed, h1, h2⟩ := List.mem_map.1 h
  obtain ⟨h3, h4⟩ := List.mem_filter.1 h1
  exact ⟨ed, by simpa using h3, h4, h2⟩

theorem edgesOf_of {o : Oper} {ed : Edge} (h : ed ∈ o.after) (hb : Region.binds .any ed = true) : ed.on ∈ edgesOf o :=
  List.mem_map.2 ⟨ed, List.mem_filter.2 ⟨by simpa using h, hb⟩, rfl⟩

theorem getD_ft {listed : Array Bool} {i : Nat} (h : listed.getD i false = true) : listed.getD i true = true := by
  rw [Array.getD_eq_getD_getElem?] at *
  cases hx : listed[i]? with
  | none => rfl
  | some x => rw [hx] at h; exact h

/-- WHICHEVER ORDER IS DRAWN, IT COMES TO WHAT THE PLAN COMES TO. -/
theorem draw_any (hM : ∀ t n r, M t n = some r → methOf P t n = some r) (hcall : CallOK G P call) (hp : Plan G P n ops as c) (hv : Cov ops as c) (hg0 : Globs G loc0) (hd0 : ∀ b l, loc0 b = some l → b < h0.n)
    (hQ : ∀ loc' a' w', Step loc0 h0 w0 loc' hs w' → Sim loc' hs w' → EnvRep loc' n es a'.tmps → a'.defers = a0.defers → Q .normal a' w') :
    ∀ (fuel : Nat) {X D C rs : List PO} {e : Env} {h : AHeap} {ec : Env} {loc : Loc} {w : World} {a : Act} {listed : Array Bool}, Inv G P n M call c e0 es h0 hs loc0 w0 a0 X D C rs e h ec loc w a →
      listed.size = ops.size → (∀ i, listed.getD i true = false ↔ ∃ p, (p ∈ D ∨ p ∈ C) ∧ p.i = i) → D.length + C.length ≤ fuel → wpAny P .any ops Q fuel listed a w := by
  have hdone : ∀ {X rs : List PO} {e : Env} {h : AHeap} {ec : Env} {loc : Loc} {w : World} {a : Act}, Inv G P n M call c e0 es h0 hs loc0 w0 a0 X [] [] rs e h ec loc w a → Q .normal a w := by
    intro X rs e h ec loc w a v
    have run := v.run
    simp only [plan, runItems, Option.some.injEq, Prod.mk.injEq] at run
    obtain ⟨rfl, rfl⟩ := run
    refine hQ loc a w v.step v.sim ⟨v.rep.size, fun i => ?_⟩ v.defs
    have hr := v.rep.rep i
    by_cases hw : Wr X i
    · rw [← v.envC.on i hw]; exact hr
    · rw [v.envE.off i (by simpa using hw), ← v.envC.off i hw]; exact hr
  have hready : ∀ {X D C rs : List PO} {e : Env} {h : AHeap} {ec : Env} {loc : Loc} {w : World} {a : Act} {listed : Array Bool}, Inv G P n M call c e0 es h0 hs loc0 w0 a0 X D C rs e h ec loc w a →
      listed.size = ops.size → (∀ i, listed.getD i true = false ↔ ∃ p, (p ∈ D ∨ p ∈ C) ∧ p.i = i) → Region.ready .any ops listed = [] → D = [] ∧ C = [] := by
    intro X D C rs e h ec loc w a listed v hsz hli hre
    cases hDC : D ++ C with
    | nil => simpa using hDC
    | cons q0 r0 =>
      exfalso
      obtain ⟨p, hpm, hmin⟩ := exists_min (l := D ++ C) (by rw [hDC]; simp)
      have hpm : p ∈ D ∨ p ∈ C := by simpa using hpm
      obtain ⟨o, ho, -, -, -⟩ := hp.mem p (v.mem.2 (.inr hpm))
      have : p.i ∈ Region.ready .any ops listed := by
        refine mem_ready.2 ⟨(hli p.i).2 ⟨p, hpm, rfl⟩, o, ho, fun ed hed hb => ?_⟩
        have hlt := hv.down p.i o ho ed.on (edgesOf_of hed hb)
        have hsz2 : p.i < ops.size := (Array.getElem?_eq_some_iff.1 ho).1
        have hnot : ¬ listed.getD ed.on true = false := fun hh => by
          obtain ⟨q, hq, hqi⟩ := (hli ed.on).1 hh
          have := hmin q (by simpa using hq)
          omega
        rw [Array.getD_eq_getD_getElem?, Array.getElem?_eq_getElem (by omega)] at hnot ⊢
        simpa using hnot
      rw [hre] at this
      cases this
  intro fuel
  induction fuel with
  | zero =>
    intro X D C rs e h ec loc w a listed v hsz hli hlen
    have hD : D = [] := List.eq_nil_of_length_eq_zero (by omega)
    have hC : C = [] := List.eq_nil_of_length_eq_zero (by omega)
    subst hD; subst hC
    refine ⟨?_, hdone v⟩
    cases hre : Region.ready .any ops listed with
    | nil => rfl
    | cons i r =>
      have : i ∈ Region.ready .any ops listed := by rw [hre]; exact .head _
      obtain ⟨q, hq, -⟩ := (hli i).1 (mem_ready.1 this).1
      simp at hq
  | succ fuel ih =>
    intro X D C rs e h ec loc w a listed v hsz hli hlen
    refine ⟨fun hre => ?_, fun i hi => ?_⟩
    · obtain ⟨rfl, rfl⟩ := hready v hsz hli hre
      exact hdone v
    · obtain ⟨hun, o, ho, hall⟩ := mem_ready.1 hi
      obtain ⟨p, hpm, rfl⟩ := (hli i).1 hun
      have hpc := v.mem.2 (.inr hpm)
      have hX : ∀ q ∈ c, listed.getD q.i false = true → q ∈ X := fun q hq hl => by
        rcases v.mem.1 hq with h | h
        · exact h
        · have := (hli q.i).2 ⟨q, h, rfl⟩
          rw [getD_ft hl] at this; cases this
      have hanc : ∀ q ∈ c, ahead q.i p = true → q ∈ X := by
        intro q hq ha
        obtain ⟨o2, ho2, -, -, ha2⟩ := hp.mem p hpc
        rw [ho] at ho2; cases ho2
        unfold ahead at ha
        rw [ha2] at ha
        obtain ⟨x, hx, hor⟩ := testBit_ancOf ha
        obtain ⟨ed, he1, he2, rfl⟩ := edgesOf_mem hx
        have hlis := hall ed he1 he2
        rcases hor with hor | hor
        · exact hX q hq (by rw [hor]; exact hlis)
        · have hlt := hv.down p.i o ho ed.on hx
          have hsz2 : p.i < ops.size := (Array.getElem?_eq_some_iff.1 ho).1
          obtain ⟨q2, hq2, hqi⟩ := hv.cover ed.on (by omega)
          obtain ⟨-, -, -, has, -⟩ := hp.mem q2 hq2
          rw [hqi] at has
          have : as.getD ed.on 0 = q2.anc := by rw [List.getD_eq_getElem?_getD, has]; rfl
          rw [this] at hor
          exact v.closed q2 (hX q2 hq2 (by rw [hqi]; exact hlis)) q hq hor
      have hset : ∀ {D' C' : List PO}, (∀ q, (q ∈ D' ∨ q ∈ C') ↔ ((q ∈ D ∨ q ∈ C) ∧ q ≠ p)) → ∀ i, (listed.setIfInBounds p.i true).getD i true = false ↔ ∃ q, (q ∈ D' ∨ q ∈ C') ∧ q.i = i := by
        intro D' C' hiff i
        by_cases hpi : p.i = i
        · subst hpi
          constructor
          · intro hh
            exfalso
            have hlt : p.i < listed.size := by rw [hsz]; exact (Array.getElem?_eq_some_iff.1 ho).1
            rw [Array.getD_eq_getD_getElem?, Array.getElem?_setIfInBounds_self_of_lt hlt] at hh
            cases hh
          · rintro ⟨q, hq, hqi⟩
            obtain ⟨h1, h2⟩ := (hiff q).1 hq
            exfalso
            have hqc := v.mem.2 (.inr h1)
            rcases pw_or hp.ids hqc hpc h2 with h | h
            · exact h hqi
            · exact h hqi.symm
        · rw [getD_set_ne true hpi, hli i]
          constructor
          · rintro ⟨q, hq, hqi⟩
            exact ⟨q, (hiff q).2 ⟨hq, fun e => hpi (by rw [← hqi, e])⟩, hqi⟩
          · rintro ⟨q, hq, hqi⟩
            exact ⟨q, ((hiff q).1 hq).1, hqi⟩
      have hreach : ∃ D' C' rs' e' h', Inv G P n M call c e0 es h0 hs loc0 w0 a0 X D' C' rs' e' h' ec loc w a ∧ (p ∈ D' ∨ ∃ C'', C' = p :: C'' ∧ p.eff = true) ∧ (∀ q, (q ∈ D' ∨ q ∈ C') ↔ (q ∈ D ∨ q ∈ C)) ∧ D'.length + C'.length = D.length + C.length := by
        rcases hpm with hpm | hpm
        · exact ⟨D, C, rs, e, h, v, .inl hpm, fun _ => Iff.rfl, rfl⟩
        · exact v.reach hp hanc hpm
      obtain ⟨D', C', rs', e', h', v', hor, hiff, hlen'⟩ := hreach
      have hids := v'.ids hp
      rw [List.pairwise_append, List.pairwise_append] at hids
      rcases hor with hpD | ⟨C'', rfl, hpe⟩
      · obtain ⟨D1, D2, rfl⟩ := List.append_of_mem hpD
        refine v'.runD hM hcall hp hg0 hd0 hanc ?_
        intro ec2 loc2 w2 a2 v2
        refine ih v2 (by simpa using hsz) (hset fun q => ?_) (by simp at hlen' ⊢; omega)
        have hdist := hids.2.1.1
        rw [List.pairwise_append, List.pairwise_cons] at hdist
        rw [← hiff q]
        simp only [List.mem_append, List.mem_cons]
        constructor
        · rintro ((h | h) | h)
          · exact ⟨.inl (.inl h), fun e => hdist.2.2 q h p (.head _) (by rw [e])⟩
          · exact ⟨.inl (.inr (.inr h)), fun e => hdist.2.1.1 q h (by rw [e])⟩
          · exact ⟨.inr h, fun e => hids.2.1.2.2 p hpD q h (by rw [e])⟩
        · rintro ⟨(h | h | h) | h, hne⟩
          · exact .inl (.inl h)
          · exact absurd h hne
          · exact .inl (.inr h)
          · exact .inr h
      · refine v'.runE hM hcall hp hg0 hd0 hpe hanc ?_
        intro rs2 e2 h2 ec2 loc2 w2 a2 v2
        refine ih v2 (by simpa using hsz) (hset fun q => ?_) (by simp at hlen' ⊢; omega)
        have hdist := hids.2.1.2.1
        rw [List.pairwise_cons] at hdist
        rw [← hiff q]
        simp only [List.mem_cons]
        constructor
        · rintro (h | h)
          · exact ⟨.inl h, fun e => hids.2.1.2.2 q h p (.head _) (by rw [e])⟩
          · exact ⟨.inr (.inr h), fun e => hdist.1 q h (by rw [e])⟩
        · rintro ⟨h | h | h, hne⟩
          · exact .inl h
          · exact absurd h hne
          · exact .inr h

end
end Go.Ai

/- A map that is written down: its entries come in whatever order. -/
set_option linter.unusedSimpArgs false
set_option linter.unusedVariables false
namespace Go.Ai
open Go

def litVal (e : Env) (p : PO) : AVal :=
  match p.o.op with
  | .mset _ _ _ v => v.ev e
  | _ => undef

def entOf (e : Env) (p : PO) : AVal × AVal := (litKey p, litVal e p)

section
variable {G : List Nat} {P : Program} {n : Nat} {ops : Array Oper} {as : List Nat} {c F I J E : List PO} {M : Meth} {call : CallT}
variable {e0 es e e' ec : Env} {h0 hs h h1 : AHeap} {loc0 loc loc1 : Loc} {w0 w w1 : World} {a0 a a1 : Act} {X D D1 D2 C rs : List PO} {p : PO} {Q : Exit → Act → World → Prop} {sk : Bool} {m bm : Nat}

theorem litOf_spec (h : litOf sk m p = true) : ∃ k v, p.o.op = .mset sk (.t m) (.k k) v ∧ keyEq sk k k = some true := by
  unfold litOf at h
  split at h
  · rename_i sk' m' k v ho
    simp only [Bool.and_eq_true, beq_iff_eq, Nat.beq_eq] at h
    obtain ⟨⟨rfl, rfl⟩, hk⟩ := h
    refine ⟨k, v, ho, ?_⟩
    split at hk
    · assumption
    · cases hk
  · cases h

theorem isLit_spec (h : isLit p = true) : p.o.g = none ∧ p.o.d = none := by
  unfold isLit at h
  split at h
  · simpa using h
  · cases h

theorem keysOff_spec : ∀ {I : List PO}, keysOff sk I = true → I.Pairwise fun p q => keyEq sk (litKey p) (litKey q) = some false
  | [], _ => .nil
  | p :: r, h => by
    simp only [keysOff, Bool.and_eq_true, List.all_eq_true] at h
    refine List.pairwise_cons.2 ⟨fun q hq => ?_, keysOff_spec h.2⟩
    have := h.1 q hq
    split at this
    · assumption
    · cases this

theorem idsOk_spec : ∀ {I : List PO}, idsOk I = true → I.Pairwise fun p q => p.i ≠ q.i
  | [], _ => .nil
  | p :: r, h => by
    simp only [idsOk, Bool.and_eq_true, List.all_eq_true, Bool.not_eq_true'] at h
    refine List.pairwise_cons.2 ⟨fun q hq => fun e => ?_, idsOk_spec h.2⟩
    have := h.1 q hq
    rw [e] at this; simp at this

/-- a key that is not there comes to stand at the end -/
theorem putKey_new {k v : AVal} : ∀ {es : List (AVal × AVal)}, (∀ x ∈ es, keyEq sk k x.1 = some false) → putKey sk k v es = some (es ++ [(k, v)])
  | [], _ => rfl
  | (x, u) :: r, h => by
    rw [putKey, h (x, u) (.head _)]
    simp only [putKey_new (es := r) fun y hy => h y (.tail _ hy), Option.map_some, List.cons_append]

/-- the entries, one by one -/
theorem lits_run : ∀ {I : List PO} {ents : List (AVal × AVal)} {h : AHeap} {res : Env × AHeap}, (∀ p ∈ I, litOf sk m p = true ∧ isLit p = true) → I.Pairwise (fun p q => keyEq sk (litKey p) (litKey q) = some false) →
    (∀ p ∈ I, ∀ x ∈ ents, keyEq sk (litKey p) x.1 = some false) → e.at m = .mp bm → h.get bm = some (.map ents) → runItems M call (I.map fun p => .op p.o) e h = some res →
    res.1 = e ∧ res.2.n = h.n ∧ (∀ b, b ≠ bm → res.2.get b = h.get b) ∧ res.2.get bm = some (.map (ents ++ I.map (entOf e)))
  | [], ents, h, res, _, _, _, _, hg, hr => by
    simp only [List.map_nil, runItems, Option.some.injEq] at hr
    subst hr
    exact ⟨rfl, rfl, fun _ _ => rfl, by simpa using hg⟩
  | p :: I, ents, h, res, hl, hk, hx, hm, hg, hr => by
    obtain ⟨hlo, hli⟩ := hl p (.head _)
    obtain ⟨k, v, ho, hkk⟩ := litOf_spec hlo
    obtain ⟨hgn, hdn⟩ := isLit_spec hli
    rw [List.pairwise_cons] at hk
    have hkey : litKey p = k := by simp [litKey, ho]
    have hent : entOf e p = (k, v.ev e) := by simp [entOf, litKey, litVal, ho]
    have hput := putKey_new (sk := sk) (k := k) (v := v.ev e) (es := ents) (fun x hxm => by have := hx p (.head _) x hxm; rw [hkey] at this; exact this)
    have hev : (Opr.t m).ev e = .mp bm := hm
    have hek : (Opr.k k).ev e = k := rfl
    simp only [List.map_cons, runItems, hgn, wants, if_true, ho, step, hev, hek, hg, hkk, Option.isSome_some, hput, Option.map_some, hdn, put] at hr
    have hg2 : (h.set bm (.map (ents ++ [(k, v.ev e)]))).get bm = some (.map (ents ++ [(k, v.ev e)])) := by rw [AHeap.get_set, if_pos rfl]
    obtain ⟨r1, r2, r3, r4⟩ := lits_run (I := I) (fun q hq => hl q (.tail _ hq)) hk.2 (fun q hq x hxm => by
      rcases List.mem_append.1 hxm with hxm | hxm
      · exact hx q (.tail _ hq) x hxm
      · simp only [List.mem_singleton] at hxm
        subst hxm
        have := hk.1 q hq
        rw [hkey] at this
        exact keyEq_symm this) hm hg2 hr
    refine ⟨r1, r2, fun b hb => by rw [r3 b hb, AHeap.get_set, if_neg (fun e => hb e.symm)], ?_⟩
    rw [r4, List.map_cons, hent, List.append_assoc]; rfl

theorem RepE.permute {a b : List (AVal × AVal)} {a' : List MapEntry} (hr : RepE loc a a') (hp : a.Perm b) : ∃ b', RepE loc b b' ∧ a'.Perm b' := by
  induction hp generalizing a' with
  | nil => exact ⟨a', hr, .refl _⟩
  | cons x _ ih =>
    cases hr with
    | cons k v e r r' hk hv hr =>
      obtain ⟨b', h1, h2⟩ := ih hr
      exact ⟨e :: b', .cons _ _ _ _ _ hk hv h1, h2.cons e⟩
  | swap x y l =>
    cases hr with
    | cons k v e r r' hk hv hr =>
      cases hr with
      | cons k2 v2 e2 r2 r2' hk2 hv2 hr2 => exact ⟨e2 :: e :: r2', .cons _ _ _ _ _ hk2 hv2 (.cons _ _ _ _ _ hk hv hr2), .swap ..⟩
  | trans _ _ ih1 ih2 =>
    obtain ⟨b', h1, h2⟩ := ih1 hr
    obtain ⟨c', h3, h4⟩ := ih2 h1
    exact ⟨c', h3, h2.trans h4⟩

theorem Dist.permute {a b : List (AVal × AVal)} (hd : Dist a) (hp : a.Perm b) : Dist b := by
  obtain ⟨sk, h1, h2⟩ := hd
  exact ⟨sk, fun p hpb => h1 p (hp.mem_iff.2 hpb), (hp.pairwise_iff (fun h => keyEq_symm h)).1 h2⟩

/-- a heap in which a map's entries stand in another order -/
theorem sim_permute (s : Sim loc h w) (hn : h1.n = h.n) (hoth : ∀ b, b ≠ bm → h1.get b = h.get b) {x y : List (AVal × AVal)} (hx : h.get bm = some (.map x)) (hy : h1.get bm = some (.map y)) (hp : x.Perm y) : Sim loc h1 w := by
  have hwr : ∀ b, writable h1 b → writable h b := fun b hb => by
    by_cases e : b = bm
    · subst e; unfold writable; rw [hx]; trivial
    · unfold writable at *; rw [hoth b e] at hb; exact hb
  have hal : ∀ b, alive h1 b → alive h b := fun b hb => by
    by_cases e : b = bm
    · subst e; unfold alive; rw [hx]; trivial
    · unfold alive at *; rw [hoth b e] at hb; exact hb
  refine ⟨fun b l hl => by rw [hn]; exact s.dom b l hl, fun b hb => ?_, fun b l o hl ho => ?_, fun b d l m hl hm hne hw ha => s.inj b d l m hl hm hne (hwr b hw) (hal d ha), s.zero⟩
  · rw [hn] at hb
    have hne : b ≠ bm := by rintro rfl; have := s.top b hb; rw [hx] at this; cases this
    rw [hoth b hne]; exact s.top b hb
  · by_cases e : b = bm
    · subst e
      rw [hy] at ho; cases ho
      obtain ⟨o', h2, h3⟩ := s.obj b l _ hl hx
      cases o' with
      | map es' k =>
        obtain ⟨hd, hst, c0, hc, hre⟩ := h3
        obtain ⟨c1, g1, g2⟩ := hre.permute hp
        exact ⟨_, h2, hd.permute hp, hst, c1, g2.symm.trans hc, g1⟩
      | _ => exact h3.elim
    · rw [hoth b e] at ho; exact s.obj b l o hl ho

theorem step_permute (t : Step loc0 h0 w0 loc h w) (hn : h1.n = h.n) (hb : h0.n ≤ bm) (hoth : ∀ b, b ≠ bm → h1.get b = h.get b) : Step loc0 h0 w0 loc h1 w where
  le := t.le
  pend := fun b hb e => by rw [hoth b (by omega)]; exact t.pend b hb e
  n := by rw [hn]; exact t.n
  size := t.size
  wr := fun b hb hw => t.wr b hb (by unfold writable at *; rw [hoth b (by omega)] at hw; exact hw)
  fresh := t.fresh
  frame := t.frame
  os := t.os
  output := t.output

/-- all of a plan without an effect is told -/
theorem Inv.told (hp : Plan G P n ops as c) : ∀ {C D rs : List PO} {e : Env} {h : AHeap}, Inv G P n M call c e0 es h0 hs loc0 w0 a0 X D C rs e h ec loc w a → (∀ p ∈ C, p.eff = false) →
    ∃ D' rs', Inv G P n M call c e0 es h0 hs loc0 w0 a0 X D' [] rs' es hs ec loc w a ∧ ∀ q, q ∈ D' ↔ q ∈ D ∨ q ∈ C
  | [], D, rs, e, h, v, _ => by
    have run := v.run
    simp only [plan, runItems, Option.some.injEq, Prod.mk.injEq] at run
    obtain ⟨rfl, rfl⟩ := run
    exact ⟨D, rs, v, by simp⟩
  | p :: C, D, rs, e, h, v, hC => by
    obtain ⟨rs1, e1, h1, v1⟩ := v.adv hp (hC p (.head _))
    obtain ⟨D', rs', v', hm⟩ := Inv.told hp v1 (fun q hq => hC q (.tail _ hq))
    refine ⟨D', rs', v', fun q => (hm q).trans ?_⟩
    simp only [List.mem_cons]
    constructor
    · rintro ((h | h) | h) <;> simp [h]
    · rintro (h | h | h) <;> simp [h]

/-- the heap is another one; the operations that are told do not look at it -/
theorem Inv.heap {D : List PO} (v : Inv G P n M call c e0 es h0 hs loc0 w0 a0 X D [] rs es hs ec loc w a) (hrd : ∀ p ∈ D, p.rd = false) (h2 : AHeap) {w2 : World} {a2 : Act} {ec2 : Env} {loc2 : Loc} (hec : ec2 = ec) (hrep : EnvRep loc2 n ec a2.tmps) (hdef : a2.defers = a.defers)
    (hs2 : Sim loc2 h2 w2) (ht2 : Step loc0 h0 w0 loc2 h2 w2) (hno : ∀ b, b < hs.n → loc b = none → loc2 b = none ∧ h2.get b = hs.get b) (hn : hs.n ≤ h2.n) :
    Inv G P n M call c e0 es h0 h2 loc0 w0 a0 X D [] rs es h2 ec2 loc2 w2 a2 := by
  subst hec
  refine ⟨v.perm, v.fwd, v.chain, v.closed, rfl, v.rsD, v.envE, v.envC, hrep, hs2, ht2, hdef.trans v.defs, ?_, ?_, v.dis, v.effD⟩
  · intro p hp hpa
    refine (v.facts p hp hpa).heap ?_ h2
    rcases eff_false (v.effD p hp) hpa with hc | hc
    · exact hc
    · have := hrd p hp; simp [PO.rd, hc] at this
  · intro p hp hpa
    obtain ⟨b, b1, b2, b3, b4, b5⟩ := v.blks p hp hpa
    obtain ⟨g1, g2⟩ := hno b b4 b2
    exact ⟨b, b1, g1, b3, by omega, by rw [g2]; exact b5⟩
end
end Go.Ai

/- A map that is written down: whichever order is drawn. And with it: the evaluator is sound. -/
set_option linter.unusedSimpArgs false
set_option linter.unusedVariables false
namespace Go.Ai
open Go

section
variable {G : List Nat} {P : Program} {n : Nat} {ops : Array Oper} {as : List Nat} {c F I J E : List PO} {M : Meth} {call : CallT}
variable {e0 es e e' ec : Env} {h0 hF hs h h1 : AHeap} {loc0 loc loc1 : Loc} {w0 w w1 : World} {a0 a a1 : Act} {X D D1 D2 C rs : List PO} {p q0 : PO} {Q : Exit → Act → World → Prop} {sk : Bool} {m bm : Nat}

theorem litMade_spec (h : litMade m I q0 = true) : q0.al = true ∧ q0.o.op = .mkm ∧ q0.o.d = some m ∧ ∀ i ∈ I, ahead q0.i i = true := by
  simp only [litMade, Bool.and_eq_true, List.all_eq_true] at h
  obtain ⟨⟨⟨h1, h2⟩, h3⟩, h4⟩ := h
  refine ⟨h1, ?_, ?_, h4⟩
  · split at h2
    · assumption
    · cases h2
  · split at h3
    · rename_i d hd; rw [Nat.beq_eq] at h3; rw [hd, h3]
    · cases h3

theorem wrAt_spec {q : PO} (h : wrAt q p = false) {t : Nat} (hd : q.o.d = some t) : t ∉ looks p.o := by
  intro ht
  simp only [wrAt, hd] at h
  have := List.contains_iff_mem.2 ht
  rw [this] at h; cases h

theorem lit_any (hM : ∀ t n r, M t n = some r → methOf P t n = some r) (hcall : CallOK G P call) (hp : Plan G P n ops as F) (hv : Cov ops as c) (hcF : ∀ q ∈ F, q ∈ c) (hcI : ∀ q ∈ I, q ∈ c)
    (hmem : ∀ p ∈ c, ∃ o, ops[p.i]? = some o ∧ coper G P ops.toList n o = some p.o ∧ as[p.i]? = some p.anc ∧ p.anc = ancOf as (edgesOf o))
    (hF0 : ∀ p ∈ F, p.eff = false ∧ p.rd = false) (hlit : ∀ p ∈ I, litOf sk m p = true ∧ isLit p = true) (hkeys : I.Pairwise fun p q => keyEq sk (litKey p) (litKey q) = some false) (hq0 : q0 ∈ F) (hmade : litMade m I q0 = true)
    (hids : (F ++ I).Pairwise fun p q => p.i ≠ q.i) (hwr : ∀ i ∈ I, ∀ q ∈ F, wrAt q i = false ∨ ahead q.i i = true) (hm : es.at m = .mp bm)
    (hg0 : Globs G loc0) (hd0 : ∀ b l, loc0 b = some l → b < h0.n)
    (hQ : ∀ (loc' : Loc) (a' : Act) (w' : World) (h' : AHeap) (E : List PO), Step loc0 h0 w0 loc' h' w' → Sim loc' h' w' → EnvRep loc' n es a'.tmps → a'.defers = a0.defers → E.Perm I → h'.n = hF.n → (∀ b, b ≠ bm → h'.get b = hF.get b) → h'.get bm = some (.map (E.map (entOf es))) → Q .normal a' w') :
    ∀ (fuel : Nat) {X D J E rs : List PO} {h : AHeap} {ec : Env} {loc : Loc} {w : World} {a : Act} {listed : Array Bool}, Inv G P n M call F e0 es h0 h loc0 w0 a0 X D [] rs es h ec loc w a →
      (E ++ J).Perm I → h.n = hF.n → (∀ b, b ≠ bm → h.get b = hF.get b) → h.get bm = some (.map (E.map (entOf es))) →
      listed.size = ops.size → (∀ i, listed.getD i true = false ↔ ∃ p, (p ∈ D ∨ p ∈ J) ∧ p.i = i) → (∀ j, listed.getD j false = true → ∀ x, (as.getD j 0).testBit x = true → listed.getD x false = true) →
      D.length + J.length ≤ fuel → wpAny P .any ops Q fuel listed a w := by
  have hmade' := litMade_spec hmade
  have hdone : ∀ {X E rs : List PO} {h : AHeap} {ec : Env} {loc : Loc} {w : World} {a : Act}, Inv G P n M call F e0 es h0 h loc0 w0 a0 X [] [] rs es h ec loc w a → (E ++ []).Perm I → h.n = hF.n → (∀ b, b ≠ bm → h.get b = hF.get b) → h.get bm = some (.map (E.map (entOf es))) → Q .normal a w := by
    intro X E rs h ec loc w a v hE hn hoth hbm
    refine hQ loc a w h E v.step v.sim ⟨v.rep.size, fun i => ?_⟩ v.defs (by simpa using hE) hn hoth hbm
    have hr := v.rep.rep i
    by_cases hw : Wr X i
    · rw [← v.envC.on i hw]; exact hr
    · rw [v.envE.off i (by simpa using hw), ← v.envC.off i hw]; exact hr
  have hDc : ∀ {X D J E rs : List PO} {h : AHeap} {ec : Env} {loc : Loc} {w : World} {a : Act}, Inv G P n M call F e0 es h0 h loc0 w0 a0 X D [] rs es h ec loc w a → (E ++ J).Perm I → ∀ q, (q ∈ D ∨ q ∈ J) → q ∈ c := by
    intro X D J E rs h ec loc w a v hE q hq
    rcases hq with hq | hq
    · exact hcF q (v.mem.2 (.inr (.inl hq)))
    · exact hcI q (hE.mem_iff.1 (List.mem_append_right _ hq))
  have hready : ∀ {X D J E rs : List PO} {h : AHeap} {ec : Env} {loc : Loc} {w : World} {a : Act} {listed : Array Bool}, Inv G P n M call F e0 es h0 h loc0 w0 a0 X D [] rs es h ec loc w a → (E ++ J).Perm I →
      listed.size = ops.size → (∀ i, listed.getD i true = false ↔ ∃ p, (p ∈ D ∨ p ∈ J) ∧ p.i = i) → Region.ready .any ops listed = [] → D = [] ∧ J = [] := by
    intro X D J E rs h ec loc w a listed v hE hsz hli hre
    cases hDC : D ++ J with
    | nil => simpa using hDC
    | cons q0 r0 =>
      exfalso
      obtain ⟨p, hpm, hmin⟩ := exists_min (l := D ++ J) (by rw [hDC]; simp)
      have hpm : p ∈ D ∨ p ∈ J := by simpa using hpm
      obtain ⟨o, ho, -, -, -⟩ := hmem p (hDc v hE p hpm)
      have : p.i ∈ Region.ready .any ops listed := by
        refine mem_ready.2 ⟨(hli p.i).2 ⟨p, hpm, rfl⟩, o, ho, fun ed hed hb => ?_⟩
        have hlt := hv.down p.i o ho ed.on (edgesOf_of hed hb)
        have hsz2 : p.i < ops.size := (Array.getElem?_eq_some_iff.1 ho).1
        have hnot : ¬ listed.getD ed.on true = false := fun hh => by
          obtain ⟨q, hq, hqi⟩ := (hli ed.on).1 hh
          have := hmin q (by simpa using hq)
          omega
        rw [Array.getD_eq_getD_getElem?, Array.getElem?_eq_getElem (by omega)] at hnot ⊢
        simpa using hnot
      rw [hre] at this
      cases this
  intro fuel
  induction fuel with
  | zero =>
    intro X D J E rs h ec loc w a listed v hE hn hoth hbm hsz hli hcl hlen
    have hD : D = [] := List.eq_nil_of_length_eq_zero (by omega)
    have hJ : J = [] := List.eq_nil_of_length_eq_zero (by omega)
    subst hD; subst hJ
    refine ⟨?_, hdone v hE hn hoth hbm⟩
    cases hre : Region.ready .any ops listed with
    | nil => rfl
    | cons i r =>
      have : i ∈ Region.ready .any ops listed := by rw [hre]; exact .head _
      obtain ⟨q, hq, -⟩ := (hli i).1 (mem_ready.1 this).1
      simp at hq
  | succ fuel ih =>
    intro X D J E rs h ec loc w a listed v hE hn hoth hbm hsz hli hcl hlen
    refine ⟨fun hre => ?_, fun i hi => ?_⟩
    · obtain ⟨rfl, rfl⟩ := hready v hE hsz hli hre
      exact hdone v hE hn hoth hbm
    · obtain ⟨hun, o, ho, hall⟩ := mem_ready.1 hi
      obtain ⟨p, hpm, rfl⟩ := (hli i).1 hun
      have hpc := hDc v hE p hpm
      obtain ⟨o2, ho2, hco, has, ha2⟩ := hmem p hpc
      rw [ho] at ho2; cases ho2
      have hasD : as.getD p.i 0 = p.anc := by rw [List.getD_eq_getElem?_getD, has]; rfl
      have hancAll : ∀ x, p.anc.testBit x = true → listed.getD x false = true := by
        intro x hx
        rw [ha2] at hx
        obtain ⟨y, hy, hor⟩ := testBit_ancOf hx
        obtain ⟨ed, he1, he2, rfl⟩ := edgesOf_mem hy
        have hlis := hall ed he1 he2
        rcases hor with rfl | hor
        · exact hlis
        · exact hcl _ hlis x hor
      have hX : ∀ q ∈ F, listed.getD q.i false = true → q ∈ X := fun q hq hl => by
        rcases v.mem.1 hq with h | h | h
        · exact h
        · have := (hli q.i).2 ⟨q, .inl h, rfl⟩
          rw [getD_ft hl] at this; cases this
        · cases h
      have hanc : ∀ q ∈ F, ahead q.i p = true → q ∈ X := fun q hq ha => hX q hq (hancAll q.i ha)
      have hlt : p.i < listed.size := by rw [hsz]; exact (Array.getElem?_eq_some_iff.1 ho).1
      have hcl' : ∀ j, (listed.setIfInBounds p.i true).getD j false = true → ∀ x, (as.getD j 0).testBit x = true → (listed.setIfInBounds p.i true).getD x false = true := by
        intro j hj x hx
        refine getD_set_true ?_
        by_cases hpj : p.i = j
        · subst hpj
          rw [hasD] at hx
          exact hancAll x hx
        · rw [getD_set_ne false hpj] at hj
          exact hcl j hj x hx
      have hpidsDJ : ∀ q, (q ∈ D ∨ q ∈ J) → q ≠ p → q.i ≠ p.i := by
        intro q hq hne
        have hqFI : q ∈ F ++ I := by
          rcases hq with hq | hq
          · exact List.mem_append_left _ (v.mem.2 (.inr (.inl hq)))
          · exact List.mem_append_right _ (hE.mem_iff.1 (List.mem_append_right _ hq))
        have hpFI : p ∈ F ++ I := by
          rcases hpm with hq | hq
          · exact List.mem_append_left _ (v.mem.2 (.inr (.inl hq)))
          · exact List.mem_append_right _ (hE.mem_iff.1 (List.mem_append_right _ hq))
        rcases pw_or hids hqFI hpFI hne with h | h
        · exact h
        · exact fun e => h e.symm
      have hset : ∀ {D' J' : List PO}, (∀ q, (q ∈ D' ∨ q ∈ J') ↔ ((q ∈ D ∨ q ∈ J) ∧ q ≠ p)) → ∀ i, (listed.setIfInBounds p.i true).getD i true = false ↔ ∃ q, (q ∈ D' ∨ q ∈ J') ∧ q.i = i := by
        intro D' J' hiff i
        by_cases hpi : p.i = i
        · subst hpi
          constructor
          · intro hh
            exfalso
            rw [Array.getD_eq_getD_getElem?, Array.getElem?_setIfInBounds_self_of_lt hlt] at hh
            cases hh
          · rintro ⟨q, hq, hqi⟩
            obtain ⟨h1, h2⟩ := (hiff q).1 hq
            exact absurd hqi (hpidsDJ q h1 h2)
        · rw [getD_set_ne true hpi, hli i]
          constructor
          · rintro ⟨q, hq, hqi⟩
            exact ⟨q, (hiff q).2 ⟨hq, fun e => hpi (by rw [← hqi, e])⟩, hqi⟩
          · rintro ⟨q, hq, hqi⟩
            exact ⟨q, ((hiff q).1 hq).1, hqi⟩
      have hvids := v.ids hp
      have hFI : ∀ q ∈ F, ∀ r ∈ I, q.i ≠ r.i := (List.pairwise_append.1 hids).2.2
      have hIne : I.Pairwise fun p q => p.i ≠ q.i := (List.pairwise_append.1 hids).2.1
      have hEJ : (E ++ J).Pairwise fun p q => p.i ≠ q.i := (hE.pairwise_iff (fun h => Ne.symm h)).2 hIne
      rcases hpm with hpD | hpJ
      · obtain ⟨D1, D2, rfl⟩ := List.append_of_mem hpD
        refine v.runD hM hcall hp hg0 hd0 hanc ?_
        intro ec2 loc2 w2 a2 v2
        refine ih v2 hE hn hoth hbm (by simpa using hsz) (hset fun q => ?_) hcl' (by simp at hlen ⊢; omega)
        rw [List.pairwise_append, List.pairwise_append, List.pairwise_append, List.pairwise_cons] at hvids
        have hpI : ∀ r ∈ J, r ≠ p := fun r hr e => by
          subst e
          exact hFI r (v.mem.2 (.inr (.inl hpD))) r (hE.mem_iff.1 (List.mem_append_right _ hr)) rfl
        simp only [List.mem_append, List.mem_cons]
        constructor
        · rintro ((h | h) | h)
          · exact ⟨.inl (.inl h), fun e => hvids.2.1.1.2.2 q h p (.head _) (by rw [e])⟩
          · exact ⟨.inl (.inr (.inr h)), fun e => hvids.2.1.1.2.1.1 q h (by rw [e])⟩
          · exact ⟨.inr h, hpI q h⟩
        · rintro ⟨(h | h | h) | h, hne⟩
          · exact .inl (.inl h)
          · exact absurd h hne
          · exact .inl (.inr h)
          · exact .inr h
      · obtain ⟨J1, J2, rfl⟩ := List.append_of_mem hpJ
        have hpI : p ∈ I := hE.mem_iff.1 (by simp)
        obtain ⟨hlo, hli2⟩ := hlit p hpI
        obtain ⟨k, u, hop2, hkk⟩ := litOf_spec hlo
        obtain ⟨hgn, hdn⟩ := isLit_spec hli2
        obtain ⟨hd, hgd, hdlt, hop⟩ := coper_spec hco
        have hg : Globs G loc := hg0.mono v.step.le
        have hwi := wants_iff (a := a) (e := ec) (loc := loc) hgd v.rep.size (fun d _ _ => v.rep.rep d)
        have hw : wants ec p.o.g = true := by rw [hgn]; rfl
        have hq0X : q0 ∈ X := hanc q0 hq0 (hmade'.2.2.2 p hpI)
        have hecm : ec.at m = .mp bm := by rw [v.envC.on m ⟨q0, hq0X, hmade'.2.2.1⟩]; exact hm
        have hwrX : ∀ q ∈ F, ∀ t, q.o.d = some t → t ∈ looks p.o → q ∈ F ∧ q.i ≠ p.i ∧ ahead q.i p = true := by
          intro q hq t hqd ht
          refine ⟨hq, hFI q hq p hpI, ?_⟩
          rcases hwr p hpI q hq with h | h
          · exact absurd ht (wrAt_spec h hqd)
          · exact h
        have hag1 : Agree F e0 es p ec := agree_of v.envC (fun q hq _ ha => hanc q hq ha) (fun q hq t hqd ht => hwrX q (v.mem.2 (.inl hq)) t hqd ht)
        have hesF : EnvIs e0 es F es := v.envE.of_mem fun q => by
          rw [v.mem]; simp
        have hag2 : Agree F e0 es p es := agree_of hesF (fun q hq _ _ => hq) hwrX
        have hsame := hag1.same hag2
        have huev : u.ev ec = u.ev es := by
          refine ev_same fun t ht => hsame t (List.mem_append_right _ ?_)
          rw [hop2]; simp [tmpsOf, ht]
        have hkey : litKey p = k := by simp [litKey, hop2]
        have hent : entOf es p = (k, u.ev es) := by simp [entOf, litKey, litVal, hop2]
        have hkoff : ∀ x ∈ E.map (entOf es), keyEq sk k x.1 = some false := by
          intro x hx
          obtain ⟨q, hq, rfl⟩ := List.mem_map.1 hx
          have hpw : (E ++ (J1 ++ p :: J2)).Pairwise fun p q => keyEq sk (litKey p) (litKey q) = some false := (hE.pairwise_iff (fun h => keyEq_symm h)).2 hkeys
          have := (List.pairwise_append.1 hpw).2.2 q hq p (by simp)
          rw [hkey] at this
          exact keyEq_symm this
        have hput := putKey_new (sk := sk) (k := k) (v := u.ev es) hkoff
        have hev : (Opr.t m).ev ec = .mp bm := hecm
        have hek : (Opr.k k).ev ec = k := rfl
        have hstep : step M call ec h p.o.op = some (undef, h.set bm (.map (E.map (entOf es) ++ [(k, u.ev es)]))) := by
          simp only [hop2, step, hev, hek, hbm, hkk, Option.isSome_some, if_true, huev, hput, Option.map_some]
        rw [hop] at hstep
        obtain ⟨op, hcop, hstep⟩ := cop_of_step hstep
        unfold wpOp
        rw [ho]
        dsimp only
        rw [hwi, if_pos hw]
        left
        refine step_sound hM hcall hcop hstep hg v.sim (v.rep.at _) _ _ ?_
        intro loc1 v1 w1 t1 s1 r1
        have hdst : o.dst = none := by rw [← hd]; exact hdn
        rw [hdst]
        have hbmlt : bm < h.n := by
          rcases Nat.lt_or_ge bm h.n with hh | hh
          · exact hh
          · have := v.sim.top bm hh; rw [hbm] at this; cases this
        have v2 := v.heap (fun p hp => (hF0 p (v.mem.2 (.inr (.inl hp)))).2) (h.set bm (.map (E.map (entOf es) ++ [(k, u.ev es)]))) (w2 := w1) (a2 := a) (ec2 := ec) (loc2 := loc1) rfl (v.rep.mono t1.le) rfl s1 (v.step.trans t1 hd0) (fun b hb hl => t1.pend b hb hl) (by simp)
        refine ih (E := E ++ [p]) (J := J1 ++ J2) v2 ?_ (by simpa using hn) (fun b hb => by rw [AHeap.get_set, if_neg (fun e => hb e.symm)]; exact hoth b hb) ?_ (by simpa using hsz) (hset fun q => ?_) hcl' (by simp at hlen ⊢; omega)
        · refine List.Perm.trans ?_ hE
          rw [List.append_assoc]
          refine List.Perm.append_left E ?_
          exact (List.perm_middle (a := p) (l₁ := J1) (l₂ := J2)).symm
        · rw [AHeap.get_set, if_pos rfl, List.map_append, List.map_cons, List.map_nil, hent]
        · rw [List.pairwise_append, List.pairwise_append, List.pairwise_cons] at hEJ
          have hpD : ∀ r ∈ D, r ≠ p := fun r hr e => by
            subst e
            exact hFI r (v.mem.2 (.inr (.inl hr))) r hpI rfl
          simp only [List.mem_append, List.mem_cons]
          constructor
          · rintro (h | (h | h))
            · exact ⟨.inl h, hpD q h⟩
            · exact ⟨.inr (.inl h), fun e => hEJ.2.1.2.2 q h p (.head _) (by rw [e])⟩
            · exact ⟨.inr (.inr (.inr h)), fun e => hEJ.2.1.2.1.1 q h (by rw [e])⟩
          · rintro ⟨h | (h | h | h), hne⟩
            · exact .inl h
            · exact .inr (.inl h)
            · exact absurd h hne
            · exact .inr (.inr h)

theorem run_append : ∀ {x y : List Item} {e : Env} {h : AHeap} {r : Env × AHeap}, runItems M call (x ++ y) e h = some r → ∃ e1 h1, runItems M call x e h = some (e1, h1) ∧ runItems M call y e1 h1 = some r
  | [], y, e, h, r, hr => ⟨e, h, rfl, hr⟩
  | .op o :: x, y, e, h, r, hr => by
    simp only [List.cons_append, runItems] at hr ⊢
    split at hr
    · rename_i hw
      split at hr
      · rename_i v h1 hs
        simp only [hw, if_true, hs]
        exact run_append hr
      · cases hr
    · rename_i hw
      simp only [hw, if_false, Bool.false_eq_true]
      exact run_append hr
  | .chk o :: x, y, e, h, r, hr => by
    simp only [List.cons_append, runItems] at hr ⊢
    split at hr
    · rename_i hw
      split at hr
      · rename_i v h2 d hs hd
        split at hr
        · rename_i hb
          simp only [hw, if_true, hs, hd, hb]
          exact run_append hr
        · cases hr
      · cases hr
    · rename_i hw
      simp only [hw, if_false, Bool.false_eq_true]
      exact run_append hr

theorem litOk_spec (h : litOk F I = true) : ∃ sk m q0, (∀ p ∈ I, litOf sk m p = true) ∧ keysOff sk I = true ∧ q0 ∈ F ∧ litMade m I q0 = true := by
  unfold litOk at h
  split at h
  · split at h
    · rename_i sk m k0 v0 hop0
      simp only [Bool.and_eq_true, List.all_eq_true, List.any_eq_true] at h
      obtain ⟨⟨d1, d2⟩, q0, d3, d4⟩ := h
      exact ⟨sk, m, q0, d1, d2, d3, d4⟩
    · cases h
  · cases h

theorem filter_len : ∀ (c : List PO), (c.filter fun p => !isLit p).length + (c.filter fun p => isLit p).length = c.length
  | [] => rfl
  | x :: r => by
    have := filter_len r
    simp only [List.filter_cons]
    cases isLit x <;> simp at * <;> omega

/-- what a plan for an order that is drawn is worth, in a program under 'wide' -/
theorem drawAny (hM : ∀ t n r, M t n = some r → methOf P t n = some r) (hcall : CallOK G P call) (n : Nat) (ops : Array Oper) (l : List AOper) (items : List Item) (loc : Loc) (h h' : AHeap) (w : World) (e e' : Env) (a : Act) (Q : Exit → Act → World → Prop)
    (hl : copers G P ops.toList n ops.toList = some l) (hi : drawItems ops.toList l = some items) (hrun : runItems M call items e h = some (e', h')) (hg : Globs G loc) (s : Sim loc h w) (he : EnvRep loc n e a.tmps)
    (hk : ∀ loc' a' w', Step loc h w loc' h' w' → Sim loc' h' w' → EnvRep loc' n e' a'.tmps → a'.defers = a.defers → Q .normal a' w') :
    wpAny P .any ops Q ops.size (Array.replicate ops.size false) a { w with drawn := w.drawn + 1 } := by
  obtain ⟨as, c, hv, hmem, hlen, hor⟩ := drawItems_spec hl hi
  have hs0 : Sim loc h { w with drawn := w.drawn + 1 } := s.of_heap rfl
  have ht0 : Step loc h w loc h { w with drawn := w.drawn + 1 } := Step.of_heap rfl rfl rfl
  have hlist : ∀ {S : List PO}, (∀ q ∈ c, q ∈ S) → (∀ q ∈ S, q ∈ c) → ∀ i, (Array.replicate ops.size false).getD i true = false ↔ ∃ p, p ∈ S ∧ p.i = i := by
    intro S h1 h2 i
    constructor
    · intro hh
      have hlt : i < ops.size := by
        rcases Nat.lt_or_ge i ops.size with hlt | hge
        · exact hlt
        · rw [Array.getD_eq_getD_getElem?, Array.getElem?_eq_none (by simpa using hge)] at hh; cases hh
      obtain ⟨p, hpm, hpi⟩ := hv.cover i hlt
      exact ⟨p, h1 p hpm, hpi⟩
    · rintro ⟨p, hpm, rfl⟩
      obtain ⟨o, ho, -⟩ := hmem p (h2 p hpm)
      have hlt : p.i < ops.size := (Array.getElem?_eq_some_iff.1 ho).1
      rw [Array.getD_eq_getD_getElem?]
      simp [hlt]
  rcases hor with ⟨hch, rfl⟩ | hlit
  · have hp : Plan G P n ops as c := ⟨(chainOk_spec hch).1, (chainOk_spec hch).2, hmem⟩
    refine draw_any (e0 := e) (es := e') (h0 := h) (hs := h') (loc0 := loc) (w0 := w) (a0 := a) hM hcall hp hv hg (fun b l e => (s.dom b l e).1) hk ops.size (X := []) (D := []) (C := c) (rs := []) (e := e) (h := h) (ec := e) (loc := loc)
      ⟨by simp, by simp, hp.chain, by simp, hrun, by simp, ⟨fun t ⟨q, hq, _⟩ => by simp at hq, fun _ _ => rfl⟩, ⟨fun t ⟨q, hq, _⟩ => by simp at hq, fun _ _ => rfl⟩, he, hs0, ht0, rfl, by simp, by simp, by simp, by simp⟩ (by simp) ?_ (by simp [hlen])
    intro i
    rw [hlist (S := c) (fun _ h => h) (fun _ h => h) i]
    simp
  · unfold litItems at hlit
    dsimp only at hlit
    split at hlit
    case isFalse => cases hlit
    rename_i hh
    simp only [Bool.and_eq_true, List.all_eq_true, Bool.not_eq_true', Bool.or_eq_true] at hh
    obtain ⟨⟨⟨⟨c1, c2⟩, c3⟩, c4⟩, c5⟩ := hh
    simp only [Option.some.injEq] at hlit
    subst hlit
    generalize hFd : (c.filter fun p => !isLit p) = F at *
    generalize hId : (c.filter fun p => isLit p) = I at *
    have hId' : c.filter isLit = I := hId
    have hcF : ∀ q ∈ F, q ∈ c := fun q hq => by rw [← hFd] at hq; exact (List.mem_filter.1 hq).1
    have hcI : ∀ q ∈ I, q ∈ c := fun q hq => by rw [← hId] at hq; exact (List.mem_filter.1 hq).1
    have hall : ∀ q ∈ c, q ∈ F ∨ q ∈ I := fun q hq => by
      cases hb : isLit q with
      | true => right; rw [← hId]; exact List.mem_filter.2 ⟨hq, hb⟩
      | false => left; rw [← hFd]; exact List.mem_filter.2 ⟨hq, by rw [hb]; rfl⟩
    obtain ⟨sk, m, q0, d1, d2, d3, d4⟩ := litOk_spec c3
    have hp : Plan G P n ops as F := ⟨(chainOk_spec c1).1, (chainOk_spec c1).2, fun p hpm => hmem p (hcF p hpm)⟩
    obtain ⟨es, hF, hr1, hr2⟩ := run_append hrun
    have hd0 : ∀ b l, loc b = some l → b < h.n := fun b l e => (s.dom b l e).1
    have v0 : Inv G P n M call F e es h hF loc w a [] [] F [] e h e loc { w with drawn := w.drawn + 1 } a :=
      ⟨by simp, by simp, hp.chain, by simp, hr1, by simp, ⟨fun t ⟨q, hq, _⟩ => by simp at hq, fun _ _ => rfl⟩, ⟨fun t ⟨q, hq, _⟩ => by simp at hq, fun _ _ => rfl⟩, he, hs0, ht0, rfl, by simp, by simp, by simp, by simp⟩
    obtain ⟨D, rs, v, hDm⟩ := v0.told hp (fun p hpm => (c2 p hpm).1)
    have hDm : ∀ q, q ∈ D ↔ q ∈ F := fun q => by simpa using hDm q
    have hmade := litMade_spec d4
    obtain ⟨bm, ⟨t, ht, hest⟩, b2, b3, b4, b5⟩ := v.blks q0 ((hDm q0).2 d3) hmade.1
    rw [hmade.2.2.1] at ht; cases ht
    rw [hmade.2.1] at hest b5
    have hlitI : ∀ p ∈ I, litOf sk m p = true ∧ isLit p = true := fun p hpm => by
      refine ⟨d1 p hpm, ?_⟩
      rw [← hId] at hpm
      exact (List.mem_filter.1 hpm).2
    have hkeys := keysOff_spec d2
    obtain ⟨l1, l2, l3, l4⟩ := lits_run hlitI hkeys (by simp) hest b5 hr2
    simp only at l1 l2 l3 l4
    subst l1
    refine lit_any (q0 := q0) (c := c) (sk := sk) (m := m) (bm := bm) (hF := hF) hM hcall hp hv hcF hcI hmem (fun p hpm => by have := c2 p hpm; exact ⟨this.1, this.2⟩) hlitI hkeys d3 d4 (idsOk_spec c4) (fun i hi q hq => c5 i hi q hq) hest hg hd0 ?_ ops.size (E := []) (J := I) v (by simp) rfl (fun _ _ => rfl) b5 (by simp) ?_ ?_ ?_
    · intro loc' a' w' h2 E g1 g2 g3 g4 g5 g6 g7 g8
      have hpm : (E.map (entOf e')).Perm (I.map (entOf e')) := g5.map _
      refine hk loc' a' w' (step_permute g1 (by rw [l2, g6]) b3 (fun b hb => by rw [l3 b hb, g7 b hb])) (sim_permute g2 (by rw [l2, g6]) (fun b hb => by rw [l3 b hb, g7 b hb]) g8 (by simpa using l4) hpm) g3 g4
    · intro i
      rw [hlist (S := F ++ I) (fun q hq => by simpa using hall q hq) (fun q hq => by rcases List.mem_append.1 hq with h | h; exact hcF q h; exact hcI q h) i]
      simp [hDm]
    · intro j hj
      rw [Array.getD_eq_getD_getElem?] at hj
      rcases Nat.lt_or_ge j ops.size with hlt | hge
      · simp [hlt] at hj
      · rw [Array.getElem?_eq_none (by simpa using hge)] at hj; cases hj
    · have h1 : D.length = F.length := by have := v.perm.length_eq; simpa using this
      have h2 : F.length + I.length = c.length := by
        rw [← hFd, ← hId]
        exact filter_len c
      rw [h1, h2, hlen]; exact Nat.le_refl _

theorem drawOK (hmx : P.follows .mixedOrders = true) (hM : ∀ t n r, M t n = some r → methOf P t n = some r) (hcall : CallOK G P call) : DrawOK G P M call := by
  intro n id ops l items loc h h' w e e' a Q hl hi hrun hg s he hk
  exact wp_region_any hmx (drawAny hM hcall n ops l items loc h h' w e e' a Q hl hi hrun hg s he hk)
end
end Go.Ai

