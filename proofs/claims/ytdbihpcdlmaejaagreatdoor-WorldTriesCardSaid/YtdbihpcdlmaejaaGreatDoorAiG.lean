/- An evaluator for the model's code, proved sound: part AiG. Not of one program: lemmas for the claim. -/
import Derived.Test.YtdbihpcdlmaejaaGreatDoorAiF
import Derived.Laws.LoneSync
import Derived.Lib.Bytealg
import Derived.RangeFuncRecord
import Derived.Tactics
import Derived.IntWalk
import Derived.Below
import Derived.Lib.Join
import Derived.Lib.SlKeysI
import Derived.Maps.Own
/- Functions that stand for themselves: the library's entries without a body. -/
set_option linter.unusedSimpArgs false
set_option linter.unusedVariables false
namespace Go.Ai
open Go

section
variable {G : List Nat} {P : Program} {loc : Loc} {h h' : AHeap} {w : World} {f : FuncId} {fn : Func}

/-- an entry that answers at once -/
theorem inv_value {args : Array Value} {v : Value} {w' : World} {K : Value → World → Prop} (hr : (callFunc f args).run P w = .ok (.value v) w') (hK : K v w') : InvOK P f args w K := by
  unfold InvOK; rw [hr]; exact hK

structure Ext (P : Program) (f : FuncId) (fn : Func) : Prop where
  hf : P.funcs[f]? = some fn
  hname : (fn.name == "runtime.NumGoroutine") = false
  hb : fn.body.isNone = true
  hn : Extern.findNext fn = none

def pLoad (k : IntKind) : CallT → List AVal → AHeap → Option (AVal × AHeap) := fun _ as h =>
  match as with
  | [.ptr b o] => match loadN h b o 1 with
    | some [.int k' n] => if k' = k then some (.int k' n, h) else none
    | _ => none
  | _ => none

def pCas (k : IntKind) : CallT → List AVal → AHeap → Option (AVal × AHeap) := fun _ as h =>
  match as with
  | [.ptr b o, .int k1 x, .int k2 y] => match loadN h b o 1 with
    | some [.int k3 z] => if k1 = k ∧ k2 = k ∧ k3 = k then
        match storeN h b o [.int k y] with
        | some h' => if z = x then some (.bool true, h') else some (.bool false, h)
        | none => none
      else none
    | _ => none
  | _ => none

def idxB (c : UInt8) : List UInt8 → Nat → Int
  | [], _ => -1
  | x :: r, i => if x == c then i else idxB c r (i + 1)

def cntB (c : UInt8) : List UInt8 → Nat → Nat
  | [], n => n
  | x :: r, n => cntB c r (if x == c then n + 1 else n)

def pIdx : CallT → List AVal → AHeap → Option (AVal × AHeap) := fun _ as h =>
  match as with
  | [.str s, .int .u8 c] => some (.int .i64 (idxB (UInt8.ofNat c.toNat) s 0), h)
  | _ => none

def pCnt : CallT → List AVal → AHeap → Option (AVal × AHeap) := fun _ as h =>
  match as with
  | [.str s, .int .u8 c] => some (goI (cntB (UInt8.ofNat c.toNat) s 0), h)
  | _ => none

theorem cell_facts (s : Sim loc h w) {b off ez : Nat} {l : L} {vs : List AVal} (hl : loc b = some l) (hg : h.get b = some (.cells ez false vs)) (hlt : off < vs.length) : w.frozen? ⟨l.cb, l.base + off, none⟩ = false := by
  obtain ⟨C, ty, fz, hC, r1, r2, r3, r4, r5⟩ := s.cells hl hg
  have := (r5 rfl).2
  simp only [World.frozen?, hC, Bool.and_eq_false_iff, decide_eq_false_iff_not]
  rcases this with h | h
  · rcases Nat.lt_or_ge (l.base + off) fz.1 with h2 | h2
    · left; omega
    · right; omega
  · left; omega

theorem load1 (s : Sim loc h w) {b off : Nat} {l : L} {k : IntKind} {n : Int} (hl : loc b = some l) (hn : loadN h b off 1 = some [.int k n]) : w.cell? ⟨l.cb, l.base + off, none⟩ = some (.int k n) := by
  obtain ⟨cs', hr, hlen, hc⟩ := s.load hl hn
  cases hr with
  | cons v v' r r' hv hr =>
    cases hv
    have := hc 0 (.int k n) rfl
    simpa using this

theorem load_ok (x : Ext P f fn) {k : IntKind} (he : Extern.find fn = some (Extern.Atomic.loadT (.int k))) : PrimOK G P f (pLoad k) := by
  intro call hcall args h v h' hp loc w args' hg ha s
  unfold pLoad at hp
  split at hp
  · rename_i b o
    split at hp
    · rename_i k' n hl
      split at hp
      · rename_i hk
        subst hk
        simp only [Option.some.injEq, Prod.mk.injEq] at hp
        obtain ⟨rfl, rfl⟩ := hp
        cases ha with
        | cons a a' r r' h1 h2 =>
          cases h2
          cases h1 with
          | ptr _ _ l hloc =>
            exact inv_value (run_call_load x.hf x.hname x.hb x.hn _ he (load1 s hloc hl)) ⟨loc, Step.refl .., s, .int ..⟩
      · cases hp
    · cases hp
  · cases hp

theorem cas_ok (x : Ext P f fn) {k : IntKind} (he : Extern.find fn = some (Extern.Atomic.casT (.int k))) : PrimOK G P f (pCas k) := by
  intro call hcall args h v h' hp loc w args' hg ha s
  unfold pCas at hp
  split at hp
  case h_2 => cases hp
  rename_i b o k1 u k2 y
  split at hp
  case h_2 => cases hp
  rename_i k3 z hl
  split at hp
  case isFalse => cases hp
  rename_i hk
  obtain ⟨rfl, rfl, rfl⟩ := hk
  split at hp
  case h_2 => cases hp
  rename_i h1 hst
  cases ha with
  | cons a a' r r' g1 g2 =>
    cases g2 with
    | cons a2 a2' r r' g2 g3 =>
      cases g3 with
      | cons a3 a3' r r' g3 g4 =>
        cases g4; cases g2; cases g3
        cases g1 with
        | ptr _ _ l hloc =>
          have hc := load1 s hloc hl
          obtain ⟨ez, vs, hgb, hle, hf, hh⟩ := storeN_spec hst
          have hz := cell_facts s (off := o) hloc hgb (by simp at hle; omega)
          split at hp
          · rename_i hzu
            subst hzu
            simp only [Option.some.injEq, Prod.mk.injEq] at hp
            obtain ⟨rfl, rfl⟩ := hp
            obtain ⟨w', hrun, s1, t1⟩ := store_sim (P := P) s hloc hst (.cons _ _ _ _ (Rep.int _ y) .nil)
            have hw' : w' = w.setCell ⟨l.cb, l.base + o, none⟩ (.int k3 y) := by
              have ha0 : Addr.add ⟨l.cb, l.base + o, none⟩ 0 = ⟨l.cb, l.base + o, none⟩ := rfl
              have hst2 : (store ⟨l.cb, l.base + o, none⟩ (.int k3 y)).run P w = .ok () (w.setCell ⟨l.cb, l.base + o, none⟩ (.int k3 y)) := by
                rw [run_store P w _ _ _ rfl, hc]; simp [hz]
              simp only [storeCells, ha0, Sem.run_bind, hst2, Result.andThen_ok] at hrun
              exact (Result.ok.inj hrun).2.symm
            subst hw'
            exact inv_value (run_call_cas_hit x.hf x.hname x.hb x.hn _ he hc hz) ⟨loc, t1, s1, .bool _⟩
          · rename_i hzu
            simp only [Option.some.injEq, Prod.mk.injEq] at hp
            obtain ⟨rfl, rfl⟩ := hp
            exact inv_value (run_call_cas_miss x.hf x.hname x.hb x.hn _ he hc hz hzu) ⟨loc, Step.refl .., s, .bool _⟩

theorem idxB_spec (c : UInt8) : ∀ (s : List UInt8) (k : Nat), idxB c s k = if Lib.indexByte s c = -1 then -1 else Lib.indexByte s c + k
  | [], k => by simp [idxB, Lib.indexByte]
  | x :: r, k => by
    have ih := idxB_spec c r (k + 1)
    have hge := Lib.indexByte_ge r c
    rw [idxB, Lib.indexByte]
    by_cases hx : (x == c) = true
    · simp [hx]
    · simp only [hx, if_false, Bool.false_eq_true]
      rw [ih]
      by_cases hr : Lib.indexByte r c = -1
      · simp [hr]
      · have hr2 : (Lib.indexByte r c == -1) = false := by simpa using hr
        have hr3 : ¬ Lib.indexByte r c + 1 = -1 := by omega
        simp only [hr, hr2, hr3, if_false, Bool.false_eq_true]
        omega

theorem cntB_spec (c : UInt8) : ∀ (s : List UInt8) (k : Nat), cntB c s k = k + Lib.countByte s c
  | [], k => by simp [cntB, Lib.countByte]
  | x :: r, k => by
    rw [cntB, cntB_spec c r]
    unfold Lib.countByte
    rw [List.count_cons]
    split <;> omega

theorem idx_ok (x : Ext P f fn) (he : Extern.find fn = some Extern.BytealgIndexByte.indexByte) : PrimOK G P f pIdx := by
  intro call hcall args h v h' hp loc w args' hg ha s
  unfold pIdx at hp
  split at hp
  case h_2 => cases hp
  rename_i st c
  simp only [Option.some.injEq, Prod.mk.injEq] at hp
  obtain ⟨rfl, rfl⟩ := hp
  cases ha with
  | cons a a' r r' g1 g2 =>
    cases g2 with
    | cons a2 a2' r r' g2 g3 =>
      cases g3; cases g1; cases g2
      have hr : (callFunc f #[.string ⟨st.toArray⟩, .int .u8 c]).run P w = .ok (.value (.int .i64 (Lib.indexByte st c.toNat.toUInt8))) w := by
        rw [run_callFunc_extern x.hf x.hname x.hb x.hn he, Lib.run_indexByteString]; rfl
      refine inv_value hr ⟨loc, Step.refl .., s, ?_⟩
      have : Lib.indexByte st c.toNat.toUInt8 = idxB (UInt8.ofNat c.toNat) st 0 := by
        rw [idxB_spec]
        show Lib.indexByte st (UInt8.ofNat c.toNat) = _
        split
        · assumption
        · simp
      rw [this]
      exact .int ..

theorem cnt_ok (x : Ext P f fn) (he : Extern.find fn = some Extern.BytealgCount.count) : PrimOK G P f pCnt := by
  intro call hcall args h v h' hp loc w args' hg ha s
  unfold pCnt at hp
  split at hp
  case h_2 => cases hp
  rename_i st c
  simp only [Option.some.injEq, Prod.mk.injEq] at hp
  obtain ⟨rfl, rfl⟩ := hp
  cases ha with
  | cons a a' r r' g1 g2 =>
    cases g2 with
    | cons a2 a2' r r' g2 g3 =>
      cases g3; cases g1; cases g2
      have hr : (callFunc f #[.string ⟨st.toArray⟩, .int .u8 c]).run P w = .ok (.value (.int .i64 (Lib.countByte st c.toNat.toUInt8))) w := by
        rw [run_callFunc_extern x.hf x.hname x.hb x.hn he, Lib.run_countString]; rfl
      refine inv_value hr ⟨loc, Step.refl .., s, ?_⟩
      have : cntB (UInt8.ofNat c.toNat) st 0 = Lib.countByte st c.toNat.toUInt8 := by
        rw [cntB_spec, Nat.zero_add]
      rw [this]
      exact .int ..
end
end Go.Ai

/- Code within a round of a range over a function. -/
set_option linter.unusedSimpArgs false
set_option linter.unusedVariables false
namespace Go.Ai
open Go

/-- a fence that asks nothing, outside of rounds or within one -/
def Wide (F : Fence) : Prop := F = Fence.wide ∨ ∃ l, F = Fence.wide.inRound l

theorem Wide.fn {F : Fence} (h : Wide F) (g : FuncId) : F.fn g := by
  rcases h with rfl | ⟨l, rfl⟩ <;> trivial

theorem Wide.room {F : Fence} (h : Wide F) (k : Nat) : F.room k := by
  rcases h with rfl | ⟨l, rfl⟩ <;> exact room_wide k

theorem Wide.depth {F : Fence} (h : Wide F) : F.depth.isSome = true → False := by
  rcases h with rfl | ⟨l, rfl⟩ <;> (intro e; cases e)

theorem Wide.calls {F : Fence} (h : Wide F) {n : Nat} {P : Program} {f : FuncId} {args : Array Value} {w : World} {R : Ending → World → Prop} (hc : Calls P f args w R) : CallsIn F n P f args w R := by
  have : CallsIn Fence.wide n P f args w R := callsIn_wide.2 hc
  rcases h with rfl | ⟨l, rfl⟩
  · exact this
  · exact this

theorem Wide.fenced {F : Fence} (h : Wide F) (P : Program) : Machine.fenced P F = Machine.fenced P Fence.wide := by
  rcases h with rfl | ⟨l, rfl⟩ <;> rfl

theorem Wide.rows {F : Fence} (h : Wide F) {n : Nat} {P : Program} {row : String} {args : Array Value} {w : World} {R : Value → World → Prop} (hc : Rows P row args w R) : RowsIn F n P row args w R := by
  intro c cs _
  obtain ⟨v, w', hr, hs⟩ := hc c cs
  rw [h.fenced]
  exact ⟨v, w', hr, stepsIn_wide.2 hs⟩

section
variable {G : List Nat} {P : Program} {n : Nat} {M : Meth} {call : CallT} {F : Fence} {ops : Array Oper} {Q : Exit → Act → World → Prop}

theorem opsIn (hF : Wide F) (hnd : ∀ o ∈ ops, ∀ c, o.op ≠ .defer c) (hno : ¬ LetsOut Q) : ∀ (L : List Nat) (a : Act) (w : World), wpOps P ops Q L a w → wpOpsIn F n P ops Q L a w
  | [], a, w, h => h
  | i :: L, a, w, h => by
    simp only [wpOps, wpOpsIn] at h ⊢
    cases ho : ops[i]? with
    | none => simp only [ho] at h ⊢; exact opsIn hF hnd hno L a w h
    | some o =>
      simp only [ho] at h ⊢
      have hom : o ∈ ops := Array.mem_of_getElem? ho
      split
      · rename_i hw
        rw [if_pos hw] at h
        rcases h with h | ⟨-, h⟩
        · refine ⟨fun f _ => hF.fn f, ?_⟩
          rw [Oper.semAt_eq _ _ _ (hnd o hom)]
          unfold Oper.wp at h
          generalize (execOp a.eval o).run P w = r at h ⊢
          cases r with
          | ok nx w' =>
            cases nx <;> simp only [Oper.upon, Oper.uponIn] at h ⊢
            case value v => exact opsIn hF hnd hno L _ _ h
            case skip => exact opsIn hF hnd hno L _ _ h
            case defer d => exact opsIn hF hnd hno L _ _ h
            case enter f args =>
              refine ⟨fun e => (hF.depth e).elim, hF.calls (Calls.mono h ?_)⟩
              intro e w'' he
              cases e with
              | returned v => exact opsIn hF hnd hno L _ _ he
              | panicked c => exact he
              | outgrown => exact he
            case row row args =>
              refine ⟨fun e => (hF.depth e).elim, hF.rows (Rows.mono h ?_)⟩
              intro v w'' he
              exact opsIn hF hnd hno L _ _ he
          | halt x w' => cases x <;> simp only [Oper.upon, Oper.uponIn] at h ⊢; exact h
        · exact absurd h hno
      · rename_i hw
        rw [if_neg hw] at h
        exact ⟨fun f _ => hF.fn f, opsIn hF hnd hno L _ _ h⟩


/-- no statement 'defer' in it -/
def noDefer : Code → Bool
  | .region _ ops _ => ops.toList.all fun o => match o.op with | .defer _ => false | _ => true
  | .seq a b => noDefer a && noDefer b
  | .cond _ a b => noDefer a && noDefer b
  | .block _ c => noDefer c
  | .loop c => noDefer c
  | _ => true

theorem noDefer_ops (h : (ops.toList.all fun o => match o.op with | .defer _ => false | _ => true) = true) : ∀ o ∈ ops, ∀ c, o.op ≠ .defer c := by
  intro o ho c hc
  rw [List.all_eq_true] at h
  have := h o (by simpa using ho)
  rw [hc] at this; cases this

/-- what a piece of code comes to, within a round too -/
def CodeIn (F : Fence) (k : Nat) (G : List Nat) (P : Program) (n : Nat) (c : Code) (f : Env → AHeap → Option (Ex × Env × AHeap)) : Prop :=
  ∀ (e : Env) (h : AHeap) (ex : Ex) (e' : Env) (h' : AHeap), f e h = some (ex, e', h') → ∀ (loc : Loc) (w : World) (a : Act) (Q : Exit → Act → World → Prop), ¬ LetsOut Q → Globs G loc → Sim loc h w → EnvRep loc n e a.tmps →
    (∀ loc' a' w', Step loc h w loc' h' w' → Sim loc' h' w' → EnvRep loc' n e' a'.tmps → a'.defers = a.defers → Q (exOf ex) a' w') → c.wpIn F k P Q a w

def LoopIn (F : Fence) (n : Nat) (P : Program) (c : Code) (Q : Exit → Act → World → Prop) (a : Act) (w : World) : Prop :=
  ∀ (b : Frame) (k : List Go.Item) (cs : List Frame), b.roundOf = F.round → F.fn b.fn → F.room (cs.length + 1 + n) →
    ∃ e a' w', Q e a' w' ∧ ArrivesIn (Machine.fenced P F) P (lone (b.atR a (.code c :: .inLoop c :: k)) cs w) b k cs e a' w'

theorem LoopIn.loop {c : Code} {a : Act} {w : World} {k : Nat} (hl : LoopIn F k P c Q a w) : (Code.loop c).wpIn F k P Q a w := fun b ks cs hro hb hr =>
  let ⟨e, a', w', hq, harr⟩ := hl b ks cs hro hb hr
  ⟨e, a', w', hq, .of_steps (.one (fenced_calm hb hr rfl) stepR_loop) harr⟩

theorem LoopIn.round {c : Code} {a : Act} {w : World} {k : Nat} (hc : c.wpIn F k P (Exit.then (LoopIn F k P c Q) Q) a w) : LoopIn F k P c Q a w := by
  intro b ks cs hro hb hr
  obtain ⟨e, a₁, w₁, hq, harr⟩ := hc b (.inLoop c :: ks) cs hro hb hr
  cases e with
  | normal =>
    obtain ⟨e₂, a₂, w₂, hq₂, harr₂⟩ := hq b ks cs hro hb hr
    exact ⟨e₂, a₂, w₂, hq₂, .of_steps (StepsIn.trans harr (.one (fenced_calm hb hr rfl) stepR_inLoop)) harr₂⟩
  | exit id => exact ⟨_, a₁, w₁, hq, .pass (x := .inLoop c) rfl (fun _ _ => .inl (by simp)) harr⟩
  | goto l => exact ⟨_, a₁, w₁, hq, .pass (x := .inLoop c) rfl (fun _ _ => .inl (by simp)) harr⟩
  | ret => exact ⟨_, a₁, w₁, hq, .pass (x := .inLoop c) rfl (fun _ _ => .inl (by simp)) harr⟩
  | panic ch => exact ⟨_, a₁, w₁, hq, .pass (x := .inLoop c) rfl (fun _ _ => .inl (by simp)) harr⟩
  | outgrown => exact ⟨_, a₁, w₁, hq, .pass (x := .inLoop c) rfl (fun _ _ => .inl (by simp)) harr⟩

theorem noLet_then {K : Act → World → Prop} (h : ¬ LetsOut Q) : ¬ LetsOut (Exit.then K Q) := h

theorem noLet_block {id : Nat} (h : ¬ LetsOut Q) : ¬ LetsOut (Exit.inBlock id Q) := h
end
end Go.Ai

/- Code within a round of a range over a function: what the evaluator computes. -/
set_option linter.unusedSimpArgs false
set_option linter.unusedVariables false
namespace Go.Ai
open Go

section
variable {G : List Nat} {P : Program} {n k : Nat} {M : Meth} {call : CallT} {F : Fence} {ops : Array Oper} {Q : Exit → Act → World → Prop}

theorem iterIn_ok {c : Code} {f : Env → AHeap → Option (Ex × Env × AHeap)} (hf : CodeIn F k G P n c f) : ∀ (j : Nat) (e : Env) (h : AHeap) (ex : Ex) (e' : Env) (h' : AHeap), iter f j e h = some (ex, e', h') → ∀ (loc : Loc) (w : World) (a : Act) (Q : Exit → Act → World → Prop), ¬ LetsOut Q → Globs G loc → Sim loc h w → EnvRep loc n e a.tmps →
    (∀ loc' a' w', Step loc h w loc' h' w' → Sim loc' h' w' → EnvRep loc' n e' a'.tmps → a'.defers = a.defers → Q (exOf ex) a' w') → LoopIn F k P c Q a w
  | 0, e, h, ex, e', h', hr, _, _, _, _, _, _, _, _, _ => by simp [iter] at hr
  | j + 1, e, h, ex, e', h', hr, loc, w, a, Q, hq, hg, s, he, hk => by
    simp only [iter] at hr
    refine LoopIn.round ?_
    split at hr
    · rename_i e1 h1 hb
      refine hf e h .nrm e1 h1 hb loc w a _ (noLet_then hq) hg s he ?_
      intro loc1 a1 w1 t1 s1 r1 d1
      refine iterIn_ok hf j e1 h1 ex e' h' hr loc1 w1 a1 Q hq (hg.mono t1.le) s1 r1 ?_
      intro loc2 a2 w2 t2 s2 r2 d2
      exact hk loc2 a2 w2 (t1.trans t2 (fun b l e => (s.dom b l e).1)) s2 r2 (d2.trans d1)
    · rename_i hne
      cases hb : f e h with
      | none => rw [hb] at hr; cases hr
      | some r =>
        obtain ⟨ex0, e0, h0⟩ := r
        rw [hb] at hr
        simp only [Option.some.injEq, Prod.mk.injEq] at hr
        obtain ⟨rfl, rfl, rfl⟩ := hr
        refine hf e h ex0 e0 h0 hb loc w a _ (noLet_then hq) hg s he ?_
        intro loc1 a1 w1 t1 s1 r1 d1
        have := hk loc1 a1 w1 t1 s1 r1 d1
        cases ex0 with
        | nrm => exact absurd hb (hne _ _)
        | out id => exact this
        | ret => exact this

theorem execIn_ok (hF : Wide F) (hmx : P.follows .mixedOrders = true) (hM : ∀ t n r, M t n = some r → methOf P t n = some r) (hcall : CallOK G P call) (j : Nat) : ∀ {c : Code} {ac : ACode}, noDefer c = true → ccode G P n c = some ac → CodeIn F k G P n c (exec M call j ac)
  | .skip, ac, _, hc => by
    simp only [ccode, Option.some.injEq] at hc; subst hc
    intro e h ex e' h' hr loc w a Q hq hg s he hk
    simp only [exec, Option.some.injEq, Prod.mk.injEq] at hr
    obtain ⟨rfl, rfl, rfl⟩ := hr
    exact wpIn_skip (hk loc a w (Step.refl ..) s he rfl)
  | .region id ops draw, ac, hnd, hc => by
    simp only [noDefer] at hnd
    have hnd := noDefer_ops hnd
    simp only [ccode] at hc
    split at hc
    case h_2 => cases hc
    rename_i l hl
    split at hc
    · rename_i hd
      subst hd
      obtain ⟨items, hi, rfl⟩ := map_pair hc
      intro e h ex e' h' hr loc w a Q hq hg s he hk
      simp only [exec] at hr
      split at hr
      · rename_i e1 h1 hrun
        simp only [Option.some.injEq, Prod.mk.injEq] at hr
        obtain ⟨rfl, rfl, rfl⟩ := hr
        have hany := drawAny hM hcall n ops l items loc h h1 w e e1 a Q hl hi hrun hg s he hk
        refine wpIn_region_draw fun t => ?_
        simp only [Region.schedule, hmx, Bool.true_or, if_true]
        exact opsIn hF hnd hq _ _ _ (wpAny_sound ops.size t _ a _ hany)
      · cases hr
    · rename_i hd
      have hd : draw = false := by simpa using hd
      subst hd
      simp only [Option.some.injEq] at hc; subst hc
      intro e h ex e' h' hr loc w a Q hq hg s he hk
      simp only [exec] at hr
      split at hr
      · rename_i e1 h1 hrun
        simp only [Option.some.injEq, Prod.mk.injEq] at hr
        obtain ⟨rfl, rfl, rfl⟩ := hr
        have hls := items_sound (Q := Q) hM hcall hl hrun hg s he hk
        refine wpIn_region (opsIn hF hnd hq _ _ _ ?_)
        rw [List.range_eq_range', ← Array.length_toList, wpOps_eq_wpList ops.toList 0 (by simp)]
        exact hls
      · cases hr
  | .seq x y, ac, hnd, hc => by
    simp only [noDefer, Bool.and_eq_true] at hnd
    simp only [ccode] at hc
    split at hc
    case h_2 => cases hc
    rename_i x' y' hx hy
    simp only [Option.some.injEq] at hc; subst hc
    have ix := execIn_ok hF hmx hM hcall j hnd.1 hx
    have iy := execIn_ok hF hmx hM hcall j hnd.2 hy
    intro e h ex e' h' hr loc w a Q hq hg s he hk
    simp only [exec] at hr
    refine wpIn_seq ?_
    split at hr
    · rename_i e1 h1 hb
      refine ix e h .nrm e1 h1 hb loc w a _ (noLet_then hq) hg s he ?_
      intro loc1 a1 w1 t1 s1 r1 d1
      refine iy e1 h1 ex e' h' hr loc1 w1 a1 Q hq (hg.mono t1.le) s1 r1 ?_
      intro loc2 a2 w2 t2 s2 r2 d2
      exact hk loc2 a2 w2 (t1.trans t2 (fun b l e => (s.dom b l e).1)) s2 r2 (d2.trans d1)
    · rename_i hne
      refine ix e h ex e' h' hr loc w a _ (noLet_then hq) hg s he ?_
      intro loc1 a1 w1 t1 s1 r1 d1
      have := hk loc1 a1 w1 t1 s1 r1 d1
      cases ex with
      | nrm => exact absurd hr (hne _ _)
      | out id => exact this
      | ret => exact this
  | .cond c x y, ac, hnd, hc => by
    simp only [noDefer, Bool.and_eq_true] at hnd
    simp only [ccode] at hc
    split at hc
    case h_2 => cases hc
    rename_i c' x' y' hcc hx hy
    simp only [Option.some.injEq] at hc; subst hc
    have ix := execIn_ok hF hmx hM hcall j hnd.1 hx
    have iy := execIn_ok hF hmx hM hcall j hnd.2 hy
    intro e h ex e' h' hr loc w a Q hq hg s he hk
    simp only [exec] at hr
    have rc := copr_rep (a := a) hcc hg (he.at _)
    split at hr
    · rename_i hb
      rw [hb] at rc
      generalize hX : a.eval c = X at rc
      cases rc
      exact wpIn_cond hX (ix e h ex e' h' hr loc w a Q hq hg s he hk)
    · rename_i hb
      rw [hb] at rc
      generalize hX : a.eval c = X at rc
      cases rc
      exact wpIn_cond hX (iy e h ex e' h' hr loc w a Q hq hg s he hk)
    · cases hr
  | .block id c, ac, hnd, hc => by
    simp only [noDefer] at hnd
    simp only [ccode] at hc
    obtain ⟨c', hcc, rfl⟩ := map_pair hc
    have ic := execIn_ok hF hmx hM hcall j hnd hcc
    intro e h ex e' h' hr loc w a Q hq hg s he hk
    simp only [exec] at hr
    refine wpIn_block ?_
    split at hr
    · rename_i i e1 h1 hb
      refine ic e h (.out i) e1 h1 hb loc w a _ (noLet_block hq) hg s he ?_
      intro loc1 a1 w1 t1 s1 r1 d1
      split at hr
      · rename_i hi
        simp only [Option.some.injEq, Prod.mk.injEq] at hr
        obtain ⟨rfl, rfl, rfl⟩ := hr
        show (if i = id then Q .normal a1 w1 else Q (.exit i) a1 w1)
        rw [if_pos hi]
        exact hk loc1 a1 w1 t1 s1 r1 d1
      · rename_i hi
        simp only [Option.some.injEq, Prod.mk.injEq] at hr
        obtain ⟨rfl, rfl, rfl⟩ := hr
        show (if i = id then Q .normal a1 w1 else Q (.exit i) a1 w1)
        rw [if_neg hi]
        exact hk loc1 a1 w1 t1 s1 r1 d1
    · rename_i hne
      refine ic e h ex e' h' hr loc w a _ (noLet_block hq) hg s he ?_
      intro loc1 a1 w1 t1 s1 r1 d1
      have := hk loc1 a1 w1 t1 s1 r1 d1
      cases ex with
      | nrm => exact this
      | out i => exact absurd hr (hne _ _ _)
      | ret => exact this
  | .loop c, ac, hnd, hc => by
    simp only [noDefer] at hnd
    simp only [ccode] at hc
    obtain ⟨c', hcc, rfl⟩ := map_pair hc
    have ic := execIn_ok hF hmx hM hcall j hnd hcc
    intro e h ex e' h' hr loc w a Q hq hg s he hk
    simp only [exec] at hr
    exact (iterIn_ok ic j e h ex e' h' hr loc w a Q hq hg s he hk).loop
  | .exit id, ac, _, hc => by
    simp only [ccode, Option.some.injEq] at hc; subst hc
    intro e h ex e' h' hr loc w a Q hq hg s he hk
    simp only [exec, Option.some.injEq, Prod.mk.injEq] at hr
    obtain ⟨rfl, rfl, rfl⟩ := hr
    exact wpIn_exit (hk loc a w (Step.refl ..) s he rfl)
  | .ret, ac, _, hc => by
    simp only [ccode, Option.some.injEq] at hc; subst hc
    intro e h ex e' h' hr loc w a Q hq hg s he hk
    simp only [exec, Option.some.injEq, Prod.mk.injEq] at hr
    obtain ⟨rfl, rfl, rfl⟩ := hr
    exact wpIn_ret (hk loc a w (Step.refl ..) s he rfl)
  | .rangeFunc .., ac, _, hc => by
    simp only [ccode, Option.some.injEq] at hc; subst hc
    intro e h ex e' h' hr; simp [exec] at hr
  | .scope _, ac, _, hc => by
    simp only [ccode, Option.some.injEq] at hc; subst hc
    intro e h ex e' h' hr; simp [exec] at hr
  | .label _, ac, _, hc => by
    simp only [ccode, Option.some.injEq] at hc; subst hc
    intro e h ex e' h' hr; simp [exec] at hr
  | .goto _, ac, _, hc => by
    simp only [ccode, Option.some.injEq] at hc; subst hc
    intro e h ex e' h' hr; simp [exec] at hr
  | .refuse _, ac, _, hc => by
    simp only [ccode, Option.some.injEq] at hc; subst hc
    intro e h ex e' h' hr; simp [exec] at hr
end
end Go.Ai

/- A loop's record, and a round. -/
set_option linter.unusedSimpArgs false
set_option linter.unusedVariables false
namespace Go.Ai
open Go

section
variable {G : List Nat} {P : Program} {n k : Nat} {M : Meth} {call : CallT} {F : Fence} {ops : Array Oper} {Q : Exit → Act → World → Prop}
variable {loc loc0 loc' : Loc} {h h0 h' : AHeap} {w w0 w' : World} {e e' : Env} {a : Act}

/-- a block of the world's that is none of ours -/
def Free (loc : Loc) (w : World) (l : Nat) : Prop := l < w.heap.size ∧ ∀ b m, loc b = some m → m.cb ≠ l

theorem Free.step {l : Nat} (hf : Free loc w l) (t : Step loc h w loc' h' w') : Free loc' w' l ∧ w'.heap[l]? = w.heap[l]? := by
  obtain ⟨h1, h2⟩ := hf
  refine ⟨⟨Nat.lt_of_lt_of_le h1 t.size, ?_⟩, t.frame l h1 (fun b m hm e => absurd e (h2 b m hm))⟩
  intro b m hm
  cases e1 : loc b with
  | some m0 =>
    have := t.le b m0 e1
    rw [hm] at this; cases this
    exact h2 b m e1
  | none =>
    rcases t.fresh b m e1 hm with hl | ⟨c, m', hc, hcb, -⟩
    · omega
    · rw [← hcb]; exact h2 c m' hc

/-- such a block is turned -/
theorem Sim.putObj (s : Sim loc h w) {l : Nat} (hf : Free loc w l) (o : Obj) : Sim loc h (w.putObj l o) := by
  refine ⟨fun b m hm => by have := s.dom b m hm; exact ⟨this.1, by simpa using this.2⟩, s.top, fun b m ob hm hob => ?_, s.inj, s.zero⟩
  obtain ⟨o', h1, h2⟩ := s.obj b m ob hm hob
  exact ⟨o', by rw [World.putObj_heap_other (hf.2 b m hm)]; exact h1, h2⟩

theorem Step.putObj (t : Step loc0 h0 w0 loc h w) {l : Nat} (hl : w0.heap.size ≤ l) (o : Obj) : Step loc0 h0 w0 loc h (w.putObj l o) := by
  refine ⟨t.le, t.pend, t.n, by simpa using t.size, t.wr, t.fresh, fun cb hcb hno => ?_, t.os, t.output⟩
  rw [World.putObj_heap_other (by omega)]
  exact t.frame cb hcb hno

theorem Free.putObj {l l2 : Nat} (hf : Free loc w l) (o : Obj) : Free loc (w.putObj l2 o) l := ⟨by simpa using hf.1, hf.2⟩

/-- a block that is laid, none of ours -/
theorem Sim.allocO (s : Sim loc h w) (o : Obj) : Sim loc h (w.alloc o) ∧ Free loc (w.alloc o) w.heap.size := by
  have hsz : (w.alloc o).heap.size = w.heap.size + 1 := by simp
  refine ⟨⟨fun b m hm => by have := s.dom b m hm; exact ⟨this.1, by omega⟩, s.top, fun b m ob hm hob => ?_, s.inj, s.zero⟩, by omega, fun b m hm => by have := (s.dom b m hm).2; omega⟩
  obtain ⟨o', h1, h2⟩ := s.obj b m ob hm hob
  have hlt := (s.dom b m hm).2
  refine ⟨o', ?_, h2⟩
  show (w.heap.push o)[m.cb]? = _
  rw [Array.getElem?_push, if_neg (by omega)]; exact h1

theorem Step.allocO (t : Step loc0 h0 w0 loc h w) (o : Obj) : Step loc0 h0 w0 loc h (w.alloc o) := by
  have hsz : (w.alloc o).heap.size = w.heap.size + 1 := by simp
  refine ⟨t.le, t.pend, t.n, by have := t.size; omega, t.wr, t.fresh, fun cb hcb hno => ?_, t.os, t.output⟩
  have := t.size
  show (w.heap.push o)[cb]? = _
  rw [Array.getElem?_push, if_neg (by omega)]; exact t.frame cb hcb hno

theorem Free.allocO {l : Nat} (hf : Free loc w l) (o : Obj) : Free loc (w.alloc o) l := ⟨by have : (w.alloc o).heap.size = w.heap.size + 1 := by simp
                                                                                            have := hf.1; omega, hf.2⟩

/-- one operation, within a round too -/
theorem operIn (hF : Wide F) {o : Oper} (hnd : ∀ c, o.op ≠ .defer c) (hno : ¬ LetsOut Q) {K : Act → World → Prop} (hw : o.wp P a w K Q) : o.wpIn F k P a w K Q := by
  refine ⟨fun f _ => hF.fn f, ?_⟩
  rw [Oper.semAt_eq _ _ _ hnd]
  unfold Oper.wp at hw
  generalize (execOp a.eval o).run P w = r at hw ⊢
  cases r with
  | ok nx w' =>
    cases nx <;> simp only [Oper.upon, Oper.uponIn] at hw ⊢
    case value v => exact hw
    case skip => exact hw
    case defer d => exact hw
    case enter f args =>
      refine ⟨fun e => (hF.depth e).elim, hF.calls (Calls.mono hw ?_)⟩
      intro e w'' he
      cases e with
      | returned v => exact he
      | panicked c => exact he
      | outgrown => exact he
    case row row args => exact ⟨fun e => (hF.depth e).elim, hF.rows hw⟩
  | halt x w' => cases x <;> simp only [Oper.upon, Oper.uponIn] at hw ⊢; exact hw

/-- the first operations of a region -/
theorem itemsIn (hF : Wide F) (hM : ∀ t n r, M t n = some r → methOf P t n = some r) (hcall : CallOK G P call) (hno : ¬ LetsOut Q) (rest : List Nat) : ∀ {l : List Oper} {i : Nat} {xs : List AOper} {loc : Loc} {h : AHeap} {w : World} {e : Env} {a : Act},
    (∀ j o, l[j]? = some o → ops[i + j]? = some o) → (∀ o ∈ l, ∀ c, o.op ≠ .defer c) → copers G P ops.toList n l = some xs → runItems M call (xs.map .op) e h = some (e', h') → Globs G loc → Sim loc h w → EnvRep loc n e a.tmps →
    (∀ loc' a' w', Step loc h w loc' h' w' → Sim loc' h' w' → EnvRep loc' n e' a'.tmps → a'.defers = a.defers → wpOpsIn F k P ops Q rest a' w') → wpOpsIn F k P ops Q (List.range' i l.length ++ rest) a w
  | [], i, xs, loc, h, w, e, a, _, _, hc, hr, hg, s, he, kk => by
    simp only [copers, Option.some.injEq] at hc; subst hc
    simp only [List.map_nil, runItems, Option.some.injEq, Prod.mk.injEq] at hr
    obtain ⟨rfl, rfl⟩ := hr
    exact kk loc a w (Step.refl ..) s he rfl
  | o :: l, i, xs, loc, h, w, e, a, hat, hnd, hc, hr, hg, s, he, kk => by
    simp only [copers] at hc
    split at hc
    · rename_i x ys hx hys
      simp only [Option.some.injEq] at hc; subst hc
      obtain ⟨hd, hgd, hdn, hop⟩ := coper_spec hx
      have hw := wants_iff (a := a) (e := e) (loc := loc) hgd he.size (fun d _ _ => he.rep d)
      have hat' : ∀ j o', l[j]? = some o' → ops[i + 1 + j]? = some o' := fun j o' hj => by
        have := hat (j + 1) o' (by simpa using hj)
        rw [← this]; congr 1; omega
      have h0 : ops[i]? = some o := by simpa using hat 0 o rfl
      simp only [List.map_cons, runItems] at hr
      simp only [List.length_cons, List.range'_succ, List.cons_append, wpOpsIn, h0]
      rw [hw]
      split
      · rename_i hwt
        rw [if_pos hwt] at hr
        split at hr
        · rename_i v h1 hst
          rw [hop] at hst
          obtain ⟨op, hcop, hst⟩ := cop_of_step hst
          refine operIn hF (hnd o (.head _)) hno ?_
          refine step_sound hM hcall hcop hst hg s (he.at _) _ _ ?_
          intro loc1 v1 w1 t1 s1 r1
          have he1 : EnvRep loc1 n (put e x.d v) (a.put o.dst v1).tmps := by rw [hd]; exact (he.mono t1.le).put hdn r1
          refine itemsIn hF hM hcall hno rest hat' (fun o' ho' => hnd o' (.tail _ ho')) hys hr (hg.mono t1.le) s1 he1 ?_
          intro loc2 a2 w2 t2 s2 e2 d2
          exact kk loc2 a2 w2 (t1.trans t2 (fun b l e => (s.dom b l e).1)) s2 e2 (d2.trans (put_tmps ..).1)
        · cases hr
      · rename_i hwt
        rw [if_neg hwt] at hr
        refine ⟨fun f _ => hF.fn f, ?_⟩
        have he1 : EnvRep loc n (put e x.d undef) (a.put o.dst Go.undef).tmps := by rw [hd]; exact he.put hdn Rep.undef
        refine itemsIn hF hM hcall hno rest hat' (fun o' ho' => hnd o' (.tail _ ho')) hys hr hg s he1 ?_
        intro loc2 a2 w2 t2 s2 e2 d2
        exact kk loc2 a2 w2 t2 s2 e2 (d2.trans (put_tmps ..).1)
    · cases hc
end
end Go.Ai

/- A range over slices.Backward: the rounds. -/
set_option linter.unusedSimpArgs false
set_option linter.unusedVariables false
namespace Go.Ai
open Go

section
variable {G : List Nat} {P : Program} {n k : Nat} {M : Meth} {call : CallT} {F : Fence} {Q : Exit → Act → World → Prop}
variable {loc loc0 loc' : Loc} {h h0 h' : AHeap} {w w0 w' : World} {e e' : Env} {a : Act}

/-- within a loop: since its beginning; its record l, the block D for the rounds' deferred calls -/
structure RSt (loc0 : Loc) (h0 : AHeap) (w0 : World) (l D : Nat) (rec : Loop) (loc : Loc) (h : AHeap) (w : World) : Prop where
  st : Step loc0 h0 w0 loc h w
  sim : Sim loc h w
  fl : Free loc w l
  fd : Free loc w D
  hl : w.heap[l]? = some (.loop rec)
  hd : w.heap[D]? = some (.deferred (some []))
  d0 : ∀ b l, loc0 b = some l → b < h0.n
  ll : w0.heap.size ≤ l
  ne : D ≠ l

variable {l D : Nat} {rec : Loop}

theorem RSt.step (r : RSt loc0 h0 w0 l D rec loc h w) (t : Step loc h w loc' h' w') (s : Sim loc' h' w') : RSt loc0 h0 w0 l D rec loc' h' w' := by
  obtain ⟨f1, e1⟩ := r.fl.step t
  obtain ⟨f2, e2⟩ := r.fd.step t
  exact ⟨r.st.trans t r.d0, s, f1, f2, e1.trans r.hl, e2.trans r.hd, r.d0, r.ll, r.ne⟩

theorem RSt.put (r : RSt loc0 h0 w0 l D rec loc h w) (rec' : Loop) : RSt loc0 h0 w0 l D rec' loc h (w.putObj l (.loop rec')) :=
  ⟨r.st.putObj r.ll _, r.sim.putObj r.fl _, r.fl.putObj _, r.fd.putObj _, World.putObj_heap_same r.fl.1, (World.putObj_heap_other r.ne).trans r.hd, r.d0, r.ll, r.ne⟩

/-- the jump by which a round is left -/
def jmp : Ex → Option Code
  | .nrm => none
  | .out id => some (.exit id)
  | .ret => some .ret

def isNrm : Ex → Bool
  | .nrm => true
  | _ => false

/-- the record behind a round -/
def after (rec : Loop) (x : Ex) : Loop := { rec with state := if (jmp x).isNone then .ready else .done, pending := jmp x }

/-- one round: its assignments, its body -/
def round (M : Meth) (call : CallT) (k : Nat) (asg body : ACode) (e : Env) (h : AHeap) : Option (Ex × AHeap) :=
  match exec M call k asg e h with
  | some (.nrm, e1, h1) => match exec M call k body e1 h1 with
    | some (x, _, h2) => some (x, h2)
    | none => none
  | _ => none

theorem round_ok (hF : Wide F) (hl : Wide (F.inRound l)) (hmx : P.follows .mixedOrders = true) (hM : ∀ t n r, M t n = some r → methOf P t n = some r) (hcall : CallOK G P call) {j : Nat} {asg body : Code} {A B : ACode}
    (hnA : noDefer asg = true) (hnB : noDefer body = true) (hA : ccode G P n asg = some A) (hB : ccode G P n body = some B) {f : FuncId} {m : Nat} {tm : Array Value} {x : Ex}
    (hr : round M call j A B e h = some (x, h')) (hg : Globs G loc) (r : RSt loc0 h0 w0 l D rec loc h w) (he : EnvRep loc n e tm) (hrd : rec.state = .ready) {R : Ending → World → Prop}
    (hK : ∀ loc' w', RSt loc0 h0 w0 l D (after rec x) loc' h' w' → LocLe loc loc' → R (.returned (.bool (isNrm x))) w') : RoundIn F m P l f tm asg body w R := by
  refine roundIn_of_wpIn (hF.fn f) ?_
  unfold round at hr
  split at hr
  case h_2 => cases hr
  rename_i e1 h1 hx1
  split at hr
  case h_2 => cases hr
  rename_i x0 e2 h2 hx2
  simp only [Option.some.injEq, Prod.mk.injEq] at hr
  obtain ⟨rfl, rfl⟩ := hr
  refine execIn_ok hl hmx hM hcall j hnA hA e h .nrm e1 h1 hx1 loc w _ _ (fun ⟨_, _, h⟩ => h) hg r.sim he ?_
  intro loc1 a1 w1 t1 s1 r1 d1
  have q1 := r.step t1 s1
  refine ⟨_, run_beginRound q1.hl hrd, ?_⟩
  have q2 := q1.put { rec with state := .busy }
  refine execIn_ok hl hmx hM hcall j hnB hB e1 h1 x0 e2 h2 hx2 loc1 _ a1 _ (fun ⟨_, _, h⟩ => h) (hg.mono t1.le) q2.sim r1 ?_
  intro loc2 a2 w2 t2 s2 r2 d2
  have q3 := q2.step t2 s2
  have hend := run_endRound (P := P) (jmp x0) q3.hl
  have q4 := q3.put (after rec x0)
  have hR := hK loc2 _ q4 (t1.le.trans t2.le)
  cases x0 with
  | nrm => exact ⟨_, _, hend, hR⟩
  | out id => exact ⟨_, _, hend, hR⟩
  | ret => exact ⟨_, _, hend, hR⟩

/-! ## The iterator -/

/-- slices.Backward's iterator, at elements of one cell -/
structure Back (G : List Nat) (P : Program) (f : FuncId) (fn : Func) (i0 i1 i2 i3 jb jc : Nat) (r0 r1 r2 r3 : Array Oper) (o : Oper) (c : Call) : Prop where
  hf : P.funcs[f]? = some fn
  hname : (fn.name == "runtime.NumGoroutine") = false
  hb : fn.body = some (.seq (.region i0 r0 false) (.block jb (.loop (.seq (.seq (.region i1 r1 false) (.cond (.tmp 8) .skip (.exit jb))) (.seq (.block jc (.seq (.region i3 r3 false) (.cond (.tmp 18) .ret .skip))) (.region i2 r2 false))))))
  hn : fn.ntmps = 19
  hr : fn.results = #[]
  c0 : copers G P r0.toList 19 r0.toList = some [⟨some 4, none, .load false 1 (.t 1)⟩, ⟨some 5, none, .len .sl (.t 4)⟩, ⟨some 6, none, .bin .sub (.t 5) (.k (goI 1))⟩, ⟨some 3, none, .mv (.t 6)⟩]
  c1 : copers G P r1.toList 19 r1.toList = some [⟨some 7, none, .mv (.t 3)⟩, ⟨some 8, none, .bin .geq (.t 7) (.k (goI 0))⟩]
  c2 : copers G P r2.toList 19 r2.toList = some [⟨some 9, none, .mv (.t 3)⟩, ⟨some 10, none, .bin .sub (.t 9) (.k (goI 1))⟩, ⟨some 3, none, .mv (.t 10)⟩]
  c3 : copers G P r3.toList 19 (r3.toList.take 6) = some [⟨some 11, none, .mv (.t 0)⟩, ⟨some 12, none, .mv (.t 3)⟩, ⟨some 13, none, .load false 1 (.t 1)⟩, ⟨some 14, none, .mv (.t 3)⟩, ⟨some 15, none, .ia (.sl 1) (.t 13) (.t 14)⟩, ⟨some 16, none, .load false 1 (.t 15)⟩]
  c4 : copers G P r3.toList 19 (r3.toList.drop 7) = some [⟨some 18, none, .un .not (.t 17)⟩]
  h3 : r3.size = 8
  ho : r3[6]? = some o
  oo : o.op = .call c
  od : o.dst = some 17
  og : o.guard = none
  cc : c.callee = .value (.tmp 11)
  ca : c.args = #[.tmp 12, .tmp 16]
  nd : (r0.toList ++ (r1.toList ++ (r2.toList ++ r3.toList))).all (fun o => match o.op with | .defer _ => false | _ => true) = true

/-- the rounds: i of them are left -/
def rounds (run : Env → AHeap → Option (Ex × AHeap)) (e0 : Env) (p q b : Nat) : Nat → AHeap → Option (Ex × AHeap)
  | 0, h => some (.nrm, h)
  | i + 1, h => match loadN h b 0 1 with
    | some [.sl sb off n _ _] => if i < n then match loadN h sb (off + i) 1 with
      | some [v] => match run (Tr.set (Tr.set e0 p (goI i)) q v) h with
        | some (.nrm, h') => rounds run e0 p q b i h'
        | r => r
      | _ => none else none
    | _ => none

def noM : Meth := fun _ _ => none
def noC : CallT := fun _ _ _ => none

theorem noC_ok : CallOK G P noC := by intro f args h v h' hr; cases hr
theorem noM_ok : ∀ t n r, noM t n = some r → methOf P t n = some r := by intro t n r h; cases h

/-- a region of the iterator's -/
theorem region_in (hF : Wide F) {id : Nat} {r : Array Oper} {l : List AOper} (hnd : (r.toList.all fun o => match o.op with | .defer _ => false | _ => true) = true) (hc : copers G P r.toList n r.toList = some l)
    (hmx : P.follows .mixedOrders = true) (hrun : runItems noM noC (l.map .op) e h = some (e', h')) (hno : ¬ LetsOut Q) (hg : Globs G loc) (s : Sim loc h w) (he : EnvRep loc n e a.tmps)
    (hK : ∀ loc' a' w', Step loc h w loc' h' w' → Sim loc' h' w' → EnvRep loc' n e' a'.tmps → a'.defers = a.defers → Q .normal a' w') : (Code.region id r false).wpIn F k P Q a w := by
  have hcc : ccode G P n (.region id r false) = some (.reg (l.map .op)) := by simp [ccode, hc]
  exact execIn_ok hF hmx (noM_ok (P := P)) (noC_ok (G := G)) 0 (c := .region id r false) hnd hcc e h .nrm e' h' (by simp [exec, hrun]) loc w a Q hno hg s he hK

theorem ofC (v : AVal) : ofCells false [v] = some v := rfl

theorem goI_eq (i : Nat) : goI i = .int .i64 i := rfl

theorem run_r0 {b len : Nat} {v : AVal} (h1 : e.at 1 = .ptr b 0) (hl : loadN h b 0 1 = some [v]) (hv : (∃ sb off c z, v = .sl sb off len c z) ∨ (v = .nils ∧ len = 0)) (hb : len ≤ maxStr) :
    ∃ e', runItems noM noC ([⟨some 4, none, .load false 1 (.t 1)⟩, ⟨some 5, none, .len .sl (.t 4)⟩, ⟨some 6, none, .bin .sub (.t 5) (.k (goI 1))⟩, ⟨some 3, none, .mv (.t 6)⟩].map Go.Ai.Item.op) e h = some (e', h) ∧
      e'.at 0 = e.at 0 ∧ e'.at 1 = e.at 1 ∧ e'.at 3 = .int .i64 ((len : Int) - 1) := by
  have hw : IntKind.i64.wrap ((len : Int) - 1) = (len : Int) - 1 := by
    unfold maxStr at hb
    exact IntWalk.i64_in _ (by omega)
  have hlen : ∀ E : Env, E.at 4 = v → step noM noC E h (.len .sl (.t 4)) = some (goI len, h) := by
    intro E hE
    rcases hv with ⟨sb, off, c, z, rfl⟩ | ⟨rfl, rfl⟩ <;> simp [step, Opr.ev, hE]
  refine ⟨_, by
    simp only [List.map_cons, List.map_nil, runItems, wants, if_true, put]
    rw [show step noM noC e h (.load false 1 (.t 1)) = some (v, h) by simp [step, Opr.ev, h1, hl, ofCells]]
    simp only
    rw [hlen _ (by simp [Env.at_set])]
    simp only [step, Opr.ev, Env.at_set, goI, binop, intop, if_true, Option.map_some, hw]
    rfl, ?_, ?_, ?_⟩ <;> simp [Env.at_set, hw]

theorem run_r1 {i : Int} (h3 : e.at 3 = .int .i64 i) :
    ∃ e', runItems noM noC ([⟨some 7, none, .mv (.t 3)⟩, ⟨some 8, none, .bin .geq (.t 7) (.k (goI 0))⟩].map Go.Ai.Item.op) e h = some (e', h) ∧
      e'.at 0 = e.at 0 ∧ e'.at 1 = e.at 1 ∧ e'.at 3 = .int .i64 i ∧ e'.at 8 = .bool (decide (i ≥ 0)) := by
  refine ⟨_, by
    simp only [List.map_cons, List.map_nil, runItems, wants, if_true, put, step, Opr.ev, Env.at_set, h3, goI, binop, intop, Option.map_some]
    rfl, ?_, ?_, ?_, ?_⟩ <;> simp [Env.at_set, h3]

theorem run_r2 {i : Int} (h3 : e.at 3 = .int .i64 i) (h1 : 0 ≤ i) (h2 : i ≤ maxStr) :
    ∃ e', runItems noM noC ([⟨some 9, none, .mv (.t 3)⟩, ⟨some 10, none, .bin .sub (.t 9) (.k (goI 1))⟩, ⟨some 3, none, .mv (.t 10)⟩].map Go.Ai.Item.op) e h = some (e', h) ∧
      e'.at 0 = e.at 0 ∧ e'.at 1 = e.at 1 ∧ e'.at 3 = .int .i64 (i - 1) := by
  have hw : IntKind.i64.wrap (i - 1) = i - 1 := by
    unfold maxStr at h2
    exact IntWalk.i64_in _ (by omega)
  refine ⟨_, by
    simp only [List.map_cons, List.map_nil, runItems, wants, if_true, put, step, Opr.ev, Env.at_set, h3, goI, binop, intop, Option.map_some]
    rfl, ?_, ?_, ?_⟩ <;> simp [Env.at_set, h3, hw]

theorem run_op {o : AOper} {d : Nat} {v : AVal} {h1 : AHeap} {r : List Go.Ai.Item} {res : Option (Env × AHeap)} (hg : o.g = none) (hd : o.d = some d) (hs : step M call e h o.op = some (v, h1)) (hr : runItems M call r (Tr.set e d v) h1 = res) : runItems M call (.op o :: r) e h = res := by
  simp only [runItems, hg, wants, if_true, hs, hd, put]
  exact hr

theorem run_r3 {b sb off len c z i l : Nat} {v : AVal} (h0 : e.at 0 = .yld l) (h1 : e.at 1 = .ptr b 0) (h3 : e.at 3 = .int .i64 i) (hl : loadN h b 0 1 = some [.sl sb off len c z]) (hi : i < len) (hv : loadN h sb (off + i) 1 = some [v]) :
    ∃ e', runItems noM noC ([⟨some 11, none, .mv (.t 0)⟩, ⟨some 12, none, .mv (.t 3)⟩, ⟨some 13, none, .load false 1 (.t 1)⟩, ⟨some 14, none, .mv (.t 3)⟩, ⟨some 15, none, .ia (.sl 1) (.t 13) (.t 14)⟩, ⟨some 16, none, .load false 1 (.t 15)⟩].map Go.Ai.Item.op) e h = some (e', h) ∧
      e'.at 0 = e.at 0 ∧ e'.at 1 = e.at 1 ∧ e'.at 3 = .int .i64 i ∧ e'.at 11 = .yld l ∧ e'.at 12 = .int .i64 i ∧ e'.at 16 = v := by
  have hi2 : (0 : Int) ≤ i ∧ (i : Int) < len := by omega
  refine ⟨_, run_op rfl rfl (v := .yld l) (h1 := h) (by simp [step, Opr.ev, h0]) (run_op rfl rfl (v := .int .i64 i) (h1 := h) (by simp [step, Opr.ev, Env.at_set, h3]) (run_op rfl rfl (v := .sl sb off len c z) (h1 := h) (by simp [step, Opr.ev, Env.at_set, h1, hl, ofCells])
    (run_op rfl rfl (v := .int .i64 i) (h1 := h) (by simp [step, Opr.ev, Env.at_set, h3]) (run_op rfl rfl (v := .ptr sb (off + i)) (h1 := h) (by simp [step, Opr.ev, Env.at_set, hi]) (run_op rfl rfl (v := v) (h1 := h) (by simp [step, Opr.ev, Env.at_set, hv, ofCells]) rfl))))), ?_, ?_, ?_, ?_, ?_, ?_⟩ <;> simp [Env.at_set, h0, h1, h3]

theorem run_r4 {t : Bool} (h1 : e.at 17 = .bool t) :
    ∃ e', runItems noM noC ([⟨some 18, none, .un .not (.t 17)⟩].map Go.Ai.Item.op) e h = some (e', h) ∧ e'.at 0 = e.at 0 ∧ e'.at 1 = e.at 1 ∧ e'.at 3 = e.at 3 ∧ e'.at 18 = .bool (!t) := by
  refine ⟨_, by
    simp only [List.map_cons, List.map_nil, runItems, wants, if_true, put, step, Opr.ev, h1, unop, Option.map_some]
    rfl, ?_, ?_, ?_, ?_⟩ <;> simp [Env.at_set, h1]

end
end Go.Ai

/- A range over slices.Backward: the iterator's walk. -/
set_option linter.unusedSimpArgs false
set_option linter.unusedVariables false
namespace Go.Ai
open Go

section
variable {G : List Nat} {P : Program} {n k : Nat} {M : Meth} {call : CallT} {F : Fence} {Q : Exit → Act → World → Prop}
variable {loc loc0 loc' : Loc} {h h0 h' : AHeap} {w w0 w' : World} {e e' : Env} {a : Act} {l D : Nat} {rec : Loop}

/-- what is fixed while the rounds are made: the record's own -/
structure Rnd (G : List Nat) (P : Program) (M : Meth) (call : CallT) (n : Nat) (rec : Loop) (A B : ACode) (p q : Nat) : Prop where
  ps : rec.params = #[p, q]
  hp : p < n
  hq : q < n
  nA : noDefer rec.assign = true
  nB : noDefer rec.body = true
  cA : ccode G P n rec.assign = some A
  cB : ccode G P n rec.body = some B
  rd : rec.state = .ready
  pd : rec.pending = none

theorem after_nrm (hd : rec.state = .ready) (hp : rec.pending = none) : after rec .nrm = rec := by
  cases rec; simp_all [after, jmp]

/-- the temporaries of a round -/
theorem yield_rep {p q : Nat} {tm : Array Value} {e0 : Env} {u v : AVal} {u' v' : Value} (he : EnvRep loc n e0 tm) (hp : p < n) (hq : q < n) (hu : Rep loc u u') (hv : Rep loc v v') :
    EnvRep loc n (Tr.set (Tr.set e0 p u) q v) (((#[p, q] : Array Nat).zip #[u', v']).foldl (fun tmps (x : Nat × Value) => tmps.setIfInBounds x.1 x.2) tm) := by
  have h1 : EnvRep loc n (Ai.put e0 (some p) u) (({ tmps := tm, defers := [] } : Act).put (some p) u').tmps := EnvRep.put (a := { tmps := tm, defers := [] }) he (fun x hx => by cases hx; exact hp) hu
  have h2 := EnvRep.put h1 (d := some q) (fun x hx => by cases hx; exact hq) hv
  simpa [Act.put, Ai.put] using h2

theorem range8 : List.range 8 = List.range' 0 6 ++ [6, 7] := rfl

theorem all_app {α : Type} {f : α → Bool} {x y : List α} (h : (x ++ y).all f = true) : x.all f = true ∧ y.all f = true := by simpa [List.all_append] using h

/-- the iterator's loop, i rounds left -/
theorem back_loop {fb : FuncId} {fnb : Func} {i0 i1 i2 i3 jb jc : Nat} {r0 r1 r2 r3 : Array Oper} {o : Oper} {c : Call} (K : Back G P fb fnb i0 i1 i2 i3 jb jc r0 r1 r2 r3 o c)
    (hF : Wide F) (hFl : Wide (F.inRound l)) (hmx : P.follows .mixedOrders = true) (hM : ∀ t n r, M t n = some r → methOf P t n = some r) (hcall : CallOK G P call) {A B : ACode} {p q b j : Nat} (rn : Rnd G P M call n rec A B p q) {e0 : Env} (hno : ¬ LetsOut Q) {x : Ex} :
    ∀ (i : Nat) {loc : Loc} {h : AHeap} {w : World} {e : Env} {a : Act}, rounds (round M call j A B) e0 p q b i h = some (x, h') → RSt loc0 h0 w0 l D rec loc h w → Globs G loc → EnvRep loc n e0 rec.tmps → EnvRep loc 19 e a.tmps →
      e.at 0 = .yld l → e.at 1 = .ptr b 0 → e.at 3 = .int .i64 ((i : Int) - 1) → i ≤ maxStr → a.defers = [] →
      (∀ loc' a' w', RSt loc0 h0 w0 l D (after rec x) loc' h' w' → LocLe loc loc' → a'.defers = [] → Q (if isNrm x then .exit jb else .ret) a' w') →
      LoopIn F k P (.seq (.seq (.region i1 r1 false) (.cond (.tmp 8) .skip (.exit jb))) (.seq (.block jc (.seq (.region i3 r3 false) (.cond (.tmp 18) .ret .skip))) (.region i2 r2 false))) Q a w
  | 0, loc, h, w, e, a, hr, r, hg, he0, he, e0y, e1y, e3y, hi, hd, hK => by
    obtain ⟨nd0, nd123⟩ := all_app K.nd
    obtain ⟨nd1, nd23⟩ := all_app nd123
    simp only [rounds, Option.some.injEq, Prod.mk.injEq] at hr
    obtain ⟨rfl, rfl⟩ := hr
    refine LoopIn.round (wpIn_seq (wpIn_seq ?_))
    obtain ⟨e1, hrun, g0, g1, g3, g8⟩ := run_r1 (h := h) e3y
    refine region_in hF nd1 K.c1 hmx hrun (noLet_then (noLet_then (noLet_then hno))) hg r.sim he ?_
    intro loc1 a1 w1 t1 s1 q1 d1
    have hc : a1.eval (.tmp 8) = .bool false := by
      have := q1.rep 8
      rw [g8] at this
      generalize hX : a1.tmps.getD 8 Go.undef = X at this
      cases this
      simpa [Act.eval] using hX
    refine wpIn_cond_false hc (wpIn_exit ?_)
    have hQ := hK loc1 a1 w1 (by rw [after_nrm rn.rd rn.pd]; exact r.step t1 s1) t1.le (d1.trans hd)
    exact hQ
  | i + 1, loc, h, w, e, a, hr, r, hg, he0, he, e0y, e1y, e3y, hi, hd, hK => by
    obtain ⟨nd0, nd123⟩ := all_app K.nd
    obtain ⟨nd1, nd23⟩ := all_app nd123
    obtain ⟨nd2, nd3⟩ := all_app nd23
    simp only [rounds] at hr
    split at hr
    case h_2 => cases hr
    rename_i sb off len c z hl
    split at hr
    case isFalse => cases hr
    rename_i hlt
    split at hr
    case h_2 => cases hr
    rename_i v hv
    have e3y : e.at 3 = .int .i64 (i : Int) := by rw [e3y]; congr 1; omega
    refine LoopIn.round (wpIn_seq (wpIn_seq ?_))
    obtain ⟨e1, hrun, g0, g1, g3, g8⟩ := run_r1 (h := h) e3y
    refine region_in hF nd1 K.c1 hmx hrun (noLet_then (noLet_then (noLet_then hno))) hg r.sim he ?_
    intro loc1 a1 w1 t1 s1 q1 d1
    have r1' := r.step t1 s1
    have hc : a1.eval (.tmp 8) = .bool true := by
      have := q1.rep 8
      rw [g8] at this
      generalize hX : a1.tmps.getD 8 Go.undef = X at this
      cases this
      have h0 : (0 : Int) ≤ i := by omega
      simpa [Act.eval, h0] using hX
    refine wpIn_cond_true hc (wpIn_skip (wpIn_seq (wpIn_block (wpIn_seq ?_))))
    refine wpIn_region ?_
    rw [K.h3, range8]
    obtain ⟨e2, hrun3, k0, k1, k3, k11, k12, k16⟩ := run_r3 (h := h) (g0.trans e0y) (g1.trans e1y) g3 hl hlt hv
    have hg1 := hg.mono t1.le
    have hno1 : ¬ LetsOut (Exit.then (fun a w => (Code.cond (.tmp 18) .ret .skip).wpIn F k P (Exit.inBlock jc (Exit.then (fun a w => (Code.region i2 r2 false).wpIn F k P (Exit.then (LoopIn F k P (.seq (.seq (.region i1 r1 false) (.cond (.tmp 8) .skip (.exit jb))) (.seq (.block jc (.seq (.region i3 r3 false) (.cond (.tmp 18) .ret .skip))) (.region i2 r2 false))) Q) Q) a w) (Exit.then (LoopIn F k P (.seq (.seq (.region i1 r1 false) (.cond (.tmp 8) .skip (.exit jb))) (.seq (.block jc (.seq (.region i3 r3 false) (.cond (.tmp 18) .ret .skip))) (.region i2 r2 false))) Q) Q))) a w)
        (Exit.inBlock jc (Exit.then (fun a w => (Code.region i2 r2 false).wpIn F k P (Exit.then (LoopIn F k P (.seq (.seq (.region i1 r1 false) (.cond (.tmp 8) .skip (.exit jb))) (.seq (.block jc (.seq (.region i3 r3 false) (.cond (.tmp 18) .ret .skip))) (.region i2 r2 false))) Q) Q) a w) (Exit.then (LoopIn F k P (.seq (.seq (.region i1 r1 false) (.cond (.tmp 8) .skip (.exit jb))) (.seq (.block jc (.seq (.region i3 r3 false) (.cond (.tmp 18) .ret .skip))) (.region i2 r2 false))) Q) Q)))) :=
      noLet_then (noLet_block (noLet_then (noLet_then hno)))
    have hlen8 : r3.toList.length = 8 := by simp [K.h3]
    have hl6 : (r3.toList.take 6).length = 6 := by simp [hlen8, K.h3]
    have hnd3 := noDefer_ops nd3
    have hpre := itemsIn (F := F) (k := k) (ops := r3) (n := 19) (i := 0) (l := r3.toList.take 6) (rest := [6, 7]) (G := G) (P := P) hF (noM_ok (P := P)) (noC_ok (G := G)) hno1
      (fun jj oo hjj => by
        rw [List.getElem?_take] at hjj
        split at hjj
        · rw [← Array.getElem?_toList]; simpa using hjj
        · cases hjj)
      (fun o' ho' => hnd3 o' (by have := List.mem_of_mem_take ho'; simpa using this)) K.c3 hrun3 hg1 s1 q1
    rw [hl6] at hpre
    refine hpre ?_
    intro loc2 a2 w2 t2 s2 q2 d2
    have r2' := r1'.step t2 s2
    have hg2 := hg1.mono t2.le
    -- the call of yield
    have v11 : a2.tmps.getD 11 Go.undef = .func (.yield l) #[] #[] := by
      have := q2.rep 11
      rw [k11] at this
      generalize hX : a2.tmps.getD 11 Go.undef = X at this
      cases this; rfl
    simp only [wpOpsIn, K.ho]
    have hwant : Region.wanted o (yielded r3 a2.tmps) = true := by simp [Region.wanted, K.og]
    rw [if_pos hwant]
    refine ⟨fun f _ => hF.fn f, ?_⟩
    have hnd : ∀ c, o.op ≠ .defer c := fun c hc => by rw [K.oo] at hc; cases hc
    rw [Oper.semAt_eq _ _ _ hnd]
    have hyr : (execOp a2.eval o).run P w2 = (Instr.yield l #[a2.tmps.getD 12 Go.undef, a2.tmps.getD 16 Go.undef]).run P w2 := by
      simp [execOp, K.oo, Sem.run_bind, resolve, K.cc, K.ca, Act.eval, v11, Deferred.ofValue, invoke]
    rw [hyr, run_yield r2'.hl (by rw [rn.ps]; rfl), Oper.uponIn_round]
    refine ⟨fun e => (hF.depth e).elim, ?_⟩
    have hv12 := q2.rep 12
    have hv16 := q2.rep 16
    rw [k12] at hv12
    rw [k16] at hv16
    have her : EnvRep loc2 n (Tr.set (Tr.set e0 p (goI i)) q v) ((rec.params.zip #[a2.tmps.getD 12 Go.undef, a2.tmps.getD 16 Go.undef]).foldl (fun tmps (x : Nat × Value) => tmps.setIfInBounds x.1 x.2) rec.tmps) := by
      rw [rn.ps]
      exact yield_rep ((he0.mono t1.le).mono t2.le) rn.hp rn.hq hv12 hv16
    have hd2 : a2.defers = [] := d2.trans (d1.trans hd)
    have hn17 : ∀ x, o.dst = some x → x < 19 := fun x hx => by rw [K.od] at hx; cases hx; exact (by decide : (17 : Nat) < 19)
    -- behind the call
    have behind : ∀ (y : Ex) (hy : AHeap) (loc3 : Loc) (w3 : World), RSt loc0 h0 w0 l D (after rec y) loc3 hy w3 → LocLe loc2 loc3 →
        (∀ a4 loc4 w4 e4, Step loc3 hy w3 loc4 hy w4 → Sim loc4 hy w4 → EnvRep loc4 19 e4 a4.tmps → e4.at 0 = .yld l → e4.at 1 = .ptr b 0 → e4.at 3 = .int .i64 (i : Int) → a4.defers = [] →
          (if isNrm y then (Code.region i2 r2 false).wpIn F k P (Exit.then (LoopIn F k P (.seq (.seq (.region i1 r1 false) (.cond (.tmp 8) .skip (.exit jb))) (.seq (.block jc (.seq (.region i3 r3 false) (.cond (.tmp 18) .ret .skip))) (.region i2 r2 false))) Q) Q) a4 w4 else Q .ret a4 w4)) →
        wpOpsIn F k P r3 (Exit.then (fun a w => (Code.cond (.tmp 18) .ret .skip).wpIn F k P (Exit.inBlock jc (Exit.then (fun a w => (Code.region i2 r2 false).wpIn F k P (Exit.then (LoopIn F k P (.seq (.seq (.region i1 r1 false) (.cond (.tmp 8) .skip (.exit jb))) (.seq (.block jc (.seq (.region i3 r3 false) (.cond (.tmp 18) .ret .skip))) (.region i2 r2 false))) Q) Q) a w) (Exit.then (LoopIn F k P (.seq (.seq (.region i1 r1 false) (.cond (.tmp 8) .skip (.exit jb))) (.seq (.block jc (.seq (.region i3 r3 false) (.cond (.tmp 18) .ret .skip))) (.region i2 r2 false))) Q) Q))) a w)
          (Exit.inBlock jc (Exit.then (fun a w => (Code.region i2 r2 false).wpIn F k P (Exit.then (LoopIn F k P (.seq (.seq (.region i1 r1 false) (.cond (.tmp 8) .skip (.exit jb))) (.seq (.block jc (.seq (.region i3 r3 false) (.cond (.tmp 18) .ret .skip))) (.region i2 r2 false))) Q) Q) a w) (Exit.then (LoopIn F k P (.seq (.seq (.region i1 r1 false) (.cond (.tmp 8) .skip (.exit jb))) (.seq (.block jc (.seq (.region i3 r3 false) (.cond (.tmp 18) .ret .skip))) (.region i2 r2 false))) Q) Q)))) [7] (a2.put o.dst (.bool (isNrm y))) w3 := by
      intro y hy loc3 w3 r3' hle3 hK3
      have q3 : EnvRep loc3 19 (Ai.put e2 o.dst (.bool (isNrm y))) (a2.put o.dst (.bool (isNrm y))).tmps := (q2.mono hle3).put hn17 (.bool _)
      have h17 : (Ai.put e2 o.dst (.bool (isNrm y))).at 17 = .bool (isNrm y) := by rw [K.od]; simp [Ai.put, Env.at_set]
      obtain ⟨e4, hrun4, m0, m1, m3, m18⟩ := run_r4 (h := hy) h17
      have hpost := itemsIn (F := F) (k := k) (ops := r3) (n := 19) (i := 7) (l := r3.toList.drop 7) (rest := []) (G := G) (P := P) hF (noM_ok (P := P)) (noC_ok (G := G)) hno1
        (fun jj oo hjj => by
          rw [List.getElem?_drop] at hjj
          rw [← Array.getElem?_toList]; exact hjj)
        (fun o' ho' => hnd3 o' (by have := List.mem_of_mem_drop ho'; simpa using this)) K.c4 hrun4 ((hg2).mono hle3) r3'.sim q3
      rw [show (r3.toList.drop 7).length = 1 by simp [hlen8, K.h3]] at hpost
      refine hpost ?_
      intro loc4 a4 w4 t4 s4 q4 d4
      have hd4 : a4.defers = [] := d4.trans ((put_tmps ..).1.trans hd2)
      have f0 : e4.at 0 = .yld l := by rw [m0, K.od]; simp [Ai.put, Env.at_set, k0, g0, e0y]
      have f1 : e4.at 1 = .ptr b 0 := by rw [m1, K.od]; simp [Ai.put, Env.at_set, k1, g1, e1y]
      have f3 : e4.at 3 = .int .i64 (i : Int) := by rw [m3, K.od]; simp [Ai.put, Env.at_set, k3]
      have hc : a4.eval (.tmp 18) = .bool (!isNrm y) := by
        have := q4.rep 18
        rw [m18] at this
        generalize hX : a4.tmps.getD 18 Go.undef = X at this
        cases this
        simpa [Act.eval] using hX
      have := hK3 a4 loc4 w4 e4 t4 s4 q4 f0 f1 f3 hd4
      show (Code.cond (.tmp 18) .ret .skip).wpIn F k P _ a4 w4
      cases hyn : isNrm y with
      | true =>
        rw [hyn] at hc this
        exact wpIn_cond_false hc (wpIn_skip this)
      | false =>
        rw [hyn] at hc this
        exact wpIn_cond_true hc (wpIn_ret this)
    cases hrx : round M call j A B (Tr.set (Tr.set e0 p (goI i)) q v) h with
    | none => rw [hrx] at hr; cases hr
    | some res =>
      obtain ⟨y, hy⟩ := res
      rw [hrx] at hr
      refine round_ok hF hFl hmx hM hcall rn.nA rn.nB rn.cA rn.cB hrx hg2 r2' her rn.rd ?_
      intro loc3 w3 q3 hle3
      refine behind y hy loc3 w3 q3 hle3 ?_
      intro a4 loc4 w4 e4 t4 s4 q4 f0 f1 f3 hd4
      have r4 := q3.step t4 s4
      have hle4 : LocLe loc loc4 := ((t1.le.trans t2.le).trans hle3).trans t4.le
      cases y with
      | nrm =>
        simp only at hr
        show (Code.region i2 r2 false).wpIn F k P _ a4 w4
        rw [after_nrm rn.rd rn.pd] at r4
        obtain ⟨e5, hrun5, n0, n1, n3⟩ := run_r2 (h := hy) f3 (by omega) (by omega)
        refine region_in hF nd2 K.c2 hmx hrun5 (noLet_then hno) (hg.mono hle4) r4.sim q4 ?_
        intro loc5 a5 w5 t5 s5 q5 d5
        refine back_loop K hF hFl hmx hM hcall rn hno i hr (r4.step t5 s5) (hg.mono (hle4.trans t5.le)) (he0.mono (hle4.trans t5.le)) q5 (n0.trans f0) (n1.trans f1) n3 (by omega) (d5.trans hd4) ?_
        intro loc6 a6 w6 r6 hle6 d6
        exact hK loc6 a6 w6 r6 ((hle4.trans t5.le).trans hle6) d6
      | out id =>
        simp only [Option.some.injEq, Prod.mk.injEq] at hr
        obtain ⟨rfl, rfl⟩ := hr
        exact hK loc4 a4 w4 r4 hle4 hd4
      | ret =>
        simp only [Option.some.injEq, Prod.mk.injEq] at hr
        obtain ⟨rfl, rfl⟩ := hr
        exact hK loc4 a4 w4 r4 hle4 hd4
end
end Go.Ai

/- A function that ranges over slices.Backward, taken whole. -/
set_option linter.unusedSimpArgs false
set_option linter.unusedVariables false
namespace Go.Ai
open Go

section
variable {G : List Nat} {P : Program} {n k : Nat} {M : Meth} {call : CallT} {F : Fence} {Q : Exit → Act → World → Prop}
variable {loc loc0 loc' : Loc} {h h0 h' : AHeap} {w w0 w' : World} {e e' : Env} {a : Act} {l D : Nat} {rec : Loop}
variable {fb : FuncId} {fnb : Func} {i0 i1 i2 i3 jb jc : Nat} {r0 r1 r2 r3 : Array Oper} {o : Oper} {c : Call}

def slLen : AVal → Option Nat
  | .sl _ _ n _ _ => some n
  | .nils => some 0
  | _ => none

theorem slLen_spec {v : AVal} {len : Nat} (h : slLen v = some len) : (∃ sb off c z, v = .sl sb off len c z) ∨ (v = .nils ∧ len = 0) := by
  cases v <;> simp [slLen] at h
  · subst h; exact .inl ⟨_, _, _, _, rfl⟩
  · subst h; exact .inr ⟨rfl, rfl⟩

/-- the iterator, called with a loop's yield -/
theorem back_call (K : Back G P fb fnb i0 i1 i2 i3 jb jc r0 r1 r2 r3 o c) (hmx : P.follows .mixedOrders = true) (hM : ∀ t n r, M t n = some r → methOf P t n = some r) (hcall : CallOK G P call) {A B : ACode} {p q b j len : Nat}
    (rn : Rnd G P M call n rec A B p q) {e0 : Env} {x : Ex} {v : AVal} {cv : Value} {m : Nat} (hl : loadN h b 0 1 = some [v]) (hlen : slLen v = some len) (hmax : len ≤ maxStr) (hr : rounds (round M call j A B) e0 p q b len h = some (x, h'))
    (r : RSt loc0 h0 w0 l D rec loc h w) (hg : Globs G loc) (he0 : EnvRep loc n e0 rec.tmps) (hcv : Rep loc (.ptr b 0) cv) {R : Ending → World → Prop} (hno : ¬ ∃ w, R .outgrown w)
    (hK : ∀ loc' w', RSt loc0 h0 w0 l D (after rec x) loc' h' w' → LocLe loc loc' → ∀ v, R (.returned v) w') :
    CallsIn Fence.wide m P fb #[.func (.yield l) #[] #[], cv] w R := by
  obtain ⟨nd0, nd123⟩ := all_app K.nd
  refine callsIn_of_wp K.hf K.hb trivial ?_ rfl
  have hst := start_rep (loc := loc) (args := [.yld l, .ptr b 0]) (args' := [.func (.yield l) #[] #[], cv]) (.cons _ _ _ _ (.yld l) (.cons _ _ _ _ hcv .nil)) 19
  rw [K.hn]
  obtain ⟨e1, hrun, g0, g1, g3⟩ := run_r0 (h := h) (e := envFrom 0 .lf [.yld l, .ptr b 0]) (by simp [at_envFrom]) hl (slLen_spec hlen) hmax
  have hnoB : ¬ LetsOut (bodyPost P fnb R) := fun ⟨_, w, hw⟩ => hno ⟨w, hw⟩
  have hres : ∀ (a' : Act) (w' : World), (Go.results fnb a'.tmps).run P w' = .ok (.tuple #[]) w' := by
    intro a' w'
    simp [Go.results, K.hr, Sem.run_bind]
  refine wpIn_seq (region_in (.inl rfl) nd0 K.c0 hmx hrun (noLet_then hnoB) hg r.sim hst ?_)
  intro loc1 a1 w1 t1 s1 q1 d1
  refine wpIn_block (LoopIn.loop (back_loop K (.inl rfl) (.inr ⟨l, rfl⟩) hmx hM hcall rn (noLet_block hnoB) len hr (r.step t1 s1) (hg.mono t1.le) (he0.mono t1.le) q1 (by rw [g0]; simp [at_envFrom]) (by rw [g1]; simp [at_envFrom]) g3 hmax d1 ?_))
  intro loc2 a2 w2 r2 hle d2
  have hR := hK loc2 w2 r2 (t1.le.trans hle) (.tuple #[])
  cases hx : isNrm x with
  | true =>
    simp only [if_true]
    show (if jb = jb then _ else _)
    rw [if_pos rfl]
    exact ⟨d2, _, hres a2 w2, hR⟩
  | false => exact ⟨d2, _, hres a2 w2, hR⟩

theorem jmp_after (rec : Loop) (x : Ex) : (after rec x).pending = jmp x := rfl

/-- the statement -/
theorem range_ok (K : Back G P fb fnb i0 i1 i2 i3 jb jc r0 r1 r2 r3 o c) (hmx : P.follows .mixedOrders = true) (hM : ∀ t n r, M t n = some r → methOf P t n = some r) (hcall : CallOK G P call) {asg body : Code} {A B : ACode} {p q b j len g : Nat}
    (hp : p < n) (hq : q < n) (nA : noDefer asg = true) (nB : noDefer body = true) (cA : ccode G P n asg = some A) (cB : ccode G P n body = some B)
    {x : Ex} {v : AVal} {m : Nat} (hgv : e.at g = .fn fb [] [.ptr b 0]) (hl : loadN h b 0 1 = some [v]) (hlen : slLen v = some len) (hmax : len ≤ maxStr) (hr : rounds (round M call j A B) e p q b len h = some (x, h'))
    (hg : Globs G loc) (s : Sim loc h w) (he : EnvRep loc n e a.tmps) (hno : ¬ LetsOut Q)
    (hK : ∀ loc' w', Step loc h w loc' h' w' → Sim loc' h' w' → Free loc' w' w.heap.size → w'.heap[w.heap.size]? = some (.deferred (some [])) → Q (exOf x) { a with defers := [{ target := .collected w.heap.size, args := #[] }] ++ a.defers } w') :
    (Code.rangeFunc (.tmp g) #[p, q] asg body).wpIn Fence.wide m P Q a w := by
  refine wpIn_rangeFunc ?_
  intro fn hfn
  have hX := he.rep g
  rw [hgv] at hX
  generalize hXe : a.tmps.getD g Go.undef = X at hX
  cases hX with
  | fn _ _ _ a' c' ha hc =>
  cases ha
  cases hc with
  | cons _ cv _ _ hcv hcn =>
  cases hcn
  let rc : Loop := { state := .ready, pending := none, fn, tmps := a.tmps, params := #[p, q], assign := asg, body, defers := w.heap.size }
  let W : World := (w.alloc (.deferred (some []))).alloc (.loop rc)
  have hsz : (w.alloc (.deferred (some []))).heap.size = w.heap.size + 1 := by simp
  obtain ⟨s1, f1⟩ := s.allocO (.deferred (some []))
  obtain ⟨s2, f2⟩ := s1.allocO (.loop rc)
  have r : RSt loc h w (w.heap.size + 1) w.heap.size rc loc h W := by
    refine ⟨((Step.refl loc h w).allocO _).allocO _, s2, by rw [← hsz]; exact f2, f1.allocO _, ?_, ?_, fun b l hb => (s.dom b l hb).1, by omega, by omega⟩
    · rw [← hsz]; exact World.alloc_heap_new _ _
    · have := World.alloc_heap_new w (.deferred (some []))
      rw [← this]
      exact Go.RowKit.Below.heap_alloc _ _ _ (by rw [hsz]; omega)
  refine ⟨w.heap.size + 1, [{ target := .collected w.heap.size, args := #[] }], W, { target := .fn (.func fb) #[cv], args := #[.func (.yield (w.heap.size + 1)) #[] #[]] }, W, fb, #[.func (.yield (w.heap.size + 1)) #[] #[], cv], W, ?_, ?_, fun _ _ => trivial, ?_, (fun e => by cases e), ?_⟩
  · exact run_enterLoop_outer fn a.tmps #[p, q] asg body
  · simp [resolve, rangeCall, Act.eval, hXe, Deferred.ofValue, Sem.run_bind]
  · simp only [invoke, callFunc, Sem.run_bind, run_program, Result.andThen_ok, K.hf]
    rw [if_neg (by rw [K.hname]; simp), K.hb]
    rfl
  · have rn : Rnd G P M call n rc A B p q := ⟨rfl, hp, hq, nA, nB, cA, cB, rfl, rfl⟩
    refine back_call K hmx hM hcall rn hl hlen hmax hr r hg he hcv (fun ⟨_, hw⟩ => hno hw) ?_
    intro loc' w' r' hle v
    refine ⟨jmp x, _, run_endLoop r'.hl (by cases x <;> simp [after, jmp]), ?_⟩
    have r2 := r'.put { after rc x with state := .exhausted }
    have hQ := hK loc' _ r2.st r2.sim r2.fd r2.hd
    cases x with
    | nrm => exact hQ
    | out id => exact wpIn_exit hQ
    | ret => exact wpIn_ret hQ

/-- a function with one such statement -/
structure RFn (G : List Nat) (P : Program) (f : FuncId) (pf : Func) (k0 k1 asg body k2 : Code) (id g p q : Nat) (A0 A1 A B A2 : ACode) (rs : List RV) : Prop where
  hf : P.funcs[f]? = some pf
  hname : (pf.name == "runtime.NumGoroutine") = false
  hb : pf.body = some (.seq k0 (.seq (.seq k1 (.block id (.rangeFunc (.tmp g) #[p, q] asg body))) k2))
  hp : p < pf.ntmps
  hq : q < pf.ntmps
  n0 : noDefer k0 = true
  n1 : noDefer k1 = true
  nA : noDefer asg = true
  nB : noDefer body = true
  n2 : noDefer k2 = true
  c0 : ccode G P pf.ntmps k0 = some A0
  c1 : ccode G P pf.ntmps k1 = some A1
  cA : ccode G P pf.ntmps asg = some A
  cB : ccode G P pf.ntmps body = some B
  c2 : ccode G P pf.ntmps k2 = some A2
  cr : crvs P pf.results.toList = some rs

def pRange (M : Meth) (k : Nat) (A0 A1 : ACode) (id g p q fb : Nat) (A B A2 : ACode) (rs : List RV) : CallT → List AVal → AHeap → Option (AVal × AHeap) := fun call args h =>
  match exec M call k A0 (envFrom 0 .lf args) h with
  | some (.nrm, e1, h1) => match exec M call k A1 e1 h1 with
    | some (.nrm, e2, h2) => match e2.at g with
      | .fn f [] [.ptr b 0] => if f = fb then match loadN h2 b 0 1 with
        | some [v] => match slLen v with
          | some len => if len ≤ maxStr then match rounds (round M call k A B) e2 p q b len h2 with
            | some (.nrm, h3) => match exec M call k A2 e2 h3 with
              | some (.nrm, e4, h4) => (results e4 h4 rs).map fun vs => (ofResults vs, h4)
              | some (.ret, e4, h4) => (results e4 h4 rs).map fun vs => (ofResults vs, h4)
              | _ => none
            | some (.ret, h3) => (results e2 h3 rs).map fun vs => (ofResults vs, h3)
            | _ => none
            else none
          | none => none
        | _ => none
        else none
      | _ => none
    | _ => none
  | _ => none

theorem range_prim {f : FuncId} {pf : Func} {k0 k1 asg body k2 : Code} {id g p q : Nat} {A0 A1 A B A2 : ACode} {rs : List RV} (K : Back G P fb fnb i0 i1 i2 i3 jb jc r0 r1 r2 r3 o c) (X : RFn G P f pf k0 k1 asg body k2 id g p q A0 A1 A B A2 rs)
    (hmx : P.follows .mixedOrders = true) (hM : ∀ t n r, M t n = some r → methOf P t n = some r) (j : Nat) : PrimOK G P f (pRange M j A0 A1 id g p q fb A B A2 rs) := by
  intro call hcall args h v h' hp loc w args' hg ha s
  unfold pRange at hp
  split at hp
  case h_2 => cases hp
  rename_i e1 h1 hx0
  split at hp
  case h_2 => cases hp
  rename_i e2 h2 hx1
  split at hp
  case h_2 => cases hp
  rename_i fb' b hgv
  split at hp
  case isFalse => cases hp
  rename_i hfb
  subst hfb
  split at hp
  case h_2 => cases hp
  rename_i sv hl
  split at hp
  case h_2 => cases hp
  rename_i len hlen
  split at hp
  case isFalse => cases hp
  rename_i hmax
  have hcf : (callFunc f args'.toArray).run P w = .ok (.enter f args'.toArray) w := by
    simp only [callFunc, Sem.run_bind, run_program, Result.andThen_ok, X.hf]
    rw [if_neg (by rw [X.hname]; simp), X.hb]
    rfl
  unfold InvOK
  rw [hcf]
  let R : Ending → World → Prop := fun e w'' => ∃ v', e = .returned v' ∧ ∃ loc', Step loc h w loc' h' w'' ∧ Sim loc' h' w'' ∧ Rep loc' v v'
  show Calls P f args'.toArray w R
  refine (callsIn_wide (n := 0)).1 (callsIn_of_wp_marks X.hf X.hb trivial ?_ rfl)
  have hnoB : ¬ LetsOut (bodyPostM Fence.wide 0 P pf R) := by
    rintro ⟨a, w, v', hv, -⟩; cases hv
  have hd0 : ∀ b l, loc b = some l → b < h.n := fun b l hb => (s.dom b l hb).1
  -- the end: the block for deferred calls is shut
  have fin : ∀ (ex : Ex) (e4 : Env) (loc4 : Loc) (w4 : World) (a4 : Act) (D : Nat), (ex = .nrm ∨ ex = .ret) → (Ai.results e4 h' rs).map (fun vs => (ofResults vs, h')) = some (v, h') → Step loc h w loc4 h' w4 → Sim loc4 h' w4 → EnvRep loc4 pf.ntmps e4 a4.tmps →
      a4.defers = [{ target := .collected D, args := #[] }] → w.heap.size ≤ D → Free loc4 w4 D → w4.heap[D]? = some (.deferred (some [])) → bodyPostM Fence.wide 0 P pf R (exOf ex) a4 w4 := by
    intro ex e4 loc4 w4 a4 D hor hres t4 s4 q4 d4 hD hfd hdb
    obtain ⟨vs, hvs, hv⟩ := map_pair hres
    simp only [Prod.mk.injEq] at hv
    obtain ⟨rfl, -⟩ := hv
    have s5 := s4.putObj hfd (.deferred none)
    have t5 := t4.putObj hD (.deferred none)
    obtain ⟨v', hv', hrun⟩ := results_run (P := P) (fn := pf) (hg.mono t4.le) s5 q4 X.cr hvs
    have hL : LeavesInM Fence.wide 0 P pf a4.tmps R a4.defers .returning w4 := by
      rw [d4]
      exact ⟨by simp, .inl ⟨D, _, rfl, run_takeDeferred hdb, v', hrun, v', rfl, loc4, t5, s5, hv'⟩⟩
    rcases hor with rfl | rfl <;> exact hL
  refine wpIn_seq (execIn_ok (.inl rfl) hmx hM hcall j X.n0 X.c0 _ h .nrm e1 h1 hx0 loc w _ _ (noLet_then hnoB) hg s (start_rep ha pf.ntmps) ?_)
  intro loc1 a1 w1 t1 s1 q1 d1
  refine wpIn_seq (wpIn_seq (execIn_ok (.inl rfl) hmx hM hcall j X.n1 X.c1 e1 h1 .nrm e2 h2 hx1 loc1 w1 a1 _ (noLet_then (noLet_then hnoB)) (hg.mono t1.le) s1 q1 ?_))
  intro loc2 a2 w2 t2 s2 q2 d2
  have hg2 : Globs G loc2 := (hg.mono t1.le).mono t2.le
  have t02 : Step loc h w loc2 h2 w2 := t1.trans t2 hd0
  have hdef : a2.defers = [] := d2.trans d1
  cases hrx : rounds (round M call j A B) e2 p q b len h2 with
  | none => rw [hrx] at hp; cases hp
  | some res =>
    obtain ⟨x, h3⟩ := res
    rw [hrx] at hp
    refine wpIn_block (range_ok K hmx hM hcall X.hp X.hq X.nA X.nB X.cA X.cB hgv hl hlen hmax hrx hg2 s2 q2 (noLet_block (noLet_then hnoB)) ?_)
    intro loc3 w3 t3 s3 f3 b3
    have t03 := t02.trans t3 hd0
    have q3 := q2.mono t3.le (tm := a2.tmps)
    cases x with
    | out i => simp at hp
    | ret =>
      simp only at hp
      have hh : h3 = h' := by
        obtain ⟨vs, -, hv⟩ := map_pair hp
        simp only [Prod.mk.injEq] at hv; exact hv.2
      subst hh
      exact fin .ret e2 loc3 w3 _ w2.heap.size (.inr rfl) hp t03 s3 q3 (by simp [hdef]) t02.size f3 b3
    | nrm =>
      simp only at hp
      show k2.wpIn Fence.wide 0 P _ _ w3
      have tail : ∀ (ex : Ex) (e4 : Env) (h4 : AHeap), exec M call j A2 e2 h3 = some (ex, e4, h4) → (ex = .nrm ∨ ex = .ret) → (Ai.results e4 h4 rs).map (fun vs => (ofResults vs, h4)) = some (v, h') →
          k2.wpIn Fence.wide 0 P (bodyPostM Fence.wide 0 P pf R) { a2 with defers := [{ target := .collected w2.heap.size, args := #[] }] ++ a2.defers } w3 := by
        intro ex e4 h4 hex hor hres
        have hh : h4 = h' := by
          obtain ⟨vs, -, hv⟩ := map_pair hres
          simp only [Prod.mk.injEq] at hv; exact hv.2
        subst hh
        refine execIn_ok (.inl rfl) hmx hM hcall j X.n2 X.c2 e2 h3 ex e4 h4 hex loc3 w3 _ _ hnoB (hg2.mono t3.le) s3 q3 ?_
        intro loc4 a4 w4 t4 s4 q4 d4
        obtain ⟨f4, b4⟩ := f3.step t4
        exact fin ex e4 loc4 w4 a4 w2.heap.size hor hres (t03.trans t4 hd0) s4 q4 (d4.trans (by simp [hdef])) t02.size f4 (b4.trans b3)
      split at hp
      · rename_i e4 h4 hex
        exact tail _ _ _ hex (.inl rfl) hp
      · rename_i e4 h4 hex
        exact tail _ _ _ hex (.inr rfl) hp
      · cases hp
end
end Go.Ai

/- Functions of the library taken whole: their result is new memory, what was there is as it was. -/
set_option linter.unusedSimpArgs false
set_option linter.unusedVariables false
namespace Go.Ai
open Go

section
variable {G : List Nat} {P : Program} {loc : Loc} {h h' : AHeap} {w w' : World} {f : FuncId}

theorem heap_below (hb : RowKit.Below w.heap.size w w') {cb : Nat} (hlt : cb < w.heap.size) : w'.heap[cb]? = w.heap[cb]? := hb.block cb hlt

theorem sim_below (s : Sim loc h w) (hb : RowKit.Below w.heap.size w w') : Sim loc h w' ∧ Step loc h w loc h w' := by
  refine ⟨⟨fun b l hl => ?_, s.top, fun b l o hl ho => ?_, s.inj, s.zero⟩, ⟨LocLe.refl _, fun _ _ e => ⟨e, rfl⟩, Nat.le_refl _, hb.size, fun _ _ e => e, (fun b l e f => by rw [e] at f; cases f), fun cb hlt _ => hb.block cb hlt, hb.os, hb.output⟩⟩
  · have := s.dom b l hl; have := hb.size; omega
  · obtain ⟨o', h1, h2⟩ := s.obj b l o hl ho
    exact ⟨o', (hb.block _ (s.dom b l hl).2).trans h1, h2⟩

/-- a new row that somebody else has made -/
theorem sim_adopt (s : Sim loc h w) (hb : RowKit.Below w.heap.size w w') {g : Nat} {cur : Array Value} {ty : TypeId} (hg : w.heap.size ≤ g) (hc : w'.heap[g]? = some (.cells cur ty (0, 0))) {vs : List AVal} {e : Nat} (he : e ≠ 0) (hv : vs.length ≤ cur.size)
    (hr : RepL loc vs (cur.toList.take vs.length)) : Sim (upd loc h.n ⟨g, 0, cur.size, e⟩) (h.push (.cells e false vs)) w' ∧ Step loc h w (upd loc h.n ⟨g, 0, cur.size, e⟩) (h.push (.cells e false vs)) w' := by
  have hn := s.none_n
  have hle : LocLe loc (upd loc h.n ⟨g, 0, cur.size, e⟩) := upd_le hn
  have hget : ∀ b, b ≠ h.n → (h.push (.cells e false vs)).get b = h.get b := fun b hb => by rw [AHeap.get_push, if_neg (fun e => hb e.symm)]
  have hlt : g < w'.heap.size := (Array.getElem?_eq_some_iff.1 hc).1
  have hsz := hb.size
  refine ⟨⟨?_, ?_, ?_, ?_, ?_⟩, ⟨hle, ?_, by simp, hsz, ?_, ?_, fun cb hlt _ => hb.block cb hlt, hb.os, hb.output⟩⟩
  · intro b m hm
    unfold upd at hm
    split at hm
    · rename_i e; subst e; cases hm; exact ⟨by simp, hlt⟩
    · have := s.dom b m hm; exact ⟨by simp; omega, by omega⟩
  · intro b hbb
    rw [AHeap.n_push] at hbb
    rw [hget b (by omega)]; exact s.top b (by omega)
  · intro b m ob hm hob
    unfold upd at hm
    split at hm
    · rename_i e; subst e; cases hm
      rw [AHeap.get_push, if_pos rfl] at hob; cases hob
      refine ⟨_, hc, rfl, by simp, hv, ?_, fun _ => ⟨fun e => absurd e he, .inl rfl⟩⟩
      simpa using hr.mono hle
    · rename_i hne
      rw [hget b hne] at hob
      obtain ⟨o2, h2, r2⟩ := s.obj b m ob hm hob
      exact ⟨o2, (hb.block _ (s.dom b m hm).2).trans h2, r2.mono hle⟩
  · intro b c m k hm hk hne hwb hac
    unfold upd at hm hk
    split at hm
    · rename_i e; subst e; cases hm
      split at hk
      · rename_i e2; exact absurd e2.symm hne
      · have := (s.dom c k hk).2; intro e; simp only at e; omega
    · rename_i hbn
      split at hk
      · rename_i e2; subst e2; cases hk
        have := (s.dom b m hm).2; intro e; simp only at e; omega
      · rename_i hcn
        refine s.inj b c m k hm hk hne ?_ ?_
        · unfold writable at *; rw [hget b hbn] at hwb; exact hwb
        · unfold alive at *; rw [hget c hcn] at hac; exact hac
  · intro b m hm hz
    unfold upd at hm
    split at hm
    · cases hm; exact absurd hz he
    · exact s.zero b m hm hz
  · intro b hbb e
    exact ⟨by unfold upd; rw [if_neg (by omega)]; exact e, hget b (by omega)⟩
  · intro b hbb hwb
    unfold writable at *; rw [hget b (by omega)] at hwb; exact hwb
  · intro b m e hm
    unfold upd at hm
    split at hm
    · cases hm; exact .inl hg
    · rw [e] at hm; cases hm

/-- a call that ends in a value -/
theorem inv_calls {fn : Func} {c : Code} {args : Array Value} {K : Value → World → Prop} (hf : P.funcs[f]? = some fn) (hname : (fn.name == "runtime.NumGoroutine") = false) (hb : fn.body = some c)
    (hc : Calls P f args w fun e w' => ∃ v, e = .returned v ∧ K v w') : InvOK P f args w K := by
  have hcf : (callFunc f args).run P w = .ok (.enter f args) w := by
    simp only [callFunc, Sem.run_bind, run_program, Result.andThen_ok, hf]
    rw [if_neg (by rw [hname]; simp), hb]
    rfl
  unfold InvOK
  rw [hcf]
  exact hc

/-! ## strings.Join -/

def strsOf : List AVal → Option (List (List UInt8))
  | [] => some []
  | .str s :: r => (strsOf r).map (s :: ·)
  | _ => none

def joinL (sep : List UInt8) : List (List UInt8) → List UInt8
  | [] => []
  | [x] => x
  | x :: r => x ++ (sep ++ joinL sep r)

theorem joinL_eq (sep : List UInt8) : ∀ xs, joinL sep xs = Lib.join xs sep
  | [] => rfl
  | [x] => by simp [joinL, Lib.join_one]
  | x :: y :: r => by
    have ih := joinL_eq sep (y :: r)
    rw [joinL, ih, Lib.join_cons, Lib.join_cons]
    · simp [Lib.joinTail]
    · simp

def pJoin : CallT → List AVal → AHeap → Option (AVal × AHeap) := fun _ as h =>
  match as with
  | [.nils, .str _] => some (.str [], h)
  | [.sl b off n cap 1, .str sep] => match (loadN h b off n).bind strsOf with
    | some xs => if n ≤ cap ∧ n ≤ maxStr ∧ (joinL sep xs).length ≤ maxStr then some (.str (joinL sep xs), h) else none
    | none => none
  | _ => none

theorem strsOf_rep : ∀ {vs : List AVal} {vs' : List Value} {xs : List (List UInt8)}, RepL loc vs vs' → strsOf vs = some xs → vs' = xs.map (fun s => Value.string ⟨s.toArray⟩)
  | _, _, xs, .nil, h => by simp [strsOf] at h; subst h; rfl
  | _, _, xs, .cons v v' r r' hv hr, h => by
    cases v <;> simp [strsOf] at h
    obtain ⟨y, hy, rfl⟩ := h
    cases hv
    simp [strsOf_rep hr hy]

/-- strings.Join's contract, as the shelf has it -/
def JoinSays (P : Program) (f : FuncId) : Prop :=
  (∀ (a : Option Addr) (c : Nat) (sep : ByteArray) (w : World), Calls P f #[.slice a 0 c, .string sep] w fun e w' => e = .returned (.string ⟨#[]⟩) ∧ w' = w) ∧
  ∀ (bk o c : Nat) (xs : List ByteArray) (sep : ByteArray) (w : World), (∀ (j : Nat) x, xs[j]? = some x → w.cell? ⟨bk, o + j, none⟩ = some (.string x)) → bk < w.heap.size → xs.length ≤ 140737488355328 → xs.length ≤ c →
    (Lib.join (xs.map (·.data.toList)) sep.data.toList).length ≤ 140737488355328 →
    Calls P f #[.slice (some ⟨bk, o, none⟩) xs.length c, .string sep] w fun e w' => e = .returned (.string ⟨(Lib.join (xs.map (·.data.toList)) sep.data.toList).toArray⟩) ∧ RowKit.Below w.heap.size w w'

theorem join_ok {fn : Func} {c : Code} (hf : P.funcs[f]? = some fn) (hname : (fn.name == "runtime.NumGoroutine") = false) (hb : fn.body = some c) (J : JoinSays P f) : PrimOK G P f pJoin := by
  intro call hcall args h v h' hp loc w args' hg ha s
  unfold pJoin at hp
  split at hp
  · rename_i sep
    simp only [Option.some.injEq, Prod.mk.injEq] at hp
    obtain ⟨rfl, rfl⟩ := hp
    cases ha with
    | cons a a' r r' g1 g2 =>
    cases g2 with
    | cons a2 a2' r r' g2 g3 =>
    cases g3; cases g1; cases g2
    refine inv_calls hf hname hb ((J.1 none 0 ⟨sep.toArray⟩ w).mono ?_)
    rintro e w' ⟨rfl, rfl⟩
    exact ⟨_, rfl, loc, Step.refl .., s, .str []⟩
  · rename_i b off n cap sep
    split at hp
    · rename_i xs hxs
      split at hp
      · rename_i hc
        obtain ⟨h1, h2, h3⟩ := hc
        simp only [Option.some.injEq, Prod.mk.injEq] at hp
        obtain ⟨rfl, rfl⟩ := hp
        simp only [Option.bind_eq_some_iff] at hxs
        obtain ⟨vs, hl, hxs⟩ := hxs
        have hgen : ∀ (l : L) (c : Nat), loc b = some l → cap ≤ c → InvOK P f [Value.slice (some ⟨l.cb, l.base + off, none⟩) n c, .string ⟨sep.toArray⟩].toArray w fun v' w' => ∃ loc', Step loc h w loc' h w' ∧ Sim loc' h w' ∧ Rep loc' (.str (joinL sep xs)) v' := by
          intro l c hloc hcap
          obtain ⟨cs', hr, hlen, hcell⟩ := s.load hloc hl
          have hcs := strsOf_rep hr hxs
          have hxl : (xs.map fun s => (⟨s.toArray⟩ : ByteArray)).length = n := by rw [← hlen, hcs]; simp
          have hmap : (xs.map fun s => (⟨s.toArray⟩ : ByteArray)).map (fun b : ByteArray => b.data.toList) = xs := by
            rw [List.map_map]
            have : ((fun b : ByteArray => b.data.toList) ∘ fun s : List UInt8 => (⟨s.toArray⟩ : ByteArray)) = id := by funext s; simp
            rw [this, List.map_id]
          have hJ := J.2 l.cb (l.base + off) c (xs.map fun s => ⟨s.toArray⟩) ⟨sep.toArray⟩ w (fun j x hx => by
            refine hcell j _ ?_
            rw [hcs]
            simp only [List.getElem?_map] at hx ⊢
            cases hxj : xs[j]? with
            | none => rw [hxj] at hx; cases hx
            | some y => rw [hxj] at hx; simp at hx ⊢; exact hx) (s.dom b l hloc).2 (by rw [hxl]; unfold maxStr at h2; omega) (by rw [hxl]; omega)
            (by rw [hmap, ← joinL_eq]; show (joinL sep xs).length ≤ _; unfold maxStr at h3; omega)
          rw [hxl, hmap] at hJ
          refine inv_calls hf hname hb (hJ.mono ?_)
          rintro e w' ⟨rfl, hb⟩
          obtain ⟨s1, t1⟩ := sim_below s hb
          refine ⟨_, rfl, loc, t1, s1, ?_⟩
          rw [joinL_eq]
          exact .str _
        cases ha with
        | cons a a' r r' g1 g2 =>
        cases g2 with
        | cons a2 a2' r r' g2 g3 =>
        cases g3; cases g2
        cases g1 with
        | sl _ _ _ _ _ c l hloc hcap hz => exact hgen l c hloc hcap
        | sl0 _ _ _ a l hloc =>
          have hnil : xs = [] := by
            obtain ⟨cs', hr, hlen, -⟩ := s.load hloc hl
            have := strsOf_rep hr hxs
            rw [this] at hlen
            simpa using hlen
          subst hnil
          refine inv_calls hf hname hb ((J.1 (some a) 0 ⟨sep.toArray⟩ w).mono ?_)
          rintro e w' ⟨rfl, rfl⟩
          exact ⟨_, rfl, loc, Step.refl .., s, .str []⟩
      · cases hp
    · cases hp
  · cases hp
end
end Go.Ai

/- slices.Sorted over a map's keys, taken whole. -/
set_option linter.unusedSimpArgs false
set_option linter.unusedVariables false
namespace Go.Ai
open Go

section
variable {G : List Nat} {P : Program} {loc : Loc} {h h' : AHeap} {w w' : World} {f : FuncId}

def keysOf : List (AVal × AVal) → Option (List Int)
  | [] => some []
  | (.int .i64 n, _) :: r => if -9223372036854775808 ≤ n ∧ n ≤ 9223372036854775807 then (keysOf r).map (n :: ·) else none
  | _ => none

def ins (x : Int) : List Int → List Int
  | [] => [x]
  | y :: r => if x ≤ y then x :: y :: r else y :: ins x r

def sortI : List Int → List Int
  | [] => []
  | x :: r => ins x (sortI r)

theorem ins_perm (x : Int) : ∀ l, (ins x l).Perm (x :: l)
  | [] => .refl _
  | y :: r => by
    rw [ins]
    split
    · exact .refl _
    · exact ((ins_perm x r).cons y).trans (.swap ..)

theorem sortI_perm : ∀ l, (sortI l).Perm l
  | [] => .refl _
  | x :: r => (ins_perm x _).trans ((sortI_perm r).cons x)

theorem ins_sorted (x : Int) : ∀ l : List Int, l.Pairwise (· ≤ ·) → (ins x l).Pairwise (· ≤ ·)
  | [], _ => by simp [ins]
  | y :: r, h => by
    rw [List.pairwise_cons] at h
    rw [ins]
    split
    · rename_i hxy
      rw [List.pairwise_cons, List.pairwise_cons]
      refine ⟨fun z hz => ?_, h⟩
      cases hz with
      | head => exact hxy
      | tail _ hz => exact Int.le_trans hxy (h.1 z hz)
    · rename_i hxy
      rw [List.pairwise_cons]
      refine ⟨fun z hz => ?_, ins_sorted x r h.2⟩
      have := (ins_perm x r).mem_iff.1 hz
      cases this with
      | head => omega
      | tail _ hz => exact h.1 z hz

theorem sortI_sorted : ∀ l : List Int, (sortI l).Pairwise (· ≤ ·)
  | [] => .nil
  | x :: r => ins_sorted x _ (sortI_sorted r)

theorem sortI_eq {l ss : List Int} (h : ss.Perm l) : ss.mergeSort (fun x y => decide (x ≤ y)) = sortI l := by
  have tr : ∀ a b c : Int, decide (a ≤ b) = true → decide (b ≤ c) = true → decide (a ≤ c) = true := fun a b c h1 h2 => by simp only [decide_eq_true_eq] at *; omega
  have to : ∀ a b : Int, (decide (a ≤ b) || decide (b ≤ a)) = true := fun a b => by simp only [Bool.or_eq_true, decide_eq_true_eq]; omega
  refine List.Perm.eq_of_pairwise (le := fun a b : Int => a ≤ b) (fun a b _ _ h1 h2 => Int.le_antisymm h1 h2) ?_ (sortI_sorted l) (((List.mergeSort_perm ss _).trans h).trans (sortI_perm l).symm)
  exact (List.pairwise_mergeSort tr to ss).imp (fun h => by simpa using h)

def pSorted (fK : FuncId) : CallT → List AVal → AHeap → Option (AVal × AHeap) := fun _ as h =>
  match as with
  | [.fn f [] [.ptr b 0]] => if f = fK then match h.get b with
    | some (.cells 0 _ [.mp m]) => match h.get m with
      | some (.map es) => match keysOf es with
        | some ks => if ks.length ≤ maxStr then (match sortI ks with
          | [] => some (.nils, h)
          | x :: r => some (.sl h.n 0 (r.length + 1) (r.length + 1) 1, h.push (.cells 1 false ((x :: r).map (.int .i64))))) else none
        | none => none
      | _ => none
    | _ => none
    else none
  | _ => none

theorem keysOf_rep : ∀ {es : List (AVal × AVal)} {c : List MapEntry} {ks : List Int}, RepE loc es c → keysOf es = some ks → (∀ k ∈ ks, -9223372036854775808 ≤ k ∧ k ≤ 9223372036854775807) ∧ c.map (·.key) = ks.map (Value.int .i64)
  | _, _, ks, .nil, h => by simp [keysOf] at h; subst h; simp
  | _, _, ks, .cons k v e r r' hk hv hr, h => by
    unfold keysOf at h
    split at h
    · rename_i heq; cases heq
    · rename_i n v2 r2 heq
      simp only [List.cons.injEq, Prod.mk.injEq] at heq
      obtain ⟨⟨rfl, rfl⟩, rfl⟩ := heq
      split at h
      · rename_i hn
        simp only [Option.map_eq_some_iff] at h
        obtain ⟨y, hy, rfl⟩ := h
        obtain ⟨h1, h2⟩ := keysOf_rep hr hy
        generalize hX : e.key = X at hk
        cases hk
        refine ⟨?_, by simp [hX, h2]⟩
        intro z hz
        cases hz with
        | head => exact hn
        | tail _ hz => exact h1 z hz
      · cases h
    · cases h

/-- what is told of 'slices.Sorted(maps.Keys(m))' -/
def SortedSays (P : Program) (f fK : FuncId) (k : TypeId) : Prop :=
  ∀ (R : Value → Option (DataW Unit × List MemPlace)) (Bm b nn : Nat) (D0 : DataW Unit) (w : World), Bm < w.heap.size → w.cell? ⟨Bm, 0, none⟩ = some (.map (some b)) → w.ownsMap P k R b nn D0 → Maps.size D0 ≤ maxLen → Maps.size D0 * 8 ≤ 140737488355328 →
    Calls P f #[.func (.func fK) #[] #[.pointer (some ⟨Bm, 0, none⟩)]] w fun e w' => ∃ (v : Value) (ss : List Int), e = .returned v ∧ ss.Perm (intKeys D0) ∧
      w'.ownsRow w.heap.size k 1 v ss.length ((ss.mergeSort (fun x y => decide (x ≤ y))).map encZ) ∧ (v = .slice none 0 0 ↔ ss = []) ∧ RowKit.Below w.heap.size w w'

/-- the datum of a map of which the keys alone are asked -/
def keyD (_ : Value) : Option (DataW Unit × List MemPlace) := some (.lit (.bool true), [])

theorem owns_keys {k : TypeId} (hk : P.underlying k = some (.int .i64)) {b ck : Nat} {es' : Array MapEntry} {ks : List Int} (hb : w.heap[b]? = some (.map es' ck)) (hst : MapKept.Stamped es' ck) (hks : es'.toList.map (·.key) = ks.map (Value.int .i64))
    (hr : ∀ k ∈ ks, -9223372036854775808 ≤ k ∧ k ≤ 9223372036854775807) (hm : ks.length ≤ maxStr) : ∃ D0 : DataW Unit, w.ownsMap P k keyD b ks.length D0 ∧ Maps.size D0 = ks.length ∧ (intKeys D0).Perm ks := by
  have hlen : es'.size = ks.length := by have := congrArg List.length hks; simpa using this
  have hkey : ∀ x ∈ es'.toList, ∃ a : Int, x.key = .int .i64 a ∧ -9223372036854775808 ≤ a ∧ a ≤ 9223372036854775807 := by
    intro x hx
    have : x.key ∈ es'.toList.map (·.key) := List.mem_map.2 ⟨x, hx, rfl⟩
    rw [hks] at this
    obtain ⟨a, ha, e⟩ := List.mem_map.1 this
    exact ⟨a, e.symm, hr a ha⟩
  have hrd : ∀ x ∈ es'.toList, ∃ a : Int, x.key = .int .i64 a ∧ WideElems.rd P k keyD x = some (.int .i64 a, .lit (.bool true)) := by
    intro x hx
    obtain ⟨a, ha, h1, h2⟩ := hkey x hx
    refine ⟨a, ha, ?_⟩
    have hwf : (Lit.int .i64 a).wf = true := by
      simp [Lit.wf, IntKind.min, IntKind.max, IntKind.bits, IntKind.signed]
      omega
    simp [WideElems.rd, keyOf, hk, ha, mapKey, hwf, keyD]
  refine ⟨.map ((es'.toList.map (WideElems.rg P k keyD)).foldr DataW.insert []), ⟨es', ck, hb, ⟨?_, hst, fun x hx => ?_⟩, by omega, rfl⟩, ?_, ?_⟩
  · unfold maxLen; unfold maxStr at hm; omega
  · obtain ⟨a, -, h2⟩ := hrd x hx; exact ⟨_, h2⟩
  · simp [Maps.size, length_sorted, hlen]
  · show ((es'.toList.map (WideElems.rg P k keyD)).foldr DataW.insert []).map (fun p => intOf p.1) |>.Perm ks
    refine ((WideShapes.sorted_perm _).map _).trans ?_
    rw [List.map_map]
    have h1 : es'.toList.map ((fun p : Lit × DataW Unit => intOf p.1) ∘ WideElems.rg P k keyD) = (es'.toList.map (·.key)).map (fun v => match v with | .int _ a => a | _ => 0) := by
      rw [List.map_map]
      refine List.map_congr_left fun x hx => ?_
      obtain ⟨a, ha, h2⟩ := hrd x hx
      simp [WideElems.rg_of h2, ha, intOf]
    rw [h1, hks, List.map_map]
    have h2 : ((fun v => match v with | .int _ a => a | _ => 0) ∘ Value.int IntKind.i64) = id := by funext x; rfl
    rw [h2, List.map_id]

theorem sorted_ok {fn : Func} {c : Code} {fK k : Nat} (hf : P.funcs[f]? = some fn) (hname : (fn.name == "runtime.NumGoroutine") = false) (hb : fn.body = some c) (hk : P.underlying k = some (.int .i64)) (S : SortedSays P f fK k) : PrimOK G P f (pSorted fK) := by
  intro call hcall args h v h' hp loc w args' hg ha s
  unfold pSorted at hp
  split at hp
  case h_2 => cases hp
  rename_i f0 b
  split at hp
  case isFalse => cases hp
  rename_i hfk
  subst hfk
  split at hp
  case h_2 => cases hp
  rename_i ro m hgb
  split at hp
  case h_2 => cases hp
  rename_i es hgm
  split at hp
  case h_2 => cases hp
  rename_i ks hks
  split at hp
  case isFalse => cases hp
  rename_i hmax
  cases ha with
  | cons a a' r r' g1 g2 =>
  cases g2
  cases g1 with
  | fn _ _ _ x' y' gx gy =>
  cases gx
  cases gy with
  | cons p p' _ _ gp gn =>
  cases gn
  cases gp with
  | ptr _ _ l hloc =>
  obtain ⟨C, ty, fz, hC, he, hs, hvl, hcr, -⟩ := s.cells hloc hgb
  have hbase : l.base = 0 := s.zero b l hloc he
  simp only [List.length_cons, List.length_nil] at hvl hcr
  have hcell : ∃ lm, loc m = some lm ∧ w.cell? ⟨l.cb, 0, none⟩ = some (.map (some lm.cb)) := by
    rw [hbase, List.drop_zero] at hcr
    cases hCl : C.toList with
    | nil => rw [hCl] at hcr; cases hcr
    | cons c0 cr =>
      rw [hCl] at hcr
      simp only [List.take_succ_cons, List.take_zero] at hcr
      cases hcr with
      | cons _ _ _ _ hm _ =>
        cases hm with
        | mp _ lm hlm =>
          refine ⟨lm, hlm, ?_⟩
          have : C[0]? = some (.map (some lm.cb)) := by rw [← Array.getElem?_toList, hCl]; rfl
          simp [World.cell?, hC, this]
  obtain ⟨lm, hlm, hcell⟩ := hcell
  obtain ⟨es', ck, hwm, hdist, hst, c0, hperm, hre⟩ := s.map hlm hgm
  obtain ⟨hrange, hkeys⟩ := keysOf_rep hre hks
  have hp2 : (es'.toList.map (·.key)).Perm (ks.map (Value.int .i64)) := by
    rw [← hkeys]; exact (hperm.map _).symm
  -- the keys as the world has them
  obtain ⟨ks', hks', hpk⟩ : ∃ ks' : List Int, es'.toList.map (·.key) = ks'.map (Value.int .i64) ∧ ks'.Perm ks := by
    refine ⟨(es'.toList.map (·.key)).map (fun v => match v with | .int _ a => a | _ => 0), ?_, ?_⟩
    · rw [List.map_map]
      symm
      refine (List.map_congr_left fun v hv => ?_).trans (List.map_id _)
      obtain ⟨a, -, rfl⟩ := List.mem_map.1 (hp2.mem_iff.1 hv)
      rfl
    · refine (hp2.map _).trans ?_
      rw [List.map_map]
      have h2 : ((fun v => match v with | .int _ a => a | _ => 0) ∘ Value.int IntKind.i64) = id := by funext x; rfl
      rw [h2, List.map_id]
  have hlen := hpk.length_eq
  obtain ⟨D0, hown, hsz, hkd⟩ := owns_keys (P := P) hk hwm hst hks' (fun x hx => hrange x (hpk.mem_iff.1 hx)) (by omega)
  have hS := S keyD l.cb lm.cb ks'.length D0 w (s.dom b l hloc).2 hcell hown (by rw [hsz]; unfold maxLen; unfold maxStr at hmax; omega) (by rw [hsz]; unfold maxStr at hmax; omega)
  have hargs : (#[Value.func (.func f0) [].toArray [Value.pointer (some ⟨l.cb, l.base + 0, none⟩)].toArray] : Array Value) = #[.func (.func f0) #[] #[.pointer (some ⟨l.cb, 0, none⟩)]] := by rw [hbase]
  show InvOK P f #[Value.func (.func f0) [].toArray [Value.pointer (some ⟨l.cb, l.base + 0, none⟩)].toArray] w _
  rw [hargs]
  refine inv_calls hf hname hb (hS.mono ?_)
  rintro e w' ⟨v', ss, rfl, hss, hrow, hnil, hbel⟩
  refine ⟨v', rfl, ?_⟩
  have hso : ss.mergeSort (fun x y => decide (x ≤ y)) = sortI ks := sortI_eq ((hss.trans hkd).trans hpk)
  rw [hso] at hrow
  have hsl : ss.length = (sortI ks).length := by rw [← hso]; exact ((List.mergeSort_perm ss _).length_eq).symm
  cases hsi : sortI ks with
  | nil =>
    rw [hsi] at hp
    simp only [Option.some.injEq, Prod.mk.injEq] at hp
    obtain ⟨rfl, rfl⟩ := hp
    have : ss = [] := List.eq_nil_of_length_eq_zero (by rw [hsl, hsi]; rfl)
    rw [hnil.2 this]
    obtain ⟨s1, t1⟩ := sim_below s hbel
    exact ⟨loc, t1, s1, .nils⟩
  | cons x r =>
    rw [hsi] at hp hrow
    simp only [Option.some.injEq, Prod.mk.injEq] at hp
    obtain ⟨rfl, rfl⟩ := hp
    have hsl' : ss.length = r.length + 1 := by rw [hsl, hsi]; rfl
    rw [hsl'] at hrow
    obtain ⟨-, hrow⟩ := hrow
    rcases hrow with ⟨-, h0⟩ | ⟨g, cap, cur, rfl, hgb2, hgc, hcap, hcm, hcs, htk⟩
    · omega
    · have htk' : cur.toList.take ((x :: r).map (AVal.int .i64)).length = (x :: r).map (Value.int .i64) := by
        rw [← htk]; congr 1; simp
      have hrl : ∀ (zs : List Int), RepL loc (zs.map (AVal.int .i64)) (zs.map (Value.int .i64)) := by
        intro zs
        induction zs with
        | nil => exact .nil
        | cons z zs ih => exact .cons _ _ _ _ (.int _ _) ih
      obtain ⟨s1, t1⟩ := sim_adopt s hbel hgb2 hgc (vs := (x :: r).map (AVal.int .i64)) (e := 1) (by omega) (by simp; omega) (by rw [htk']; exact hrl _)
      refine ⟨_, t1, s1, ?_⟩
      have := Rep.sl (loc := upd loc h.n ⟨g, 0, cur.size, 1⟩) h.n 0 (r.length + 1) (r.length + 1) 1 cap _ upd_self hcap (fun _ => ⟨rfl, by show 0 + cap * 1 ≤ cur.size; omega⟩)
      simpa using this
end
end Go.Ai

/- A table of code as a tree; the evaluator's table over it. -/
namespace Go.Ai
open Go

def Tr.All {α : Type} (Q : Nat → α → Prop) : Tr α → Nat → Nat → Prop
  | .lf, _, _ => True
  | .nd l v r, a, b => l.All Q (2 * a) (a + b) ∧ (match v with | none => True | some x => Q b x) ∧ r.All Q (2 * a) (2 * a + b)

theorem Tr.All.get {α : Type} {Q : Nat → α → Prop} : ∀ {t : Tr α} {a b : Nat}, t.All Q a b → ∀ (j : Nat) (x : α), t.get j = some x → Q (a * j + b) x
  | .lf, _, _, _, j, x, h => by cases h
  | .nd l v r, a, b, ⟨hl, hv, hr⟩, j, x, h => by
    rw [Tr.get_nd] at h
    split at h
    · rename_i hj
      subst hj; subst h
      simpa using hv
    · rename_i hj
      split at h
      · rename_i h2
        have := hl.get (j / 2) x h
        have e : 2 * a * (j / 2) + (a + b) = a * j + b := by
          have : j = 2 * (j / 2) + 1 := by omega
          generalize j / 2 = q at *
          subst this
          rw [Nat.mul_add, Nat.mul_one, Nat.mul_comm 2 a, Nat.mul_assoc]
          omega
        rw [e] at this; exact this
      · rename_i h2
        have := hr.get (j / 2 - 1) x h
        have e : 2 * a * (j / 2 - 1) + (2 * a + b) = a * j + b := by
          have : j = 2 * (j / 2 - 1) + 2 := by omega
          generalize j / 2 - 1 = q at *
          subst this
          rw [Nat.mul_add, Nat.mul_comm a 2, Nat.mul_comm 2 a, Nat.mul_assoc]
          omega
        rw [e] at this; exact this

theorem Tr.All.root {α : Type} {Q : Nat → α → Prop} {t : Tr α} (h : t.All Q 1 0) (j : Nat) (x : α) (e : t.get j = some x) : Q j x := by
  have := h.get j x e
  simpa using this

/-- the code is the program's -/
def Good (G : List Nat) (P : Program) (i : Nat) (c : AFunc) : Prop := ∃ pf, P.funcs[i]? = some pf ∧ cfunc G P pf = some c

abbrev PrimT := CallT → List AVal → AHeap → Option (AVal × AHeap)

def tabOf (fns : Tr AFunc) (prims : Tr PrimT) (meth : Meth) : Tab := { fn := fns.get, prim := prims.get, meth := meth }

theorem tabOf_ok {G : List Nat} {P : Program} {fns : Tr AFunc} {prims : Tr PrimT} {meth : Meth} (hmx : P.follows .mixedOrders = true) (hf : fns.All (Good G P) 1 0) (hp : prims.All (PrimOK G P) 1 0) (hm : ∀ t n r, meth t n = some r → methOf P t n = some r) : TabOK G P (tabOf fns prims meth) where
  fn := fun f x h => hf.root f x h
  prim := fun f p h => hp.root f p h
  meth := hm
  draw := fun _ hcall => drawOK hmx hm hcall

/-- a few methods, by their types and names -/
def methL (l : List (Nat × String × (FuncId × Option (Bool × Nat)))) : Meth := fun t n =>
  match l with
  | [] => none
  | (u, m, r) :: l => cond (Nat.beq t u) (if m = n then some r else methL l t n) (methL l t n)

theorem methL_ok {P : Program} : ∀ {l : List (Nat × String × (FuncId × Option (Bool × Nat)))}, (∀ x ∈ l, methOf P x.1 x.2.1 = some x.2.2) → ∀ t n r, methL l t n = some r → methOf P t n = some r
  | [], _, _, _, _, h => by simp [methL] at h
  | (u, m, q) :: l, hl, t, n, r, h => by
    have hr := methL_ok (l := l) (fun x hx => hl x (.tail _ hx)) t n r
    unfold methL at h
    cases hb : Nat.beq t u with
    | true =>
      rw [hb] at h
      have := Nat.eq_of_beq_eq_true hb
      subst this
      simp only [cond_true] at h
      split at h
      · rename_i hm
        subst hm
        rw [← h]; exact hl _ (.head _)
      · exact hr h
    | false => rw [hb] at h; exact hr h
end Go.Ai

/- Parts of a code, by place. -/
namespace Go.Ai
open Go

def cL : Code → Code
  | .seq a _ => a
  | _ => .skip
def cR : Code → Code
  | .seq _ b => b
  | _ => .skip
def cB : Code → Code
  | .block _ c => c
  | _ => .skip
def cLoop : Code → Code
  | .loop c => c
  | _ => .skip
def cAsg : Code → Code
  | .rangeFunc _ _ a _ => a
  | _ => .skip
def cRng : Code → Code
  | .rangeFunc _ _ _ b => b
  | _ => .skip
def cReg : Code → Array Oper
  | .region _ ops _ => ops
  | _ => #[]
def cBody (f : Func) : Code := f.body.getD .skip
def cCall (o : Oper) : Call :=
  match o.op with
  | .call c => c
  | _ => { callee := .builtin .len, args := #[], argTypes := #[] }

/-- slices.Backward's iterator: its regions -/
def bk0 (f : Func) : Array Oper := cReg (cL (cBody f))
def bkBody (f : Func) : Code := cLoop (cB (cR (cBody f)))
def bk1 (f : Func) : Array Oper := cReg (cL (cL (bkBody f)))
def bk3 (f : Func) : Array Oper := cReg (cL (cB (cL (cR (bkBody f)))))
def bk2 (f : Func) : Array Oper := cReg (cR (cR (bkBody f)))
def bkO (f : Func) : Oper := (bk3 f)[6]?.getD { dst := none, op := .move (.tmp 0), type := 0, pos := "", after := #[], guard := none }

/-- a function that ranges once: its parts -/
def rg0 (f : Func) : Code := cL (cBody f)
def rg1 (f : Func) : Code := cL (cL (cR (cBody f)))
def rgS (f : Func) : Code := cB (cR (cL (cR (cBody f))))
def rgA (f : Func) : Code := cAsg (rgS f)
def rgB (f : Func) : Code := cRng (rgS f)
def rg2 (f : Func) : Code := cR (cR (cBody f))
end Go.Ai

