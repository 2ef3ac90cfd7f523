/- An evaluator for the model's code, proved sound: part AiD. Not of one program: lemmas for the claim. -/
import Derived.Test.YtdbihpcdlmaejaaGreatDoorAiC
/- Appending, copying, clearing; calls. -/
set_option linter.unusedSimpArgs false
set_option linter.unusedVariables false
namespace Go.Ai
open Go

section
variable {G : List Nat} {P : Program} {loc : Loc} {h h' : AHeap} {w : World} {e : Env} {a : Act} {o : Oper} {v : AVal}

theorem elems_rep (s : Sim loc h w) {sz n : Nat} {x : AVal} {X : Value} {cs : List AVal} (hx : Rep loc x X) (hel : elems h sz x = some (n, cs)) :
    (Builtin.lenOf X).run P w = .ok n w ∧ ∃ cs', RepL loc cs cs' ∧ cs'.length = n * sz ∧
      (∀ w', w'.heap = w.heap → ∀ k, k ≤ n → (Builtin.firstCells sz k X).run P w' = .ok (cs'.take (k * sz)).toArray w') := by
  unfold elems at hel
  split at hel
  · rename_i b off len cap z
    split at hel
    · rename_i hz; subst hz
      simp only [Option.map_eq_some_iff, Prod.mk.injEq] at hel
      obtain ⟨cs0, hcs, rfl, rfl⟩ := hel
      obtain ⟨A, c, cs', rfl, h1, h2, h3⟩ := sl_cells s hx hcs (by
        rcases Nat.eq_zero_or_pos len with h0 | h0
        · left; rw [h0]; simp
        · right; exact h0)
      refine ⟨by simp [Builtin.lenOf], cs', h1, h2, ?_⟩
      intro w' hw' k hk
      have hkl : k * z ≤ len * z := Nat.mul_le_mul_right z hk
      have := run_loadCells_list (P := P) w' A (cs'.take (k * z)) (fun j v hj => by
        rw [List.getElem?_take] at hj
        split at hj
        · have := h3 j v hj
          unfold World.cell? at this ⊢
          rw [hw']; exact this
        · cases hj)
      rw [List.length_take, h2, Nat.min_eq_left hkl] at this
      simp only [Builtin.firstCells, this]
    · cases hel
  · simp only [Option.some.injEq, Prod.mk.injEq] at hel
    obtain ⟨rfl, rfl⟩ := hel
    cases hx
    exact ⟨by simp [Builtin.lenOf], [], .nil, by simp, fun w' hw' k hk => by simp [Builtin.firstCells]⟩
  · rename_i st
    split at hel
    · rename_i hz; subst hz
      simp only [Option.some.injEq, Prod.mk.injEq] at hel
      obtain ⟨rfl, rfl⟩ := hel
      cases hx
      have hsz : (⟨st.toArray⟩ : ByteArray).size = st.length := by simp [ByteArray.size]
      refine ⟨by simp [Builtin.lenOf, hsz], st.map fun b => Value.int .u8 b.toNat, bytes_rep st, by simp, ?_⟩
      intro w' hw' k hk
      simp only [Builtin.firstCells, Sem.run_pure, Nat.mul_one]
      congr 1
      apply Array.ext'
      simp [List.map_take]
    · cases hel
  · cases hel

theorem growBy_le (n : Nat) (hn : 256 ≤ n) : ∀ (r c : Nat), c ≤ 2 * n → Builtin.growBy n r c ≤ 2 * n
  | 0, c, h => by simp only [Builtin.growBy]; omega
  | r + 1, c, h => by
    simp only [Builtin.growBy]
    split
    · omega
    · exact growBy_le n hn r _ (by omega)

theorem nextcap_le {need c : Nat} (hlt : c < need) : Builtin.nextslicecap need c ≤ 2 * need := by
  unfold Builtin.nextslicecap
  split
  · omega
  · split
    · omega
    · exact growBy_le need (by omega) 4 c (by omega)

/-- an append that finds no room, or may find none: a new row, or the old one further on -/
theorem run_append_grow {t el : TypeId} {sz bytes n len cap : Nat} {base : Option Addr} {X : Value} {zs : List AVal} {old new : List Value} {argTypes : Array TypeId} {ty : TypeId} (htt : argTypes[0]? = some t) {u : TypeId} {d : TypeDesc} (hu1 : argTypes[1]? = some u) (hd1 : P.underlying u = some d) (hne : ∀ k, d ≠ .int k)
    (hu : P.underlying t = some (.slice el)) (hsz : tsize P el = some sz) (hz : tzero P el = some zs) (hby : P.bytesOf el = bytes) (hX : (Builtin.lenOf X).run P w = .ok n w) (hlt : cap < len + n) (hb : (len + n) * bytes ≤ maxStr) (hb2 : len + n ≤ maxStr)
    (hold : ∀ w', w'.heap = w.heap → (Builtin.firstCells sz len (.slice base len cap)).run P w' = .ok old.toArray w') (hnew : ∀ w', w'.heap = w.heap → (Builtin.firstCells sz n X).run P w' = .ok new.toArray w') :
    ∃ (newCap : Nat) (rest : List Value) (w' : World), len + n ≤ newCap ∧ (len + n) * sz + rest.length = newCap * sz ∧ w'.heap = w.heap.push (.cells (old ++ (new ++ rest)).toArray el) ∧ w'.os = w.os ∧ w'.output = w.output ∧
      (Builtin.append_ argTypes ty #[.slice base len cap, X]).run P w = .ok (.slice (some ⟨w.heap.size, 0, none⟩) (len + n) newCap) w' := by
  obtain ⟨z, hrz, -, i, hi, hzl, hiz⟩ := run_tzero (P := P) (loc := fun _ => none) (w := w) hz
  have hti : ∀ w', (typeInfo el).run P w' = .ok i w' := fun w' => by simp [typeInfo, hi]
  have hzv : ∀ w', (zeroValue el).run P w' = .ok z w' := fun w' => by simp [zeroValue, typeInfo, hi, hiz]
  have hiby : i.bytes = bytes := by rw [← hby]; simp [Program.bytesOf, hi]
  have hzs : z.cells.size = sz := by
    obtain ⟨z2, h2, hr, i2, hi2, hl2, hz2⟩ := run_tzero (P := P) (loc := fun _ => none) (w := w) hz
    rw [hi] at hi2; cases hi2
    rw [hiz] at hz2; cases hz2
    have := hr.length
    simp only [tsize, hi, Option.map_some, Option.some.injEq] at hsz
    simp at this; omega
  have hdf : (match d with | .int _ => true | _ => false) = false := by
    cases d <;> first | rfl | exact absurd rfl (hne _)
  have hnf : ∀ nd od el', Question.forced (.appendCap nd od el') = false := fun _ _ _ => rfl
  generalize hcap : Question.cut (.appendCap (len + n) cap el) (w.tape w.drawn (.appendCap (len + n) cap el)) = newCap
  have hle : len + n ≤ newCap := by rw [← hcap]; simp only [Question.cut]; omega
  have hnc := nextcap_le hlt
  have hsmall : ¬ Builtin.nextslicecap (len + n) cap * i.bytes > 2 ^ 48 := by
    have h1 := Nat.mul_le_mul_right bytes hnc
    rw [hiby]
    unfold maxStr at hb hb2
    have h2 : 2 * (len + n) * bytes = 2 * ((len + n) * bytes) := by rw [Nat.mul_assoc]
    omega
  have hmax : ¬ (((len + n : Nat) : Int) > IntKind.i64.max ∧ (false = true ∨ i.bytes = 0)) := by
    have : IntKind.i64.max = 9223372036854775807 := by decide
    rw [this]; unfold maxStr at hb2; omega
  refine ⟨newCap, (Builtin.zeroCells z.cells (newCap - (len + n))).toList, { w with drawn := w.drawn + 1, heap := w.heap.push (.cells (old ++ (new ++ (Builtin.zeroCells z.cells (newCap - (len + n))).toList)).toArray el) }, hle, ?_, rfl, rfl, rfl, ?_⟩
  · unfold Builtin.zeroCells
    simp only [Array.toList_map, List.length_map, Array.length_toList, Array.size_range, hzs]
    rw [← Nat.add_mul]; congr 1; omega
  · have e1 : (#[Value.slice base len cap, X] : Array Value)[0]? = some (.slice base len cap) := rfl
    have e2 : (#[Value.slice base len cap, X] : Array Value)[1]? = some X := rfl
    have hh := hold { w with drawn := w.drawn + 1 } rfl
    have hn := hnew { w with drawn := w.drawn + 1 } rfl
    unfold Builtin.append_
    simp only [htt, e1, e2, hu1, Sem.run_bind, run_und hu, run_und hd1, Result.andThen_ok, run_tsize hsz, Sem.run_pure, hdf, Bool.false_eq_true, if_false, hX]
    rw [if_neg (by omega)]
    simp only [Sem.run_bind, hti, Result.andThen_ok]
    rw [if_neg (by simpa using hmax)]
    simp only [Sem.run_bind, hti, Result.andThen_ok]
    rw [if_neg hsmall]
    simp only [Sem.run_bind, run_choose, hnf, Bool.false_eq_true, if_false, hcap, Result.andThen_ok, hti, run_askRoom, hh, Bool.not_false, if_true, hn, hzv, newRow, run_newObj, Sem.run_pure]
    congr 4
    apply Array.ext'
    simp

theorem run_append_stay {t el : TypeId} {sz n len cap : Nat} {base : Option Addr} {X : Value} {new : List Value} {argTypes : Array TypeId} {ty : TypeId} (htt : argTypes[0]? = some t) {u : TypeId} {d : TypeDesc} (hu1 : argTypes[1]? = some u) (hd1 : P.underlying u = some d) (hne : ∀ k, d ≠ .int k)
    (hu : P.underlying t = some (.slice el)) (hsz : tsize P el = some sz) (hX : (Builtin.lenOf X).run P w = .ok n w) (hle : len + n ≤ cap) (hnew : (Builtin.firstCells sz n X).run P w = .ok new.toArray w) :
    (Builtin.append_ argTypes ty #[.slice base len cap, X]).run P w = ((match base with
      | some a => storeCells (a.add (len * sz)) new
      | none => pure () : Sem Unit).run P w).andThen fun _ w' => .ok (.slice base (len + n) cap) w' := by
  have hdf : (match d with | .int _ => true | _ => false) = false := by
    cases d <;> first | rfl | exact absurd rfl (hne _)
  have e1 : (#[Value.slice base len cap, X] : Array Value)[0]? = some (.slice base len cap) := rfl
  have e2 : (#[Value.slice base len cap, X] : Array Value)[1]? = some X := rfl
  unfold Builtin.append_
  simp only [htt, e1, e2, hu1, Sem.run_bind, run_und hu, run_und hd1, Result.andThen_ok, run_tsize hsz, Sem.run_pure, hdf, Bool.false_eq_true, if_false, hX]
  rw [if_pos hle]
  simp only [Sem.run_bind, Bool.not_false, if_true, hnew, Result.andThen_ok]
  cases base <;> simp [Sem.run_bind, Sem.run_pure]

/-- a block that is given up -/
theorem kill_sim (s : Sim loc h w) {b : Nat} {l : L} (hl : loc b = some l) (hb : writable h b) : Sim loc (h.set b .dead) w ∧ Step loc h w loc (h.set b .dead) w := by
  obtain ⟨o', ho, -⟩ : ∃ o', w.heap[l.cb]? = some o' ∧ True := by
    have := (s.dom b l hl).2
    exact ⟨_, Array.getElem?_eq_getElem this, trivial⟩
  have hw : w.heap = w.heap.setIfInBounds l.cb o' := by
    apply Array.ext_getElem?
    intro k
    by_cases hk : l.cb = k
    · subst hk; rw [ho]; simp [(s.dom b l hl).2]
    · rw [Array.getElem?_setIfInBounds_ne hk]
  exact set_sim s hl hb .dead o' hw rfl rfl trivial

/-- a new name for a block that has been given up -/
theorem alias_sim (s : Sim loc h w) {b : Nat} {l m : L} (hl : loc b = some l) (hm : m.cb = l.cb) (hno : ∀ c k, loc c = some k → k.cb = l.cb → ¬ alive h c) (o : AObj) (o' : Obj) (hw : w.heap[l.cb]? = some o') (hr : ObjRep (upd loc h.n m) m o o') (hz : m.e ≠ 0) :
    Sim (upd loc h.n m) (h.push o) w := by
  have hn := s.none_n
  have hle : LocLe loc (upd loc h.n m) := upd_le hn
  have hget : ∀ c, c ≠ h.n → (h.push o).get c = h.get c := fun c hc => by rw [AHeap.get_push, if_neg (fun e => hc e.symm)]
  refine ⟨?_, ?_, ?_, ?_, fun b k hk he => by unfold upd at hk; split at hk; (cases hk; exact absurd he hz); exact s.zero b k hk he⟩
  · intro c k hk
    unfold upd at hk
    split at hk
    · rename_i e; subst e; cases hk; exact ⟨by simp, by rw [hm]; exact (s.dom b l hl).2⟩
    · have := s.dom c k hk; exact ⟨by simp; omega, this.2⟩
  · intro c hc
    rw [AHeap.n_push] at hc
    rw [hget c (by omega)]; exact s.top c (by omega)
  · intro c k ob hk hob
    unfold upd at hk
    split at hk
    · rename_i e; subst e; cases hk
      rw [AHeap.get_push, if_pos rfl] at hob; cases hob
      exact ⟨o', by rw [hm]; exact hw, hr⟩
    · rename_i hne
      rw [hget c hne] at hob
      obtain ⟨o2, h2, r2⟩ := s.obj c k ob hk hob
      exact ⟨o2, h2, r2.mono hle⟩
  · intro c d k j hk hj hne hwc had
    unfold upd at hk hj
    split at hk
    · rename_i e; subst e; cases hk
      split at hj
      · rename_i e2; exact absurd e2.symm hne
      · rename_i hd
        intro e
        refine hno d j hj (by rw [← e, hm]) ?_
        unfold alive at *; rw [hget d hd] at had; exact had
    · rename_i hc
      have hwc' : writable h c := by unfold writable at *; rw [hget c hc] at hwc; exact hwc
      split at hj
      · rename_i e2; subst e2; cases hj
        intro e
        refine hno c k hk (by rw [e, hm]) ?_
        unfold alive; unfold writable at hwc'; split <;> simp_all
      · rename_i hd
        refine s.inj c d k j hk hj hne hwc' ?_
        unfold alive at *; rw [hget d hd] at had; exact had

theorem alias_step {h1 : AHeap} {w' : World} (t : Step loc h w loc h1 w') (hn : h1.n = h.n) (hnone : loc h.n = none) {b : Nat} {l m : L} (hl : loc b = some l) (hm : m.cb = l.cb) (hb : writable h b) (o : AObj) : Step loc h w (upd loc h1.n m) (h1.push o) w' where
  le := upd_le (by rw [hn]; exact hnone)
  pend := fun c hc e => by
    have hne : c ≠ h1.n := by omega
    refine ⟨by unfold upd; rw [if_neg hne]; exact e, ?_⟩
    rw [AHeap.get_push, if_neg (fun e => hne e.symm)]
    exact (t.pend c hc e).2
  n := by rw [AHeap.n_push]; omega
  size := t.size
  wr := fun c hc e => by
    have hne : c ≠ h1.n := by omega
    refine t.wr c hc ?_
    unfold writable at *
    rw [AHeap.get_push, if_neg (fun e => hne e.symm)] at e
    exact e
  fresh := fun c k e f => by
    unfold upd at f
    split at f
    · cases f; exact .inr ⟨b, l, hl, hm.symm, hb⟩
    · rw [e] at f; cases f
  frame := t.frame
  os := t.os
  output := t.output

theorem o_app {c : Call} {t u el : TypeId} {d : TypeDesc} {sz bytes n : Nat} {zs xs : List AVal} {x z : Operand} {y q : Opr} (ho : o.op = .call c) (hc : c.callee = .builtin .append) (ha : c.args.toList = [x, z]) (hx : copr G x = some y) (hz : copr G z = some q) (hg : Globs G loc) (s : Sim loc h w)
    (he : AtRep loc (oprTmps y ++ oprTmps q) e a.tmps) (htt : c.argTypes[0]? = some t) (hu1 : c.argTypes[1]? = some u) (hd1 : P.underlying u = some d) (hne : ∀ k, d ≠ .int k) (hu : P.underlying t = some (.slice el)) (hsz : tsize P el = some sz) (hzs : tzero P el = some zs) (hby : P.bytesOf el = bytes)
    (hel : elems h sz (q.ev e) = some (n, xs)) (hap : appendTo h sz bytes (y.ev e) n xs = some (v, h')) : Out P o a loc h w v h' := by
  have rx := copr_rep hx hg he.left
  have rz := copr_rep hz hg he.right
  generalize hX : a.eval x = X at rx
  generalize hZ : a.eval z = Z at rz
  have hrb : ∀ {v' w'}, (Builtin.append_ c.argTypes o.type #[X, Z]).run P w = .ok v' w' → (execOp a.eval o).run P w = .ok (.value v') w' := by
    intro v' w' hr
    refine run_builtin ho hc ha ?_
    simp only [List.map_cons, List.map_nil, hX, hZ, builtin, Sem.run_bind]
    rw [hr]; rfl
  obtain ⟨hlen, cs', hr, hrl, hfirst0⟩ := elems_rep (P := P) s rz hel
  have hfirst : ∀ w', w'.heap = w.heap → (Builtin.firstCells sz n Z).run P w' = .ok cs'.toArray w' := by
    intro w' hw'
    have := hfirst0 w' hw' n (Nat.le_refl _)
    rw [List.take_of_length_le (by omega)] at this
    exact this
  generalize y.ev e = Y at *
  have grow : ∀ {h : AHeap} {old : List AVal} {old' rest : List Value} {len newCap : Nat} {w' : World}, Sim loc h w → RepL loc old old' → old.length = len * sz → len + n ≤ newCap → (len + n) * sz + rest.length = newCap * sz → w'.heap = w.heap.push (.cells (old' ++ (cs' ++ rest)).toArray el) → w'.os = w.os → w'.output = w.output →
      (Sim (upd loc h.n ⟨w.heap.size, 0, (old' ++ (cs' ++ rest)).toArray.size, sz⟩) (h.push (.cells sz false (old ++ xs))) w' ∧ Step loc h w (upd loc h.n ⟨w.heap.size, 0, (old' ++ (cs' ++ rest)).toArray.size, sz⟩) (h.push (.cells sz false (old ++ xs))) w') ∧
      Rep (upd loc h.n ⟨w.heap.size, 0, (old' ++ (cs' ++ rest)).toArray.size, sz⟩) (.sl h.n 0 (len + n) (len + n) sz) (.slice (some ⟨w.heap.size, 0, none⟩) (len + n) newCap) := by
    intro h old old' rest len newCap w' s hro hol hle hrest hheap hos hout
    have hxl := hr.length
    have hol' := hro.length
    have hall : RepL loc (old ++ xs) (old' ++ cs') := hro.append hr
    refine ⟨row_sim s sz (old ++ xs) _ el ?_ ?_ hheap hos hout, ?_⟩
    · have h1 : (old ++ xs).length = (old' ++ cs').length := hall.length
      have h2 : ((old' ++ (cs' ++ rest)).toArray.toList.take (old ++ xs).length) = old' ++ cs' := by
        rw [h1, List.toList_toArray, ← List.append_assoc, List.take_left']
        rfl
      rw [h2]; exact hall
    · simp; omega
    · have := Rep.sl (loc := upd loc h.n ⟨w.heap.size, 0, (old' ++ (cs' ++ rest)).toArray.size, sz⟩) h.n 0 (len + n) (len + n) sz newCap _ upd_self hle (fun _ => ⟨rfl, by
        have h3 : (len + n) * sz = len * sz + n * sz := Nat.add_mul ..
        simp; omega⟩)
      simpa using this
  unfold appendTo at hap
  split at hap
  · cases rx
    split at hap
    · rename_i hn0; subst hn0
      simp only [Option.some.injEq, Prod.mk.injEq] at hap
      obtain ⟨rfl, rfl⟩ := hap
      refine out_same s (v' := .slice none 0 0) (hrb ?_) .nils
      rw [run_append_stay htt hu1 hd1 hne hu hsz hlen (by omega) (hfirst w rfl)]
      rfl
    · rename_i hn0
      split at hap
      · rename_i hb
        simp only [Option.some.injEq, Prod.mk.injEq] at hap
        obtain ⟨rfl, rfl⟩ := hap
        obtain ⟨newCap, rest, w', h1, h2, h3, h4, h5, h6⟩ := run_append_grow (ty := o.type) (old := []) htt hu1 hd1 hne hu hsz hzs hby hlen (len := 0) (cap := 0) (base := none) (by omega) (by simpa using hb.1) (by omega) (fun w' _ => by simp [Builtin.firstCells]) hfirst
        obtain ⟨k1, k2⟩ := grow (old := []) (len := 0) s .nil (by simp) h1 h2 h3 h4 h5
        simp only [Nat.zero_add, List.nil_append] at k1 k2 h6
        exact out_value (hrb h6) k1 k2
      · cases hap
  · rename_i b off len cap z0
    split at hap
    · cases hap
    · rename_i hz0
      have hz0 : z0 = sz := Decidable.not_not.1 hz0
      subst hz0
      split at hap
      · rename_i hn0; subst hn0
        split at hap
        case isFalse => cases hap
        rename_i hlc
        simp only [Option.some.injEq, Prod.mk.injEq] at hap
        obtain ⟨rfl, rfl⟩ := hap
        have hnil : cs' = [] := by apply List.eq_nil_of_length_eq_zero; omega
        subst hnil
        refine out_same s (v' := X) (hrb ?_) rx
        cases rx with
        | sl _ _ _ _ _ c l hl hc2 hz2 =>
          rw [run_append_stay htt hu1 hd1 hne hu hsz hlen (by omega) (hfirst w rfl)]
          simp [storeCells]
        | sl0 =>
          rw [run_append_stay htt hu1 hd1 hne hu hsz hlen (by omega) (hfirst w rfl)]
          simp [storeCells]
      · rename_i hn0
        split at hap
        · rename_i hle
          simp only [Option.map_eq_some_iff, Prod.mk.injEq] at hap
          obtain ⟨h2, hst, rfl, rfl⟩ := hap
          cases rx with
          | sl _ _ _ _ _ c l hl hc2 hz2 =>
            obtain ⟨w', hrun, hs⟩ := store_sim (P := P) s hl hst hr
            refine out_value (v' := .slice (some ⟨l.cb, l.base + off, none⟩) (len + n) c) (hrb ?_) hs (.sl _ _ _ _ _ c l hl hc2 hz2)
            rw [run_append_stay htt hu1 hd1 hne hu hsz hlen (by omega) (hfirst w rfl)]
            simp only [addr_add, Nat.add_assoc] at hrun ⊢
            simp only [hrun, Result.andThen_ok]
          | sl0 => omega
        · rename_i hle
          split at hap
          · rename_i hb
            split at hap
            · rename_i s' vs hget
              split at hap
              · rename_i hs'
                obtain ⟨rfl, hpos⟩ := hs'
                simp only [Option.map_eq_some_iff, Prod.mk.injEq] at hap
                obtain ⟨old, hold, rfl, rfl⟩ := hap
                obtain ⟨hol, holdeq⟩ := slice_some hold
                have hload : loadN h b off (len * s') = some old := by unfold loadN getCells; rw [hget]; exact hold
                have holen : old.length = len * s' := by rw [holdeq]; simp; omega
                have hwb := writable_cells hget
                cases rx with
                | sl _ _ _ _ _ cc l hl hc2 hz2 =>
                  obtain ⟨C, ty, fz, hC, r1, r2, r3, r4, r5⟩ := s.cells hl hget
                  obtain ⟨old', ho1, ho2, ho3⟩ := s.load hl hload
                  by_cases hin : len + n ≤ cc
                  · have hz3 := (hz2 (by omega)).2
                    have hmul : (len + n) * s' ≤ cc * s' := Nat.mul_le_mul_right s' hin
                    have hadd : (len + n) * s' = len * s' + n * s' := Nat.add_mul ..
                    obtain ⟨hz0, hz1⟩ := r5 rfl
                    obtain ⟨new, hnew, hrun⟩ := run_storeCells (P := P) l.cb (l.base + off + len * s') ty fz cs' 0 C w hC (by omega) (hz1.imp (fun h => by omega) id) (hr.flat hb.2.2)
                    have hnl : new.size = C.size := by
                      have := congrArg List.length hnew
                      simp only [Array.length_toList, List.length_append, List.length_take, List.length_drop] at this
                      omega
                    obtain ⟨s1, t1⟩ := set_sim s hl hwb .dead (.cells new ty fz) (w' := { w with heap := w.heap.setIfInBounds l.cb (.cells new ty fz) }) rfl rfl rfl trivial
                    have hno : ∀ c k, loc c = some k → k.cb = l.cb → ¬ alive (h.set b .dead) c := by
                      intro c k hk hcb hal
                      by_cases hcb2 : c = b
                      · subst hcb2; unfold alive at hal; rw [AHeap.get_set, if_pos rfl] at hal; exact hal
                      · refine s.inj b c l k hl hk (fun e => hcb2 e.symm) hwb ?_ hcb.symm
                        unfold alive at *; rw [AHeap.get_set, if_neg (fun e => hcb2 e.symm)] at hal; exact hal
                    have hlt := (s.dom b l hl).2
                    have hobj : ObjRep (upd loc (h.set b .dead).n ⟨l.cb, l.base + off, l.size - off, s'⟩) ⟨l.cb, l.base + off, l.size - off, s'⟩ (.cells s' false (old ++ xs)) (.cells new ty fz) := by
                      have hxl := hr.length
                      refine ⟨rfl, by simp only; omega, by simp only [List.length_append]; omega, ?_, fun _ => ⟨fun h0 => by omega, by rw [hnl]; exact hz1⟩⟩
                      refine RepL.mono (upd_le s.none_n) ?_
                      have hall : RepL loc (old ++ xs) (old' ++ cs') := ho1.append hr
                      have heq : (new.toList.drop (l.base + off)).take (old ++ xs).length = old' ++ cs' := by
                        have hl1 : (old ++ xs).length = (old' ++ cs').length := hall.length
                        apply List.ext_getElem?
                        intro j
                        rw [hnew, Nat.add_zero]
                        have hcs : C.toList.length = C.size := by simp
                        have hm1 : min (l.base + off + len * s') C.size = l.base + off + len * s' := by omega
                        have hl2 : (old' ++ cs').length = len * s' + n * s' := by simp; omega
                        rw [hl1, hl2, List.getElem?_take, List.getElem?_drop, List.getElem?_append, List.getElem?_append, List.getElem?_append, List.length_take, hcs, hm1, ho2]
                        by_cases h1 : j < len * s'
                        · repeat (first | rw [if_pos (by omega)] | rw [if_neg (by omega)])
                          rw [List.getElem?_take, if_pos (by omega), Array.getElem?_toList]
                          have hj : old'[j]? = some old'[j] := List.getElem?_eq_getElem (by omega)
                          have := ho3 j _ hj
                          rw [hj]
                          simp only [World.cell?, hC, Option.isSome_none, Bool.false_eq_true, if_false] at this
                          rw [← this]
                        · by_cases h2 : j < len * s' + n * s'
                          · repeat (first | rw [if_pos (by omega)] | rw [if_neg (by omega)])
                            congr 1; omega
                          · repeat (first | rw [if_pos (by omega)] | rw [if_neg (by omega)])
                            rw [List.getElem?_eq_none (by omega)]
                      rw [heq]; exact hall
                    have s2 := alias_sim s1 hl (m := ⟨l.cb, l.base + off, l.size - off, s'⟩) rfl hno (.cells s' false (old ++ xs)) (.cells new ty fz) (by simp [hlt]) hobj (by show s' ≠ 0; omega)
                    have t2 := alias_step t1 rfl s.none_n hl (m := ⟨l.cb, l.base + off, l.size - off, s'⟩) rfl hwb (.cells s' false (old ++ xs))
                    refine out_value (v' := .slice (some ⟨l.cb, l.base + off, none⟩) (len + n) cc) (hrb ?_) ⟨s2, t2⟩ ?_
                    · rw [run_append_stay htt hu1 hd1 hne hu hsz hlen hin (hfirst w rfl)]
                      simp only [addr_add, hrun, Result.andThen_ok]
                    · have := Rep.sl (loc := upd loc (h.set b .dead).n ⟨l.cb, l.base + off, l.size - off, s'⟩) h.n 0 (len + n) (len + n) s' cc ⟨l.cb, l.base + off, l.size - off, s'⟩ upd_self hin (fun _ => ⟨rfl, by simp only; omega⟩)
                      simpa using this
                  · obtain ⟨newCap, rest, w', h1, h2, h3, h4, h5, h6⟩ := run_append_grow (ty := o.type) (old := old') htt hu1 hd1 hne hu hsz hzs hby hlen (len := len) (cap := cc) (base := some ⟨l.cb, l.base + off, none⟩) (by omega) hb.1 hb.2.1 (fun w' hw' => by
                      have := run_loadCells_list (P := P) w' ⟨l.cb, l.base + off, none⟩ old' (fun j v hj => by
                        rw [addr_add]
                        have := ho3 j v hj
                        unfold World.cell? at this ⊢
                        rw [hw']; exact this)
                      rw [ho2] at this
                      simpa only [Builtin.firstCells] using this) hfirst
                    obtain ⟨s1, t1⟩ := kill_sim s hl hwb
                    obtain ⟨⟨k1, k2⟩, k3⟩ := grow s1 ho1 holen h1 h2 h3 h4 h5
                    exact out_value (hrb h6) ⟨k1, t1.trans k2 (fun b l e => (s.dom b l e).1)⟩ k3
                | sl0 _ _ _ A l hl =>
                  have hold0 : old = [] := by apply List.eq_nil_of_length_eq_zero; omega
                  subst hold0
                  obtain ⟨newCap, rest, w', h1, h2, h3, h4, h5, h6⟩ := run_append_grow (ty := o.type) (old := []) htt hu1 hd1 hne hu hsz hzs hby hlen (len := 0) (cap := 0) (base := some A) (by omega) hb.1 hb.2.1 (fun w' hw' => by
                    have := run_loadCells_list (P := P) w' A [] (fun j v hj => by simp at hj)
                    simpa [Builtin.firstCells] using this) hfirst
                  obtain ⟨s1, t1⟩ := kill_sim s hl hwb
                  obtain ⟨⟨k1, k2⟩, k3⟩ := grow s1 (old := []) (len := 0) .nil (by simp) h1 h2 h3 h4 h5
                  exact out_value (hrb h6) ⟨k1, t1.trans k2 (fun b l e => (s.dom b l e).1)⟩ k3
              · cases hap
            · cases hap
          · cases hap
  · cases hap
end
end Go.Ai

/- Copying, clearing; calls. -/
set_option linter.unusedSimpArgs false
set_option linter.unusedVariables false
namespace Go.Ai
open Go

section
variable {G : List Nat} {P : Program} {loc : Loc} {h h' : AHeap} {w : World} {e : Env} {a : Act} {o : Oper} {v : AVal}

theorem run_copy {t u el : TypeId} {sz n : Nat} {base : Option Addr} {len cap : Nat} {X : Value} {cs : List Value} {argTypes : Array TypeId} {ty : TypeId} (htt : argTypes[0]? = some t) (hu : P.underlying t = some (.slice el)) (hsz : tsize P el = some sz) (hX : (Builtin.lenOf X).run P w = .ok n w)
    (hf : (Builtin.firstCells sz (min n len) X).run P w = .ok cs.toArray w) : (Builtin.copy_ argTypes ty #[.slice base len cap, X]).run P w = ((match base with
      | some a => storeCells a cs
      | none => pure () : Sem Unit).run P w).andThen fun _ w' => .ok (.int .i64 ((min n len : Nat) : Int)) w' := by
  have e1 : (#[Value.slice base len cap, X] : Array Value)[0]? = some (.slice base len cap) := rfl
  have e2 : (#[Value.slice base len cap, X] : Array Value)[1]? = some X := rfl
  have hm : n.min len = min n len := rfl
  unfold Builtin.copy_
  simp only [htt, e1, e2, Sem.run_bind, run_und hu, Result.andThen_ok, run_tsize hsz, hX, hm, hf]
  cases base <;> simp [Sem.run_bind, Sem.run_pure, goInt]

theorem o_copy {c : Call} {t el : TypeId} {sz n b off len cap : Nat} {xs : List AVal} {x z : Operand} {y q : Opr} (ho : o.op = .call c) (hc : c.callee = .builtin .copy) (ha : c.args.toList = [x, z]) (hx : copr G x = some y) (hz : copr G z = some q) (hg : Globs G loc) (s : Sim loc h w)
    (he : AtRep loc (oprTmps y ++ oprTmps q) e a.tmps) (htt : c.argTypes[0]? = some t) (hu : P.underlying t = some (.slice el)) (hsz : tsize P el = some sz) (hel : elems h sz (q.ev e) = some (n, xs)) (hp : y.ev e = .sl b off len cap sz)
    (hres : (min n len = 0 ∧ v = goI 0 ∧ h' = h) ∨ (min n len ≠ 0 ∧ v = goI (min n len) ∧ storeN h b off (xs.take (min n len * sz)) = some h')) : Out P o a loc h w v h' := by
  have rx := copr_rep hx hg he.left
  have rz := copr_rep hz hg he.right
  rw [hp] at rx
  generalize hX : a.eval x = X at rx
  generalize hZ : a.eval z = Z at rz
  have hrb : ∀ {v' w'}, (Builtin.copy_ c.argTypes o.type #[X, Z]).run P w = .ok v' w' → (execOp a.eval o).run P w = .ok (.value v') w' := by
    intro v' w' hr
    refine run_builtin ho hc ha ?_
    simp only [List.map_cons, List.map_nil, hX, hZ, builtin, Sem.run_bind]
    rw [hr]; rfl
  obtain ⟨hlen, cs', hr, hrl, hfirst⟩ := elems_rep (P := P) s rz hel
  have hf := hfirst w rfl (min n len) (Nat.min_le_left _ _)
  rcases hres with ⟨h0, rfl, rfl⟩ | ⟨h0, rfl, hst⟩
  · rw [h0] at hf
    simp only [Nat.zero_mul, List.take_zero] at hf
    have hf : (Builtin.firstCells sz (min n len) Z).run P w = .ok ([] : List Value).toArray w := by rw [h0]; exact hf
    refine out_same s (v' := .int .i64 ((0 : Nat) : Int)) (hrb ?_) (.int _ _)
    cases rx with
    | sl _ _ _ _ _ cc l hl hc2 hz2 =>
      have := run_copy (u := t) (ty := o.type) (base := some ⟨l.cb, l.base + off, none⟩) (cap := cc) htt hu hsz hlen hf
      rw [this, h0]; simp [storeCells]
    | sl0 _ _ _ A l hl =>
      have := run_copy (u := t) (ty := o.type) (base := some A) (cap := 0) htt hu hsz hlen hf
      rw [this, h0]; simp [storeCells]
  · cases rx with
    | sl _ _ _ _ _ cc l hl hc2 hz2 =>
      obtain ⟨w', hrun, hs⟩ := store_sim (P := P) s hl hst (hr.take (min n len * sz))
      refine out_value (v' := .int .i64 ((min n len : Nat) : Int)) (hrb ?_) hs (.int _ _)
      have := run_copy (u := t) (ty := o.type) (base := some ⟨l.cb, l.base + off, none⟩) (cap := cc) htt hu hsz hlen hf
      rw [this]
      simp only [hrun, Result.andThen_ok]
    | sl0 _ _ _ A l hl => simp at h0

theorem o_copy_nil {c : Call} {t el : TypeId} {sz n : Nat} {xs : List AVal} {x z : Operand} {y q : Opr} (ho : o.op = .call c) (hc : c.callee = .builtin .copy) (ha : c.args.toList = [x, z]) (hx : copr G x = some y) (hz : copr G z = some q) (hg : Globs G loc) (s : Sim loc h w)
    (he : AtRep loc (oprTmps y ++ oprTmps q) e a.tmps) (htt : c.argTypes[0]? = some t) (hu : P.underlying t = some (.slice el)) (hsz : tsize P el = some sz) (hel : elems h sz (q.ev e) = some (n, xs)) (hp : y.ev e = .nils) : Out P o a loc h w (goI 0) h := by
  have rx := copr_rep hx hg he.left
  have rz := copr_rep hz hg he.right
  rw [hp] at rx
  generalize hX : a.eval x = X at rx
  generalize hZ : a.eval z = Z at rz
  obtain ⟨hlen, cs', hr, hrl, hfirst⟩ := elems_rep (P := P) s rz hel
  have hf := hfirst w rfl (min n 0) (Nat.min_le_left _ _)
  cases rx
  refine out_same s (v' := .int .i64 ((0 : Nat) : Int)) (run_builtin ho hc ha ?_) (.int _ _)
  have := run_copy (u := t) (ty := o.type) (base := none) (cap := 0) (len := 0) htt hu hsz hlen hf
  simp only [List.map_cons, List.map_nil, hX, hZ, builtin, Sem.run_bind, this]
  simp

theorem repl_zero_cells (z : Array Value) (n : Nat) : (Builtin.zeroCells z n).toList = (List.replicate n z.toList).flatten := by
  unfold Builtin.zeroCells
  rcases Nat.eq_zero_or_pos z.size with h0 | h0
  · have : z = #[] := Array.eq_empty_of_size_eq_zero h0
    subst this; simp
  · exact range_mod z h0 n

theorem o_clr {c : Call} {t el : TypeId} {n b off cap ez : Nat} {zs : List AVal} {x : Operand} {y : Opr} (ho : o.op = .call c) (hc : c.callee = .builtin .clear) (ha : c.args.toList = [x]) (hx : copr G x = some y) (hg : Globs G loc) (s : Sim loc h w)
    (he : AtRep loc (oprTmps y) e a.tmps) (htt : c.argTypes[0]? = some t) (hu : P.underlying t = some (.slice el)) (hz : tzero P el = some zs) (hp : y.ev e = .sl b off n cap ez)
    (hres : (n = 0 ∧ h' = h) ∨ (n ≠ 0 ∧ storeN h b off (repl n zs) = some h')) : Out P o a loc h w undef h' := by
  have rx := copr_rep hx hg he
  rw [hp] at rx
  generalize hX : a.eval x = X at rx
  have hrb : ∀ {v' w'}, (Builtin.clear_ c.argTypes o.type #[X]).run P w = .ok v' w' → (execOp a.eval o).run P w = .ok (.value v') w' := by
    intro v' w' hr
    refine run_builtin ho hc ha ?_
    simp only [List.map_cons, List.map_nil, hX, builtin, Sem.run_bind]
    rw [hr]; rfl
  rcases hres with ⟨rfl, rfl⟩ | ⟨h0, hst⟩
  · refine out_same s (v' := Go.undef) (hrb ?_) Rep.undef
    have e1 : (#[X] : Array Value)[0]? = some X := rfl
    cases rx <;> simp [Builtin.clear_, htt, run_und hu] <;> rfl
  · obtain ⟨z, hrz, hzr, -⟩ := run_tzero (P := P) (loc := loc) (w := w) hz
    cases rx with
    | sl _ _ _ _ _ cc l hl hc2 hz2 =>
      obtain ⟨w', hrun, hs⟩ := store_sim (P := P) s hl hst (repl_rep hzr n)
      refine out_value (v' := Go.undef) (hrb ?_) hs Rep.undef
      obtain ⟨k, rfl⟩ : ∃ k, n = k + 1 := ⟨n - 1, by omega⟩
      have e1 : ∀ Y : Value, (#[Y] : Array Value)[0]? = some Y := fun _ => rfl
      simp only [Builtin.clear_, htt, e1, Sem.run_bind, run_und hu, Result.andThen_ok, hrz, repl_zero_cells, hrun, Sem.run_pure]
      rfl
    | sl0 => omega

theorem o_clr_nil {c : Call} {t el : TypeId} {x : Operand} {y : Opr} (ho : o.op = .call c) (hc : c.callee = .builtin .clear) (ha : c.args.toList = [x]) (hx : copr G x = some y) (hg : Globs G loc) (s : Sim loc h w)
    (he : AtRep loc (oprTmps y) e a.tmps) (htt : c.argTypes[0]? = some t) (hu : P.underlying t = some (.slice el)) (hp : y.ev e = .nils) : Out P o a loc h w undef h := by
  have rx := copr_rep hx hg he
  rw [hp] at rx
  generalize hX : a.eval x = X at rx
  cases rx
  refine out_same s (v' := Go.undef) (run_builtin ho hc ha ?_) Rep.undef
  simp [hX, builtin, Builtin.clear_, htt, run_und hu]
  rfl

/-! ## Calls -/

/-- a function that is called with values comes to a value -/
def InvOK (P : Program) (f : FuncId) (args : Array Value) (w : World) (K : Value → World → Prop) : Prop :=
  match (callFunc f args).run P w with
  | .ok (.value v) w' => K v w'
  | .ok (.enter g as) w' => Calls P g as w' fun e w'' => ∃ v, e = .returned v ∧ K v w''
  | _ => False

/-- what the evaluator's calls come to, the model's come to -/
def CallOK (G : List Nat) (P : Program) (call : CallT) : Prop :=
  ∀ f args h v h', call f args h = some (v, h') → ∀ loc w args', Globs G loc → RepL loc args args' → Sim loc h w →
    InvOK P f args'.toArray w fun v' w' => ∃ loc', Step loc h w loc' h' w' ∧ Sim loc' h' w' ∧ Rep loc' v v'

theorem out_inv {f : FuncId} {args : Array Value} (hexec : (execOp a.eval o).run P w = (callFunc f args).run P w) (hi : InvOK P f args w fun v' w' => ∃ loc', Step loc h w loc' h' w' ∧ Sim loc' h' w' ∧ Rep loc' v v') : Out P o a loc h w v h' := by
  intro next Q k
  unfold Oper.wp
  rw [hexec]
  unfold InvOK at hi
  revert hi
  cases hr : (callFunc f args).run P w with
  | halt x w' => intro hi; exact hi.elim
  | ok n w' =>
    cases n with
    | value v' =>
      rintro ⟨loc', h1, h2, h3⟩
      exact k loc' v' w' h1 h2 h3
    | enter g as =>
      intro hi
      refine Calls.mono hi ?_
      rintro e w'' ⟨v', rfl, loc', h1, h2, h3⟩
      exact k loc' v' w'' h1 h2 h3
    | _ => intro hi; exact hi.elim

theorem o_call {f : FuncId} {c : Call} {ys : List Opr} {call : CallT} (hcall : CallOK G P call) (ho : o.op = .call c) (hc : c.callee = .value (.func f)) (ha : coprs G c.args.toList = some ys) (hg : Globs G loc) (s : Sim loc h w) (he : AtRep loc (oprsTmps ys) e a.tmps)
    (hv : call f (ys.map (·.ev e)) h = some (v, h')) : Out P o a loc h w v h' := by
  have hr := coprs_rep ha hg he
  refine out_inv (f := f) (args := (c.args.toList.map a.eval).toArray) ?_ (hcall f _ h v h' hv loc w _ hg hr s)
  have hargs : c.args.map a.eval = (c.args.toList.map a.eval).toArray := by rw [← Array.toList_map]
  simp only [execOp, ho, Sem.run_bind, resolve, hc, Act.eval, Deferred.ofValue, Sem.run_pure, Result.andThen_ok, invoke]
  rw [hargs]; simp

theorem o_callv {f : FuncId} {x : Operand} {y : Opr} {c : Call} {ys : List Opr} {fst cap : List AVal} {call : CallT} (hcall : CallOK G P call) (ho : o.op = .call c) (hc : c.callee = .value x) (hx : copr G x = some y) (ha : coprs G c.args.toList = some ys) (hg : Globs G loc) (s : Sim loc h w) (he : AtRep loc (oprTmps y ++ oprsTmps ys) e a.tmps)
    (hp : y.ev e = .fn f fst cap) (hv : call f (fst ++ (ys.map (·.ev e) ++ cap)) h = some (v, h')) : Out P o a loc h w v h' := by
  have hr := coprs_rep ha hg he.right
  have rx := copr_rep hx hg he.left
  rw [hp] at rx
  generalize hX : a.eval x = X at rx
  cases rx with
  | fn _ _ _ a' c' ra rc =>
    refine out_inv (f := f) (args := (a' ++ (c.args.toList.map a.eval ++ c')).toArray) ?_ (hcall f _ h v h' hv loc w _ hg (ra.append (hr.append rc)) s)
    have hargs : c.args.map a.eval = (c.args.toList.map a.eval).toArray := by rw [← Array.toList_map]
    simp only [execOp, ho, Sem.run_bind, resolve, hc, hX, Deferred.ofValue, Sem.run_pure, Result.andThen_ok, invoke, hargs]
    simp

theorem ssaWrap (t : TypeId) (A : Addr) (s1 s2 : String) : Builtin.ssaWrapNilChk_ #[t] t #[.pointer (some A), strVal s1, strVal s2] = pure (.pointer (some A)) := rfl

theorem run_method {t : TypeId} {name : String} {f : FuncId} {how : Option (Bool × Nat)} (hm : methOf P t name = some (f, how)) (v v' : Value)
    (hv : match how with
      | none => v' = v
      | some (g, n) => ∃ (A : Addr) (el : TypeId), v = .pointer (some A) ∧ P.underlying t = some (.pointer el) ∧ (loadVar el A).run P w = .ok v' w) (fuel : Nat) :
    (method (fuel + 1) t v name).run P w = .ok (f, v') w := by
  unfold methOf at hm
  simp only [Option.bind_eq_some_iff] at hm
  obtain ⟨i, hi, m, hf, hm⟩ := hm
  split at hm
  · rename_i hp
    have hpl : m.path.toList = [] := by
      have := Array.isEmpty_iff.1 hp
      rw [this]
    split at hm
    · rename_i g pr hfn
      have hti : (typeInfo t).run P w = .ok i w := by simp [typeInfo, hi]
      simp only [method, Sem.run_bind, hti, Result.andThen_ok, hf, hpl, follow, Sem.run_pure, hfn, hp, if_true]
      split at hm
      · rename_i el hu
        split at hm
        · rename_i hpr
          simp only [Option.some.injEq, Prod.mk.injEq] at hm
          obtain ⟨rfl, rfl⟩ := hm
          simp only at hv; subst hv
          simp only [receiverAt, Sem.run_bind, run_und hu, hpr, Result.andThen_ok, Place.get, Sem.run_pure]
        · rename_i hpr
          split at hm
          · simp only [Option.some.injEq, Prod.mk.injEq] at hm
            obtain ⟨rfl, rfl⟩ := hm
            obtain ⟨A, el2, rfl, hu2, hl⟩ := hv
            rw [hu] at hu2; cases hu2
            have hpr : pr = false := by simpa using hpr
            subst hpr
            simp only [receiverAt, Sem.run_bind, run_und hu, Result.andThen_ok, Place.get, Sem.run_pure, ssaWrap, asAddr, hl]
          · cases hm
      · rename_i d hnp hu
        split at hm
        · cases hm
        · rename_i hpr
          simp only [Option.some.injEq, Prod.mk.injEq] at hm
          obtain ⟨rfl, rfl⟩ := hm
          simp only at hv; subst hv
          have hpr : pr = false := by simpa using hpr
          subst hpr
          simp only [receiverAt, Sem.run_bind, run_und hu, Result.andThen_ok]
          cases d <;> first | (simp only [Place.get, Sem.run_pure, Result.andThen_ok]; done) | exact absurd rfl (hnp _)
      · cases hm
    · cases hm
  · cases hm

/-- a method of a value behind an interface -/
theorem o_callm {f : FuncId} {how : Option (Bool × Nat)} {name : String} {t : TypeId} {x : Operand} {y : Opr} {c : Call} {ys : List Opr} {rv ra : AVal} {call : CallT} (hcall : CallOK G P call) (ho : o.op = .call c) (hc : c.callee = .invoke x name) (hx : copr G x = some y) (ha : coprs G c.args.toList = some ys)
    (hg : Globs G loc) (s : Sim loc h w) (he : AtRep loc (oprTmps y ++ oprsTmps ys) e a.tmps) (hp : y.ev e = .ifc t rv) (hm : methOf P t name = some (f, how))
    (hrv : match how with
      | none => ra = rv
      | some (g, n) => ∃ b off, rv = .ptr b off ∧ (loadN h b off n).bind (ofCells g) = some ra)
    (hv : call f (ra :: ys.map (·.ev e)) h = some (v, h')) : Out P o a loc h w v h' := by
  have hr := coprs_rep ha hg he.right
  have rx := copr_rep hx hg he.left
  rw [hp] at rx
  generalize hX : a.eval x = X at rx
  cases rx with
  | ifc _ _ rv' hrr =>
    obtain ⟨ra', hra, hrun⟩ : ∃ ra', Rep loc ra ra' ∧ ∀ fuel, (method (fuel + 1) t rv' name).run P w = .ok (f, ra') w := by
      cases how with
      | none =>
        simp only at hrv; subst hrv
        exact ⟨rv', hrr, fun fuel => run_method hm rv' rv' rfl fuel⟩
      | some gn =>
        obtain ⟨g, n⟩ := gn
        obtain ⟨b, off, rfl, hl⟩ := hrv
        cases hrr with
        | ptr _ _ l hloc =>
          obtain ⟨el, hu, htg, hsz⟩ : ∃ el, P.underlying t = some (.pointer el) ∧ tagg P el = some g ∧ tsize P el = some n := by
            unfold methOf at hm
            simp only [Option.bind_eq_some_iff] at hm
            obtain ⟨i, hi, m, hf, hm⟩ := hm
            split at hm
            · split at hm
              · split at hm
                · rename_i el hu
                  split at hm
                  · simp at hm
                  · split at hm
                    · rename_i a1 s1 h1 h2
                      simp only [Option.some.injEq, Prod.mk.injEq] at hm
                      obtain ⟨-, rfl, rfl⟩ := hm
                      exact ⟨el, hu, h1, h2⟩
                    · cases hm
                · split at hm <;> simp at hm
                · cases hm
              · cases hm
            · cases hm
          obtain ⟨v', hr1, hr2⟩ := run_load (P := P) s hloc hl htg hsz
          exact ⟨v', hr2, fun fuel => run_method hm _ v' ⟨_, el, rfl, hu, hr1⟩ fuel⟩
    refine out_inv (f := f) (args := (ra' :: c.args.toList.map a.eval).toArray) ?_ (hcall f _ h v h' hv loc w _ hg (.cons _ _ _ _ hra hr) s)
    have hargs : c.args.map a.eval = (c.args.toList.map a.eval).toArray := by rw [← Array.toList_map]
    have hfuel : (method (P.types.size + Made.depth) t rv' name).run P w = .ok (f, ra') w := hrun (P.types.size + 99)
    have e0 : (#[Value.iface t rv'] ++ (c.args.toList.map a.eval).toArray)[0]? = some (.iface t rv') := by simp
    have e1 : (#[Value.iface t rv'] ++ (c.args.toList.map a.eval).toArray).extract 1 (#[Value.iface t rv'] ++ (c.args.toList.map a.eval).toArray).size = (c.args.toList.map a.eval).toArray := by
      apply Array.ext'
      simp
      rw [List.take_of_length_le (by simp)]
    simp only [execOp, ho, Sem.run_bind, resolve, hc, hX, Sem.run_pure, Result.andThen_ok, invoke, hargs, e0, e1, callMethod, run_program, hfuel]
    simp

end
end Go.Ai

/- One operation: all of them. -/
set_option linter.unusedSimpArgs false
set_option linter.unusedVariables false
namespace Go.Ai
open Go

section
variable {G : List Nat} {P : Program} {loc : Loc} {h h' : AHeap} {w : World} {e : Env} {a : Act} {o : Oper} {v : AVal} {M : Meth} {call : CallT}

theorem map_pair {α β : Type} {x : Option α} {f : α → β} {y : β} (h : x.map f = some y) : ∃ z, x = some z ∧ f z = y := by simpa using h

theorem isVar_e (s : Sim loc h w) {b : Nat} (hv : isVar h b = true) : ∀ l, loc b = some l → l.e = 0 := by
  intro l hl
  obtain ⟨vs, hg⟩ := isVar_spec hv
  obtain ⟨-, -, -, -, he, -⟩ := s.cells hl hg
  exact he

theorem zeroT_len {el : TypeId} {zs : List AVal} (hz : tzero P el = some zs) : True := trivial

/-- the operations that are no calls of built-in functions -/
theorem step_plain (hM : ∀ t n r, M t n = some r → methOf P t n = some r) (hcall : CallOK G P call) {op : AOp} (hop : cop G P o = some op) (hs : step M call e h op = some (v, h'))
    (hg : Globs G loc) (s : Sim loc h w) (he : AtRep loc (tmpsOf op) e a.tmps) (hnb : ∀ c b, o.op = .call c → c.callee ≠ .builtin b) : Out P o a loc h w v h' := by
  cases ho : o.op with
  | move x =>
    simp only [cop, ho] at hop
    obtain ⟨y, hy, rfl⟩ := map_pair hop
    simp only [step, Option.some.injEq, Prod.mk.injEq] at hs
    obtain ⟨rfl, rfl⟩ := hs
    exact o_mv (.inl ho) hy hg s he
  | assign x =>
    simp only [cop, ho] at hop
    obtain ⟨y, hy, rfl⟩ := map_pair hop
    simp only [step, Option.some.injEq, Prod.mk.injEq] at hs
    obtain ⟨rfl, rfl⟩ := hs
    exact o_mv (.inr ho) hy hg s he
  | pick x y z =>
    simp only [cop, ho] at hop
    split at hop
    · rename_i x' y' z' hx hy hz
      simp only [Option.some.injEq] at hop; subst hop
      simp only [step] at hs
      split at hs
      · rename_i t ht
        simp only [Option.some.injEq, Prod.mk.injEq] at hs
        obtain ⟨rfl, rfl⟩ := hs
        exact o_pick ho hx hy hz hg s he ht
      · cases hs
    · cases hop
  | alloc t =>
    simp only [cop, ho] at hop
    obtain ⟨z, hz, rfl⟩ := map_pair hop
    simp only [step, Option.some.injEq, Prod.mk.injEq] at hs
    obtain ⟨rfl, rfl⟩ := hs
    exact o_alloc ho hz s
  | box t x =>
    simp only [cop, ho] at hop
    split at hop
    · rename_i n y hn hy
      simp only [Option.some.injEq] at hop; subst hop
      simp only [step] at hs
      split at hs
      · simp only [Option.some.injEq, Prod.mk.injEq] at hs
        obtain ⟨rfl, rfl⟩ := hs
        exact o_box (n := n) ho hy hg s he
      · cases hs
    · cases hop
  | build t ps =>
    simp only [cop, ho] at hop
    split at hop
    · rename_i z fs hz hu
      split at hop
      · rename_i pl hpl
        obtain ⟨qs, hq, rfl⟩ := map_pair hop
        simp only [step] at hs
        obtain ⟨cs, hf, hs⟩ := map_pair hs
        simp only [Prod.mk.injEq] at hs
        obtain ⟨rfl, rfl⟩ := hs
        exact o_build_struct ho hz hu hpl hq hg s he hf
      · cases hop
    · rename_i z n el hz hu
      split at hop
      · rename_i sz hsz
        obtain ⟨qs, hq, rfl⟩ := map_pair hop
        simp only [step] at hs
        obtain ⟨cs, hf, hs⟩ := map_pair hs
        simp only [Prod.mk.injEq] at hs
        obtain ⟨rfl, rfl⟩ := hs
        exact o_build_arr ho hz hu hsz hq hg s he hf
      · cases hop
    · cases hop
  | buildSlice t n ps =>
    simp only [cop, ho] at hop
    split at hop
    · rename_i el hu
      split at hop
      · rename_i sz z hsz hz
        split at hop
        · rename_i hn
          obtain ⟨qs, hq, rfl⟩ := map_pair hop
          simp only [step] at hs
          obtain ⟨cs, hf, hs⟩ := map_pair hs
          simp only [Prod.mk.injEq] at hs
          obtain ⟨rfl, rfl⟩ := hs
          exact o_bslice ho hu hsz hz hn hq hg s he hf
        · cases hop
      · cases hop
    · cases hop
  | load t x =>
    simp only [cop, ho] at hop
    split at hop
    · rename_i g n y ht hn hy
      simp only [Option.some.injEq] at hop; subst hop
      simp only [step] at hs
      split at hs
      · rename_i b off hp
        obtain ⟨v2, hv, hs⟩ := map_pair hs
        simp only [Prod.mk.injEq] at hs
        obtain ⟨rfl, rfl⟩ := hs
        exact o_load ho hy hg s he ht hn hp hv
      · cases hs
    · cases hop
  | store t x z =>
    simp only [cop, ho] at hop
    split at hop
    · rename_i n y u hn hy hu
      simp only [Option.some.injEq] at hop; subst hop
      simp only [step] at hs
      split at hs
      · rename_i b off hp
        split at hs
        · rename_i hl
          obtain ⟨h2, hst, hs⟩ := map_pair hs
          simp only [Prod.mk.injEq] at hs
          obtain ⟨rfl, rfl⟩ := hs
          exact o_store ho hy hu hg s he hn hp hl hst
        · cases hs
      · cases hs
    · cases hop
  | nilCheck x =>
    simp only [cop, ho] at hop
    obtain ⟨y, hy, rfl⟩ := map_pair hop
    simp only [step] at hs
    split at hs
    · rename_i b off hp
      simp only [Option.some.injEq, Prod.mk.injEq] at hs
      obtain ⟨rfl, rfl⟩ := hs
      exact o_nilchk ho hy hg s he hp
    · cases hs
  | binOp op t x y u =>
    simp only [cop, ho] at hop
    split at hop
    · rename_i x' y' hx hy
      have bin : ∀ op', o.op = .binOp op' t x y u → some (AOp.bin op' x' y') = some (AOp.bin op' x' y') → step M call e h (.bin op' x' y') = some (v, h') → AtRep loc (oprTmps x' ++ oprTmps y') e a.tmps → Out P o a loc h w v h' := by
        intro op' ho _ hs he
        simp only [step] at hs
        obtain ⟨v2, hv, hs⟩ := map_pair hs
        simp only [Prod.mk.injEq] at hs
        obtain ⟨rfl, rfl⟩ := hs
        exact o_bin ho hx hy hg s he hv
      have beq : ∀ neg, o.op = .binOp (if neg then .neq else .eql) t x y u → eqKind P t = some 3 → step M call e h (.beq neg x' y') = some (v, h') → AtRep loc (oprTmps x' ++ oprTmps y') e a.tmps → Out P o a loc h w v h' := by
        intro neg ho hk hs he
        simp only [step] at hs
        split at hs
        · rename_i b c hb hc
          simp only [Option.some.injEq, Prod.mk.injEq] at hs
          obtain ⟨rfl, rfl⟩ := hs
          exact o_beq ho hx hy hg s he hk hb hc
        · cases hs
      have peq : ∀ neg, o.op = .binOp (if neg then .neq else .eql) t x y u → eqKind P t = some 1 → step M call e h (.peq neg x' y') = some (v, h') → AtRep loc (oprTmps x' ++ oprTmps y') e a.tmps → Out P o a loc h w v h' := by
        intro neg ho hk hs he
        simp only [step] at hs
        obtain ⟨r, hr, hs⟩ := map_pair hs
        simp only [Prod.mk.injEq] at hs
        obtain ⟨rfl, rfl⟩ := hs
        exact o_peq ho hx hy hg s he hk hr
      have neq : ∀ k neg, o.op = .binOp (if neg then .neq else .eql) t x y u → nilKind P t k → step M call e h (.nileq k neg x' y') = some (v, h') → AtRep loc (oprTmps x' ++ oprTmps y') e a.tmps → Out P o a loc h w v h' := by
        intro k neg ho hk hs he
        simp only [step] at hs
        obtain ⟨r, hr, hs⟩ := map_pair hs
        simp only [Prod.mk.injEq] at hs
        obtain ⟨rfl, rfl⟩ := hs
        exact o_nileq ho hx hy hg s he hk hr
      split at hop
      · split at hop <;> simp only [Option.some.injEq, reduceCtorEq] at hop <;> subst hop <;> rename_i hk
        · exact bin _ ho rfl hs he
        · exact peq false ho hk hs he
        · exact neq .sl false ho hk hs he
        · exact neq .mp false ho hk hs he
        · exact neq .fn false ho hk hs he
        · exact beq false ho hk hs he
      · split at hop <;> simp only [Option.some.injEq, reduceCtorEq] at hop <;> subst hop <;> rename_i hk
        · exact bin _ ho rfl hs he
        · exact peq true ho hk hs he
        · exact neq .sl true ho hk hs he
        · exact neq .mp true ho hk hs he
        · exact neq .fn true ho hk hs he
        · exact beq true ho hk hs he
      · simp only [Option.some.injEq] at hop; subst hop
        exact bin _ ho rfl hs he
    · cases hop
  | unOp op t x =>
    simp only [cop, ho] at hop
    obtain ⟨y, hy, rfl⟩ := map_pair hop
    simp only [step] at hs
    obtain ⟨v2, hv, hs⟩ := map_pair hs
    simp only [Prod.mk.injEq] at hs
    obtain ⟨rfl, rfl⟩ := hs
    exact o_un ho hy hg s he hv
  | convert t u x =>
    simp only [cop, ho] at hop
    split at hop
    case h_2 => cases hop
    rename_i y hy
    split at hop
    · rename_i j k ht hu
      simp only [Option.some.injEq] at hop; subst hop
      simp only [step] at hs
      split at hs <;> (try simp only [Option.some.injEq, Prod.mk.injEq, reduceCtorEq] at hs) <;> (try contradiction)
      rename_i hc hp
      cases hc
      obtain ⟨rfl, rfl⟩ := hs
      exact o_conv_int ho hy hg s he ht hu hp
    · rename_i ht hu
      simp only [Option.some.injEq] at hop; subst hop
      simp only [step] at hs
      split at hs <;> (try simp only [Option.some.injEq, Prod.mk.injEq, reduceCtorEq] at hs) <;> (try contradiction)
      rename_i hc hp
      obtain ⟨rfl, rfl⟩ := hs
      exact o_conv_str ho hy hg s he ht hu hp
    · rename_i el ht hu
      split at hop
      · rename_i h8
        simp only [Option.some.injEq] at hop; subst hop
        simp only [step] at hs
        split at hs <;> (try simp only [Option.some.injEq, Prod.mk.injEq, reduceCtorEq] at hs) <;> (try contradiction)
        rename_i hc hp
        obtain ⟨rfl, rfl⟩ := hs
        exact o_conv_s2b ho hy hg s he ht hu h8 hp
      · cases hop
    · rename_i el ht hu
      split at hop
      · rename_i h8
        simp only [Option.some.injEq] at hop; subst hop
        simp only [step] at hs
        split at hs <;> (try contradiction)
        · rename_i hc hp
          simp only [Option.some.injEq, Prod.mk.injEq] at hs
          obtain ⟨rfl, rfl⟩ := hs
          exact o_conv_b2s_nil ho hy hg s he ht hu h8 hp
        · rename_i hc hp
          obtain ⟨st, hb, hs⟩ := map_pair hs
          simp only [Prod.mk.injEq] at hs
          obtain ⟨rfl, rfl⟩ := hs
          exact o_conv_b2s ho hy hg s he ht hu h8 hp hb
      · cases hop
    · rename_i el' el ht hu
      split at hop
      · rename_i hcond
        simp only [Bool.and_eq_true, beq_iff_eq] at hcond
        simp only [Option.some.injEq] at hop; subst hop
        simp only [step] at hs
        split at hs <;> (try contradiction)
        rename_i b off len cap z hc hp
        split at hs
        · rename_i ez vs hb
          split at hs
          · rename_i h0
            simp only [Option.some.injEq, Prod.mk.injEq] at hs
            obtain ⟨rfl, rfl⟩ := hs
            exact o_conv_bs ho hy hg s he ⟨el', ht⟩ hcond.1 hu hcond.2 hp hb h0.1 h0.2
          · cases hs
        · cases hs
      · cases hop
    · cases hop
  | makeInterface t x =>
    simp only [cop, ho] at hop
    split at hop
    · cases hop
    · rename_i d y hni hd hy
      simp only [Option.some.injEq] at hop; subst hop
      simp only [step, Option.some.injEq, Prod.mk.injEq] at hs
      obtain ⟨rfl, rfl⟩ := hs
      exact o_mki ho hy hg s he hd (fun ms hms => hni ms hms)
    · cases hop
  | makeFunc fn x y =>
    cases fn with
    | func f =>
      simp only [cop, ho] at hop
      split at hop
      · rename_i x' y' hx hy
        simp only [Option.some.injEq] at hop; subst hop
        simp only [step, Option.some.injEq, Prod.mk.injEq] at hs
        obtain ⟨rfl, rfl⟩ := hs
        exact o_mkf ho hx hy hg s he
      · cases hop
    | _ => simp [cop, ho] at hop
  | makeMap t r =>
    cases r with
    | none =>
      simp only [cop, ho, Option.some.injEq] at hop; subst hop
      simp only [step, Option.some.injEq, Prod.mk.injEq] at hs
      obtain ⟨rfl, rfl⟩ := hs
      exact o_mkm ho s
    | some _ => simp [cop, ho] at hop
  | makeSlice t x z =>
    simp only [cop, ho] at hop
    split at hop
    · rename_i el hu
      split at hop
      · rename_i sz zs y q hsz hz hy hq
        simp only [Option.some.injEq] at hop; subst hop
        simp only [step] at hs
        split at hs
        · rename_i k l k' c hl hc
          split at hs
          · rename_i hb
            simp only [Option.some.injEq, Prod.mk.injEq] at hs
            obtain ⟨rfl, rfl⟩ := hs
            exact o_mks ho hu hsz hz hy hq hg s he hl hc hb
          · cases hs
        · cases hs
      · cases hop
    · cases hop
  | slice t x lo hi mx =>
    simp only [cop, ho] at hop
    split at hop
    case h_2 => cases hop
    rename_i y lo' hi' mx' hy hlo hhi hmx
    split at hop
    · rename_i hu
      simp only [Option.some.injEq] at hop; subst hop
      simp only [step] at hs
      split at hs <;> (try contradiction)
      rename_i st _ hp
      split at hs
      · cases hs
      · rename_i hns
        cases mx' with
        | some q => simp at hns
        | none =>
          cases mx with
          | some q => simp only [oopr, Option.map_eq_some_iff] at hmx; obtain ⟨z, -, hz⟩ := hmx; cases hz
          | none =>
            obtain ⟨⟨l, u, m⟩, hb, hs⟩ := map_pair hs
            simp only [Prod.mk.injEq] at hs
            obtain ⟨rfl, rfl⟩ := hs
            exact o_slc_str ho hy hlo hhi hg s he hu hp hb
    · rename_i el hu
      obtain ⟨sz, hsz, rfl⟩ := map_pair hop
      simp only [step] at hs
      split at hs <;> (try contradiction)
      · rename_i b off len cap z hk hp
        cases hk
        split at hs
        · rename_i hz; subst hz
          obtain ⟨⟨l, u, m⟩, hb, hs⟩ := map_pair hs
          simp only [Prod.mk.injEq] at hs
          obtain ⟨rfl, rfl⟩ := hs
          exact o_slc_sl ho hy hlo hhi hmx hg s he hu hsz hp hb
        · cases hs
      · rename_i hk hp
        cases hk
        obtain ⟨⟨l, u, m⟩, hb, hs⟩ := map_pair hs
        simp only [Prod.mk.injEq] at hs
        obtain ⟨rfl, rfl⟩ := hs
        exact o_slc_nil ho hy hlo hhi hmx hg s he hu hsz hp hb
    · rename_i n el hu
      obtain ⟨sz, hsz, rfl⟩ := map_pair hop
      simp only [step] at hs
      split at hs <;> (try contradiction)
      rename_i b off hk hp
      cases hk
      split at hs
      · rename_i hv
        obtain ⟨⟨l, u, m⟩, hb, hs⟩ := map_pair hs
        simp only [Prod.mk.injEq] at hs
        obtain ⟨rfl, rfl⟩ := hs
        exact o_slc_arr ho hy hlo hhi hmx hg s he hu hsz hp (isVar_e s hv) hb
      · cases hs
    · cases hop
  | fieldAddr t x i =>
    simp only [cop, ho] at hop
    split at hop
    · rename_i fs hu
      split at hop
      · rename_i f hf
        split at hop
        · rename_i n y hn hy
          simp only [Option.some.injEq] at hop; subst hop
          simp only [step] at hs
          split at hs
          · rename_i b off hp
            simp only [Option.some.injEq, Prod.mk.injEq] at hs
            obtain ⟨rfl, rfl⟩ := hs
            exact o_fa ho hy hg s he hu hf hn hp
          · cases hs
        · cases hop
      · cases hop
    · cases hop
  | field t x i =>
    simp only [cop, ho] at hop
    split at hop
    · rename_i fs hu
      split at hop
      · rename_i f hf
        split at hop
        · rename_i g n y ht hn hy
          simp only [Option.some.injEq] at hop; subst hop
          simp only [step] at hs
          split at hs
          · rename_i cs hp
            obtain ⟨v2, hv, hs⟩ := map_pair hs
            simp only [Prod.mk.injEq] at hs
            obtain ⟨rfl, rfl⟩ := hs
            exact o_fld ho hy hg s he hu hf ht hn hp hv
          · cases hs
        · cases hop
      · cases hop
    · cases hop
  | indexAddr t x i =>
    simp only [cop, ho] at hop
    split at hop
    case h_2 => cases hop
    rename_i y u hy hui
    split at hop
    · rename_i el hu
      obtain ⟨sz, hsz, rfl⟩ := map_pair hop
      simp only [step] at hs
      split at hs
      · rename_i k i hi
        split at hs <;> (try contradiction)
        rename_i b off len cap z hk hp
        cases hk
        split at hs
        · rename_i hb
          simp only [Option.some.injEq, Prod.mk.injEq] at hs
          obtain ⟨rfl, rfl⟩ := hs
          exact o_ia_sl ho hy hui hg s he hu hsz hp hi hb
        · cases hs
      · cases hs
    · rename_i n el hu
      obtain ⟨sz, hsz, rfl⟩ := map_pair hop
      simp only [step] at hs
      split at hs
      · rename_i k i hi
        split at hs <;> (try contradiction)
        rename_i b off hk hp
        cases hk
        split at hs
        · rename_i hb
          simp only [Option.some.injEq, Prod.mk.injEq] at hs
          obtain ⟨rfl, rfl⟩ := hs
          exact o_ia_arr ho hy hui hg s he hu hsz hp hi hb
        · cases hs
      · cases hs
    · cases hop
  | index t x i =>
    simp only [cop, ho] at hop
    split at hop
    case h_2 => cases hop
    rename_i y u hy hui
    split at hop
    · rename_i hu
      simp only [Option.some.injEq] at hop; subst hop
      simp only [step] at hs
      split at hs
      · rename_i k i hi
        split at hs <;> (try contradiction)
        rename_i st _ hp
        split at hs
        · rename_i hb
          obtain ⟨c, hc, hs⟩ := map_pair hs
          simp only [Prod.mk.injEq] at hs
          obtain ⟨rfl, rfl⟩ := hs
          exact o_idx_str ho hy hui hg s he hu hp hi hb hc
        · cases hs
      · cases hs
    · rename_i n el hu
      split at hop
      · rename_i g sz ht hsz
        simp only [Option.some.injEq] at hop; subst hop
        simp only [step] at hs
        split at hs
        · rename_i k i hi
          split at hs <;> (try contradiction)
          rename_i cs hk hp
          cases hk
          split at hs
          · rename_i hb
            obtain ⟨c, hc, hs⟩ := map_pair hs
            simp only [Prod.mk.injEq] at hs
            obtain ⟨rfl, rfl⟩ := hs
            exact o_idx_arr ho hy hui hg s he hu ht hsz hp hi hb hc
          · cases hs
        · cases hs
      · cases hop
    · cases hop
  | lookup t m k ok =>
    simp only [cop, ho] at hop
    split at hop
    case h_2 => cases hop
    rename_i m' k' hm hk
    split at hop
    · rename_i kt el hu
      split at hop
      · rename_i sk g zs ht hag hz
        split at hop
        · rename_i hzk
          obtain ⟨z, hzz, rfl⟩ := map_pair hop
          simp only [step] at hs
          obtain ⟨r, hr, hs⟩ := map_pair hs
          simp only [Prod.mk.injEq] at hs
          obtain ⟨rfl, rfl⟩ := hs
          exact o_look ho hm hk hg s he hu ht hag hz hzz hzk hr
        · cases hop
      · cases hop
    · cases hop
  | mapUpdate t m k x =>
    simp only [cop, ho] at hop
    split at hop
    case h_2 => cases hop
    rename_i m' k' x' hm hk hx
    split at hop
    · rename_i kt el hu
      obtain ⟨sk, ht, rfl⟩ := map_pair hop
      simp only [step] at hs
      split at hs
      · rename_i b hp
        split at hs
        · rename_i es hes
          split at hs
          · rename_i hself
            obtain ⟨es2, hput, hs⟩ := map_pair hs
            simp only [Prod.mk.injEq] at hs
            obtain ⟨rfl, rfl⟩ := hs
            exact o_mset (.inl ho) hm hk hx hg s he hu ht hp hes hself hput
          · cases hs
        · cases hs
      · cases hs
    · cases hop
  | insert t m k x =>
    simp only [cop, ho] at hop
    split at hop
    case h_2 => cases hop
    rename_i m' k' x' hm hk hx
    split at hop
    · rename_i kt el hu
      obtain ⟨sk, ht, rfl⟩ := map_pair hop
      simp only [step] at hs
      split at hs
      · rename_i b hp
        split at hs
        · rename_i es hes
          split at hs
          · rename_i hself
            obtain ⟨es2, hput, hs⟩ := map_pair hs
            simp only [Prod.mk.injEq] at hs
            obtain ⟨rfl, rfl⟩ := hs
            exact o_mset (.inr ho) hm hk hx hg s he hu ht hp hes hself hput
          · cases hs
        · cases hs
      · cases hs
    · cases hop
  | extract x i =>
    simp only [cop, ho] at hop
    obtain ⟨y, hy, rfl⟩ := map_pair hop
    simp only [step] at hs
    split at hs
    · rename_i vs hp
      obtain ⟨v2, hv, hs⟩ := map_pair hs
      simp only [Prod.mk.injEq] at hs
      obtain ⟨rfl, rfl⟩ := hs
      exact o_ext ho hy hg s he hp hv
    · cases hs
  | range t x =>
    simp only [cop, ho] at hop
    split at hop
    · rename_i hu
      obtain ⟨y, hy, rfl⟩ := map_pair hop
      simp only [step] at hs
      split at hs
      · rename_i st hp
        simp only [Option.some.injEq, Prod.mk.injEq] at hs
        obtain ⟨rfl, rfl⟩ := hs
        exact o_rng ho hy hg s he hu hp
      · cases hs
    · cases hop
  | next x isS =>
    cases isS with
    | false => simp [cop, ho] at hop
    | true =>
      simp only [cop, ho] at hop
      obtain ⟨y, hy, rfl⟩ := map_pair hop
      simp only [step] at hs
      split at hs
      · rename_i b hp
        split at hs
        · rename_i st pos hi
          split at hs
          · rename_i hlt
            simp only [Option.some.injEq, Prod.mk.injEq] at hs
            obtain ⟨rfl, rfl⟩ := hs
            exact o_nxt_more ho hy hg s he hp hi hlt
          · rename_i hlt
            simp only [Option.some.injEq, Prod.mk.injEq] at hs
            obtain ⟨rfl, rfl⟩ := hs
            exact o_nxt_over ho hy hg s he hp hi hlt
        · cases hs
      · cases hs
  | typeAssert x t u ok =>
    cases ok with
    | true => simp [cop, ho] at hop
    | false =>
      simp only [cop, ho] at hop
      split at hop
      · cases hop
      · rename_i d y hni hd hy
        simp only [Option.some.injEq] at hop; subst hop
        simp only [step] at hs
        split at hs
        · rename_i q vv hp
          split at hs
          · rename_i hq; subst hq
            simp only [Option.some.injEq, Prod.mk.injEq] at hs
            obtain ⟨rfl, rfl⟩ := hs
            exact o_tass ho hy hg s he hd (fun ms hms => hni ms hms) hp
          · cases hs
        · cases hs
      · cases hop
  | call c =>
    simp only [cop, ho] at hop
    split at hop
    case h_2 => cases hop
    rename_i xs hxs
    cases hcc : c.callee with
    | builtin b => exact absurd hcc (hnb c b ho)
    | value x =>
      cases x with
      | func f =>
        simp only [hcc, Option.some.injEq] at hop; subst hop
        simp only [step] at hs
        exact o_call hcall ho hcc hxs hg s he hs
      | _ =>
        simp only [hcc] at hop
        obtain ⟨y, hy, rfl⟩ := map_pair hop
        simp only [step] at hs
        split at hs
        · rename_i f q c' hp
          exact o_callv hcall ho hcc hy hxs hg s he hp hs
        · cases hs
    | invoke r m =>
      simp only [hcc] at hop
      obtain ⟨y, hy, rfl⟩ := map_pair hop
      simp only [step] at hs
      split at hs
      · rename_i t rv hp
        split at hs
        · rename_i f hm
          exact o_callm hcall ho hcc hy hxs hg s he hp (hM _ _ _ hm) rfl hs
        · rename_i f g n hm
          split at hs
          · rename_i b off
            simp only [Option.bind_eq_some_iff] at hs
            obtain ⟨ra, hra, hs⟩ := hs
            exact o_callm hcall ho hcc hy hxs hg s he hp (hM _ _ _ hm) ⟨b, off, rfl, by rw [Option.bind_eq_some_iff]; exact hra⟩ hs
          · cases hs
        · cases hs
      · cases hs
  | _ => simp [cop, ho] at hop
end
end Go.Ai

/- The built-in functions; one operation, whatever it is. -/
set_option linter.unusedSimpArgs false
set_option linter.unusedVariables false
namespace Go.Ai
open Go

section
variable {G : List Nat} {P : Program} {loc : Loc} {h h' : AHeap} {w : World} {e : Env} {a : Act} {o : Oper} {v : AVal} {M : Meth} {call : CallT}

theorem coprs_one {xs : List Operand} {y : Opr} (hc : coprs G xs = some [y]) : ∃ x, xs = [x] ∧ copr G x = some y := by
  cases xs with
  | nil => simp [coprs] at hc
  | cons x r =>
    simp only [coprs] at hc
    split at hc
    · rename_i y' z hy hz
      simp only [Option.some.injEq, List.cons.injEq] at hc
      obtain ⟨rfl, rfl⟩ := hc
      cases r with
      | nil => exact ⟨x, rfl, hy⟩
      | cons x2 r2 =>
        simp only [coprs] at hz
        split at hz <;> simp at hz
    · cases hc

theorem coprs_two {xs : List Operand} {y z : Opr} (hc : coprs G xs = some [y, z]) : ∃ x u, xs = [x, u] ∧ copr G x = some y ∧ copr G u = some z := by
  cases xs with
  | nil => simp [coprs] at hc
  | cons x r =>
    simp only [coprs] at hc
    split at hc
    · rename_i y' q hy hz
      simp only [Option.some.injEq, List.cons.injEq] at hc
      obtain ⟨rfl, rfl⟩ := hc
      obtain ⟨u, rfl, hu⟩ := coprs_one hz
      exact ⟨x, u, rfl, hy, hu⟩
    · cases hc

theorem o_len_arr {x : Operand} {c : Call} {n : Nat} (ho : o.op = .call c) (hc : c.callee = .builtin .len) (ha : c.args.toList = [x]) (s : Sim loc h w)
    {t el : TypeId} (ht : c.argTypes[0]? = some t) (hu : P.underlying t = some (.array n el)) : Out P o a loc h w (goI n) h := by
  refine out_same s (v' := .int .i64 n) (run_builtin ho hc ha ?_) (.int _ _)
  simp [builtin, Builtin.len_, ht, run_und hu, goInt]

theorem step_builtin {op : AOp} (hop : cop G P o = some op) (hs : step M call e h op = some (v, h')) (hg : Globs G loc) (s : Sim loc h w) (he : AtRep loc (tmpsOf op) e a.tmps)
    {c : Call} {b : Builtin} (ho : o.op = .call c) (hc : c.callee = .builtin b) : Out P o a loc h w v h' := by
  simp only [cop, ho] at hop
  split at hop
  case h_2 => cases hop
  rename_i xs hxs
  simp only [hc] at hop
  split at hop
  case h_2 => cases hop
  rename_i t htt
  unfold cbuiltin at hop
  split at hop
  · obtain ⟨x, hx1, hx⟩ := coprs_one hxs
    split at hop
    · rename_i n el hu
      simp only [Option.some.injEq] at hop; subst hop
      simp only [step, Option.some.injEq, Prod.mk.injEq] at hs
      obtain ⟨rfl, rfl⟩ := hs
      exact o_len_arr ho hc hx1 s htt hu
    · rename_i hu
      simp only [Option.some.injEq] at hop; subst hop
      simp only [step] at hs
      split at hs <;> (try contradiction) <;> (try (rename_i hk _; cases hk; done))
      rename_i st _ hp
      simp only [Option.some.injEq, Prod.mk.injEq] at hs
      obtain ⟨rfl, rfl⟩ := hs
      exact o_len_str ho hc hx1 hx hg s he htt hu hp
    · rename_i el hu
      simp only [Option.some.injEq] at hop; subst hop
      simp only [step] at hs
      split at hs <;> (try contradiction)
      · rename_i b0 off n cap ez _ hp
        simp only [Option.some.injEq, Prod.mk.injEq] at hs
        obtain ⟨rfl, rfl⟩ := hs
        exact o_len_sl ho hc hx1 hx hg s he htt hu hp
      · rename_i _ hp
        simp only [Option.some.injEq, Prod.mk.injEq] at hs
        obtain ⟨rfl, rfl⟩ := hs
        exact o_len_nils ho hc hx1 hx hg s he htt hu hp
    · rename_i kt el hu
      simp only [Option.some.injEq] at hop; subst hop
      simp only [step] at hs
      split at hs <;> (try contradiction)
      · rename_i _ hp
        simp only [Option.some.injEq, Prod.mk.injEq] at hs
        obtain ⟨rfl, rfl⟩ := hs
        exact o_len_nilm ho hc hx1 hx hg s he htt hu hp
      · rename_i b0 _ hp
        split at hs
        · rename_i es hes
          simp only [Option.some.injEq, Prod.mk.injEq] at hs
          obtain ⟨rfl, rfl⟩ := hs
          exact o_len_mp ho hc hx1 hx hg s he htt hu hp hes
        · cases hs
    · cases hop
  · rename_i y q
    obtain ⟨x, z, hx1, hx, hz⟩ := coprs_two hxs
    have app : ∀ {el u : TypeId} {d : TypeDesc} {sz : Nat} {zs : List AVal}, P.underlying t = some (.slice el) → c.argTypes[1]? = some u → P.underlying u = some d → (∀ k, d ≠ .int k) → tsize P el = some sz → tzero P el = some zs → some (AOp.app sz (P.bytesOf el) y q) = some op → Out P o a loc h w v h' := by
      intro el u d sz zs hu hu1 hd1 hne hsz hzs hop
      simp only [Option.some.injEq] at hop; subst hop
      simp only [step, Option.bind_eq_some_iff] at hs
      obtain ⟨⟨n, cs⟩, hel, hap⟩ := hs
      exact o_app ho hc hx1 hx hz hg s he htt hu1 hd1 hne hu hsz hzs rfl hel hap
    split at hop
    · rename_i el el2 hu hu2
      simp only [Option.bind_eq_some_iff] at hu2
      obtain ⟨u, hu1, hd1⟩ := hu2
      split at hop
      · rename_i sz zs hsz hzs
        exact app hu hu1 hd1 (fun k hk => by cases hk) hsz hzs hop
      · cases hop
    · rename_i el hu hu2
      simp only [Option.bind_eq_some_iff] at hu2
      obtain ⟨u, hu1, hd1⟩ := hu2
      split at hop
      · rename_i sz zs hsz hzs
        exact app hu hu1 hd1 (fun k hk => by cases hk) hsz hzs hop
      · cases hop
    · cases hop
  · rename_i y q
    obtain ⟨x, z, hx1, hx, hz⟩ := coprs_two hxs
    split at hop
    · rename_i el hu
      obtain ⟨sz, hsz, rfl⟩ := map_pair hop
      simp only [step] at hs
      split at hs
      · rename_i hp
        obtain ⟨⟨n, cs⟩, hel, hs⟩ := map_pair hs
        simp only [Prod.mk.injEq] at hs
        obtain ⟨rfl, rfl⟩ := hs
        exact o_copy_nil ho hc hx1 hx hz hg s he htt hu hsz hel hp
      · rename_i b0 off len cap ez hp
        split at hs
        · cases hs
        · rename_i hez
          have hez := Decidable.not_not.1 hez
          subst hez
          simp only [Option.bind_eq_some_iff] at hs
          obtain ⟨⟨n, cs⟩, hel, hs⟩ := hs
          simp only at hs
          split at hs
          · rename_i h0
            simp only [Option.some.injEq, Prod.mk.injEq] at hs
            obtain ⟨rfl, rfl⟩ := hs
            exact o_copy ho hc hx1 hx hz hg s he htt hu hsz hel hp (.inl ⟨h0, rfl, rfl⟩)
          · rename_i h0
            obtain ⟨h2, hst, hs⟩ := map_pair hs
            simp only [Prod.mk.injEq] at hs
            obtain ⟨rfl, rfl⟩ := hs
            exact o_copy ho hc hx1 hx hz hg s he htt hu hsz hel hp (.inr ⟨h0, rfl, hst⟩)
      · cases hs
    · cases hop
  · rename_i y q
    obtain ⟨x, z, hx1, hx, hz⟩ := coprs_two hxs
    split at hop
    · rename_i kt el hu
      obtain ⟨sk, ht, rfl⟩ := map_pair hop
      simp only [step] at hs
      split at hs
      · rename_i hp
        simp only [Option.some.injEq, Prod.mk.injEq] at hs
        obtain ⟨rfl, rfl⟩ := hs
        exact o_del_nil ho hc hx1 hx hg s he htt hu ht hp
      · rename_i b0 hp
        split at hs
        · rename_i es hes
          obtain ⟨es2, hd, hs⟩ := map_pair hs
          simp only [Prod.mk.injEq] at hs
          obtain ⟨rfl, rfl⟩ := hs
          exact o_del ho hc hx1 hx hz hg s he htt hu ht hp hes hd
        · cases hs
      · cases hs
    · cases hop
  · rename_i y
    obtain ⟨x, hx1, hx⟩ := coprs_one hxs
    split at hop
    · rename_i el hu
      obtain ⟨zs, hz, rfl⟩ := map_pair hop
      simp only [step] at hs
      split at hs
      · rename_i hp
        simp only [Option.some.injEq, Prod.mk.injEq] at hs
        obtain ⟨rfl, rfl⟩ := hs
        exact o_clr_nil ho hc hx1 hx hg s he htt hu hp
      · rename_i b0 off n cap ez hp
        split at hs
        · rename_i h0
          simp only [Option.some.injEq, Prod.mk.injEq] at hs
          obtain ⟨rfl, rfl⟩ := hs
          exact o_clr ho hc hx1 hx hg s he htt hu hz hp (.inl ⟨h0, rfl⟩)
        · rename_i h0
          obtain ⟨h2, hst, hs⟩ := map_pair hs
          simp only [Prod.mk.injEq] at hs
          obtain ⟨rfl, rfl⟩ := hs
          exact o_clr ho hc hx1 hx hg s he htt hu hz hp (.inr ⟨h0, hst⟩)
      · cases hs
    · cases hop
  · rename_i y q
    obtain ⟨x, z, hx1, hx, hz⟩ := coprs_two hxs
    simp only [Option.some.injEq] at hop; subst hop
    simp only [step] at hs
    split at hs
    · rename_i k i k' j hi hj
      simp only [Option.some.injEq, Prod.mk.injEq] at hs
      obtain ⟨rfl, rfl⟩ := hs
      exact o_mn ho hc hx1 hx hz hg s he hi hj
    · cases hs
  · rename_i y q
    obtain ⟨x, z, hx1, hx, hz⟩ := coprs_two hxs
    simp only [Option.some.injEq] at hop; subst hop
    simp only [step] at hs
    split at hs
    · rename_i k i k' j hi hj
      simp only [Option.some.injEq, Prod.mk.injEq] at hs
      obtain ⟨rfl, rfl⟩ := hs
      exact o_mx ho hc hx1 hx hz hg s he hi hj
    · cases hs
  · cases hop

/-- ONE OPERATION. -/
theorem step_sound (hM : ∀ t n r, M t n = some r → methOf P t n = some r) (hcall : CallOK G P call) {op : AOp} (hop : cop G P o = some op) (hs : step M call e h op = some (v, h'))
    (hg : Globs G loc) (s : Sim loc h w) (he : AtRep loc (tmpsOf op) e a.tmps) : Out P o a loc h w v h' := by
  by_cases hb : ∃ c b, o.op = .call c ∧ c.callee = .builtin b
  · obtain ⟨c, b, ho, hc⟩ := hb
    exact step_builtin hop hs hg s he ho hc
  · exact step_plain hM hcall hop hs hg s he (fun c b ho hc => hb ⟨c, b, ho, hc⟩)
end
end Go.Ai

