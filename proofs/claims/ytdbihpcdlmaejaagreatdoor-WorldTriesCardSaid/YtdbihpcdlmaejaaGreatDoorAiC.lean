/- An evaluator for the model's code, proved sound: part AiC. Not of one program: lemmas for the claim. -/
import Derived.Test.YtdbihpcdlmaejaaGreatDoorAiB
import Derived.Laws.BytesString
import Derived.Laws.StructEq
/- What makes a block; conversions; look-ups. -/
set_option linter.unusedSimpArgs false
set_option linter.unusedVariables false
namespace Go.Ai
open Go

section
variable {G : List Nat} {P : Program} {loc : Loc} {h h' : AHeap} {w : World} {e : Env} {a : Act} {o : Oper} {v : AVal}

/-! ## Parts -/

theorem foldl_set (off : Nat) : ∀ (ns : List Value) (k : Nat) (cs : Array Value), off + k + ns.length ≤ cs.size →
    ((ns.zipIdx k).foldl (fun (c : Array Value) (p : Value × Nat) => c.setIfInBounds (off + p.2) p.1) cs).toList = cs.toList.take (off + k) ++ (ns ++ cs.toList.drop (off + k + ns.length))
  | [], k, cs, h => by simp
  | v :: ns, k, cs, h => by
    simp only [List.length_cons] at h
    simp only [List.zipIdx_cons, List.foldl_cons]
    rw [foldl_set off ns (k + 1) (cs.setIfInBounds (off + k) v) (by simp; omega)]
    simp only [Array.toList_setIfInBounds, List.length_cons]
    have hlt : off + k < cs.toList.length := by simp; omega
    have e1 : (cs.toList.set (off + k) v).take (off + (k + 1)) = cs.toList.take (off + k) ++ [v] := by
      rw [list_set_split _ _ _ hlt, ← Nat.add_assoc, List.take_append]
      have hm : min (off + k) cs.size = off + k := by omega
      have hm2 : off + k + 1 - (off + k) = 1 := by omega
      simp only [List.length_take, Array.length_toList, hm, hm2, List.take_take, List.take_succ_cons, List.take_zero]
      congr 2; omega
    have e2 : (cs.toList.set (off + k) v).drop (off + (k + 1) + ns.length) = cs.toList.drop (off + k + (ns.length + 1)) := by
      rw [List.drop_set, if_pos (by omega)]
      congr 1; omega
    rw [e1, e2]; simp

/-- the parts as the model has them: a number and a value each; the places are the same -/
inductive Parts (loc : Loc) (pl : Nat → Option (Nat × Nat)) : List (Nat × Nat × AVal) → List (Nat × Value) → Prop
  | nil : Parts loc pl [] []
  | cons (i off n : Nat) (v : AVal) (v' : Value) (r : List (Nat × Nat × AVal)) (r' : List (Nat × Value)) (h : pl i = some (off, n)) (hv : Rep loc v v') (hr : Parts loc pl r r') : Parts loc pl ((off, n, v) :: r) ((i, v') :: r')

theorem fill_rep {pl : Nat → Option (Nat × Nat)} {ps : List (Nat × Nat × AVal)} {ps' : List (Nat × Value)} (hp : Parts loc pl ps ps') : ∀ {cs r : List AVal} {cs' : Array Value}, RepL loc cs cs'.toList → fill cs ps = some r →
    ∃ r' : Array Value, Instr.fill pl cs' ps' = some r' ∧ RepL loc r r'.toList := by
  induction hp with
  | nil => intro cs r cs' hc hf; simp only [fill, Option.some.injEq] at hf; subst hf; exact ⟨cs', rfl, hc⟩
  | cons i off n v v' r r' hpl hv hr ih =>
    intro cs q cs' hc hf
    simp only [fill] at hf
    split at hf
    · rename_i hcond
      have hcells := hv.cells
      have hlen : v'.cells.size = n := by have := hcells.length; simp at this; omega
      have hsz : off + n ≤ cs'.size := by have := hc.length; simp at this; omega
      have hset := foldl_set off v'.cells.toList 0 cs' (by simp; omega)
      have hover : RepL loc (over cs off (cellsOf v)) (v'.cells.zipIdx.foldl (fun (c : Array Value) (p : Value × Nat) => c.setIfInBounds (off + p.2) p.1) cs').toList := by
        rw [← Array.foldl_toList, Array.toList_zipIdx, hset]
        have := hc.over hcells off
        simpa using this
      obtain ⟨r2, h1, h2⟩ := ih hover hf
      refine ⟨r2, ?_, h2⟩
      simp only [Instr.fill, hpl]
      rw [if_neg (by simp; omega)]
      exact h1
    · cases hf

theorem cparts_rep {pl : Nat → Option (Nat × Nat)} : ∀ {ps : List (Nat × Operand)} {qs : List (Nat × Nat × Opr)}, cparts G pl ps = some qs → Globs G loc → AtRep loc (qs.flatMap fun p => oprTmps p.2.2) e a.tmps →
    Parts loc pl (evParts e qs) (ps.map fun p => (p.1, a.eval p.2))
  | [], qs, hc, hg, he => by simp only [cparts, Option.some.injEq] at hc; subst hc; exact .nil
  | (i, x) :: r, qs, hc, hg, he => by
    simp only [cparts] at hc
    split at hc
    · rename_i off n y z h1 h2 h3
      simp only [Option.some.injEq] at hc; subst hc
      simp only [List.flatMap_cons] at he
      exact .cons i off n _ _ _ _ h1 (copr_rep h2 hg he.left) (cparts_rep h3 hg he.right)
    · cases hc

theorem run_places : ∀ {fs : List Field} {pl : List (Nat × Nat)}, places P fs = some pl → (fs.mapM fun f => do pure (f.offset, ← sizeOf f.type) : Sem (List (Nat × Nat))).run P w = .ok pl w
  | [], pl, hp => by simp only [places, Option.some.injEq] at hp; subst hp; rfl
  | f :: r, pl, hp => by
    simp only [places] at hp
    split at hp
    · rename_i s l h1 h2
      simp only [Option.some.injEq] at hp; subst hp
      have := run_places h2
      simp only [List.mapM_cons, Sem.run_bind, run_tsize h1, Result.andThen_ok, Sem.run_pure, this]
    · cases hp

theorem o_build_struct {t : TypeId} {fs : Array Field} {pl : List (Nat × Nat)} {zs cs : List AVal} {ps : Array (Nat × Operand)} {qs : List (Nat × Nat × Opr)} (ho : o.op = .build t ps) (hz : tzero P t = some zs) (hu : P.underlying t = some (.struct fs)) (hpl : places P fs.toList = some pl)
    (hq : cparts G (fun i => pl[i]?) ps.toList = some qs) (hg : Globs G loc) (s : Sim loc h w) (he : AtRep loc (qs.flatMap fun p => oprTmps p.2.2) e a.tmps) (hf : fill zs (evParts e qs) = some cs) : Out P o a loc h w (.agg cs) h := by
  obtain ⟨z, hrz, hzr, -⟩ := run_tzero (P := P) (loc := loc) (w := w) hz
  obtain ⟨r, h1, h2⟩ := fill_rep (cparts_rep hq hg he) hzr hf
  have hm := run_places (w := w) hpl
  refine out_same s (v' := .agg r) ?_ ?_
  · simp only [execOp, ho, Sem.run_bind, Instr.build, hrz, Result.andThen_ok, run_und hu, Array.mapM_eq_mapM_toList, Sem.run_map, hm]
    have e1 : (fun (i : Nat) => pl.toArray[i]?) = (fun (i : Nat) => pl[i]?) := by funext i; simp
    have e2 : (Array.map (fun (x : Nat × Operand) => (x.1, a.eval x.2)) ps).toList = ps.toList.map fun p => (p.1, a.eval p.2) := by simp
    simp only [e1, e2, h1, Sem.run_pure, Result.andThen_ok]
  · have := Rep.agg (loc := loc) cs r.toList h2
    simpa using this

theorem o_build_arr {t el : TypeId} {n sz : Nat} {zs cs : List AVal} {ps : Array (Nat × Operand)} {qs : List (Nat × Nat × Opr)} (ho : o.op = .build t ps) (hz : tzero P t = some zs) (hu : P.underlying t = some (.array n el)) (hsz : tsize P el = some sz)
    (hq : cparts G (fun i => some (i * sz, sz)) ps.toList = some qs) (hg : Globs G loc) (s : Sim loc h w) (he : AtRep loc (qs.flatMap fun p => oprTmps p.2.2) e a.tmps) (hf : fill zs (evParts e qs) = some cs) : Out P o a loc h w (.agg cs) h := by
  obtain ⟨z, hrz, hzr, -⟩ := run_tzero (P := P) (loc := loc) (w := w) hz
  obtain ⟨r, h1, h2⟩ := fill_rep (cparts_rep hq hg he) hzr hf
  refine out_same s (v' := .agg r) ?_ ?_
  · have e2 : (Array.map (fun (x : Nat × Operand) => (x.1, a.eval x.2)) ps).toList = ps.toList.map fun p => (p.1, a.eval p.2) := by simp
    simp only [execOp, ho, Sem.run_bind, Instr.build, hrz, Result.andThen_ok, run_und hu, run_tsize hsz, e2, h1, Sem.run_pure]
  · have := Rep.agg (loc := loc) cs r.toList h2
    simpa using this

/-! ## New blocks -/

/-- a new row of cells -/
theorem row_sim (s : Sim loc h w) (ez : Nat) (cs : List AVal) (C : Array Value) (ty : TypeId) (hr : RepL loc cs (C.toList.take cs.length)) (hle : cs.length ≤ C.size) {w' : World} (hw : w'.heap = w.heap.push (.cells C ty (0, 0))) (ho : w'.os = w.os) (hp : w'.output = w.output) :
    Sim (upd loc h.n ⟨w.heap.size, 0, C.size, ez⟩) (h.push (.cells ez false cs)) w' ∧ Step loc h w (upd loc h.n ⟨w.heap.size, 0, C.size, ez⟩) (h.push (.cells ez false cs)) w' := by
  refine alloc_sim s _ _ ⟨w.heap.size, 0, C.size, ez⟩ rfl hw ho hp ?_
  refine ⟨rfl, by simp, hle, ?_, fun _ => ⟨fun _ => rfl, .inl rfl⟩⟩
  simp only [List.drop_zero]
  exact hr.mono (upd_le s.none_n)

theorem o_alloc {t : TypeId} {zs : List AVal} (ho : o.op = .alloc t) (hz : tzero P t = some zs) (s : Sim loc h w) : Out P o a loc h w (.ptr h.n 0) (h.push (.cells 0 false zs)) := by
  obtain ⟨z, hrz, hzr, -⟩ := run_tzero (P := P) (loc := loc) (w := w) hz
  have hlen := hzr.length
  refine out_value (v' := .pointer (some ⟨w.heap.size, 0, none⟩)) (w' := { w with heap := w.heap.push (.cells z.cells t) }) ?_ (row_sim s 0 zs z.cells t ?_ ?_ rfl rfl rfl) ?_
  · simp [execOp, ho, Instr.alloc, hrz, newVar, newRow]
  · rw [hlen, List.take_length]; exact hzr
  · simpa using Nat.le_of_eq hlen
  · have := Rep.ptr (loc := upd loc h.n ⟨w.heap.size, 0, z.cells.size, 0⟩) h.n 0 _ upd_self
    simpa using this

theorem o_box {t : TypeId} {n : Nat} {x : Operand} {y : Opr} (ho : o.op = .box t x) (hx : copr G x = some y) (hg : Globs G loc) (s : Sim loc h w) (he : AtRep loc (oprTmps y) e a.tmps) :
    Out P o a loc h w (.ptr h.n 0) (h.push (.cells 0 false (cellsOf (y.ev e)))) := by
  have hr := (copr_rep hx hg he).cells
  have hlen := hr.length
  refine out_value (v' := .pointer (some ⟨w.heap.size, 0, none⟩)) (w' := { w with heap := w.heap.push (.cells (a.eval x).cells t) }) ?_ (row_sim s 0 _ (a.eval x).cells t ?_ ?_ rfl rfl rfl) ?_
  · simp [execOp, ho, Instr.box, newVar, newRow]
  · rw [hlen, List.take_length]; exact hr
  · simpa using Nat.le_of_eq hlen
  · have := Rep.ptr (loc := upd loc h.n ⟨w.heap.size, 0, (a.eval x).cells.size, 0⟩) h.n 0 _ upd_self
    simpa using this

theorem o_mkm {t : TypeId} (ho : o.op = .makeMap t none) (s : Sim loc h w) : Out P o a loc h w (.mp h.n) (h.push (.map [])) := by
  refine out_value (v' := .map (some w.heap.size)) (w' := { w with heap := w.heap.push (.map #[] 0) }) ?_ (alloc_sim s _ _ ⟨w.heap.size, 0, 0, 0⟩ rfl rfl rfl rfl ⟨⟨true, by simp, .nil⟩, MapKept.stamped_empty 0, [], by simp, .nil⟩) ?_
  · simp [execOp, ho, Instr.makeMap]
  · exact Rep.mp (loc := upd loc h.n ⟨w.heap.size, 0, 0, 0⟩) h.n _ upd_self

theorem repl_rep {zs : List AVal} {z : List Value} (hr : RepL loc zs z) : ∀ n, RepL loc (repl n zs) (List.replicate n z).flatten
  | 0 => by simp [repl]; exact .nil
  | n + 1 => by
    have := repl_rep hr n
    unfold repl at *
    simp only [List.replicate_succ, List.flatten_cons]
    exact hr.append this

theorem range_mod (z : Array Value) (hz : 0 < z.size) (n : Nat) : ((Array.range (n * z.size)).map (fun i => z[i % z.size]!)).toList = (List.replicate n z.toList).flatten := by
  induction n with
  | zero => simp
  | succ n ih =>
    rw [List.replicate_succ', List.flatten_append, ← ih]
    have hr : Array.range ((n + 1) * z.size) = Array.range (n * z.size) ++ (Array.range z.size).map (fun i => n * z.size + i) := by
      apply Array.ext'
      simp only [Array.toList_range, Array.toList_append, Array.toList_map]
      rw [show (n + 1) * z.size = n * z.size + z.size by rw [Nat.add_mul, Nat.one_mul], List.range_add]
    rw [hr]
    simp only [Array.map_append, Array.toList_append, Array.map_map, List.flatten_cons, List.flatten_nil, List.append_nil]
    congr 1
    apply List.ext_getElem?
    intro i
    simp only [Array.toList_map, Array.toList_range, List.getElem?_map]
    by_cases hi : i < z.size
    · rw [List.getElem?_range hi]
      simp only [Option.map_some, Function.comp]
      rw [Nat.mul_add_mod_of_lt hi, Array.getElem!_eq_getD, Array.getD_eq_getD_getElem?, Array.getElem?_eq_getElem hi]
      simp [hi]
    · rw [List.getElem?_eq_none (by simp; omega), List.getElem?_eq_none (by simp; omega)]
      rfl

theorem zero_cells {t : TypeId} {n sz : Nat} {zs : List AVal} (hsz : tsize P t = some sz) (hz : tzero P t = some zs) :
    (n * sz = 0 ∧ repl n zs = []) ∨ (n * sz ≠ 0 ∧ ∃ z, (zeroValue t).run P w = .ok z w ∧ RepL loc (repl n zs) ((Array.range (n * sz)).map (z.cells[· % z.cells.size]!)).toList) := by
  obtain ⟨z, hrz, hzr, i, hi, hzl, -⟩ := run_tzero (P := P) (loc := loc) (w := w) hz
  have hsi : sz = i.size := by simp only [tsize, hi, Option.map_some, Option.some.injEq] at hsz; exact hsz.symm
  have hlen := hzr.length
  by_cases h0 : n * sz = 0
  · refine .inl ⟨h0, ?_⟩
    unfold repl
    rcases Nat.mul_eq_zero.1 h0 with h | h
    · subst h; rfl
    · have : zs = [] := by
        cases zs with
        | nil => rfl
        | cons => simp at hzl; omega
      subst this
      simp
  · refine .inr ⟨h0, z, hrz, ?_⟩
    have hzs : z.cells.size = sz := by simp at hlen; omega
    have hpos : 0 < z.cells.size := by
      rcases Nat.eq_zero_or_pos sz with h | h
      · subst h; simp at h0
      · omega
    rw [← hzs, range_mod z.cells hpos n]
    exact repl_rep hzr n

theorem o_bslice {t el : TypeId} {n sz : Nat} {zs cs : List AVal} {ps : Array (Nat × Operand)} {qs : List (Nat × Nat × Opr)} (ho : o.op = .buildSlice t n ps) (hu : P.underlying t = some (.slice el)) (hsz : tsize P el = some sz) (hz : tzero P el = some zs) (hn : n * sz ≤ 2 ^ 24)
    (hq : cparts G (fun i => some (i * sz, sz)) ps.toList = some qs) (hg : Globs G loc) (s : Sim loc h w) (he : AtRep loc (qs.flatMap fun p => oprTmps p.2.2) e a.tmps) (hf : fill (repl n zs) (evParts e qs) = some cs) :
    Out P o a loc h w (.sl h.n 0 n n sz) (h.push (.cells sz false cs)) := by
  have e2 : (Array.map (fun (x : Nat × Operand) => (x.1, a.eval x.2)) ps).toList = ps.toList.map fun p => (p.1, a.eval p.2) := by simp
  obtain ⟨r, h2, hrun⟩ : ∃ r : Array Value, RepL loc cs r.toList ∧ (Instr.buildSlice t n (ps.map fun (i, x) => (i, a.eval x))).run P w = .ok (.slice (some ⟨w.heap.size, 0, none⟩) n n) { w with heap := w.heap.push (.cells r el) } := by
    rcases zero_cells (P := P) (loc := loc) (w := w) (n := n) hsz hz with ⟨h0, hr⟩ | ⟨h0, z, hC, hr⟩
    · rw [hr] at hf
      obtain ⟨r, h1, h2⟩ := fill_rep (cs' := #[]) (cparts_rep hq hg he) .nil hf
      refine ⟨r, h2, ?_⟩
      have h1' : Instr.fill (fun i => some (i * sz, sz)) ((Array.range (n * sz)).map (fun i => (#[] : Array Value)[i % (#[] : Array Value).size]!)) (ps.toList.map fun p => (p.1, a.eval p.2)) = some r := by
        have : (Array.range (n * sz)).map (fun i => (#[] : Array Value)[i % (#[] : Array Value).size]!) = #[] := by rw [h0]; apply Array.ext'; simp
        rw [this]; exact h1
      simp only [Instr.buildSlice, run_und hu, Sem.run_bind, Result.andThen_ok, run_tsize hsz]
      rw [if_neg (by omega), if_pos h0]
      simp only [Sem.run_pure, Sem.run_bind, Result.andThen_ok, e2, h1', newRow, run_newObj]
    · obtain ⟨r, h1, h2⟩ := fill_rep (cparts_rep hq hg he) hr hf
      refine ⟨r, h2, ?_⟩
      simp only [Instr.buildSlice, run_und hu, Sem.run_bind, Result.andThen_ok, run_tsize hsz]
      rw [if_neg (by omega), if_neg h0]
      simp only [Sem.run_pure, Sem.run_bind, Result.andThen_ok, hC, e2, h1, newRow, run_newObj]
  have hlen := h2.length
  have hfl : ∀ {ps : List (Nat × Nat × AVal)} {c d : List AVal}, fill c ps = some d → d.length = c.length := by
    intro ps
    induction ps with
    | nil => intro c d hf; simp only [fill, Option.some.injEq] at hf; subst hf; rfl
    | cons p r ih =>
      intro c d hf
      simp only [fill] at hf
      split at hf
      · rename_i hc
        rw [ih hf]; unfold over; simp; omega
      · cases hf
  have hz2 : zs.length = sz := by
    obtain ⟨z, -, -, i, hi, hzl, -⟩ := run_tzero (P := P) (loc := loc) (w := w) hz
    simp only [tsize, hi, Option.map_some, Option.some.injEq] at hsz; omega
  have hrl : (repl n zs).length = n * sz := by unfold repl; simp [hz2]
  have hcl : cs.length = n * sz := by rw [hfl hf, hrl]
  refine out_value (v' := .slice (some ⟨w.heap.size, 0, none⟩) n n) (w' := { w with heap := w.heap.push (.cells r el) }) ?_ (row_sim s sz cs r el ?_ ?_ rfl rfl rfl) ?_
  · simp only [execOp, ho, Sem.run_bind, hrun, Result.andThen_ok, Sem.run_pure]
  · rw [hlen, List.take_length]; exact h2
  · simpa using Nat.le_of_eq hlen
  · have := Rep.sl (loc := upd loc h.n ⟨w.heap.size, 0, r.size, sz⟩) h.n 0 n n sz n _ upd_self (Nat.le_refl _) (fun _ => ⟨rfl, by simp at hlen ⊢; omega⟩)
    simpa using this
end
end Go.Ai

/- Conversions, look-ups, made slices, what goes through a string. -/
set_option linter.unusedSimpArgs false
set_option linter.unusedVariables false
namespace Go.Ai
open Go

section
variable {G : List Nat} {P : Program} {loc : Loc} {h h' : AHeap} {w : World} {e : Env} {a : Act} {o : Oper} {v : AVal}

theorem range_map_const {n : Nat} (C : Array Value) : ((Array.range n).map (fun i => C[i % C.size]!)).size = n := by simp

theorem o_mks {t el : TypeId} {sz : Nat} {zs : List AVal} {x z : Operand} {y u : Opr} {k k' : IntKind} {l c : Int} (ho : o.op = .makeSlice t x z) (hu : P.underlying t = some (.slice el)) (hsz : tsize P el = some sz) (hz : tzero P el = some zs)
    (hx : copr G x = some y) (hy : copr G z = some u) (hg : Globs G loc) (s : Sim loc h w) (he : AtRep loc (oprTmps y ++ oprTmps u) e a.tmps) (hl : y.ev e = .int k l) (hc : u.ev e = .int k' c)
    (hb : 0 ≤ l ∧ l ≤ c ∧ c ≤ maxStr ∧ c * P.bytesOf el ≤ maxStr) : Out P o a loc h w (.sl h.n 0 l.toNat c.toNat sz) (h.push (.cells sz false (repl c.toNat zs))) := by
  have rx := copr_rep hx hg he.left
  have rz := copr_rep hy hg he.right
  rw [hl] at rx; rw [hc] at rz
  generalize hX : a.eval x = X at rx
  generalize hZ : a.eval z = Z at rz
  cases rz; cases rx
  obtain ⟨hb0, hb1, hb2, hb3⟩ := hb
  have hbytes : (typeInfo el).run P w = .ok ((P.info? el).get (by
      simp only [tsize, Option.map_eq_some_iff] at hsz; obtain ⟨i, hi, -⟩ := hsz; simp [hi])) w := by
    simp only [tsize, Option.map_eq_some_iff] at hsz
    obtain ⟨i, hi, -⟩ := hsz
    simp [typeInfo, hi]
  obtain ⟨i, hi, hisz⟩ : ∃ i, P.info? el = some i ∧ i.size = sz := by
    simp only [tsize, Option.map_eq_some_iff] at hsz; exact hsz
  have hti : (typeInfo el).run P w = .ok i w := by simp [typeInfo, hi]
  have hby : P.bytesOf el = i.bytes := by simp [Program.bytesOf, hi]
  rw [hby] at hb3
  have hw : ∀ q : Int, 0 ≤ q → q ≤ maxStr → IntKind.wrap .i64 q = q := by
    intro q h0 h1
    unfold maxStr at h1
    have e1 : IntKind.bits .i64 = 64 := rfl
    have e2 : IntKind.signed .i64 = true := rfl
    unfold IntKind.wrap
    rw [e1, e2]
    have hq : q % (2 ^ 64 : Int) = q := Int.emod_eq_of_lt h0 (by omega)
    simp only [hq]
    rw [if_neg]
    simp
    omega
  have w1 := hw c (by omega) hb2
  have w2 := hw l hb0 (by omega)
  have hlc : ¬ l > c := by omega
  have hl0 : ¬ l < 0 := by omega
  have hc0 : ¬ c < 0 := by omega
  have hlarge : ¬ ((i.bytes : Int) * c > 2 ^ 48) := by
    unfold maxStr at hb3
    rw [Int.mul_comm]; omega
  have hzl : zs.length = sz := by
    obtain ⟨z, -, -, j, hj, hzl, -⟩ := run_tzero (P := P) (loc := loc) (w := w) hz
    rw [hi] at hj; cases hj; omega
  have hrl : (repl c.toNat zs).length = c.toNat * sz := by unfold repl; simp [hzl]
  obtain ⟨C, hrep, hrun⟩ : ∃ C : Array Value, RepL loc (repl c.toNat zs) C.toList ∧ (Instr.makeSlice t (.int k l) (.int k' c)).run P w = .ok (.slice (some ⟨w.heap.size, 0, none⟩) l.toNat c.toNat) { w with heap := w.heap.push (.cells C el) } := by
    rcases zero_cells (P := P) (loc := loc) (w := w) (n := c.toNat) hsz hz with ⟨h0, hr⟩ | ⟨h0, z, hC, hr⟩
    · refine ⟨#[], by rw [hr]; exact .nil, ?_⟩
      have h1 : (Array.range (c.toNat * sz)).map (fun i => (#[] : Array Value)[i % (#[] : Array Value).size]!) = #[] := by rw [h0]; apply Array.ext'; simp
      simp only [Instr.makeSlice, run_und hu, Sem.run_bind, Result.andThen_ok, asInt, asIntOf, Sem.run_pure, hti, w1, w2]
      rw [if_neg (by simp [hlc, hl0, hc0]; simpa using hlarge)]
      simp only [Sem.run_bind, run_askRoom, Result.andThen_ok, run_tsize hsz]
      rw [if_pos h0]
      simp only [Sem.run_bind, Sem.run_pure, Result.andThen_ok, h1, newRow, run_newObj]
    · refine ⟨_, hr, ?_⟩
      simp only [Instr.makeSlice, run_und hu, Sem.run_bind, Result.andThen_ok, asInt, asIntOf, Sem.run_pure, hti, w1, w2]
      rw [if_neg (by simp [hlc, hl0, hc0]; simpa using hlarge)]
      simp only [Sem.run_bind, run_askRoom, Result.andThen_ok, run_tsize hsz]
      rw [if_neg h0]
      simp only [Sem.run_bind, Sem.run_pure, Result.andThen_ok, hC, newRow, run_newObj]
  have hlen := hrep.length
  refine out_value (v' := .slice (some ⟨w.heap.size, 0, none⟩) l.toNat c.toNat) (w' := { w with heap := w.heap.push (.cells C el) }) ?_ (row_sim s sz _ C el ?_ ?_ rfl rfl rfl) ?_
  · simp only [execOp, ho, hX, hZ, Sem.run_bind, hrun, Result.andThen_ok, Sem.run_pure]
  · rw [hlen, List.take_length]; exact hrep
  · simpa using Nat.le_of_eq hlen
  · have := Rep.sl (loc := upd loc h.n ⟨w.heap.size, 0, C.size, sz⟩) h.n 0 l.toNat c.toNat sz c.toNat _ upd_self (Nat.le_refl _) (fun _ => ⟨rfl, by simp at hlen ⊢; omega⟩)
    simpa using this

theorem o_conv_int {t u : TypeId} {d : IntKind} {x : Operand} {y : Opr} {k j : IntKind} {n : Int} (ho : o.op = .convert t u x) (hx : copr G x = some y) (hg : Globs G loc) (s : Sim loc h w) (he : AtRep loc (oprTmps y) e a.tmps)
    (ht : P.underlying t = some (.int j)) (hu : P.underlying u = some (.int d)) (hp : y.ev e = .int k n) : Out P o a loc h w (.int d (d.wrap n)) h := by
  have rx := copr_rep hx hg he
  rw [hp] at rx
  generalize hX : a.eval x = X at rx
  cases rx
  exact out_same s (v' := .int d (d.wrap n)) (by simp [execOp, ho, hX, convert, run_und ht, run_und hu, Conv.intToInt]) (.int _ _)

theorem o_conv_str {t u : TypeId} {x : Operand} {y : Opr} {st : List UInt8} (ho : o.op = .convert t u x) (hx : copr G x = some y) (hg : Globs G loc) (s : Sim loc h w) (he : AtRep loc (oprTmps y) e a.tmps)
    (ht : P.underlying t = some .string) (hu : P.underlying u = some .string) (hp : y.ev e = .str st) : Out P o a loc h w (.str st) h := by
  have rx := copr_rep hx hg he
  rw [hp] at rx
  generalize hX : a.eval x = X at rx
  cases rx
  exact out_same s (v' := .string ⟨st.toArray⟩) (by simp [execOp, ho, hX, convert, run_und ht, run_und hu]) (.str _)

theorem isU8_spec {t : TypeId} (h8 : isU8 P t = true) : P.underlying t = some (.int .u8) := by
  unfold isU8 at h8
  split at h8
  · assumption
  · cases h8

theorem bytes_rep (st : List UInt8) : RepL loc (st.map byteV) (st.map fun b => Value.int .u8 b.toNat) := by
  induction st with
  | nil => exact .nil
  | cons c r ih => exact .cons _ _ _ _ (.int _ _) ih

theorem o_conv_s2b {t u el : TypeId} {x : Operand} {y : Opr} {st : List UInt8} (ho : o.op = .convert t u x) (hx : copr G x = some y) (hg : Globs G loc) (s : Sim loc h w) (he : AtRep loc (oprTmps y) e a.tmps)
    (ht : P.underlying t = some .string) (hu : P.underlying u = some (.slice el)) (h8 : isU8 P el = true) (hp : y.ev e = .str st) :
    Out P o a loc h w (.sl h.n 0 st.length st.length 1) (h.push (.cells 1 false (st.map byteV))) := by
  have rx := copr_rep hx hg he
  rw [hp] at rx
  generalize hX : a.eval x = X at rx
  cases rx
  have hsz : (⟨st.toArray⟩ : ByteArray).size = st.length := by simp [ByteArray.size]
  have hnf : ∀ nd od el', Question.forced (.appendCap nd od el') = false := fun _ _ _ => rfl
  generalize hcap : Question.cut (.appendCap st.length 0 el) (w.tape w.drawn (.appendCap st.length 0 el)) = cap
  have hle : st.length ≤ cap := by rw [← hcap]; simp only [Question.cut]; omega
  generalize hC : ((⟨st.toArray⟩ : ByteArray).data.map fun b => Value.int .u8 b.toNat) ++ Array.replicate (cap - st.length) (.int .u8 0) = C
  have hCl : C.toList = (st.map fun b => Value.int .u8 b.toNat) ++ List.replicate (cap - st.length) (.int .u8 0) := by rw [← hC]; simp
  have hCs : C.size = cap := by
    have : C.toList.length = cap := by rw [hCl]; simp; omega
    simpa using this
  let w1 : World := { w with drawn := w.drawn + 1, heap := w.heap.push (.cells C el) }
  let w2 : World := w1.freeze ⟨w.heap.size, C.size, none⟩ 1
  have hheap : w2.heap = w.heap.push (.cells C el (C.size, C.size + 1)) := by
    show (World.freeze w1 ⟨w.heap.size, C.size, none⟩ 1).heap = _
    unfold World.freeze
    rw [if_neg (by omega)]
    apply Array.ext_getElem?
    intro k
    show ((w.heap.push (.cells C el)).modify w.heap.size _)[k]? = _
    rw [Array.getElem?_modify]
    by_cases hk : w.heap.size = k
    · subst hk; simp
    · rw [if_neg hk, Array.getElem?_push, Array.getElem?_push, if_neg (fun e => hk e.symm), if_neg (fun e => hk e.symm)]
  have hos : w2.os = w.os := by show (World.freeze w1 _ 1).os = _; unfold World.freeze; rw [if_neg (by omega)]
  have hout : w2.output = w.output := by show (World.freeze w1 _ 1).output = _; unfold World.freeze; rw [if_neg (by omega)]
  refine out_value (v' := .slice (some ⟨w.heap.size, 0, none⟩) st.length cap) (w' := w2) ?_ (alloc_sim s _ _ ⟨w.heap.size, 0, C.size, 1⟩ rfl hheap hos hout ?_) ?_
  · have hshape : w1.shape? w.heap.size = some (el, C.size) := by simp [World.shape?, w1]
    simp only [execOp, ho, hX, Sem.run_bind, convert, run_und ht, run_und hu, Result.andThen_ok, run_und (isU8_spec h8), Conv.stringToBytes, hsz, run_choose, hnf, Bool.false_eq_true, if_false, hcap, hC, newRow, run_newObj, Sem.run_pure, markStringish, run_shape]
    rw [show ({ heap := w.heap.push (.cells C el), tape := w.tape, drawn := w.drawn + 1, os := w.os, output := w.output } : World) = w1 from rfl, hshape]
    simp only [run_freeze, Result.andThen_ok]
    rfl
  · refine ⟨rfl, by simp, by simp [hCs, hle], ?_, fun _ => ⟨fun h => (by cases h), .inr (Nat.le_refl _)⟩⟩
    simp only [List.drop_zero, hCl, List.length_map]
    rw [List.take_append_of_le_length (by simp), List.take_of_length_le (by simp)]
    exact bytes_rep st
  · have := Rep.sl (loc := upd loc h.n ⟨w.heap.size, 0, C.size, 1⟩) h.n 0 st.length st.length 1 cap _ upd_self hle (fun _ => ⟨rfl, by simp [hCs]⟩)
    simpa using this

theorem toBytes_rep : ∀ {cs : List AVal} {cs' : List Value} {st : List UInt8}, RepL loc cs cs' → toBytes cs = some st → ∃ ns : List Int, cs' = ns.map (Value.int .u8) ∧ st = ns.map fun n => UInt8.ofNat n.toNat
  | _, _, st, .nil, hb => by simp only [toBytes, Option.some.injEq] at hb; subst hb; exact ⟨[], rfl, rfl⟩
  | _, _, st, .cons v v' r r' hv hr, hb => by
    simp only [toBytes] at hb
    split at hb
    · rename_i c hc
      simp only [Option.map_eq_some_iff] at hb
      obtain ⟨q, hq, rfl⟩ := hb
      obtain ⟨ns, rfl, rfl⟩ := toBytes_rep hr hq
      unfold toByte at hc
      split at hc
      · rename_i n
        cases hv
        simp only [Option.some.injEq] at hc; subst hc
        exact ⟨n :: ns, rfl, rfl⟩
      · cases hc
    · cases hb

end
end Go.Ai

/- Bytes to a string; maps. -/
set_option linter.unusedSimpArgs false
set_option linter.unusedVariables false
namespace Go.Ai
open Go

section
variable {G : List Nat} {P : Program} {loc : Loc} {h h' : AHeap} {w : World} {e : Env} {a : Act} {o : Oper} {v : AVal}

/-- what a slice's value has in its cells -/
theorem sl_cells (s : Sim loc h w) {b off len cap ez n : Nat} {X : Value} {cs : List AVal} (hr : Rep loc (.sl b off len cap ez) X) (hcs : loadN h b off n = some cs) (hn : n = 0 ∨ 0 < len) :
    ∃ A c cs', X = .slice (some A) len c ∧ RepL loc cs cs' ∧ cs'.length = n ∧ ∀ j v, cs'[j]? = some v → w.cell? (A.add j) = some v := by
  cases hr with
  | sl _ _ _ _ _ c L hl hc hz =>
    obtain ⟨cs', h1, h2, h3⟩ := s.load hl hcs
    exact ⟨⟨L.cb, L.base + off, none⟩, c, cs', rfl, h1, h2, fun j v hj => by rw [addr_add]; exact h3 j v hj⟩
  | sl0 _ _ _ A L hl =>
    have h0 : n = 0 := by omega
    subst h0
    have : cs = [] := by
      unfold loadN at hcs
      simp only [Option.bind_eq_some_iff] at hcs
      obtain ⟨vs, -, hs⟩ := hcs
      have := (slice_some hs).2
      simpa using this
    subst this
    exact ⟨A, 0, [], rfl, .nil, rfl, fun j v hj => by simp at hj⟩

theorem push_fold (ns : List Int) : ∀ s : ByteArray, ns.foldl (fun r n => r.push (UInt8.ofNat n.toNat)) s = ⟨(s.data.toList ++ ns.map fun n => UInt8.ofNat n.toNat).toArray⟩ := by
  induction ns with
  | nil => intro s; simp
  | cons n r ih => intro s; rw [List.foldl_cons, ih]; simp [ByteArray.push]

theorem o_conv_b2s {t u el : TypeId} {x : Operand} {y : Opr} {b off len cap ez : Nat} {st : List UInt8} (ho : o.op = .convert t u x) (hx : copr G x = some y) (hg : Globs G loc) (s : Sim loc h w) (he : AtRep loc (oprTmps y) e a.tmps)
    (ht : P.underlying t = some (.slice el)) (hu : P.underlying u = some .string) (h8 : isU8 P el = true) (hp : y.ev e = .sl b off len cap ez) (hb : (loadN h b off len).bind toBytes = some st) : Out P o a loc h w (.str st) h := by
  have rx := copr_rep hx hg he
  rw [hp] at rx
  generalize hX : a.eval x = X at rx
  simp only [Option.bind_eq_some_iff] at hb
  obtain ⟨cs, hcs, hb⟩ := hb
  obtain ⟨A, c, cs', rfl, h1, h2, h3⟩ := sl_cells s rx hcs (by omega)
  obtain ⟨ns, rfl, rfl⟩ := toBytes_rep h1 hb
  refine out_same s (v' := .string ⟨(ns.map fun n => UInt8.ofNat n.toNat).toArray⟩) ?_ (.str _)
  have hl := run_loadCells_list (P := P) w A _ h3
  rw [h2] at hl
  have hr := run_bytesToString w A len c ns hl
  rw [push_fold] at hr
  simp only [execOp, ho, hX, Sem.run_bind, run_convert_bytes_string w t u el _ _ _ ht (isU8_spec h8) hu, hr, Result.andThen_ok, Sem.run_pure]
  rfl

theorem o_conv_b2s_nil {t u el : TypeId} {x : Operand} {y : Opr} (ho : o.op = .convert t u x) (hx : copr G x = some y) (hg : Globs G loc) (s : Sim loc h w) (he : AtRep loc (oprTmps y) e a.tmps)
    (ht : P.underlying t = some (.slice el)) (hu : P.underlying u = some .string) (h8 : isU8 P el = true) (hp : y.ev e = .nils) : Out P o a loc h w (.str []) h := by
  have rx := copr_rep hx hg he
  rw [hp] at rx
  generalize hX : a.eval x = X at rx
  cases rx
  refine out_same s (v' := .string ⟨#[]⟩) ?_ (.str [])
  simp only [execOp, ho, hX, Sem.run_bind, run_convert_bytes_string w t u el _ _ _ ht (isU8_spec h8) hu, Conv.bytesToString, Result.andThen_ok, Sem.run_pure]
  rfl

/-- a block that bears a mark more -/
theorem mark_sim (s : Sim loc h w) {b : Nat} {l : L} {ez : Nat} {ro : Bool} {vs : List AVal} (hl : loc b = some l) (hg : h.get b = some (.cells ez ro vs)) (hez : 0 < ez) {C : Array Value} {ty : TypeId} {fz : Nat × Nat} (hC : w.heap[l.cb]? = some (.cells C ty fz))
    {w' : World} {fz' : Nat × Nat} (hw : w'.heap = w.heap.setIfInBounds l.cb (.cells C ty fz')) (hf : (fz.1 = fz.2 ∨ C.size ≤ fz.1) → (fz'.1 = fz'.2 ∨ C.size ≤ fz'.1)) (ho : w'.os = w.os) (hp : w'.output = w.output)
    (hwr : writable h b) : Sim loc h w' ∧ Step loc h w loc h w' := by
  have hlt := (s.dom b l hl).2
  have hsz : w'.heap.size = w.heap.size := by rw [hw]; simp
  obtain ⟨C0, ty0, fz0, hC0, r1, r2, r3, r4, r5⟩ := s.cells hl hg
  rw [hC] at hC0; cases hC0
  have hro : ro = false := by unfold writable at hwr; rw [hg] at hwr; exact hwr
  subst hro
  have hnew : ObjRep loc l (.cells ez false vs) (.cells C ty fz') := ⟨r1, r2, r3, r4, fun _ => ⟨fun h => by omega, hf (r5 rfl).2⟩⟩
  have := set_sim s hl hwr (.cells ez false vs) (.cells C ty fz') hw ho hp hnew
  have hget : ∀ c, (h.set b (.cells ez false vs)).get c = h.get c := fun c => by
    rw [AHeap.get_set]; split
    · rename_i e; subst e; exact hg.symm
    · rfl
  obtain ⟨s1, t1⟩ := this
  refine ⟨⟨s1.dom, fun c hc => by rw [← hget]; exact s1.top c hc, fun c m ob hm hob => s1.obj c m ob hm (by rw [hget]; exact hob), fun c d m k hm hk hne hwc had => s1.inj c d m k hm hk hne (by unfold writable; rw [hget]; exact hwc) (by unfold alive; rw [hget]; exact had), s1.zero⟩, ?_⟩
  exact ⟨t1.le, fun c hc e => ⟨e, rfl⟩, Nat.le_refl _, t1.size, fun c hc e => e, fun c m e f => (by rw [e] at f; cases f), t1.frame, ho, hp⟩

/-! ## Maps -/

theorem keyEq_symm {sk : Bool} {x y : AVal} {t : Bool} (hk : keyEq sk x y = some t) : keyEq sk y x = some t := by
  unfold keyEq at hk ⊢
  split at hk
  · split at hk
    · rename_i hc
      obtain ⟨h1, rfl⟩ := hc
      simp only [Option.some.injEq] at hk
      rw [if_pos ⟨h1, rfl⟩, ← hk]; congr 1; exact BEq.comm
    · cases hk
  · split at hk
    · rename_i hc
      simp only [Option.some.injEq] at hk
      simp only [hc, if_true, Option.some.injEq, ← hk]; exact BEq.comm
    · cases hk
  · cases hk

theorem keyEq_trans {sk : Bool} {x y z : AVal} (h1 : keyEq sk x y = some true) {t : Bool} (h2 : keyEq sk x z = some t) : keyEq sk y z = some t := by
  unfold keyEq at h1
  split at h1
  · rename_i k i k' j
    split at h1
    · rename_i hc
      obtain ⟨hsk, rfl⟩ := hc
      simp only [Option.some.injEq, beq_iff_eq] at h1; subst h1
      unfold keyEq at h2 ⊢
      split at h2
      · rename_i q; cases q; rename_i e1 e2; exact h2
      · rename_i q; cases q
      · cases h2
    · cases h1
  · rename_i a b
    split at h1
    · simp only [Option.some.injEq, beq_iff_eq] at h1; subst h1; exact h2
    · cases h1
  · cases h1

/-- the type's description tells of which kind the keys are -/
theorem tkey_spec {t : TypeId} {sk : Bool} (ht : tkey P t = some sk) : (sk = true ∧ P.underlying t = some .string) ∨ (sk = false ∧ ∃ k, P.underlying t = some (.int k)) := by
  unfold tkey at ht
  split at ht <;> simp only [Option.some.injEq, reduceCtorEq] at ht <;> subst ht
  · exact .inl ⟨rfl, by assumption⟩
  · exact .inr ⟨rfl, _, by assumption⟩

theorem sameNow_rep {sk : Bool} {d : TypeDesc} (hd : (sk = true ∧ d = .string) ∨ (sk = false ∧ ∃ k, d = .int k)) {x y : AVal} {x' y' : Value} (hx : Rep loc x x') (hy : Rep loc y y') {t : Bool} (hk : keyEq sk x y = some t) : Instr.sameNow d x' y' = some t := by
  unfold keyEq at hk
  split at hk
  · cases hx; cases hy
    split at hk
    · rename_i hc
      obtain ⟨hsk, rfl⟩ := hc
      rcases hd with ⟨h1, -⟩ | ⟨-, k, rfl⟩
      · rw [h1] at hsk; cases hsk
      · simp only [Instr.sameNow, if_true]; exact hk
    · cases hk
  · rename_i a b
    cases hx; cases hy
    split at hk
    · rename_i hc
      rcases hd with ⟨-, rfl⟩ | ⟨h1, -⟩
      · simp only [Instr.sameNow]
        rw [← hk]
        have : ((⟨a.toArray⟩ : ByteArray) == (⟨b.toArray⟩ : ByteArray)) = (a == b) := by
          rw [beq_toListBytes, ByteArray.toList_mk, ByteArray.toList_mk]
        rw [this]
      · rw [h1] at hc; cases hc
    · cases hk
  · cases hk

theorem keyEq_self {sk : Bool} {x y : AVal} {t : Bool} (hk : keyEq sk x y = some t) : keyEq sk x x = some true := by
  unfold keyEq at hk ⊢
  split at hk
  · split at hk
    · rename_i hc; simp [hc.1]
    · cases hk
  · split at hk
    · rename_i hc; simp [hc]
    · cases hk
  · cases hk

theorem keyEq_true {sk : Bool} {x y : AVal} (hk : keyEq sk x y = some true) : x = y := by
  unfold keyEq at hk
  split at hk
  · split at hk
    · rename_i hc; obtain ⟨-, rfl⟩ := hc; simp only [Option.some.injEq, beq_iff_eq] at hk; rw [hk]
    · cases hk
  · split at hk
    · simp only [Option.some.injEq, beq_iff_eq] at hk; rw [hk]
    · cases hk
  · cases hk

theorem keyEq_kind {s t : Bool} {x : AVal} (h1 : keyEq s x x = some true) (h2 : keyEq t x x = some true) : s = t := by
  unfold keyEq at h1 h2
  cases x <;> simp_all

theorem keysOK_of {sk : Bool} {k : AVal} {es : List (AVal × AVal)} (hd : Dist es) (h1 : ∀ p q, es = p :: q → ∃ t, keyEq sk k p.1 = some t) : KeysOK sk es := by
  cases es with
  | nil => exact ⟨by simp, .nil⟩
  | cons p q =>
    obtain ⟨t, ht⟩ := h1 p q rfl
    obtain ⟨s0, h0⟩ := hd
    have hp := keyEq_self (keyEq_symm ht)
    have := keyEq_kind hp (h0.1 p (by simp))
    subst this; exact h0

/-- the key is met behind p -/
def Hit (sk : Bool) (k : AVal) (es p : List (AVal × AVal)) (v : AVal) (q : List (AVal × AVal)) : Prop := es = p ++ (k, v) :: q ∧ keyEq sk k k = some true ∧ ∀ z ∈ p, keyEq sk k z.1 = some false
def Miss (sk : Bool) (k : AVal) (es : List (AVal × AVal)) : Prop := ∀ z ∈ es, keyEq sk k z.1 = some false

theorem findKey_spec {sk : Bool} {k : AVal} : ∀ {es : List (AVal × AVal)} {r : Option AVal}, findKey sk k es = some r → (r = none ∧ Miss sk k es) ∨ ∃ p v q, r = some v ∧ Hit sk k es p v q
  | [], r, hf => by simp only [findKey, Option.some.injEq] at hf; subst hf; exact .inl ⟨rfl, by simp [Miss]⟩
  | (x, v) :: es, r, hf => by
    simp only [findKey] at hf
    split at hf
    · rename_i hk
      have := keyEq_true hk; subst this
      simp only [Option.some.injEq] at hf; subst hf
      exact .inr ⟨[], v, es, rfl, rfl, hk, by simp⟩
    · rename_i hk
      rcases findKey_spec hf with ⟨h1, h2⟩ | ⟨p, u, q, h1, h2, h3, h4⟩
      · refine .inl ⟨h1, ?_⟩
        intro z hz
        cases hz with
        | head => exact hk
        | tail _ hz => exact h2 z hz
      · refine .inr ⟨(x, v) :: p, u, q, h1, by rw [h2]; rfl, h3, ?_⟩
        intro z hz
        cases hz with
        | head => exact hk
        | tail _ hz => exact h4 z hz
    · cases hf

theorem putKey_spec {sk : Bool} {k v : AVal} : ∀ {es r : List (AVal × AVal)}, putKey sk k v es = some r → (r = es ++ [(k, v)] ∧ Miss sk k es) ∨ ∃ p u q, r = p ++ (k, v) :: q ∧ Hit sk k es p u q
  | [], r, hf => by simp only [putKey, Option.some.injEq] at hf; subst hf; exact .inl ⟨rfl, by simp [Miss]⟩
  | (x, u) :: es, r, hf => by
    simp only [putKey] at hf
    split at hf
    · rename_i hk
      have := keyEq_true hk; subst this
      simp only [Option.some.injEq] at hf; subst hf
      exact .inr ⟨[], u, es, rfl, rfl, hk, by simp⟩
    · rename_i hk
      simp only [Option.map_eq_some_iff] at hf
      obtain ⟨r0, hf, rfl⟩ := hf
      rcases putKey_spec hf with ⟨h1, h2⟩ | ⟨p, u2, q, h1, h2, h3, h4⟩
      · refine .inl ⟨by rw [h1]; rfl, ?_⟩
        intro z hz
        cases hz with
        | head => exact hk
        | tail _ hz => exact h2 z hz
      · refine .inr ⟨(x, u) :: p, u2, q, by rw [h1]; rfl, by rw [h2]; rfl, h3, ?_⟩
        intro z hz
        cases hz with
        | head => exact hk
        | tail _ hz => exact h4 z hz
    · cases hf

theorem delKey_spec {sk : Bool} {k : AVal} : ∀ {es r : List (AVal × AVal)}, delKey sk k es = some r → (r = es ∧ Miss sk k es) ∨ ∃ p u q, r = p ++ q ∧ Hit sk k es p u q
  | [], r, hf => by simp only [delKey, Option.some.injEq] at hf; subst hf; exact .inl ⟨rfl, by simp [Miss]⟩
  | (x, u) :: es, r, hf => by
    simp only [delKey] at hf
    split at hf
    · rename_i hk
      have := keyEq_true hk; subst this
      simp only [Option.some.injEq] at hf; subst hf
      exact .inr ⟨[], u, es, rfl, rfl, hk, by simp⟩
    · rename_i hk
      simp only [Option.map_eq_some_iff] at hf
      obtain ⟨r0, hf, rfl⟩ := hf
      rcases delKey_spec hf with ⟨h1, h2⟩ | ⟨p, u2, q, h1, h2, h3, h4⟩
      · refine .inl ⟨by rw [h1], ?_⟩
        intro z hz
        cases hz with
        | head => exact hk
        | tail _ hz => exact h2 z hz
      · refine .inr ⟨(x, u) :: p, u2, q, by rw [h1]; rfl, by rw [h2]; rfl, h3, ?_⟩
        intro z hz
        cases hz with
        | head => exact hk
        | tail _ hz => exact h4 z hz
    · cases hf

theorem RepE.split {k v : AVal} : ∀ {p q : List (AVal × AVal)} {c : List MapEntry}, RepE loc (p ++ (k, v) :: q) c → ∃ X e Y, c = X ++ e :: Y ∧ RepE loc p X ∧ RepE loc q Y ∧ Rep loc k e.key ∧ Rep loc v e.val
  | [], q, c, hr => by
    cases hr with
    | cons _ _ e _ r' hk hv hr => exact ⟨[], e, r', rfl, .nil, hr, hk, hv⟩
  | (x, u) :: p, q, c, hr => by
    cases hr with
    | cons _ _ e _ r' hk hv hr =>
      obtain ⟨X, e2, Y, rfl, h1, h2, h3, h4⟩ := hr.split
      exact ⟨e :: X, e2, Y, rfl, .cons _ _ _ _ _ hk hv h1, h2, h3, h4⟩

theorem RepE.app {p q : List (AVal × AVal)} {X Y : List MapEntry} (h1 : RepE loc p X) (h2 : RepE loc q Y) : RepE loc (p ++ q) (X ++ Y) := by
  induction h1 with
  | nil => exact h2
  | cons k v e r r' hk hv _ ih => exact .cons k v e _ _ hk hv ih

theorem RepE.mem {p : List (AVal × AVal)} {X : List MapEntry} (h1 : RepE loc p X) : ∀ e ∈ X, ∃ z ∈ p, Rep loc z.1 e.key ∧ Rep loc z.2 e.val := by
  induction h1 with
  | nil => simp
  | cons k v e r r' hk hv _ ih =>
    intro x hx
    cases hx with
    | head => exact ⟨(k, v), by simp, hk, hv⟩
    | tail _ hx => obtain ⟨z, hz, hr⟩ := ih x hx; exact ⟨z, by simp [hz], hr⟩

theorem findNow_miss {d : TypeDesc} {kv : Value} : ∀ {c : List MapEntry} {i : Nat}, (∀ e ∈ c, Instr.sameNow d kv e.key = some false) → Instr.findNow d kv c i = some none
  | [], i, _ => rfl
  | e :: c, i, h => by simp only [Instr.findNow, h e (by simp)]; exact findNow_miss fun x hx => h x (by simp [hx])

theorem findNow_hit {d : TypeDesc} {kv : Value} {e : MapEntry} {B : List MapEntry} : ∀ {A : List MapEntry} {i : Nat}, (∀ e ∈ A, Instr.sameNow d kv e.key = some false) → Instr.sameNow d kv e.key = some true → Instr.findNow d kv (A ++ e :: B) i = some (some (i + A.length, e.val))
  | [], i, _, h => by simp [Instr.findNow, h]
  | x :: A, i, hA, h => by
    simp only [List.cons_append, Instr.findNow, hA x (by simp), List.length_cons]
    rw [findNow_hit (fun y hy => hA y (by simp [hy])) h]
    congr 3; omega

/-- where the world's map has the key -/
theorem hit_world {sk : Bool} {k v : AVal} {kv : Value} {es p q : List (AVal × AVal)} {c0 c : List MapEntry} {d : TypeDesc} (hh : Hit sk k es p v q) (hok : KeysOK sk es) (hr : RepE loc es c0) (hp : List.Perm c0 c) (hk : Rep loc k kv)
    (hd : (sk = true ∧ d = .string) ∨ (sk = false ∧ ∃ k, d = .int k)) :
    ∃ A e B X Y, c = A ++ e :: B ∧ c0 = X ++ e :: Y ∧ List.Perm (X ++ Y) (A ++ B) ∧ RepE loc p X ∧ RepE loc q Y ∧ Rep loc k e.key ∧ Rep loc v e.val ∧ Instr.findNow d kv c 0 = some (some (A.length, e.val)) := by
  obtain ⟨rfl, hkk, hpre⟩ := hh
  obtain ⟨X, e, Y, rfl, r1, r2, r3, r4⟩ := hr.split
  have hmem : e ∈ c := hp.mem_iff.1 (by simp)
  obtain ⟨A, B, rfl⟩ := List.append_of_mem hmem
  have hperm : List.Perm (X ++ Y) (A ++ B) := by
    have h1 : List.Perm (e :: (X ++ Y)) (X ++ e :: Y) := List.perm_middle.symm
    have h2 : List.Perm (A ++ e :: B) (e :: (A ++ B)) := List.perm_middle
    exact ((h1.trans hp).trans h2).cons_inv
  refine ⟨A, e, B, X, Y, rfl, rfl, hperm, r1, r2, r3, r4, ?_⟩
  have hrest : ∀ x ∈ A, Instr.sameNow d kv x.key = some false := by
    intro x hx
    have hxm : x ∈ X ++ Y := hperm.mem_iff.2 (by simp [hx])
    obtain ⟨z, hz, hzr, -⟩ := (r1.app r2).mem x hxm
    have hkz : keyEq sk k z.1 = some false := by
      rcases List.mem_append.1 hz with hz | hz
      · exact hpre z hz
      · have := (List.pairwise_append.1 hok.2).2.1
        exact (List.pairwise_cons.1 this).1 z hz
    exact sameNow_rep hd hk hzr hkz
  have := findNow_hit (i := 0) (B := B) hrest (sameNow_rep hd hk r3 hkk)
  simpa using this

theorem miss_world {sk : Bool} {k : AVal} {kv : Value} {es : List (AVal × AVal)} {c0 c : List MapEntry} {d : TypeDesc} (hh : Miss sk k es) (hr : RepE loc es c0) (hp : List.Perm c0 c) (hk : Rep loc k kv)
    (hd : (sk = true ∧ d = .string) ∨ (sk = false ∧ ∃ k, d = .int k)) : Instr.findNow d kv c 0 = some none := by
  refine findNow_miss fun e he => ?_
  obtain ⟨z, hz, hzr, -⟩ := hr.mem e (hp.mem_iff.2 he)
  exact sameNow_rep hd hk hzr (hh z hz)

theorem keysOK_hit {sk : Bool} {k v : AVal} {es p q : List (AVal × AVal)} (hh : Hit sk k es p v q) (hd : Dist es) : KeysOK sk es := by
  obtain ⟨s0, h0⟩ := hd
  have : s0 = sk := by
    obtain ⟨rfl, hkk, -⟩ := hh
    exact keyEq_kind (h0.1 (k, v) (by simp)) hkk
  subst this; exact h0

theorem run_checkKey {t : TypeId} {sk : Bool} (ht : tkey P t = some sk) (em : Bool) (kv : Value) : (Instr.checkKey em 10000 t kv).run P w = .ok () w := by
  have key : ∀ d : Nat, (Instr.checkKey em (d + 1) t kv).run P w = .ok () w := by
    intro d
    rcases tkey_spec ht with ⟨-, hu⟩ | ⟨-, k, hu⟩ <;> simp only [Instr.checkKey, Sem.run_bind, run_und hu, Result.andThen_ok] <;> cases kv <;> rfl
  exact key 9999

theorem run_findKey {t : TypeId} {d : TypeDesc} (hu : P.underlying t = some d) {kv : Value} {c : List MapEntry} {r : Option (Nat × Value)} (hf : Instr.findNow d kv c 0 = some r) : (Instr.findKey t kv c).run P w = .ok r w := by
  simp only [Instr.findKey, Sem.run_bind, run_und hu, Result.andThen_ok, hf, Sem.run_pure]

theorem tkey_desc {t : TypeId} {sk : Bool} (ht : tkey P t = some sk) : ∃ d, P.underlying t = some d ∧ ((sk = true ∧ d = .string) ∨ (sk = false ∧ ∃ k, d = .int k)) := by
  rcases tkey_spec ht with ⟨h1, hu⟩ | ⟨h1, k, hu⟩
  · exact ⟨_, hu, .inl ⟨h1, rfl⟩⟩
  · exact ⟨_, hu, .inr ⟨h1, k, rfl⟩⟩

/-- what is looked up -/
theorem run_find (s : Sim loc h w) {sk : Bool} {m k : AVal} {m' kv : Value} {r : Option AVal} {t : TypeId} (ht : tkey P t = some sk) (hm : Rep loc m m') (hk : Rep loc k kv) (hl : lookKey h sk m k = some r) :
    (m' = .map none ∧ r = none) ∨ ∃ b es' ck res, m' = .map (some b) ∧ w.heap[b]? = some (.map es' ck) ∧ (Instr.findKey t kv es'.toList).run P w = .ok res w ∧
      ((r = none ∧ res = none) ∨ ∃ i v v', r = some v ∧ res = some (i, v') ∧ Rep loc v v') := by
  obtain ⟨d, hu, hd⟩ := tkey_desc ht
  unfold lookKey at hl
  split at hl
  · cases hm; simp only [Option.some.injEq] at hl; exact .inl ⟨rfl, hl.symm⟩
  · rename_i b
    split at hl
    · rename_i es hes
      cases hm with
      | mp _ l hloc =>
      obtain ⟨es', ck, hw, hdist, -, c0, hp, hr⟩ := s.map hloc hes
      refine .inr ⟨l.cb, es', ck, ?_⟩
      rcases findKey_spec hl with ⟨rfl, hmiss⟩ | ⟨p, v, q, rfl, hhit⟩
      · exact ⟨none, rfl, hw, run_findKey hu (miss_world hmiss hr hp hk hd), .inl ⟨rfl, rfl⟩⟩
      · obtain ⟨A, e, B, X, Y, -, -, -, -, -, -, r4, hf⟩ := hit_world hhit (keysOK_hit hhit hdist) hr hp hk hd
        exact ⟨_, rfl, hw, run_findKey hu hf, .inr ⟨_, v, e.val, rfl, rfl, r4⟩⟩
    · cases hl
  · cases hl

theorem o_look {t kt el : TypeId} {sk g ok : Bool} {zs : List AVal} {z : AVal} {x u : Operand} {y q : Opr} {r : Option AVal} (ho : o.op = .lookup t x u ok) (hx : copr G x = some y) (hq : copr G u = some q) (hg : Globs G loc) (s : Sim loc h w)
    (he : AtRep loc (oprTmps y ++ oprTmps q) e a.tmps) (hu : P.underlying t = some (.map kt el)) (ht : tkey P kt = some sk) (hag : tagg P el = some g) (hz : tzero P el = some zs) (hzz : ofCells g zs = some z) (hzk : zeroKind P el g = true)
    (hr : lookKey h sk (y.ev e) (q.ev e) = some r) : Out P o a loc h w (if ok then .tup [r.getD z, .bool r.isSome] else r.getD z) h := by
  have rx := copr_rep hx hg he.left
  have rq := copr_rep hq hg he.right
  obtain ⟨zv, hrz, hzr, i, hi, -, hiz⟩ := run_tzero (P := P) (loc := loc) (w := w) hz
  have hzrep : Rep loc z zv := by
    unfold ofCells at hzz
    cases g with
    | true =>
      simp only [if_true, Option.some.injEq] at hzz; subst hzz
      obtain ⟨zc, rfl⟩ : ∃ zc, zv = .agg zc := by
        unfold zeroKind at hzk
        simp only [hi, hiz] at hzk
        cases zv <;> simp_all
      have := Rep.agg (loc := loc) zs zc.toList (by simpa [Value.cells] using hzr)
      simpa using this
    | false =>
      simp only [Bool.false_eq_true, if_false] at hzz
      have h3 : zv.cells = #[zv] := by
        unfold zeroKind at hzk
        simp only [hi, hiz] at hzk
        cases zv <;> first | rfl | simp_all
      split at hzz
      · simp only [Option.some.injEq] at hzz; subst hzz
        rw [h3] at hzr
        cases hzr with
        | cons _ _ _ _ h _ => exact h
      · cases hzz
  have fin : ∀ (rv : AVal) (rv' : Value) (b : Bool), Rep loc rv rv' → (execOp a.eval o).run P w = .ok (.value (if ok then .tuple #[rv', .bool b] else rv')) w → Out P o a loc h w (if ok then .tup [rv, .bool b] else rv) h := by
    intro rv rv' b hv hrun
    cases ok
    · exact out_same s (v' := rv') (by simpa using hrun) (by simpa using hv)
    · refine out_same s (v' := .tuple #[rv', .bool b]) (by simpa using hrun) ?_
      have := Rep.tup (loc := loc) [rv, .bool b] [rv', .bool b] (.cons _ _ _ _ hv (.cons _ _ _ _ (.bool b) .nil))
      simpa using this
  rcases run_find (P := P) s ht rx rq hr with ⟨hm, rfl⟩ | ⟨b, es', ck, res, hm, hw, hf, hres⟩
  · have h1 : (Instr.findKey kt (a.eval u) []).run P w = .ok none w := by
      obtain ⟨d, hd, -⟩ := tkey_desc ht
      exact run_findKey hd rfl
    have := fin z zv false hzrep (by
      simp only [execOp, ho, Sem.run_bind, Instr.lookup, run_und hu, Result.andThen_ok, hm, Sem.run_pure, run_checkKey ht, h1, hrz])
    simpa using this
  · rcases hres with ⟨rfl, rfl⟩ | ⟨j, v, v', rfl, rfl, hv⟩
    · have := fin z zv false hzrep (by
        simp only [execOp, ho, Sem.run_bind, Instr.lookup, run_und hu, Result.andThen_ok, hm, run_getObj_map hw, Sem.run_pure, run_checkKey ht, hf, hrz])
      simpa using this
    · have := fin v v' true hv (by
        simp only [execOp, ho, Sem.run_bind, Instr.lookup, run_und hu, Result.andThen_ok, hm, run_getObj_map hw, Sem.run_pure, run_checkKey ht, hf])
      simpa using this
end
end Go.Ai

/- What writes: cells, maps, iterators. -/
set_option linter.unusedSimpArgs false
set_option linter.unusedVariables false
namespace Go.Ai
open Go

section
variable {G : List Nat} {P : Program} {loc : Loc} {h h' : AHeap} {w : World} {e : Env} {a : Act} {o : Oper} {v : AVal}

theorem writable_cells {b ez : Nat} {vs : List AVal} (hg : h.get b = some (.cells ez false vs)) : writable h b := by unfold writable; rw [hg]
theorem writable_map {b : Nat} {es : List (AVal × AVal)} (hg : h.get b = some (.map es)) : writable h b := by unfold writable; rw [hg]; trivial
theorem writable_iter {b p : Nat} {st : List UInt8} (hg : h.get b = some (.iter st p)) : writable h b := by unfold writable; rw [hg]; trivial

theorem storeN_spec {b off : Nat} {ns : List AVal} (hs : storeN h b off ns = some h') : ∃ ez vs, h.get b = some (.cells ez false vs) ∧ off + ns.length ≤ vs.length ∧ ns.all flat = true ∧ h' = h.set b (.cells ez false (over vs off ns)) := by
  unfold storeN at hs
  split at hs
  · rename_i ez vs hg
    split at hs
    · rename_i hc
      simp only [Option.some.injEq] at hs
      exact ⟨ez, vs, hg, hc.1, hc.2, hs.symm⟩
    · cases hs
  · cases hs

/-- a row of cells is stored -/
theorem store_sim (s : Sim loc h w) {b off : Nat} {ns : List AVal} {ns' : List Value} {l : L} (hl : loc b = some l) (hs : storeN h b off ns = some h') (hr : RepL loc ns ns') :
    ∃ w', (storeCells ⟨l.cb, l.base + off, none⟩ ns').run P w = .ok () w' ∧ Sim loc h' w' ∧ Step loc h w loc h' w' := by
  obtain ⟨ez, vs, hg, hle, hf, rfl⟩ := storeN_spec hs
  obtain ⟨C, ty, fz, hC, r1, r2, r3, r4, r5⟩ := s.cells hl hg
  have hlen := hr.length
  obtain ⟨hz0, hz1⟩ := r5 rfl
  obtain ⟨new, hnew, hrun⟩ := run_storeCells (P := P) l.cb (l.base + off) ty fz ns' 0 C w hC (by omega) (hz1.imp (fun h => by omega) id) (hr.flat hf)
  have hCl : C.toList.length = C.size := by simp
  have hnl : new.size = C.size := by
    have := congrArg List.length hnew
    simp only [Array.length_toList, List.length_append, List.length_take, List.length_drop] at this
    omega
  refine ⟨_, hrun, set_sim s hl (writable_cells hg) _ _ rfl rfl rfl ⟨r1, by omega, ?_, ?_, fun _ => ⟨hz0, by rw [hnl]; exact hz1⟩⟩⟩
  · unfold over; simp; omega
  · have hov := r4.over hr off
    have hol : (over vs off ns).length = vs.length := by unfold over; simp; omega
    rw [hol]
    have : (new.toList.drop l.base).take vs.length = ((C.toList.drop l.base).take vs.length).take off ++ (ns' ++ ((C.toList.drop l.base).take vs.length).drop (off + ns'.length)) := by
      rw [hnew, Nat.add_zero]
      apply List.ext_getElem?
      intro j
      have hm1 : min (l.base + off) C.size = l.base + off := by omega
      have hm2 : min vs.length (C.size - l.base) = vs.length := by omega
      have hm3 : min off vs.length = off := by omega
      simp only [List.getElem?_take, List.getElem?_drop, List.getElem?_append, List.length_take, List.length_drop, hCl, hm1, hm2, hm3]
      by_cases hj : j < vs.length
      · by_cases h1 : j < off
        · repeat (first | rw [if_pos (by omega)] | rw [if_neg (by omega)])
        · by_cases h2 : j < off + ns'.length
          · repeat (first | rw [if_pos (by omega)] | rw [if_neg (by omega)])
            congr 1; omega
          · repeat (first | rw [if_pos (by omega)] | rw [if_neg (by omega)])
            congr 1; omega
      · repeat (first | rw [if_pos (by omega)] | rw [if_neg (by omega)])
    rw [this]; exact hov

theorem o_store {t : TypeId} {n : Nat} {x z : Operand} {y u : Opr} {b off : Nat} (ho : o.op = .store t x z) (hx : copr G x = some y) (hz : copr G z = some u) (hg : Globs G loc) (s : Sim loc h w) (he : AtRep loc (oprTmps y ++ oprTmps u) e a.tmps)
    (hn : tsize P t = some n) (hp : y.ev e = .ptr b off) (hl : (cellsOf (u.ev e)).length = n) (hs : storeN h b off (cellsOf (u.ev e)) = some h') : Out P o a loc h w undef h' := by
  have rx := copr_rep hx hg he.left
  have rz := (copr_rep hz hg he.right).cells
  rw [hp] at rx
  generalize hX : a.eval x = X at rx
  cases rx with
  | ptr _ _ l hloc =>
    obtain ⟨w', hrun, hs'⟩ := store_sim (P := P) s hloc hs rz
    refine out_skip (w' := w') ?_ hs'
    have hlen : (a.eval z).cells.size = n := by have := rz.length; simp at this; omega
    simp only [execOp, ho, hX, Sem.run_bind, Instr.storeAt, Instr.sureAddr, Sem.run_pure, Result.andThen_ok, storeVar, run_tsize hn]
    rw [if_neg (by simpa using hlen)]
    simp only [hrun, Result.andThen_ok]

/-- a map is turned -/
theorem map_sim (s : Sim loc h w) {b : Nat} {l : L} {es es2 : List (AVal × AVal)} (hl : loc b = some l) (hg : h.get b = some (.map es)) (c2 : Array MapEntry) (ck : Nat) (hd : Dist es2) (hst : MapKept.Stamped c2 ck) {c0 : List MapEntry} (hp : List.Perm c0 c2.toList) (hr : RepE loc es2 c0)
    (hm : ∃ c1 k1, w.heap[l.cb]? = some (.map c1 k1)) :
    (setObj l.cb (.map c2 ck)).run P w = .ok () { w with heap := w.heap.setIfInBounds l.cb (.map c2 ck) } ∧
    Sim loc (h.set b (.map es2)) { w with heap := w.heap.setIfInBounds l.cb (.map c2 ck) } ∧ Step loc h w loc (h.set b (.map es2)) { w with heap := w.heap.setIfInBounds l.cb (.map c2 ck) } := by
  obtain ⟨c1, k1, hm⟩ := hm
  refine ⟨by simp [setObj, Sem.run, hm], ?_⟩
  exact set_sim s hl (writable_map hg) _ _ rfl rfl rfl ⟨hd, hst, c0, hp, hr⟩

theorem keysOK_put {sk : Bool} {k v v2 : AVal} {es p q : List (AVal × AVal)} (hh : Hit sk k es p v q) (hok : KeysOK sk es) : KeysOK sk (p ++ (k, v2) :: q) := by
  obtain ⟨rfl, hkk, hpre⟩ := hh
  obtain ⟨h1, h2⟩ := hok
  refine ⟨?_, ?_⟩
  · intro z hz
    rcases List.mem_append.1 hz with hz | hz
    · exact h1 z (by simp [hz])
    · cases hz with
      | head => exact hkk
      | tail _ hz => exact h1 z (List.mem_append_right _ (List.mem_cons_of_mem _ hz))
  · rw [List.pairwise_append] at h2 ⊢
    obtain ⟨a1, a2, a3⟩ := h2
    refine ⟨a1, ?_, ?_⟩
    · rw [List.pairwise_cons] at a2 ⊢
      exact a2
    · intro x hx y hy
      cases hy with
      | head => exact a3 x hx (k, v) (by simp)
      | tail _ hy => exact a3 x hx y (List.mem_cons_of_mem _ hy)

theorem keysOK_del {sk : Bool} {k v : AVal} {es p q : List (AVal × AVal)} (hh : Hit sk k es p v q) (hok : KeysOK sk es) : KeysOK sk (p ++ q) := by
  obtain ⟨rfl, hkk, hpre⟩ := hh
  obtain ⟨h1, h2⟩ := hok
  refine ⟨fun z hz => h1 z (by rcases List.mem_append.1 hz with h | h <;> simp [h]), ?_⟩
  rw [List.pairwise_append] at h2 ⊢
  obtain ⟨a1, a2, a3⟩ := h2
  exact ⟨a1, (List.pairwise_cons.1 a2).2, fun x hx y hy => a3 x hx y (by simp [hy])⟩

theorem keysOK_new {sk : Bool} {k v : AVal} {es : List (AVal × AVal)} (hm : Miss sk k es) (hd : Dist es) (hk : keyEq sk k k = some true) : KeysOK sk (es ++ [(k, v)]) := by
  have hok : KeysOK sk es := keysOK_of (k := k) hd (fun p q e => ⟨false, hm p (by rw [e]; simp)⟩)
  obtain ⟨h1, h2⟩ := hok
  refine ⟨?_, ?_⟩
  · intro z hz
    rcases List.mem_append.1 hz with hz | hz
    · exact h1 z hz
    · simp only [List.mem_singleton] at hz; subst hz; exact hk
  · rw [List.pairwise_append]
    refine ⟨h2, by simp, ?_⟩
    intro x hx y hy
    simp only [List.mem_singleton] at hy; subst hy
    exact keyEq_symm (hm x hx)

theorem sameBits_key {sk : Bool} {k : AVal} {kv ev : Value} (hk : Rep loc k kv) (he : Rep loc k ev) (hkk : keyEq sk k k = some true) : Instr.sameBits 10000 ev kv = true := by
  have key : ∀ d : Nat, Instr.sameBits d ev kv = true := by
    intro d
    cases k <;> simp [keyEq] at hkk
    · cases hk; cases he; cases d <;> simp [Instr.sameBits]
    · cases hk; cases he; cases d <;> simp [Instr.sameBits, beq_toListBytes]
  exact key 10000

theorem rep_key_eq {sk : Bool} {k : AVal} {kv ev : Value} (hk : Rep loc k kv) (he : Rep loc k ev) (hkk : keyEq sk k k = some true) : ev = kv := by
  cases k <;> simp [keyEq] at hkk
  · cases hk; cases he; rfl
  · cases hk; cases he; rfl

theorem modify_at {e e' : MapEntry} {A B : List MapEntry} {f : MapEntry → MapEntry} (es' : Array MapEntry) (h : es'.toList = A ++ e :: B) (hf : f e = e') : (es'.modify A.length f).toList = A ++ e' :: B := by
  have hes : es' = (A ++ e :: B).toArray := by apply Array.ext'; simpa using h
  subst hes
  rw [Array.toList_modify]
  clear h
  induction A with
  | nil => simp [hf]
  | cons a A ih => simp at ih ⊢; exact ih

theorem fresh_key {sk : Bool} {k : AVal} {kv : Value} {es : List (AVal × AVal)} {c0 c : List MapEntry} (hh : Miss sk k es) (hr : RepE loc es c0) (hp : List.Perm c0 c) (hk : Rep loc k kv) (hkk : keyEq sk k k = some true) : ∀ x ∈ c, x.key ≠ kv := by
  intro x hx e
  obtain ⟨z, hz, hzr, -⟩ := hr.mem x (hp.mem_iff.2 hx)
  have h1 := hh z hz
  rw [e] at hzr
  have : z.1 = k := by
    cases k <;> simp [keyEq] at hkk <;> cases hk <;> cases hz1 : z.1 <;> rw [hz1] at hzr h1 <;> simp [keyEq] at h1 <;> cases hzr <;> rfl
  rw [this, hkk] at h1
  cases h1

theorem o_mset {t kt el : TypeId} {sk : Bool} {x y z : Operand} {x' y' z' : Opr} {b : Nat} {es es2 : List (AVal × AVal)} (ho : o.op = .mapUpdate t x y z ∨ o.op = .insert t x y z) (hx : copr G x = some x') (hy : copr G y = some y') (hz : copr G z = some z') (hg : Globs G loc) (s : Sim loc h w)
    (he : AtRep loc (oprTmps x' ++ (oprTmps y' ++ oprTmps z')) e a.tmps) (hu : P.underlying t = some (.map kt el)) (ht : tkey P kt = some sk) (hp : x'.ev e = .mp b) (hm : h.get b = some (.map es)) (hself : (keyEq sk (y'.ev e) (y'.ev e)).isSome = true)
    (hput : putKey sk (y'.ev e) (z'.ev e) es = some es2) : Out P o a loc h w undef (h.set b (.map es2)) := by
  have rx := copr_rep hx hg he.left
  have ry := copr_rep hy hg he.right.left
  have rz := copr_rep hz hg he.right.right
  rw [hp] at rx
  generalize hX : a.eval x = X at rx
  obtain ⟨d, hdu, hd⟩ := tkey_desc ht
  cases rx with
  | mp _ l hloc =>
  obtain ⟨c1, ck, hw, hdist, hst, c0, hperm, hr⟩ := s.map hloc hm
  have hkk : keyEq sk (y'.ev e) (y'.ev e) = some true := by
    obtain ⟨tt, htt⟩ := Option.isSome_iff_exists.1 hself
    exact keyEq_self htt
  have hexec : ∀ w', (Instr.mapUpdate t (.map (some l.cb)) (a.eval y) (a.eval z)).run P w = .ok () w' → (execOp a.eval o).run P w = .ok .skip w' := by
    intro w' hr
    rcases ho with ho | ho <;> simp only [execOp, ho, hX, Sem.run_bind, hr, Result.andThen_ok, Sem.run_pure]
  rcases putKey_spec hput with ⟨rfl, hmiss⟩ | ⟨p, u, q, rfl, hhit⟩
  · have hf := run_findKey (w := w) hdu (miss_world hmiss hr hperm ry hd)
    have hnew : RepE loc (es ++ [(y'.ev e, z'.ev e)]) (c0 ++ [{ key := a.eval y, val := a.eval z, born := ck }]) := hr.app (.cons _ _ _ _ _ ry rz .nil)
    obtain ⟨k1, k2⟩ := map_sim (P := P) s hloc hm (c1.push { key := a.eval y, val := a.eval z, born := ck }) (ck + 1) ⟨sk, keysOK_new hmiss hdist hkk⟩ (MapKept.stamped_push hst (fresh_key hmiss hr hperm ry hkk)) (by simpa using hperm.append_right _) hnew ⟨c1, ck, hw⟩
    refine out_skip (hexec _ ?_) k2
    simp only [Instr.mapUpdate, Sem.run_bind, run_und hu, Result.andThen_ok, run_getObj_map hw, run_checkKey ht, hf, k1]
  · have hok := keysOK_hit hhit hdist
    obtain ⟨A, ee, B, X0, Y0, hc, hc0, hpp, r1, r2, r3, r4, hf⟩ := hit_world hhit hok hr hperm ry hd
    have hf := run_findKey (w := w) hdu hf
    have hkey : (c1[A.length]?).map (·.key) = some ee.key := by
      have : c1[A.length]? = some ee := by rw [← Array.getElem?_toList, hc]; simp
      simp [this]
    have hstay : (Instr.keyThatStays ee.key (a.eval y)).run P w = .ok (a.eval y) w := by
      simp only [Instr.keyThatStays, sameBits_key ry r3 hkk, if_true, Sem.run_pure]
    have hmod := modify_at (e' := { ee with key := a.eval y, val := a.eval z }) (f := fun e => { e with key := a.eval y, val := a.eval z }) c1 hc rfl
    have hnew : RepE loc (p ++ (y'.ev e, z'.ev e) :: q) (X0 ++ { ee with key := a.eval y, val := a.eval z } :: Y0) := r1.app (.cons _ _ _ _ _ ry rz r2)
    have hperm2 : List.Perm (X0 ++ { ee with key := a.eval y, val := a.eval z } :: Y0) (c1.modify A.length fun e => { e with key := a.eval y, val := a.eval z }).toList := by
      rw [hmod]
      exact (List.perm_middle.trans (hpp.cons _)).trans List.perm_middle.symm
    obtain ⟨k1, k2⟩ := map_sim (P := P) s hloc hm (c1.modify A.length fun e => { e with key := a.eval y, val := a.eval z }) ck ⟨sk, keysOK_put hhit hok⟩ (MapKept.stamped_modify hst _ _ (fun _ _ => rfl) (fun x _ hx => by
      have : c1[A.length]? = some ee := by rw [← Array.getElem?_toList, hc]; simp
      rw [hx] at this; cases this; exact (rep_key_eq ry r3 hkk).symm)) hperm2 hnew ⟨c1, ck, hw⟩
    refine out_skip (hexec _ ?_) k2
    simp only [Instr.mapUpdate, Sem.run_bind, run_und hu, Result.andThen_ok, run_getObj_map hw, run_checkKey ht, hf, hkey, Option.getD_some, hstay, k1]

theorem undef_eq : (Value.tuple #[] : Value) = Go.undef := rfl

theorem erase_at {e : MapEntry} {A B : List MapEntry} (es' : Array MapEntry) (h : es'.toList = A ++ e :: B) : (es'.eraseIdxIfInBounds A.length).toList = A ++ B := by
  have hes : es' = (A ++ e :: B).toArray := by apply Array.ext'; simpa using h
  subst hes
  simp [Array.eraseIdxIfInBounds]
  rw [List.eraseIdx_append_of_length_le (Nat.le_refl _)]
  simp

theorem o_del {c : Call} {t kt el : TypeId} {sk : Bool} {x y : Operand} {x' y' : Opr} {b : Nat} {es es2 : List (AVal × AVal)} (ho : o.op = .call c) (hc : c.callee = .builtin .delete) (ha : c.args.toList = [x, y]) (hx : copr G x = some x') (hy : copr G y = some y') (hg : Globs G loc) (s : Sim loc h w)
    (he : AtRep loc (oprTmps x' ++ oprTmps y') e a.tmps) (htt : c.argTypes[0]? = some t) (hu : P.underlying t = some (.map kt el)) (ht : tkey P kt = some sk) (hp : x'.ev e = .mp b) (hm : h.get b = some (.map es)) (hdel : delKey sk (y'.ev e) es = some es2) :
    Out P o a loc h w undef (h.set b (.map es2)) := by
  have rx := copr_rep hx hg he.left
  have ry := copr_rep hy hg he.right
  rw [hp] at rx
  generalize hX : a.eval x = X at rx
  obtain ⟨d, hdu, hd⟩ := tkey_desc ht
  cases rx with
  | mp _ l hloc =>
  obtain ⟨c1, ck, hw, hdist, hst, c0, hperm, hr⟩ := s.map hloc hm
  rcases delKey_spec hdel with ⟨rfl, hmiss⟩ | ⟨p, u, q, rfl, hhit⟩
  · have hf := run_findKey (w := w) hdu (miss_world hmiss hr hperm ry hd)
    obtain ⟨k1, k2⟩ := map_sim (P := P) s hloc hm c1 ck hdist hst hperm hr ⟨c1, ck, hw⟩
    refine out_value (v' := Go.undef) (run_builtin ho hc ha ?_) k2 Rep.undef
    simp only [builtin, Builtin.delete_, htt, List.map_cons, List.map_nil, hX, Sem.run_bind, run_und hu, Result.andThen_ok, run_getObj_map hw, run_checkKey ht, hf, k1, Sem.run_pure, List.getElem?_toArray, List.getElem?_cons_zero, List.getElem?_cons_succ]
    rfl
  · have hok := keysOK_hit hhit hdist
    obtain ⟨A, ee, B, X0, Y0, hcc, hc0, hpp, r1, r2, r3, r4, hf⟩ := hit_world hhit hok hr hperm ry hd
    have hf := run_findKey (w := w) hdu hf
    have her := erase_at c1 hcc
    obtain ⟨k1, k2⟩ := map_sim (P := P) s hloc hm (c1.eraseIdxIfInBounds A.length) ck ⟨sk, keysOK_del hhit hok⟩ (MapKept.stamped_erase hst _) (c0 := X0 ++ Y0) (by rw [her]; exact hpp) (r1.app r2) ⟨c1, ck, hw⟩
    refine out_value (v' := Go.undef) (run_builtin ho hc ha ?_) k2 Rep.undef
    simp only [builtin, Builtin.delete_, htt, List.map_cons, List.map_nil, hX, Sem.run_bind, run_und hu, Result.andThen_ok, run_getObj_map hw, run_checkKey ht, hf, k1, Sem.run_pure, List.getElem?_toArray, List.getElem?_cons_zero, List.getElem?_cons_succ]
    rfl

theorem o_del_nil {c : Call} {t kt el : TypeId} {sk : Bool} {x y : Operand} {x' y' : Opr} (ho : o.op = .call c) (hc : c.callee = .builtin .delete) (ha : c.args.toList = [x, y]) (hx : copr G x = some x') (hg : Globs G loc) (s : Sim loc h w)
    (he : AtRep loc (oprTmps x' ++ oprTmps y') e a.tmps) (htt : c.argTypes[0]? = some t) (hu : P.underlying t = some (.map kt el)) (ht : tkey P kt = some sk) (hp : x'.ev e = .nilm) : Out P o a loc h w undef h := by
  have rx := copr_rep hx hg he.left
  rw [hp] at rx
  generalize hX : a.eval x = X at rx
  cases rx
  refine out_same s (v' := Go.undef) (run_builtin ho hc ha ?_) Rep.undef
  simp only [builtin, Builtin.delete_, htt, List.map_cons, List.map_nil, hX, Sem.run_bind, run_und hu, Result.andThen_ok, run_checkKey ht, Sem.run_pure, List.getElem?_toArray, List.getElem?_cons_zero, List.getElem?_cons_succ]
  rfl

/-! ## Strings that are ranged over -/

theorem o_rng {t : TypeId} {x : Operand} {y : Opr} {st : List UInt8} (ho : o.op = .range t x) (hx : copr G x = some y) (hg : Globs G loc) (s : Sim loc h w) (he : AtRep loc (oprTmps y) e a.tmps) (hu : P.underlying t = some .string) (hp : y.ev e = .str st) :
    Out P o a loc h w (.ptr h.n 0) (h.push (.iter st 0)) := by
  have rx := copr_rep hx hg he
  rw [hp] at rx
  generalize hX : a.eval x = X at rx
  cases rx
  refine out_value (v' := .pointer (some ⟨w.heap.size, 0, none⟩)) (w' := { w with heap := w.heap.push (.stringIter ⟨st.toArray⟩ 0) }) ?_ (alloc_sim s _ _ ⟨w.heap.size, 0, 0, 0⟩ rfl rfl rfl rfl ⟨rfl, rfl, rfl⟩) ?_
  · simp only [execOp, ho, hX, Sem.run_bind, Instr.range, run_und hu, Result.andThen_ok, Sem.run_pure, run_newObj]
  · have := Rep.ptr (loc := upd loc h.n ⟨w.heap.size, 0, 0, 0⟩) h.n 0 _ upd_self
    simpa using this

theorem Sim.iter (s : Sim loc h w) {b p : Nat} {l : L} {st : List UInt8} (hl : loc b = some l) (hg : h.get b = some (.iter st p)) : w.heap[l.cb]? = some (.stringIter ⟨st.toArray⟩ p) ∧ l.base = 0 := by
  obtain ⟨o', ho, hr⟩ := s.obj b l _ hl hg
  cases o' with
  | stringIter s' p' => obtain ⟨rfl, rfl, h0⟩ := hr; exact ⟨ho, h0⟩
  | _ => exact hr.elim

theorem o_nxt_more {x : Operand} {y : Opr} {b pos : Nat} {st : List UInt8} (ho : o.op = .next x true) (hx : copr G x = some y) (hg : Globs G loc) (s : Sim loc h w) (he : AtRep loc (oprTmps y) e a.tmps) (hp : y.ev e = .ptr b 0) (hi : h.get b = some (.iter st pos)) (hlt : pos < st.length) :
    Out P o a loc h w (.tup [.bool true, goI pos, .int .i32 (Utf8.decode ⟨st.toArray⟩ pos).1]) (h.set b (.iter st (pos + (Utf8.decode ⟨st.toArray⟩ pos).2))) := by
  have rx := copr_rep hx hg he
  rw [hp] at rx
  generalize hX : a.eval x = X at rx
  cases rx with
  | ptr _ _ l hl =>
    obtain ⟨hw, hb0⟩ := s.iter hl hi
    refine out_value (v' := .tuple #[.bool true, .int .i64 pos, .int .i32 (Utf8.decode ⟨st.toArray⟩ pos).1]) (w' := { w with heap := w.heap.setIfInBounds l.cb (.stringIter ⟨st.toArray⟩ (pos + (Utf8.decode ⟨st.toArray⟩ pos).2)) }) ?_
      (set_sim s hl (writable_iter hi) _ _ rfl rfl rfl ⟨rfl, rfl, hb0⟩) ?_
    · have hsz : (⟨st.toArray⟩ : ByteArray).size = st.length := by simp [ByteArray.size]
      have hget : (getObj l.cb).run P w = .ok (.stringIter ⟨st.toArray⟩ pos) w := by simp [getObj, Sem.run, hw]
      have hset : ∀ o', (setObj l.cb o').run P w = .ok () { w with heap := w.heap.setIfInBounds l.cb o' } := fun o' => by simp [setObj, Sem.run, hw]
      simp only [execOp, ho, hX, Sem.run_bind, Instr.next, hb0, hget, Result.andThen_ok, Nat.add_zero]
      rw [if_pos (by rw [hsz]; exact hlt)]
      simp only [Sem.run_bind, hset, Result.andThen_ok, Sem.run_pure, goInt]
    · exact Rep.tup (loc := loc) _ [_, _, _] (.cons _ _ _ _ (.bool _) (.cons _ _ _ _ (.int _ _) (.cons _ _ _ _ (.int _ _) .nil)))

theorem o_nxt_over {x : Operand} {y : Opr} {b pos : Nat} {st : List UInt8} (ho : o.op = .next x true) (hx : copr G x = some y) (hg : Globs G loc) (s : Sim loc h w) (he : AtRep loc (oprTmps y) e a.tmps) (hp : y.ev e = .ptr b 0) (hi : h.get b = some (.iter st pos)) (hlt : ¬ pos < st.length) :
    Out P o a loc h w (.tup [.bool false]) h := by
  have rx := copr_rep hx hg he
  rw [hp] at rx
  generalize hX : a.eval x = X at rx
  cases rx with
  | ptr _ _ l hl =>
    obtain ⟨hw, hb0⟩ := s.iter hl hi
    refine out_same s (v' := .tuple #[.bool false]) ?_ (Rep.tup (loc := loc) _ [_] (.cons _ _ _ _ (.bool _) .nil))
    have hsz : (⟨st.toArray⟩ : ByteArray).size = st.length := by simp [ByteArray.size]
    have hget : (getObj l.cb).run P w = .ok (.stringIter ⟨st.toArray⟩ pos) w := by simp [getObj, Sem.run, hw]
    simp only [execOp, ho, hX, Sem.run_bind, Instr.next, hb0, hget, Result.andThen_ok, Nat.add_zero]
    rw [if_neg (by rw [hsz]; exact hlt)]
    simp only [Sem.run_pure, Result.andThen_ok]

theorem o_conv_bs {t u el : TypeId} {x : Operand} {y : Opr} {b off len cap ez e0 : Nat} {vs : List AVal} (ho : o.op = .convert t u x) (hx : copr G x = some y) (hg : Globs G loc) (s : Sim loc h w) (he : AtRep loc (oprTmps y) e a.tmps)
    (ht : ∃ el', P.underlying t = some (.slice el')) (htu : t = u) (hu : P.underlying u = some (.slice el)) (h8 : isU8 P el = true) (hp : y.ev e = .sl b off len cap ez) (hb : h.get b = some (.cells e0 false vs)) (h0 : 0 < e0) (hpos : 0 < cap) :
    Out P o a loc h w (.sl b off len cap ez) h := by
  have rx := copr_rep hx hg he
  rw [hp] at rx
  subst htu
  generalize hX : a.eval x = X at rx
  cases rx with
  | sl _ _ _ _ _ c l hl hc hz =>
    obtain ⟨C, ty, fz, hC, r1, r2, r3, r4, r5⟩ := s.cells hl hb
    let w2 : World := w.freeze ⟨l.cb, C.size, none⟩ 1
    have hlt := (s.dom b l hl).2
    have hC2 : w.heap[l.cb] = .cells C ty fz := by have := hC; rw [Array.getElem?_eq_getElem hlt] at this; exact Option.some.inj this
    obtain ⟨fz', hheap, hf⟩ : ∃ fz' : Nat × Nat, w2.heap = w.heap.setIfInBounds l.cb (.cells C ty fz') ∧ ((fz.1 = fz.2 ∨ C.size ≤ fz.1) → (fz'.1 = fz'.2 ∨ C.size ≤ fz'.1)) := by
      refine ⟨if fz.1 == fz.2 then (C.size, C.size + 1) else (min fz.1 C.size, max fz.2 (C.size + 1)), ?_, ?_⟩
      · show (World.freeze w ⟨l.cb, C.size, none⟩ 1).heap = _
        unfold World.freeze
        rw [if_neg (by omega)]
        apply Array.ext_getElem?
        intro k
        show (w.heap.modify l.cb _)[k]? = _
        rw [Array.getElem?_modify]
        by_cases hk : l.cb = k
        · subst hk; simp [hlt, hC2]
        · rw [if_neg hk, Array.getElem?_setIfInBounds_ne hk]
      · intro hcond
        by_cases heq : fz.1 = fz.2
        · simp only [heq, beq_self_eq_true, if_true]; right; exact Nat.le_refl _
        · simp only [beq_eq_false_iff_ne.2 heq, Bool.false_eq_true, if_false]
          right; omega
    have hos : w2.os = w.os := by show (World.freeze w _ 1).os = _; unfold World.freeze; rw [if_neg (by omega)]
    have hout : w2.output = w.output := by show (World.freeze w _ 1).output = _; unfold World.freeze; rw [if_neg (by omega)]
    refine out_value (v' := .slice (some ⟨l.cb, l.base + off, none⟩) len c) (w' := w2) ?_ (mark_sim s hl hb h0 hC hheap hf hos hout (writable_cells hb)) (.sl _ _ _ _ _ c l hl hc hz)
    obtain ⟨el', ht⟩ := ht
    have hshape : w.shape? l.cb = some (ty, C.size) := by simp [World.shape?, hC]
    have htt : (t == t) = true := by simp
    simp only [execOp, ho, hX, Sem.run_bind, convert, run_und hu, Result.andThen_ok, htt, run_und (isU8_spec h8), markStringish, run_shape, hshape, run_freeze, Sem.run_pure]
    rfl
  | sl0 => omega
end
end Go.Ai

