/- WorldTries: for every input it returns true, and its arguments read as before. -/
import Derived.Test.YtdbihpcdlmaejaaGreatDoorCall
import Derived.Test.YtdbihpcdlmaejaaGreatDoorFacts
import Derived.Test.YtdbihpcdlmaejaaGreatDoorRows
import Derived.Test.YtdbihpcdlmaejaaGreatDoorTie
import Derived.Test.YtdbihpcdlmaejaaGreatDoorCards
import Derived.ProofKit
import Derived.OpenShut
import Derived.LaidMore
import Derived.Lay
import Derived.SevenTiedAt
import Derived.Stop.Joined
set_option maxRecDepth 1000000
set_option maxHeartbeats 4000000
namespace Go.Proofs.YtdbihpcdlmaejaaGreatDoor
open Go Go.Ai Go.ChangeShapes Go.WideShapes Go.ChangeAt Go.RowKit

theorem own : ownKnob Tryz.prog.godebug = none := by kernel_rfl

theorem post_of_kept {H : Type} {enc : TypeId × Value → H} {P : Program} {f : Func} {s : ChangeSpec} {apart fresh handsOn : Bool} {W W' : World} {args : Array Value} {v : Value} {ds gs : List (DataW H)} {before pa pv : List MemPlace}
    (hW : DataW.Whole enc P f.params.toList s.vars apart W args.toList ds gs before)
    (hres : ∀ (b : Nat) (sp : Nat → Bool) (hd : Bool), DataW.TrodAll enc P W' b sp hd f.resultTypes.toList (v.resultList f.resultTypes.size) (s.fn H (ds ++ gs)).results [])
    (hargs : ∀ sp : Nat → Bool, (∀ p ∈ before, sp p.block = true) → DataW.TrodAll enc P W' 0 sp true f.params.toList args.toList (s.fn H (ds ++ gs)).args pa)
    (hvars : ∀ sp : Nat → Bool, (∀ p ∈ before, sp p.block = true) → DataW.TrodVars enc P W' sp s.vars (s.fn H (ds ++ gs)).vars pv)
    (hps : before = pa ++ pv) (hk : W.keptBut W' (· ∈ before)) : s.post enc P f apart fresh handsOn false W args v W' := by
  have hold : ∀ p ∈ before, (fun b => decide (b < W.heap.size)) p.block = true := fun p hp => by simpa using hW.lt p hp
  refine ⟨ds, gs, before, [], pa, pv, hW, hres _ _ _, hargs _ hold, hvars _ hold, World.keptBut_mono (fun p hp => ⟨hp, ?_⟩) hk, fun h => by cases h⟩
  rw [hps, List.mem_append] at hp
  exact Or.inr hp

theorem pow_block {W : World} (h : laidMetH Tryz.prog Rows.worldTriesRow.laid W) : ∃ C ty fz, W.heap[1]? = some (.cells C ty fz) ∧ C.toList = Tryz.powN.map (Value.int .u64) := by
  rw [MakeChecks.laidMetH_plain _ _ _ (by kernel_rfl)] at h
  obtain ⟨ps, ⟨g0, t0, cs0, f0, p0, q0, hg0, ht0, hv0, hd0, ⟨g1, t1, cs1, f1, p1, q1, hg1, ht1, hv1, hd1, ⟨g, t, cs, fuel, p, q, hg, ht, hv, hd, _, _⟩, _⟩, _⟩, _, _⟩ := h
  obtain rfl := Option.some.inj ((show Tryz.prog.globalNamed "internal/strconv.uint64pow10" = some 1 by kernel_rfl).symm.trans hg)
  obtain rfl := Option.some.inj ((show (Tryz.prog.globals[1]?).map (·.type) = some 325 by kernel_rfl).symm.trans ht)
  obtain ⟨xs, m, _, ex, hlen, hl, hel⟩ := DataW.trod_array Tryz.underlying325 hd
  have cE : Tryz.prog.cellsOf 325 = 20 := by kernel_rfl
  have c1 : Tryz.prog.cellsOf 251 = 1 := by kernel_rfl
  rw [cE] at hlen
  simp only [World.var?, hg, Option.bind_some] at hv
  split at hv
  · rename_i C ty fz hb
    simp only [Option.some.injEq] at hv
    subst hv
    refine ⟨C, ty, fz, hb, ?_⟩
    have hxs : xs.map (·.1) = Tryz.powN.map fun n => (DataW.lit (.int .u64 n) : DataW Unit) := (DataW.agg.inj (Prod.mk.inj ex).1).symm
    apply List.ext_getElem?
    intro r
    rcases Nat.lt_or_ge r 20 with hr | hr
    · have hE := hel r hr
      rw [c1, Nat.mul_one, List.getElem?_eq_getElem (by omega)] at hE
      obtain ⟨z, e1, e2, _⟩ := DataW.trod_int Tryz.underlying251 hE
      have e4 : (xs.map (·.1))[r]? = (Tryz.powN.map fun n => (DataW.lit (.int .u64 n) : DataW Unit))[r]? := by rw [hxs]
      have hpl : Tryz.powN.length = 20 := rfl
      rw [List.getElem?_map, List.getElem?_map, List.getElem?_eq_getElem (by omega : r < xs.length), List.getElem?_eq_getElem (by omega : r < Tryz.powN.length), e2] at e4
      simp only [Option.map_some, Option.some.injEq, DataW.lit.injEq, Lit.int.injEq, true_and] at e4
      have h0 : ((C.toList.drop r).take 1)[0]? = some (.int .u64 z) := by rw [e1]; rfl
      rw [List.getElem?_map, List.getElem?_eq_getElem (by omega : r < Tryz.powN.length), ← e4]
      simpa using h0
    · rw [List.getElem?_eq_none (by omega), List.getElem?_eq_none (by simp [Tryz.powN]; omega)]
  · cases hv

def loc0 : Ai.Loc := fun b => if b = 1 then some ⟨1, 0, 20, 0⟩ else none

theorem sim0 {W : World} {C : Array Value} {ty : TypeId} {fz : Nat × Nat} (hb : W.heap[1]? = some (.cells C ty fz)) (hC : C.toList = Tryz.powN.map (Value.int .u64)) : Sim loc0 Tryz.h0 W ∧ Globs Tryz.GL loc0 := by
  have hlt : 1 < W.heap.size := (Array.getElem?_eq_some_iff.1 hb).1
  have hsz : C.size = 20 := by have := congrArg List.length hC; simpa [Tryz.powN] using this
  have hrep : ∀ ns : List Int, RepL loc0 (ns.map (AVal.int .u64)) (ns.map (Value.int .u64)) := by
    intro ns
    induction ns with
    | nil => exact .nil
    | cons n ns ih => exact .cons _ _ _ _ (.int _ _) ih
  refine ⟨⟨?_, ?_, ?_, ?_, ?_⟩, ?_⟩
  · intro b l hl
    unfold loc0 at hl
    split at hl
    · rename_i e; subst e; cases hl; exact ⟨by decide, hlt⟩
    · cases hl
  · intro b hbn
    have : (6 : Nat) ≤ b := hbn
    exact Tryz.h0_only.no b (by omega)
  · intro b l o hl ho
    unfold loc0 at hl
    split at hl
    · rename_i e; subst e; cases hl
      rw [Tryz.h0_only.at_] at ho; cases ho
      refine ⟨_, hb, rfl, by simp [hsz], by simp [Tryz.powN], ?_, fun h => by cases h⟩
      rw [List.drop_zero, hC, List.take_of_length_le (by simp)]
      exact hrep _
    · cases hl
  · intro b c l m hl hm hne hw _
    unfold loc0 at hl hm
    split at hl
    · rename_i e; subst e
      split at hm
      · rename_i e; subst e; exact absurd rfl hne
      · cases hm
    · cases hl
  · intro b l hl _
    unfold loc0 at hl
    split at hl
    · cases hl; rfl
    · cases hl
  · intro g hg
    simp only [Tryz.GL, List.mem_singleton] at hg
    subst hg
    exact ⟨⟨1, 0, 20, 0⟩, rfl, rfl, rfl⟩

theorem walk (a0 : Int) (a1 : Bool) (W : World) (hL : laidMetH Tryz.prog Rows.worldTriesRow.laid W) :
    Calls Tryz.prog 3 #[.int .i64 a0, .bool a1] W fun e w' => e = .returned (.bool true) ∧ ∀ may, W.keptBut w' may := by
  obtain ⟨C, ty, fz, hb, hC⟩ := pow_block hL
  obtain ⟨s, hg⟩ := sim0 hb hC
  obtain ⟨h', hc⟩ := Tryz.law a0 a1
  have hi := callN_ok Tryz.T2_ok 10000 3 _ _ _ _ hc loc0 W [.int .i64 a0, .bool a1] hg (.cons _ _ _ _ (.int _ _) (.cons _ _ _ _ (.bool _) .nil)) s
  have hcf : (callFunc 3 #[.int .i64 a0, .bool a1]).run Tryz.prog W = .ok (.enter 3 #[.int .i64 a0, .bool a1]) W := by
    have hb2 : Tryz.f3.body = some (cBody Tryz.f3) := Tryz.body_of (by kernel_rfl)
    have hn : (Tryz.f3.name == "runtime.NumGoroutine") = false := by kernel_rfl
    simp only [callFunc, Sem.run_bind, run_program, Result.andThen_ok, Tryz.func3]
    rw [if_neg (by rw [hn]; simp), hb2]
    rfl
  unfold InvOK at hi
  have hi : Calls Tryz.prog 3 #[.int .i64 a0, .bool a1] W fun e w'' => ∃ v, e = .returned v ∧ ∃ loc', Step loc0 Tryz.h0 W loc' h' w'' ∧ Sim loc' h' w'' ∧ Rep loc' (.bool true) v := by
    have e1 : ([.int .i64 a0, .bool a1] : List Value).toArray = #[.int .i64 a0, .bool a1] := rfl
    rw [e1, hcf] at hi
    exact hi
  refine hi.mono ?_
  rintro e w' ⟨v, rfl, loc', t, s', rv⟩
  cases rv
  refine ⟨rfl, fun may => ⟨t.os, t.output, fun i hi => ?_⟩⟩
  have hk : w'.heap[i]? = W.heap[i]? := by
    refine t.frame i hi ?_
    intro b l hl _
    unfold loc0 at hl
    split at hl
    · rename_i e; subst e
      unfold writable
      rw [Tryz.h0_only.at_]
      simp
    · cases hl
  rw [hk]
  split <;> simp_all

theorem lifted (os : Os) (started : os.Started) (H : Type) (enc : TypeId × Value → H) :
    ReturnsInHanded {} Tryz.checked os 3 .any (fun w args => (Rows.worldTriesSpec.pre enc Tryz.prog Tryz.f3 [] false w args ∧ laidMetH Tryz.prog Rows.worldTriesRow.laid w) ∧ sizedMet enc Tryz.prog Tryz.f3 (OpenSpec.ofChange Rows.worldTriesSpec) false w args)
      (Rows.worldTriesSpec.post enc Tryz.prog Tryz.f3 false true false false) := by
  refine returnsInHanded_of_change_and (C := Tryz.checked) (X := fun w _ => laidMetH Tryz.prog Rows.worldTriesRow.laid w) (fun _ _ _ hh h => h.of_heap hh) own started (by kernel_rfl) Tryz.func3
    (ChangeSpec.witness_shaped (enc := enc) (C := Tryz.checked) (os := os) (X := fun w _ => laidMetH Tryz.prog Rows.worldTriesRow.laid w) false (World.laidAll Tryz.prog os Rows.worldTriesRow.laid) #[.int .i64 0, .bool false] 8 (World.laidAll_os _ _ _)
      (World.shaped_of_ZipB (by kernel_rfl) (by kernel_rfl)) (by kernel_rfl) (by kernel_rfl) (by kernel_rfl)
      (by rw [MakeChecks.laidMetH_plain _ _ _ (by kernel_rfl)]; exact laidMet_laidAll _ (by kernel_rfl) (by kernel_rfl))) ?_
  intro W base args ds gs before hval0 hW hc _ hL _
  have hval : ∀ (j : Nat) t v, Tryz.f3.params[j]? = some t → args[j]? = some v → Value.okWide Tryz.prog W .any base t v := hval0
  have hW' := hW
  obtain ⟨p, q, hA0, hV, rfl, hfz, hnd⟩ := hW
  have hA : DataW.TrodAll enc Tryz.prog W 0 (fun _ => true) true Tryz.f3.params.toList args.toList ds p := hA0
  rw [Tryz.params3] at hA hval
  obtain ⟨v0, v1, d0, d1, p0, p1, rfl, rfl, rfl, h0, h1⟩ := trodAll_two hA
  obtain ⟨rfl, rfl⟩ := trodVars_none hV
  obtain ⟨a0, rfl, rfl, rfl, w0⟩ := open_int Tryz.underlying3 (hval 0 3 v0 rfl rfl) h0
  obtain ⟨a1, rfl, rfl, rfl⟩ := open_bool Tryz.underlying4 (hval 1 4 v1 rfl rfl) h1
  clear hA0 hval0
  simp only [List.append_nil] at hW'
  refine (walk a0 a1 W hL).mono fun e W' ⟨he, hk⟩ => ?_
  subst he
  exact ⟨_, rfl, post_of_kept (pa := []) (pv := []) hW' (fun _ _ _ => trodAll_mk1 (shut_bool Tryz.underlying4 _)) (fun sp _ => trodAll_mk2 (shut_int Tryz.underlying3 w0) (shut_bool Tryz.underlying4 _)) (fun _ _ => rfl) rfl (hk _)⟩

theorem worldTries_holds : Rows.WorldTriesSaid :=
  OpenClaim.holds_of_wide 3 Tryz.f3 rfl rfl rfl rfl rfl rfl rfl ⟨rfl, rfl, rfl, rfl, rfl⟩ rfl rfl rfl rfl rfl (by kernel_rfl) Tryz.func3 closed
    (of_decide_eq_true (by kernel_rfl)) (by unfold Func.isWrapper; first | (rw [if_pos (by decide +kernel)]; kernel_rfl) | (rw [if_neg (by decide +kernel)]; exact ⟨rfl, rfl⟩))
    (fun os started H enc _ => lifted os started H enc)

end Go.Proofs.YtdbihpcdlmaejaaGreatDoor
