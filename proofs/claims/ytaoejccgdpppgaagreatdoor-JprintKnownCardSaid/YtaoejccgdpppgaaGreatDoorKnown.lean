/-
JprintKnown.
The given statement JprintKnownCardSaid, proved: the closed test of package dragomanlaw9, called in any world that holds the tables which the row lists, returns true and leaves memory that was there as it was. No further condition.
-/
import Derived.Test.YtaoejccgdpppgaaGreatDoorKEval
import Derived.Test.YtaoejccgdpppgaaGreatDoorCards
import Derived.Test.YtaoejccgdpppgaaGreatDoorTie
import Derived.WalkKit
import Derived.ProofKit
import Derived.OpenShut
import Derived.Deep.DeepHandedRow
import Derived.Lib.LaidTab
import Derived.Lay
import Derived.Deep.DeepWitnessRowRef
import Derived.MakeChecks

section
namespace Go.Proofs.YtaoejccgdpppgaaGreatDoor
open Go.ChangeShapes Go.WideShapes Go.ChangeAt Go.RowKit Go.Am

theorem own : ownKnob Tryz.prog.godebug = none := by kernel_rfl
theorem gPowType : (Tryz.prog.globals[1]?).map (·.type) = some 180 := by kernel_rfl
theorem under180 : Tryz.prog.underlying 180 = some (.array 20 160) := by kernel_rfl
theorem under160 : Tryz.prog.underlying 160 = some (.int .u64) := by kernel_rfl
theorem cells180 : Tryz.prog.cellsOf 180 = 20 := by kernel_rfl
theorem cells160 : Tryz.prog.cellsOf 160 = 1 := by kernel_rfl

/-- what the rows' list gives -/
theorem tabPow {W : World} (h : laidMetH Tryz.prog Rows.jprintKnownRow.laid W) : Lib.TabIs Tryz.prog W "internal/strconv.uint64pow10" .u64 Lib.pow10Tab := by
  have h1 := laidMetH.filter (fun x => x.1 == "internal/strconv.uint64pow10") h
  have h2 : Rows.jprintKnownRow.laid.filter (fun x => x.1 == "internal/strconv.uint64pow10") = [("internal/strconv.uint64pow10", Lib.tabData .u64 Lib.pow10Tab)] := by rw [pow10_lit]; rfl
  rw [h2] at h1
  have h3 : laidMet Tryz.prog [("internal/strconv.uint64pow10", Lib.tabData .u64 Lib.pow10Tab)] W := h1
  exact Lib.tabIs_of_head (rest := []) gPow gPowType under180 under160 cells160 cells180 h3

theorem gokJ {W : World} (h : laidMetH Tryz.prog Rows.jprintKnownRow.laid W) : GOk gJ (fun _ => False) W := by
  intro g d hd
  unfold gJ at hd
  split at hd
  · cases hd
    have := tab_gok (tabPow h) gPow
    rw [pow10_lit] at this
    exact this
  · cases hd

theorem stNil (W : World) : St (fun _ => False) ⟨fun _ => 0, fun _ => 0, fun _ => 0⟩ W [] :=
  ⟨fun n => by simp [Heap.at]; exact .dead, fun n h => by simp [Heap.at, HO.live] at h, fun n m h => by simp [Heap.at, HO.live] at h, fun b h => h.elim⟩

/-- a law without an argument -/
theorem known_call (f : FuncId) {fn : Func} (hf : Tryz.prog.funcs[f]? = some fn) (hb : fn.body.isSome = true) {n : Nat} (h : isT (exJ n f [] []) = true) (W : World) (hL : laidMetH Tryz.prog Rows.jprintKnownRow.laid W) :
    Calls Tryz.prog f #[] W fun e w' => e = .returned (.bool true) ∧ Below W.heap.size W w' := by
  obtain ⟨H', mv, h⟩ := isT_spec h
  have := exJ_sound n f [] [] _ h (fun _ => False) ⟨fun _ => 0, fun _ => 0, fun _ => 0⟩ W [] (stNil W) ⟨rfl, fun i x y hx => by simp at hx⟩ (gokJ hL)
  obtain ⟨c, hb⟩ := Option.isSome_iff_exists.1 hb
  have := CallTo.calls hf (ngJ f fn hf) hb this
  refine this.mono ?_
  rintro e w' ⟨B', L', hfs, _, ho⟩
  refine ⟨?_, below_of_FS hfs⟩
  unfold OutRel at ho
  split at ho
  · rename_i r v h1; cases h1; cases ho.of_p; rfl
  · rename_i h1; cases h1
  · exact ho.elim

set_option maxRecDepth 100000 in
theorem known_contract (H : Type) (enc : TypeId × Value → H) (W : World) (args : Array Value) (ds gs : List (DataW H)) (before : List MemPlace)
    (hW : DataW.Whole enc Tryz.prog Tryz.f3.params.toList Rows.jprintKnownSpec.vars false W args.toList ds gs before) (hL : laidMetH Tryz.prog Rows.jprintKnownRow.laid W) :
    Calls Tryz.prog 3 args W fun e W' => ∃ v, e = .returned v ∧ Rows.jprintKnownSpec.post enc Tryz.prog Tryz.f3 false true false false W args v W' := by
  have hW' := hW
  obtain ⟨p, q, hA0, hV, rfl, hfz, hnd⟩ := hW
  have hA : DataW.TrodAll enc Tryz.prog W 0 (fun _ => true) true Tryz.f3.params.toList args.toList ds p := hA0
  rw [Tryz.params3] at hA
  obtain ⟨hargs, rfl, rfl⟩ := trodAll_nil hA
  obtain rfl : args = #[] := by cases args; simp_all
  obtain ⟨rfl, rfl⟩ := trodVars_none hV
  clear hA0
  refine (known_call (n := 60) 3 Tryz.func3 (by kernel_rfl) known_run W hL).mono fun e W' ⟨he, hb⟩ => ?_
  subst he
  exact ⟨_, rfl, post_of_below (pa := []) (pv := []) hW' (fun _ _ _ => trodAll_cons_mk (shut_bool Tryz.underlying4 _) trodAll_mk0) (fun _ _ => trodAll_mk0) (fun _ _ => rfl) rfl
    hb (ok_one (by kernel_rfl) rfl (okWide_bool_mk Tryz.underlying4 _))⟩
end Go.Proofs.YtaoejccgdpppgaaGreatDoor
end

section
namespace Go.Proofs.YtaoejccgdpppgaaGreatDoor
open Go.ChangeShapes Go.WideShapes Go.ChangeAt Go.RowKit Go.Am

theorem reads0 (os : Os) {H : Type} (enc : TypeId × Value → H) : ∃ places, DataW.whole enc Tryz.prog ((World.laidAll Tryz.prog os Rows.jprintKnownRow.laid).forCall (fun _ _ => 0) ⟨#[], #[], []⟩).memory Tryz.f3.params.toList Rows.jprintKnownSpec.vars false (#[] : Array Value).toList 8 = some ([], [], places) :=
  ⟨[], by kernel_rfl⟩

set_option maxRecDepth 100000 in
theorem lifted3 (os : Os) (started : os.Started) (H : Type) (enc : TypeId × Value → H) (F : Stop.Interp) :
    ReturnsInHanded {} Tryz.checked os 3 .any ((OpenSpec.ofChange Rows.jprintKnownSpec).preRow enc Tryz.prog Tryz.f3 Rows.jprintKnownRow.domain false Rows.jprintKnownRow.laid) (((OpenSpec.ofChange Rows.jprintKnownSpec).at F).post enc Tryz.prog Tryz.f3 false true false false) := by
  obtain ⟨places, hx⟩ := reads0 os enc
  refine returnsInHanded_of_row (C := Tryz.checked) (s := OpenSpec.ofChange Rows.jprintKnownSpec) own started (by kernel_rfl) Tryz.func3
    (witness_row_atRef (enc := enc) (C := Tryz.checked) false (World.laidAll Tryz.prog os Rows.jprintKnownRow.laid) #[] (World.laidAll_os _ _ _) (by kernel_rfl) (by kernel_rfl) (by kernel_rfl)
      (OpenSpec.preRow_of_cond 8 hx (by kernel_rfl) (fun k hk => by cases hk) (by kernel_rfl) (laidMet_laidAll _ (by kernel_rfl) (by kernel_rfl)))) ?_
  intro W base args ds gs before hval hW _ _ _ hL _ _
  exact known_contract H enc W args ds gs before hW hL

theorem said3 : Rows.JprintKnownSaid :=
  OpenClaim.holds_of_cond 3 Tryz.f3 rfl rfl rfl rfl rfl rfl rfl ⟨rfl, rfl, rfl, rfl, rfl⟩ rfl rfl rfl rfl rfl (by kernel_rfl) Tryz.func3 (by kernel_rfl)
    (of_decide_eq_true (by kernel_rfl)) (by unfold Func.isWrapper; first | (rw [if_pos (by decide +kernel)]; kernel_rfl) | (rw [if_neg (by decide +kernel)]; exact ⟨rfl, rfl⟩))
    (fun os started H enc _ F => by rw [OpenClaim.pre_eq_preRow]; exact lifted3 os started H enc F)

theorem plain3 (f : FuncId) (fn : Func) (hf : Tryz.pinned.checked.prog.funcNamed "dragoman/dragomanlaw9.JprintKnown" = some f) (hfn : Tryz.pinned.checked.prog.funcs[f]? = some fn) :
    true = Tryz.pinned.checked.prog.looks [] ∧ ∀ (j : Nat) t, fn.params[j]? = some t → Tryz.pinned.checked.prog.wantsStandIn t = false := by
  obtain rfl : f = 3 := Option.some.inj ((show Tryz.prog.funcNamed "dragoman/dragomanlaw9.JprintKnown" = some 3 by kernel_rfl).symm.trans hf) |>.symm
  obtain rfl : fn = Tryz.f3 := (Option.some.inj (Tryz.func3.symm.trans hfn)).symm
  refine ⟨by kernel_rfl, fun j t ht => ?_⟩
  rw [Tryz.params3] at ht
  simp at ht

theorem card3 : Rows.JprintKnownCardSaid :=
  Claim7.holds_tied_plain_at .later [] _ _ _ _ said3 (fun _ h => by cases h) (by kernel_rfl) (fun _ h => by cases h) jprintKnown_row_tie rfl ⟨rfl, rfl⟩ (by kernel_rfl) rfl plain3 (by kernel_rfl)
end Go.Proofs.YtaoejccgdpppgaaGreatDoor
end
