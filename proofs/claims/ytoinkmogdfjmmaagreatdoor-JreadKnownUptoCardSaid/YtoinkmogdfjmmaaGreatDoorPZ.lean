/-
JreadKnown. The given statement JreadKnownUptoCardSaid, proved: the law called returns true. No further condition.
The row of JreadKnown.
-/
import Derived.Test.YtoinkmogdfjmmaaGreatDoorPI

section
namespace Go.Proofs.YtoinkmogdfjmmaaGreatDoor
open Go.ChangeShapes Go.WideShapes Go.ChangeAt Go.RowKit Go.Am
set_option maxRecDepth 100000
theorem jreadKnown_contract (H : Type) (enc : TypeId × Value → H) (W : World) (base : Nat) (args : Array Value) (ds gs : List (DataW H)) (before : List MemPlace)
    (hval : ∀ (j : Nat) t v, Tryz.f3.params[j]? = some t → args[j]? = some v → Value.okWide PP W .any base t v)
    (hW : DataW.Whole enc PP Tryz.f3.params.toList Rows.jreadKnownSpec.vars false W args.toList ds gs before) (hL : laidMetH PP Rows.jreadKnownRow.laid W) (hk : Rows.uptoBulkAll ds ≤ 1048576) :
    Calls PP F.law8_JreadKnown args W fun e W' => ∃ v, e = .returned v ∧ Rows.jreadKnownSpec.post enc PP Tryz.f3 false true false false W args v W' := by
  have hW' := hW
  have hlt := hW.lt
  obtain ⟨p, q, hA0, hV, rfl, hfz, hnd⟩ := hW
  have hA : DataW.TrodAll enc PP W 0 (fun _ => true) true Tryz.f3.params.toList args.toList ds p := hA0
  rw [Tryz.params3] at hA
  obtain ⟨hargs, rfl, rfl⟩ := trodAll_nil hA
  obtain rfl : args = #[] := by cases args; simp_all
  obtain ⟨rfl, rfl⟩ := trodVars_none hV
  clear hA0
  refine (law_call (f := F.law8_JreadKnown) (ds := []) (vs := []) Tryz.func3 (by kernel_rfl) rfl (fun i x y hx hy => ?_) (gok_of hL (by rw [pow10_lit]; rfl) rfl rfl) (law8_JreadKnown  )).mono fun e W1 ⟨he, hb⟩ => ?_
  · simp at hx
  · subst he
    have b := Tryz.underlying4
    exact ⟨_, rfl, post_of_below (pa := []) (pv := []) hW' (fun _ _ _ => trodAll_cons_mk (shut_bool b _) trodAll_mk0)
      (fun sp hs => trodAll_mk0 )
      (fun _ _ => rfl) (by simp) hb (ok_one (by kernel_rfl) rfl (okWide_bool_mk b _))⟩
theorem jreadKnown_reads (os : Os) {H : Type} (enc : TypeId × Value → H) : ∃ places, DataW.whole enc PP ((World.laidAll PP os Rows.jreadKnownUptoRow.laid).forCall (fun _ _ => 0) ⟨#[], #[], []⟩).memory Tryz.f3.params.toList Rows.jreadKnownSpec.vars false (#[] : Array Value).toList 8 = some ([], [], places) :=
  ⟨[], by kernel_rfl⟩
theorem jreadKnown_lifted (os : Os) (started : os.Started) (H : Type) (enc : TypeId × Value → H) (Fi : Stop.Interp) :
    ReturnsInHanded {} Tryz.checked os F.law8_JreadKnown .any ((Rows.OpenSpec.upto Rows.jreadKnownSpec).preRow enc PP Tryz.f3 Rows.jreadKnownUptoRow.domain false Rows.jreadKnownUptoRow.laid) (((Rows.OpenSpec.upto Rows.jreadKnownSpec).at Fi).post enc PP Tryz.f3 false true false false) := by
  obtain ⟨places, hx⟩ := jreadKnown_reads os enc
  refine returnsInHanded_of_row (C := Tryz.checked) (s := Rows.OpenSpec.upto Rows.jreadKnownSpec) own started (by kernel_rfl) Tryz.func3
    (witness_row_atRef (enc := enc) (C := Tryz.checked) false (World.laidAll PP os Rows.jreadKnownUptoRow.laid) #[] (World.laidAll_os _ _ _) (by kernel_rfl) (by kernel_rfl) (by kernel_rfl)
      (OpenSpec.preRow_of_cond 8 hx (by kernel_rfl) (fun k hk => by cases hk; kernel_rfl) (by kernel_rfl) (laidMet_laidAll _ (by kernel_rfl) (by kernel_rfl)))) ?_
  intro W base args ds gs before hval hW _ hcond _ hL _ _
  have hk := of_decide_eq_true (hcond _ rfl)
  refine jreadKnown_contract H enc W base args ds gs before hval hW hL (Nat.le_trans ?_ hk)
  rw [bulk_append]
  exact Nat.le_add_right _ _
theorem jreadKnown_said : Rows.JreadKnownUptoSaid :=
  OpenClaim.holds_of_cond F.law8_JreadKnown Tryz.f3 rfl rfl rfl rfl rfl rfl rfl ⟨rfl, rfl, rfl, rfl, rfl⟩ rfl rfl rfl rfl rfl (by kernel_rfl) Tryz.func3 (by kernel_rfl)
    (of_decide_eq_true (by kernel_rfl)) (by unfold Func.isWrapper; first | (rw [if_pos (by decide +kernel)]; kernel_rfl) | (rw [if_neg (by decide +kernel)]; exact ⟨rfl, rfl⟩))
    (fun os started H enc _ Fi => by rw [OpenClaim.pre_eq_preRow]; exact jreadKnown_lifted os started H enc Fi)
theorem jreadKnown_plain (f : FuncId) (fn : Func) (hf : Tryz.pinned.checked.prog.funcNamed "dragoman/dragomanlaw8.JreadKnown" = some f) (hfn : Tryz.pinned.checked.prog.funcs[f]? = some fn) :
    true = Tryz.pinned.checked.prog.looks [] ∧ ∀ (j : Nat) t, fn.params[j]? = some t → Tryz.pinned.checked.prog.wantsStandIn t = false := by
  obtain rfl : f = F.law8_JreadKnown := Option.some.inj ((show PP.funcNamed "dragoman/dragomanlaw8.JreadKnown" = some F.law8_JreadKnown by kernel_rfl).symm.trans hf) |>.symm
  obtain rfl : fn = Tryz.f3 := (Option.some.inj (Tryz.func3.symm.trans hfn)).symm
  refine ⟨by kernel_rfl, fun j t ht => ?_⟩
  rw [Tryz.params3] at ht
  simp at ht
theorem jreadKnown_card : Rows.JreadKnownUptoCardSaid :=
  Claim7.holds_tied_plain_at .later [] _ _ _ _ jreadKnown_said (fun _ h => by cases h) (by kernel_rfl) (fun _ h => by cases h) jreadKnownUpto_row_tie rfl ⟨rfl, rfl⟩ (by kernel_rfl) rfl jreadKnown_plain (by kernel_rfl)
end Go.Proofs.YtoinkmogdfjmmaaGreatDoor
end
