/-
JreadNumbers. The given statement JreadNumbersUptoCardSaid, proved: for every input of bulk at most 1048576, the law called with it returns true and the arguments read as they did. No further condition.
The row of JreadNumbers.
-/
import Derived.Test.YtoinkmogdfjmmaaGreatDoorPI

section
namespace Go.Proofs.YtoinkmogdfjmmaaGreatDoor
open Go.ChangeShapes Go.WideShapes Go.ChangeAt Go.RowKit Go.Am
set_option maxRecDepth 100000
theorem jreadNumbers_contract (H : Type) (enc : TypeId × Value → H) (W : World) (base : Nat) (args : Array Value) (ds gs : List (DataW H)) (before : List MemPlace)
    (hval : ∀ (j : Nat) t v, Tryz.f9.params[j]? = some t → args[j]? = some v → Value.okWide PP W .any base t v)
    (hW : DataW.Whole enc PP Tryz.f9.params.toList Rows.jreadNumbersSpec.vars false W args.toList ds gs before) (hL : laidMetH PP Rows.jreadNumbersRow.laid W) (hk : Rows.uptoBulkAll ds ≤ 1048576) :
    Calls PP F.law8_JreadNumbers args W fun e W' => ∃ v, e = .returned v ∧ Rows.jreadNumbersSpec.post enc PP Tryz.f9 false true false false W args v W' := by
  have hW' := hW
  have hlt := hW.lt
  obtain ⟨p, q, hA0, hV, rfl, hfz, hnd⟩ := hW
  have hA : DataW.TrodAll enc PP W 0 (fun _ => true) true Tryz.f9.params.toList args.toList ds p := hA0
  rw [Tryz.params9] at hA
  obtain ⟨v0, vs0, d0, ds0, p0, q0, hargs, rfl, rfl, h0, r0⟩ := trodAll_cons hA
  obtain ⟨rfl, rfl, rfl⟩ := trodAll_nil r0
  obtain rfl : args = #[v0] := by cases args; simp_all
  obtain ⟨rfl, rfl⟩ := trodVars_none hV
  clear hA0
  obtain ⟨t0, rfl, rfl, rfl⟩ := str_arg (hval 0 T.string v0 (by kernel_rfl) rfl) h0
  simp only [List.append_nil] at hW' hlt
  simp only [Rows.uptoBulkAll, Rows.uptoBulk] at hk
  refine (law_call (f := F.law8_JreadNumbers) (ds := [.str t0]) (vs := [.string ⟨t0.toArray⟩]) Tryz.func9 (by kernel_rfl) rfl (fun i x y hx hy => ?_) (gok_of hL (by rw [pow10_lit]; rfl) rfl rfl) (law8_JreadNumbers t0 )).mono fun e W1 ⟨he, hb⟩ => ?_
  · rcases i with _ | i
    · cases hx; cases hy; exact .str t0
    · simp at hx
  · subst he
    have b := Tryz.underlying4
    exact ⟨_, rfl, post_of_below (pa := []) (pv := []) hW' (fun _ _ _ => trodAll_cons_mk (shut_bool b _) trodAll_mk0)
      (fun sp hs => trodAll_mk1 (arg_stays readS rowS h0 hb (by simp) (by simp)))
      (fun _ _ => rfl) (by simp) hb (ok_one (by kernel_rfl) rfl (okWide_bool_mk b _))⟩
theorem jreadNumbers_reads (os : Os) {H : Type} (enc : TypeId × Value → H) : ∃ places, DataW.whole enc PP ((World.laidAll PP os Rows.jreadNumbersUptoRow.laid).forCall (fun _ _ => 0) ⟨#[], #[.string ⟨#[]⟩], []⟩).memory Tryz.f9.params.toList Rows.jreadNumbersSpec.vars false (#[.string ⟨#[]⟩] : Array Value).toList 8 = some ([.lit (.string [])], [], places) :=
  ⟨[], by kernel_rfl⟩
theorem jreadNumbers_lifted (os : Os) (started : os.Started) (H : Type) (enc : TypeId × Value → H) (Fi : Stop.Interp) :
    ReturnsInHanded {} Tryz.checked os F.law8_JreadNumbers .any ((Rows.OpenSpec.upto Rows.jreadNumbersSpec).preRow enc PP Tryz.f9 Rows.jreadNumbersUptoRow.domain false Rows.jreadNumbersUptoRow.laid) (((Rows.OpenSpec.upto Rows.jreadNumbersSpec).at Fi).post enc PP Tryz.f9 false true false false) := by
  obtain ⟨places, hx⟩ := jreadNumbers_reads os enc
  refine returnsInHanded_of_row (C := Tryz.checked) (s := Rows.OpenSpec.upto Rows.jreadNumbersSpec) own started (by kernel_rfl) Tryz.func9
    (witness_row_atRef (enc := enc) (C := Tryz.checked) false (World.laidAll PP os Rows.jreadNumbersUptoRow.laid) #[.string ⟨#[]⟩] (World.laidAll_os _ _ _) (by kernel_rfl) (by kernel_rfl) (by kernel_rfl)
      (OpenSpec.preRow_of_cond 8 hx (by kernel_rfl) (fun k hk => by cases hk; kernel_rfl) (by kernel_rfl) (laidMet_laidAll _ (by kernel_rfl) (by kernel_rfl)))) ?_
  intro W base args ds gs before hval hW _ hcond _ hL _ _
  have hk := of_decide_eq_true (hcond _ rfl)
  refine jreadNumbers_contract H enc W base args ds gs before hval hW hL (Nat.le_trans ?_ hk)
  rw [bulk_append]
  exact Nat.le_add_right _ _
theorem jreadNumbers_said : Rows.JreadNumbersUptoSaid :=
  OpenClaim.holds_of_cond F.law8_JreadNumbers Tryz.f9 rfl rfl rfl rfl rfl rfl rfl ⟨rfl, rfl, rfl, rfl, rfl⟩ rfl rfl rfl rfl rfl (by kernel_rfl) Tryz.func9 (by kernel_rfl)
    (of_decide_eq_true (by kernel_rfl)) (by unfold Func.isWrapper; first | (rw [if_pos (by decide +kernel)]; kernel_rfl) | (rw [if_neg (by decide +kernel)]; exact ⟨rfl, rfl⟩))
    (fun os started H enc _ Fi => by rw [OpenClaim.pre_eq_preRow]; exact jreadNumbers_lifted os started H enc Fi)
theorem jreadNumbers_plain (f : FuncId) (fn : Func) (hf : Tryz.pinned.checked.prog.funcNamed "dragoman/dragomanlaw8.JreadNumbers" = some f) (hfn : Tryz.pinned.checked.prog.funcs[f]? = some fn) :
    true = Tryz.pinned.checked.prog.looks [] ∧ ∀ (j : Nat) t, fn.params[j]? = some t → Tryz.pinned.checked.prog.wantsStandIn t = false := by
  obtain rfl : f = F.law8_JreadNumbers := Option.some.inj ((show PP.funcNamed "dragoman/dragomanlaw8.JreadNumbers" = some F.law8_JreadNumbers by kernel_rfl).symm.trans hf) |>.symm
  obtain rfl : fn = Tryz.f9 := (Option.some.inj (Tryz.func9.symm.trans hfn)).symm
  refine ⟨by kernel_rfl, fun j t ht => ?_⟩
  rw [Tryz.params9] at ht
  obtain rfl : t = T.string := by simpa using Array.mem_of_getElem? ht
  exact (show PP.wantsStandIn T.string = false by kernel_rfl)
theorem jreadNumbers_card : Rows.JreadNumbersUptoCardSaid :=
  Claim7.holds_tied_plain_at .later [] _ _ _ _ jreadNumbers_said (fun _ h => by cases h) (by kernel_rfl) (fun _ h => by cases h) jreadNumbersUpto_row_tie rfl ⟨rfl, rfl⟩ (by kernel_rfl) rfl jreadNumbers_plain (by kernel_rfl)
end Go.Proofs.YtoinkmogdfjmmaaGreatDoor
end
