/-
JprintSays.
The given statement JprintSaysUptoCardSaid, proved: for every input of bulk at most 1048576, the law of package dragomanlaw9 called with it returns true and the arguments read as they did. No further condition.
The row of JprintSays.
-/
import Derived.Test.YtaoejccgdpppgaaGreatDoorPK
import Derived.Test.YtaoejccgdpppgaaGreatDoorPJ

section
namespace Go.Proofs.YtaoejccgdpppgaaGreatDoor
open Go.ChangeShapes Go.WideShapes Go.ChangeAt Go.RowKit Go.Am
set_option maxRecDepth 100000
theorem jprintSays_contract (H : Type) (enc : TypeId × Value → H) (W : World) (args : Array Value) (ds gs : List (DataW H)) (before : List MemPlace)
    (hW : DataW.Whole enc PP Tryz.f4.params.toList Rows.jprintSaysSpec.vars false W args.toList ds gs before) (hL : laidMetH PP Rows.jprintSaysRow.laid W) (hk : Rows.uptoBulkAll ds ≤ 1048576) :
    Calls PP F.law9_JprintSays args W fun e W' => ∃ v, e = .returned v ∧ Rows.jprintSaysSpec.post enc PP Tryz.f4 false true false false W args v W' := by
  have hW' := hW
  have hlt := hW.lt
  obtain ⟨p, q, hA0, hV, rfl, hfz, hnd⟩ := hW
  have hA : DataW.TrodAll enc PP W 0 (fun _ => true) true Tryz.f4.params.toList args.toList ds p := hA0
  rw [Tryz.params4] at hA
  obtain ⟨v0, vs0, d0, ds0, p0, q0, hargs, rfl, rfl, h0, r0⟩ := trodAll_cons hA
  obtain ⟨rfl, rfl, rfl⟩ := trodAll_nil r0
  obtain rfl : args = #[v0] := by cases args; simp_all
  obtain ⟨rfl, rfl⟩ := trodVars_none hV
  clear hA0
  simp only [List.append_nil] at hW' hlt
  simp only [Rows.uptoBulkAll] at hk
  obtain ⟨t0, hr0, hok0, hwt0⟩ := tree_rel h0
  refine (law_call (f := F.law9_JprintSays) (ds := [t0.enc]) (vs := [v0]) Tryz.func4 (by kernel_rfl) rfl (fun i x y hx hy => ?_) (gok_of hL (by rw [pow10_lit]; rfl) rfl rfl) (law9_JprintSays t0 (by omega) hok0)).mono fun e W' ⟨he, hb⟩ => ?_
  · rcases i with _ | i
    · cases hx; cases hy; exact hr0
    · simp at hx
  · subst he
    have b := Tryz.underlying4
    exact ⟨_, rfl, post_of_below (pa := p0) (pv := []) hW' (fun _ _ _ => trodAll_cons_mk (shut_bool b _) trodAll_mk0)
      (fun sp hs => trodAll_mk1 (tree_stays h0 hb (fun x hx => hlt x (by simp [hx])) (fun x hx => hs x (by simp [hx]))))
      (fun _ _ => rfl) (by simp) hb (ok_one (by kernel_rfl) rfl (okWide_bool_mk b _))⟩
theorem jprintSays_reads (os : Os) {H : Type} (enc : TypeId × Value → H) : ∃ places, DataW.whole enc PP ((World.laidAll PP os Rows.jprintSaysUptoRow.laid).forCall (fun _ _ => 0) ⟨#[], #[nullV], []⟩).memory Tryz.f4.params.toList Rows.jprintSaysSpec.vars false (#[nullV] : Array Value).toList 8 = some ([nullD], [], places) :=
  ⟨[], by kernel_rfl⟩
theorem jprintSays_lifted (os : Os) (started : os.Started) (H : Type) (enc : TypeId × Value → H) (Fi : Stop.Interp) :
    ReturnsInHanded {} Tryz.checked os F.law9_JprintSays .any ((Rows.OpenSpec.upto Rows.jprintSaysSpec).preRow enc PP Tryz.f4 Rows.jprintSaysUptoRow.domain false Rows.jprintSaysUptoRow.laid) (((Rows.OpenSpec.upto Rows.jprintSaysSpec).at Fi).post enc PP Tryz.f4 false true false false) := by
  obtain ⟨places, hx⟩ := jprintSays_reads os enc
  refine returnsInHanded_of_row (C := Tryz.checked) (s := Rows.OpenSpec.upto Rows.jprintSaysSpec) own started (by kernel_rfl) Tryz.func4
    (witness_row_atRef (enc := enc) (C := Tryz.checked) false (World.laidAll PP os Rows.jprintSaysUptoRow.laid) #[nullV] (World.laidAll_os _ _ _) (by kernel_rfl) (by kernel_rfl) (by kernel_rfl)
      (OpenSpec.preRow_of_cond 8 hx (by kernel_rfl) (fun k hk => by cases hk; kernel_rfl) (by kernel_rfl) (laidMet_laidAll _ (by kernel_rfl) (by kernel_rfl)))) ?_
  intro W base args ds gs before hval hW _ hcond _ hL _ _
  have hk := of_decide_eq_true (hcond _ rfl)
  refine jprintSays_contract H enc W args ds gs before hW hL (Nat.le_trans ?_ hk)
  rw [bulk_append]
  exact Nat.le_add_right _ _
theorem jprintSays_said : Rows.JprintSaysUptoSaid :=
  OpenClaim.holds_of_cond F.law9_JprintSays Tryz.f4 rfl rfl rfl rfl rfl rfl rfl ⟨rfl, rfl, rfl, rfl, rfl⟩ rfl rfl rfl rfl rfl (by kernel_rfl) Tryz.func4 (by kernel_rfl)
    (of_decide_eq_true (by kernel_rfl)) (by unfold Func.isWrapper; first | (rw [if_pos (by decide +kernel)]; kernel_rfl) | (rw [if_neg (by decide +kernel)]; exact ⟨rfl, rfl⟩))
    (fun os started H enc _ Fi => by rw [OpenClaim.pre_eq_preRow]; exact jprintSays_lifted os started H enc Fi)
theorem jprintSays_plain (f : FuncId) (fn : Func) (hf : Tryz.pinned.checked.prog.funcNamed "dragoman/dragomanlaw9.JprintSays" = some f) (hfn : Tryz.pinned.checked.prog.funcs[f]? = some fn) :
    true = Tryz.pinned.checked.prog.looks [] ∧ ∀ (j : Nat) t, fn.params[j]? = some t → Tryz.pinned.checked.prog.wantsStandIn t = false := by
  obtain rfl : f = F.law9_JprintSays := Option.some.inj ((show PP.funcNamed "dragoman/dragomanlaw9.JprintSays" = some F.law9_JprintSays by kernel_rfl).symm.trans hf) |>.symm
  obtain rfl : fn = Tryz.f4 := (Option.some.inj (Tryz.func4.symm.trans hfn)).symm
  refine ⟨by kernel_rfl, fun j t ht => ?_⟩
  rw [Tryz.params4] at ht
  obtain rfl : t = T.api_Value := by simpa using Array.mem_of_getElem? ht
  exact (show PP.wantsStandIn T.api_Value = false by kernel_rfl)
theorem jprintSays_card : Rows.JprintSaysUptoCardSaid :=
  Claim7.holds_tied_plain_at .later [] _ _ _ _ jprintSays_said (fun _ h => by cases h) (by kernel_rfl) (fun _ h => by cases h) jprintSaysUpto_row_tie rfl ⟨rfl, rfl⟩ (by kernel_rfl) rfl jprintSays_plain (by kernel_rfl)
end Go.Proofs.YtaoejccgdpppgaaGreatDoor
end
