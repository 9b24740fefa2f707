/-
The machine at the seat's program.
-/
import Derived.Test.YtaoejccgdpppgaaGreatDoorAmC
import Derived.Test.YtaoejccgdpppgaaGreatDoorKShelf
import Derived.Lib.AppendIntMem

section
namespace Go.Proofs.YtaoejccgdpppgaaGreatDoor
open Go Go.Am Go.RowKit

/-- the package's variables that are known -/
def gJ : Nat → Option PV
  | 1 => some (tabV .u64 ([1, 10, 100, 1000, 10000, 100000, 1000000, 10000000, 100000000, 1000000000, 10000000000, 100000000000, 1000000000000, 10000000000000, 100000000000000, 1000000000000000, 10000000000000000, 100000000000000000, 1000000000000000000, 10000000000000000000]))
  | _ => none

theorem pow10_lit : Lib.pow10Tab = [1, 10, 100, 1000, 10000, 100000, 1000000, 10000000, 100000000, 1000000000, 10000000000, 100000000000, 1000000000000, 10000000000000, 100000000000000, 1000000000000000, 10000000000000000, 100000000000000000, 1000000000000000000, 10000000000000000000] := by decide

theorem gPow : Tryz.prog.globalNamed "internal/strconv.uint64pow10" = some 1 := by kernel_rfl

/-- the library's functions that are met by a contract -/
def primJ : CallF := fun f args H =>
  match f, args with
  | 104, [x] => some ⟨.ret x, H, []⟩
  | 114, [.p (.str s), .p (.int .u8 c)] => some ⟨.ret (.p (.int .i64 (firstIdx ⟨s.toArray⟩ c.toNat.toUInt8))), H, []⟩
  | 78, [.p (.int .i64 n), .p (.int .i64 10)] => if -9223372036854775808 ≤ n ∧ n ≤ 9223372036854775807 then some ⟨.ret (.p (.str (itoaK n))), H, []⟩ else none
  | 106, [.p (.str s), .p (.int .i64 n)] => if 0 ≤ n ∧ n ≤ 9223372036854775807 ∧ s.length * n.toNat ≤ 140737488355328 then some ⟨.ret (.p (.str (Lib.repeatL s n.toNat))), H, []⟩ else none
  | _, _ => none

theorem primJ_sound : SoundC Tryz.prog gJ primJ := by
  intro f args H cr h
  unfold primJ at h
  split at h
  · cases h
    exact abs_same Tryz.func104 (by kernel_rfl) (by kernel_rfl) (by kernel_rfl) (by kernel_rfl) _ H
  · cases h
    exact abs_indexByte Tryz.func114 (by kernel_rfl) (by kernel_rfl) (by kernel_rfl) (by kernel_rfl) _ _ H
  · rename_i n
    split at h
    case isFalse => cases h
    rename_i hn
    cases h
    refine absBelow fun B L w vs _ ha hg => ?_
    obtain ⟨v, u, rfl, hv, hu⟩ := vrel2 ha
    obtain rfl := vint hv
    obtain rfl := vint hu
    refine CallTo.of_calls Tryz.func78 (by kernel_rfl) rfl ((Tryz.strconv_FormatInt_10 n hn.1 hn.2 w (tab_of_gok hg (by rw [pow10_lit]; rfl) gPow)).mono ?_)
    rintro e w' ⟨rfl, k, os, rfl⟩
    rw [itoaK_eq hn.1 hn.2]
    exact ⟨Lib.below_grow _ _ (Nat.le_refl _) _ _, _, rfl, .p _ _ (.str _)⟩
  · rename_i s n
    split at h
    case isFalse => cases h
    rename_i hn
    cases h
    refine absBelow fun B L w vs _ ha hg => ?_
    obtain ⟨v, u, rfl, hv, hu⟩ := vrel2 ha
    obtain rfl := vstr hv
    obtain rfl := vint hu
    obtain ⟨h0, h1, h2⟩ := hn
    obtain ⟨m, rfl⟩ := Int.eq_ofNat_of_zero_le h0
    refine CallTo.of_calls Tryz.func106 (by kernel_rfl) rfl ((Tryz.strings_Repeat ⟨s.toArray⟩ m w (by omega) (by simpa [ByteArray.size] using h2)).mono ?_)
    rintro e w' ⟨rfl, hb⟩
    exact ⟨hb, _, rfl, by simpa using VRel.p _ _ (.str _)⟩
  · cases h

def polJ : Pol := { keepR := fun f => f == 107, byref := fun _ => false, mask := fun _ _ => none }

theorem mixJ : Tryz.prog.follows .mixedOrders = true := by kernel_rfl

def ngOk (P : Program) : Bool := P.funcs.all fun fn => !(fn.name == "runtime.NumGoroutine")
theorem ngJ (f : Nat) (fn : Func) (h : Tryz.prog.funcs[f]? = some fn) : (fn.name == "runtime.NumGoroutine") = false := by
  have h0 : ngOk Tryz.prog = true := by kernel_rfl
  unfold ngOk at h0
  rw [Array.all_eq_true_iff_forall_mem] at h0
  simpa using h0 fn (Array.mem_of_getElem? h)

noncomputable abbrev exJ (n : Nat) : CallF := (exN Tryz.prog gJ polJ primJ (drawA Tryz.prog gJ polJ) n).1

theorem exJ_sound (n : Nat) : SoundC Tryz.prog gJ (exJ n) := (exN_sound (pol := polJ) ngJ primJ_sound (drawA_sound mixJ) n).1

def isT (o : Option CR) : Bool := match o with
  | some ⟨.ret (.p (.bool true)), _, _⟩ => true
  | _ => false

theorem isT_spec {o : Option CR} (h : isT o = true) : ∃ H mv, o = some ⟨.ret (.p (.bool true)), H, mv⟩ := by
  unfold isT at h
  split at h
  · exact ⟨_, _, rfl⟩
  · cases h

end Go.Proofs.YtaoejccgdpppgaaGreatDoor
end
