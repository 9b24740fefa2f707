/-
A map with string keys, as the kit's library reads one.
-/
import Derived.Test.YtoinkmogdfjmmaaGreatDoorPE
import Derived.Sort.KeysCollected
import Derived.Test.YtoinkmogdfjmmaaGreatDoorPI
import Derived.Shelf.SlIter.Nil
import Derived.Shelf.SortM.Plain
import Derived.Shelf.SortM.SortNone
import Derived.Test.YtoinkmogdfjmmaaGreatDoorProg
import Derived.Recover
import Derived.WalkKit
import Derived.Test.YtoinkmogdfjmmaaGreatDoorPF
import Derived.Test.YtoinkmogdfjmmaaGreatDoorPH

section
namespace Go.Am
open Go Go.Maps Go.WideAt Go.MapKept Go.WideShapes
open Go.WideElems (Fit rd rg)
theorem keyOf_string {P : Program} {K : TypeId} (hK : P.underlying K = some .string) {s : ByteArray} (h : s.size ≤ maxLen) : keyOf P K (.string s) = some (.string s.data.toList) := by
  simp [keyOf, hK, mapKey, h]
section
variable {P : Program} {B : Nat → Prop} {L : Loc} {w : World}
theorem own_of_mp {K : TypeId} {n : Nat} {ss : List (List UInt8)} {vs : MV} (hK : P.underlying K = some .string) (h : HRel B L w n (.mp (ss.map .str) vs)) (hnd : ss.Nodup) (hlen : ss.length ≤ maxLen) (hstr : ∀ s ∈ ss, s.length ≤ maxLen) :
    ∃ D0 : DataW Unit, w.ownsMap P K (fun _ => some (.nil, [])) (L.blk n) ss.length D0 ∧ Maps.size D0 = ss.length ∧ (strKeys D0).Perm ss := by
  cases h with
  | mp _ _ ms clock hw hl hlv hk hv hn =>
    rw [List.length_map] at hl
    have hkey : ∀ (i : Nat) (e : MapEntry), ms[i]? = some e → ∃ s, ss[i]? = some s ∧ e.key = .string ⟨s.toArray⟩ ∧ e.born < clock := by
      intro i e he
      have hi : i < ms.size := (Array.getElem?_eq_some_iff.1 he).1
      have hs : ss[i]? = some ss[i] := by simp [show i < ss.length by omega]
      have := hk i (.str ss[i]) e (by rw [List.getElem?_map, hs]; rfl) he
      refine ⟨ss[i], hs, ?_, this.2⟩
      have h1 := this.1
      generalize e.key = kv at h1
      cases h1
      rfl
    have hkeys : ms.toList.map (·.key) = ss.map fun s => Value.string ⟨s.toArray⟩ := by
      apply List.ext_getElem?
      intro i
      rw [List.getElem?_map, List.getElem?_map]
      cases he : ms[i]? with
      | none =>
        have : ss[i]? = none := by
          rw [List.getElem?_eq_none_iff, hl]
          simpa using he
        simp [he, this]
      | some e =>
        obtain ⟨s, h1, h2, _⟩ := hkey i e he
        simp [he, h1, h2]
    have hrd : ∀ e ∈ ms.toList, ∃ s ∈ ss, e.key = .string ⟨s.toArray⟩ ∧ rd P K (fun _ => some ((.nil : DataW Unit), [])) e = some (.string s, .nil) := by
      intro e he
      obtain ⟨i, hi, rfl⟩ := List.getElem_of_mem he
      obtain ⟨s, h1, h2, _⟩ := hkey i ms.toList[i] (by rw [← Array.getElem?_toList, List.getElem?_eq_getElem hi])
      have hm := List.mem_of_getElem? h1
      refine ⟨s, hm, h2, ?_⟩
      have hko := keyOf_string hK (s := ⟨s.toArray⟩) (by simpa [ByteArray.size] using hstr s hm)
      unfold rd
      rw [h2, hko]
      rfl
    have hrg : ms.toList.map (rg P K fun _ => some ((.nil : DataW Unit), [])) = ss.map fun s => (Lit.string s, DataW.nil) := by
      apply List.ext_getElem?
      intro i
      rw [List.getElem?_map, List.getElem?_map]
      cases he : ms[i]? with
      | none =>
        have : ss[i]? = none := by
          rw [List.getElem?_eq_none_iff, hl]
          simpa using he
        simp [he, this]
      | some e =>
        obtain ⟨s, h1, h2, _⟩ := hkey i e he
        have hm := List.mem_of_getElem? h1
        have hko := keyOf_string hK (s := ⟨s.toArray⟩) (by simpa [ByteArray.size] using hstr s hm)
        have hr : rd P K (fun _ => some ((.nil : DataW Unit), [])) e = some (.string s, .nil) := by simp [rd, h2, hko]
        simp [he, h1, rg, hr]
    refine ⟨_, ⟨ms, clock, hw, ⟨by omega, ⟨?_, ?_, ?_⟩, ?_⟩, by omega, rfl⟩, ?_, ?_⟩
    · intro e he
      obtain ⟨i, hi, rfl⟩ := List.getElem_of_mem he
      obtain ⟨_, _, _, h3⟩ := hkey i ms.toList[i] (by rw [← Array.getElem?_toList, List.getElem?_eq_getElem hi])
      exact h3
    · refine List.pairwise_iff_getElem.2 fun i j hi hj hij e => ?_
      rw [List.length_map] at hi hj
      simp only [List.getElem_map] at e
      have := hn i j ms.toList[i] ms.toList[j] (by rw [← Array.getElem?_toList, List.getElem?_eq_getElem hi]) (by rw [← Array.getElem?_toList, List.getElem?_eq_getElem hj]) e
      omega
    · rw [hkeys]
      refine List.pairwise_map.2 (List.Pairwise.imp ?_ hnd)
      intro a b hab e
      injection e with e
      injection e with e
      exact hab (by simpa using congrArg Array.toList e)
    · intro e he
      obtain ⟨s, _, _, h⟩ := hrd e he
      exact ⟨_, h⟩
    · rw [size_eq, length_sorted, hrg, List.length_map]
    · rw [hrg]
      show ((List.foldr DataW.insert [] (ss.map fun s => (Lit.string s, DataW.nil))).map fun p => strOf p.1).Perm ss
      have := (sorted_perm (ss.map fun s => (Lit.string s, (DataW.nil : DataW Unit)))).map fun p => strOf p.1
      rw [List.map_map] at this
      simpa [Function.comp_def, strOf] using this
end
end Go.Am
end

section
namespace Go.Am
open Go
theorem insK_perm (k : Str) (x : Tree) : ∀ m : List (Str × Tree), (insK k x m).Perm ((k, x) :: m)
  | [] => List.Perm.refl _
  | p :: m => by
    rw [insK]
    split
    · exact List.Perm.refl _
    · exact ((insK_perm k x m).cons p).trans (List.Perm.swap _ _ _)
theorem sortP_perm : ∀ m : List (Str × Tree), (sortP m).Perm m
  | [] => List.Perm.refl _
  | p :: m => by
    rw [sortP]
    exact (insK_perm _ _ _).trans ((sortP_perm m).cons p)
theorem insK_pw (k : Str) (x : Tree) : ∀ {m : List (Str × Tree)}, m.Pairwise (fun p q => p.1 ≤ q.1) → (insK k x m).Pairwise (fun p q => p.1 ≤ q.1)
  | [], _ => by simp [insK]
  | p :: m, h => by
    obtain ⟨h1, h2⟩ := List.pairwise_cons.1 h
    rw [insK]
    split
    · rename_i hl
      have hl := (leqS_iff _ _).1 hl
      refine List.pairwise_cons.2 ⟨fun q hq => ?_, h⟩
      rcases List.mem_cons.1 hq with rfl | hq
      · exact hl
      · exact List.le_trans hl (h1 q hq)
    · rename_i hl
      have hl : p.1 ≤ k := by
        rw [leqS_iff] at hl
        rcases List.le_total k p.1 with h | h
        · exact absurd h hl
        · exact h
      refine List.pairwise_cons.2 ⟨fun q hq => ?_, insK_pw k x h2⟩
      rcases List.mem_cons.1 ((insK_perm k x m).mem_iff.1 hq) with rfl | hq
      · exact hl
      · exact h1 q hq
theorem sortP_pw : ∀ m : List (Str × Tree), (sortP m).Pairwise (fun p q => p.1 ≤ q.1)
  | [] => List.Pairwise.nil
  | p :: m => insK_pw _ _ (sortP_pw m)
theorem sortP_len (m : List (Str × Tree)) : (sortP m).length = m.length := (sortP_perm m).length_eq
theorem sorted_keys_eq {m : List (Str × Tree)} {ss : List Str} (h : ss.Perm (m.map (·.1))) : ss.mergeSort (fun x y => decide (x ≤ y)) = (sortP m).map (·.1) := by
  have tr : ∀ a b c : List UInt8, decide (a ≤ b) = true → decide (b ≤ c) = true → decide (a ≤ c) = true := fun a b c h1 h2 => by simp only [decide_eq_true_eq] at *; exact List.le_trans h1 h2
  have htot : ∀ a b : List UInt8, (decide (a ≤ b) || decide (b ≤ a)) = true := fun a b => by simp only [Bool.or_eq_true, decide_eq_true_eq]; exact List.le_total a b
  refine List.Perm.eq_of_pairwise (le := fun a b => a ≤ b) (fun a b _ _ h1 h2 => List.le_antisymm h1 h2) ?_ ?_ ?_
  · exact (List.pairwise_mergeSort tr htot ss).imp fun h => by simpa using h
  · exact List.pairwise_map.2 (sortP_pw m)
  · exact ((List.mergeSort_perm ss _).trans h).trans ((sortP_perm m).map _).symm
theorem keyAt_map {ss : List Str} {k : Str} : ∀ {i : Nat}, ss.Nodup → ss[i]? = some k → keyAt (.str k) (ss.map .str) = some i := by
  intro i hnd hi
  unfold keyAt
  have hlt := (List.getElem?_eq_some_iff.1 hi).1
  refine List.findIdx?_eq_some_iff_getElem.2 ⟨by simpa using hlt, ?_, fun j hj => ?_⟩
  · simp [keyB, (List.getElem?_eq_some_iff.1 hi).2]
  · have : ss[j] ≠ k := by
      rw [← (List.getElem?_eq_some_iff.1 hi).2]
      exact List.pairwise_iff_getElem.1 hnd j i (by omega) hlt hj
    simp [keyB, Ne.symm this]
theorem keyAt_none {ss : List Str} {k : Str} (h : ¬ k ∈ ss) : keyAt (.str k) (ss.map .str) = none := by
  unfold keyAt
  rw [List.findIdx?_eq_none_iff]
  intro x hx
  obtain ⟨s, hs, rfl⟩ := List.mem_map.1 hx
  simp only [keyB, decide_eq_false_iff_not]
  exact fun e => h (e ▸ hs)
theorem hasK_mem (m : List (Str × Tree)) (k : Str) : hasK m k = true ↔ k ∈ m.map (·.1) := by
  unfold hasK
  rw [List.any_eq_true, List.mem_map]
  simp
end Go.Am
end

section
namespace Go.Proofs
open Go.RowKit Go.Maps Go.Sort Go.Shelf
def Tryz.keys129_ren : Go.Shelf.Ren := ⟨fun | 7 => 127 | 10 => 147 | n => n, fun | 23 => 131 | 26 => 9 | 3 => 27 | 28 => 155 | 0 => 0 | 27 => 154 | 33 => 33 | 4 => 4 | n => n, fun | n => n⟩
theorem Tryz.keys129 : Go.Proofs.SlLaysZ.n7 Tryz.prog Tryz.keys129_ren := {
  mixed := by kernel_rfl
  f7 := ⟨Tryz.f127.name, by decide, Tryz.func127.trans (congrArg some (by kernel_rfl))⟩
  f10 := ⟨Tryz.f147.name, by decide, Tryz.func147.trans (congrArg some (by kernel_rfl))⟩
  t0 := Tryz.underlying0
  a0 := Tryz.isAgg0
  z0 := Tryz.sizeOf0
  v0 := Tryz.zeroValue0
  t4 := Tryz.underlying4
  a4 := Tryz.isAgg4
  z4 := Tryz.sizeOf4
  v4 := Tryz.zeroValue4
  t23 := Tryz.underlying131
  a23 := Tryz.isAgg131
  z23 := Tryz.sizeOf131
  v23 := Tryz.zeroValue131
  t26 := Tryz.underlying9
  a26 := Tryz.isAgg9
  z26 := Tryz.sizeOf9
  v26 := Tryz.zeroValue9
  t27 := Tryz.underlying154
  a27 := Tryz.isAgg154
  z27 := Tryz.sizeOf154
  v27 := Tryz.zeroValue154
  t28 := Tryz.underlying155
  a28 := Tryz.isAgg155
  z28 := Tryz.sizeOf155
  v28 := Tryz.zeroValue155
  t33 := Tryz.underlying33
  a33 := Tryz.isAgg33
  z33 := Tryz.sizeOf33
  v33 := Tryz.zeroValue33 }
def Tryz.sorted128_ren : Go.Shelf.Ren := ⟨fun | 6 => 126 | 8 => 145 | 9 => 146 | 11 => 162 | 13 => 164 | 12 => 163 | 23 => 177 | 24 => 178 | 14 => 168 | 15 => 169 | 16 => 170 | 17 => 171 | 18 => 172 | 19 => 173 | 20 => 174 | 21 => 175 | 22 => 176 | 25 => 181 | 26 => 182 | 27 => 183 | 28 => 184 | 29 => 185 | 30 => 186 | 31 => 191 | n => n, fun | 26 => 9 | 28 => 155 | 24 => 37 | 0 => 0 | 3 => 3 | 37 => 112 | 48 => 183 | 50 => 163 | 4 => 4 | 40 => 192 | 39 => 191 | 45 => 102 | 5 => 5 | 9 => 9 | 51 => 200 | 55 => 204 | 57 => 210 | 58 => 93 | 33 => 33 | n => n, fun | n => n⟩
theorem Tryz.sorted128 : Go.Proofs.SlLaysZ.n6 Tryz.prog Tryz.sorted128_ren := {
  mixed := by kernel_rfl
  f6 := ⟨Tryz.f126.name, by decide, Tryz.func126.trans (congrArg some (by kernel_rfl))⟩
  f8 := ⟨Tryz.f145.name, by decide, Tryz.func145.trans (congrArg some (by kernel_rfl))⟩
  f11 := ⟨Tryz.f162.name, by decide, Tryz.func162.trans (congrArg some (by kernel_rfl))⟩
  t0 := Tryz.underlying0
  a0 := Tryz.isAgg0
  z0 := Tryz.sizeOf0
  v0 := Tryz.zeroValue0
  t24 := Tryz.underlying37
  a24 := Tryz.isAgg37
  z24 := Tryz.sizeOf37
  v24 := Tryz.zeroValue37
  t26 := Tryz.underlying9
  a26 := Tryz.isAgg9
  z26 := Tryz.sizeOf9
  v26 := Tryz.zeroValue9
  t28 := Tryz.underlying155
  a28 := Tryz.isAgg155
  z28 := Tryz.sizeOf155
  v28 := Tryz.zeroValue155
  i26 := by kernel_rfl }
def Tryz.sort155_ren : Go.Shelf.Ren := ⟨fun | 6 => 146 | 8 => 164 | 9 => 163 | 19 => 177 | 20 => 178 | 21 => 168 | 22 => 169 | 23 => 170 | 24 => 171 | 25 => 172 | 26 => 173 | 27 => 174 | 28 => 175 | 29 => 176 | 36 => 181 | 31 => 182 | 32 => 183 | 37 => 184 | 38 => 185 | 39 => 186 | 41 => 191 | n => n, fun | 27 => 37 | 29 => 9 | 3 => 3 | 32 => 112 | 26 => 37 | 0 => 0 | 44 => 183 | 46 => 163 | 4 => 4 | 36 => 192 | 35 => 191 | 41 => 102 | 5 => 5 | 9 => 9 | 53 => 200 | 57 => 204 | 63 => 210 | 64 => 93 | n => n, fun | n => n⟩
theorem Tryz.sort155 : Go.Proofs.SlLaysM.n6 Tryz.prog Tryz.sort155_ren := {
  mixed := by kernel_rfl
  f6 := ⟨Tryz.f146.name, by decide, Tryz.func146.trans (congrArg some (by kernel_rfl))⟩
  f8 := Tryz.func164.trans (congrArg some (by kernel_rfl))
  f9 := ⟨Tryz.f163.name, by decide, Tryz.func163.trans (congrArg some (by kernel_rfl))⟩
  f19 := Tryz.func177.trans (congrArg some (by kernel_rfl))
  f20 := Tryz.func178.trans (congrArg some (by kernel_rfl))
  f21 := ⟨Tryz.f168.name, by decide, Tryz.func168.trans (congrArg some (by kernel_rfl))⟩
  f22 := ⟨Tryz.f169.name, by decide, Tryz.func169.trans (congrArg some (by kernel_rfl))⟩
  f23 := ⟨Tryz.f170.name, by decide, Tryz.func170.trans (congrArg some (by kernel_rfl))⟩
  f24 := ⟨Tryz.f171.name, by decide, Tryz.func171.trans (congrArg some (by kernel_rfl))⟩
  f25 := ⟨Tryz.f172.name, by decide, Tryz.func172.trans (congrArg some (by kernel_rfl))⟩
  f26 := ⟨Tryz.f173.name, by decide, Tryz.func173.trans (congrArg some (by kernel_rfl))⟩
  f27 := ⟨Tryz.f174.name, by decide, Tryz.func174.trans (congrArg some (by kernel_rfl))⟩
  f28 := ⟨Tryz.f175.name, by decide, Tryz.func175.trans (congrArg some (by kernel_rfl))⟩
  f29 := ⟨Tryz.f176.name, by decide, Tryz.func176.trans (congrArg some (by kernel_rfl))⟩
  f31 := Tryz.func182.trans (congrArg some (by kernel_rfl))
  f32 := Tryz.func183.trans (congrArg some (by kernel_rfl))
  f36 := ⟨Tryz.f181.name, by decide, Tryz.func181.trans (congrArg some (by kernel_rfl))⟩
  f37 := ⟨Tryz.f184.name, by decide, Tryz.func184.trans (congrArg some (by kernel_rfl))⟩
  f38 := ⟨Tryz.f185.name, by decide, Tryz.func185.trans (congrArg some (by kernel_rfl))⟩
  f39 := ⟨Tryz.f186.name, by decide, Tryz.func186.trans (congrArg some (by kernel_rfl))⟩
  f41 := ⟨Tryz.f191.name, by decide, Tryz.func191.trans (congrArg some (by kernel_rfl))⟩
  t0 := Tryz.underlying0
  a0 := Tryz.isAgg0
  z0 := Tryz.sizeOf0
  v0 := Tryz.zeroValue0
  t3 := Tryz.underlying3
  a3 := Tryz.isAgg3
  z3 := Tryz.sizeOf3
  v3 := Tryz.zeroValue3
  t4 := Tryz.underlying4
  a4 := Tryz.isAgg4
  z4 := Tryz.sizeOf4
  v4 := Tryz.zeroValue4
  t5 := Tryz.underlying5
  a5 := Tryz.isAgg5
  z5 := Tryz.sizeOf5
  v5 := Tryz.zeroValue5
  t9 := Tryz.underlying9
  a9 := Tryz.isAgg9
  z9 := Tryz.sizeOf9
  v9 := Tryz.zeroValue9
  t26 := Tryz.underlying37
  a26 := Tryz.isAgg37
  z26 := Tryz.sizeOf37
  v26 := Tryz.zeroValue37
  t27 := Tryz.underlying37
  a27 := Tryz.isAgg37
  z27 := Tryz.sizeOf37
  v27 := Tryz.zeroValue37
  t29 := Tryz.underlying9
  a29 := Tryz.isAgg9
  z29 := Tryz.sizeOf9
  v29 := Tryz.zeroValue9
  t32 := Tryz.underlying112
  a32 := Tryz.isAgg112
  z32 := Tryz.sizeOf112
  v32 := Tryz.zeroValue112
  t35 := Tryz.underlying191
  a35 := Tryz.isAgg191
  z35 := Tryz.sizeOf191
  v35 := Tryz.zeroValue191
  t36 := Tryz.underlying192
  a36 := Tryz.isAgg192
  z36 := Tryz.sizeOf192
  v36 := Tryz.zeroValue192
  t41 := Tryz.underlying102
  a41 := Tryz.isAgg102
  z41 := Tryz.sizeOf102
  v41 := Tryz.zeroValue102
  t44 := Tryz.underlying183
  a44 := Tryz.isAgg183
  z44 := Tryz.sizeOf183
  v44 := Tryz.zeroValue183
  t46 := Tryz.underlying163
  a46 := Tryz.isAgg163
  z46 := Tryz.sizeOf163
  v46 := Tryz.zeroValue163
  t53 := Tryz.underlying200
  a53 := Tryz.isAgg200
  z53 := Tryz.sizeOf200
  v53 := Tryz.zeroValue200
  t57 := Tryz.underlying204
  a57 := Tryz.isAgg204
  z57 := Tryz.sizeOf204
  v57 := Tryz.zeroValue204
  t63 := Tryz.underlying210
  a63 := Tryz.isAgg210
  z63 := Tryz.sizeOf210
  v63 := Tryz.zeroValue210
  t64 := Tryz.underlying93
  a64 := Tryz.isAgg93
  z64 := Tryz.sizeOf93
  v64 := Tryz.zeroValue93 }
theorem Tryz.sorts128 (m : Nat) : AnyZ.SortsIn Tryz.prog Tryz.sorted128_ren Fence.wide m :=
  ⟨fun blk off cap ss W hH hblk hsz => callsIn_wide.2 (AnyM.slices_Sort_string Tryz.sort155 blk off cap ss W hH hblk hsz),
   fun p cap W => callsIn_wide.2 (AnyM.slices_Sort_string_none Tryz.sort155 p cap W)⟩
theorem Tryz.sorted_keys {H : Type} (Bm b nn : Nat) (D0 : DataW H) (R : Value → Option (DataW H × List MemPlace)) (w : World) (hBm : Bm < w.heap.size) (hm : w.cell? ⟨Bm, 0, none⟩ = some (.map (some b)))
    (hown : w.ownsMap Tryz.prog 9 R b nn D0) (hmax : Maps.size D0 ≤ maxLen) (hbytes : Maps.size D0 * 16 ≤ 140737488355328) :
    Calls Tryz.prog 126 #[.func (.func 147) #[] #[.pointer (some ⟨Bm, 0, none⟩)]] w fun e w' => ∃ (v : Value) (ss : List (List UInt8)), e = .returned v ∧ ss.Perm (strKeys D0) ∧
      w'.ownsRow w.heap.size 9 1 v ss.length ((ss.mergeSort (fun x y => decide (x ≤ y))).map encStr) ∧ (v = .slice none 0 0 ↔ ss = []) ∧ Below w.heap.size w w' := by
  have hseq : SeqGives Fence.wide 2 Tryz.prog 147 #[.pointer (some ⟨Bm, 0, none⟩)] encStr (fun ss => ss.Perm (strKeys D0)) (Maps.size D0) w :=
    AnyZ.keys_gives (ρ := Tryz.keys129_ren) { Tryz.keys129 with } Fence.wide _ trivial rfl (by omega) Bm b nn D0 _ hBm hm hown
  exact (callsIn_wide (n := 5)).1 (AnyZ.sorted_in Tryz.sorted128 Fence.wide 5 trivial trivial trivial trivial rfl (by omega) (Tryz.sorts128 _) (enters_of Tryz.func146 (by kernel_rfl) rfl) 147 #[.pointer (some ⟨Bm, 0, none⟩)] trivial (enters_of Tryz.func147 (by kernel_rfl) rfl) _ _ hmax hbytes _ hseq)
end Go.Proofs
end

section
namespace Go.Proofs.YtoinkmogdfjmmaaGreatDoor
open Go Go.Am Go.RowKit
set_option maxRecDepth 100000
def mpO (m : List (Str × Tree)) : HO := .mp ((m.map (·.1)).map .str) (.pure (m.map fun p => p.2.enc))
theorem maps_Keys (ks : List PV) (l : List PV) : AbsCall PP GG F.maps_Keys_map_string_api_Value_string_api_Value [.mapr 0] [.mp ks (.pure l)] ⟨.ret (.func (.func F.maps_Keys_map_string_api_Value_string_api_Value_1) [.ptr 1 0]), [.mp ks (.pure l), .var T.map_string_api_Value (.mapr 0)], []⟩ := by
  refine absCall_of (pol := polG) mixP F.maps_Keys_map_string_api_Value_string_api_Value_is ?_
  conv => whnf
  exact CLe.refl _
theorem key_str : PP.underlying T.string = some .string := by kernel_rfl
theorem row_strs {B : Nat → Prop} {w : World} {base : Nat} {v : Value} {n : Nat} {ss : List Str} (hB : ∀ b, B b → b < base) (h : w.ownsRow base T.string 1 v n (ss.map Go.Proofs.encStr)) : PRel B w (.lst false (ss.map .str)) v := by
  obtain ⟨h1, h2⟩ := h
  rw [List.length_map] at h1
  rcases h2 with ⟨rfl, h3⟩ | ⟨g, cap, cur, rfl, hg, hw, hn, hc, hz, ht⟩
  · obtain rfl : ss = [] := List.eq_nil_of_length_eq_zero (by omega)
    exact .lst0 false none 0 (fun h => by cases h)
  · have hn' : n = (ss.map PV.str).length := by rw [List.length_map]; omega
    subst hn'
    have hfl := flat_strs ss
    have hgt : g < w.heap.size := (Array.getElem?_eq_some_iff.1 hw).1
    refine .lst false (ss.map .str) g 0 cap 1 (fun k => cur.getD k undef) (fun hb => by have := hB g hb; omega) hgt (Nat.le_refl _) ?_ ?_ hn (fun h => by cases h) ?_ ?_
    · intro x hx; obtain ⟨s, _, rfl⟩ := List.mem_map.1 hx; rfl
    · rw [hfl]; intro x hx; obtain ⟨s, _, rfl⟩ := List.mem_map.1 hx; rfl
    · intro k hk
      rw [hfl] at hk
      have hlt : k < cur.size := by omega
      simp [World.cell?, hw, hlt]
    · intro k x hx
      rw [hfl, List.getElem?_map] at hx
      obtain ⟨s, hs, rfl⟩ := Option.map_eq_some_iff.1 hx
      have hk : k < ss.length := (List.getElem?_eq_some_iff.1 hs).1
      have := congrArg (·[k]?) ht
      simp only [List.getElem?_map, hs, Option.map_some] at this
      rw [List.getElem?_take, if_pos (by rw [List.length_map]; omega), Array.getElem?_toList] at this
      have hlt : k < cur.size := by rw [List.length_map] at hn; omega
      rw [show cur.getD k undef = Go.Proofs.encStr s by simp [Array.getD, hlt] at this ⊢; exact this]
      exact .str s
theorem slices_Sorted (m : List (Str × Tree)) (hnd : (m.map (·.1)).Nodup) (hlen : m.length ≤ 1048576) (hstr : ∀ p ∈ m, p.1.length ≤ 1048576) :
    AbsCall PP GG F.slices_Sorted_string [.func (.func F.maps_Keys_map_string_api_Value_string_api_Value_1) [.ptr 0 0]] [.var T.map_string_api_Value (.mapr 1), mpO m] ⟨.ret (.p (.lst false (((sortP m).map (·.1)).map .str))), [.var T.map_string_api_Value (.mapr 1), mpO m], []⟩ := by
  refine absBelow fun B L w vs hst ha hg => ?_
  obtain ⟨v, rfl, hv⟩ := vrel1 ha
  have hr0 := hst.rel 0
  have hr1 := hst.rel 1
  have ho0 := hst.own 0 trivial
  obtain ⟨D0, hown, hsz, hperm⟩ := own_of_mp (P := PP) (K := T.string) key_str (show HRel B L w 1 (.mp ((m.map (·.1)).map .str) (.pure (m.map fun p => p.2.enc))) from hr1) hnd (by rw [List.length_map]; exact Nat.le_trans hlen (by decide)) (by
    intro s hs
    obtain ⟨p, hp, rfl⟩ := List.mem_map.1 hs
    exact Nat.le_trans (hstr p hp) (by decide))
  rw [List.length_map] at hsz
  have hcell : w.cell? ⟨L.blk 0, 0, none⟩ = some (.map (some (L.blk 1))) := by
    cases (show HRel B L w 0 (.var T.map_string_api_Value (.mapr 1)) from hr0) with
    | var _ c t fr hw hfr hl h =>
      have hc : c.size = 1 := hl.symm
      have h0 := h 0 (.mapr 1) c[0] rfl (by simp [hc])
      generalize hx : c[0] = x at h0
      cases h0
      simp [World.cell?, hw, hc, hx]
  have hv' : v = .func (.func F.maps_Keys_map_string_api_Value_string_api_Value_1) #[] #[.pointer (some ⟨L.blk 0, 0, none⟩)] := by
    cases hv with
    | func f l c hl h =>
      rcases c with _ | ⟨a, _ | ⟨b, c⟩⟩
      · simp at hl
      · have := h 0 _ a rfl rfl
        cases this
        rfl
      · simp at hl
  subst hv'
  refine CallTo.of_calls Tryz.func126 (by kernel_rfl) rfl ((Tryz.sorted_keys (L.blk 0) (L.blk 1) _ D0 _ w ho0.2 hcell hown (by rw [hsz]; exact Nat.le_trans hlen (by decide)) (by rw [hsz]; omega)).mono ?_)
  rintro e w' ⟨x, ss, rfl, hp, hrow, _, hb⟩
  refine ⟨hb, x, rfl, .p _ _ ?_⟩
  rw [sorted_keys_eq (hp.trans hperm)] at hrow
  exact row_strs (base := w.heap.size) hst.bnd hrow
theorem keys_ok (k : Str) (ss : List Str) : keysOk PP T.string (.str k) (ss.map .str) := by
  have h : ∀ s : Str, keyIs PP T.string (.str s) = true := fun s => by simp only [keyIs, key_str]
  refine ⟨h k, List.all_eq_true.2 fun x hx => ?_⟩
  obtain ⟨s, _, rfl⟩ := List.mem_map.1 hx
  exact h s
theorem get_mp {m : List (Str × Tree)} (hnd : (m.map (·.1)).Nodup) {p : Str × Tree} (hp : p ∈ m) : getM (.str p.1) ((m.map (·.1)).map .str) (.pure (m.map fun p => p.2.enc)) = some (.p p.2.enc) := by
  obtain ⟨i, hi⟩ := List.getElem?_of_mem hp
  unfold getM
  rw [keyAt_map (i := i) hnd (by rw [List.getElem?_map, hi]; rfl)]
  simp only [MV.toL, Option.bind_some, List.getElem?_map, hi]
  rfl
def mpV (n m : Nat) : V := .agg [.p (.int .i64 6), .p (.int .i64 0), .p (.str []), .p .nils, .sl n 0 m]
theorem mpV_frz (n : Nat) (m : List (Str × Tree)) : V.frz n (Tree.encM m) (mpV n (Tree.encM m).length) = .p (.agg [.int .i64 6, .int .i64 0, .str [], .nils, .lst false (Tree.encM m)]) := by
  simp [mpV, V.frz, V.frzL, V.mk, allP, PV.leaf]
theorem tree_mp (m : List (Str × Tree)) : VLe (.p (.agg [.int .i64 6, .int .i64 0, .str [], .nils, .lst false (Tree.encM m)])) (.p (Tree.mk 6 0 [] [] m).enc) :=
  (PLe.agg (show LeL [.int .i64 6, .int .i64 0, .str [], .nils, .lst false (Tree.encM m)] [.int .i64 6, .int .i64 0, .str [], .lst false [], .lst false (Tree.encM m)] from ⟨PLe.refl _, PLe.refl _, PLe.refl _, PLe.nils false, PLe.refl _, trivial⟩)).p
theorem pair_side (p : Str × Tree) : ∀ y : PV, y ∈ [Tree.encP p] → y.cells.length = 6 ∧ ∀ c : PV, c ∈ y.cells → c.leaf = true := by
  intro y hy
  rw [List.mem_singleton.1 hy]
  exact ⟨Tree.encP_cells p, Tree.encP_leaf p⟩
theorem pair_side1 (p : Str × Tree) : ∀ y : PV, y ∈ [Tree.encP p] → y.cells.length = 6 := fun y hy => (pair_side p y hy).1
theorem made_loop (m : List (Str × Tree)) (hnd : (m.map (·.1)).Nodup) (hlen : m.length ≤ 1048576) (K : Post)
    (h0 : K (.exit 0) [(2, .ptr 1 0), (3, .ptr 2 0)] [mpO m, zO, .var T.api_Value (mpV 3 (Tree.encM (sortP m)).length), .arr T.api_Pair 6 (Tree.encM (sortP m))] []) :
    ∀ (r i : Nat), i + r = (sortP m).length → LoopW PP GG 27 1 (loopN F.jread_made_c 0) [(0, .mapr 0), (2, .ptr 1 0), (3, .ptr 2 0), (9, .p (.lst false (((sortP m).map (·.1)).map .str))), (10, .p (.int .i64 (sortP m).length)), (11, .p (.int .i64 i))]
      [mpO m, zO, .var T.api_Value (mpV 3 (Tree.encM ((sortP m).take i)).length), .arr T.api_Pair 6 (Tree.encM ((sortP m).take i))] [] (PostCl 27 K) := by
  have hsl := sortP_len m
  intro r
  induction r with
  | zero =>
    intro i hi
    obtain rfl : i = (sortP m).length := by omega
    rw [List.take_length]
    refine LoopW.round (pol := polG) mixP ?_
    conv => whnf
    repeat' ((first
     | ((with_reducible first | refine Br.dec ?_ ?_ | refine Br.ndec ?_ ?_) <;> intro hb <;> (try simp only [ZZ] at hb) <;> (first | omega | contradiction | skip))
     | (with_reducible first | refine Br.tt rfl ?_ | refine Br.ff rfl ?_ | refine Br.ff (isEmptyCons _ _) ?_)
     | ((with_reducible first | refine Side.mk ?_ ?_ | refine WrapW.mk ?_ ?_); focus (first | omega | (dsimp only [InR, Int.reduceToNat, IntKind.bits, Int.reducePow]; omega) | (simp [CC]; done) | (constructor <;> omega)))
     | with_reducible refine Br.not ?_
     | (with_reducible first | refine Br.tt (by assumption) ?_ | refine Br.ff (by assumption) ?_)
     | (refine Br.mk ?_ ?_ <;> intro hb <;> (try simp only [ZZ] at hb) <;> (first | omega | contradiction | skip))
     | refine Src.whole ⟨rfl, rfl⟩ ?_ | refine FrzV.whole ?_) <;> conv => whnf)
    · refine PostCl.of (h0) ?_ ?_
      · repeat first | exact trivial | refine ⟨VLe.refl _, ?_⟩
      · repeat first | exact trivial | refine ⟨by decide, ?_⟩
  | succ r ih =>
    intro i hi
    have hil : i < (sortP m).length := by omega
    have hml : (Tree.encM ((sortP m).take i)).length = i := by rw [Tree.encM_length, List.length_take]; omega
    obtain ⟨k, t, hp⟩ : ∃ k t, (sortP m)[i]? = some (k, t) := ⟨(sortP m)[i].1, (sortP m)[i].2, by simp [hil]⟩
    have hpm : (k, t) ∈ m := (sortP_perm m).mem_iff.1 (List.mem_of_getElem? hp)
    have hg := get_mp hnd hpm
    have hks := keys_ok k (m.map (·.1))
    have hkl : (((sortP m).map (·.1)).map PV.str)[i]? = some (.str k) := by rw [List.getElem?_map, List.getElem?_map, hp]; rfl
    have htk : (sortP m).take (i + 1) = (sortP m).take i ++ [(k, t)] := by rw [List.take_add_one, hp]; rfl
    have ih := ih (i + 1) (by omega)
    rw [htk] at ih
    obtain ⟨a, b, c, d, e⟩ := t
    refine LoopW.round (pol := polG) mixP ?_
    conv => whnf
    repeat' ((first
     | ((with_reducible first | refine Br.dec ?_ ?_ | refine Br.ndec ?_ ?_) <;> intro hb <;> (try simp only [And.intro @hml (ZZ)] at hb) <;> (first | omega | contradiction | skip))
     | (with_reducible first | refine Br.tt rfl ?_ | refine Br.ff rfl ?_ | refine Br.ff (isEmptyCons _ _) ?_)
     | ((with_reducible first | refine Side.mk ?_ ?_ | refine WrapW.mk ?_ ?_); focus (first | omega | (dsimp only [InR, Int.reduceToNat, IntKind.bits, Int.reducePow]; omega) | exact ⟨rfl, rfl⟩ | exact pair_side (k, .mk a b c d e) | exact ⟨pair_side1 (k, .mk a b c d e), rfl, by show (_ + 1) * 192 ≤ _; omega⟩ | (simp [CC]; done) | (constructor <;> omega)))
     | with_reducible refine Br.not ?_
     | (with_reducible first | refine Br.tt (by assumption) ?_ | refine Br.ff (by assumption) ?_)
     | (refine Br.mk ?_ ?_ <;> intro hb <;> (try simp only [And.intro @hml (ZZ)] at hb) <;> (first | omega | contradiction | skip))
     | refine Src.whole ⟨rfl, rfl⟩ ?_ | refine FrzV.whole ?_
     | ((refine ElemZ.mk (.str k) (by simpa using hkl) rfl ?_; conv => whnf))
     | ((refine MapG.mk _ hks hg ?_; conv => whnf))) <;> conv => whnf)
    rw [Tree.encM_append] at ih
    refine LoopW.ren [0, 1, 2, 3] (ih) (by repeat first | exact trivial | refine ⟨⟨rfl, VLe.refl _⟩, ?_⟩) (by repeat first | exact trivial | refine ⟨by decide, ?_⟩) rfl rfl
theorem made_first (m : List (Str × Tree)) (hnd : (m.map (·.1)).Nodup) (hlen : m.length ≤ 1048576) (K : Post) (o : HO)
    (hz : sortP m = [] → K (.exit 0) [(2, .ptr 1 0), (3, .ptr 2 0)] [mpO m, zO, .var T.api_Value (.p (.agg [.int .i64 6, .int .i64 0, .str [], .nils, .nils]))] [])
    (h0 : K (.exit 0) [(2, .ptr 1 0), (3, .ptr 2 0)] [mpO m, zO, .var T.api_Value (mpV 3 (Tree.encM (sortP m)).length), .arr T.api_Pair 6 (Tree.encM (sortP m))] []) :
    LoopW PP GG 27 1 (loopN F.jread_made_c 0) [(0, .mapr 0), (2, .ptr 1 0), (3, .ptr 2 0), (9, .p (.lst false (((sortP m).map (·.1)).map .str))), (10, .p (.int .i64 (sortP m).length)), (11, .p (.int .i64 0))]
      [mpO m, zO, .var T.api_Value (.p (.agg [.int .i64 6, .int .i64 0, .str [], .nils, .nils]))] [] (PostCl 27 K) := by
  have hsl := sortP_len m
  have hlp := made_loop m hnd hlen K h0
  cases hs : sortP m with
  | nil =>
    refine LoopW.round (pol := polG) mixP ?_
    conv => whnf
    repeat' ((first
     | ((with_reducible first | refine Br.dec ?_ ?_ | refine Br.ndec ?_ ?_) <;> intro hb <;> (try simp only [ZZ] at hb) <;> (first | omega | contradiction | skip))
     | (with_reducible first | refine Br.tt rfl ?_ | refine Br.ff rfl ?_ | refine Br.ff (isEmptyCons _ _) ?_)
     | ((with_reducible first | refine Side.mk ?_ ?_ | refine WrapW.mk ?_ ?_); focus (first | omega | (dsimp only [InR, Int.reduceToNat, IntKind.bits, Int.reducePow]; omega) | (simp [CC]; done) | (constructor <;> omega)))
     | with_reducible refine Br.not ?_
     | (with_reducible first | refine Br.tt (by assumption) ?_ | refine Br.ff (by assumption) ?_)
     | (refine Br.mk ?_ ?_ <;> intro hb <;> (try simp only [ZZ] at hb) <;> (first | omega | contradiction | skip))
     | refine Src.whole ⟨rfl, rfl⟩ ?_ | refine FrzV.whole ?_) <;> conv => whnf)
    · refine PostCl.of (hz hs) ?_ ?_
      · repeat first | exact trivial | refine ⟨VLe.refl _, ?_⟩
      · repeat first | exact trivial | refine ⟨by decide, ?_⟩
  | cons p l =>
    obtain ⟨k, t⟩ := p
    have hp : (sortP m)[0]? = some (k, t) := by rw [hs]; rfl
    have hpm : (k, t) ∈ m := (sortP_perm m).mem_iff.1 (List.mem_of_getElem? hp)
    have hg := get_mp hnd hpm
    have hks := keys_ok k (m.map (·.1))
    have hlp := hlp l.length 1 (by rw [hs, List.length_cons]; omega)
    rw [hs] at hlp
    have hll : ((k, t) :: l).length = l.length + 1 := rfl
    obtain ⟨a, b, c, d, e⟩ := t
    refine LoopW.round (pol := polG) mixP ?_
    conv => whnf
    repeat' ((first
     | ((with_reducible first | refine Br.dec ?_ ?_ | refine Br.ndec ?_ ?_) <;> intro hb <;> (try simp only [And.intro @hll (ZZ)] at hb) <;> (first | omega | contradiction | skip))
     | (with_reducible first | refine Br.tt rfl ?_ | refine Br.ff rfl ?_ | refine Br.ff (isEmptyCons _ _) ?_)
     | ((with_reducible first | refine Side.mk ?_ ?_ | refine WrapW.mk ?_ ?_); focus (first | omega | (dsimp only [InR, Int.reduceToNat, IntKind.bits, Int.reducePow]; omega) | exact ⟨rfl, rfl⟩ | exact pair_side (k, .mk a b c d e) | exact ⟨pair_side1 (k, .mk a b c d e), by show 1 * 192 ≤ _; omega⟩ | (simp [CC]; done) | (constructor <;> omega)))
     | with_reducible refine Br.not ?_
     | (with_reducible first | refine Br.tt (by assumption) ?_ | refine Br.ff (by assumption) ?_)
     | (refine Br.mk ?_ ?_ <;> intro hb <;> (try simp only [And.intro @hll (ZZ)] at hb) <;> (first | omega | contradiction | skip))
     | refine Src.whole ⟨rfl, rfl⟩ ?_ | refine FrzV.whole ?_
     | ((refine ElemZ.mk (.str k) rfl rfl ?_; conv => whnf))
     | ((refine MapG.mk _ hks hg ?_; conv => whnf))) <;> conv => whnf)
    refine LoopW.ren [0, 1, 2, 4] (hlp) (by repeat first | exact trivial | refine ⟨⟨rfl, VLe.refl _⟩, ?_⟩) (by repeat first | exact trivial | refine ⟨by decide, ?_⟩) rfl rfl
theorem jread_made (m : List (Str × Tree)) (hnd : (m.map (·.1)).Nodup) (hlen : m.length ≤ 1048576) (hstr : ∀ p ∈ m, p.1.length ≤ 1048576) :
    AbsCall PP GG F.jread_made [.mapr 0] [mpO m] ⟨.ret (.p (Tree.mk 6 0 [] [] (sortP m)).enc), [mpO m], []⟩ := by
  have hK := maps_Keys ((m.map (·.1)).map .str) (m.map fun p => p.2.enc)
  have hS := slices_Sorted m hnd hlen hstr
  have hsl := sortP_len m
  have hml : (((sortP m).map (·.1)).map PV.str).length = (sortP m).length := by simp
  refine absCall_of (pol := polG) mixP F.jread_made_is ?_
  conv => whnf
  repeat' ((first
   | ((with_reducible first | refine Br.dec ?_ ?_ | refine Br.ndec ?_ ?_) <;> intro hb <;> (try simp only [And.intro @hml (ZZ)] at hb) <;> (first | omega | contradiction | skip))
   | (with_reducible first | refine Br.tt rfl ?_ | refine Br.ff rfl ?_ | refine Br.ff (isEmptyCons _ _) ?_)
   | ((with_reducible first | refine Side.mk ?_ ?_ | refine WrapW.mk ?_ ?_); focus (first | omega | (dsimp only [InR, Int.reduceToNat, IntKind.bits, Int.reducePow]; omega) | (simp [CC]; done) | (constructor <;> omega)))
   | with_reducible refine Br.not ?_
   | (with_reducible first | refine Br.tt (by assumption) ?_ | refine Br.ff (by assumption) ?_)
   | (refine Br.mk ?_ ?_ <;> intro hb <;> (try simp only [And.intro @hml (ZZ)] at hb) <;> (first | omega | contradiction | skip))
   | refine Src.whole ⟨rfl, rfl⟩ ?_ | refine FrzV.whole ?_
   | refine CallW.use (hK) ?_
   | refine CallW.use (hS) ?_) <;> conv => whnf)
  rw [hml]
  refine LoopW.cl ?_
  refine LoopW.ren [0, 1, 2] (made_first m hnd hlen _ (.dead) (fun h => ?_) ?_) (by repeat first | exact trivial | refine ⟨⟨rfl, VLe.refl _⟩, ?_⟩) (by repeat first | exact trivial | refine ⟨by decide, ?_⟩) rfl rfl
  all_goals conv => whnf
  · rw [h]
    exact CLe.ret (tree_nils 6 0 [])
  · refine FrzV.mk _ (mpV_frz 3 (sortP m)) ?_
    conv => whnf
    refine FrzO.mk _ (congrArg (HO.var T.api_Value) (mpV_frz 3 (sortP m))) ?_
    conv => whnf
    refine FrzO.mk _ (congrArg (HO.var T.api_Value) (mpV_frz 3 (sortP m))) ?_
    conv => whnf
    exact CLe.ret (tree_mp (sortP m))
theorem put_mk {acc : List (Str × Tree)} {k : Str} (h : ¬ k ∈ acc.map (·.1)) (x : Tree) : putMK (.str k) ((acc.map (·.1)).map .str) = ((acc ++ [(k, x)]).map (·.1)).map .str := by
  unfold putMK
  rw [keyAt_none h]
  simp
theorem put_mv {acc : List (Str × Tree)} {k : Str} (h : ¬ k ∈ acc.map (·.1)) (x : Tree) : putMV (.str k) ((acc.map (·.1)).map .str) (.pure (acc.map fun p => p.2.enc)) (.p x.enc) = .pure ((acc ++ [(k, x)]).map fun p => p.2.enc) := by
  unfold putMV
  rw [keyAt_none h]
  simp
theorem get_none {acc : List (Str × Tree)} {k : Str} (h : ¬ k ∈ acc.map (·.1)) (vs : MV) : getM (.str k) ((acc.map (·.1)).map .str) vs = none := by
  unfold getM
  rw [keyAt_none h]
  rfl
theorem entries_loop (ws : List Wd) (hw : WsOk ws) (Q : Nat) (hv : ∀ q, q < Q → ValAt ws q) (d : Int) (hd0 : 0 ≤ d) (hd : d ≤ 32) (R : RR) (K : Post)
    (h0 : ∀ (t : Tree) (j : Nat) (m : Int), R = .ok (t, j, m) → ∀ H : Heap, K .ret [(4, .ptr 1 0)] (jrO ws j m :: .var T.api_Value (.p t.enc) :: H) [])
    (hp : ∀ e a : Int, R = .error (e, a) → ∀ H : Heap, K (.pan (wrongP e a)) [] (.dead :: H) []) :
    ∀ (q : Nat) (i : Nat) (n : Int) (acc : List (Str × Tree)), q ≤ Q → i < ws.length → 3 * (ws.length - i) + 2 ≤ q → 0 ≤ n → n ≤ 4096 → acc.length ≤ n → (acc.map (·.1)).Nodup → (∀ p ∈ acc, p.1.length ≤ 65536) → entriesR q ws d i n acc = R →
      LoopW PP GG 53 1 (loopN F.jread_reader_pairs_c 0) [(0, .ptr 0 0), (1, .p (.int .i64 d)), (4, .ptr 1 0), (5, .mapr 2)] [jrO ws i n, zO, mpO acc] [] (PostCl 53 K) := by
  intro q
  induction q with
  | zero => intro i n acc hq hi hf; omega
  | succ q ih =>
    intro i n acc hq hi hf hn0 hn1 hacc hnd hstr hR
    obtain ⟨hat, hmem⟩ := hw.at hi
    have hend := hw.end_ i hi
    have hws := hw.len
    have hl : ws.length ≤ 1073741824 := by omega
    have htx := (hw.text _ hmem).1
    have hW0 := reader_word ws i n _ hat hl
    rw [entriesR] at hR
    have hF4 := reader_failD ws i n 4 _ hat hl
    have hF5 := reader_failD ws i n 5 _ hat hl
    by_cases hk : (wdAt ws i).k = 2
    · rw [if_neg (by simp [hk])] at hR
      have hi1 := hend (by rw [hk]; decide)
      have hat1 := (hw.at hi1).1
      have hks := keys_ok (wdAt ws i).s (acc.map (·.1))
      generalize hwd : wdAt ws i = w at *
      obtain ⟨k, s, a⟩ := w
      simp only [] at hk htx hR hks
      subst hk
      cases hh : hasK acc s with
      | true =>
        rw [if_pos hh] at hR
        obtain ⟨⟨k', t⟩, hpm, he⟩ := List.mem_map.1 ((hasK_mem acc s).1 hh)
        simp only [] at he
        subst he
        have hg := get_mp hnd hpm
        obtain ⟨b, c, e, f, g⟩ := t
        refine LoopW.round (pol := polG) mixP ?_
        conv => whnf
        repeat' ((first
         | ((with_reducible first | refine Br.dec ?_ ?_ | refine Br.ndec ?_ ?_) <;> intro hb <;> (try simp only [ZZ] at hb) <;> (first | omega | contradiction | skip))
         | (with_reducible first | refine Br.tt rfl ?_ | refine Br.ff rfl ?_ | refine Br.ff (isEmptyCons _ _) ?_)
         | ((with_reducible first | refine Side.mk ?_ ?_ | refine WrapW.mk ?_ ?_); focus (first | omega | (dsimp only [InR, Int.reduceToNat, IntKind.bits, Int.reducePow]; omega) | (simp [CC]; done) | (constructor <;> omega)))
         | with_reducible refine Br.not ?_
         | (with_reducible first | refine Br.tt (by assumption) ?_ | refine Br.ff (by assumption) ?_)
         | (refine Br.mk ?_ ?_ <;> intro hb <;> (try simp only [ZZ] at hb) <;> (first | omega | contradiction | skip))
         | refine Src.whole ⟨rfl, rfl⟩ ?_ | refine FrzV.whole ?_
         | refine CallW.use (hW0) ?_
         | refine CallW.use (hF5) ?_
         | ((refine MapG.mk _ hks hg ?_; conv => whnf))) <;> conv => whnf)
        · refine PostCl.of (hp _ _ hR.symm _) ?_ ?_
          · repeat first | exact trivial | refine ⟨VLe.refl _, ?_⟩
          · repeat first | exact trivial | refine ⟨by decide, ?_⟩
      | false =>
        rw [if_neg (by rw [hh]; decide)] at hR
        have hnm : ¬ s ∈ acc.map (·.1) := fun h => by rw [(hasK_mem acc s).2 h] at hh; cases hh
        have hg := get_none hnm (.pure (acc.map fun p => p.2.enc))
        have hU := put_mk hnm
        have hUv := put_mv hnm
        cases h58 : isS (wdAt ws (i + 1)) [58] with
        | false =>
          rw [if_pos h58] at hR
          have hC := want_no (n := n) hat1 hl h58
          refine LoopW.round (pol := polG) mixP ?_
          conv => whnf
          repeat' ((first
           | ((with_reducible first | refine Br.dec ?_ ?_ | refine Br.ndec ?_ ?_) <;> intro hb <;> (try simp only [ZZ] at hb) <;> (first | omega | contradiction | skip))
           | (with_reducible first | refine Br.tt rfl ?_ | refine Br.ff rfl ?_ | refine Br.ff (isEmptyCons _ _) ?_)
           | ((with_reducible first | refine Side.mk ?_ ?_ | refine WrapW.mk ?_ ?_); focus (first | omega | (dsimp only [InR, Int.reduceToNat, IntKind.bits, Int.reducePow]; omega) | (simp [CC]; done) | (constructor <;> omega)))
           | with_reducible refine Br.not ?_
           | (with_reducible first | refine Br.tt (by assumption) ?_ | refine Br.ff (by assumption) ?_)
           | (refine Br.mk ?_ ?_ <;> intro hb <;> (try simp only [ZZ] at hb) <;> (first | omega | contradiction | skip))
           | refine Src.whole ⟨rfl, rfl⟩ ?_ | refine FrzV.whole ?_
           | refine CallW.use (hW0) ?_
           | refine CallW.use (hC) ?_
           | ((refine MapG.mk _ hks hg ?_; conv => whnf))) <;> conv => whnf)
          · refine PostCl.of (hp _ _ hR.symm _) ?_ ?_
            · repeat first | exact trivial | refine ⟨VLe.refl _, ?_⟩
            · repeat first | exact trivial | refine ⟨by decide, ?_⟩
        | true =>
          rw [if_neg (by rw [h58]; decide)] at hR
          have hC := want_yes (n := n) hat1 hl h58
          have hi2 := hw.end_ (i + 1) hi1 (by rw [(isS_k h58).1]; decide)
          have hV := hv q (by omega) (d + 1) (i + 2) n hi2 (by omega) (by omega) (by omega) hn0 hn1
          have hok := (okR_all hw q).1 (d + 1) (i + 2) n hi2
          cases hr : valR q ws (d + 1) (i + 2) n with
          | error e =>
            rw [hr] at hV hR
            obtain ⟨e, a⟩ := e
            refine LoopW.round (pol := polG) mixP ?_
            conv => whnf
            repeat' ((first
             | ((with_reducible first | refine Br.dec ?_ ?_ | refine Br.ndec ?_ ?_) <;> intro hb <;> (try simp only [ZZ] at hb) <;> (first | omega | contradiction | skip))
             | (with_reducible first | refine Br.tt rfl ?_ | refine Br.ff rfl ?_ | refine Br.ff (isEmptyCons _ _) ?_)
             | ((with_reducible first | refine Side.mk ?_ ?_ | refine WrapW.mk ?_ ?_); focus (first | omega | (dsimp only [InR, Int.reduceToNat, IntKind.bits, Int.reducePow]; omega) | (simp [CC]; done) | (constructor <;> omega)))
             | with_reducible refine Br.not ?_
             | (with_reducible first | refine Br.tt (by assumption) ?_ | refine Br.ff (by assumption) ?_)
             | (refine Br.mk ?_ ?_ <;> intro hb <;> (try simp only [ZZ] at hb) <;> (first | omega | contradiction | skip))
             | refine Src.whole ⟨rfl, rfl⟩ ?_ | refine FrzV.whole ?_
             | refine CallW.use (hW0) ?_
             | refine CallW.use (hC) ?_
             | refine CallW.use (hV) ?_
             | ((refine MapG.mk _ hks hg ?_; conv => whnf))) <;> conv => whnf)
            · refine PostCl.of (hp _ _ hR.symm _) ?_ ?_
              · repeat first | exact trivial | refine ⟨VLe.refl _, ?_⟩
              · repeat first | exact trivial | refine ⟨by decide, ?_⟩
          | ok x =>
            obtain ⟨x, j, m⟩ := x
            rw [hr] at hV hR hok
            obtain ⟨g1, g2, g3, g4⟩ := hok
            have hatj := (hw.at g2).1
            have hnd' : ((acc ++ [(s, x)]).map (·.1)).Nodup := by
              rw [List.map_append, List.map_cons, List.map_nil]
              refine List.nodup_append.2 ⟨hnd, by simp, ?_⟩
              intro a ha b hb
              rw [List.mem_singleton.1 hb]
              exact fun e => hnm (by rw [← show a = s from e]; exact ha)
            have hstr' : ∀ p ∈ acc ++ [(s, x)], p.1.length ≤ 65536 := by
              intro p hp
              rcases List.mem_append.1 hp with hp | hp
              · exact hstr p hp
              · rw [List.mem_singleton.1 hp]; exact htx
            have hal : (acc ++ [(s, x)]).length ≤ m := by rw [List.length_append, List.length_singleton]; omega
            have hU := hU x
            have hUv := hUv x
            dsimp only [] at hR
            cases h125 : isS (wdAt ws j) [125] with
            | true =>
              rw [if_pos h125] at hR
              have hT := take_yes (n := m) hatj hl h125
              have hM := jread_made (acc ++ [(s, x)]) hnd' (by omega) (fun p hp => Nat.le_trans (hstr' p hp) (by decide))
              refine LoopW.round (pol := polG) mixP ?_
              conv => whnf
              repeat' ((first
               | ((with_reducible first | refine Br.dec ?_ ?_ | refine Br.ndec ?_ ?_) <;> intro hb <;> (try simp only [ZZ] at hb) <;> (first | omega | contradiction | skip))
               | (with_reducible first | refine Br.tt rfl ?_ | refine Br.ff rfl ?_ | refine Br.ff (isEmptyCons _ _) ?_)
               | ((with_reducible first | refine Side.mk ?_ ?_ | refine WrapW.mk ?_ ?_); focus (first | omega | (dsimp only [InR, Int.reduceToNat, IntKind.bits, Int.reducePow]; omega) | (simp [CC]; done) | (constructor <;> omega)))
               | with_reducible refine Br.not ?_
               | (with_reducible first | refine Br.tt (by assumption) ?_ | refine Br.ff (by assumption) ?_)
               | (refine Br.mk ?_ ?_ <;> intro hb <;> (try simp only [ZZ] at hb) <;> (first | omega | contradiction | skip))
               | refine Src.whole ⟨rfl, rfl⟩ ?_ | refine FrzV.whole ?_
               | refine CallW.use (hW0) ?_
               | refine CallW.use (hC) ?_
               | refine CallW.use (hV) ?_
               | refine CallW.use (hT) ?_
               | refine CallW.use (hM) ?_
               | ((refine MapG.mk _ hks hg ?_; conv => whnf))
               | ((refine MapU.mk _ _ hks hU hUv ?_; conv => whnf))) <;> conv => whnf)
              · refine PostCl.of (h0 _ (j + 1) m hR.symm _) ?_ ?_
                · repeat first | exact trivial | refine ⟨VLe.refl _, ?_⟩
                · repeat first | exact trivial | refine ⟨by decide, ?_⟩
            | false =>
              rw [if_neg (by rw [h125]; decide)] at hR
              have hT := take_no (n := m) hatj hl h125
              cases h44 : isS (wdAt ws j) [44] with
              | true =>
                rw [if_pos h44] at hR
                have hW := want_yes (n := m) hatj hl h44
                refine LoopW.round (pol := polG) mixP ?_
                conv => whnf
                repeat' ((first
                 | ((with_reducible first | refine Br.dec ?_ ?_ | refine Br.ndec ?_ ?_) <;> intro hb <;> (try simp only [ZZ] at hb) <;> (first | omega | contradiction | skip))
                 | (with_reducible first | refine Br.tt rfl ?_ | refine Br.ff rfl ?_ | refine Br.ff (isEmptyCons _ _) ?_)
                 | ((with_reducible first | refine Side.mk ?_ ?_ | refine WrapW.mk ?_ ?_); focus (first | omega | (dsimp only [InR, Int.reduceToNat, IntKind.bits, Int.reducePow]; omega) | (simp [CC]; done) | (constructor <;> omega)))
                 | with_reducible refine Br.not ?_
                 | (with_reducible first | refine Br.tt (by assumption) ?_ | refine Br.ff (by assumption) ?_)
                 | (refine Br.mk ?_ ?_ <;> intro hb <;> (try simp only [ZZ] at hb) <;> (first | omega | contradiction | skip))
                 | refine Src.whole ⟨rfl, rfl⟩ ?_ | refine FrzV.whole ?_
                 | refine CallW.use (hW0) ?_
                 | refine CallW.use (hC) ?_
                 | refine CallW.use (hV) ?_
                 | refine CallW.use (hT) ?_
                 | refine CallW.use (hW) ?_
                 | ((refine MapG.mk _ hks hg ?_; conv => whnf))
                 | ((refine MapU.mk _ _ hks hU hUv ?_; conv => whnf))) <;> conv => whnf)
                refine LoopW.ren [0, 1, 2] (ih (j + 1) m (acc ++ [(s, x)]) (by omega) (hw.end_ j g2 (by rw [(isS_k h44).1]; decide)) (by omega) (by omega) g4 hal hnd' hstr' hR) (by repeat first | exact trivial | refine ⟨⟨rfl, VLe.refl _⟩, ?_⟩) (by repeat first | exact trivial | refine ⟨by decide, ?_⟩) rfl rfl
              | false =>
                rw [if_neg (by rw [h44]; decide)] at hR
                have hW := want_no (n := m) hatj hl h44
                refine LoopW.round (pol := polG) mixP ?_
                conv => whnf
                repeat' ((first
                 | ((with_reducible first | refine Br.dec ?_ ?_ | refine Br.ndec ?_ ?_) <;> intro hb <;> (try simp only [ZZ] at hb) <;> (first | omega | contradiction | skip))
                 | (with_reducible first | refine Br.tt rfl ?_ | refine Br.ff rfl ?_ | refine Br.ff (isEmptyCons _ _) ?_)
                 | ((with_reducible first | refine Side.mk ?_ ?_ | refine WrapW.mk ?_ ?_); focus (first | omega | (dsimp only [InR, Int.reduceToNat, IntKind.bits, Int.reducePow]; omega) | (simp [CC]; done) | (constructor <;> omega)))
                 | with_reducible refine Br.not ?_
                 | (with_reducible first | refine Br.tt (by assumption) ?_ | refine Br.ff (by assumption) ?_)
                 | (refine Br.mk ?_ ?_ <;> intro hb <;> (try simp only [ZZ] at hb) <;> (first | omega | contradiction | skip))
                 | refine Src.whole ⟨rfl, rfl⟩ ?_ | refine FrzV.whole ?_
                 | refine CallW.use (hW0) ?_
                 | refine CallW.use (hC) ?_
                 | refine CallW.use (hV) ?_
                 | refine CallW.use (hT) ?_
                 | refine CallW.use (hW) ?_
                 | ((refine MapG.mk _ hks hg ?_; conv => whnf))
                 | ((refine MapU.mk _ _ hks hU hUv ?_; conv => whnf))) <;> conv => whnf)
                · refine PostCl.of (hp _ _ hR.symm _) ?_ ?_
                  · repeat first | exact trivial | refine ⟨VLe.refl _, ?_⟩
                  · repeat first | exact trivial | refine ⟨by decide, ?_⟩
    · rw [if_pos hk] at hR
      generalize hwd : wdAt ws i = w at *
      obtain ⟨k, s, a⟩ := w
      simp only [] at hk
      refine LoopW.round (pol := polG) mixP ?_
      conv => whnf
      repeat' ((first
       | ((with_reducible first | refine Br.dec ?_ ?_ | refine Br.ndec ?_ ?_) <;> intro hb <;> (try simp only [ZZ] at hb) <;> (first | omega | contradiction | skip))
       | (with_reducible first | refine Br.tt rfl ?_ | refine Br.ff rfl ?_ | refine Br.ff (isEmptyCons _ _) ?_)
       | ((with_reducible first | refine Side.mk ?_ ?_ | refine WrapW.mk ?_ ?_); focus (first | omega | (dsimp only [InR, Int.reduceToNat, IntKind.bits, Int.reducePow]; omega) | (simp [CC]; done) | (constructor <;> omega)))
       | with_reducible refine Br.not ?_
       | (with_reducible first | refine Br.tt (by assumption) ?_ | refine Br.ff (by assumption) ?_)
       | (refine Br.mk ?_ ?_ <;> intro hb <;> (try simp only [ZZ] at hb) <;> (first | omega | contradiction | skip))
       | refine Src.whole ⟨rfl, rfl⟩ ?_ | refine FrzV.whole ?_
       | refine CallW.use (hW0) ?_
       | refine CallW.use (hF4) ?_) <;> conv => whnf)
      · refine PostCl.of (hp _ _ hR.symm _) ?_ ?_
        · repeat first | exact trivial | refine ⟨VLe.refl _, ?_⟩
        · repeat first | exact trivial | refine ⟨by decide, ?_⟩
theorem reader_pairs_step (ws : List Wd) (hw : WsOk ws) (q : Nat) (hv : ∀ p, p < q + 1 → ValAt ws p) : PairsAt ws (q + 1) := by
  intro d i n hi hq h0 h1 h2 h3
  have hat := (hw.at hi).1
  have hws := hw.len
  have hl : ws.length ≤ 1073741824 := by omega
  rw [pairsR]
  cases h93 : isS (wdAt ws i) [125] with
  | true =>
    rw [if_pos rfl]
    have hT := take_yes (n := n) hat hl h93
    have hM := jread_made [] (by simp) (by simp) (by simp)
    refine absCall_of (pol := polG) mixP F.jread_reader_pairs_is ?_
    conv => whnf
    repeat' ((first
     | ((with_reducible first | refine Br.dec ?_ ?_ | refine Br.ndec ?_ ?_) <;> intro hb <;> (try simp only [ZZ] at hb) <;> (first | omega | contradiction | skip))
     | (with_reducible first | refine Br.tt rfl ?_ | refine Br.ff rfl ?_ | refine Br.ff (isEmptyCons _ _) ?_)
     | ((with_reducible first | refine Side.mk ?_ ?_ | refine WrapW.mk ?_ ?_); focus (first | omega | (dsimp only [InR, Int.reduceToNat, IntKind.bits, Int.reducePow]; omega) | (simp [CC]; done) | (constructor <;> omega)))
     | with_reducible refine Br.not ?_
     | (with_reducible first | refine Br.tt (by assumption) ?_ | refine Br.ff (by assumption) ?_)
     | (refine Br.mk ?_ ?_ <;> intro hb <;> (try simp only [ZZ] at hb) <;> (first | omega | contradiction | skip))
     | refine Src.whole ⟨rfl, rfl⟩ ?_ | refine FrzV.whole ?_
     | refine CallW.use (hT) ?_
     | refine CallW.use (hM) ?_) <;> conv => whnf)
    exact CLe.refl _
  | false =>
    rw [if_neg (by decide)]
    have hT := take_no (n := n) hat hl h93
    have hlp := entries_loop ws hw q (fun r hr => hv r (by omega)) d h0 h1 (entriesR q ws d i n [])
    generalize hR : entriesR q ws d i n [] = R at *
    refine absCall_of (pol := polG) mixP F.jread_reader_pairs_is ?_
    conv => whnf
    repeat' ((first
     | ((with_reducible first | refine Br.dec ?_ ?_ | refine Br.ndec ?_ ?_) <;> intro hb <;> (try simp only [ZZ] at hb) <;> (first | omega | contradiction | skip))
     | (with_reducible first | refine Br.tt rfl ?_ | refine Br.ff rfl ?_ | refine Br.ff (isEmptyCons _ _) ?_)
     | ((with_reducible first | refine Side.mk ?_ ?_ | refine WrapW.mk ?_ ?_); focus (first | omega | (dsimp only [InR, Int.reduceToNat, IntKind.bits, Int.reducePow]; omega) | (simp [CC]; done) | (constructor <;> omega)))
     | with_reducible refine Br.not ?_
     | (with_reducible first | refine Br.tt (by assumption) ?_ | refine Br.ff (by assumption) ?_)
     | (refine Br.mk ?_ ?_ <;> intro hb <;> (try simp only [ZZ] at hb) <;> (first | omega | contradiction | skip))
     | refine Src.whole ⟨rfl, rfl⟩ ?_ | refine FrzV.whole ?_
     | refine CallW.use (hT) ?_) <;> conv => whnf)
    refine LoopW.cl ?_
    refine LoopW.ren [0, 1, 2] (hlp _ (fun t j m h H => ?_) (fun e a h H => ?_) q i n [] (Nat.le_refl _) hi (by omega) h2 h3 (by simpa using h2) (by simp) (by simp) hR) (by repeat first | exact trivial | refine ⟨⟨rfl, VLe.refl _⟩, ?_⟩) (by repeat first | exact trivial | refine ⟨by decide, ?_⟩) rfl rfl
    all_goals conv => whnf
    · subst h
      obtain ⟨x1, x2, x3, x4, x5⟩ := t
      exact CLe.refl _
    · subst h
      exact CLe.refl _
theorem reader_all (ws : List Wd) (hw : WsOk ws) : ∀ q, (∀ p, p < q + 1 → ValAt ws p) := by
  intro q
  induction q with
  | zero =>
    intro p hp d i n hi hq
    omega
  | succ q ih =>
    intro p hp
    rcases Nat.lt_or_ge p (q + 1) with h | h
    · exact ih p h
    · obtain rfl : p = q + 1 := by omega
      refine reader_value_step ws hw q ?_ ?_
      · rcases q with _ | q
        · intro d i n hi hq; omega
        · exact reader_list_step ws hw q fun p hp => ih p (by omega)
      · rcases q with _ | q
        · intro d i n hi hq; omega
        · exact reader_pairs_step ws hw q fun p hp => ih p (by omega)
theorem reader_value (ws : List Wd) (hw : WsOk ws) (q : Nat) : ValAt ws q := reader_all ws hw q q (by omega)
def seqL : Code → Code
  | .seq a _ => a
  | c => c
def seqR : Code → Code
  | .seq _ b => b
  | c => c
noncomputable abbrev whole_cl : Code := F.jread_whole_1_c.getD .skip
theorem cl_shape : ∃ o0 o1 : Oper, whole_cl = .seq (.region 0 #[o0, o1] false) (seqR whole_cl) ∧ o0.op = .call ⟨.builtin .recover, #[], #[]⟩ ∧ o0.dst = some 6 ∧ o0.guard = none ∧ o1.op = .assign (.tmp 6) ∧ o1.dst = some 3 ∧ o1.guard = none :=
  ⟨_, _, rfl, rfl, rfl, rfl, rfl, rfl, rfl⟩
theorem cl_run {B : Nat → Prop} {L : Am.Loc} {w : World} {vs : List Value} {H : Heap} (hst : St B L w H) (ha : VRelL B L w [.ptr 0 0, .ptr 1 0, .ptr 2 0] vs) (hg : GOk GG B w) (x : V) (y : Value) (hy : VRel B L w x y) (u u' : FrameMode)
    (hrec : ∀ (c₀ : Frame) (cs : List Frame), c₀.mode = u → recoverD (c₀ :: cs) = some (y, { c₀ with mode := u' } :: cs) ∨ (recoverD (c₀ :: cs) = none ∧ y = .nilIface ∧ u' = u))
    (K : Post) (hW : W PP GG polG 23 4 (seqR whole_cl) [(3, x), (6, x), (0, .ptr 0 0), (1, .ptr 1 0), (2, .ptr 2 0)] H [] K) (hK : ∀ ex σ H' mv', K ex σ H' mv' → ex = .normal ∧ mv' = []) :
    CallsD PP F.jread_whole_1 vs.toArray u w fun e u2 w' => (∃ r, e = .returned r) ∧ u2 = u' ∧ ∃ ex σ H' B' L', K ex σ H' [] ∧ FS 4 B L w H [] B' L' w' H' [] ∧ St B' L' w' H' := by
  obtain ⟨⟨fn, hfn, hbody, hnt, hrs, hname⟩, _, hok⟩ := F.jread_whole_1_is
  obtain ⟨o0, o1, hc, h0, hd0, hg0, h1, hd1, hg1⟩ := cl_shape
  refine callsD_of_wpS hfn hbody fun c₀ cs hm => ?_
  show whole_cl.wpS PP _ _ _ _
  have hargs : vs.length = 3 := ha.1.symm
  have he : ERel B L w (toEnv 23 [(0, .ptr 0 0), (1, .ptr 1 0), (2, .ptr 2 0)]) (vs.toArray ++ Array.replicate (fn.ntmps - vs.toArray.size) undef) := by
    have e : (vs.toArray ++ Array.replicate (fn.ntmps - vs.toArray.size) undef).toList = vs ++ List.replicate 20 undef := by
      rw [Array.toList_append, Array.toList_replicate, List.size_toArray, hargs, hnt]
    have e2 : toEnv 23 [(0, .ptr 0 0), (1, .ptr 1 0), (2, .ptr 2 0)] = [.ptr 0 0, .ptr 1 0, .ptr 2 0] ++ List.replicate 20 V.junk := rfl
    rw [e2]
    unfold ERel
    rw [e]
    refine ha.append ⟨by simp, fun i x y hx _ => ?_⟩
    rw [List.getElem?_replicate] at hx
    split at hx
    · cases hx; exact .junk _
    · cases hx
  generalize vs.toArray ++ Array.replicate (fn.ntmps - vs.toArray.size) undef = tmps at he
  -- what comes behind the recover
  have rest : ∀ cs', cs' = { c₀ with mode := u' } :: cs → ((seqR whole_cl).wpS PP (bodyPostS PP fn c₀ cs fun e u2 w' => (∃ r, e = .returned r) ∧ u2 = u' ∧ ∃ ex σ H' B' L', K ex σ H' [] ∧ FS 4 B L w H [] B' L' w' H' [] ∧ St B' L' w' H')
      ((({ tmps := tmps, defers := [] } : Act).put (some 6) y).put (some 3) y) cs' w) := by
    intro cs' hcs
    refine wpS_of_wp ?_
    have he1 := (he.put (a := { tmps := tmps, defers := [] }) (some 6) hy).put (a := ({ tmps := tmps, defers := [] } : Act).put (some 6) y) (some 3) hy
    simp only [putO, toEnv_set] at he1
    have hb : Bdd 23 ([(3, x), (6, x), (0, .ptr 0 0), (1, .ptr 1 0), (2, .ptr 2 0)] : Env) := BddL.bdd ⟨by decide, by decide, by decide, by decide, by decide, trivial⟩
    refine W_sound mixP _ hW hb hst he1 hg fun e a' w' hp => ?_
    obtain ⟨ex, σ1, H1, mv1, hK1, hb1, B1, L1, hfs, he2, hst1, hk1, hd1, hm1⟩ := hp
    obtain ⟨rfl, rfl⟩ := hK _ _ _ _ hK1
    cases e with
    | normal =>
      obtain ⟨v, hv, _⟩ := results_run (fr := ⟨toEnv 23 σ1, H1, 4, []⟩) (fn := fn) (vs := []) hst1 he2 (by rw [hrs]; rfl)
      exact ⟨hd1, u', hcs, v, hv, ⟨v, rfl⟩, rfl, _, _, _, B1, L1, hK1, hfs, hst1⟩
    | _ => exact hm1.elim
  rw [hc]
  refine wpS_seq (wpS_region ?_)
  have hl : List.range (#[o0, o1] : Array Oper).size = [0, 1] := rfl
  rw [hl]
  have hsz : tmps.size = 23 := by have := he.1; simp at this; rw [← this]; rfl
  have e0 : (execOp ({ tmps := tmps, defers := [] } : Act).eval o0).run PP w = .ok .recover w := by
    simp [execOp, h0, resolve, invoke, builtin, Result.andThen]
  have e1 : ∀ z : Value, (execOp (({ tmps := tmps, defers := [] } : Act).put (some 6) z).eval o1).run PP w = .ok (.value z) w := by
    intro z
    simp [execOp, h1, Act.eval, Act.put, Array.getD, hsz]
  have ho0 : (#[o0, o1] : Array Oper)[0]? = some o0 := rfl
  have ho1 : (#[o0, o1] : Array Oper)[1]? = some o1 := rfl
  rcases hrec c₀ cs hm with hr | ⟨hr, rfl, rfl⟩
  · simp only [wpOpsS, ho0, ho1, Region.wanted, hg0, hg1, if_true, e0, hr, hd0, e1, Oper.upon_value, hd1, Exit.thenS]
    exact rest _ rfl
  · simp only [wpOpsS, ho0, ho1, Region.wanted, hg0, hg1, if_true, e0, hr, hd0, e1, Oper.upon_value, hd1, Exit.thenS]
    exact rest _ (by rw [← hm])
def whH (t : Str) (v f : PV) (o : HO) : Heap := [.var T.string (.p (.str t)), .var T.api_Value (.p v), .var T.api_Fault (.p f), o]
def whE (t : Str) (v f : PV) : Post := fun ex _ H mv => ex = .normal ∧ mv = [] ∧ ∃ o, H = [.var T.string (.p (.str t)), .var T.api_Value (.p v), .var T.api_Fault (.p f), .dead, o]
theorem cl_none (t : Str) (v f : PV) {B : Nat → Prop} {L : Am.Loc} {w : World} {vs : List Value} (hst : St B L w (whH t v f .dead)) (ha : VRelL B L w [.ptr 0 0, .ptr 1 0, .ptr 2 0] vs) (hg : GOk GG B w) :
    CallsD PP F.jread_whole_1 vs.toArray .returning w fun e u2 w' => (∃ r, e = .returned r) ∧ u2 = .returning ∧ ∃ ex σ H' B' L', whE t v f ex σ H' [] ∧ FS 4 B L w (whH t v f .dead) [] B' L' w' H' [] ∧ St B' L' w' H' := by
  refine cl_run hst ha hg (.p .nili) .nilIface (.p _ _ .nili) .returning .returning (fun c₀ cs hm => .inr ⟨?_, rfl, rfl⟩) (whE t v f) ?_ (fun ex σ H' mv' h => ⟨h.1, h.2.1⟩)
  · simp [recoverD, hm]
  · unfold whH
    conv => whnf
    repeat' ((first
     | ((with_reducible first | refine Br.dec ?_ ?_ | refine Br.ndec ?_ ?_) <;> intro hb <;> (try simp only [ZZ] at hb) <;> (first | omega | contradiction | skip))
     | (with_reducible first | refine Br.tt rfl ?_ | refine Br.ff rfl ?_ | refine Br.ff (isEmptyCons _ _) ?_)
     | ((with_reducible first | refine Side.mk ?_ ?_ | refine WrapW.mk ?_ ?_); focus (first | omega | (dsimp only [InR, Int.reduceToNat, IntKind.bits, Int.reducePow]; omega) | (simp [CC]; done) | (constructor <;> omega)))
     | with_reducible refine Br.not ?_
     | (with_reducible first | refine Br.tt (by assumption) ?_ | refine Br.ff (by assumption) ?_)
     | (refine Br.mk ?_ ?_ <;> intro hb <;> (try simp only [ZZ] at hb) <;> (first | omega | contradiction | skip))
     | refine Src.whole ⟨rfl, rfl⟩ ?_ | refine FrzV.whole ?_) <;> conv => whnf)
    exact ⟨rfl, rfl, _, rfl⟩
theorem cl_some (t : Str) (ht : t.length ≤ 1073741824) (e a : Int) (ha0 : -1073741824 ≤ a ∧ a ≤ 1073741824) (a1 a2 a3 a4 a5 : PV) {B : Nat → Prop} {L : Am.Loc} {w : World} {vs : List Value} (hst : St B L w (whH t (.agg [a1, a2, a3, a4, a5]) noFault .dead)) (ha : VRelL B L w [.ptr 0 0, .ptr 1 0, .ptr 2 0] vs) (hg : GOk GG B w) (y : Value) (hy : VRel B L w (wrongP e a) y) :
    CallsD PP F.jread_whole_1 vs.toArray (.panicking [⟨y, false, false⟩]) w fun e' u2 w' => (∃ r, e' = .returned r) ∧ u2 = .panicking [⟨y, true, false⟩] ∧ ∃ ex σ H' B' L', whE t (.agg [.int .i64 0, .int .i64 0, .str [], .nils, .nils]) (faultP t a e) ex σ H' [] ∧ FS 4 B L w (whH t (.agg [a1, a2, a3, a4, a5]) noFault .dead) [] B' L' w' H' [] ∧ St B' L' w' H' := by
  have hF := place_Fault t a e ha0 ht
  refine cl_run hst ha hg (wrongP e a) y hy (.panicking [⟨y, false, false⟩]) (.panicking [⟨y, true, false⟩]) (fun c₀ cs hm => .inl ?_) (whE t (.agg [.int .i64 0, .int .i64 0, .str [], .nils, .nils]) (faultP t a e)) ?_ (fun ex σ H' mv' h => ⟨h.1, h.2.1⟩)
  · simp [recoverD, hm]
  · unfold whH noFault
    conv => whnf
    repeat' ((first
     | ((with_reducible first | refine Br.dec ?_ ?_ | refine Br.ndec ?_ ?_) <;> intro hb <;> (try simp only [ZZ] at hb) <;> (first | omega | contradiction | skip))
     | (with_reducible first | refine Br.tt rfl ?_ | refine Br.ff rfl ?_ | refine Br.ff (isEmptyCons _ _) ?_)
     | ((with_reducible first | refine Side.mk ?_ ?_ | refine WrapW.mk ?_ ?_); focus (first | omega | (dsimp only [InR, Int.reduceToNat, IntKind.bits, Int.reducePow]; omega) | (simp [CC]; done) | (constructor <;> omega)))
     | with_reducible refine Br.not ?_
     | (with_reducible first | refine Br.tt (by assumption) ?_ | refine Br.ff (by assumption) ?_)
     | (refine Br.mk ?_ ?_ <;> intro hb <;> (try simp only [ZZ] at hb) <;> (first | omega | contradiction | skip))
     | refine Src.whole ⟨rfl, rfl⟩ ?_ | refine FrzV.whole ?_
     | refine CallW.use (hF) ?_) <;> conv => whnf)
    exact ⟨rfl, rfl, _, rfl⟩
noncomputable abbrev whole_c : Code := F.jread_whole_c.getD .skip
theorem whole_shape : ∃ o0 o1 : Oper, whole_c = .seq (seqL whole_c) (.seq (.region 1 #[o0, o1] false) (seqR (seqR whole_c))) ∧ o0.op = .makeFunc (.func F.jread_whole_1) #[] #[.tmp 2, .tmp 4, .tmp 5] ∧ o0.dst = some 7 ∧ o0.guard = none ∧
    o1.op = .defer ⟨.value (.tmp 7), #[], #[]⟩ ∧ o1.dst = none ∧ o1.guard = none :=
  ⟨_, _, rfl, rfl, rfl, rfl, rfl, rfl, rfl⟩
theorem HLe.dead4 (a b c o : HO) : HLe [a, b, c, o] [a, b, c, .dead] := by
  refine ⟨fun n B L w h => ?_, fun n h => ?_, rfl⟩
  · rcases n with _ | _ | _ | _ | n
    · exact h
    · exact h
    · exact h
    · exact .dead
    · exact h
  · rcases n with _ | _ | _ | _ | n
    · exact h
    · exact h
    · exact h
    · exact h.elim
    · exact h
def zT : PV := .agg [.int .i64 0, .int .i64 0, .str [], .nils, .nils]
def whV : Option (Int × Int) → PV → PV
  | none, v => v
  | some _, _ => zT
def whF (t : Str) : Option (Int × Int) → PV → PV
  | none, f => f
  | some (e, a), _ => faultP t a e
def whX : Option (Int × Int) → Ex
  | none => .ret
  | some (e, a) => .pan (wrongP e a)
def whK (t : Str) (x : Option (Int × Int)) (v f : PV) : Post := fun ex σ H mv => mv = [] ∧ Am.look σ 4 = .ptr 1 0 ∧ Am.look σ 5 = .ptr 2 0 ∧ (∃ o, H = whH t v f o) ∧ ex = whX x
theorem ptr_env {B : Nat → Prop} {L : Am.Loc} {w : World} {tmps : Array Value} {σ : Env} (hb : Bdd 21 σ) (he : ERel B L w (toEnv 21 σ) tmps) (h4 : Am.look σ 4 = .ptr 1 0) (h5 : Am.look σ 5 = .ptr 2 0) {B' : Nat → Prop} {L' : Am.Loc} {w' : World}
    (h1 : L'.blk 1 = L.blk 1) (h2 : L'.blk 2 = L.blk 2) : ERel B' L' w' (toEnv 21 [(4, .ptr 1 0), (5, .ptr 2 0)]) tmps := by
  have hlen : tmps.toList.length = 21 := by have := he.1; rw [toEnv_length] at this; exact this.symm
  refine ⟨by rw [toEnv_length, hlen], fun i x y hx hy => ?_⟩
  have hi : i < 21 := by rw [← hlen]; exact (List.getElem?_eq_some_iff.1 hy).1
  rw [toEnv_get, if_pos hi] at hx
  cases hx
  have hv := he.2 i (Am.look σ i) y (by rw [toEnv_get, if_pos hi]) hy
  by_cases e4 : i = 4
  · subst e4
    rw [h4] at hv
    rw [show Am.look [(4, .ptr 1 0), (5, .ptr 2 0)] 4 = .ptr 1 0 from rfl]
    cases hv
    rw [← h1]
    exact .ptr 1 0
  · by_cases e5 : i = 5
    · subst e5
      rw [h5] at hv
      rw [show Am.look [(4, .ptr 1 0), (5, .ptr 2 0)] 5 = .ptr 2 0 from rfl]
      cases hv
      rw [← h2]
      exact .ptr 2 0
    · rw [look_cons, if_neg (by omega), look_cons, if_neg (by omega)]
      exact .junk _
theorem whole_W0 (t : Str) (l : List PV) : W PP GG polG 21 0 (seqL whole_c) [(0, .p (.str t)), (1, .p (.lst false l))] [] [] (fun ex σ H mv => ex = .normal ∧ σ = [(5, .ptr 2 0), (4, .ptr 1 0), (2, .ptr 0 0), (0, .p (.str t)), (1, .p (.lst false l))] ∧
      H = [.var T.string (.p (.str t)), .var T.api_Value (.p (.agg [.int .i64 0, .int .i64 0, .str [], .nils, .nils])), .var T.api_Fault (.p noFault)] ∧ mv = []) := by
  unfold noFault
  conv => whnf
  exact ⟨rfl, rfl, rfl, rfl⟩
theorem FS.k0 {k : Nat} {B B' : Nat → Prop} {L L' : Am.Loc} {w w' : World} {H H' : Heap} {mv mv' : List Nat} (h : FS k B L w H mv B' L' w' H' mv') : FS 0 B L w H mv B' L' w' H' mv' :=
  ⟨h.size, h.same, h.own, h.sub, h.keep, h.mvs, fun _ hn _ => absurd hn (Nat.not_lt_zero _), h.fresh⟩
theorem FS.nil {B B' : Nat → Prop} {L L' : Am.Loc} {w w' : World} {H H' : Heap} {mv mv' : List Nat} (h : FS 0 B L w H mv B' L' w' H' mv') : FS 0 B L w H mv B' L' w' [] mv' :=
  ⟨h.size, h.same, h.own, h.sub, h.keep, h.mvs, h.loc, fun n hn => by rw [Heap.at_nil] at hn; exact hn.elim⟩
theorem St.nil {B : Nat → Prop} {L : Am.Loc} {w : World} {H : Heap} (h : St B L w H) : St B L w [] :=
  ⟨fun n => by rw [Heap.at_nil]; exact .dead, fun n hn => by rw [Heap.at_nil] at hn; exact hn.elim, fun n m hn => by rw [Heap.at_nil] at hn; exact hn.elim, h.bnd⟩
theorem whole_of (t : Str) (ht : t.length ≤ 1073741824) (l : List PV) (x : Option (Int × Int)) (hx : ∀ e a, x = some (e, a) → -1073741824 ≤ a ∧ a ≤ 1073741824) (a1 a2 a3 a4 a5 b1 b2 b3 b4 : PV) (hf : ∀ e : Int × Int, x = some e → PV.agg [b1, b2, b3, b4] = noFault)
    (hW : W PP GG polG 21 3 (seqR (seqR whole_c)) [(7, .func (.func F.jread_whole_1) [.ptr 0 0, .ptr 1 0, .ptr 2 0]), (5, .ptr 2 0), (4, .ptr 1 0), (2, .ptr 0 0), (0, .p (.str t)), (1, .p (.lst false l))]
      [.var T.string (.p (.str t)), .var T.api_Value (.p (.agg [.int .i64 0, .int .i64 0, .str [], .nils, .nils])), .var T.api_Fault (.p noFault)] [] (whK t x (.agg [a1, a2, a3, a4, a5]) (.agg [b1, b2, b3, b4]))) :
    AbsCall PP GG F.jread_whole [.p (.str t), .p (.lst false l)] [] ⟨.ret (.tup [.p (whV x (.agg [a1, a2, a3, a4, a5])), .p (whF t x (.agg [b1, b2, b3, b4]))]), [], []⟩ := by
  obtain ⟨⟨fn, hfn, hbody, hnt, hrs, hname⟩, _, hok⟩ := F.jread_whole_is
  obtain ⟨⟨gn, hgn, hgbody, hgnt, hgrs, hgname⟩, _, hgok⟩ := F.jread_whole_1_is
  obtain ⟨o0, o1, hc, h0, hd0, hg0, h1, hd1, hg1⟩ := whole_shape
  intro B L w vs hst ha hg
  refine .inl ⟨enters hfn hname hbody _ w, calls_of_wp_defers hfn hbody ?_⟩
  show whole_c.wp PP _ _ _
  have hargs : vs.length = 2 := ha.1.symm
  have he : ERel B L w (toEnv 21 [(0, .p (.str t)), (1, .p (.lst false l))]) (vs.toArray ++ Array.replicate (fn.ntmps - vs.toArray.size) undef) := by
    have e : (vs.toArray ++ Array.replicate (fn.ntmps - vs.toArray.size) undef).toList = vs ++ List.replicate 19 undef := by
      rw [Array.toList_append, Array.toList_replicate, List.size_toArray, hargs, hnt]
    have e2 : toEnv 21 [(0, .p (.str t)), (1, .p (.lst false l))] = [.p (.str t), .p (.lst false l)] ++ List.replicate 19 V.junk := rfl
    rw [e2]
    unfold ERel
    rw [e]
    refine ha.append ⟨by simp, fun i x y hx _ => ?_⟩
    rw [List.getElem?_replicate] at hx
    split at hx
    · cases hx; exact .junk _
    · cases hx
  generalize vs.toArray ++ Array.replicate (fn.ntmps - vs.toArray.size) undef = tmps at he
  rw [hc]
  refine wp_seq ?_
  have hW0 := whole_W0 t l
  have hb0 : Bdd 21 ([(0, .p (.str t)), (1, .p (.lst false l))] : Env) := BddL.bdd ⟨by decide, by decide, trivial⟩
  refine W_sound mixP _ hW0 hb0 (a := { tmps := tmps, defers := [] }) hst he hg fun e a' w' hp => ?_
  obtain ⟨ex, σ1, H1, mv1, ⟨rfl, rfl, rfl, rfl⟩, hb1, B1, L1, hfs1, he1, hst1, hk1, hdf1, hm1⟩ := hp
  have hee : e = .normal := by cases e <;> first | rfl | exact hm1.elim
  subst hee
  show (Code.seq _ _).wp PP _ _ _
  refine wp_seq ?_
  refine wp_region ?_
  have hl : List.range (#[o0, o1] : Array Oper).size = [0, 1] := rfl
  rw [hl]
  have hsz : a'.tmps.size = 21 := by have := he1.1; rw [toEnv_length] at this; simpa using this.symm
  obtain ⟨cs, hcs⟩ : ∃ cs : List Value, cs = [a'.eval (.tmp 2), a'.eval (.tmp 4), a'.eval (.tmp 5)] := ⟨_, rfl⟩
  have hcaps : VRelL B1 L1 w' [.ptr 0 0, .ptr 1 0, .ptr 2 0] cs := by
    rw [hcs]
    exact VRelL.cons (he1.get 2) (VRelL.cons (he1.get 4) (VRelL.cons (he1.get 5) VRelL.nil))
  obtain ⟨Fv, hFv⟩ : ∃ Fv : Value, Fv = .func (.func F.jread_whole_1) #[] cs.toArray := ⟨_, rfl⟩
  have e0 : (execOp a'.eval o0).run PP w' = .ok (.value Fv) w' := by
    rw [hFv, hcs]
    simp [execOp, h0, Instr.makeFunc]
  have e1 : (execOp (a'.put (some 7) Fv).eval o1).run PP w' = .ok (.defer ⟨.fn (.func F.jread_whole_1) cs.toArray, #[]⟩) w' := by
    have hev : (a'.put (some 7) Fv).eval (.tmp 7) = Fv := by simp [Act.eval, Act.put, Array.getD, hsz]
    simp only [execOp, h1, resolve, Array.map_empty, hev]
    rw [hFv]
    rfl
  have ho0 : (#[o0, o1] : Array Oper)[0]? = some o0 := rfl
  have ho1 : (#[o0, o1] : Array Oper)[1]? = some o1 := rfl
  simp only [wpOps, ho0, ho1, Region.wanted, hg0, hg1, if_true, Oper.wp, e0, Oper.upon_value, hd0, e1, Oper.upon_defer, hd1]
  refine .inl (.inl ?_)
  have hFr : VRel B1 L1 w' (.func (.func F.jread_whole_1) [.ptr 0 0, .ptr 1 0, .ptr 2 0]) Fv := by
    rw [hFv]
    exact .func _ _ cs hcaps.1 hcaps.2
  have he2 := he1.put (a := a') (some 7) hFr
  simp only [putO, toEnv_set] at he2
  have hb2 : Bdd 21 ([(7, .func (.func F.jread_whole_1) [.ptr 0 0, .ptr 1 0, .ptr 2 0]), (5, .ptr 2 0), (4, .ptr 1 0), (2, .ptr 0 0), (0, .p (.str t)), (1, .p (.lst false l))] : Env) :=
    BddL.bdd ⟨by decide, by decide, by decide, by decide, by decide, by decide, trivial⟩
  have hg1' := hg.step (hfs1.step hst)
  refine W_sound mixP _ hW hb2 (a := { (a'.put (some 7) Fv) with defers := ⟨.fn (.func F.jread_whole_1) cs.toArray, #[]⟩ :: (a'.put (some 7) Fv).defers }) hst1 he2 hg1' fun e a'' w'' hp => ?_
  obtain ⟨ex, σ2, H2, mv2, ⟨rfl, hl4, hl5, ⟨o, rfl⟩, rfl⟩, hb3, B2, L2, hfs2, he3, hst2, hk2, hdf2, hm2⟩ := hp
  have hst2' : St B2 L2 w'' (whH t (.agg [a1, a2, a3, a4, a5]) (.agg [b1, b2, b3, b4]) .dead) := hst2.le (HLe.dead4 _ _ _ o)
  have hfs2' := hfs2.le (HLe.dead4 (.var T.string (.p (.str t))) (.var T.api_Value (.p (.agg [a1, a2, a3, a4, a5]))) (.var T.api_Fault (.p (.agg [b1, b2, b3, b4]))) o)
  have hg2 := hg1'.step (hfs2.step hst1)
  have ha' : VRelL B2 L2 w'' [.ptr 0 0, .ptr 1 0, .ptr 2 0] cs := by
    refine ⟨hcaps.1, fun i x y hx hy => ?_⟩
    refine ((hcaps.2 i x y hx hy).step (hfs2.step hst1)).loc fun n hn => ?_
    have hn3 : n < 3 := by
      rcases i with _ | _ | _ | i
      · cases hx; simp [V.names] at hn; omega
      · cases hx; simp [V.names] at hn; omega
      · cases hx; simp [V.names] at hn; omega
      · simp at hx
    exact hfs2.loc n hn3 (by simp)
  have hd : a''.defers = [⟨.fn (.func F.jread_whole_1) cs.toArray, #[]⟩] := by
    rw [hdf2]
    show _ :: (a'.put (some 7) Fv).defers = _
    rw [show (a'.put (some 7) Fv).defers = a'.defers from rfl, hdf1]
  have hinv : (invoke (.fn (.func F.jread_whole_1) cs.toArray) #[]).run PP w'' = .ok (.enter F.jread_whole_1 cs.toArray) w'' := by
    simp [invoke]
  have fin : ∀ (c1 c2 c3 c4 c5 d1 d2 d3 d4 : PV) (w3 : World) ex3 σ3 H3 B3 L3, whE t (.agg [c1, c2, c3, c4, c5]) (.agg [d1, d2, d3, d4]) ex3 σ3 H3 [] →
      FS 4 B2 L2 w'' (whH t (.agg [a1, a2, a3, a4, a5]) (.agg [b1, b2, b3, b4]) .dead) [] B3 L3 w3 H3 [] → St B3 L3 w3 H3 →
      ∃ vv, (results fn a''.tmps).run PP w3 = .ok vv w3 ∧ ∃ B' L', FS 0 B L w [] [] B' L' w3 [] [] ∧ St B' L' w3 [] ∧ VRel B' L' w3 (.tup [.p (.agg [c1, c2, c3, c4, c5]), .p (.agg [d1, d2, d3, d4])]) vv := by
    intro c1 c2 c3 c4 c5 d1 d2 d3 d4 w3 ex3 σ3 H3 B3 L3 hK3 hfs3 hst3
    obtain ⟨_, _, o3, rfl⟩ := hK3
    have he4 : ERel B3 L3 w3 (toEnv 21 [(4, .ptr 1 0), (5, .ptr 2 0)]) a''.tmps := ptr_env hb3 he3 hl4 hl5 (hfs3.loc 1 (by decide) (by simp)).1 (hfs3.loc 2 (by decide) (by simp)).1
    obtain ⟨vv, hvv, hr⟩ := results_run (P := PP) (fr := ⟨toEnv 21 [(4, .ptr 1 0), (5, .ptr 2 0)], _, 0, []⟩) (fn := fn) (vs := [.p (.agg [c1, c2, c3, c4, c5]), .p (.agg [d1, d2, d3, d4])]) hst3 he4 (by rw [hrs]; rfl)
    exact ⟨vv, hvv, B3, L3, FS.nil ((hfs1.trans (FS.k0 hfs2')).trans (FS.k0 hfs3)), St.nil hst3, hr⟩
  cases x with
  | none =>
    have hee : e = .ret := by cases e <;> first | rfl | exact hm2.elim
    subst hee
    show Leaves PP fn a''.tmps _ a''.defers .returning w''
    rw [hd]
    refine leaves_cons (by simp) hinv ((cl_none t _ _ hst2' ha' hg2).mono ?_)
    rintro e3 u3 w3 ⟨⟨r, rfl⟩, rfl, ex3, σ3, H3, B3, L3, hK3, hfs3, hst3⟩
    obtain ⟨vv, hvv, B', L', h1, h2, h3⟩ := fin _ _ _ _ _ _ _ _ _ w3 ex3 σ3 H3 B3 L3 hK3 hfs3 hst3
    exact ⟨vv, hvv, B', L', h1, h2, h3⟩
  | some ea =>
    obtain ⟨er, ar⟩ := ea
    have hbf := hf _ rfl
    obtain ⟨u, rfl, hu⟩ := ExMatch.pan_inv hm2
    show Leaves PP fn a''.tmps _ a''.defers (.panicking [⟨u, false, false⟩]) w''
    rw [hd]
    have hst2'' := hst2'
    rw [hbf] at hst2''
    refine leaves_cons (by simp) hinv ((cl_some t ht er ar (hx _ _ rfl) a1 a2 a3 a4 a5 hst2'' ha' hg2 u hu).mono ?_)
    rintro e3 u3 w3 ⟨⟨r, rfl⟩, rfl, ex3, σ3, H3, B3, L3, hK3, hfs3, hst3⟩
    rw [← hbf] at hfs3
    obtain ⟨vv, hvv, B', L', h1, h2, h3⟩ := fin _ _ _ _ _ _ _ _ _ w3 ex3 σ3 H3 B3 L3 hK3 hfs3 hst3
    exact ⟨vv, hvv, B', L', h1, h2, h3⟩
theorem tup_nils (f : PV) : VLe (.tup [.p zT, .p f]) (.tup [.p (Tree.mk 0 0 [] [] []).enc, .p f]) :=
  VLe.tup (show VLeL [.p zT, .p f] [.p (Tree.mk 0 0 [] [] []).enc, .p f] from ⟨tree_nils 0 0 [], VLe.refl _, trivial⟩)
theorem faultE_ne (t : Str) (e : Int × Int) (h : e.1 ≠ 0) : faultE t e = faultP t e.2 e.1 := by unfold faultE; rw [if_neg h]
theorem jread_whole (t : Str) (ht : t.length ≤ 1073741824) (ws : List Wd) (hw : WsOk ws) (hne : 0 < ws.length) :
    AbsCall PP GG F.jread_whole [.p (.str t), .p (.lst false (ws.map Wd.enc))] [] ⟨.ret (.tup [.p (wholeS ws).1.enc, .p (faultE t (wholeS ws).2)]), [], []⟩ := by
  have hV := reader_value ws hw (3 * ws.length + 1) 1 0 0 hne (by omega) (by omega) (by omega) (by omega) (by omega)
  have hok := (okR_all hw (3 * ws.length + 1)).1 1 0 0 hne
  have her := (errR_all hw (3 * ws.length + 1)).1 1 0 0 hne (by omega)
  have hws := hw.len
  unfold wholeS
  cases hr : valR (3 * ws.length + 1) ws 1 0 0 with
  | error e =>
    rw [hr] at hV her
    obtain ⟨e, a⟩ := e
    obtain ⟨h1, h2, h3⟩ := her
    simp only [] at h1 h2 h3
    dsimp only []
    rw [faultE_ne t (e, a) (by simp only []; omega)]
    refine (whole_of t ht (ws.map Wd.enc) (some (e, a)) (by rintro _ _ ⟨⟩; omega) (.int .i64 0) (.int .i64 0) (.str []) .nils .nils (.int .i64 0) (.int .i64 0) (.int .i64 0) (.int .i64 0) (fun _ _ => rfl) ?_).le (CLe.ret (tup_nils _))
    unfold noFault
    conv => whnf
    repeat' ((first
     | ((with_reducible first | refine Br.dec ?_ ?_ | refine Br.ndec ?_ ?_) <;> intro hb <;> (try simp only [ZZ] at hb) <;> (first | omega | contradiction | skip))
     | (with_reducible first | refine Br.tt rfl ?_ | refine Br.ff rfl ?_ | refine Br.ff (isEmptyCons _ _) ?_)
     | ((with_reducible first | refine Side.mk ?_ ?_ | refine WrapW.mk ?_ ?_); focus (first | omega | (dsimp only [InR, Int.reduceToNat, IntKind.bits, Int.reducePow]; omega) | (simp [CC]; done) | (constructor <;> omega)))
     | with_reducible refine Br.not ?_
     | (with_reducible first | refine Br.tt (by assumption) ?_ | refine Br.ff (by assumption) ?_)
     | (refine Br.mk ?_ ?_ <;> intro hb <;> (try simp only [ZZ] at hb) <;> (first | omega | contradiction | skip))
     | refine Src.whole ⟨rfl, rfl⟩ ?_ | refine FrzV.whole ?_
     | refine CallW.use (hV) ?_) <;> conv => whnf)
    exact ⟨rfl, rfl, rfl, ⟨_, rfl⟩, rfl⟩
  | ok x =>
    obtain ⟨v, j, m⟩ := x
    rw [hr] at hV hok
    obtain ⟨g1, g2, g3, g4⟩ := hok
    have hat := (hw.at g2).1
    have hW := reader_word ws j m _ hat (by omega)
    have hF := reader_failD ws j m 4 _ hat (by omega)
    have ha := hw.a j
    dsimp only []
    obtain ⟨x1, x2, x3, x4, x5⟩ := v
    by_cases hk : (wdAt ws j).k = 0
    · rw [if_pos hk]
      refine (whole_of t ht (ws.map Wd.enc) none (by simp) (.int .i64 x1) (.int .i64 x2) (.str x3) (.lst false (Tree.encL x4)) (.lst false (Tree.encM x5)) (.int .i64 0) (.int .i64 0) (.int .i64 0) (.int .i64 0) (fun _ _ => rfl) ?_)
      generalize wdAt ws j = w at *
      obtain ⟨k, s, a⟩ := w
      simp only [] at hk
      subst hk
      unfold noFault
      conv => whnf
      repeat' ((first
       | ((with_reducible first | refine Br.dec ?_ ?_ | refine Br.ndec ?_ ?_) <;> intro hb <;> (try simp only [ZZ] at hb) <;> (first | omega | contradiction | skip))
       | (with_reducible first | refine Br.tt rfl ?_ | refine Br.ff rfl ?_ | refine Br.ff (isEmptyCons _ _) ?_)
       | ((with_reducible first | refine Side.mk ?_ ?_ | refine WrapW.mk ?_ ?_); focus (first | omega | (dsimp only [InR, Int.reduceToNat, IntKind.bits, Int.reducePow]; omega) | (simp [CC]; done) | (constructor <;> omega)))
       | with_reducible refine Br.not ?_
       | (with_reducible first | refine Br.tt (by assumption) ?_ | refine Br.ff (by assumption) ?_)
       | (refine Br.mk ?_ ?_ <;> intro hb <;> (try simp only [ZZ] at hb) <;> (first | omega | contradiction | skip))
       | refine Src.whole ⟨rfl, rfl⟩ ?_ | refine FrzV.whole ?_
       | refine CallW.use (hV) ?_
       | refine CallW.use (hW) ?_) <;> conv => whnf)
      exact ⟨rfl, rfl, rfl, ⟨_, rfl⟩, rfl⟩
    · rw [if_neg hk]
      generalize wdAt ws j = w at *
      obtain ⟨k, s, a⟩ := w
      simp only [] at hk ha
      dsimp only []
      rw [faultE_ne t (4, a) (by simp)]
      refine (whole_of t ht (ws.map Wd.enc) (some (4, a)) (by rintro _ _ ⟨⟩; omega) (.int .i64 x1) (.int .i64 x2) (.str x3) (.lst false (Tree.encL x4)) (.lst false (Tree.encM x5)) (.int .i64 0) (.int .i64 0) (.int .i64 0) (.int .i64 0) (fun _ _ => rfl) ?_).le (CLe.ret (tup_nils _))
      unfold noFault
      conv => whnf
      repeat' ((first
       | ((with_reducible first | refine Br.dec ?_ ?_ | refine Br.ndec ?_ ?_) <;> intro hb <;> (try simp only [ZZ] at hb) <;> (first | omega | contradiction | skip))
       | (with_reducible first | refine Br.tt rfl ?_ | refine Br.ff rfl ?_ | refine Br.ff (isEmptyCons _ _) ?_)
       | ((with_reducible first | refine Side.mk ?_ ?_ | refine WrapW.mk ?_ ?_); focus (first | omega | (dsimp only [InR, Int.reduceToNat, IntKind.bits, Int.reducePow]; omega) | (simp [CC]; done) | (constructor <;> omega)))
       | with_reducible refine Br.not ?_
       | (with_reducible first | refine Br.tt (by assumption) ?_ | refine Br.ff (by assumption) ?_)
       | (refine Br.mk ?_ ?_ <;> intro hb <;> (try simp only [ZZ] at hb) <;> (first | omega | contradiction | skip))
       | refine Src.whole ⟨rfl, rfl⟩ ?_ | refine FrzV.whole ?_
       | refine CallW.use (hV) ?_
       | refine CallW.use (hW) ?_
       | refine CallW.use (hF) ?_) <;> conv => whnf)
      exact ⟨rfl, rfl, rfl, ⟨_, rfl⟩, rfl⟩
theorem jread_Parse (t : Str) (ht : t.length ≤ 1000000) : AbsCall PP GG F.jread_Parse [.p (.str t)] [] ⟨.ret (.tup [.p (parseS t).1.enc, .p (faultE t (parseS t).2)]), [], []⟩ := by
  have hC := jlex_Cut t ht
  unfold parseS
  by_cases h0 : (cutT t).2.1 = 0
  · rw [if_pos h0]
    have hw := cutT_ok t h0
    have hW := jread_whole t (by omega) _ hw (cutT_pos t h0)
    rw [show faultE t (cutT t).2 = noFault by unfold faultE; rw [if_pos h0]] at hC
    generalize (cutT t).1 = ws at *
    generalize wholeS ws = R at *
    obtain ⟨⟨x1, x2, x3, x4, x5⟩, e⟩ := R
    by_cases he : e.1 = 0
    · unfold faultE at hW ⊢
      rw [if_pos he] at hW ⊢
      refine absCall_of (pol := polG) mixP F.jread_Parse_is ?_
      conv => whnf
      repeat' ((first
       | ((with_reducible first | refine Br.dec ?_ ?_ | refine Br.ndec ?_ ?_) <;> intro hb <;> (try simp only [ZZ] at hb) <;> (first | omega | contradiction | skip))
       | (with_reducible first | refine Br.tt rfl ?_ | refine Br.ff rfl ?_ | refine Br.ff (isEmptyCons _ _) ?_)
       | ((with_reducible first | refine Side.mk ?_ ?_ | refine WrapW.mk ?_ ?_); focus (first | omega | (dsimp only [InR, Int.reduceToNat, IntKind.bits, Int.reducePow]; omega) | (simp [CC]; done) | (constructor <;> omega)))
       | with_reducible refine Br.not ?_
       | (with_reducible first | refine Br.tt (by assumption) ?_ | refine Br.ff (by assumption) ?_)
       | (refine Br.mk ?_ ?_ <;> intro hb <;> (try simp only [ZZ] at hb) <;> (first | omega | contradiction | skip))
       | refine Src.whole ⟨rfl, rfl⟩ ?_ | refine FrzV.whole ?_
       | refine CallW.use (hC) ?_
       | refine CallW.use (hW) ?_) <;> conv => whnf)
      exact CLe.eq rfl
    · unfold faultE at hW ⊢
      rw [if_neg he] at hW ⊢
      refine absCall_of (pol := polG) mixP F.jread_Parse_is ?_
      conv => whnf
      repeat' ((first
       | ((with_reducible first | refine Br.dec ?_ ?_ | refine Br.ndec ?_ ?_) <;> intro hb <;> (try simp only [ZZ] at hb) <;> (first | omega | contradiction | skip))
       | (with_reducible first | refine Br.tt rfl ?_ | refine Br.ff rfl ?_ | refine Br.ff (isEmptyCons _ _) ?_)
       | ((with_reducible first | refine Side.mk ?_ ?_ | refine WrapW.mk ?_ ?_); focus (first | omega | (dsimp only [InR, Int.reduceToNat, IntKind.bits, Int.reducePow]; omega) | (simp [CC]; done) | (constructor <;> omega)))
       | with_reducible refine Br.not ?_
       | (with_reducible first | refine Br.tt (by assumption) ?_ | refine Br.ff (by assumption) ?_)
       | (refine Br.mk ?_ ?_ <;> intro hb <;> (try simp only [ZZ] at hb) <;> (first | omega | contradiction | skip))
       | refine Src.whole ⟨rfl, rfl⟩ ?_ | refine FrzV.whole ?_
       | refine CallW.use (hC) ?_
       | refine CallW.use (hW) ?_) <;> conv => whnf)
      exact CLe.eq rfl
  · rw [if_neg h0]
    unfold faultE at hC ⊢
    rw [if_neg h0] at hC ⊢
    refine absCall_of (pol := polG) mixP F.jread_Parse_is ?_
    conv => whnf
    repeat' ((first
     | ((with_reducible first | refine Br.dec ?_ ?_ | refine Br.ndec ?_ ?_) <;> intro hb <;> (try simp only [ZZ] at hb) <;> (first | omega | contradiction | skip))
     | (with_reducible first | refine Br.tt rfl ?_ | refine Br.ff rfl ?_ | refine Br.ff (isEmptyCons _ _) ?_)
     | ((with_reducible first | refine Side.mk ?_ ?_ | refine WrapW.mk ?_ ?_); focus (first | omega | (dsimp only [InR, Int.reduceToNat, IntKind.bits, Int.reducePow]; omega) | (simp [CC]; done) | (constructor <;> omega)))
     | with_reducible refine Br.not ?_
     | (with_reducible first | refine Br.tt (by assumption) ?_ | refine Br.ff (by assumption) ?_)
     | (refine Br.mk ?_ ?_ <;> intro hb <;> (try simp only [ZZ] at hb) <;> (first | omega | contradiction | skip))
     | refine Src.whole ⟨rfl, rfl⟩ ?_ | refine FrzV.whole ?_
     | refine CallW.use (hC) ?_) <;> conv => whnf)
    exact CLe.ret (tup_nils _)
theorem jread_Valid (t : Str) (ht : t.length ≤ 1000000) : AbsCall PP GG F.jread_Valid [.p (.str t)] [] ⟨.ret (.p (.bool (decide ((parseS t).2.1 = 0)))), [], []⟩ := by
  have hP := jread_Parse t ht
  generalize parseS t = R at *
  obtain ⟨⟨x1, x2, x3, x4, x5⟩, e, a⟩ := R
  unfold faultE at hP
  dsimp only [] at hP
  by_cases he : e = 0
  · rw [if_pos he] at hP
    rw [decide_eq_true he]
    refine absCall_of (pol := polG) mixP F.jread_Valid_is ?_
    conv => whnf
    repeat' ((first
     | ((with_reducible first | refine Br.dec ?_ ?_ | refine Br.ndec ?_ ?_) <;> intro hb <;> (try simp only [ZZ] at hb) <;> (first | omega | contradiction | skip))
     | (with_reducible first | refine Br.tt rfl ?_ | refine Br.ff rfl ?_ | refine Br.ff (isEmptyCons _ _) ?_)
     | ((with_reducible first | refine Side.mk ?_ ?_ | refine WrapW.mk ?_ ?_); focus (first | omega | (dsimp only [InR, Int.reduceToNat, IntKind.bits, Int.reducePow]; omega) | (simp [CC]; done) | (constructor <;> omega)))
     | with_reducible refine Br.not ?_
     | (with_reducible first | refine Br.tt (by assumption) ?_ | refine Br.ff (by assumption) ?_)
     | (refine Br.mk ?_ ?_ <;> intro hb <;> (try simp only [ZZ] at hb) <;> (first | omega | contradiction | skip))
     | refine Src.whole ⟨rfl, rfl⟩ ?_ | refine FrzV.whole ?_
     | refine CallW.use (hP) ?_) <;> conv => whnf)
    exact CLe.eq rfl
  · rw [if_neg he] at hP
    rw [decide_eq_false he]
    refine absCall_of (pol := polG) mixP F.jread_Valid_is ?_
    conv => whnf
    repeat' ((first
     | ((with_reducible first | refine Br.dec ?_ ?_ | refine Br.ndec ?_ ?_) <;> intro hb <;> (try simp only [ZZ] at hb) <;> (first | omega | contradiction | skip))
     | (with_reducible first | refine Br.tt rfl ?_ | refine Br.ff rfl ?_ | refine Br.ff (isEmptyCons _ _) ?_)
     | ((with_reducible first | refine Side.mk ?_ ?_ | refine WrapW.mk ?_ ?_); focus (first | omega | (dsimp only [InR, Int.reduceToNat, IntKind.bits, Int.reducePow]; omega) | (simp [CC]; done) | (constructor <;> omega)))
     | with_reducible refine Br.not ?_
     | (with_reducible first | refine Br.tt (by assumption) ?_ | refine Br.ff (by assumption) ?_)
     | (refine Br.mk ?_ ?_ <;> intro hb <;> (try simp only [ZZ] at hb) <;> (first | omega | contradiction | skip))
     | refine Src.whole ⟨rfl, rfl⟩ ?_ | refine FrzV.whole ?_
     | refine CallW.use (hP) ?_) <;> conv => whnf)
    exact CLe.eq (by simp [he])
end Go.Proofs.YtoinkmogdfjmmaaGreatDoor
end

section
namespace Go.Am
open Go
abbrev jrw1 : Str := [123, 34, 98, 34, 58, 49, 44, 34, 97, 34, 58, 91, 93, 125]
theorem jrp1 : parseS jrw1 = (.mk 6 0 [] [] [([97], .mk 5 0 [] [] []), ([98], .mk 2 1 [] [] [])], 0, 0) := by kernel_rfl
theorem jrf1 : faultE jrw1 (0, 0) = noFault := by kernel_rfl
theorem jrp2 : parseS [91, 49, 44, 93] = (.mk 0 0 [] [] [], 4, 3) := by kernel_rfl
theorem jrf2 : faultE [91, 49, 44, 93] (4, 3) = .agg [.int .i64 4, .int .i64 3, .int .i64 1, .int .i64 4] := by kernel_rfl
theorem jrp3 : (parseS [110, 117, 108, 108]).2 = (0, 0) := by kernel_rfl
end Go.Am
namespace Go.Am
end Go.Am
end

section
namespace Go.Proofs.YtoinkmogdfjmmaaGreatDoor
open Go Go.Am Go.RowKit
set_option maxRecDepth 100000
noncomputable def faultFs : List Field := (structF PP T.api_Fault).getD []
theorem faultF : structF PP T.api_Fault = some faultFs := by kernel_rfl
theorem StructE.fault {a b c d a' b' c' d' : Int} {Q : Bool → Prop} (q : Q (decide (a = a') && (decide (b = b') && (decide (c = c') && (decide (d = d') && true))))) :
    StructE PP T.api_Fault [.int .i64 a, .int .i64 b, .int .i64 c, .int .i64 d] [.int .i64 a', .int .i64 b', .int .i64 c', .int .i64 d'] Q := .mk faultF (by kernel_rfl) q
theorem StructE.same {a b c d : Int} {Q : Bool → Prop} (q : Q true) : StructE PP T.api_Fault [.int .i64 a, .int .i64 b, .int .i64 c, .int .i64 d] [.int .i64 a, .int .i64 b, .int .i64 c, .int .i64 d] Q   := StructE.fault (by simpa using q)
theorem StructE.other {a b c d a' b' c' d' : Int} {Q : Bool → Prop} (h : ¬ a = a') (q : Q false) :
    StructE PP T.api_Fault [.int .i64 a, .int .i64 b, .int .i64 c, .int .i64 d] [.int .i64 a', .int .i64 b', .int .i64 c', .int .i64 d'] Q   := StructE.fault (by simpa [h] using q)
theorem ElemZ.litE {l : List PV} {i n : Nat} {K : PV → Prop} {d : PV} (h : l[i]? = some d) (hc : d.cells.length = n) (k : K d) : ElemZ l i n K := ⟨d, h, hc, k⟩
theorem law8_awake : AbsCall PP GG F.law8_awake [] [] ⟨.ret (.p (.bool true)), [], []⟩ := by
  have h1 := jread_Parse jrw1 (by decide)
  rw [jrp1, jrf1, Tree.enc_eta] at h1
  simp only [Tree.kind, Tree.n, Tree.s, Tree.l, Tree.m, Tree.encM, Tree.encL, Tree.encP, Tree.enc, PV.cells, noFault] at h1
  have h2 := jread_Parse [91, 49, 44, 93] (by decide)
  rw [jrp2, jrf2, Tree.enc_eta] at h2
  simp only [Tree.kind, Tree.n, Tree.s, Tree.l, Tree.m, Tree.encM, Tree.encL, Tree.encP, Tree.enc, PV.cells, noFault] at h2
  have h3 := jread_Valid [110, 117, 108, 108] (by decide)
  rw [jrp3] at h3
  rw [show decide (((0, 0) : Int × Int).1 = 0) = true from rfl] at h3
  have hlen2 : ∀ x y : PV, (([x, y] : List PV).length : Int) = 2 := fun _ _ => rfl
  refine absCall_of (pol := polG) mixP F.law8_awake_is ?_
  conv => whnf
  repeat' ((first
   | ((with_reducible first | refine Br.dec ?_ ?_ | refine Br.ndec ?_ ?_) <;> intro hb <;> (try simp only [And.intro @hlen2 (ZZ)] at hb) <;> (first | omega | skip))
   | (with_reducible first | refine Br.tt rfl ?_ | refine Br.ff rfl ?_ | refine Br.ff (isEmptyCons _ _) ?_)
   | ((with_reducible first | refine Side.mk ?_ ?_ | refine WrapW.mk ?_ ?_); focus (first | omega | (dsimp only [InR, Int.reduceToNat, IntKind.bits, Int.reducePow]; omega) | exact ⟨rfl, rfl⟩ | (simp [CC]; done) | (constructor <;> omega)))
   | (refine Br.mk ?_ ?_ <;> intro hb <;> (try simp only [And.intro @hlen2 (ZZ)] at hb) <;> (first | omega | skip))
   | refine Src.whole ⟨rfl, rfl⟩ ?_ | refine FrzV.whole ?_
   | refine CallW.use (h1) ?_
   | refine CallW.use (h2) ?_
   | refine CallW.use (h3) ?_
   | (refine StructE.same ?_)
   | (refine StructE.other (by decide) ?_)
   | (refine ElemZ.litE rfl rfl ?_)) <;> conv => whnf)
  all_goals first | exact CLe.retP rfl | exact absurd trivial (by assumption)
end Go.Proofs.YtoinkmogdfjmmaaGreatDoor
end

section
namespace Go.Am
open Go
inductive Vd : Str → Prop
  | nil : Vd []
  | step {c : UInt8} {cs : Str} (h : (utfTake (c :: cs)).2 ≠ 0) (r : Vd ((c :: cs).drop (stepN (c :: cs)))) : Vd (c :: cs)
theorem stepN_of {s : Str} (h : (utfTake s).2 ≠ 0) : stepN s = (utfTake s).2.toNat := by unfold stepN; have := utfTake_n s; omega
theorem vd_of_scan : ∀ (q : Nat) (s : Str), s.length ≤ q → (utfScan q s 0).2 = true → Vd s
  | _, [], _, _ => .nil
  | 0, c :: cs, h, _ => by simp at h
  | q + 1, c :: cs, h, hs => by
    obtain ⟨h0, h1⟩ := scan_cons hs
    have := stepN_pos (c :: cs)
    exact .step h0 (vd_of_scan q _ (by rw [List.length_drop]; simp only [List.length_cons] at h ⊢; omega) h1)
theorem scan_of_vd {s : Str} (h : Vd s) : ∀ (q : Nat) (p : Int), (utfScan q s p).2 = true := by
  induction h with
  | nil => intro q p; cases q <;> rfl
  | @step c cs h r ih =>
    intro q p
    cases q with
    | zero => rfl
    | succ q =>
      unfold utfScan
      simp only []
      rw [if_neg h, ← stepN_of h]
      exact ih q _
theorem vd_valid {s : Str} (h : (utfValid s).2 = true) : Vd s := vd_of_scan _ _ (Nat.le_refl _) h
theorem valid_vd {s : Str} (h : Vd s) : (utfValid s).2 = true := scan_of_vd h _ _
theorem vd_str {s : Str} (h : strOk s = true) : Vd s := by
  unfold strOk at h
  rw [Bool.and_eq_true] at h
  exact vd_valid h.2
theorem Vd.app {s r : Str} (h : Vd s) (g : Vd r) : Vd (s ++ r) := by
  induction h with
  | nil => exact g
  | @step c cs h0 _ ih =>
    have e := utfTake_app r h0
    rw [List.cons_append] at e ⊢
    have hle := stepN_le c cs
    have e2 : stepN (c :: (cs ++ r)) = stepN (c :: cs) := by unfold stepN; rw [e]
    refine .step (by rw [e]; exact h0) ?_
    rw [e2, ← List.cons_append, List.drop_append_of_le_length hle]
    exact ih
theorem vd_low {c : UInt8} {s : Str} (hc : c.toNat < 128) (h : Vd s) : Vd (c :: s) := by
  have e := take_low hc s
  refine .step (by rw [e]; simp) ?_
  have : stepN (c :: s) = 1 := by unfold stepN; rw [e]; rfl
  rw [this]
  exact h
theorem vd_asc {s : Str} (h : ∀ b ∈ s, b.toNat < 128) : Vd s := by
  induction s with
  | nil => exact .nil
  | cons c s ih => exact vd_low (h c (by simp)) (ih fun b hb => h b (by simp [hb]))
theorem vd_one {c : UInt8} {cs : Str} (h : (utfTake (c :: cs)).2 ≠ 0) : Vd ((c :: cs).take (stepN (c :: cs))) := by
  have hp := utfTake_pre c cs
  have h1 := stepN_pos (c :: cs)
  obtain ⟨m, hm⟩ : ∃ m, stepN (c :: cs) = m + 1 := ⟨stepN (c :: cs) - 1, by omega⟩
  rw [hm, List.take_succ_cons] at hp ⊢
  have hs : stepN (c :: cs.take m) = stepN (c :: cs) := by unfold stepN; rw [hp]
  refine .step (by rw [hp]; exact h) ?_
  rw [hs, hm, List.drop_eq_nil_of_le (by simp only [List.length_cons, List.length_take]; omega)]
  exact .nil
theorem vd_unit {c : UInt8} {cs : Str} (h : (utfTake (c :: cs)).2 ≠ 0) : Vd (unitL (c :: cs)) := by
  rcases unit_form c cs h with ⟨hc, _, e⟩ | ⟨_, e, _⟩
  · rw [e]
    refine vd_asc ?_
    have key : ∀ k : Nat, k < 128 → ∀ b ∈ q1 (UInt8.ofNat k), b.toNat < 128 := by decide +kernel
    have := key c.toNat hc
    rwa [u8_of] at this
  · rw [e]; exact vd_one h
theorem vd_quoteL {s : Str} (h : Vd s) : ∀ q, Vd (quoteL q s) := by
  induction h with
  | nil => intro q; cases q <;> exact .nil
  | @step c cs h0 _ ih =>
    intro q
    cases q with
    | zero => exact .nil
    | succ q => exact (vd_unit h0).app (ih q)
theorem vd_quote {s : Str} (h : strOk s = true) : Vd (quoteS s) := vd_low (c := 34) (by decide) ((vd_quoteL (vd_str h) _).app (vd_asc (by decide)))
theorem vd_nc {s : Str} (h : Nc s) : Vd s := vd_asc fun b hb => by
  have := h b hb
  unfold numCh at this
  have := of_decide_eq_true this
  omega
theorem vd_line (d : Int) : Vd (lineL d) := by
  refine vd_asc ?_
  unfold lineL
  split
  · simp
  · intro b hb
    rcases List.mem_cons.1 hb with rfl | hb
    · decide
    · have : ∀ n : Nat, ∀ b ∈ Lib.repeatL [32, 32] n, b = 32 := by
        intro n
        induction n with
        | zero => simp [Lib.repeatL]
        | succ n ih =>
          intro b hb
          rcases List.mem_append.1 (show b ∈ [32, 32] ++ Lib.repeatL [32, 32] n from hb) with hb | hb
          · simpa using hb
          · exact ih b hb
      rw [this _ b hb]; decide
theorem vd_colon (d : Int) : Vd (colonL d) := by
  refine vd_asc ?_
  unfold colonL
  split <;> decide
theorem vd_printL (d : Int) : ∀ (l : List Tree) (f : Bool), (∀ x ∈ l, ∀ d, Vd (printT x d)) → Vd (printL f l d)
  | [], _, _ => .nil
  | x :: l, f, h => by
    rw [printL]
    refine Vd.app ?_ ((vd_line d).app ((h x (by simp) d).app (vd_printL d l false fun y hy => h y (by simp [hy]))))
    split
    · exact .nil
    · exact vd_asc (by decide)
theorem vd_printM (d : Int) : ∀ (l : List (Str × Tree)) (f : Bool), (∀ x ∈ l, strOk x.1 = true ∧ ∀ d, Vd (printT x.2 d)) → Vd (printM f l d)
  | [], _, _ => .nil
  | (k, x) :: l, f, h => by
    obtain ⟨h1, h2⟩ := h (k, x) (by simp)
    rw [printM, printP]
    refine Vd.app ?_ ((vd_line d).app (((vd_quote h1).app ((vd_colon d).app (h2 d))).app (vd_printM d l false fun y hy => h y (by simp [hy]))))
    split
    · exact .nil
    · exact vd_asc (by decide)
theorem vd_print : ∀ t : Tree, goodT t = true → ∀ d, Vd (printT t d) := by
  refine Tree.ind fun t hl hm hg d => ?_
  obtain ⟨h1, h2, hr, gl, gm⟩ := goodT_spec hg
  rw [printT_eq]
  split
  · exact vd_asc (by decide)
  split
  · split <;> exact vd_asc (by decide)
  split
  · exact vd_nc (nc_itoa _)
  split
  · rename_i hk
    rw [hk] at h2
    unfold nodeOk at h2
    rw [if_neg (by omega), if_neg (by omega), if_pos rfl, Bool.and_eq_true] at h2
    exact vd_nc (nc_num h2.1)
  split
  · rename_i hk
    refine vd_quote ?_
    rcases hk with hk | hk
    · rw [hk] at h2
      unfold nodeOk at h2
      rwa [if_neg (by omega), if_neg (by omega), if_neg (by omega), if_pos rfl] at h2
    · rw [hk] at h2
      unfold nodeOk at h2
      rw [if_neg (by omega), if_neg (by omega), if_neg (by omega), if_neg (by omega), if_pos rfl] at h2
      exact stamp_str h2
  split
  · split
    · exact vd_asc (by decide)
    · exact vd_low (by decide) ((vd_printM _ _ _ fun x hx => ⟨(gm x hx).1, hm x hx (gm x hx).2⟩).app ((vd_line d).app (vd_asc (by decide))))
  · split
    · exact vd_asc (by decide)
    · exact vd_low (by decide) ((vd_printL _ _ _ fun x hx => hl x hx (gl x hx)).app ((vd_line d).app (vd_asc (by decide))))
theorem Ge.le {n m : Nat} {s : Str} (h : Ge n s) (hm : m ≤ n) : Ge m s := fun b hb => Nat.le_trans hm (h b hb)
theorem cut_lexes {t : Str} {ws : List (Int × Str)} (hv : (utfValid t).2 = true) (hlen : t.length ≤ 65536) (hx : Lexes (skipB t) ws) : ∃ l : List Wd, l.map kp = ws ∧ cutT t = (l ++ [⟨0, [], t.length⟩], 0, 0) := by
  have hj : judgeS t = (0, 0) := by
    unfold judgeS
    rw [if_neg (by omega), if_neg (by rw [hv]; decide)]
  obtain ⟨l, hc, hl⟩ := cutL_lexes hx (t.length + 1) t (whileL t blanksB) [] (skip_drop t) (whileL_le _ _) (by omega)
  refine ⟨l, hl, ?_⟩
  unfold cutT
  rw [hj, if_neg (by decide), hc, if_neg (by simp), List.nil_append]
theorem parse_whole {t : Str} {l : List Wd} (hc : cutT t = (l ++ [⟨0, [], t.length⟩], 0, 0)) {x : Tree} {m : Int} (hr : valR (3 * (l.length + 1) + 1) (l ++ [⟨0, [], t.length⟩]) 1 0 0 = .ok (x, l.length, m)) :
    parseS t = (x, 0, 0) := by
  unfold parseS
  rw [hc, if_pos rfl]
  unfold wholeS
  rw [List.length_append, List.length_singleton, hr]
  simp only []
  have hat : wdAt (l ++ [(⟨0, [], t.length⟩ : Wd)]) l.length = ⟨0, [], t.length⟩ := by
    unfold wdAt
    simp
  rw [hat, if_pos rfl]
end Go.Am
end

section
namespace Go.Proofs.YtoinkmogdfjmmaaGreatDoor
open Go Go.Am Go.RowKit
set_option maxRecDepth 100000
end Go.Proofs.YtoinkmogdfjmmaaGreatDoor
end

section
namespace Go.Proofs.YtoinkmogdfjmmaaGreatDoor
open Go Go.Am
set_option maxRecDepth 100000
end Go.Proofs.YtoinkmogdfjmmaaGreatDoor
end

section
namespace Go.Am
open Go
end Go.Am
end

section
namespace Go.Proofs.YtoinkmogdfjmmaaGreatDoor
open Go Go.Am Go.RowKit
set_option maxRecDepth 100000
end Go.Proofs.YtoinkmogdfjmmaaGreatDoor
end

section
namespace Go.Proofs.YtoinkmogdfjmmaaGreatDoor
open Go Go.Am
set_option maxRecDepth 100000
end Go.Proofs.YtoinkmogdfjmmaaGreatDoor
end

section
namespace Go.Am
mutual
def sameT : Tree → Tree → Bool
  | .mk k n s l m, .mk k' n' s' l' m' => decide (k = k' ∧ n = n' ∧ l.length = l'.length ∧ m.length = m'.length ∧ s = s') && (sameL l l' && sameM m m')
def sameL : List Tree → List Tree → Bool
  | [], [] => true
  | t :: l, u :: l' => sameT t u && sameL l l'
  | _, _ => false
def sameM : List (Str × Tree) → List (Str × Tree) → Bool
  | [], [] => true
  | p :: m, p' :: m' => sameP p p' && sameM m m'
  | _, _ => false
def sameP : Str × Tree → Str × Tree → Bool
  | (k, t), (k', t') => decide (k = k') && sameT t t'
end
theorem sameT_eq (t u : Tree) : sameT t u = (decide (t.kind = u.kind ∧ t.n = u.n ∧ t.l.length = u.l.length ∧ t.m.length = u.m.length ∧ t.s = u.s) && (sameL t.l u.l && sameM t.m u.m)) := by
  cases t; cases u; rw [sameT]; rfl
theorem sameL_iff : ∀ (l l' : List Tree), (∀ x ∈ l, ∀ u, sameT x u = true ↔ x = u) → (sameL l l' = true ↔ l = l')
  | [], [], _ => by simp [sameL]
  | [], _ :: _, _ => by simp [sameL]
  | _ :: _, [], _ => by simp [sameL]
  | x :: l, y :: l', h => by
    rw [sameL, Bool.and_eq_true, h x (by simp), sameL_iff l l' (fun x hx => h x (by simp [hx]))]
    simp
theorem sameM_iff : ∀ (l l' : List (Str × Tree)), (∀ x ∈ l, ∀ u, sameT x.2 u = true ↔ x.2 = u) → (sameM l l' = true ↔ l = l')
  | [], [], _ => by simp [sameM]
  | [], _ :: _, _ => by simp [sameM]
  | _ :: _, [], _ => by simp [sameM]
  | (k, x) :: l, (k', y) :: l', h => by
    have h1 := h (k, x) (by simp)
    simp only [] at h1
    rw [sameM, sameP, Bool.and_eq_true, Bool.and_eq_true, decide_eq_true_eq, h1, sameM_iff l l' (fun x hx => h x (by simp [hx]))]
    simp
theorem sameT_iff : ∀ (t u : Tree), sameT t u = true ↔ t = u := by
  refine Tree.ind fun t hl hm u => ?_
  rw [sameT_eq, Bool.and_eq_true, Bool.and_eq_true, sameL_iff _ _ hl, sameM_iff _ _ hm, decide_eq_true_eq]
  constructor
  · rintro ⟨⟨h1, h2, _, _, h3⟩, h4, h5⟩
    rw [t.eta, u.eta, h1, h2, h3, h4, h5]
  · rintro rfl
    exact ⟨⟨rfl, rfl, rfl, rfl, rfl⟩, rfl, rfl⟩
end Go.Am
end

section
namespace Go.Proofs.YtoinkmogdfjmmaaGreatDoor
open Go Go.Am
set_option maxRecDepth 100000
def SameIs (t : Tree) : Prop := ∀ u : Tree, u.wt ≤ 4000000 → AbsCall PP GG F.ref1_Same [.p t.enc, .p u.enc, .p (.bool false)] [] ⟨.ret (.p (.bool (sameT t u))), [], []⟩
theorem same_loopL (t u : Tree) (hw : t.wt ≤ 4000000) (hu : u.wt ≤ 4000000) (hlen : t.l.length = u.l.length) (R : Bool) (K : Post) (hl : ∀ x ∈ t.l, SameIs x)
    (h0 : R = true → K (.exit 0) [(2, .p (.bool false)), (3, .ptr 0 0), (4, .ptr 1 0)] [.var T.api_Value (.p t.enc), .var T.api_Value (.p u.enc)] [])
    (hr : R = false → K .ret [(6, .p (.bool false))] [.var T.api_Value (.p t.enc), .var T.api_Value (.p u.enc)] []) :
    ∀ (q i : Nat), i + q = t.l.length → sameL (t.l.drop i) (u.l.drop i) = R →
      LoopW PP GG 118 0 (loopN F.ref1_Same_c 0) [(2, .p (.bool false)), (3, .ptr 0 0), (4, .ptr 1 0), (7, .p (.int .i64 i))] [.var T.api_Value (.p t.enc), .var T.api_Value (.p u.enc)] [] (PostCl 118 K) := by
  rw [Tree.enc_eta t, Tree.enc_eta u] at h0 hr ⊢
  have hwl := t.wt_ll
  have hel : (Tree.encL t.l).length = t.l.length := Tree.encL_length _
  intro q
  induction q with
  | zero =>
    intro i hi hR
    rw [List.drop_eq_nil_of_le (by omega), List.drop_eq_nil_of_le (by omega), sameL] at hR
    refine LoopW.round (pol := polG) mixP ?_
    conv => whnf
    repeat' ((first
     | ((with_reducible first | refine Br.dec ?_ ?_ | refine Br.ndec ?_ ?_) <;> intro hb <;> (try simp only [And.intro @hel (ZZ)] at hb) <;> (first | omega | contradiction | skip))
     | (with_reducible first | refine Br.tt rfl ?_ | refine Br.ff rfl ?_ | refine Br.ff (isEmptyCons _ _) ?_)
     | ((with_reducible first | refine Side.mk ?_ ?_ | refine WrapW.mk ?_ ?_); focus (first | omega | (dsimp only [InR, Int.reduceToNat, IntKind.bits, Int.reducePow]; omega) | (simp [CC]; done) | (constructor <;> omega)))
     | with_reducible refine Br.not ?_
     | (with_reducible first | refine Br.tt (by assumption) ?_ | refine Br.ff (by assumption) ?_)
     | (refine Br.mk ?_ ?_ <;> intro hb <;> (try simp only [And.intro @hel (ZZ)] at hb) <;> (first | omega | contradiction | skip))
     | refine Src.whole ⟨rfl, rfl⟩ ?_ | refine FrzV.whole ?_) <;> conv => whnf)
    · refine PostCl.of (h0 hR.symm) ?_ ?_
      · repeat first | exact trivial | refine ⟨VLe.refl _, ?_⟩
      · repeat first | exact trivial | refine ⟨by decide, ?_⟩
  | succ q ih =>
    intro i hi hR
    obtain ⟨x, hx⟩ : ∃ x, t.l[i]? = some x := ⟨_, List.getElem?_eq_getElem (show i < t.l.length by omega)⟩
    obtain ⟨y, hy⟩ : ∃ y, u.l[i]? = some y := ⟨_, List.getElem?_eq_getElem (show i < u.l.length by omega)⟩
    rw [drop_cons hx, drop_cons hy, sameL] at hR
    have hxm : x ∈ t.l := List.mem_of_getElem? hx
    have hym := Tree.wt_l (List.mem_of_getElem? hy)
    have hsp := hl x hxm y (by omega)
    rw [Tree.enc_eta x, Tree.enc_eta y] at hsp
    refine LoopW.round (pol := polG) mixP ?_
    conv => whnf
    repeat' ((first
     | ((with_reducible first | refine Br.dec ?_ ?_ | refine Br.ndec ?_ ?_) <;> intro hb <;> (try simp only [And.intro @hel (ZZ)] at hb) <;> (first | omega | contradiction | skip))
     | (with_reducible first | refine Br.tt rfl ?_ | refine Br.ff rfl ?_ | refine Br.ff (isEmptyCons _ _) ?_)
     | ((with_reducible first | refine Side.mk ?_ ?_ | refine WrapW.mk ?_ ?_); focus (first | omega | (dsimp only [InR, Int.reduceToNat, IntKind.bits, Int.reducePow]; omega) | exact ⟨rfl, rfl⟩ | (simp [CC]; done) | (constructor <;> omega)))
     | with_reducible refine Br.not ?_
     | (with_reducible first | refine Br.tt (by assumption) ?_ | refine Br.ff (by assumption) ?_)
     | (refine Br.mk ?_ ?_ <;> intro hb <;> (try simp only [And.intro @hel (ZZ)] at hb) <;> (first | omega | contradiction | skip))
     | refine Src.whole ⟨rfl, rfl⟩ ?_ | refine FrzV.whole ?_
     | refine CallW.use (hsp) ?_
     | (refine ElemZ.tree (l := t.l) (by simpa using hx) ?_; (rw [Tree.enc_eta x]; conv => whnf))
     | (refine ElemZ.tree (l := u.l) (by simpa using hy) ?_; (rw [Tree.enc_eta y]; conv => whnf))) <;> conv => whnf)
    · rw [hb, Bool.true_and] at hR
      refine LoopW.sub (ih (i + 1) (by omega) hR) (by repeat first | exact trivial | refine ⟨VLe.refl _, ?_⟩) (by repeat first | exact trivial | refine ⟨by decide, ?_⟩)
    · rw [hb, Bool.false_and] at hR
      refine PostCl.of (hr hR.symm) ?_ ?_
      · repeat first | exact trivial | refine ⟨VLe.refl _, ?_⟩
      · repeat first | exact trivial | refine ⟨by decide, ?_⟩
theorem same_loopM (t u : Tree) (hw : t.wt ≤ 4000000) (hu : u.wt ≤ 4000000) (hlen : t.m.length = u.m.length) (R : Bool) (K : Post) (hl : ∀ x ∈ t.m, SameIs x.2)
    (h0 : R = true → K (.exit 2) [] [.var T.api_Value (.p t.enc), .var T.api_Value (.p u.enc)] [])
    (hr : R = false → K .ret [(6, .p (.bool false))] [.var T.api_Value (.p t.enc), .var T.api_Value (.p u.enc)] []) :
    ∀ (q i : Nat), i + q = t.m.length → sameM (t.m.drop i) (u.m.drop i) = R →
      LoopW PP GG 118 0 (loopN F.ref1_Same_c 1) [(2, .p (.bool false)), (3, .ptr 0 0), (4, .ptr 1 0), (8, .p (.int .i64 i))] [.var T.api_Value (.p t.enc), .var T.api_Value (.p u.enc)] [] (PostCl 118 K) := by
  rw [Tree.enc_eta t, Tree.enc_eta u] at h0 hr ⊢
  have hwl := t.wt_ml
  have hel : (Tree.encM t.m).length = t.m.length := Tree.encM_length _
  intro q
  induction q with
  | zero =>
    intro i hi hR
    rw [List.drop_eq_nil_of_le (by omega), List.drop_eq_nil_of_le (by omega), sameM] at hR
    refine LoopW.round (pol := polG) mixP ?_
    conv => whnf
    repeat' ((first
     | ((with_reducible first | refine Br.dec ?_ ?_ | refine Br.ndec ?_ ?_) <;> intro hb <;> (try simp only [And.intro @hel (ZZ)] at hb) <;> (first | omega | contradiction | skip))
     | (with_reducible first | refine Br.tt rfl ?_ | refine Br.ff rfl ?_ | refine Br.ff (isEmptyCons _ _) ?_)
     | ((with_reducible first | refine Side.mk ?_ ?_ | refine WrapW.mk ?_ ?_); focus (first | omega | (dsimp only [InR, Int.reduceToNat, IntKind.bits, Int.reducePow]; omega) | (simp [CC]; done) | (constructor <;> omega)))
     | with_reducible refine Br.not ?_
     | (with_reducible first | refine Br.tt (by assumption) ?_ | refine Br.ff (by assumption) ?_)
     | (refine Br.mk ?_ ?_ <;> intro hb <;> (try simp only [And.intro @hel (ZZ)] at hb) <;> (first | omega | contradiction | skip))
     | refine Src.whole ⟨rfl, rfl⟩ ?_ | refine FrzV.whole ?_) <;> conv => whnf)
    · refine PostCl.of (h0 hR.symm) ?_ ?_
      · repeat first | exact trivial | refine ⟨VLe.refl _, ?_⟩
      · repeat first | exact trivial | refine ⟨by decide, ?_⟩
  | succ q ih =>
    intro i hi hR
    obtain ⟨x, hx⟩ : ∃ x, t.m[i]? = some x := ⟨_, List.getElem?_eq_getElem (show i < t.m.length by omega)⟩
    obtain ⟨y, hy⟩ : ∃ y, u.m[i]? = some y := ⟨_, List.getElem?_eq_getElem (show i < u.m.length by omega)⟩
    rw [drop_cons hx, drop_cons hy, sameM] at hR
    have hxm : x ∈ t.m := List.mem_of_getElem? hx
    have hym := Tree.wt_m (List.mem_of_getElem? hy)
    have hsp := hl x hxm y.2 (by omega)
    obtain ⟨k, x⟩ := x
    obtain ⟨k', y⟩ := y
    rw [sameP] at hR
    simp only [] at hsp
    rw [Tree.enc_eta x, Tree.enc_eta y] at hsp
    by_cases hk : k = k'
    · rw [decide_eq_true hk, Bool.true_and] at hR
      refine LoopW.round (pol := polG) mixP ?_
      conv => whnf
      repeat' ((first
       | ((with_reducible first | refine Br.dec ?_ ?_ | refine Br.ndec ?_ ?_) <;> intro hb <;> (try simp only [And.intro @hel (ZZ)] at hb) <;> (first | omega | contradiction | skip))
       | (with_reducible first | refine Br.tt rfl ?_ | refine Br.ff rfl ?_ | refine Br.ff (isEmptyCons _ _) ?_)
       | ((with_reducible first | refine Side.mk ?_ ?_ | refine WrapW.mk ?_ ?_); focus (first | omega | (dsimp only [InR, Int.reduceToNat, IntKind.bits, Int.reducePow]; omega) | exact ⟨rfl, rfl⟩ | (simp [CC]; done) | (constructor <;> omega)))
       | with_reducible refine Br.not ?_
       | (with_reducible first | refine Br.tt (by assumption) ?_ | refine Br.ff (by assumption) ?_)
       | (refine Br.mk ?_ ?_ <;> intro hb <;> (try simp only [And.intro @hel (ZZ)] at hb) <;> (first | omega | contradiction | skip))
       | refine Src.whole ⟨rfl, rfl⟩ ?_ | refine FrzV.whole ?_
       | refine CallW.use (hsp) ?_
       | (refine TabsW.lit F.ref1_Same_t13 (by kernel_rfl) ?_)
       | (refine ElemZ.pairE (m := t.m) (k := k) (y := x) (by simpa using hx) ?_)
       | (refine ElemZ.pairE (m := u.m) (k := k') (y := y) (by simpa using hy) ?_)) <;> conv => whnf)
      · rw [hb, Bool.true_and] at hR
        refine LoopW.sub (ih (i + 1) (by omega) hR) (by repeat first | exact trivial | refine ⟨VLe.refl _, ?_⟩) (by repeat first | exact trivial | refine ⟨by decide, ?_⟩)
      · rw [hb, Bool.false_and] at hR
        refine PostCl.of (hr hR.symm) ?_ ?_
        · repeat first | exact trivial | refine ⟨VLe.refl _, ?_⟩
        · repeat first | exact trivial | refine ⟨by decide, ?_⟩
    · rw [decide_eq_false hk, Bool.false_and, Bool.false_and] at hR
      refine LoopW.round (pol := polG) mixP ?_
      conv => whnf
      repeat' ((first
       | ((with_reducible first | refine Br.dec ?_ ?_ | refine Br.ndec ?_ ?_) <;> intro hb <;> (try simp only [And.intro @hel (ZZ)] at hb) <;> (first | omega | contradiction | skip))
       | (with_reducible first | refine Br.tt rfl ?_ | refine Br.ff rfl ?_ | refine Br.ff (isEmptyCons _ _) ?_)
       | ((with_reducible first | refine Side.mk ?_ ?_ | refine WrapW.mk ?_ ?_); focus (first | omega | (dsimp only [InR, Int.reduceToNat, IntKind.bits, Int.reducePow]; omega) | exact ⟨rfl, rfl⟩ | (simp [CC]; done) | (constructor <;> omega)))
       | with_reducible refine Br.not ?_
       | (with_reducible first | refine Br.tt (by assumption) ?_ | refine Br.ff (by assumption) ?_)
       | (refine Br.mk ?_ ?_ <;> intro hb <;> (try simp only [And.intro @hel (ZZ)] at hb) <;> (first | omega | contradiction | skip))
       | refine Src.whole ⟨rfl, rfl⟩ ?_ | refine FrzV.whole ?_
       | refine CallW.use (hsp) ?_
       | (refine TabsW.lit F.ref1_Same_t13 (by kernel_rfl) ?_)
       | (refine ElemZ.pairE (m := t.m) (k := k) (y := x) (by simpa using hx) ?_)
       | (refine ElemZ.pairE (m := u.m) (k := k') (y := y) (by simpa using hy) ?_)) <;> conv => whnf)
      refine PostCl.of (hr hR.symm) ?_ ?_
      · repeat first | exact trivial | refine ⟨VLe.refl _, ?_⟩
      · repeat first | exact trivial | refine ⟨by decide, ?_⟩
theorem ref1_Same : ∀ t : Tree, t.wt ≤ 4000000 → SameIs t := by
  refine Tree.indW fun t hw hl hm u hu => ?_
  have hS := sameT_eq t u
  have hlL := same_loopL t u hw hu
  have hlM := same_loopM t u hw hu
  have hel : (Tree.encL t.l).length = t.l.length := Tree.encL_length _
  have hem : (Tree.encM t.m).length = t.m.length := Tree.encM_length _
  have hel2 : (Tree.encL u.l).length = u.l.length := Tree.encL_length _
  have hem2 : (Tree.encM u.m).length = u.m.length := Tree.encM_length _
  generalize sameT t u = R at hS ⊢
  rw [Tree.enc_eta t, Tree.enc_eta u] at hlL hlM ⊢
  by_cases hc : t.kind = u.kind ∧ t.n = u.n ∧ t.l.length = u.l.length ∧ t.m.length = u.m.length ∧ t.s = u.s
  · rw [decide_eq_true hc, Bool.true_and] at hS
    obtain ⟨h1, h2, h3, h4, h5⟩ := hc
    refine absCall_of (pol := polG) mixP F.ref1_Same_is ?_
    conv => whnf
    repeat' ((first
     | ((with_reducible first | refine Br.dec ?_ ?_ | refine Br.ndec ?_ ?_) <;> intro hb <;> (try simp only [And.intro @hel (And.intro @hem (And.intro @hel2 (And.intro @hem2 (ZZ))))] at hb) <;> (first | omega | contradiction | skip))
     | (with_reducible first | refine Br.tt rfl ?_ | refine Br.ff rfl ?_ | refine Br.ff (isEmptyCons _ _) ?_)
     | ((with_reducible first | refine Side.mk ?_ ?_ | refine WrapW.mk ?_ ?_); focus (first | omega | (dsimp only [InR, Int.reduceToNat, IntKind.bits, Int.reducePow]; omega) | (simp [CC]; done) | (constructor <;> omega)))
     | with_reducible refine Br.not ?_
     | (with_reducible first | refine Br.tt (by assumption) ?_ | refine Br.ff (by assumption) ?_)
     | (refine Br.mk ?_ ?_ <;> intro hb <;> (try simp only [And.intro @hel (And.intro @hem (And.intro @hel2 (And.intro @hem2 (ZZ))))] at hb) <;> (first | omega | contradiction | skip))
     | refine Src.whole ⟨rfl, rfl⟩ ?_ | refine FrzV.whole ?_
     | (refine TabsW.lit F.ref1_Same_t1 (by kernel_rfl) ?_)) <;> conv => whnf)
    refine LoopW.cl ?_
    refine LoopW.sub (hlL h3 (sameL t.l u.l) _ (fun x hx => (hl x hx).2) (fun h => ?_) (fun h => ?_) t.l.length 0 (by omega) rfl) (by repeat first | exact trivial | refine ⟨VLe.refl _, ?_⟩) (by repeat first | exact trivial | refine ⟨by decide, ?_⟩)
    · conv => whnf
      rw [h, Bool.true_and] at hS
      repeat' ((first
       | ((with_reducible first | refine Br.dec ?_ ?_ | refine Br.ndec ?_ ?_) <;> intro hb <;> (try simp only [ZZ] at hb) <;> (first | omega | contradiction | skip))
       | (with_reducible first | refine Br.tt rfl ?_ | refine Br.ff rfl ?_ | refine Br.ff (isEmptyCons _ _) ?_)
       | ((with_reducible first | refine Side.mk ?_ ?_ | refine WrapW.mk ?_ ?_); focus (first | omega | (dsimp only [InR, Int.reduceToNat, IntKind.bits, Int.reducePow]; omega) | (simp [CC]; done) | (constructor <;> omega)))
       | with_reducible refine Br.not ?_
       | (with_reducible first | refine Br.tt (by assumption) ?_ | refine Br.ff (by assumption) ?_)
       | (refine Br.mk ?_ ?_ <;> intro hb <;> (try simp only [ZZ] at hb) <;> (first | omega | contradiction | skip))
       | refine Src.whole ⟨rfl, rfl⟩ ?_ | refine FrzV.whole ?_) <;> conv => whnf)
      refine LoopW.cl ?_
      refine LoopW.sub (hlM h4 R _ (fun x hx => (hm x hx).2.2) (fun h => ?_) (fun h => ?_) t.m.length 0 (by omega) hS.symm) (by repeat first | exact trivial | refine ⟨VLe.refl _, ?_⟩) (by repeat first | exact trivial | refine ⟨by decide, ?_⟩)
      · conv => whnf
        exact CLe.retP (by rw [h])
      · conv => whnf
        exact CLe.retP (by rw [h])
    · conv => whnf
      rw [h, Bool.false_and] at hS
      exact CLe.retP (by rw [hS])
  · rw [decide_eq_false hc, Bool.false_and] at hS
    subst hS
    refine absCall_of (pol := polG) mixP F.ref1_Same_is ?_
    conv => whnf
    repeat' ((first
     | ((with_reducible first | refine Br.dec ?_ ?_ | refine Br.ndec ?_ ?_) <;> intro hb <;> (try simp only [And.intro @hel (And.intro @hem (And.intro @hel2 (And.intro @hem2 (ZZ))))] at hb) <;> (first | omega | contradiction | skip))
     | (with_reducible first | refine Br.tt rfl ?_ | refine Br.ff rfl ?_ | refine Br.ff (isEmptyCons _ _) ?_)
     | ((with_reducible first | refine Side.mk ?_ ?_ | refine WrapW.mk ?_ ?_); focus (first | omega | (dsimp only [InR, Int.reduceToNat, IntKind.bits, Int.reducePow]; omega) | (simp [CC]; done) | (constructor <;> omega)))
     | with_reducible refine Br.not ?_
     | (with_reducible first | refine Br.tt (by assumption) ?_ | refine Br.ff (by assumption) ?_)
     | (refine Br.mk ?_ ?_ <;> intro hb <;> (try simp only [And.intro @hel (And.intro @hem (And.intro @hel2 (And.intro @hem2 (ZZ))))] at hb) <;> (first | omega | contradiction | skip))
     | refine Src.whole ⟨rfl, rfl⟩ ?_ | refine FrzV.whole ?_) <;> conv => whnf)
    all_goals first
      | exact CLe.retP rfl
      | exact absurd ⟨by omega, by omega, by omega, by omega, by assumption⟩ hc
end Go.Proofs.YtoinkmogdfjmmaaGreatDoor
end
