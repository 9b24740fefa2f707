/-
The walk through paths: Get.
-/
import Derived.Test.YthkoefpidnphpaaGreatDoorPG
import Derived.Test.YthkoefpidnphpaaGreatDoorPF
import Derived.Sort.KeysCollected
import Derived.Lib.ParseIntBTie

section
namespace Go.Proofs.YthkoefpidnphpaaGreatDoor
open Go Go.Am Go.RowKit
set_option maxRecDepth 100000
def zeroV : PV := .agg [.int .i64 0, .int .i64 0, .str [], .nils, .nils]
theorem zero_null : PLe zeroV nullT.enc := by
  show PLe (.agg [.int .i64 0, .int .i64 0, .str [], .nils, .nils]) (.agg [.int .i64 0, .int .i64 0, .str [], .lst false [], .lst false []])
  exact PLe.agg ⟨PLe.refl _, PLe.refl _, PLe.refl _, PLe.nils _, PLe.nils _, trivial⟩
theorem part_wt (v : Tree) (s : Stp) (h : 0 ≤ findS v s) : (partT v (findS v s).toNat).wt ≤ v.wt ∧ (v.kind = 5 → (findS v s).toNat < v.l.length) ∧ (v.kind ≠ 5 → (findS v s).toNat < v.m.length) := by
  have hf := findS_lt v s
  have hk : v.kind ≠ 5 → v.kind = 6 := fun h5 => (hf.2.2.2 h).resolve_left h5
  refine ⟨?_, fun h5 => by have := hf.2.1 h5; omega, fun h5 => by have := hf.2.2.1 (hk h5); omega⟩
  unfold partT
  by_cases h5 : v.kind = 5
  · rw [if_pos h5]
    obtain ⟨x, hx⟩ : ∃ x, v.l[(findS v s).toNat]? = some x := ⟨_, List.getElem?_eq_getElem (show (findS v s).toNat < v.l.length by have := hf.2.1 h5; omega)⟩
    rw [List.getD_eq_getElem?_getD, hx, Option.getD_some]
    exact Nat.le_of_lt (Tree.wt_l (List.mem_of_getElem? hx))
  · rw [if_neg h5]
    obtain ⟨x, hx⟩ : ∃ x, v.m[(findS v s).toNat]? = some x := ⟨_, List.getElem?_eq_getElem (show (findS v s).toNat < v.m.length by have := hf.2.2.1 (hk h5); omega)⟩
    rw [List.getD_eq_getElem?_getD, hx, Option.getD_some]
    have := Tree.wt_m (List.mem_of_getElem? hx)
    omega
theorem get_loop (p : List Stp) (hp : p.length ≤ 9223372036854775807) (R : Option Tree) (K : Post)
    (h0 : ∀ y, R = some y → K (.exit 0) [(2, .ptr 0 0), (4, .ptr 1 0)] [.var T.api_Value (.p y.enc), .var T.api_Value (.p (.agg [.int .i64 0, .int .i64 0, .str [], .nils, .nils]))] [])
    (hr : R = none → ∀ (x : V) (o : HO), K .ret [(4, .ptr 1 0), (5, .p (.bool false))] [.var T.api_Value x, .var T.api_Value (.p (.agg [.int .i64 0, .int .i64 0, .str [], .nils, .nils])), o] []) :
    ∀ (q i : Nat) (x : Tree), i + q = p.length → x.wt ≤ 4000000 → getT x (p.drop i) = R →
      LoopW PP GG 26 0 (loopN F.path_Get_c 0) [(2, .ptr 0 0), (4, .ptr 1 0), (9, .p (.lst false (encS p))), (10, .p (.int .i64 p.length)), (11, .p (.int .i64 i))] [.var T.api_Value (.p x.enc), .var T.api_Value (.p (.agg [.int .i64 0, .int .i64 0, .str [], .nils, .nils]))] [] (PostCl 26 K) := by
  have hel := encS_length p
  intro q
  induction q with
  | zero =>
    intro i x hi hw hR
    obtain rfl : i = p.length := by omega
    rw [List.drop_length, getT] at hR
    have h0 := h0 x hR.symm
    generalize x.enc = e at *
    refine LoopW.round (pol := polG) mixP ?_
    conv => whnf
    repeat' ((first
     | ((with_reducible first | refine Br.dec ?_ ?_ | refine Br.ndec ?_ ?_) <;> intro hb <;> (try simp only [And.intro @hel (ZZ)] at hb) <;> (first | omega | contradiction | skip))
     | (with_reducible first | refine Br.tt rfl ?_ | refine Br.ff rfl ?_ | refine Br.ff (isEmptyCons _ _) ?_)
     | ((with_reducible first | refine Side.mk ?_ ?_ | refine WrapW.mk ?_ ?_); focus (first | omega | (dsimp only [InR, Int.reduceToNat, IntKind.bits, Int.reducePow]; omega) | (simp [CC]; done) | (constructor <;> omega)))
     | with_reducible refine Br.not ?_
     | (with_reducible first | refine Br.tt (by assumption) ?_ | refine Br.ff (by assumption) ?_)
     | (refine Br.mk ?_ ?_ <;> intro hb <;> (try simp only [And.intro @hel (ZZ)] at hb) <;> (first | omega | contradiction | skip))
     | refine Src.whole ⟨rfl, rfl⟩ ?_ | refine FrzV.whole ?_) <;> conv => whnf)
    refine PostCl.of (h0) ?_ ?_
    · repeat first | exact trivial | refine ⟨VLe.refl _, ?_⟩
    · repeat first | exact trivial | refine ⟨by decide, ?_⟩
  | succ q ih =>
    intro i x hi hw hR
    obtain ⟨s, hs⟩ : ∃ s, p[i]? = some s := ⟨_, List.getElem?_eq_getElem (show i < p.length by omega)⟩
    have hsi : p[(i : Int).toNat]? = some s := by rw [Int.toNat_natCast]; exact hs
    rw [drop_cons hs, getT] at hR
    have hml := x.wt_ml
    have hll := x.wt_ll
    have hF := path_find x s (by omega) (by omega)
    by_cases hn : findS x s < 0
    · rw [if_pos hn] at hR
      generalize findS x s = f at *
      rw [Tree.enc_eta x] at hF ⊢
      refine LoopW.round (pol := polG) mixP ?_
      conv => whnf
      repeat' ((first
       | ((with_reducible first | refine Br.dec ?_ ?_ | refine Br.ndec ?_ ?_) <;> intro hb <;> (try simp only [And.intro @hel (ZZ)] at hb) <;> (first | omega | contradiction | skip))
       | (with_reducible first | refine Br.tt rfl ?_ | refine Br.ff rfl ?_ | refine Br.ff (isEmptyCons _ _) ?_)
       | ((with_reducible first | refine Side.mk ?_ ?_ | refine WrapW.mk ?_ ?_); focus (first | omega | (dsimp only [InR, Int.reduceToNat, IntKind.bits, Int.reducePow]; omega) | exact ⟨rfl, rfl⟩ | (simp [CC]; done) | (constructor <;> omega)))
       | with_reducible refine Br.not ?_
       | (with_reducible first | refine Br.tt (by assumption) ?_ | refine Br.ff (by assumption) ?_)
       | (refine Br.mk ?_ ?_ <;> intro hb <;> (try simp only [And.intro @hel (ZZ)] at hb) <;> (first | omega | contradiction | skip))
       | refine Src.whole ⟨rfl, rfl⟩ ?_ | refine FrzV.whole ?_
       | refine CallW.use (hF) ?_
       | (refine ElemZ.stp hsi ?_)) <;> conv => whnf)
      refine PostCl.of (hr hR.symm _ _) ?_ ?_
      · repeat first | exact trivial | refine ⟨VLe.refl _, ?_⟩
      · repeat first | exact trivial | refine ⟨by decide, ?_⟩
    · rw [if_neg hn] at hR
      obtain ⟨hpw, hp5, hp6⟩ := part_wt x s (by omega)
      have hP := path_part x (findS x s).toNat hp5 hp6
      have hl := ih (i + 1) _ (by omega) (by omega) hR
      have hfn : ((findS x s).toNat : Int) = findS x s := Int.toNat_of_nonneg (by omega)
      rw [hfn] at hP
      generalize partT x (findS x s).toNat = y at *
      generalize findS x s = f at *
      rw [Tree.enc_eta x] at hF hP ⊢
      rw [Tree.enc_eta y] at hP hl
      refine LoopW.round (pol := polG) mixP ?_
      conv => whnf
      repeat' ((first
       | ((with_reducible first | refine Br.dec ?_ ?_ | refine Br.ndec ?_ ?_) <;> intro hb <;> (try simp only [And.intro @hel (ZZ)] at hb) <;> (first | omega | contradiction | skip))
       | (with_reducible first | refine Br.tt rfl ?_ | refine Br.ff rfl ?_ | refine Br.ff (isEmptyCons _ _) ?_)
       | ((with_reducible first | refine Side.mk ?_ ?_ | refine WrapW.mk ?_ ?_); focus (first | omega | (dsimp only [InR, Int.reduceToNat, IntKind.bits, Int.reducePow]; omega) | exact ⟨rfl, rfl⟩ | (simp [CC]; done) | (constructor <;> omega)))
       | with_reducible refine Br.not ?_
       | (with_reducible first | refine Br.tt (by assumption) ?_ | refine Br.ff (by assumption) ?_)
       | (refine Br.mk ?_ ?_ <;> intro hb <;> (try simp only [And.intro @hel (ZZ)] at hb) <;> (first | omega | contradiction | skip))
       | refine Src.whole ⟨rfl, rfl⟩ ?_ | refine FrzV.whole ?_
       | refine CallW.use (hF) ?_
       | refine CallW.use (hP) ?_
       | (refine ElemZ.stp hsi ?_)) <;> conv => whnf)
      refine LoopW.ren [0, 1] (hl) (by repeat first | exact trivial | refine ⟨⟨rfl, VLe.refl _⟩, ?_⟩) (by repeat first | exact trivial | refine ⟨by decide, ?_⟩) rfl rfl
theorem path_Get (v : Tree) (p : List Stp) (hv : v.wt ≤ 4000000) (hp : p.length ≤ 9223372036854775807) :
    AbsCall PP GG F.path_Get [.p v.enc, .p (.lst false (encS p))] [] ⟨.ret (.tup [.p ((getT v p).getD nullT).enc, .p (.bool (getT v p).isSome)]), [], []⟩ := by
  have hel := encS_length p
  have hlp := get_loop p hp (getT v p)
  have hR : getT v (p.drop 0) = getT v p := rfl
  rw [← hel] at hlp
  generalize getT v p = R at *
  have hve := Tree.enc_eta v
  have hl1 := fun K h0 hr => hlp K h0 hr (encS p).length 0 v (by omega) hv hR
  rw [hve] at hl1 ⊢
  refine absCall_of (pol := polG) mixP F.path_Get_is ?_
  conv => whnf
  repeat' ((first
   | ((with_reducible first | refine Br.dec ?_ ?_ | refine Br.ndec ?_ ?_) <;> intro hb <;> (try simp only [And.intro @hel (ZZ)] at hb) <;> (first | omega | contradiction | skip))
   | (with_reducible first | refine Br.tt rfl ?_ | refine Br.ff rfl ?_ | refine Br.ff (isEmptyCons _ _) ?_)
   | ((with_reducible first | refine Side.mk ?_ ?_ | refine WrapW.mk ?_ ?_); focus (first | omega | (dsimp only [InR, Int.reduceToNat, IntKind.bits, Int.reducePow]; omega) | (simp [CC]; done) | (constructor <;> omega)))
   | with_reducible refine Br.not ?_
   | (with_reducible first | refine Br.tt (by assumption) ?_ | refine Br.ff (by assumption) ?_)
   | (refine Br.mk ?_ ?_ <;> intro hb <;> (try simp only [And.intro @hel (ZZ)] at hb) <;> (first | omega | contradiction | skip))
   | refine Src.whole ⟨rfl, rfl⟩ ?_ | refine FrzV.whole ?_) <;> conv => whnf)
  refine LoopW.cl ?_
  refine LoopW.sub (hl1 _ (fun y h => ?_) (fun h x o => ?_)) (by repeat first | exact trivial | refine ⟨VLe.refl _, ?_⟩) (by repeat first | exact trivial | refine ⟨by decide, ?_⟩)
  · subst h
    simp only [Option.getD_some, Option.isSome_some]
    rw [Tree.enc_eta y]
    conv => whnf
    repeat' ((first
     | ((with_reducible first | refine Br.dec ?_ ?_ | refine Br.ndec ?_ ?_) <;> intro hb <;> (try simp only [ZZ] at hb) <;> (first | omega | contradiction | skip))
     | (with_reducible first | refine Br.tt rfl ?_ | refine Br.ff rfl ?_ | refine Br.ff (isEmptyCons _ _) ?_)
     | ((with_reducible first | refine Side.mk ?_ ?_ | refine WrapW.mk ?_ ?_); focus (first | omega | (dsimp only [InR, Int.reduceToNat, IntKind.bits, Int.reducePow]; omega) | (simp [CC]; done) | (constructor <;> omega)))
     | with_reducible refine Br.not ?_
     | (with_reducible first | refine Br.tt (by assumption) ?_ | refine Br.ff (by assumption) ?_)
     | (refine Br.mk ?_ ?_ <;> intro hb <;> (try simp only [ZZ] at hb) <;> (first | omega | contradiction | skip))
     | refine Src.whole ⟨rfl, rfl⟩ ?_ | refine FrzV.whole ?_) <;> conv => whnf)
    exact CLe.eq rfl
  · subst h
    simp only [Option.getD_none, Option.isSome_none]
    conv => whnf
    refine CLe.ret (VLe.tup ?_)
    exact ⟨zero_null.p, VLe.refl _, trivial⟩
end Go.Proofs.YthkoefpidnphpaaGreatDoor
end

section
namespace Go.Proofs.YthkoefpidnphpaaGreatDoor
open Go Go.Am
set_option maxRecDepth 100000
theorem ref1_digit (c : UInt8) : AbsCall PP GG F.ref1_digit [.p (byteP c)] [] ⟨.ret (.p (.bool (dig c))), [], []⟩ := by
  have hc := UInt8.toNat_lt c
  refine absCall_of (pol := polG) mixP F.ref1_digit_is ?_
  conv => whnf
  repeat' ((first
   | ((with_reducible first | refine Br.dec ?_ ?_ | refine Br.ndec ?_ ?_) <;> intro hb <;> (try simp only [ZZ] at hb) <;> (first | omega | skip))
   | (with_reducible first | refine Br.tt rfl ?_ | refine Br.ff rfl ?_ | refine Br.ff (isEmptyCons _ _) ?_)
   | ((with_reducible first | refine Side.mk ?_ ?_ | refine WrapW.mk ?_ ?_); focus (first | omega | (dsimp only [InR, Int.reduceToNat, IntKind.bits, Int.reducePow]; omega) | (simp [CC]; done) | (constructor <;> omega)))
   | (refine Br.mk ?_ ?_ <;> intro hb <;> (try simp only [ZZ] at hb) <;> (first | omega | skip))
   | refine Src.whole ⟨rfl, rfl⟩ ?_ | refine FrzV.whole ?_) <;> conv => whnf)
  all_goals exact CLe.retP (by simp only [PV.bool.injEq, dig]; first | (symm; rw [decide_eq_false_iff_not]; omega) | (symm; rw [decide_eq_true_eq]; omega) | (rw [decide_eq_decide]; omega))
theorem run_loop (s : Str) (hs : s.length ≤ 1073741824) (K : Post) (h0 : K (.exit 0) [(3, .p (.int .i64 (runL s)))] [] []) :
    ∀ (q i : Nat), i + q = s.length → i + runL (s.drop i) = runL s →
      LoopW PP GG 17 0 (loopN F.ref1_run_c 0) [(0, .p (.str s)), (3, .p (.int .i64 i))] [] [] (PostCl 17 K) := by
  intro q
  induction q with
  | zero =>
    intro i hi hR
    rw [List.drop_eq_nil_of_le (by omega), runL, Nat.add_zero] at hR
    subst hR
    refine LoopW.round (pol := polG) mixP ?_
    conv => whnf
    repeat' ((first
     | ((with_reducible first | refine Br.dec ?_ ?_ | refine Br.ndec ?_ ?_) <;> intro hb <;> (try simp only [ZZ] at hb) <;> (first | omega | skip))
     | (with_reducible first | refine Br.tt rfl ?_ | refine Br.ff rfl ?_ | refine Br.ff (isEmptyCons _ _) ?_)
     | ((with_reducible first | refine Side.mk ?_ ?_ | refine WrapW.mk ?_ ?_); focus (first | omega | (dsimp only [InR, Int.reduceToNat, IntKind.bits, Int.reducePow]; omega) | (simp [CC]; done) | (constructor <;> omega)))
     | (refine Br.mk ?_ ?_ <;> intro hb <;> (try simp only [ZZ] at hb) <;> (first | omega | skip))
     | refine Src.whole ⟨rfl, rfl⟩ ?_ | refine FrzV.whole ?_
     | refine CallW.use (ref1_digit _) ?_) <;> conv => whnf)
    · refine PostCl.of (h0) ?_ ?_
      · repeat first | exact trivial | refine ⟨VLe.refl _, ?_⟩
      · repeat first | exact trivial | refine ⟨by decide, ?_⟩
  | succ q ih =>
    intro i hi hR
    obtain ⟨b, hb⟩ : ∃ b, s[i]? = some b := ⟨_, List.getElem?_eq_getElem (show i < s.length by omega)⟩
    have hg : s.getD (Int.toNat ↑i) 0 = b := getD_of (by simpa using hb)
    rw [drop_cons hb, runL] at hR
    refine LoopW.round (pol := polG) mixP ?_
    conv => whnf
    repeat' ((first
     | ((with_reducible first | refine Br.dec ?_ ?_ | refine Br.ndec ?_ ?_) <;> intro hb <;> (try simp only [And.intro @hg (ZZ)] at hb) <;> (first | omega | skip))
     | (with_reducible first | refine Br.tt rfl ?_ | refine Br.ff rfl ?_ | refine Br.ff (isEmptyCons _ _) ?_)
     | ((with_reducible first | refine Side.mk ?_ ?_ | refine WrapW.mk ?_ ?_); focus (first | omega | (dsimp only [InR, Int.reduceToNat, IntKind.bits, Int.reducePow]; omega) | (simp [CC]; done) | (constructor <;> omega)))
     | (refine Br.mk ?_ ?_ <;> intro hb <;> (try simp only [And.intro @hg (ZZ)] at hb) <;> (first | omega | skip))
     | refine Src.whole ⟨rfl, rfl⟩ ?_ | refine FrzV.whole ?_
     | refine CallW.use (ref1_digit _) ?_) <;> conv => whnf)
    · rw [if_pos hb] at hR
      refine LoopW.sub (ih (i + 1) (by omega) (by omega)) (by repeat first | exact trivial | refine ⟨VLe.refl _, ?_⟩) (by repeat first | exact trivial | refine ⟨by decide, ?_⟩)
    · rw [if_neg (by rw [hb]; simp), Nat.add_zero] at hR
      subst hR
      refine PostCl.of (h0) ?_ ?_
      · repeat first | exact trivial | refine ⟨VLe.refl _, ?_⟩
      · repeat first | exact trivial | refine ⟨by decide, ?_⟩
theorem ref1_run (s : Str) (hs : s.length ≤ 1073741824) : AbsCall PP GG F.ref1_run [.p (.str s)] [] ⟨.ret (.p (.int .i64 (runL s))), [], []⟩ := by
  refine absCall_of (pol := polG) mixP F.ref1_run_is ?_
  conv => whnf
  refine LoopW.cl ?_
  refine LoopW.sub (run_loop s hs _ ?_ s.length 0 (by omega) (by simp)) (by repeat first | exact trivial | refine ⟨VLe.refl _, ?_⟩) (by repeat first | exact trivial | refine ⟨by decide, ?_⟩)
  conv => whnf
  exact CLe.eq rfl
theorem parts_24 (neg : Bool) (w f p d : Str) (hd : d.length ≤ 1073741824) (R : Parts) (K : Post) (hR : partsE neg w f p d = R)
    (h0 : K .ret [(2, .p (.bool R.1)), (3, .p (.str R.2.1)), (4, .p (.str R.2.2.1)), (5, .p (.str R.2.2.2.1)), (6, .p (.bool R.2.2.2.2))] [] []) :
    CutW PP GG 106 0 (tailN F.ref1_parts_c 24) [(7, .p (.bool neg)), (9, .p (.str w)), (10, .p (.str f)), (11, .p (.str p)), (12, .p (.str d))] [] [] (PostCl 106 K) := by
  have hr := runL_le d
  unfold partsE at hR
  refine CutW.go (pol := polC []) mixP ?_
  conv => whnf
  repeat' ((first
   | ((with_reducible first | refine Br.dec ?_ ?_ | refine Br.ndec ?_ ?_) <;> intro hb <;> (try simp only [ZZ] at hb) <;> (first | omega | skip))
   | (with_reducible first | refine Br.tt rfl ?_ | refine Br.ff rfl ?_ | refine Br.ff (isEmptyCons _ _) ?_)
   | ((with_reducible first | refine Side.mk ?_ ?_ | refine WrapW.mk ?_ ?_); focus (first | omega | (dsimp only [InR, Int.reduceToNat, IntKind.bits, Int.reducePow]; omega) | (simp [CC]; done) | (constructor <;> omega)))
   | (refine Br.mk ?_ ?_ <;> intro hb <;> (try simp only [ZZ] at hb) <;> (first | omega | skip))
   | refine Src.whole ⟨rfl, rfl⟩ ?_ | refine FrzV.whole ?_
   | refine CallW.use (ref1_run d hd) ?_) <;> conv => whnf)
  all_goals
    first
    | (rw [if_pos (by omega)] at hR; subst hR; refine PostCl.of (h0) (by repeat first | exact trivial | refine ⟨VLe.refl _, ?_⟩) (by repeat first | exact trivial | refine ⟨by decide, ?_⟩))
    | (rw [if_neg (by omega)] at hR; subst hR; refine PostCl.of (h0) (by repeat first | exact trivial | refine ⟨VLe.refl _, ?_⟩) (by repeat first | exact trivial | refine ⟨by decide, ?_⟩))
theorem parts_16 (neg : Bool) (w f s : Str) (hs : s.length ≤ 1073741824) (R : Parts) (K : Post) (hR : partsD neg w f s = R)
    (h0 : K .ret [(2, .p (.bool R.1)), (3, .p (.str R.2.1)), (4, .p (.str R.2.2.1)), (5, .p (.str R.2.2.2.1)), (6, .p (.bool R.2.2.2.2))] [] []) :
    CutW PP GG 106 0 (tailN F.ref1_parts_c 16) [(0, .p (.str s)), (7, .p (.bool neg)), (9, .p (.str w)), (10, .p (.str f))] [] [] (PostCl 106 K) := by
  have hl1 : (s.drop 1).length = s.length - 1 := List.length_drop
  have hl2 : ((s.drop 1).drop 1).length = s.length - 1 - 1 := by rw [List.length_drop, hl1]
  unfold partsD b0 at hR
  refine CutW.go (pol := polC [24]) mixP ?_
  conv => whnf
  repeat' ((first
   | ((with_reducible first | refine Br.dec ?_ ?_ | refine Br.ndec ?_ ?_) <;> intro hb <;> (try simp only [And.intro NN (And.intro @hl1 (ZZ))] at hb) <;> (first | omega | skip))
   | (with_reducible first | refine Br.tt rfl ?_ | refine Br.ff rfl ?_ | refine Br.ff (isEmptyCons _ _) ?_)
   | ((with_reducible first | refine Side.mk ?_ ?_ | refine WrapW.mk ?_ ?_); focus (first | omega | (dsimp only [InR, Int.reduceToNat, IntKind.bits, Int.reducePow]; omega) | (simp only [Int.reduceToNat, hl1]; omega) | (simp [CC]; done) | (constructor <;> omega)))
   | (refine Br.mk ?_ ?_ <;> intro hb <;> (try simp only [And.intro NN (And.intro @hl1 (ZZ))] at hb) <;> (first | omega | skip))
   | refine Src.whole ⟨rfl, rfl⟩ ?_ | refine FrzV.whole ?_) <;> conv => whnf)
  all_goals
    first
    | (rw [if_pos (by omega)] at hR; subst hR; refine PostCl.of (h0) (by repeat first | exact trivial | refine ⟨VLe.refl _, ?_⟩) (by repeat first | exact trivial | refine ⟨by decide, ?_⟩))
    | (rw [if_neg (by omega), if_pos (by omega)] at hR; subst hR; refine PostCl.of (h0) (by repeat first | exact trivial | refine ⟨VLe.refl _, ?_⟩) (by repeat first | exact trivial | refine ⟨by decide, ?_⟩))
    | (rw [if_neg (by omega), if_neg (by omega), if_pos (by omega)] at hR; refine CutW.sub (parts_24 neg w f (s.drop 1) ((s.drop 1).drop 1) (by omega) R K hR h0) (by repeat first | exact trivial | refine ⟨VLe.refl _, ?_⟩) (by repeat first | exact trivial | refine ⟨by decide, ?_⟩))
    | (rw [if_neg (by omega), if_neg (by omega), if_neg (by omega)] at hR; refine CutW.sub (parts_24 neg w f (s.drop 1) (s.drop 1) (by omega) R K hR h0) (by repeat first | exact trivial | refine ⟨VLe.refl _, ?_⟩) (by repeat first | exact trivial | refine ⟨by decide, ?_⟩))
theorem parts_10 (neg : Bool) (w s : Str) (hs : s.length ≤ 1073741824) (R : Parts) (K : Post) (hR : partsC neg w s = R)
    (h0 : K .ret [(2, .p (.bool R.1)), (3, .p (.str R.2.1)), (4, .p (.str R.2.2.1)), (5, .p (.str R.2.2.2.1)), (6, .p (.bool R.2.2.2.2))] [] []) :
    CutW PP GG 106 0 (tailN F.ref1_parts_c 9) [(0, .p (.str s)), (7, .p (.bool neg)), (9, .p (.str w))] [] [] (PostCl 106 K) := by
  have hl1 : (s.drop 1).length = s.length - 1 := List.length_drop
  have hr1 := runL_le (s.drop 1)
  have e1 : List.take ((1 + (runL (s.drop 1) : Int)).toNat - 1) (s.drop 1) = List.take (runL (s.drop 1)) (s.drop 1) := by congr 1 <;> omega
  have e2 : List.drop (1 + (runL (s.drop 1) : Int)).toNat s = List.drop (runL (s.drop 1)) (s.drop 1) := by rw [List.drop_drop]; congr 1 <;> omega
  have htk : (List.take ((1 + (runL (s.drop 1) : Int)).toNat - 1) (s.drop 1)).length = runL (s.drop 1) := by rw [e1, take_run]
  have hul : (List.drop (1 + (runL (s.drop 1) : Int)).toNat s).length ≤ 1073741824 := by rw [List.length_drop]; omega
  unfold partsC b0 at hR
  rw [← e1, ← e2] at hR
  refine CutW.go (pol := polC [16]) mixP ?_
  conv => whnf
  repeat' ((first
   | ((with_reducible first | refine Br.dec ?_ ?_ | refine Br.ndec ?_ ?_) <;> intro hb <;> (try simp only [And.intro NN (And.intro @hl1 (And.intro @htk (ZZ)))] at hb) <;> (first | omega | skip))
   | (with_reducible first | refine Br.tt rfl ?_ | refine Br.ff rfl ?_ | refine Br.ff (isEmptyCons _ _) ?_)
   | ((with_reducible first | refine Side.mk ?_ ?_ | refine WrapW.mk ?_ ?_); focus (first | omega | (dsimp only [InR, Int.reduceToNat, IntKind.bits, Int.reducePow]; omega) | (simp only [Int.reduceToNat, hl1]; omega) | (simp [CC]; done) | (constructor <;> omega)))
   | (refine Br.mk ?_ ?_ <;> intro hb <;> (try simp only [And.intro NN (And.intro @hl1 (And.intro @htk (ZZ)))] at hb) <;> (first | omega | skip))
   | refine Src.whole ⟨rfl, rfl⟩ ?_ | refine FrzV.whole ?_
   | refine CallW.use (ref1_run (s.drop 1) (by omega)) ?_) <;> conv => whnf)
  all_goals
    first
    | (rw [if_pos (by omega), if_pos (by omega)] at hR; subst hR; refine PostCl.of (h0) (by repeat first | exact trivial | refine ⟨VLe.refl _, ?_⟩) (by repeat first | exact trivial | refine ⟨by decide, ?_⟩))
    | (rw [if_pos (by omega), if_neg (by omega)] at hR; refine CutW.sub (parts_16 neg w _ _ hul R K hR h0) (by repeat first | exact trivial | refine ⟨VLe.refl _, ?_⟩) (by repeat first | exact trivial | refine ⟨by decide, ?_⟩))
    | (rw [if_neg (by omega)] at hR; refine CutW.sub (parts_16 neg w [] s (by omega) R K hR h0) (by repeat first | exact trivial | refine ⟨VLe.refl _, ?_⟩) (by repeat first | exact trivial | refine ⟨by decide, ?_⟩))
theorem parts_4 (neg : Bool) (s : Str) (hs : s.length ≤ 1073741824) (R : Parts) (K : Post) (hR : partsB neg s = R)
    (h0 : K .ret [(2, .p (.bool R.1)), (3, .p (.str R.2.1)), (4, .p (.str R.2.2.1)), (5, .p (.str R.2.2.2.1)), (6, .p (.bool R.2.2.2.2))] [] []) :
    CutW PP GG 106 0 (tailN F.ref1_parts_c 4) [(0, .p (.str s)), (7, .p (.bool neg))] [] [] (PostCl 106 K) := by
  have hr := runL_le s
  have hwl : (s.take (runL s)).length = runL s := take_run s
  have hul : (s.drop (runL s)).length = s.length - runL s := List.length_drop
  unfold partsB b0 at hR
  refine CutW.go (pol := polC [9]) mixP ?_
  conv => whnf
  repeat' ((first
   | ((with_reducible first | refine Br.dec ?_ ?_ | refine Br.ndec ?_ ?_) <;> intro hb <;> (try simp only [And.intro NN (And.intro @Int.toNat_natCast (And.intro @hwl (ZZ)))] at hb) <;> (first | omega | skip))
   | (with_reducible first | refine Br.tt rfl ?_ | refine Br.ff rfl ?_ | refine Br.ff (isEmptyCons _ _) ?_)
   | ((with_reducible first | refine Side.mk ?_ ?_ | refine WrapW.mk ?_ ?_); focus (first | omega | (dsimp only [InR, Int.reduceToNat, IntKind.bits, Int.reducePow]; omega) | (simp only [And.intro NN (And.intro @Int.toNat_natCast hwl)]; omega) | (simp [CC]; done) | (constructor <;> omega)))
   | (refine Br.mk ?_ ?_ <;> intro hb <;> (try simp only [And.intro NN (And.intro @Int.toNat_natCast (And.intro @hwl (ZZ)))] at hb) <;> (first | omega | skip))
   | refine Src.whole ⟨rfl, rfl⟩ ?_ | refine FrzV.whole ?_
   | refine CallW.use (ref1_run s (by omega)) ?_) <;> conv => whnf)
  all_goals
    first
    | (rw [if_pos (by omega)] at hR; subst hR; refine PostCl.of (h0) (by repeat first | exact trivial | refine ⟨VLe.refl _, ?_⟩) (by repeat first | exact trivial | refine ⟨by decide, ?_⟩))
    | (rw [if_neg (by omega)] at hR; refine CutW.sub (parts_10 neg (s.take (runL s)) (s.drop (runL s)) (by omega) R K hR h0) (by repeat first | exact trivial | refine ⟨VLe.refl _, ?_⟩) (by repeat first | exact trivial | refine ⟨by decide, ?_⟩))
theorem ref1_parts (s : Str) (hs : s.length ≤ 1073741824) : AbsCall PP GG F.ref1_parts [.p (.str s)] [] ⟨.ret (.tup [.p (.bool (numParts s).1), .p (.str (numParts s).2.1), .p (.str (numParts s).2.2.1), .p (.str (numParts s).2.2.2.1), .p (.bool (numParts s).2.2.2.2)]), [], []⟩ := by
  have hl1 : (s.drop 1).length = s.length - 1 := List.length_drop
  have hN : numParts s = if 0 < s.length ∧ b0 s = 45 then partsB true (s.drop 1) else partsB false s := rfl
  unfold b0 at hN
  refine absCall_of (pol := polC [4]) mixP F.ref1_parts_is ?_
  conv => whnf
  repeat' ((first
   | ((with_reducible first | refine Br.dec ?_ ?_ | refine Br.ndec ?_ ?_) <;> intro hb <;> (try simp only [And.intro NN (And.intro @hl1 (ZZ))] at hb) <;> (first | omega | skip))
   | (with_reducible first | refine Br.tt rfl ?_ | refine Br.ff rfl ?_ | refine Br.ff (isEmptyCons _ _) ?_)
   | ((with_reducible first | refine Side.mk ?_ ?_ | refine WrapW.mk ?_ ?_); focus (first | omega | (dsimp only [InR, Int.reduceToNat, IntKind.bits, Int.reducePow]; omega) | (simp only [Int.reduceToNat, hl1]; omega) | (simp [CC]; done) | (constructor <;> omega)))
   | (refine Br.mk ?_ ?_ <;> intro hb <;> (try simp only [And.intro NN (And.intro @hl1 (ZZ))] at hb) <;> (first | omega | skip))
   | refine Src.whole ⟨rfl, rfl⟩ ?_ | refine FrzV.whole ?_) <;> conv => whnf)
  all_goals refine CutW.cl ?_
  · refine CutW.sub (parts_4 (decide (↑(List.getD s (Int.toNat 0) 0).toNat = (45 : Int))) (s.drop 1) (by omega) (numParts s) _ (by rw [hN, if_pos (by omega), decide_eq_true (by simpa using hb)]) ?_) (by repeat first | exact trivial | refine ⟨VLe.refl _, ?_⟩) (by repeat first | exact trivial | refine ⟨by decide, ?_⟩)
    conv => whnf
    exact CLe.eq rfl
  · refine CutW.sub (parts_4 (decide (↑(List.getD s (Int.toNat 0) 0).toNat = (45 : Int))) s (by omega) (numParts s) _ (by rw [hN, if_neg (by omega), decide_eq_false (by simpa using hb)]) ?_) (by repeat first | exact trivial | refine ⟨VLe.refl _, ?_⟩) (by repeat first | exact trivial | refine ⟨by decide, ?_⟩)
    conv => whnf
    exact CLe.eq rfl
  · refine CutW.sub (parts_4 false s (by omega) (numParts s) _ (by rw [hN, if_neg (by omega)]) ?_) (by repeat first | exact trivial | refine ⟨VLe.refl _, ?_⟩) (by repeat first | exact trivial | refine ⟨by decide, ?_⟩)
    conv => whnf
    exact CLe.eq rfl
theorem power_loop (s : Str) (hs : s.length ≤ 1073741824) (R : Option Int) (K : Post)
    (h0 : ∀ v : Int, R = some v → 0 ≤ v → v ≤ 100000 → K (.exit 0) [(0, .p (.str s)), (4, .p (.int .i64 v))] [] [])
    (hr : R = none → K .ret [(2, .p (.int .i64 0)), (3, .p (.bool false))] [] []) :
    ∀ (q i : Nat) (v : Int), i + q = s.length → 0 ≤ v → v ≤ 100000 → powL (s.drop i) v = R →
      LoopW PP GG 36 0 (loopN F.ref1_power_c 0) [(0, .p (.str s)), (4, .p (.int .i64 v)), (5, .p (.int .i64 i))] [] [] (PostCl 36 K) := by
  intro q
  induction q with
  | zero =>
    intro i v hi hv0 hv1 hR
    rw [List.drop_eq_nil_of_le (by omega), powL] at hR
    refine LoopW.round (pol := polG) mixP ?_
    conv => whnf
    repeat' ((first
     | ((with_reducible first | refine Br.dec ?_ ?_ | refine Br.ndec ?_ ?_) <;> intro hb <;> (try simp only [ZZ] at hb) <;> (first | omega | skip))
     | (with_reducible first | refine Br.tt rfl ?_ | refine Br.ff rfl ?_ | refine Br.ff (isEmptyCons _ _) ?_)
     | ((with_reducible first | refine Side.mk ?_ ?_ | refine WrapW.mk ?_ ?_); focus (first | omega | (dsimp only [InR, Int.reduceToNat, IntKind.bits, Int.reducePow]; omega) | (simp [CC]; done) | (constructor <;> omega)))
     | (refine Br.mk ?_ ?_ <;> intro hb <;> (try simp only [ZZ] at hb) <;> (first | omega | skip))
     | refine Src.whole ⟨rfl, rfl⟩ ?_ | refine FrzV.whole ?_
     | refine CallW.use (ref1_digit _) ?_) <;> conv => whnf)
    · refine PostCl.of (h0 v hR.symm hv0 hv1) ?_ ?_
      · repeat first | exact trivial | refine ⟨VLe.refl _, ?_⟩
      · repeat first | exact trivial | refine ⟨by decide, ?_⟩
  | succ q ih =>
    intro i v hi hv0 hv1 hR
    obtain ⟨b, hb⟩ : ∃ b, s[i]? = some b := ⟨_, List.getElem?_eq_getElem (show i < s.length by omega)⟩
    have hg : s.getD (Int.toNat ↑i) 0 = b := getD_of (by simpa using hb)
    have hdb : dig b = decide (48 ≤ b.toNat ∧ b.toNat ≤ 57) := rfl
    rw [drop_cons hb, powL] at hR
    refine LoopW.round (pol := polG) mixP ?_
    conv => whnf
    repeat' ((first
     | ((with_reducible first | refine Br.dec ?_ ?_ | refine Br.ndec ?_ ?_) <;> intro hb <;> (try simp only [And.intro @hg (ZZ)] at hb) <;> (first | omega | skip))
     | (with_reducible first | refine Br.tt rfl ?_ | refine Br.ff rfl ?_ | refine Br.ff (isEmptyCons _ _) ?_)
     | ((with_reducible first | refine Side.mk ?_ ?_ | refine WrapW.mk ?_ ?_); focus (first | omega | (dsimp only [InR, Int.reduceToNat, IntKind.bits, Int.reducePow]; omega) | (simp only [hg, InR]; rw [hdb, decide_eq_true_eq] at hb; omega) | (simp [CC]; done) | (constructor <;> omega)))
     | (refine Br.mk ?_ ?_ <;> intro hb <;> (try simp only [And.intro @hg (ZZ)] at hb) <;> (first | omega | skip))
     | refine Src.whole ⟨rfl, rfl⟩ ?_ | refine FrzV.whole ?_
     | refine CallW.use (ref1_digit _) ?_) <;> conv => whnf)
    · rename_i hd
      rw [if_pos hd, if_pos (by omega)] at hR
      refine PostCl.of (hr hR.symm) ?_ ?_
      · repeat first | exact trivial | refine ⟨VLe.refl _, ?_⟩
      · repeat first | exact trivial | refine ⟨by decide, ?_⟩
    · rename_i hd
      rw [if_pos hd, if_neg (by omega)] at hR
      rw [hdb, decide_eq_true_eq] at hd
      rw [hg]
      refine LoopW.sub (ih (i + 1) _ (by omega) (by omega) (by omega) hR) (by repeat first | exact trivial | refine ⟨VLe.refl _, ?_⟩) (by repeat first | exact trivial | refine ⟨by decide, ?_⟩)
    · rw [if_neg (by rw [hb]; simp)] at hR
      refine LoopW.sub (ih (i + 1) _ (by omega) hv0 hv1 hR) (by repeat first | exact trivial | refine ⟨VLe.refl _, ?_⟩) (by repeat first | exact trivial | refine ⟨by decide, ?_⟩)
theorem ref1_power (s : Str) (hs : s.length ≤ 1073741824) : AbsCall PP GG F.ref1_power [.p (.str s)] [] ⟨.ret (.tup [.p (.int .i64 (powerL s).1), .p (.bool (powerL s).2)]), [], []⟩ := by
  refine absCall_of (pol := polG) mixP F.ref1_power_is ?_
  conv => whnf
  refine LoopW.cl ?_
  refine LoopW.sub (power_loop s hs (powL s 0) _ (fun v hv hv0 hv1 => ?_) (fun hv => ?_) s.length 0 0 (by omega) (by omega) (by omega) rfl) (by repeat first | exact trivial | refine ⟨VLe.refl _, ?_⟩) (by repeat first | exact trivial | refine ⟨by decide, ?_⟩)
  · conv => whnf
    have hP : powerL s = if 0 < s.length ∧ b0 s = 45 then (-v, true) else (v, true) := by unfold powerL; rw [hv]
    unfold b0 at hP
    repeat' ((first
     | ((with_reducible first | refine Br.dec ?_ ?_ | refine Br.ndec ?_ ?_) <;> intro hb <;> (try simp only [And.intro NN (ZZ)] at hb) <;> (first | omega | skip))
     | (with_reducible first | refine Br.tt rfl ?_ | refine Br.ff rfl ?_ | refine Br.ff (isEmptyCons _ _) ?_)
     | ((with_reducible first | refine Side.mk ?_ ?_ | refine WrapW.mk ?_ ?_); focus (first | omega | (dsimp only [InR, Int.reduceToNat, IntKind.bits, Int.reducePow]; omega) | (simp [CC]; done) | (constructor <;> omega)))
     | (refine Br.mk ?_ ?_ <;> intro hb <;> (try simp only [And.intro NN (ZZ)] at hb) <;> (first | omega | skip))
     | refine Src.whole ⟨rfl, rfl⟩ ?_ | refine FrzV.whole ?_) <;> conv => whnf)
    · exact CLe.eq (by rw [hP, if_pos (by omega), InR.wrap (by simp only [InR]; omega), Int.zero_sub])
    · exact CLe.eq (by rw [hP, if_neg (by omega)])
    · exact CLe.eq (by rw [hP, if_neg (by omega)])
  · conv => whnf
    exact CLe.eq (by unfold powerL; rw [hv])
theorem ref1_Form (s : Str) (hs : s.length ≤ 1073741824) : AbsCall PP GG F.ref1_Form [.p (.str s)] [] ⟨.ret (.tup [.p (.bool (formL s).1), .p (.bool (formL s).2)]), [], []⟩ := by
  refine absCall_of (pol := polG) mixP F.ref1_Form_is ?_
  conv => whnf
  repeat' ((first
   | ((with_reducible first | refine Br.dec ?_ ?_ | refine Br.ndec ?_ ?_) <;> intro hb <;> (try simp only [ZZ] at hb) <;> (first | omega | skip))
   | (with_reducible first | refine Br.tt rfl ?_ | refine Br.ff rfl ?_ | refine Br.ff (isEmptyCons _ _) ?_)
   | ((with_reducible first | refine Side.mk ?_ ?_ | refine WrapW.mk ?_ ?_); focus (first | omega | (dsimp only [InR, Int.reduceToNat, IntKind.bits, Int.reducePow]; omega) | (simp [CC]; done) | (constructor <;> omega)))
   | (refine Br.mk ?_ ?_ <;> intro hb <;> (try simp only [ZZ] at hb) <;> (first | omega | skip))
   | refine Src.whole ⟨rfl, rfl⟩ ?_ | refine FrzV.whole ?_
   | refine CallW.use (ref1_parts s hs) ?_
   | refine CallW.use (ref1_power _ (numParts_len s hs)) ?_) <;> conv => whnf)
  · exact CLe.eq (by unfold formL; rw [hb]; rfl)
  · exact CLe.eq (by unfold formL; rw [hb]; rfl)
theorem ref1_Number (s : Str) (hs : s.length ≤ 1073741824) : AbsCall PP GG F.ref1_Number [.p (.str s)] [] ⟨.ret (.p (.bool (numL s))), [], []⟩ := by
  refine absCall_of (pol := polG) mixP F.ref1_Number_is ?_
  conv => whnf
  repeat' ((first
   | ((with_reducible first | refine Br.dec ?_ ?_ | refine Br.ndec ?_ ?_) <;> intro hb <;> (try simp only [ZZ] at hb) <;> (first | omega | skip))
   | (with_reducible first | refine Br.tt rfl ?_ | refine Br.ff rfl ?_ | refine Br.ff (isEmptyCons _ _) ?_)
   | ((with_reducible first | refine Side.mk ?_ ?_ | refine WrapW.mk ?_ ?_); focus (first | omega | (dsimp only [InR, Int.reduceToNat, IntKind.bits, Int.reducePow]; omega) | (simp [CC]; done) | (constructor <;> omega)))
   | (refine Br.mk ?_ ?_ <;> intro hb <;> (try simp only [ZZ] at hb) <;> (first | omega | skip))
   | refine Src.whole ⟨rfl, rfl⟩ ?_ | refine FrzV.whole ?_
   | refine CallW.use (ref1_Form s hs) ?_) <;> conv => whnf)
  all_goals exact CLe.retP (by unfold numL; simp [*]; try omega)
theorem int_loop (w : Str) (hw : w.length ≤ 1073741824) (hd : ∀ b ∈ w, dig b = true) (neg : Bool) (R : Option Int) (K : Post)
    (h0 : ∀ v : Int, R = some v → -9223372036854775808 ≤ v → v ≤ 0 → K (.exit 0) [(4, .p (.bool neg)), (9, .p (.int .i64 v))] [] [])
    (hr : R = none → K .ret [(2, .p (.int .i64 0)), (3, .p (.bool false))] [] []) :
    ∀ (q i : Nat) (v : Int), i + q = w.length → -9223372036854775808 ≤ v → v ≤ 0 → negL (w.drop i) v = R →
      LoopW PP GG 59 0 (loopN F.ref1_Int_c 0) [(4, .p (.bool neg)), (5, .p (.str w)), (9, .p (.int .i64 v)), (10, .p (.int .i64 i))] [] [] (PostCl 59 K) := by
  intro q
  induction q with
  | zero =>
    intro i v hi hv0 hv1 hR
    rw [List.drop_eq_nil_of_le (by omega), negL] at hR
    refine LoopW.round (pol := polG) mixP ?_
    conv => whnf
    repeat' ((first
     | ((with_reducible first | refine Br.dec ?_ ?_ | refine Br.ndec ?_ ?_) <;> intro hb <;> (try simp only [ZZ] at hb) <;> (first | omega | skip))
     | (with_reducible first | refine Br.tt rfl ?_ | refine Br.ff rfl ?_ | refine Br.ff (isEmptyCons _ _) ?_)
     | ((with_reducible first | refine Side.mk ?_ ?_ | refine WrapW.mk ?_ ?_); focus (first | omega | (dsimp only [InR, Int.reduceToNat, IntKind.bits, Int.reducePow]; omega) | (simp [CC]; done) | (constructor <;> omega)))
     | (refine Br.mk ?_ ?_ <;> intro hb <;> (try simp only [ZZ] at hb) <;> (first | omega | skip))
     | refine Src.whole ⟨rfl, rfl⟩ ?_ | refine FrzV.whole ?_) <;> conv => whnf)
    · refine PostCl.of (h0 v hR.symm hv0 hv1) ?_ ?_
      · repeat first | exact trivial | refine ⟨VLe.refl _, ?_⟩
      · repeat first | exact trivial | refine ⟨by decide, ?_⟩
  | succ q ih =>
    intro i v hi hv0 hv1 hR
    obtain ⟨b, hb⟩ : ∃ b, w[i]? = some b := ⟨_, List.getElem?_eq_getElem (show i < w.length by omega)⟩
    have hg : w.getD (Int.toNat ↑i) 0 = b := getD_of (by simpa using hb)
    have hdb := hd b (List.mem_of_getElem? hb)
    unfold dig at hdb
    rw [decide_eq_true_eq] at hdb
    rw [drop_cons hb, negL] at hR
    have htd := tdiv_neg10 (-9223372036854775808 + ((b.toNat : Int) - 48)) (by omega)
    refine LoopW.round (pol := polG) mixP ?_
    conv => whnf
    repeat' ((first
     | ((with_reducible first | refine Br.dec ?_ ?_ | refine Br.ndec ?_ ?_) <;> intro hb <;> (try simp only [And.intro @hg (And.intro @htd (ZZ))] at hb) <;> (first | omega | skip))
     | (with_reducible first | refine Br.tt rfl ?_ | refine Br.ff rfl ?_ | refine Br.ff (isEmptyCons _ _) ?_)
     | ((with_reducible first | refine Side.mk ?_ ?_ | refine WrapW.mk ?_ ?_); focus (first | omega | (dsimp only [InR, Int.reduceToNat, IntKind.bits, Int.reducePow]; omega) | (simp only [hg, htd, InR]; omega) | (refine ⟨by decide, ?_⟩; simp only [hg, htd, InR]; omega) | (simp [CC]; done) | (constructor <;> omega)))
     | (refine Br.mk ?_ ?_ <;> intro hb <;> (try simp only [And.intro @hg (And.intro @htd (ZZ))] at hb) <;> (first | omega | skip))
     | refine Src.whole ⟨rfl, rfl⟩ ?_ | refine FrzV.whole ?_) <;> conv => whnf)
    · rw [if_pos (by omega)] at hR
      refine PostCl.of (hr hR.symm) ?_ ?_
      · repeat first | exact trivial | refine ⟨VLe.refl _, ?_⟩
      · repeat first | exact trivial | refine ⟨by decide, ?_⟩
    · rw [if_neg (by omega)] at hR
      rw [hg]
      refine LoopW.sub (ih (i + 1) _ (by omega) (by omega) (by omega) hR) (by repeat first | exact trivial | refine ⟨VLe.refl _, ?_⟩) (by repeat first | exact trivial | refine ⟨by decide, ?_⟩)
theorem ref1_Int (s : Str) (hs : s.length ≤ 1073741824) : AbsCall PP GG F.ref1_Int [.p (.str s)] [] ⟨.ret (.tup [.p (.int .i64 (refIntL s).1), .p (.bool (refIntL s).2)]), [], []⟩ := by
  have hI : refIntL s = if numL s = false ∨ s = [45, 48] then (0, false) else
    if 0 < (numParts s).2.2.1.length ∨ 0 < (numParts s).2.2.2.1.length then (0, false) else
    match negL (numParts s).2.1 0 with
    | none => (0, false)
    | some v => if (numParts s).1 = true then (v, true) else if v = -9223372036854775808 then (0, false) else (-v, true) := rfl
  have hp := ref1_parts s hs
  have hwd := numParts_w s
  rcases hP : numParts s with ⟨neg, w, f, p, ok⟩
  rw [hP] at hI hp hwd
  simp only [] at hI hp hwd
  have hn := ref1_Number s hs
  by_cases hN : numL s = false ∨ s = [45, 48]
  · rw [if_pos hN] at hI
    rw [hI]
    refine absCall_of (pol := polG) mixP F.ref1_Int_is ?_
    conv => whnf
    repeat' ((first
     | ((with_reducible first | refine Br.dec ?_ ?_ | refine Br.ndec ?_ ?_) <;> intro hb <;> (try simp only [ZZ] at hb) <;> (first | omega | skip))
     | (with_reducible first | refine Br.tt rfl ?_ | refine Br.ff rfl ?_ | refine Br.ff (isEmptyCons _ _) ?_)
     | ((with_reducible first | refine Side.mk ?_ ?_ | refine WrapW.mk ?_ ?_); focus (first | omega | (dsimp only [InR, Int.reduceToNat, IntKind.bits, Int.reducePow]; omega) | (simp [CC]; done) | (constructor <;> omega)))
     | (refine Br.mk ?_ ?_ <;> intro hb <;> (try simp only [ZZ] at hb) <;> (first | omega | skip))
     | refine Src.whole ⟨rfl, rfl⟩ ?_ | refine FrzV.whole ?_
     | refine CallW.use (hn) ?_) <;> conv => whnf)
    · exact CLe.eq rfl
    · exact CLe.eq rfl
    · rename_i h2
      exact absurd hN (by rw [h2]; simp; exact hb)
  · rw [if_neg hN] at hI
    simp only [not_or, Bool.not_eq_false] at hN
    rw [hN.1] at hn
    refine absCall_of (pol := polG) mixP F.ref1_Int_is ?_
    conv => whnf
    repeat' ((first
     | ((with_reducible first | refine Br.dec ?_ ?_ | refine Br.ndec ?_ ?_) <;> intro hb <;> (try simp only [ZZ] at hb) <;> (first | omega | skip))
     | (with_reducible first | refine Br.tt rfl ?_ | refine Br.ff rfl ?_ | refine Br.ff (isEmptyCons _ _) ?_)
     | ((with_reducible first | refine Side.mk ?_ ?_ | refine WrapW.mk ?_ ?_); focus (first | omega | (dsimp only [InR, Int.reduceToNat, IntKind.bits, Int.reducePow]; omega) | (simp [CC]; done) | (constructor <;> omega)))
     | (refine Br.mk ?_ ?_ <;> intro hb <;> (try simp only [ZZ] at hb) <;> (first | omega | skip))
     | refine Src.whole ⟨rfl, rfl⟩ ?_ | refine FrzV.whole ?_
     | refine CallW.use (hn) ?_
     | refine CallW.use (hp) ?_) <;> conv => whnf)
    · exact absurd hb hN.2
    · exact CLe.eq (by rw [hI, if_pos (by omega)])
    · exact CLe.eq (by rw [hI, if_pos (by omega)])
    rw [if_neg (by omega)] at hI
    refine LoopW.cl ?_
    refine LoopW.sub (int_loop w (by omega) hwd.1 neg (negL w 0) _ (fun v hv hv0 hv1 => ?_) (fun hv => ?_) w.length 0 0 (by omega) (by omega) (by omega) rfl) (by repeat first | exact trivial | refine ⟨VLe.refl _, ?_⟩) (by repeat first | exact trivial | refine ⟨by decide, ?_⟩)
    · rw [hv] at hI
      simp only [] at hI
      conv => whnf
      repeat' ((first
       | ((with_reducible first | refine Br.dec ?_ ?_ | refine Br.ndec ?_ ?_) <;> intro hb <;> (try simp only [ZZ] at hb) <;> (first | omega | skip))
       | (with_reducible first | refine Br.tt rfl ?_ | refine Br.ff rfl ?_ | refine Br.ff (isEmptyCons _ _) ?_)
       | ((with_reducible first | refine Side.mk ?_ ?_ | refine WrapW.mk ?_ ?_); focus (first | omega | (dsimp only [InR, Int.reduceToNat, IntKind.bits, Int.reducePow]; omega) | (simp [CC]; done) | (constructor <;> omega)))
       | (refine Br.mk ?_ ?_ <;> intro hb <;> (try simp only [ZZ] at hb) <;> (first | omega | skip))
       | refine Src.whole ⟨rfl, rfl⟩ ?_ | refine FrzV.whole ?_) <;> conv => whnf)
      · exact CLe.eq (by rw [hI, if_pos hb])
      · rename_i h1
        exact CLe.eq (by rw [hI, if_neg (by rw [h1]; simp), if_pos hb])
      · rename_i h1
        exact CLe.eq (by rw [hI, if_neg (by rw [h1]; simp), if_neg hb, InR.wrap (by simp only [InR]; omega), Int.zero_sub])
    · rw [hv] at hI
      simp only [] at hI
      conv => whnf
      exact CLe.eq (by rw [hI])
def PlainIs (t : Tree) : Prop := AbsCall PP GG F.ref1_plain [.p t.enc] [] ⟨.ret (.p (.bool (plainT t))), [], []⟩
theorem plain_loopL (t : Tree) (hw : t.wt ≤ 4000000) (R : Bool) (K : Post) (hl : ∀ x ∈ t.l, PlainIs x)
    (h0 : R = true → K (.exit 1) [] [.var T.api_Value (.p t.enc)] [])
    (hr : R = false → K .ret [(2, .p (.bool false))] [.var T.api_Value (.p t.enc)] []) :
    ∀ (q i : Nat), i + q = t.l.length → plainL (t.l.drop i) = R →
      LoopW PP GG 160 0 (loopN F.ref1_plain_c 0) [(1, .ptr 0 0), (6, .p (.int .i64 i))] [.var T.api_Value (.p t.enc)] [] (PostCl 160 K) := by
  rw [Tree.enc_eta t] at h0 hr ⊢
  have hwl := t.wt_ll
  have hlen : (Tree.encL t.l).length = t.l.length := Tree.encL_length _
  intro q
  induction q with
  | zero =>
    intro i hi hR
    rw [List.drop_eq_nil_of_le (by omega), plainL] at hR
    refine LoopW.round (pol := polG) mixP ?_
    conv => whnf
    repeat' ((first
     | ((with_reducible first | refine Br.dec ?_ ?_ | refine Br.ndec ?_ ?_) <;> intro hb <;> (try simp only [And.intro @hlen (ZZ)] at hb) <;> (first | omega | contradiction | skip))
     | (with_reducible first | refine Br.tt rfl ?_ | refine Br.ff rfl ?_ | refine Br.ff (isEmptyCons _ _) ?_)
     | ((with_reducible first | refine Side.mk ?_ ?_ | refine WrapW.mk ?_ ?_); focus (first | omega | (dsimp only [InR, Int.reduceToNat, IntKind.bits, Int.reducePow]; omega) | (simp [CC]; done) | (constructor <;> omega)))
     | with_reducible refine Br.not ?_
     | (with_reducible first | refine Br.tt (by assumption) ?_ | refine Br.ff (by assumption) ?_)
     | (refine Br.mk ?_ ?_ <;> intro hb <;> (try simp only [And.intro @hlen (ZZ)] at hb) <;> (first | omega | contradiction | skip))
     | refine Src.whole ⟨rfl, rfl⟩ ?_ | refine FrzV.whole ?_) <;> conv => whnf)
    · refine PostCl.of (h0 hR.symm) ?_ ?_
      · repeat first | exact trivial | refine ⟨VLe.refl _, ?_⟩
      · repeat first | exact trivial | refine ⟨by decide, ?_⟩
  | succ q ih =>
    intro i hi hR
    obtain ⟨x, hx⟩ : ∃ x, t.l[i]? = some x := ⟨_, List.getElem?_eq_getElem (show i < t.l.length by omega)⟩
    rw [drop_cons hx, plainL] at hR
    have hxm : x ∈ t.l := List.mem_of_getElem? hx
    refine LoopW.round (pol := polG) mixP ?_
    conv => whnf
    repeat' ((first
     | ((with_reducible first | refine Br.dec ?_ ?_ | refine Br.ndec ?_ ?_) <;> intro hb <;> (try simp only [And.intro @hlen (ZZ)] at hb) <;> (first | omega | contradiction | skip))
     | (with_reducible first | refine Br.tt rfl ?_ | refine Br.ff rfl ?_ | refine Br.ff (isEmptyCons _ _) ?_)
     | ((with_reducible first | refine Side.mk ?_ ?_ | refine WrapW.mk ?_ ?_); focus (first | omega | (dsimp only [InR, Int.reduceToNat, IntKind.bits, Int.reducePow]; omega) | exact ⟨(Tree.enc_cells x).symm, (Tree.enc_isAgg x).symm⟩ | (simp [CC]; done) | (constructor <;> omega)))
     | with_reducible refine Br.not ?_
     | (with_reducible first | refine Br.tt (by assumption) ?_ | refine Br.ff (by assumption) ?_)
     | (refine Br.mk ?_ ?_ <;> intro hb <;> (try simp only [And.intro @hlen (ZZ)] at hb) <;> (first | omega | contradiction | skip))
     | refine Src.whole ⟨rfl, rfl⟩ ?_ | refine FrzV.whole ?_
     | refine CallW.use (hl x hxm) ?_
     | (refine ElemZ.tree (by simpa using hx) ?_)) <;> conv => whnf)
    · rw [hb, Bool.true_and] at hR
      refine LoopW.sub (ih (i + 1) (by omega) hR) (by repeat first | exact trivial | refine ⟨VLe.refl _, ?_⟩) (by repeat first | exact trivial | refine ⟨by decide, ?_⟩)
    · rw [hb, Bool.false_and] at hR
      refine PostCl.of (hr hR.symm) ?_ ?_
      · repeat first | exact trivial | refine ⟨VLe.refl _, ?_⟩
      · repeat first | exact trivial | refine ⟨by decide, ?_⟩
theorem plain_loopM (t : Tree) (hw : t.wt ≤ 4000000) (R : Bool) (K : Post) (hl : ∀ x ∈ t.m, PlainIs x.2)
    (h0 : R = true → K (.exit 3) [] [.var T.api_Value (.p t.enc)] [])
    (hr : R = false → K .ret [(2, .p (.bool false))] [.var T.api_Value (.p t.enc)] []) :
    ∀ (q i : Nat) (o : Option Str), i + q = t.m.length → plainM o (t.m.drop i) = R → (i = 0 → o = none) → (0 < i → ∃ p, t.m[i - 1]? = some p ∧ o = some p.1) →
      LoopW PP GG 160 0 (loopN F.ref1_plain_c 1) [(1, .ptr 0 0), (7, .p (.int .i64 i))] [.var T.api_Value (.p t.enc)] [] (PostCl 160 K) := by
  rw [Tree.enc_eta t] at h0 hr ⊢
  have hwl := t.wt_ml
  have hlen : (Tree.encM t.m).length = t.m.length := Tree.encM_length _
  intro q
  induction q with
  | zero =>
    intro i o hi hR ho1 ho2
    rw [List.drop_eq_nil_of_le (by omega), plainM] at hR
    refine LoopW.round (pol := polG) mixP ?_
    conv => whnf
    repeat' ((first
     | ((with_reducible first | refine Br.dec ?_ ?_ | refine Br.ndec ?_ ?_) <;> intro hb <;> (try simp only [And.intro @hlen (ZZ)] at hb) <;> (first | omega | contradiction | skip))
     | (with_reducible first | refine Br.tt rfl ?_ | refine Br.ff rfl ?_ | refine Br.ff (isEmptyCons _ _) ?_)
     | ((with_reducible first | refine Side.mk ?_ ?_ | refine WrapW.mk ?_ ?_); focus (first | omega | (dsimp only [InR, Int.reduceToNat, IntKind.bits, Int.reducePow]; omega) | (simp [CC]; done) | (constructor <;> omega)))
     | with_reducible refine Br.not ?_
     | (with_reducible first | refine Br.tt (by assumption) ?_ | refine Br.ff (by assumption) ?_)
     | (refine Br.mk ?_ ?_ <;> intro hb <;> (try simp only [And.intro @hlen (ZZ)] at hb) <;> (first | omega | contradiction | skip))
     | refine Src.whole ⟨rfl, rfl⟩ ?_ | refine FrzV.whole ?_) <;> conv => whnf)
    · refine PostCl.of (h0 hR.symm) ?_ ?_
      · repeat first | exact trivial | refine ⟨VLe.refl _, ?_⟩
      · repeat first | exact trivial | refine ⟨by decide, ?_⟩
  | succ q ih =>
    intro i o hi hR ho1 ho2
    obtain ⟨x, hx⟩ : ∃ x, t.m[i]? = some x := ⟨_, List.getElem?_eq_getElem (show i < t.m.length by omega)⟩
    rw [drop_cons hx, plainM] at hR
    have hxm : x ∈ t.m := List.mem_of_getElem? hx
    have hsp := hl x hxm
    have hxw := Tree.wt_m hxm
    obtain ⟨k, y⟩ := x
    have hst := ref1_Str k (by simp only [] at hxw; omega)
    unfold PlainIs at hsp
    rw [Tree.enc_eta y] at hsp
    simp only [plainP] at hsp hR
    have next : ∀ (i' : Nat), i' = i + 1 → plainM (some k) (t.m.drop i') = R → LoopW PP GG 160 0 (loopN F.ref1_plain_c 1) [(1, .ptr 0 0), (7, .p (.int .i64 i'))] [.var T.api_Value (.p (.agg [.int .i64 t.kind, .int .i64 t.n, .str t.s, .lst false (Tree.encL t.l), .lst false (Tree.encM t.m)]))] [] (PostCl 160 K) := by
      rintro i' rfl h
      exact ih (i + 1) (some k) (by omega) h (by omega) (fun _ => ⟨(k, y), by simpa using hx, rfl⟩)
    by_cases hi0 : i = 0
    · obtain rfl := ho1 hi0
      subst hi0
      refine LoopW.round (pol := polG) mixP ?_
      conv => whnf
      repeat' ((first
       | ((with_reducible first | refine Br.dec ?_ ?_ | refine Br.ndec ?_ ?_) <;> intro hb <;> (try simp only [And.intro @hlen (ZZ)] at hb) <;> (first | omega | contradiction | skip))
       | (with_reducible first | refine Br.tt rfl ?_ | refine Br.ff rfl ?_ | refine Br.ff (isEmptyCons _ _) ?_)
       | ((with_reducible first | refine Side.mk ?_ ?_ | refine WrapW.mk ?_ ?_); focus (first | omega | (dsimp only [InR, Int.reduceToNat, IntKind.bits, Int.reducePow]; omega) | exact ⟨rfl, rfl⟩ | (simp [CC]; done) | (constructor <;> omega)))
       | with_reducible refine Br.not ?_
       | (with_reducible first | refine Br.tt (by assumption) ?_ | refine Br.ff (by assumption) ?_)
       | (refine Br.mk ?_ ?_ <;> intro hb <;> (try simp only [And.intro @hlen (ZZ)] at hb) <;> (first | omega | contradiction | skip))
       | refine Src.whole ⟨rfl, rfl⟩ ?_ | refine FrzV.whole ?_
       | refine CallW.use (hsp) ?_
       | refine CallW.use (hst) ?_
       | (refine TabsW.lit F.ref1_plain_t28 (by kernel_rfl) ?_)
       | (refine ElemZ.pair (p := (k, y)) (by simpa using hx) ?_; (rw [Tree.encP, Tree.enc_eta y]; conv => whnf))) <;> conv => whnf)
      all_goals
        first
        | (rw [‹strOk k = true›, hb, Bool.not_false, Bool.true_and, Bool.true_and, Bool.true_and] at hR; refine LoopW.sub (next _ rfl hR) (by repeat first | exact trivial | refine ⟨VLe.refl _, ?_⟩) (by repeat first | exact trivial | refine ⟨by decide, ?_⟩))
        | (rw [‹strOk k = true›, hb, Bool.not_false, Bool.true_and, Bool.true_and, Bool.false_and] at hR; refine PostCl.of (hr hR.symm) (by repeat first | exact trivial | refine ⟨VLe.refl _, ?_⟩) (by repeat first | exact trivial | refine ⟨by decide, ?_⟩))
        | (rw [hb, Bool.false_and, Bool.false_and] at hR; refine PostCl.of (hr hR.symm) (by repeat first | exact trivial | refine ⟨VLe.refl _, ?_⟩) (by repeat first | exact trivial | refine ⟨by decide, ?_⟩))
    · obtain ⟨⟨k', y'⟩, hp, rfl⟩ := ho2 (by omega)
      unfold leqS at hR
      simp only [] at hR
      cases hq : (Op.bytesLess k k' || decide (k = k')) with
      | false =>
        rw [hq] at hR
        refine LoopW.round (pol := polG) mixP ?_
        conv => whnf
        repeat' ((first
         | ((with_reducible first | refine Br.dec ?_ ?_ | refine Br.ndec ?_ ?_) <;> intro hb <;> (try simp only [And.intro @hlen (ZZ)] at hb) <;> (first | omega | contradiction | skip))
         | (with_reducible first | refine Br.tt rfl ?_ | refine Br.ff rfl ?_ | refine Br.ff (isEmptyCons _ _) ?_)
         | ((with_reducible first | refine Side.mk ?_ ?_ | refine WrapW.mk ?_ ?_); focus (first | omega | (dsimp only [InR, Int.reduceToNat, IntKind.bits, Int.reducePow]; omega) | exact ⟨rfl, rfl⟩ | (simp [CC]; done) | (constructor <;> omega)))
         | with_reducible refine Br.not ?_
         | (with_reducible first | refine Br.tt (by assumption) ?_ | refine Br.ff (by assumption) ?_)
         | (refine Br.mk ?_ ?_ <;> intro hb <;> (try simp only [And.intro @hlen (ZZ)] at hb) <;> (first | omega | contradiction | skip))
         | refine Src.whole ⟨rfl, rfl⟩ ?_ | refine FrzV.whole ?_
         | refine CallW.use (hsp) ?_
         | refine CallW.use (hst) ?_
         | (refine TabsW.lit F.ref1_plain_t28 (by kernel_rfl) ?_)
         | (refine ElemZ.pair (p := (k, y)) (by simpa using hx) ?_; (rw [Tree.encP, Tree.enc_eta y]; conv => whnf))
         | (refine ElemZ.pair (p := (k', y')) (by rw [show ((i : Int) - 1).toNat = i - 1 by omega]; exact hp) ?_; (rw [Tree.encP, Tree.enc_eta y']; conv => whnf))) <;> conv => whnf)
        all_goals
          first
          | (rw [‹strOk k = true›, hb, Bool.not_false, Bool.true_and, Bool.true_and, Bool.true_and] at hR; refine LoopW.sub (next _ rfl hR) (by repeat first | exact trivial | refine ⟨VLe.refl _, ?_⟩) (by repeat first | exact trivial | refine ⟨by decide, ?_⟩))
          | (rw [‹strOk k = true›, hb, Bool.not_false, Bool.true_and, Bool.true_and, Bool.false_and] at hR; refine PostCl.of (hr hR.symm) (by repeat first | exact trivial | refine ⟨VLe.refl _, ?_⟩) (by repeat first | exact trivial | refine ⟨by decide, ?_⟩))
          | (rw [hb, Bool.false_and, Bool.false_and] at hR; refine PostCl.of (hr hR.symm) (by repeat first | exact trivial | refine ⟨VLe.refl _, ?_⟩) (by repeat first | exact trivial | refine ⟨by decide, ?_⟩))
      | true =>
        rw [hq] at hR
        refine LoopW.round (pol := polG) mixP ?_
        conv => whnf
        repeat' ((first
         | ((with_reducible first | refine Br.dec ?_ ?_ | refine Br.ndec ?_ ?_) <;> intro hb <;> (try simp only [And.intro @hlen (ZZ)] at hb) <;> (first | omega | contradiction | skip))
         | (with_reducible first | refine Br.tt rfl ?_ | refine Br.ff rfl ?_ | refine Br.ff (isEmptyCons _ _) ?_)
         | ((with_reducible first | refine Side.mk ?_ ?_ | refine WrapW.mk ?_ ?_); focus (first | omega | (dsimp only [InR, Int.reduceToNat, IntKind.bits, Int.reducePow]; omega) | exact ⟨rfl, rfl⟩ | (simp [CC]; done) | (constructor <;> omega)))
         | with_reducible refine Br.not ?_
         | (with_reducible first | refine Br.tt (by assumption) ?_ | refine Br.ff (by assumption) ?_)
         | (refine Br.mk ?_ ?_ <;> intro hb <;> (try simp only [And.intro @hlen (ZZ)] at hb) <;> (first | omega | contradiction | skip))
         | refine Src.whole ⟨rfl, rfl⟩ ?_ | refine FrzV.whole ?_
         | refine CallW.use (hsp) ?_
         | refine CallW.use (hst) ?_
         | (refine TabsW.lit F.ref1_plain_t28 (by kernel_rfl) ?_)
         | (refine ElemZ.pair (p := (k, y)) (by simpa using hx) ?_; (rw [Tree.encP, Tree.enc_eta y]; conv => whnf))
         | (refine ElemZ.pair (p := (k', y')) (by rw [show ((i : Int) - 1).toNat = i - 1 by omega]; exact hp) ?_; (rw [Tree.encP, Tree.enc_eta y']; conv => whnf))) <;> conv => whnf)
        all_goals
          first
          | (rw [‹strOk k = true›, Bool.not_true, Bool.true_and, Bool.false_and, Bool.false_and] at hR; refine PostCl.of (hr hR.symm) (by repeat first | exact trivial | refine ⟨VLe.refl _, ?_⟩) (by repeat first | exact trivial | refine ⟨by decide, ?_⟩))
          | (rw [hb, Bool.false_and, Bool.false_and] at hR; refine PostCl.of (hr hR.symm) (by repeat first | exact trivial | refine ⟨VLe.refl _, ?_⟩) (by repeat first | exact trivial | refine ⟨by decide, ?_⟩))
theorem plain_4 (t : Tree) (hw : t.wt ≤ 4000000) (hl : ∀ x ∈ t.l, PlainIs x) (hm : ∀ x ∈ t.m, PlainIs x.2) (hg : ¬ ownBad t.kind t.n t.s.length t.l.length t.m.length) (R : Bool) (K : Post)
    (hR : (nodeOk t.kind t.n t.s && (plainL t.l && plainM none t.m)) = R)
    (h0 : K .ret [(2, .p (.bool R))] [.var T.api_Value (.p t.enc)] []) :
    CutW PP GG 160 0 (tailN F.ref1_plain_c 4) [(1, .ptr 0 0), (3, .p (.int .i64 t.kind))] [.var T.api_Value (.p t.enc)] [] (PostCl 160 K) := by
  have hs := t.wt_s
  have hlL := plain_loopL t hw
  have hlM := plain_loopM t hw
  rw [Tree.enc_eta t] at h0 hlL hlM ⊢
  unfold ownBad at hg
  unfold nodeOk at hR
  have pl : t.kind ≠ 5 → plainL t.l = true := fun h => by rw [List.eq_nil_of_length_eq_zero (show t.l.length = 0 by omega)]; rfl
  have pm : t.kind ≠ 6 → plainM none t.m = true := fun h => by rw [List.eq_nil_of_length_eq_zero (show t.m.length = 0 by omega)]; rfl
  refine CutW.go (pol := polC []) mixP ?_
  conv => whnf
  repeat' ((first
   | ((with_reducible first | refine Br.dec ?_ ?_ | refine Br.ndec ?_ ?_) <;> intro hb <;> (try simp only [ZZ] at hb) <;> (first | omega | contradiction | skip))
   | (with_reducible first | refine Br.tt rfl ?_ | refine Br.ff rfl ?_ | refine Br.ff (isEmptyCons _ _) ?_)
   | ((with_reducible first | refine Side.mk ?_ ?_ | refine WrapW.mk ?_ ?_); focus (first | omega | (dsimp only [InR, Int.reduceToNat, IntKind.bits, Int.reducePow]; omega) | (simp [CC]; done) | (constructor <;> omega)))
   | with_reducible refine Br.not ?_
   | (with_reducible first | refine Br.tt (by assumption) ?_ | refine Br.ff (by assumption) ?_)
   | (refine Br.mk ?_ ?_ <;> intro hb <;> (try simp only [ZZ] at hb) <;> (first | omega | contradiction | skip))
   | refine Src.whole ⟨rfl, rfl⟩ ?_ | refine FrzV.whole ?_
   | refine CallW.use (ref1_Int t.s (by omega)) ?_
   | refine CallW.use (ref1_Number t.s (by omega)) ?_
   | refine CallW.use (ref1_Str t.s (by omega)) ?_
   | refine CallW.use (ref1_Stamp t.s) ?_) <;> conv => whnf)
  · rw [pl (by omega), pm (by omega), if_pos (by omega)] at hR
    subst hR
    refine PostCl.of (h0) ?_ ?_
    · repeat first | exact trivial | refine ⟨VLe.refl _, ?_⟩
    · repeat first | exact trivial | refine ⟨by decide, ?_⟩
  · rw [pl (by omega), pm (by omega), if_pos (by omega)] at hR
    subst hR
    refine PostCl.of (h0) ?_ ?_
    · repeat first | exact trivial | refine ⟨VLe.refl _, ?_⟩
    · repeat first | exact trivial | refine ⟨by decide, ?_⟩
  · rw [pl (by omega), pm (by omega), if_neg (by omega), if_pos (by omega), decide_eq_true (Or.inl hb)] at hR
    subst hR
    refine PostCl.of (h0) ?_ ?_
    · repeat first | exact trivial | refine ⟨VLe.refl _, ?_⟩
    · repeat first | exact trivial | refine ⟨by decide, ?_⟩
  · rw [pl (by omega), pm (by omega), if_neg (by omega), if_pos (by omega), show decide (t.n = 0 ∨ t.n = 1) = decide (t.n = 1) by simp [hb]] at hR
    simp only [And.intro Bool.and_true Bool.true_and] at hR
    subst hR
    refine PostCl.of (h0) ?_ ?_
    · repeat first | exact trivial | refine ⟨VLe.refl _, ?_⟩
    · repeat first | exact trivial | refine ⟨by decide, ?_⟩
  · rw [pl (by omega), pm (by omega), if_neg (by omega), if_neg (by omega), if_pos (by omega), hb] at hR
    simp only [And.intro Bool.and_true Bool.true_and] at hR
    subst hR
    refine PostCl.of (h0) ?_ ?_
    · repeat first | exact trivial | refine ⟨VLe.refl _, ?_⟩
    · repeat first | exact trivial | refine ⟨by decide, ?_⟩
  · rw [pl (by omega), pm (by omega), if_neg (by omega), if_neg (by omega), if_pos (by omega), hb] at hR
    subst hR
    refine PostCl.of (h0) ?_ ?_
    · repeat first | exact trivial | refine ⟨VLe.refl _, ?_⟩
    · repeat first | exact trivial | refine ⟨by decide, ?_⟩
  · rw [pl (by omega), pm (by omega), if_neg (by omega), if_neg (by omega), if_neg (by omega), if_pos (by omega)] at hR
    simp only [And.intro Bool.and_true Bool.true_and] at hR
    subst hR
    refine PostCl.of (h0) ?_ ?_
    · repeat first | exact trivial | refine ⟨VLe.refl _, ?_⟩
    · repeat first | exact trivial | refine ⟨by decide, ?_⟩
  · rw [pl (by omega), pm (by omega), if_neg (by omega), if_neg (by omega), if_neg (by omega), if_neg (by omega), if_pos (by omega)] at hR
    simp only [And.intro Bool.and_true Bool.true_and] at hR
    subst hR
    refine PostCl.of (h0) ?_ ?_
    · repeat first | exact trivial | refine ⟨VLe.refl _, ?_⟩
    · repeat first | exact trivial | refine ⟨by decide, ?_⟩
  · rw [pm (by omega), if_neg (by omega), if_neg (by omega), if_neg (by omega), if_neg (by omega), if_neg (by omega), decide_eq_true (Or.inl hb), Bool.true_and, Bool.and_true] at hR
    refine LoopW.cl ?_
    refine LoopW.sub (hlL R _ hl (fun h => ?_) (fun h => ?_) t.l.length 0 (by omega) hR) (by repeat first | exact trivial | refine ⟨VLe.refl _, ?_⟩) (by repeat first | exact trivial | refine ⟨by decide, ?_⟩)
    · conv => whnf
      subst h
      refine PostCl.of (h0) ?_ ?_
      · repeat first | exact trivial | refine ⟨VLe.refl _, ?_⟩
      · repeat first | exact trivial | refine ⟨by decide, ?_⟩
    · conv => whnf
      subst h
      refine PostCl.of (h0) ?_ ?_
      · repeat first | exact trivial | refine ⟨VLe.refl _, ?_⟩
      · repeat first | exact trivial | refine ⟨by decide, ?_⟩
  · rw [pl (by omega), if_neg (by omega), if_neg (by omega), if_neg (by omega), if_neg (by omega), if_neg (by omega), decide_eq_true (Or.inr hb), Bool.true_and, Bool.true_and] at hR
    refine LoopW.cl ?_
    refine LoopW.sub (hlM R _ hm (fun h => ?_) (fun h => ?_) t.m.length 0 none (by omega) hR (fun _ => rfl) (by omega)) (by repeat first | exact trivial | refine ⟨VLe.refl _, ?_⟩) (by repeat first | exact trivial | refine ⟨by decide, ?_⟩)
    · conv => whnf
      subst h
      refine PostCl.of (h0) ?_ ?_
      · repeat first | exact trivial | refine ⟨VLe.refl _, ?_⟩
      · repeat first | exact trivial | refine ⟨by decide, ?_⟩
    · conv => whnf
      subst h
      refine PostCl.of (h0) ?_ ?_
      · repeat first | exact trivial | refine ⟨VLe.refl _, ?_⟩
      · repeat first | exact trivial | refine ⟨by decide, ?_⟩
  · rw [if_neg (by omega), if_neg (by omega), if_neg (by omega), if_neg (by omega), if_neg (by omega), decide_eq_false (by omega), Bool.false_and] at hR
    subst hR
    refine PostCl.of (h0) ?_ ?_
    · repeat first | exact trivial | refine ⟨VLe.refl _, ?_⟩
    · repeat first | exact trivial | refine ⟨by decide, ?_⟩
theorem ref1_plain : ∀ t : Tree, t.wt ≤ 4000000 → PlainIs t := by
  refine Tree.indW fun t hw hl hm => ?_
  have hP := plainT_eq t
  have h4 := plain_4 t hw (fun x hx => (hl x hx).2) (fun x hx => (hm x hx).2.2)
  have hlen : (Tree.encL t.l).length = t.l.length := Tree.encL_length _
  have hmlen : (Tree.encM t.m).length = t.m.length := Tree.encM_length _
  have hP1 : ownBad t.kind t.n t.s.length t.l.length t.m.length → plainT t = false := fun h => by rw [hP, if_pos h]
  have hP2 : ¬ ownBad t.kind t.n t.s.length t.l.length t.m.length → plainT t = (nodeOk t.kind t.n t.s && (plainL t.l && plainM none t.m)) := fun h => by rw [hP, if_neg h]
  clear hP
  unfold ownBad at hP1 hP2 h4
  unfold PlainIs
  rw [Tree.enc_eta t] at h4 ⊢
  refine absCall_of (pol := polC [4]) mixP F.ref1_plain_is ?_
  conv => whnf
  repeat' ((first
   | ((with_reducible first | refine Br.dec ?_ ?_ | refine Br.ndec ?_ ?_) <;> intro hb <;> (try simp only [And.intro @hlen (And.intro @hmlen (ZZ))] at hb) <;> (first | omega | contradiction | skip))
   | (with_reducible first | refine Br.tt rfl ?_ | refine Br.ff rfl ?_ | refine Br.ff (isEmptyCons _ _) ?_)
   | ((with_reducible first | refine Side.mk ?_ ?_ | refine WrapW.mk ?_ ?_); focus (first | omega | (dsimp only [InR, Int.reduceToNat, IntKind.bits, Int.reducePow]; omega) | (simp [CC]; done) | (constructor <;> omega)))
   | with_reducible refine Br.not ?_
   | (with_reducible first | refine Br.tt (by assumption) ?_ | refine Br.ff (by assumption) ?_)
   | (refine Br.mk ?_ ?_ <;> intro hb <;> (try simp only [And.intro @hlen (And.intro @hmlen (ZZ))] at hb) <;> (first | omega | contradiction | skip))
   | refine Src.whole ⟨rfl, rfl⟩ ?_ | refine FrzV.whole ?_) <;> conv => whnf)
  all_goals
    first
    | exact CLe.retP (by rw [hP1 (by omega)])
    | (refine CutW.cl ?_; refine CutW.sub (h4 (by omega) (plainT t) _ (hP2 (by omega)).symm ?_) (by repeat first | exact trivial | refine ⟨VLe.refl _, ?_⟩) (by repeat first | exact trivial | refine ⟨by decide, ?_⟩); (conv => whnf); exact CLe.eq rfl)
theorem ref1_Value (t : Tree) (hw : t.wt ≤ 4000000) : AbsCall PP GG F.ref1_Value [.p t.enc] [] ⟨.ret (.p (.bool (!(steep t 32 4096).1 && plainT t))), [], []⟩ := by
  have hp := ref1_plain t hw
  have hh := ref1_Heavy t 4096 32 hw (by omega) (by omega)
  unfold PlainIs at hp
  rw [Tree.enc_eta t] at hp hh ⊢
  refine absCall_of (pol := polG) mixP F.ref1_Value_is ?_
  conv => whnf
  repeat' ((first
   | ((with_reducible first | refine Br.dec ?_ ?_ | refine Br.ndec ?_ ?_) <;> intro hb <;> (try simp only [ZZ] at hb) <;> (first | omega | contradiction | skip))
   | (with_reducible first | refine Br.tt rfl ?_ | refine Br.ff rfl ?_ | refine Br.ff (isEmptyCons _ _) ?_)
   | ((with_reducible first | refine Side.mk ?_ ?_ | refine WrapW.mk ?_ ?_); focus (first | omega | (dsimp only [InR, Int.reduceToNat, IntKind.bits, Int.reducePow]; omega) | (simp [CC]; done) | (constructor <;> omega)))
   | with_reducible refine Br.not ?_
   | (with_reducible first | refine Br.tt (by assumption) ?_ | refine Br.ff (by assumption) ?_)
   | (refine Br.mk ?_ ?_ <;> intro hb <;> (try simp only [ZZ] at hb) <;> (first | omega | contradiction | skip))
   | refine Src.whole ⟨rfl, rfl⟩ ?_ | refine FrzV.whole ?_
   | refine CallW.use (hp) ?_
   | refine CallW.use (hh) ?_) <;> conv => whnf)
  · exact CLe.retP (by simp [*])
  · exact CLe.retP (by simp [*])
end Go.Proofs.YthkoefpidnphpaaGreatDoor
end

section
namespace Go.Am
mutual
def sameT : Tree → Tree → Bool
  | .mk k n s l m, .mk k' n' s' l' m' => decide (k = k' ∧ n = n' ∧ l.length = l'.length ∧ m.length = m'.length ∧ s = s') && (sameL l l' && sameM m m')
def sameL : List Tree → List Tree → Bool
  | [], [] => true
  | t :: l, u :: l' => sameT t u && sameL l l'
  | _, _ => false
def sameM : List (Str × Tree) → List (Str × Tree) → Bool
  | [], [] => true
  | p :: m, p' :: m' => sameP p p' && sameM m m'
  | _, _ => false
def sameP : Str × Tree → Str × Tree → Bool
  | (k, t), (k', t') => decide (k = k') && sameT t t'
end
theorem sameT_eq (t u : Tree) : sameT t u = (decide (t.kind = u.kind ∧ t.n = u.n ∧ t.l.length = u.l.length ∧ t.m.length = u.m.length ∧ t.s = u.s) && (sameL t.l u.l && sameM t.m u.m)) := by
  cases t; cases u; rw [sameT]; rfl
theorem sameL_iff : ∀ (l l' : List Tree), (∀ x ∈ l, ∀ u, sameT x u = true ↔ x = u) → (sameL l l' = true ↔ l = l')
  | [], [], _ => by simp [sameL]
  | [], _ :: _, _ => by simp [sameL]
  | _ :: _, [], _ => by simp [sameL]
  | x :: l, y :: l', h => by
    rw [sameL, Bool.and_eq_true, h x (by simp), sameL_iff l l' (fun x hx => h x (by simp [hx]))]
    simp
theorem sameM_iff : ∀ (l l' : List (Str × Tree)), (∀ x ∈ l, ∀ u, sameT x.2 u = true ↔ x.2 = u) → (sameM l l' = true ↔ l = l')
  | [], [], _ => by simp [sameM]
  | [], _ :: _, _ => by simp [sameM]
  | _ :: _, [], _ => by simp [sameM]
  | (k, x) :: l, (k', y) :: l', h => by
    have h1 := h (k, x) (by simp)
    simp only [] at h1
    rw [sameM, sameP, Bool.and_eq_true, Bool.and_eq_true, decide_eq_true_eq, h1, sameM_iff l l' (fun x hx => h x (by simp [hx]))]
    simp
theorem sameT_iff : ∀ (t u : Tree), sameT t u = true ↔ t = u := by
  refine Tree.ind fun t hl hm u => ?_
  rw [sameT_eq, Bool.and_eq_true, Bool.and_eq_true, sameL_iff _ _ hl, sameM_iff _ _ hm, decide_eq_true_eq]
  constructor
  · rintro ⟨⟨h1, h2, _, _, h3⟩, h4, h5⟩
    rw [t.eta, u.eta, h1, h2, h3, h4, h5]
  · rintro rfl
    exact ⟨⟨rfl, rfl, rfl, rfl, rfl⟩, rfl, rfl⟩
end Go.Am
end

section
namespace Go.Proofs.YthkoefpidnphpaaGreatDoor
open Go Go.Am
set_option maxRecDepth 100000
def SameIs (t : Tree) : Prop := ∀ u : Tree, u.wt ≤ 4000000 → AbsCall PP GG F.ref1_Same [.p t.enc, .p u.enc, .p (.bool false)] [] ⟨.ret (.p (.bool (sameT t u))), [], []⟩
theorem same_loopL (t u : Tree) (hw : t.wt ≤ 4000000) (hu : u.wt ≤ 4000000) (hlen : t.l.length = u.l.length) (R : Bool) (K : Post) (hl : ∀ x ∈ t.l, SameIs x)
    (h0 : R = true → K (.exit 0) [(2, .p (.bool false)), (3, .ptr 0 0), (4, .ptr 1 0)] [.var T.api_Value (.p t.enc), .var T.api_Value (.p u.enc)] [])
    (hr : R = false → K .ret [(6, .p (.bool false))] [.var T.api_Value (.p t.enc), .var T.api_Value (.p u.enc)] []) :
    ∀ (q i : Nat), i + q = t.l.length → sameL (t.l.drop i) (u.l.drop i) = R →
      LoopW PP GG 118 0 (loopN F.ref1_Same_c 0) [(2, .p (.bool false)), (3, .ptr 0 0), (4, .ptr 1 0), (7, .p (.int .i64 i))] [.var T.api_Value (.p t.enc), .var T.api_Value (.p u.enc)] [] (PostCl 118 K) := by
  rw [Tree.enc_eta t, Tree.enc_eta u] at h0 hr ⊢
  have hwl := t.wt_ll
  have hel : (Tree.encL t.l).length = t.l.length := Tree.encL_length _
  intro q
  induction q with
  | zero =>
    intro i hi hR
    rw [List.drop_eq_nil_of_le (by omega), List.drop_eq_nil_of_le (by omega), sameL] at hR
    refine LoopW.round (pol := polG) mixP ?_
    conv => whnf
    repeat' ((first
     | ((with_reducible first | refine Br.dec ?_ ?_ | refine Br.ndec ?_ ?_) <;> intro hb <;> (try simp only [And.intro @hel (ZZ)] at hb) <;> (first | omega | contradiction | skip))
     | (with_reducible first | refine Br.tt rfl ?_ | refine Br.ff rfl ?_ | refine Br.ff (isEmptyCons _ _) ?_)
     | ((with_reducible first | refine Side.mk ?_ ?_ | refine WrapW.mk ?_ ?_); focus (first | omega | (dsimp only [InR, Int.reduceToNat, IntKind.bits, Int.reducePow]; omega) | (simp [CC]; done) | (constructor <;> omega)))
     | with_reducible refine Br.not ?_
     | (with_reducible first | refine Br.tt (by assumption) ?_ | refine Br.ff (by assumption) ?_)
     | (refine Br.mk ?_ ?_ <;> intro hb <;> (try simp only [And.intro @hel (ZZ)] at hb) <;> (first | omega | contradiction | skip))
     | refine Src.whole ⟨rfl, rfl⟩ ?_ | refine FrzV.whole ?_) <;> conv => whnf)
    · refine PostCl.of (h0 hR.symm) ?_ ?_
      · repeat first | exact trivial | refine ⟨VLe.refl _, ?_⟩
      · repeat first | exact trivial | refine ⟨by decide, ?_⟩
  | succ q ih =>
    intro i hi hR
    obtain ⟨x, hx⟩ : ∃ x, t.l[i]? = some x := ⟨_, List.getElem?_eq_getElem (show i < t.l.length by omega)⟩
    obtain ⟨y, hy⟩ : ∃ y, u.l[i]? = some y := ⟨_, List.getElem?_eq_getElem (show i < u.l.length by omega)⟩
    rw [drop_cons hx, drop_cons hy, sameL] at hR
    have hxm : x ∈ t.l := List.mem_of_getElem? hx
    have hym := Tree.wt_l (List.mem_of_getElem? hy)
    have hsp := hl x hxm y (by omega)
    rw [Tree.enc_eta x, Tree.enc_eta y] at hsp
    refine LoopW.round (pol := polG) mixP ?_
    conv => whnf
    repeat' ((first
     | ((with_reducible first | refine Br.dec ?_ ?_ | refine Br.ndec ?_ ?_) <;> intro hb <;> (try simp only [And.intro @hel (ZZ)] at hb) <;> (first | omega | contradiction | skip))
     | (with_reducible first | refine Br.tt rfl ?_ | refine Br.ff rfl ?_ | refine Br.ff (isEmptyCons _ _) ?_)
     | ((with_reducible first | refine Side.mk ?_ ?_ | refine WrapW.mk ?_ ?_); focus (first | omega | (dsimp only [InR, Int.reduceToNat, IntKind.bits, Int.reducePow]; omega) | exact ⟨rfl, rfl⟩ | (simp [CC]; done) | (constructor <;> omega)))
     | with_reducible refine Br.not ?_
     | (with_reducible first | refine Br.tt (by assumption) ?_ | refine Br.ff (by assumption) ?_)
     | (refine Br.mk ?_ ?_ <;> intro hb <;> (try simp only [And.intro @hel (ZZ)] at hb) <;> (first | omega | contradiction | skip))
     | refine Src.whole ⟨rfl, rfl⟩ ?_ | refine FrzV.whole ?_
     | refine CallW.use (hsp) ?_
     | (refine ElemZ.tree (l := t.l) (by simpa using hx) ?_; (rw [Tree.enc_eta x]; conv => whnf))
     | (refine ElemZ.tree (l := u.l) (by simpa using hy) ?_; (rw [Tree.enc_eta y]; conv => whnf))) <;> conv => whnf)
    · rw [hb, Bool.true_and] at hR
      refine LoopW.sub (ih (i + 1) (by omega) hR) (by repeat first | exact trivial | refine ⟨VLe.refl _, ?_⟩) (by repeat first | exact trivial | refine ⟨by decide, ?_⟩)
    · rw [hb, Bool.false_and] at hR
      refine PostCl.of (hr hR.symm) ?_ ?_
      · repeat first | exact trivial | refine ⟨VLe.refl _, ?_⟩
      · repeat first | exact trivial | refine ⟨by decide, ?_⟩
theorem same_loopM (t u : Tree) (hw : t.wt ≤ 4000000) (hu : u.wt ≤ 4000000) (hlen : t.m.length = u.m.length) (R : Bool) (K : Post) (hl : ∀ x ∈ t.m, SameIs x.2)
    (h0 : R = true → K (.exit 2) [] [.var T.api_Value (.p t.enc), .var T.api_Value (.p u.enc)] [])
    (hr : R = false → K .ret [(6, .p (.bool false))] [.var T.api_Value (.p t.enc), .var T.api_Value (.p u.enc)] []) :
    ∀ (q i : Nat), i + q = t.m.length → sameM (t.m.drop i) (u.m.drop i) = R →
      LoopW PP GG 118 0 (loopN F.ref1_Same_c 1) [(2, .p (.bool false)), (3, .ptr 0 0), (4, .ptr 1 0), (8, .p (.int .i64 i))] [.var T.api_Value (.p t.enc), .var T.api_Value (.p u.enc)] [] (PostCl 118 K) := by
  rw [Tree.enc_eta t, Tree.enc_eta u] at h0 hr ⊢
  have hwl := t.wt_ml
  have hel : (Tree.encM t.m).length = t.m.length := Tree.encM_length _
  intro q
  induction q with
  | zero =>
    intro i hi hR
    rw [List.drop_eq_nil_of_le (by omega), List.drop_eq_nil_of_le (by omega), sameM] at hR
    refine LoopW.round (pol := polG) mixP ?_
    conv => whnf
    repeat' ((first
     | ((with_reducible first | refine Br.dec ?_ ?_ | refine Br.ndec ?_ ?_) <;> intro hb <;> (try simp only [And.intro @hel (ZZ)] at hb) <;> (first | omega | contradiction | skip))
     | (with_reducible first | refine Br.tt rfl ?_ | refine Br.ff rfl ?_ | refine Br.ff (isEmptyCons _ _) ?_)
     | ((with_reducible first | refine Side.mk ?_ ?_ | refine WrapW.mk ?_ ?_); focus (first | omega | (dsimp only [InR, Int.reduceToNat, IntKind.bits, Int.reducePow]; omega) | (simp [CC]; done) | (constructor <;> omega)))
     | with_reducible refine Br.not ?_
     | (with_reducible first | refine Br.tt (by assumption) ?_ | refine Br.ff (by assumption) ?_)
     | (refine Br.mk ?_ ?_ <;> intro hb <;> (try simp only [And.intro @hel (ZZ)] at hb) <;> (first | omega | contradiction | skip))
     | refine Src.whole ⟨rfl, rfl⟩ ?_ | refine FrzV.whole ?_) <;> conv => whnf)
    · refine PostCl.of (h0 hR.symm) ?_ ?_
      · repeat first | exact trivial | refine ⟨VLe.refl _, ?_⟩
      · repeat first | exact trivial | refine ⟨by decide, ?_⟩
  | succ q ih =>
    intro i hi hR
    obtain ⟨x, hx⟩ : ∃ x, t.m[i]? = some x := ⟨_, List.getElem?_eq_getElem (show i < t.m.length by omega)⟩
    obtain ⟨y, hy⟩ : ∃ y, u.m[i]? = some y := ⟨_, List.getElem?_eq_getElem (show i < u.m.length by omega)⟩
    rw [drop_cons hx, drop_cons hy, sameM] at hR
    have hxm : x ∈ t.m := List.mem_of_getElem? hx
    have hym := Tree.wt_m (List.mem_of_getElem? hy)
    have hsp := hl x hxm y.2 (by omega)
    obtain ⟨k, x⟩ := x
    obtain ⟨k', y⟩ := y
    rw [sameP] at hR
    simp only [] at hsp
    rw [Tree.enc_eta x, Tree.enc_eta y] at hsp
    by_cases hk : k = k'
    · rw [decide_eq_true hk, Bool.true_and] at hR
      refine LoopW.round (pol := polG) mixP ?_
      conv => whnf
      repeat' ((first
       | ((with_reducible first | refine Br.dec ?_ ?_ | refine Br.ndec ?_ ?_) <;> intro hb <;> (try simp only [And.intro @hel (ZZ)] at hb) <;> (first | omega | contradiction | skip))
       | (with_reducible first | refine Br.tt rfl ?_ | refine Br.ff rfl ?_ | refine Br.ff (isEmptyCons _ _) ?_)
       | ((with_reducible first | refine Side.mk ?_ ?_ | refine WrapW.mk ?_ ?_); focus (first | omega | (dsimp only [InR, Int.reduceToNat, IntKind.bits, Int.reducePow]; omega) | exact ⟨rfl, rfl⟩ | (simp [CC]; done) | (constructor <;> omega)))
       | with_reducible refine Br.not ?_
       | (with_reducible first | refine Br.tt (by assumption) ?_ | refine Br.ff (by assumption) ?_)
       | (refine Br.mk ?_ ?_ <;> intro hb <;> (try simp only [And.intro @hel (ZZ)] at hb) <;> (first | omega | contradiction | skip))
       | refine Src.whole ⟨rfl, rfl⟩ ?_ | refine FrzV.whole ?_
       | refine CallW.use (hsp) ?_
       | (refine TabsW.lit F.ref1_Same_t13 (by kernel_rfl) ?_)
       | (refine ElemZ.pairE (m := t.m) (k := k) (y := x) (by simpa using hx) ?_)
       | (refine ElemZ.pairE (m := u.m) (k := k') (y := y) (by simpa using hy) ?_)) <;> conv => whnf)
      · rw [hb, Bool.true_and] at hR
        refine LoopW.sub (ih (i + 1) (by omega) hR) (by repeat first | exact trivial | refine ⟨VLe.refl _, ?_⟩) (by repeat first | exact trivial | refine ⟨by decide, ?_⟩)
      · rw [hb, Bool.false_and] at hR
        refine PostCl.of (hr hR.symm) ?_ ?_
        · repeat first | exact trivial | refine ⟨VLe.refl _, ?_⟩
        · repeat first | exact trivial | refine ⟨by decide, ?_⟩
    · rw [decide_eq_false hk, Bool.false_and, Bool.false_and] at hR
      refine LoopW.round (pol := polG) mixP ?_
      conv => whnf
      repeat' ((first
       | ((with_reducible first | refine Br.dec ?_ ?_ | refine Br.ndec ?_ ?_) <;> intro hb <;> (try simp only [And.intro @hel (ZZ)] at hb) <;> (first | omega | contradiction | skip))
       | (with_reducible first | refine Br.tt rfl ?_ | refine Br.ff rfl ?_ | refine Br.ff (isEmptyCons _ _) ?_)
       | ((with_reducible first | refine Side.mk ?_ ?_ | refine WrapW.mk ?_ ?_); focus (first | omega | (dsimp only [InR, Int.reduceToNat, IntKind.bits, Int.reducePow]; omega) | exact ⟨rfl, rfl⟩ | (simp [CC]; done) | (constructor <;> omega)))
       | with_reducible refine Br.not ?_
       | (with_reducible first | refine Br.tt (by assumption) ?_ | refine Br.ff (by assumption) ?_)
       | (refine Br.mk ?_ ?_ <;> intro hb <;> (try simp only [And.intro @hel (ZZ)] at hb) <;> (first | omega | contradiction | skip))
       | refine Src.whole ⟨rfl, rfl⟩ ?_ | refine FrzV.whole ?_
       | refine CallW.use (hsp) ?_
       | (refine TabsW.lit F.ref1_Same_t13 (by kernel_rfl) ?_)
       | (refine ElemZ.pairE (m := t.m) (k := k) (y := x) (by simpa using hx) ?_)
       | (refine ElemZ.pairE (m := u.m) (k := k') (y := y) (by simpa using hy) ?_)) <;> conv => whnf)
      refine PostCl.of (hr hR.symm) ?_ ?_
      · repeat first | exact trivial | refine ⟨VLe.refl _, ?_⟩
      · repeat first | exact trivial | refine ⟨by decide, ?_⟩
theorem ref1_Same : ∀ t : Tree, t.wt ≤ 4000000 → SameIs t := by
  refine Tree.indW fun t hw hl hm u hu => ?_
  have hS := sameT_eq t u
  have hlL := same_loopL t u hw hu
  have hlM := same_loopM t u hw hu
  have hel : (Tree.encL t.l).length = t.l.length := Tree.encL_length _
  have hem : (Tree.encM t.m).length = t.m.length := Tree.encM_length _
  have hel2 : (Tree.encL u.l).length = u.l.length := Tree.encL_length _
  have hem2 : (Tree.encM u.m).length = u.m.length := Tree.encM_length _
  generalize sameT t u = R at hS ⊢
  rw [Tree.enc_eta t, Tree.enc_eta u] at hlL hlM ⊢
  by_cases hc : t.kind = u.kind ∧ t.n = u.n ∧ t.l.length = u.l.length ∧ t.m.length = u.m.length ∧ t.s = u.s
  · rw [decide_eq_true hc, Bool.true_and] at hS
    obtain ⟨h1, h2, h3, h4, h5⟩ := hc
    refine absCall_of (pol := polG) mixP F.ref1_Same_is ?_
    conv => whnf
    repeat' ((first
     | ((with_reducible first | refine Br.dec ?_ ?_ | refine Br.ndec ?_ ?_) <;> intro hb <;> (try simp only [And.intro @hel (And.intro @hem (And.intro @hel2 (And.intro @hem2 (ZZ))))] at hb) <;> (first | omega | contradiction | skip))
     | (with_reducible first | refine Br.tt rfl ?_ | refine Br.ff rfl ?_ | refine Br.ff (isEmptyCons _ _) ?_)
     | ((with_reducible first | refine Side.mk ?_ ?_ | refine WrapW.mk ?_ ?_); focus (first | omega | (dsimp only [InR, Int.reduceToNat, IntKind.bits, Int.reducePow]; omega) | (simp [CC]; done) | (constructor <;> omega)))
     | with_reducible refine Br.not ?_
     | (with_reducible first | refine Br.tt (by assumption) ?_ | refine Br.ff (by assumption) ?_)
     | (refine Br.mk ?_ ?_ <;> intro hb <;> (try simp only [And.intro @hel (And.intro @hem (And.intro @hel2 (And.intro @hem2 (ZZ))))] at hb) <;> (first | omega | contradiction | skip))
     | refine Src.whole ⟨rfl, rfl⟩ ?_ | refine FrzV.whole ?_
     | (refine TabsW.lit F.ref1_Same_t1 (by kernel_rfl) ?_)) <;> conv => whnf)
    refine LoopW.cl ?_
    refine LoopW.sub (hlL h3 (sameL t.l u.l) _ (fun x hx => (hl x hx).2) (fun h => ?_) (fun h => ?_) t.l.length 0 (by omega) rfl) (by repeat first | exact trivial | refine ⟨VLe.refl _, ?_⟩) (by repeat first | exact trivial | refine ⟨by decide, ?_⟩)
    · conv => whnf
      rw [h, Bool.true_and] at hS
      repeat' ((first
       | ((with_reducible first | refine Br.dec ?_ ?_ | refine Br.ndec ?_ ?_) <;> intro hb <;> (try simp only [ZZ] at hb) <;> (first | omega | contradiction | skip))
       | (with_reducible first | refine Br.tt rfl ?_ | refine Br.ff rfl ?_ | refine Br.ff (isEmptyCons _ _) ?_)
       | ((with_reducible first | refine Side.mk ?_ ?_ | refine WrapW.mk ?_ ?_); focus (first | omega | (dsimp only [InR, Int.reduceToNat, IntKind.bits, Int.reducePow]; omega) | (simp [CC]; done) | (constructor <;> omega)))
       | with_reducible refine Br.not ?_
       | (with_reducible first | refine Br.tt (by assumption) ?_ | refine Br.ff (by assumption) ?_)
       | (refine Br.mk ?_ ?_ <;> intro hb <;> (try simp only [ZZ] at hb) <;> (first | omega | contradiction | skip))
       | refine Src.whole ⟨rfl, rfl⟩ ?_ | refine FrzV.whole ?_) <;> conv => whnf)
      refine LoopW.cl ?_
      refine LoopW.sub (hlM h4 R _ (fun x hx => (hm x hx).2.2) (fun h => ?_) (fun h => ?_) t.m.length 0 (by omega) hS.symm) (by repeat first | exact trivial | refine ⟨VLe.refl _, ?_⟩) (by repeat first | exact trivial | refine ⟨by decide, ?_⟩)
      · conv => whnf
        exact CLe.retP (by rw [h])
      · conv => whnf
        exact CLe.retP (by rw [h])
    · conv => whnf
      rw [h, Bool.false_and] at hS
      exact CLe.retP (by rw [hS])
  · rw [decide_eq_false hc, Bool.false_and] at hS
    subst hS
    refine absCall_of (pol := polG) mixP F.ref1_Same_is ?_
    conv => whnf
    repeat' ((first
     | ((with_reducible first | refine Br.dec ?_ ?_ | refine Br.ndec ?_ ?_) <;> intro hb <;> (try simp only [And.intro @hel (And.intro @hem (And.intro @hel2 (And.intro @hem2 (ZZ))))] at hb) <;> (first | omega | contradiction | skip))
     | (with_reducible first | refine Br.tt rfl ?_ | refine Br.ff rfl ?_ | refine Br.ff (isEmptyCons _ _) ?_)
     | ((with_reducible first | refine Side.mk ?_ ?_ | refine WrapW.mk ?_ ?_); focus (first | omega | (dsimp only [InR, Int.reduceToNat, IntKind.bits, Int.reducePow]; omega) | (simp [CC]; done) | (constructor <;> omega)))
     | with_reducible refine Br.not ?_
     | (with_reducible first | refine Br.tt (by assumption) ?_ | refine Br.ff (by assumption) ?_)
     | (refine Br.mk ?_ ?_ <;> intro hb <;> (try simp only [And.intro @hel (And.intro @hem (And.intro @hel2 (And.intro @hem2 (ZZ))))] at hb) <;> (first | omega | contradiction | skip))
     | refine Src.whole ⟨rfl, rfl⟩ ?_ | refine FrzV.whole ?_) <;> conv => whnf)
    all_goals first
      | exact CLe.retP rfl
      | exact absurd ⟨by omega, by omega, by omega, by omega, by assumption⟩ hc
end Go.Proofs.YthkoefpidnphpaaGreatDoor
end

section
namespace Go.Proofs.YthkoefpidnphpaaGreatDoor
open Go Go.Am Go.RowKit
set_option maxRecDepth 100000
theorem nullT_wt : nullT.wt ≤ 4000000 := by decide
theorem getT_wt : ∀ (p : List Stp) (v y : Tree), getT v p = some y → y.wt ≤ v.wt
  | [], v, y, h => by rw [getT] at h; cases h; exact Nat.le_refl _
  | s :: p, v, y, h => by
    rw [getT] at h
    split at h
    · cases h
    · rename_i hn
      exact Nat.le_trans (getT_wt p _ y h) (part_wt v s (by omega)).1
theorem absEmpty {f : FuncId} {H : Heap} {cr : CR} (h1 : AbsCall PP GG f [.p .nils] H cr) (h2 : AbsCall PP GG f [.p .emp] H cr) (ex : Bool) : AbsCall PP GG f [.p (.lst ex [])] H cr := by
  intro B L w vs hst ha hg
  obtain ⟨v, rfl, hv⟩ := vrel1 ha
  have hp := hv.of_p
  have one : ∀ d : PV, PRel B w d v → VRelL B L w [.p d] [v] := fun d hd => ⟨rfl, fun i x y hx hy => by
    cases i with
    | zero => cases hx; cases hy; exact .p _ _ hd
    | succ i => simp at hx⟩
  cases hp with
  | lst0 ex a cap he hn =>
    cases a with
    | none =>
      obtain rfl := hn rfl
      exact h1 B L w _ hst (one _ .nils) hg
    | some a => exact h2 B L w _ hst (one _ (.emp a cap)) hg
  | lst ex l b o cap sz u hb hw hz hs hf hcap he hc hr => exact h2 B L w _ hst (one _ (.emp _ cap)) hg
def polK : Pol := { keepR := fun f => Nat.beq f F.slices_Clone_api_Value_api_Value || Nat.beq f F.slices_Clone_api_Pair_api_Pair, byref := fun _ => false, mask := fun _ _ => none }
theorem clone_vals0 : AbsCall PP GG F.slices_Clone_api_Value_api_Value [.p (.lst false [])] [] ⟨.ret (.p (.lst false [])), [], []⟩ := by
  refine absEmpty ?_ ?_ false
  · refine absCall_of (pol := polG) mixP F.slices_Clone_api_Value_api_Value_is ?_
    conv => whnf
    repeat' ((first
     | ((with_reducible first | refine Br.dec ?_ ?_ | refine Br.ndec ?_ ?_) <;> intro hb <;> (try simp only [ZZ] at hb) <;> (first | omega | contradiction | skip))
     | (with_reducible first | refine Br.tt rfl ?_ | refine Br.ff rfl ?_ | refine Br.ff (isEmptyCons _ _) ?_)
     | ((with_reducible first | refine Side.mk ?_ ?_ | refine WrapW.mk ?_ ?_); focus (first | omega | (dsimp only [InR, Int.reduceToNat, IntKind.bits, Int.reducePow]; omega) | (simp [CC]; done) | (constructor <;> omega)))
     | with_reducible refine Br.not ?_
     | (with_reducible first | refine Br.tt (by assumption) ?_ | refine Br.ff (by assumption) ?_)
     | (refine Br.mk ?_ ?_ <;> intro hb <;> (try simp only [ZZ] at hb) <;> (first | omega | contradiction | skip))
     | refine Src.whole ⟨rfl, rfl⟩ ?_ | refine FrzV.whole ?_) <;> conv => whnf)
    exact CLe.ret (PLe.nils false).p
  · refine absCall_of (pol := polG) mixP F.slices_Clone_api_Value_api_Value_is ?_
    conv => whnf
    repeat' ((first
     | ((with_reducible first | refine Br.dec ?_ ?_ | refine Br.ndec ?_ ?_) <;> intro hb <;> (try simp only [ZZ] at hb) <;> (first | omega | contradiction | skip))
     | (with_reducible first | refine Br.tt rfl ?_ | refine Br.ff rfl ?_ | refine Br.ff (isEmptyCons _ _) ?_)
     | ((with_reducible first | refine Side.mk ?_ ?_ | refine WrapW.mk ?_ ?_); focus (first | omega | (dsimp only [InR, Int.reduceToNat, IntKind.bits, Int.reducePow]; omega) | exact (fun y hy => by cases hy) | exact ⟨fun y hy => by cases hy, rfl, by decide⟩ | (simp [CC]; done) | (constructor <;> omega)))
     | with_reducible refine Br.not ?_
     | (with_reducible first | refine Br.tt (by assumption) ?_ | refine Br.ff (by assumption) ?_)
     | (refine Br.mk ?_ ?_ <;> intro hb <;> (try simp only [ZZ] at hb) <;> (first | omega | contradiction | skip))
     | refine Src.whole ⟨rfl, rfl⟩ ?_ | refine FrzV.whole ?_) <;> conv => whnf)
    exact CLe.eq rfl
theorem clone_pairs0 : AbsCall PP GG F.slices_Clone_api_Pair_api_Pair [.p (.lst false [])] [] ⟨.ret (.p (.lst false [])), [], []⟩ := by
  refine absEmpty ?_ ?_ false
  · refine absCall_of (pol := polG) mixP F.slices_Clone_api_Pair_api_Pair_is ?_
    conv => whnf
    repeat' ((first
     | ((with_reducible first | refine Br.dec ?_ ?_ | refine Br.ndec ?_ ?_) <;> intro hb <;> (try simp only [ZZ] at hb) <;> (first | omega | contradiction | skip))
     | (with_reducible first | refine Br.tt rfl ?_ | refine Br.ff rfl ?_ | refine Br.ff (isEmptyCons _ _) ?_)
     | ((with_reducible first | refine Side.mk ?_ ?_ | refine WrapW.mk ?_ ?_); focus (first | omega | (dsimp only [InR, Int.reduceToNat, IntKind.bits, Int.reducePow]; omega) | (simp [CC]; done) | (constructor <;> omega)))
     | with_reducible refine Br.not ?_
     | (with_reducible first | refine Br.tt (by assumption) ?_ | refine Br.ff (by assumption) ?_)
     | (refine Br.mk ?_ ?_ <;> intro hb <;> (try simp only [ZZ] at hb) <;> (first | omega | contradiction | skip))
     | refine Src.whole ⟨rfl, rfl⟩ ?_ | refine FrzV.whole ?_) <;> conv => whnf)
    exact CLe.ret (PLe.nils false).p
  · refine absCall_of (pol := polG) mixP F.slices_Clone_api_Pair_api_Pair_is ?_
    conv => whnf
    repeat' ((first
     | ((with_reducible first | refine Br.dec ?_ ?_ | refine Br.ndec ?_ ?_) <;> intro hb <;> (try simp only [ZZ] at hb) <;> (first | omega | contradiction | skip))
     | (with_reducible first | refine Br.tt rfl ?_ | refine Br.ff rfl ?_ | refine Br.ff (isEmptyCons _ _) ?_)
     | ((with_reducible first | refine Side.mk ?_ ?_ | refine WrapW.mk ?_ ?_); focus (first | omega | (dsimp only [InR, Int.reduceToNat, IntKind.bits, Int.reducePow]; omega) | exact (fun y hy => by cases hy) | exact ⟨fun y hy => by cases hy, rfl, by decide⟩ | (simp [CC]; done) | (constructor <;> omega)))
     | with_reducible refine Br.not ?_
     | (with_reducible first | refine Br.tt (by assumption) ?_ | refine Br.ff (by assumption) ?_)
     | (refine Br.mk ?_ ?_ <;> intro hb <;> (try simp only [ZZ] at hb) <;> (first | omega | contradiction | skip))
     | refine Src.whole ⟨rfl, rfl⟩ ?_ | refine FrzV.whole ?_) <;> conv => whnf)
    exact CLe.eq rfl
theorem clone_vals (l : List Tree) (hne : l ≠ []) (hl : l.length ≤ 4000000) : AbsCall PP GG F.slices_Clone_api_Value_api_Value [.p (.lst false (Tree.encL l))] [] ⟨.ret (.sl 0 0 (Tree.encL l).length), [.arr T.api_Value 5 (Tree.encL l)], []⟩ := by
  have hc : ∀ y ∈ Tree.encL l, y.cells.length = 5 := fun y hy => by
    obtain ⟨i, hi⟩ := List.getElem?_of_mem hy
    rw [Tree.encL_eq, List.getElem?_map, Option.map_eq_some_iff] at hi
    obtain ⟨t, _, rfl⟩ := hi
    exact Tree.enc_cells t
  have hll : (Tree.encL l).length = l.length := Tree.encL_length _
  obtain ⟨t, r, rfl⟩ := List.exists_cons_of_ne_nil hne
  rw [Tree.encL] at hc hll ⊢
  generalize Tree.enc t = e at *
  generalize Tree.encL r = es at *
  refine absCall_of (pol := polK) mixP F.slices_Clone_api_Value_api_Value_is ?_
  conv => whnf
  repeat' ((first
   | ((with_reducible first | refine Br.dec ?_ ?_ | refine Br.ndec ?_ ?_) <;> intro hb <;> (try simp only [ZZ] at hb) <;> (first | omega | contradiction | skip))
   | (with_reducible first | refine Br.tt rfl ?_ | refine Br.ff rfl ?_ | refine Br.ff (isEmptyCons _ _) ?_)
   | ((with_reducible first | refine Side.mk ?_ ?_ | refine WrapW.mk ?_ ?_); focus (first | omega | (dsimp only [InR, Int.reduceToNat, IntKind.bits, Int.reducePow]; omega) | exact (fun y hy => by cases hy) | exact ⟨hc, rfl, by show (0 + (es.length + 1)) * 160 ≤ _; simp only [List.length_cons] at hl; simp only [List.length_cons, Nat.add_right_cancel_iff] at hll; omega⟩ | (simp [CC]; done) | (constructor <;> omega)))
   | with_reducible refine Br.not ?_
   | (with_reducible first | refine Br.tt (by assumption) ?_ | refine Br.ff (by assumption) ?_)
   | (refine Br.mk ?_ ?_ <;> intro hb <;> (try simp only [ZZ] at hb) <;> (first | omega | contradiction | skip))
   | refine Src.whole ⟨rfl, rfl⟩ ?_ | refine FrzV.whole ?_) <;> conv => whnf)
  exact CLe.eq rfl
theorem clone_pairs (m : List (Str × Tree)) (hne : m ≠ []) (hl : m.length ≤ 4000000) : AbsCall PP GG F.slices_Clone_api_Pair_api_Pair [.p (.lst false (Tree.encM m))] [] ⟨.ret (.sl 0 0 (Tree.encM m).length), [.arr T.api_Pair 6 (Tree.encM m)], []⟩ := by
  have hc : ∀ y ∈ Tree.encM m, y.cells.length = 6 := fun y hy => by
    obtain ⟨i, hi⟩ := List.getElem?_of_mem hy
    rw [Tree.encM_eq, List.getElem?_map, Option.map_eq_some_iff] at hi
    obtain ⟨t, _, rfl⟩ := hi
    exact Tree.encP_cells t
  have hll : (Tree.encM m).length = m.length := Tree.encM_length _
  obtain ⟨t, r, rfl⟩ := List.exists_cons_of_ne_nil hne
  rw [Tree.encM] at hc hll ⊢
  generalize Tree.encP t = e at *
  generalize Tree.encM r = es at *
  refine absCall_of (pol := polK) mixP F.slices_Clone_api_Pair_api_Pair_is ?_
  conv => whnf
  repeat' ((first
   | ((with_reducible first | refine Br.dec ?_ ?_ | refine Br.ndec ?_ ?_) <;> intro hb <;> (try simp only [ZZ] at hb) <;> (first | omega | contradiction | skip))
   | (with_reducible first | refine Br.tt rfl ?_ | refine Br.ff rfl ?_ | refine Br.ff (isEmptyCons _ _) ?_)
   | ((with_reducible first | refine Side.mk ?_ ?_ | refine WrapW.mk ?_ ?_); focus (first | omega | (dsimp only [InR, Int.reduceToNat, IntKind.bits, Int.reducePow]; omega) | exact (fun y hy => by cases hy) | exact ⟨hc, rfl, by show (0 + (es.length + 1)) * 192 ≤ _; simp only [List.length_cons] at hl; simp only [List.length_cons, Nat.add_right_cancel_iff] at hll; omega⟩ | (simp [CC]; done) | (constructor <;> omega)))
   | with_reducible refine Br.not ?_
   | (with_reducible first | refine Br.tt (by assumption) ?_ | refine Br.ff (by assumption) ?_)
   | (refine Br.mk ?_ ?_ <;> intro hb <;> (try simp only [ZZ] at hb) <;> (first | omega | contradiction | skip))
   | refine Src.whole ⟨rfl, rfl⟩ ?_ | refine FrzV.whole ?_) <;> conv => whnf)
  exact CLe.eq rfl
theorem frz_with (q m : Nat) (es : List PV) (k n : Int) (s : Str) (l : List PV) (hm : m = es.length) :
    V.frz q es (.agg [.p (.int .i64 k), .p (.int .i64 n), .p (.str s), .sl q 0 m, .p (.lst false l)]) = .p (.agg [.int .i64 k, .int .i64 n, .str s, .lst false es, .lst false l]) := by
  subst hm
  simp only [V.frz, V.frzL, if_pos, Nat.zero_add, Nat.le_refl, List.drop_zero, List.take_length]
  rfl
theorem frzO_with (q m : Nat) (es : List PV) (k n : Int) (s : Str) (l : List PV) (t : Nat) (hm : m = es.length) :
    HO.frz q es (.var t (.agg [.p (.int .i64 k), .p (.int .i64 n), .p (.str s), .sl q 0 m, .p (.lst false l)])) = .var t (.p (.agg [.int .i64 k, .int .i64 n, .str s, .lst false es, .lst false l])) := by
  rw [HO.frz, frz_with q m es k n s l hm]
theorem path_with_l (k n : Int) (s : Str) (l : List Tree) (i : Nat) (y : Tree) (hk : k = 5) (hl : l.length ≤ 4000000) (hi : i < l.length) :
    AbsCall PP GG F.path_with [.p (Tree.mk k n s l []).enc, .p (.int .i64 i), .p y.enc] [] ⟨.ret (.p (Tree.mk k n s (l.set i y) []).enc), [], []⟩ := by
  subst hk
  have hne : l ≠ [] := by rintro rfl; simp at hi
  have hC := clone_vals l hne hl
  have hD := clone_pairs0
  have hel : (Tree.encL l).length = l.length := Tree.encL_length _
  rw [Tree.enc_eta y, Tree.enc_eta (Tree.mk 5 n s l []), Tree.enc_eta (Tree.mk 5 n s (l.set i y) [])]
  simp only [Tree.kind, Tree.n, Tree.s, Tree.l, Tree.m]
  show AbsCall PP GG F.path_with [.p (.agg [.int .i64 5, .int .i64 n, .str s, .lst false (Tree.encL l), .lst false []]), .p (.int .i64 i), .p (.agg [.int .i64 y.kind, .int .i64 y.n, .str y.s, .lst false (Tree.encL y.l), .lst false (Tree.encM y.m)])] [] _
  obtain ⟨x, hx⟩ : ∃ x, l[i]? = some x := ⟨_, List.getElem?_eq_getElem hi⟩
  have hxe : (Tree.encL l)[(i : Int).toNat]? = some (.agg [.int .i64 x.kind, .int .i64 x.n, .str x.s, .lst false (Tree.encL x.l), .lst false (Tree.encM x.m)]) := by
    rw [Int.toNat_natCast, Tree.encL_get hx, Tree.enc_eta x]
  have hset : Tree.encL (l.set i y) = (Tree.encL l).set i (.agg [.int .i64 y.kind, .int .i64 y.n, .str y.s, .lst false (Tree.encL y.l), .lst false (Tree.encM y.m)]) := by
    rw [Tree.encL_eq, Tree.encL_eq, List.map_set, Tree.enc_eta y]
  rw [hset]
  generalize Tree.encL l = es at *
  refine absCall_of (pol := polG) mixP F.path_with_is ?_
  conv => whnf
  repeat' ((first
   | ((with_reducible first | refine Br.dec ?_ ?_ | refine Br.ndec ?_ ?_) <;> intro hb <;> (try simp only [And.intro @hel (ZZ)] at hb) <;> (first | omega | contradiction | skip))
   | (with_reducible first | refine Br.tt rfl ?_ | refine Br.ff rfl ?_ | refine Br.ff (isEmptyCons _ _) ?_)
   | ((with_reducible first | refine Side.mk ?_ ?_ | refine WrapW.mk ?_ ?_); focus (first | omega | (dsimp only [InR, Int.reduceToNat, IntKind.bits, Int.reducePow]; omega) | exact ⟨rfl, rfl, rfl, rfl⟩ | (simp [CC]; done) | (constructor <;> omega)))
   | with_reducible refine Br.not ?_
   | (with_reducible first | refine Br.tt (by assumption) ?_ | refine Br.ff (by assumption) ?_)
   | (refine Br.mk ?_ ?_ <;> intro hb <;> (try simp only [And.intro @hel (ZZ)] at hb) <;> (first | omega | contradiction | skip))
   | refine Src.whole ⟨rfl, rfl⟩ ?_ | refine FrzV.whole ?_
   | refine CallW.use (hC) ?_
   | refine CallW.use (hD) ?_
   | (refine ElemA.mk _ hxe ?_)) <;> conv => whnf)
  refine FrzV.mk _ (frz_with 3 _ _ _ _ _ _ (by rw [List.length_set])) ?_
  conv => whnf
  refine FrzO.mk _ (frzO_with 3 _ _ _ _ _ _ _ (by rw [List.length_set])) ?_
  conv => whnf
  refine FrzO.mk _ (frzO_with 3 _ _ _ _ _ _ _ (by rw [List.length_set])) ?_
  conv => whnf
  exact CLe.retP rfl
theorem frzM_with (q m : Nat) (es : List PV) (k n : Int) (s : Str) (l : List PV) (hm : m = es.length) :
    V.frz q es (.agg [.p (.int .i64 k), .p (.int .i64 n), .p (.str s), .p (.lst false l), .sl q 0 m]) = .p (.agg [.int .i64 k, .int .i64 n, .str s, .lst false l, .lst false es]) := by
  subst hm
  simp only [V.frz, V.frzL, if_pos, Nat.zero_add, Nat.le_refl, List.drop_zero, List.take_length]
  rfl
theorem frzMO_with (q m : Nat) (es : List PV) (k n : Int) (s : Str) (l : List PV) (t : Nat) (hm : m = es.length) :
    HO.frz q es (.var t (.agg [.p (.int .i64 k), .p (.int .i64 n), .p (.str s), .p (.lst false l), .sl q 0 m])) = .var t (.p (.agg [.int .i64 k, .int .i64 n, .str s, .lst false l, .lst false es])) := by
  rw [HO.frz, frzM_with q m es k n s l hm]
theorem encM_set : ∀ (m : List (Str × Tree)) (i : Nat) (y : Tree) (k : Str) (x : Tree), m[i]? = some (k, x) → Tree.encM (setM m i y) = (Tree.encM m).set i (.agg [.str k, .int .i64 y.kind, .int .i64 y.n, .str y.s, .lst false (Tree.encL y.l), .lst false (Tree.encM y.m)])
  | [], i, y, k, x, h => by simp at h
  | p :: m, 0, y, k, x, h => by
    simp only [List.getElem?_cons_zero, Option.some.injEq] at h
    subst h
    rw [← encP_flat]
    rfl
  | p :: m, i + 1, y, k, x, h => by
    have := encM_set m i y k x (by simpa using h)
    have e : setM (p :: m) (i + 1) y = p :: setM m i y := by unfold setM; rw [List.modify_succ_cons]
    rw [e, Tree.encM, this, Tree.encM, List.set_cons_succ]
theorem path_with_m (n : Int) (s : Str) (m : List (Str × Tree)) (i : Nat) (y : Tree) (hm : m.length ≤ 4000000) (hi : i < m.length) :
    AbsCall PP GG F.path_with [.p (Tree.mk 6 n s [] m).enc, .p (.int .i64 i), .p y.enc] [] ⟨.ret (.p (Tree.mk 6 n s [] (setM m i y)).enc), [], []⟩ := by
  have hne : m ≠ [] := by rintro rfl; simp at hi
  have hC := clone_vals0
  have hD := clone_pairs m hne hm
  have hel : (Tree.encM m).length = m.length := Tree.encM_length _
  rw [Tree.enc_eta y, Tree.enc_eta (Tree.mk 6 n s [] m), Tree.enc_eta (Tree.mk 6 n s [] (setM m i y))]
  simp only [Tree.kind, Tree.n, Tree.s, Tree.l, Tree.m]
  show AbsCall PP GG F.path_with [.p (.agg [.int .i64 6, .int .i64 n, .str s, .lst false [], .lst false (Tree.encM m)]), .p (.int .i64 i), .p (.agg [.int .i64 y.kind, .int .i64 y.n, .str y.s, .lst false (Tree.encL y.l), .lst false (Tree.encM y.m)])] [] _
  obtain ⟨⟨k, x⟩, hx⟩ : ∃ x, m[i]? = some x := ⟨_, List.getElem?_eq_getElem hi⟩
  have hxe : (Tree.encM m)[(i : Int).toNat]? = some (.agg [.str k, .int .i64 x.kind, .int .i64 x.n, .str x.s, .lst false (Tree.encL x.l), .lst false (Tree.encM x.m)]) := by
    rw [Int.toNat_natCast, Tree.encM_get hx, encP_flat]
  rw [encM_set m i y k x hx]
  generalize Tree.encM m = es at *
  refine absCall_of (pol := polG) mixP F.path_with_is ?_
  conv => whnf
  repeat' ((first
   | ((with_reducible first | refine Br.dec ?_ ?_ | refine Br.ndec ?_ ?_) <;> intro hb <;> (try simp only [And.intro @hel (ZZ)] at hb) <;> (first | omega | contradiction | skip))
   | (with_reducible first | refine Br.tt rfl ?_ | refine Br.ff rfl ?_ | refine Br.ff (isEmptyCons _ _) ?_)
   | ((with_reducible first | refine Side.mk ?_ ?_ | refine WrapW.mk ?_ ?_); focus (first | omega | (dsimp only [InR, Int.reduceToNat, IntKind.bits, Int.reducePow]; omega) | exact ⟨rfl, rfl⟩ | (simp [CC]; done) | (constructor <;> omega)))
   | with_reducible refine Br.not ?_
   | (with_reducible first | refine Br.tt (by assumption) ?_ | refine Br.ff (by assumption) ?_)
   | (refine Br.mk ?_ ?_ <;> intro hb <;> (try simp only [And.intro @hel (ZZ)] at hb) <;> (first | omega | contradiction | skip))
   | refine Src.whole ⟨rfl, rfl⟩ ?_ | refine FrzV.whole ?_
   | refine CallW.use (hC) ?_
   | refine CallW.use (hD) ?_
   | (refine ElemA.mk _ hxe ?_)) <;> conv => whnf)
  refine FrzV.mk _ (frzM_with 3 _ _ _ _ _ _ (by rw [List.length_set])) ?_
  conv => whnf
  refine FrzO.mk _ (frzMO_with 3 _ _ _ _ _ _ _ (by rw [List.length_set])) ?_
  conv => whnf
  refine FrzO.mk _ (frzMO_with 3 _ _ _ _ _ _ _ (by rw [List.length_set])) ?_
  conv => whnf
  exact CLe.retP rfl
end Go.Proofs.YthkoefpidnphpaaGreatDoor
end

section
namespace Go.Am
open Go
inductive Vd : Str → Prop
  | nil : Vd []
  | step {c : UInt8} {cs : Str} (h : (utfTake (c :: cs)).2 ≠ 0) (r : Vd ((c :: cs).drop (stepN (c :: cs)))) : Vd (c :: cs)
theorem Vd.app {s r : Str} (h : Vd s) (g : Vd r) : Vd (s ++ r) := by
  induction h with
  | nil => exact g
  | @step c cs h0 _ ih =>
    have e := utfTake_app r h0
    rw [List.cons_append] at e ⊢
    have hle := stepN_le c cs
    have e2 : stepN (c :: (cs ++ r)) = stepN (c :: cs) := by unfold stepN; rw [e]
    refine .step (by rw [e]; exact h0) ?_
    rw [e2, ← List.cons_append, List.drop_append_of_le_length hle]
    exact ih
theorem Ge.le {n m : Nat} {s : Str} (h : Ge n s) (hm : m ≤ n) : Ge m s := fun b hb => Nat.le_trans hm (h b hb)
end Go.Am
end

section
namespace Go.Am
open Go Go.Maps Go.WideAt Go.MapKept Go.WideShapes
open Go.WideElems (Fit rd rg)
section
variable {P : Program} {B : Nat → Prop} {L : Loc} {w : World}
end
end Go.Am
end

section
namespace Go.Am
open Go
theorem steep_nodes : ∀ (t : Tree) (d n : Int), 0 ≤ n → (steep t d n).1 = false → t.nodes + (steep t d n).2 = n ∧ t.depth ≤ d := by
  have hL : ∀ (l : List Tree), (∀ x ∈ l, ∀ d n : Int, 0 ≤ n → (steep x d n).1 = false → x.nodes + (steep x d n).2 = n ∧ x.depth ≤ d) → ∀ d n : Int, 0 ≤ n → 0 ≤ d → (steepL l d n).1 = false → Tree.nodesL l + (steepL l d n).2 = n ∧ Tree.depthL l ≤ d := by
    intro l
    induction l with
    | nil => intro _ d n _ hd _; simp [steepL, Tree.nodesL, Tree.depthL, hd]
    | cons x l ih =>
      intro h d n hn hd hs
      rw [steepL_cons] at hs ⊢
      split at hs
      · simp at hs
      · rename_i h1
        rw [if_neg h1]
        have h2 := h x (by simp) d n hn (by simpa using h1)
        have h3 := ih (fun y hy => h y (by simp [hy])) d (steep x d n).2 (steep_ok x d n hn).1 hd hs
        simp only [Tree.nodesL, Tree.depthL]
        omega
  have hM : ∀ (l : List (Str × Tree)), (∀ x ∈ l, ∀ d n : Int, 0 ≤ n → (steep x.2 d n).1 = false → x.2.nodes + (steep x.2 d n).2 = n ∧ x.2.depth ≤ d) → ∀ d n : Int, 0 ≤ n → 0 ≤ d → (steepM l d n).1 = false → Tree.nodesM l + (steepM l d n).2 = n ∧ Tree.depthM l ≤ d := by
    intro l
    induction l with
    | nil => intro _ d n _ hd _; simp [steepM, Tree.nodesM, Tree.depthM, hd]
    | cons x l ih =>
      intro h d n hn hd hs
      rw [steepM_cons] at hs ⊢
      split at hs
      · simp at hs
      · rename_i h1
        rw [if_neg h1]
        have h2 := h x (by simp) d n hn (by simpa using h1)
        have h3 := ih (fun y hy => h y (by simp [hy])) d (steep x.2 d n).2 (steep_ok x.2 d n hn).1 hd hs
        obtain ⟨k, x⟩ := x
        simp only [Tree.nodesM, Tree.depthM, Tree.nodesP, Tree.depthP] at *
        omega
  refine Tree.ind fun t hl hm d n hn hs => ?_
  obtain ⟨k, z, s, l, m⟩ := t
  rw [steep_mk] at hs ⊢
  split at hs
  · simp at hs
  rename_i h0
  rw [if_neg h0]
  split at hs
  · simp at hs
  rename_i h1
  rw [if_neg h1]
  have ok1 : 0 ≤ (steepL l (d - 1) (n - 1)).2 := (steepL_ok (fun t _ d n hn => steep_ok t d n hn) (d - 1) (n - 1) (by omega)).1
  have h2 := hL l hl (d - 1) (n - 1) (by omega) (by omega) (by simpa using h1)
  have h3 := hM m hm (d - 1) _ ok1 (by omega) hs
  simp only [Tree.nodes, Tree.depth]
  omega
end Go.Am
end

section
namespace Go.Proofs.YthkoefpidnphpaaGreatDoor
open Go Go.Am Go.RowKit
set_option maxRecDepth 100000
theorem plain_own {v : Tree} (h : plainT v = true) : (v.kind = 5 → v.m = []) ∧ (v.kind = 6 → v.l = []) := by
  obtain ⟨k, n, s, l, m⟩ := v
  rw [plainT] at h
  split at h
  · cases h
  · rename_i ho
    simp only [Tree.kind, Tree.m, Tree.l]
    refine ⟨fun hk => Classical.byContradiction fun hne => ho (.inr (.inr (.inr ⟨by omega, fun e => hne (List.eq_nil_of_length_eq_zero e)⟩))), fun hk => Classical.byContradiction fun hne => ho (.inr (.inr (.inl ⟨by omega, fun e => hne (List.eq_nil_of_length_eq_zero e)⟩)))⟩
theorem path_withT (v y : Tree) (i : Nat) (hp : plainT v = true) (hv : v.wt ≤ 4000000) (h5 : v.kind = 5 → i < v.l.length) (h6 : v.kind = 6 → i < v.m.length) (hk : v.kind = 5 ∨ v.kind = 6) :
    AbsCall PP GG F.path_with [.p v.enc, .p (.int .i64 i), .p y.enc] [] ⟨.ret (.p (withT v i y).enc), [], []⟩ := by
  have hml := v.wt_ml
  have hll := v.wt_ll
  obtain ⟨ho5, ho6⟩ := plain_own hp
  obtain ⟨k, n, s, l, m⟩ := v
  simp only [Tree.kind, Tree.m, Tree.l] at *
  rcases hk with rfl | rfl
  · obtain rfl := ho5 rfl
    have e : withT (Tree.mk 5 n s l []) i y = Tree.mk 5 n s (l.set i y) [] := rfl
    rw [e]
    exact path_with_l 5 n s l i y rfl (by omega) (h5 rfl)
  · obtain rfl := ho6 rfl
    have e : withT (Tree.mk 6 n s [] m) i y = Tree.mk 6 n s [] (setM m i y) := rfl
    rw [e]
    exact path_with_m n s m i y (by omega) (h6 rfl)
theorem part_plain {v : Tree} (h : plainT v = true) (s : Stp) (hf : 0 ≤ findS v s) : plainT (partT v (findS v s).toNat) = true := by
  obtain ⟨_, hp5, hp6⟩ := part_wt v s hf
  unfold partT
  have hml : plainL v.l = true ∧ plainM none v.m = true := by
    obtain ⟨k, n, z, l, m⟩ := v
    rw [plainT] at h
    split at h
    · cases h
    · rw [Bool.and_eq_true, Bool.and_eq_true] at h
      exact h.2
  by_cases h5 : v.kind = 5
  · rw [if_pos h5]
    obtain ⟨x, hx⟩ : ∃ x, v.l[(findS v s).toNat]? = some x := ⟨_, List.getElem?_eq_getElem (hp5 h5)⟩
    rw [List.getD_eq_getElem?_getD, hx, Option.getD_some]
    exact plainL_mem hml.1 x (List.mem_of_getElem? hx)
  · rw [if_neg h5]
    obtain ⟨x, hx⟩ : ∃ x, v.m[(findS v s).toNat]? = some x := ⟨_, List.getElem?_eq_getElem (hp6 h5)⟩
    rw [List.getD_eq_getElem?_getD, hx, Option.getD_some]
    exact (plainM_mem hml.2 x (List.mem_of_getElem? hx)).2
theorem path_set : ∀ (p : List Stp) (v x y : Tree), plainT v = true → v.wt ≤ 4000000 → p.length ≤ 1000000 → (getT v p).isSome = true → setT v p x = some y →
    AbsCall PP GG F.path_set [.p v.enc, .p (.lst false (encS p)), .p x.enc] [] ⟨.ret (.tup [.p y.enc, .p (.bool true)]), [], []⟩
  | [], v, x, y, hp, hv, hl, hg, hs => by
    rw [setT] at hs
    cases hs
    rw [Tree.enc_eta v, Tree.enc_eta x]
    refine absCall_of (pol := polG) mixP F.path_set_is ?_
    conv => whnf
    repeat' ((first
     | ((with_reducible first | refine Br.dec ?_ ?_ | refine Br.ndec ?_ ?_) <;> intro hb <;> (try simp only [ZZ] at hb) <;> (first | omega | contradiction | skip))
     | (with_reducible first | refine Br.tt rfl ?_ | refine Br.ff rfl ?_ | refine Br.ff (isEmptyCons _ _) ?_)
     | ((with_reducible first | refine Side.mk ?_ ?_ | refine WrapW.mk ?_ ?_); focus (first | omega | (dsimp only [InR, Int.reduceToNat, IntKind.bits, Int.reducePow]; omega) | (simp [CC]; done) | (constructor <;> omega)))
     | with_reducible refine Br.not ?_
     | (with_reducible first | refine Br.tt (by assumption) ?_ | refine Br.ff (by assumption) ?_)
     | (refine Br.mk ?_ ?_ <;> intro hb <;> (try simp only [ZZ] at hb) <;> (first | omega | contradiction | skip))
     | refine Src.whole ⟨rfl, rfl⟩ ?_ | refine FrzV.whole ?_) <;> conv => whnf)
    all_goals exact CLe.eq rfl
  | s :: p, v, x, y, hp, hv, hl, hg, hs => by
    have hel : (encS (s :: p)).length = p.length + 1 := encS_length (s :: p)
    rw [getT] at hg
    split at hg
    · cases hg
    rename_i hn
    rw [setT, if_neg hn, Option.map_eq_some_iff] at hs
    obtain ⟨u, hu, rfl⟩ := hs
    obtain ⟨hpw, hp5, hp6⟩ := part_wt v s (by omega)
    have hk := (findS_lt v s).2.2.2 (by omega)
    have hml := v.wt_ml
    have hll := v.wt_ll
    have hF := path_find v s (by omega) (by omega)
    have hP := path_part v (findS v s).toNat hp5 hp6
    have hW := path_withT v u (findS v s).toNat hp hv hp5 (fun h => hp6 (by omega)) hk
    have hS := path_set p (partT v (findS v s).toNat) x u (part_plain hp s (by omega)) (by omega) (by simp only [List.length_cons] at hl; omega) hg hu
    have hfn : ((findS v s).toNat : Int) = findS v s := Int.toNat_of_nonneg (by omega)
    rw [hfn] at hP hW
    have hs0 : (s :: p)[(0 : Int).toNat]? = some s := rfl
    have hdr : (encS (s :: p)).drop 1 = encS p := rfl
    rw [← hdr] at hS
    generalize partT v (findS v s).toNat = q at *
    generalize withT v (findS v s).toNat u = z at *
    generalize findS v s = f at *
    rw [Tree.enc_eta v] at hF hP hW ⊢
    rw [Tree.enc_eta q] at hP hS
    rw [Tree.enc_eta x] at hS ⊢
    rw [Tree.enc_eta u] at hS hW
    rw [Tree.enc_eta z] at hW ⊢
    have hcl := encS_cells (s :: p)
    refine absCall_of (pol := polG) mixP F.path_set_is ?_
    conv => whnf
    repeat' ((first
     | ((with_reducible first | refine Br.dec ?_ ?_ | refine Br.ndec ?_ ?_) <;> intro hb <;> (try simp only [And.intro @hel (ZZ)] at hb) <;> (first | omega | contradiction | skip))
     | (with_reducible first | refine Br.tt rfl ?_ | refine Br.ff rfl ?_ | refine Br.ff (isEmptyCons _ _) ?_)
     | ((with_reducible first | refine Side.mk ?_ ?_ | refine WrapW.mk ?_ ?_); focus (first | omega | (dsimp only [InR, Int.reduceToNat, IntKind.bits, Int.reducePow]; omega) | exact ⟨rfl, rfl⟩ | exact ⟨hcl, by decide, by rw [hel]; omega⟩ | (simp [CC]; done) | (constructor <;> omega)))
     | with_reducible refine Br.not ?_
     | (with_reducible first | refine Br.tt (by assumption) ?_ | refine Br.ff (by assumption) ?_)
     | (refine Br.mk ?_ ?_ <;> intro hb <;> (try simp only [And.intro @hel (ZZ)] at hb) <;> (first | omega | contradiction | skip))
     | refine Src.whole ⟨rfl, rfl⟩ ?_ | refine FrzV.whole ?_
     | refine CallW.use (hF) ?_
     | refine CallW.use (hP) ?_
     | refine CallW.use (hS) ?_
     | refine CallW.use (hW) ?_
     | (refine ElemZ.stp hs0 ?_)) <;> conv => whnf)
    all_goals exact CLe.eq rfl
def CopyIs (t : Tree) : Prop := plainT t = true → t.wt ≤ 4000000 → AbsCall PP GG F.value_Copy [.p t.enc] [] ⟨.ret (.p t.enc), [], []⟩
theorem set_same {es : List PV} {i : Nat} {d : PV} (h : es[i]? = some d) : es.set i d = es := by
  apply List.ext_getElem?
  intro j
  rw [List.getElem?_set]
  split
  · rename_i e
    subst e
    rw [if_pos (List.getElem?_eq_some_iff.1 h).1, h]
  · rfl
theorem copy_loopL (k n : Int) (s : Str) (l : List Tree) (hl : l.length ≤ 4000000) (hc : ∀ x ∈ l, AbsCall PP GG F.value_Copy [.p x.enc] [] ⟨.ret (.p x.enc), [], []⟩) (K : Post)
    (h0 : K (.exit 0) [(1, .ptr 0 0), (2, .ptr 1 0)] [.var T.api_Value (.agg [.p (.int .i64 k), .p (.int .i64 n), .p (.str s), .sl 2 0 (Tree.encL l).length, .p (.lst false [])]), .var T.api_Value (.p (.agg [.int .i64 0, .int .i64 0, .str [], .nils, .nils])), .arr T.api_Value 5 (Tree.encL l)] []) :
    ∀ (q i : Nat), i + q = l.length → LoopW PP GG 50 0 (loopN F.value_Copy_c 0) [(1, .ptr 0 0), (2, .ptr 1 0), (15, .p (.int .i64 l.length)), (16, .p (.int .i64 i))]
      [.var T.api_Value (.agg [.p (.int .i64 k), .p (.int .i64 n), .p (.str s), .sl 2 0 (Tree.encL l).length, .p (.lst false [])]), .var T.api_Value (.p (.agg [.int .i64 0, .int .i64 0, .str [], .nils, .nils])), .arr T.api_Value 5 (Tree.encL l)] [] (PostCl 50 K) := by
  have hel : (Tree.encL l).length = l.length := Tree.encL_length _
  intro q
  induction q with
  | zero =>
    intro i hi
    obtain rfl : i = l.length := by omega
    refine LoopW.round (pol := polG) mixP ?_
    conv => whnf
    repeat' ((first
     | ((with_reducible first | refine Br.dec ?_ ?_ | refine Br.ndec ?_ ?_) <;> intro hb <;> (try simp only [ZZ] at hb) <;> (first | omega | contradiction | skip))
     | (with_reducible first | refine Br.tt rfl ?_ | refine Br.ff rfl ?_ | refine Br.ff (isEmptyCons _ _) ?_)
     | ((with_reducible first | refine Side.mk ?_ ?_ | refine WrapW.mk ?_ ?_); focus (first | omega | (dsimp only [InR, Int.reduceToNat, IntKind.bits, Int.reducePow]; omega) | (simp [CC]; done) | (constructor <;> omega)))
     | with_reducible refine Br.not ?_
     | (with_reducible first | refine Br.tt (by assumption) ?_ | refine Br.ff (by assumption) ?_)
     | (refine Br.mk ?_ ?_ <;> intro hb <;> (try simp only [ZZ] at hb) <;> (first | omega | contradiction | skip))
     | refine Src.whole ⟨rfl, rfl⟩ ?_ | refine FrzV.whole ?_) <;> conv => whnf)
    refine PostCl.of (h0) ?_ ?_
    · repeat first | exact trivial | refine ⟨VLe.refl _, ?_⟩
    · repeat first | exact trivial | refine ⟨by decide, ?_⟩
  | succ q ih =>
    intro i hi
    obtain ⟨x, hx⟩ : ∃ x, l[i]? = some x := ⟨_, List.getElem?_eq_getElem (show i < l.length by omega)⟩
    have hC := hc x (List.mem_of_getElem? hx)
    have hxe : (Tree.encL l)[(i : Int).toNat]? = some (.agg [.int .i64 x.kind, .int .i64 x.n, .str x.s, .lst false (Tree.encL x.l), .lst false (Tree.encM x.m)]) := by
      rw [Int.toNat_natCast, Tree.encL_get hx, Tree.enc_eta x]
    have hset := set_same hxe
    have hl := ih (i + 1) (by omega)
    rw [Tree.enc_eta x] at hC
    generalize Tree.encL l = es at *
    refine LoopW.round (pol := polG) mixP ?_
    conv => whnf
    repeat' ((first
     | ((with_reducible first | refine Br.dec ?_ ?_ | refine Br.ndec ?_ ?_) <;> intro hb <;> (try simp only [And.intro @hel (ZZ)] at hb) <;> (first | omega | contradiction | skip))
     | (with_reducible first | refine Br.tt rfl ?_ | refine Br.ff rfl ?_ | refine Br.ff (isEmptyCons _ _) ?_)
     | ((with_reducible first | refine Side.mk ?_ ?_ | refine WrapW.mk ?_ ?_); focus (first | omega | (dsimp only [InR, Int.reduceToNat, IntKind.bits, Int.reducePow]; omega) | exact ⟨rfl, rfl⟩ | exact ⟨rfl, rfl, rfl, rfl⟩ | (simp [CC]; done) | (constructor <;> omega)))
     | with_reducible refine Br.not ?_
     | (with_reducible first | refine Br.tt (by assumption) ?_ | refine Br.ff (by assumption) ?_)
     | (refine Br.mk ?_ ?_ <;> intro hb <;> (try simp only [And.intro @hel (ZZ)] at hb) <;> (first | omega | contradiction | skip))
     | refine Src.whole ⟨rfl, rfl⟩ ?_ | refine FrzV.whole ?_
     | refine CallW.use (hC) ?_
     | (refine ElemA.mk _ hxe ?_)) <;> conv => whnf)
    rw [show plus0 0 (i : Int).toNat = (i : Int).toNat from rfl, hset]
    refine LoopW.ren [0, 1, 2] (hl) (by repeat first | exact trivial | refine ⟨⟨rfl, VLe.refl _⟩, ?_⟩) (by repeat first | exact trivial | refine ⟨by decide, ?_⟩) rfl rfl
theorem copy_loopM (k n : Int) (s : Str) (m : List (Str × Tree)) (hm : m.length ≤ 4000000) (hc : ∀ x ∈ m, AbsCall PP GG F.value_Copy [.p x.2.enc] [] ⟨.ret (.p x.2.enc), [], []⟩) (K : Post)
    (h0 : K (.exit 2) [(1, .ptr 0 0), (2, .ptr 1 0)] [.var T.api_Value (.agg [.p (.int .i64 k), .p (.int .i64 n), .p (.str s), .p (.lst false []), .sl 2 0 (Tree.encM m).length]), .var T.api_Value (.p (.agg [.int .i64 0, .int .i64 0, .str [], .nils, .nils])), .arr T.api_Pair 6 (Tree.encM m)] []) :
    ∀ (q i : Nat), i + q = m.length → LoopW PP GG 50 0 (loopN F.value_Copy_c 1) [(1, .ptr 0 0), (2, .ptr 1 0), (32, .p (.int .i64 m.length)), (33, .p (.int .i64 i))]
      [.var T.api_Value (.agg [.p (.int .i64 k), .p (.int .i64 n), .p (.str s), .p (.lst false []), .sl 2 0 (Tree.encM m).length]), .var T.api_Value (.p (.agg [.int .i64 0, .int .i64 0, .str [], .nils, .nils])), .arr T.api_Pair 6 (Tree.encM m)] [] (PostCl 50 K) := by
  have hel : (Tree.encM m).length = m.length := Tree.encM_length _
  intro q
  induction q with
  | zero =>
    intro i hi
    obtain rfl : i = m.length := by omega
    refine LoopW.round (pol := polG) mixP ?_
    conv => whnf
    repeat' ((first
     | ((with_reducible first | refine Br.dec ?_ ?_ | refine Br.ndec ?_ ?_) <;> intro hb <;> (try simp only [ZZ] at hb) <;> (first | omega | contradiction | skip))
     | (with_reducible first | refine Br.tt rfl ?_ | refine Br.ff rfl ?_ | refine Br.ff (isEmptyCons _ _) ?_)
     | ((with_reducible first | refine Side.mk ?_ ?_ | refine WrapW.mk ?_ ?_); focus (first | omega | (dsimp only [InR, Int.reduceToNat, IntKind.bits, Int.reducePow]; omega) | (simp [CC]; done) | (constructor <;> omega)))
     | with_reducible refine Br.not ?_
     | (with_reducible first | refine Br.tt (by assumption) ?_ | refine Br.ff (by assumption) ?_)
     | (refine Br.mk ?_ ?_ <;> intro hb <;> (try simp only [ZZ] at hb) <;> (first | omega | contradiction | skip))
     | refine Src.whole ⟨rfl, rfl⟩ ?_ | refine FrzV.whole ?_) <;> conv => whnf)
    refine PostCl.of (h0) ?_ ?_
    · repeat first | exact trivial | refine ⟨VLe.refl _, ?_⟩
    · repeat first | exact trivial | refine ⟨by decide, ?_⟩
  | succ q ih =>
    intro i hi
    obtain ⟨⟨z, x⟩, hx⟩ : ∃ x, m[i]? = some x := ⟨_, List.getElem?_eq_getElem (show i < m.length by omega)⟩
    have hC := hc (z, x) (List.mem_of_getElem? hx)
    have hxe : (Tree.encM m)[(i : Int).toNat]? = some (.agg [.str z, .int .i64 x.kind, .int .i64 x.n, .str x.s, .lst false (Tree.encL x.l), .lst false (Tree.encM x.m)]) := by
      rw [Int.toNat_natCast, Tree.encM_get hx, encP_flat]
    have hset := set_same hxe
    have hl := ih (i + 1) (by omega)
    simp only [] at hC
    rw [Tree.enc_eta x] at hC
    generalize Tree.encM m = es at *
    refine LoopW.round (pol := polG) mixP ?_
    conv => whnf
    repeat' ((first
     | ((with_reducible first | refine Br.dec ?_ ?_ | refine Br.ndec ?_ ?_) <;> intro hb <;> (try simp only [And.intro @hel (ZZ)] at hb) <;> (first | omega | contradiction | skip))
     | (with_reducible first | refine Br.tt rfl ?_ | refine Br.ff rfl ?_ | refine Br.ff (isEmptyCons _ _) ?_)
     | ((with_reducible first | refine Side.mk ?_ ?_ | refine WrapW.mk ?_ ?_); focus (first | omega | (dsimp only [InR, Int.reduceToNat, IntKind.bits, Int.reducePow]; omega) | exact ⟨rfl, rfl⟩ | (simp [CC]; done) | (constructor <;> omega)))
     | with_reducible refine Br.not ?_
     | (with_reducible first | refine Br.tt (by assumption) ?_ | refine Br.ff (by assumption) ?_)
     | (refine Br.mk ?_ ?_ <;> intro hb <;> (try simp only [And.intro @hel (ZZ)] at hb) <;> (first | omega | contradiction | skip))
     | refine Src.whole ⟨rfl, rfl⟩ ?_ | refine FrzV.whole ?_
     | refine CallW.use (hC) ?_
     | (refine ElemA.mk _ hxe ?_)) <;> conv => whnf)
    erw [hset]
    refine LoopW.ren [0, 1, 2] (hl) (by repeat first | exact trivial | refine ⟨⟨rfl, VLe.refl _⟩, ?_⟩) (by repeat first | exact trivial | refine ⟨by decide, ?_⟩) rfl rfl
theorem copy_zeroL (Hs : Heap) (K : Post) (h0 : K (.exit 0) [(1, .ptr 0 0), (2, .ptr 1 0)] Hs []) : LoopW PP GG 50 0 (loopN F.value_Copy_c 0) [(1, .ptr 0 0), (2, .ptr 1 0), (15, .p (.int .i64 0)), (16, .p (.int .i64 0))] Hs [] (PostCl 50 K) := by
  refine LoopW.round (pol := polG) mixP ?_
  conv => whnf
  repeat' ((first
   | ((with_reducible first | refine Br.dec ?_ ?_ | refine Br.ndec ?_ ?_) <;> intro hb <;> (try simp only [ZZ] at hb) <;> (first | omega | contradiction | skip))
   | (with_reducible first | refine Br.tt rfl ?_ | refine Br.ff rfl ?_ | refine Br.ff (isEmptyCons _ _) ?_)
   | ((with_reducible first | refine Side.mk ?_ ?_ | refine WrapW.mk ?_ ?_); focus (first | omega | (dsimp only [InR, Int.reduceToNat, IntKind.bits, Int.reducePow]; omega) | (simp [CC]; done) | (constructor <;> omega)))
   | with_reducible refine Br.not ?_
   | (with_reducible first | refine Br.tt (by assumption) ?_ | refine Br.ff (by assumption) ?_)
   | (refine Br.mk ?_ ?_ <;> intro hb <;> (try simp only [ZZ] at hb) <;> (first | omega | contradiction | skip))
   | refine Src.whole ⟨rfl, rfl⟩ ?_ | refine FrzV.whole ?_) <;> conv => whnf)
  all_goals refine PostCl.of (h0) (by repeat first | exact trivial | refine ⟨VLe.refl _, ?_⟩) (by repeat first | exact trivial | refine ⟨by decide, ?_⟩)
theorem copy_zeroM (Hs : Heap) (K : Post) (h0 : K (.exit 2) [(1, .ptr 0 0), (2, .ptr 1 0)] Hs []) : LoopW PP GG 50 0 (loopN F.value_Copy_c 1) [(1, .ptr 0 0), (2, .ptr 1 0), (32, .p (.int .i64 0)), (33, .p (.int .i64 0))] Hs [] (PostCl 50 K) := by
  refine LoopW.round (pol := polG) mixP ?_
  conv => whnf
  repeat' ((first
   | ((with_reducible first | refine Br.dec ?_ ?_ | refine Br.ndec ?_ ?_) <;> intro hb <;> (try simp only [ZZ] at hb) <;> (first | omega | contradiction | skip))
   | (with_reducible first | refine Br.tt rfl ?_ | refine Br.ff rfl ?_ | refine Br.ff (isEmptyCons _ _) ?_)
   | ((with_reducible first | refine Side.mk ?_ ?_ | refine WrapW.mk ?_ ?_); focus (first | omega | (dsimp only [InR, Int.reduceToNat, IntKind.bits, Int.reducePow]; omega) | (simp [CC]; done) | (constructor <;> omega)))
   | with_reducible refine Br.not ?_
   | (with_reducible first | refine Br.tt (by assumption) ?_ | refine Br.ff (by assumption) ?_)
   | (refine Br.mk ?_ ?_ <;> intro hb <;> (try simp only [ZZ] at hb) <;> (first | omega | contradiction | skip))
   | refine Src.whole ⟨rfl, rfl⟩ ?_ | refine FrzV.whole ?_) <;> conv => whnf)
  all_goals refine PostCl.of (h0) (by repeat first | exact trivial | refine ⟨VLe.refl _, ?_⟩) (by repeat first | exact trivial | refine ⟨by decide, ?_⟩)
end Go.Proofs.YthkoefpidnphpaaGreatDoor
end
