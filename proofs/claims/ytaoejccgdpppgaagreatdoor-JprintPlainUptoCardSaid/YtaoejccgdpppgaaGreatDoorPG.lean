/-
The walks through the program's numbers.
-/
import Derived.Test.YtaoejccgdpppgaaGreatDoorPF
import Derived.Shelf.Strings.IndexAnyAll
import Derived.Shelf.Strconv.ParseInt10At64
import Derived.Test.YtaoejccgdpppgaaGreatDoorProg
import Derived.Test.YtaoejccgdpppgaaGreatDoorPE
import Derived.Lib.AtoiErrMem
import Derived.Shelf.Strconv.ParseIntPublic10
import Derived.Lib.IndexAny
import Derived.Lib.ParseIntBCases

section
namespace Go.Proofs.YtaoejccgdpppgaaGreatDoor
open Go Go.Am
set_option maxRecDepth 100000
theorem ElemA.byte {s : Str} {i : Nat} {K : PV → Prop} {b : UInt8} (h : s[i]? = some b) (k : K (byteP b)) : ElemA (s.map byteP) i K := ⟨_, by rw [List.getElem?_map, h]; rfl, k⟩
theorem sl_HasPrefix (s : Str) (p : UInt8) : AbsCall PP GG F.internal_stringslite_HasPrefix [.p (.str s), .p (.str [p])] [] ⟨.ret (.p (.bool (preB s p))), [], []⟩ := by
  have h1 : ([p] : Str).length = 1 := rfl
  refine absCall_of (pol := polG) mixP F.internal_stringslite_HasPrefix_is ?_
  conv => whnf
  repeat' ((first
   | ((with_reducible first | refine Br.dec ?_ ?_ | refine Br.ndec ?_ ?_) <;> intro hb <;> (try simp only [And.intro @h1 (ZZ)] at hb) <;> (first | omega | skip))
   | (with_reducible first | refine Br.tt rfl ?_ | refine Br.ff rfl ?_ | refine Br.ff (isEmptyCons _ _) ?_)
   | (refine Side.mk ?_ ?_; focus (first | omega | (dsimp only [InR, Int.reduceToNat, IntKind.bits, Int.reducePow]; omega) | (simp only [h1]; omega) | (simp [CC]; done) | (constructor <;> omega)))
   | (refine Br.mk ?_ ?_ <;> intro hb <;> (try simp only [And.intro @h1 (ZZ)] at hb) <;> (first | omega | skip))
   | refine Src.whole ⟨rfl, rfl⟩ ?_ | refine FrzV.whole ?_) <;> conv => whnf)
  · exact CLe.eq rfl
  · exact CLe.retP (by unfold preB; rw [List.eq_nil_of_length_eq_zero (show s.length = 0 by omega)]; simp)
theorem strings_HasPrefix (s : Str) (p : UInt8) : AbsCall PP GG F.strings_HasPrefix [.p (.str s), .p (.str [p])] [] ⟨.ret (.p (.bool (preB s p))), [], []⟩ := by
  refine absCall_of (pol := polG) mixP F.strings_HasPrefix_is ?_
  conv => whnf
  repeat' ((first
   | ((with_reducible first | refine Br.dec ?_ ?_ | refine Br.ndec ?_ ?_) <;> intro hb <;> (try simp only [ZZ] at hb) <;> (first | omega | skip))
   | (with_reducible first | refine Br.tt rfl ?_ | refine Br.ff rfl ?_ | refine Br.ff (isEmptyCons _ _) ?_)
   | (refine Side.mk ?_ ?_; focus (first | omega | (dsimp only [InR, Int.reduceToNat, IntKind.bits, Int.reducePow]; omega) | (simp [CC]; done) | (constructor <;> omega)))
   | (refine Br.mk ?_ ?_ <;> intro hb <;> (try simp only [ZZ] at hb) <;> (first | omega | skip))
   | refine Src.whole ⟨rfl, rfl⟩ ?_ | refine FrzV.whole ?_
   | refine CallW.use (sl_HasPrefix s p) ?_) <;> conv => whnf)
  exact CLe.eq rfl
theorem preB_len {s : Str} {p : UInt8} (h : preB s p = true) : 1 ≤ s.length := by
  unfold preB at h
  rw [decide_eq_true_eq] at h
  have := congrArg List.length h
  rw [List.length_take] at this
  simp only [List.length_cons, List.length_nil] at this
  omega
theorem sl_CutPrefix (s : Str) (p : UInt8) : AbsCall PP GG F.internal_stringslite_CutPrefix [.p (.str s), .p (.str [p])] [] ⟨.ret (.tup [.p (.str (if preB s p = true then s.drop 1 else s)), .p (.bool (preB s p))]), [], []⟩ := by
  have hl := @preB_len s p
  have h1 : ([p] : Str).length = 1 := rfl
  refine absCall_of (pol := polG) mixP F.internal_stringslite_CutPrefix_is ?_
  conv => whnf
  cases hp : preB s p with
  | true =>
    have hsp := sl_HasPrefix s p
    rw [hp] at hsp
    have := hl hp
    repeat' ((first
     | ((with_reducible first | refine Br.dec ?_ ?_ | refine Br.ndec ?_ ?_) <;> intro hb <;> (try simp only [ZZ] at hb) <;> (first | omega | skip))
     | (with_reducible first | refine Br.tt rfl ?_ | refine Br.ff rfl ?_ | refine Br.ff (isEmptyCons _ _) ?_)
     | (refine Side.mk ?_ ?_; focus (first | omega | (dsimp only [InR, Int.reduceToNat, IntKind.bits, Int.reducePow]; omega) | (simp only [h1]; omega) | (simp [CC]; done) | (constructor <;> omega)))
     | (refine Br.mk ?_ ?_ <;> intro hb <;> (try simp only [ZZ] at hb) <;> (first | omega | skip))
     | refine Src.whole ⟨rfl, rfl⟩ ?_ | refine FrzV.whole ?_
     | refine CallW.use (hsp) ?_) <;> conv => whnf)
    exact CLe.eq rfl
  | false =>
    have hsp := sl_HasPrefix s p
    rw [hp] at hsp
    repeat' ((first
     | ((with_reducible first | refine Br.dec ?_ ?_ | refine Br.ndec ?_ ?_) <;> intro hb <;> (try simp only [ZZ] at hb) <;> (first | omega | skip))
     | (with_reducible first | refine Br.tt rfl ?_ | refine Br.ff rfl ?_ | refine Br.ff (isEmptyCons _ _) ?_)
     | (refine Side.mk ?_ ?_; focus (first | omega | (dsimp only [InR, Int.reduceToNat, IntKind.bits, Int.reducePow]; omega) | (simp [CC]; done) | (constructor <;> omega)))
     | (refine Br.mk ?_ ?_ <;> intro hb <;> (try simp only [ZZ] at hb) <;> (first | omega | skip))
     | refine Src.whole ⟨rfl, rfl⟩ ?_ | refine FrzV.whole ?_
     | refine CallW.use (hsp) ?_) <;> conv => whnf)
    exact CLe.eq rfl
theorem strings_CutPrefix (s : Str) (p : UInt8) : AbsCall PP GG F.strings_CutPrefix [.p (.str s), .p (.str [p])] [] ⟨.ret (.tup [.p (.str (if preB s p = true then s.drop 1 else s)), .p (.bool (preB s p))]), [], []⟩ := by
  refine absCall_of (pol := polG) mixP F.strings_CutPrefix_is ?_
  conv => whnf
  repeat' ((first
   | ((with_reducible first | refine Br.dec ?_ ?_ | refine Br.ndec ?_ ?_) <;> intro hb <;> (try simp only [ZZ] at hb) <;> (first | omega | skip))
   | (with_reducible first | refine Br.tt rfl ?_ | refine Br.ff rfl ?_ | refine Br.ff (isEmptyCons _ _) ?_)
   | (refine Side.mk ?_ ?_; focus (first | omega | (dsimp only [InR, Int.reduceToNat, IntKind.bits, Int.reducePow]; omega) | (simp [CC]; done) | (constructor <;> omega)))
   | (refine Br.mk ?_ ?_ <;> intro hb <;> (try simp only [ZZ] at hb) <;> (first | omega | skip))
   | refine Src.whole ⟨rfl, rfl⟩ ?_ | refine FrzV.whole ?_
   | refine CallW.use (sl_CutPrefix s p) ?_) <;> conv => whnf)
  exact CLe.eq rfl
theorem digits_loop (s : Str) (hs : s.length ≤ 1073741824) (K : Post) (h0 : K (.exit 0) [(3, .p (.int .i64 (runL s)))] [] []) :
    ∀ (q i : Nat), i + q = s.length → i + runL (s.drop i) = runL s →
      LoopW PP GG 23 0 (loopN F.dec_digits_c 0) [(0, .p (.str s)), (3, .p (.int .i64 i))] [] [] (PostCl 23 K) := by
  intro q
  induction q with
  | zero =>
    intro i hi hR
    rw [List.drop_eq_nil_of_le (by omega), runL, Nat.add_zero] at hR
    subst hR
    refine LoopW.round (pol := polG) mixP ?_
    conv => whnf
    repeat' ((first
     | ((with_reducible first | refine Br.dec ?_ ?_ | refine Br.ndec ?_ ?_) <;> intro hb <;> (try simp only [ZZ] at hb) <;> (first | omega | skip))
     | (with_reducible first | refine Br.tt rfl ?_ | refine Br.ff rfl ?_ | refine Br.ff (isEmptyCons _ _) ?_)
     | (refine Side.mk ?_ ?_; focus (first | omega | (dsimp only [InR, Int.reduceToNat, IntKind.bits, Int.reducePow]; omega) | (simp [CC]; done) | (constructor <;> omega)))
     | (refine Br.mk ?_ ?_ <;> intro hb <;> (try simp only [ZZ] at hb) <;> (first | omega | skip))
     | refine Src.whole ⟨rfl, rfl⟩ ?_ | refine FrzV.whole ?_) <;> conv => whnf)
    · refine PostCl.of (h0) ?_ ?_
      · repeat first | exact trivial | refine ⟨VLe.refl _, ?_⟩
      · repeat first | exact trivial | refine ⟨by decide, ?_⟩
  | succ q ih =>
    intro i hi hR
    obtain ⟨b, hb⟩ : ∃ b, s[i]? = some b := ⟨_, List.getElem?_eq_getElem (show i < s.length by omega)⟩
    have hg : s.getD (Int.toNat ↑i) 0 = b := getD_of (by simpa using hb)
    have hd : dig b = decide (48 ≤ b.toNat ∧ b.toNat ≤ 57) := rfl
    rw [drop_cons hb, runL] at hR
    refine LoopW.round (pol := polG) mixP ?_
    conv => whnf
    repeat' ((first
     | ((with_reducible first | refine Br.dec ?_ ?_ | refine Br.ndec ?_ ?_) <;> intro hb <;> (try simp only [And.intro @hg (ZZ)] at hb) <;> (first | omega | skip))
     | (with_reducible first | refine Br.tt rfl ?_ | refine Br.ff rfl ?_ | refine Br.ff (isEmptyCons _ _) ?_)
     | (refine Side.mk ?_ ?_; focus (first | omega | (dsimp only [InR, Int.reduceToNat, IntKind.bits, Int.reducePow]; omega) | (simp [CC]; done) | (constructor <;> omega)))
     | (refine Br.mk ?_ ?_ <;> intro hb <;> (try simp only [And.intro @hg (ZZ)] at hb) <;> (first | omega | skip))
     | refine Src.whole ⟨rfl, rfl⟩ ?_ | refine FrzV.whole ?_) <;> conv => whnf)
    all_goals
      first
      | (rw [if_pos (by rw [hd, decide_eq_true_eq]; omega)] at hR; refine LoopW.sub (ih (i + 1) (by omega) (by omega)) (by repeat first | exact trivial | refine ⟨VLe.refl _, ?_⟩) (by repeat first | exact trivial | refine ⟨by decide, ?_⟩))
      | (rw [if_neg (by rw [hd, decide_eq_true_eq]; omega), Nat.add_zero] at hR; subst hR; refine PostCl.of (h0) (by repeat first | exact trivial | refine ⟨VLe.refl _, ?_⟩) (by repeat first | exact trivial | refine ⟨by decide, ?_⟩))
theorem dec_digits (s : Str) (hs : s.length ≤ 1073741824) : AbsCall PP GG F.dec_digits [.p (.str s)] [] ⟨.ret (.p (.int .i64 (runL s))), [], []⟩ := by
  refine absCall_of (pol := polG) mixP F.dec_digits_is ?_
  conv => whnf
  refine LoopW.cl ?_
  refine LoopW.sub (digits_loop s hs _ ?_ s.length 0 (by omega) (by simp)) (by repeat first | exact trivial | refine ⟨VLe.refl _, ?_⟩) (by repeat first | exact trivial | refine ⟨by decide, ?_⟩)
  conv => whnf
  exact CLe.eq rfl
theorem trimL_loop (K : Post) (s0 : Str) (h0 : K (.exit 0) [(0, .p (.str (trimL s0)))] [] []) : ∀ (s : Str), s.length ≤ 1073741824 → trimL s = trimL s0 →
      LoopW PP GG 17 0 (loopN F.strings_trimLeftByte_c 0) [(0, .p (.str s)), (1, .p (byteP 48))] [] [] (PostCl 17 K) := by
  intro s
  induction s with
  | nil =>
    intro hs hR
    refine LoopW.round (pol := polG) mixP ?_
    conv => whnf
    repeat' ((first
     | ((with_reducible first | refine Br.dec ?_ ?_ | refine Br.ndec ?_ ?_) <;> intro hb <;> (try simp only [And.intro @List.length_nil (ZZ)] at hb) <;> (first | omega | skip))
     | (with_reducible first | refine Br.tt rfl ?_ | refine Br.ff rfl ?_ | refine Br.ff (isEmptyCons _ _) ?_)
     | (refine Side.mk ?_ ?_; focus (first | omega | (dsimp only [InR, Int.reduceToNat, IntKind.bits, Int.reducePow]; omega) | (simp [CC]; done) | (constructor <;> omega)))
     | (refine Br.mk ?_ ?_ <;> intro hb <;> (try simp only [And.intro @List.length_nil (ZZ)] at hb) <;> (first | omega | skip))
     | refine Src.whole ⟨rfl, rfl⟩ ?_ | refine FrzV.whole ?_) <;> conv => whnf)
    rw [← hR] at h0
    · refine PostCl.of (h0) ?_ ?_
      · repeat first | exact trivial | refine ⟨VLe.refl _, ?_⟩
      · repeat first | exact trivial | refine ⟨by decide, ?_⟩
  | cons b s ih =>
    intro hs hR
    have hl : (b :: s).length = s.length + 1 := rfl
    rw [trimL] at hR
    have hg : (b :: s).getD (Int.toNat 0) 0 = b := rfl
    refine LoopW.round (pol := polG) mixP ?_
    conv => whnf
    repeat' ((first
     | ((with_reducible first | refine Br.dec ?_ ?_ | refine Br.ndec ?_ ?_) <;> intro hb <;> (try simp only [And.intro @hg (ZZ)] at hb) <;> (first | omega | skip))
     | (with_reducible first | refine Br.tt rfl ?_ | refine Br.ff rfl ?_ | refine Br.ff (isEmptyCons _ _) ?_)
     | (refine Side.mk ?_ ?_; focus (first | omega | (dsimp only [InR, Int.reduceToNat, IntKind.bits, Int.reducePow]; omega) | (simp [CC]; done) | (constructor <;> omega)))
     | (refine Br.mk ?_ ?_ <;> intro hb <;> (try simp only [And.intro @hg (ZZ)] at hb) <;> (first | omega | skip))
     | refine Src.whole ⟨rfl, rfl⟩ ?_ | refine FrzV.whole ?_) <;> conv => whnf)
    · rw [if_pos (UInt8.toNat_inj.1 (by omega))] at hR
      refine LoopW.sub (ih (by omega) hR) (by repeat first | exact trivial | refine ⟨VLe.refl _, ?_⟩) (by repeat first | exact trivial | refine ⟨by decide, ?_⟩)
    · rw [if_neg (fun e => hb (by rw [e]))] at hR
      rw [← hR] at h0
      refine PostCl.of (h0) ?_ ?_
      · repeat first | exact trivial | refine ⟨VLe.refl _, ?_⟩
      · repeat first | exact trivial | refine ⟨by decide, ?_⟩
theorem strings_trimLeftByte (s : Str) (hs : s.length ≤ 1073741824) : AbsCall PP GG F.strings_trimLeftByte [.p (.str s), .p (byteP 48)] [] ⟨.ret (.p (.str (trimL s))), [], []⟩ := by
  refine absCall_of (pol := polG) mixP F.strings_trimLeftByte_is ?_
  conv => whnf
  refine LoopW.cl ?_
  refine LoopW.sub (trimL_loop _ s ?_ s hs rfl) (by repeat first | exact trivial | refine ⟨VLe.refl _, ?_⟩) (by repeat first | exact trivial | refine ⟨by decide, ?_⟩)
  conv => whnf
  exact CLe.eq rfl
theorem strings_TrimLeft (s : Str) (hs : s.length ≤ 1073741824) : AbsCall PP GG F.strings_TrimLeft [.p (.str s), .p (.str [48])] [] ⟨.ret (.p (.str (trimL s))), [], []⟩ := by
  have h1 : ([48] : Str).length = 1 := rfl
  have hg : ([48] : Str).getD (Int.toNat 0) 0 = 48 := rfl
  refine absCall_of (pol := polG) mixP F.strings_TrimLeft_is ?_
  conv => whnf
  repeat' ((first
   | ((with_reducible first | refine Br.dec ?_ ?_ | refine Br.ndec ?_ ?_) <;> intro hb <;> (try simp only [And.intro @h1 (And.intro @hg (ZZ))] at hb) <;> (first | omega | skip))
   | (with_reducible first | refine Br.tt rfl ?_ | refine Br.ff rfl ?_ | refine Br.ff (isEmptyCons _ _) ?_)
   | (refine Side.mk ?_ ?_; focus (first | omega | (dsimp only [InR, Int.reduceToNat, IntKind.bits, Int.reducePow]; omega) | (simp [CC]; done) | (constructor <;> omega)))
   | (refine Br.mk ?_ ?_ <;> intro hb <;> (try simp only [And.intro @h1 (And.intro @hg (ZZ))] at hb) <;> (first | omega | skip))
   | refine Src.whole ⟨rfl, rfl⟩ ?_ | refine FrzV.whole ?_
   | refine CallW.use (strings_trimLeftByte s hs) ?_) <;> conv => whnf)
  · exact CLe.retP (by rw [List.eq_nil_of_length_eq_zero hb]; rfl)
  · exact CLe.eq rfl
  · exact absurd (by decide) hb
theorem trimR_loop (K : Post) (R : Str) (h0 : K (.exit 0) [(0, .p (.str R))] [] []) : ∀ (q : Nat) (s : Str), s.length ≤ q → s.length ≤ 1073741824 → trimRn q s = R →
      LoopW PP GG 23 0 (loopN F.strings_trimRightByte_c 0) [(0, .p (.str s)), (1, .p (byteP 48))] [] [] (PostCl 23 K) := by
  intro q
  induction q with
  | zero =>
    intro s hq hs hR
    rw [trimRn] at hR
    subst hR
    refine LoopW.round (pol := polG) mixP ?_
    conv => whnf
    repeat' ((first
     | ((with_reducible first | refine Br.dec ?_ ?_ | refine Br.ndec ?_ ?_) <;> intro hb <;> (try simp only [ZZ] at hb) <;> (first | omega | skip))
     | (with_reducible first | refine Br.tt rfl ?_ | refine Br.ff rfl ?_ | refine Br.ff (isEmptyCons _ _) ?_)
     | (refine Side.mk ?_ ?_; focus (first | omega | (dsimp only [InR, Int.reduceToNat, IntKind.bits, Int.reducePow]; omega) | (simp [CC]; done) | (constructor <;> omega)))
     | (refine Br.mk ?_ ?_ <;> intro hb <;> (try simp only [ZZ] at hb) <;> (first | omega | skip))
     | refine Src.whole ⟨rfl, rfl⟩ ?_ | refine FrzV.whole ?_) <;> conv => whnf)
    · refine PostCl.of (h0) ?_ ?_
      · repeat first | exact trivial | refine ⟨VLe.refl _, ?_⟩
      · repeat first | exact trivial | refine ⟨by decide, ?_⟩
  | succ q ih =>
    intro s hq hs hR
    rw [trimRn] at hR
    have hl : (s.take (s.length - 1)).length = s.length - 1 := by rw [List.length_take]; omega
    have e1 : ((s.length : Int) - 1).toNat = s.length - 1 := by omega
    refine LoopW.round (pol := polG) mixP ?_
    conv => whnf
    repeat' ((first
     | ((with_reducible first | refine Br.dec ?_ ?_ | refine Br.ndec ?_ ?_) <;> intro hb <;> (try simp only [And.intro @e1 (ZZ)] at hb) <;> (first | omega | skip))
     | (with_reducible first | refine Br.tt rfl ?_ | refine Br.ff rfl ?_ | refine Br.ff (isEmptyCons _ _) ?_)
     | (refine Side.mk ?_ ?_; focus (first | omega | (dsimp only [InR, Int.reduceToNat, IntKind.bits, Int.reducePow]; omega) | (simp [CC]; done) | (constructor <;> omega)))
     | (refine Br.mk ?_ ?_ <;> intro hb <;> (try simp only [And.intro @e1 (ZZ)] at hb) <;> (first | omega | skip))
     | refine Src.whole ⟨rfl, rfl⟩ ?_ | refine FrzV.whole ?_) <;> conv => whnf)
    · rw [if_pos ⟨by omega, UInt8.toNat_inj.1 (by omega)⟩] at hR
      rw [e1]
      refine LoopW.sub (ih (s.take (s.length - 1)) (by omega) (by omega) hR) (by repeat first | exact trivial | refine ⟨VLe.refl _, ?_⟩) (by repeat first | exact trivial | refine ⟨by decide, ?_⟩)
    · rw [if_neg (fun e => hb (by rw [e.2]))] at hR
      subst hR
      refine PostCl.of (h0) ?_ ?_
      · repeat first | exact trivial | refine ⟨VLe.refl _, ?_⟩
      · repeat first | exact trivial | refine ⟨by decide, ?_⟩
    · rw [if_neg (fun e => by omega)] at hR
      subst hR
      refine PostCl.of (h0) ?_ ?_
      · repeat first | exact trivial | refine ⟨VLe.refl _, ?_⟩
      · repeat first | exact trivial | refine ⟨by decide, ?_⟩
theorem strings_trimRightByte (s : Str) (hs : s.length ≤ 1073741824) : AbsCall PP GG F.strings_trimRightByte [.p (.str s), .p (byteP 48)] [] ⟨.ret (.p (.str (trimR s))), [], []⟩ := by
  refine absCall_of (pol := polG) mixP F.strings_trimRightByte_is ?_
  conv => whnf
  refine LoopW.cl ?_
  refine LoopW.sub (trimR_loop _ (trimR s) ?_ s.length s (by omega) hs rfl) (by repeat first | exact trivial | refine ⟨VLe.refl _, ?_⟩) (by repeat first | exact trivial | refine ⟨by decide, ?_⟩)
  conv => whnf
  exact CLe.eq rfl
theorem strings_TrimRight (s : Str) (hs : s.length ≤ 1073741824) : AbsCall PP GG F.strings_TrimRight [.p (.str s), .p (.str [48])] [] ⟨.ret (.p (.str (trimR s))), [], []⟩ := by
  have h1 : ([48] : Str).length = 1 := rfl
  have hg : ([48] : Str).getD (Int.toNat 0) 0 = 48 := rfl
  refine absCall_of (pol := polG) mixP F.strings_TrimRight_is ?_
  conv => whnf
  repeat' ((first
   | ((with_reducible first | refine Br.dec ?_ ?_ | refine Br.ndec ?_ ?_) <;> intro hb <;> (try simp only [And.intro @h1 (And.intro @hg (ZZ))] at hb) <;> (first | omega | skip))
   | (with_reducible first | refine Br.tt rfl ?_ | refine Br.ff rfl ?_ | refine Br.ff (isEmptyCons _ _) ?_)
   | (refine Side.mk ?_ ?_; focus (first | omega | (dsimp only [InR, Int.reduceToNat, IntKind.bits, Int.reducePow]; omega) | (simp [CC]; done) | (constructor <;> omega)))
   | (refine Br.mk ?_ ?_ <;> intro hb <;> (try simp only [And.intro @h1 (And.intro @hg (ZZ))] at hb) <;> (first | omega | skip))
   | refine Src.whole ⟨rfl, rfl⟩ ?_ | refine FrzV.whole ?_
   | refine CallW.use (strings_trimRightByte s hs) ?_) <;> conv => whnf)
  · exact CLe.retP (by rw [List.eq_nil_of_length_eq_zero hb]; rfl)
  · exact CLe.eq rfl
  · exact absurd (by decide) hb
theorem dpow_loop (s : Str) (hs : s.length ≤ 1073741824) (hd : ∀ b ∈ s, dig b = true) (less : Bool) (R : Option Int) (K : Post)
    (h0 : ∀ v : Int, R = some v → 0 ≤ v → v ≤ 100000 → K (.exit 0) [(4, .p (.bool less)), (5, .p (.int .i64 v))] [.arr T.uint8 1 (s.map byteP)] [])
    (hr : R = none → K .ret [(2, .p (.int .i64 0)), (3, .p (.bool false))] [.arr T.uint8 1 (s.map byteP)] []) :
    ∀ (q i : Nat) (v : Int), i + q = s.length → 0 ≤ v → v ≤ 100000 → powD (s.drop i) v = R →
      LoopW PP GG 46 0 (loopN F.dec_power_c 0) [(4, .p (.bool less)), (5, .p (.int .i64 v)), (27, .sl 0 0 (s.map byteP).length), (28, .p (.int .i64 (s.map byteP).length)), (29, .p (.int .i64 i))] [.arr T.uint8 1 (s.map byteP)] [] (PostCl 46 K) := by
  have hl : (s.map byteP).length = s.length := by simp
  intro q
  induction q with
  | zero =>
    intro i v hi hv0 hv1 hR
    rw [List.drop_eq_nil_of_le (by omega), powD] at hR
    refine LoopW.round (pol := polG) mixP ?_
    conv => whnf
    repeat' ((first
     | ((with_reducible first | refine Br.dec ?_ ?_ | refine Br.ndec ?_ ?_) <;> intro hb <;> (try simp only [And.intro @hl (ZZ)] at hb) <;> (first | omega | skip))
     | (with_reducible first | refine Br.tt rfl ?_ | refine Br.ff rfl ?_ | refine Br.ff (isEmptyCons _ _) ?_)
     | (refine Side.mk ?_ ?_; focus (first | omega | (dsimp only [InR, Int.reduceToNat, IntKind.bits, Int.reducePow]; omega) | (simp [CC]; done) | (constructor <;> omega)))
     | (refine Br.mk ?_ ?_ <;> intro hb <;> (try simp only [And.intro @hl (ZZ)] at hb) <;> (first | omega | skip))
     | refine Src.whole ⟨rfl, rfl⟩ ?_ | refine FrzV.whole ?_) <;> conv => whnf)
    · refine PostCl.of (h0 v hR.symm hv0 hv1) ?_ ?_
      · repeat first | exact trivial | refine ⟨VLe.refl _, ?_⟩
      · repeat first | exact trivial | refine ⟨by decide, ?_⟩
  | succ q ih =>
    intro i v hi hv0 hv1 hR
    obtain ⟨b, hbx⟩ : ∃ b, s[i]? = some b := ⟨_, List.getElem?_eq_getElem (show i < s.length by omega)⟩
    have hdb := hd b (List.mem_of_getElem? hbx)
    unfold dig at hdb
    rw [decide_eq_true_eq] at hdb
    rw [drop_cons hbx, powD] at hR
    refine LoopW.round (pol := polG) mixP ?_
    conv => whnf
    repeat' ((first
     | ((with_reducible first | refine Br.dec ?_ ?_ | refine Br.ndec ?_ ?_) <;> intro hb <;> (try simp only [And.intro @hl (ZZ)] at hb) <;> (first | omega | skip))
     | (with_reducible first | refine Br.tt rfl ?_ | refine Br.ff rfl ?_ | refine Br.ff (isEmptyCons _ _) ?_)
     | (refine Side.mk ?_ ?_; focus (first | omega | (dsimp only [InR, Int.reduceToNat, IntKind.bits, Int.reducePow]; omega) | exact ⟨rfl, rfl⟩ | (simp [CC]; done) | (constructor <;> omega)))
     | (refine Br.mk ?_ ?_ <;> intro hb <;> (try simp only [And.intro @hl (ZZ)] at hb) <;> (first | omega | skip))
     | refine Src.whole ⟨rfl, rfl⟩ ?_ | refine FrzV.whole ?_
     | (refine ElemA.byte (b := b) (by simpa [plus0] using hbx) ?_)) <;> conv => whnf)
    · rw [if_pos (by omega)] at hR
      refine PostCl.of (hr hR.symm) ?_ ?_
      · repeat first | exact trivial | refine ⟨VLe.refl _, ?_⟩
      · repeat first | exact trivial | refine ⟨by decide, ?_⟩
    · rw [if_neg (by omega)] at hR
      refine LoopW.sub (ih (i + 1) _ (by omega) (by omega) (by omega) hR) (by repeat first | exact trivial | refine ⟨VLe.refl _, ?_⟩) (by repeat first | exact trivial | refine ⟨by decide, ?_⟩)
theorem dpow_4 (less : Bool) (s : Str) (hs : s.length ≤ 1073741824) (R : Int × Bool) (K : Post) (hR : powTail less s = R)
    (h0 : K .ret [(2, .p (.int .i64 R.1)), (3, .p (.bool R.2))] [] [])
    (h1 : K .ret [(2, .p (.int .i64 R.1)), (3, .p (.bool R.2))] [.arr T.uint8 1 (s.map byteP)] []) :
    CutW PP GG 46 0 (tailN F.dec_power_c 4) [(0, .p (.str s)), (4, .p (.bool less))] [] [] (PostCl 46 K) := by
  have hl : (s.map byteP).length = s.length := by simp
  have hr := runL_le s
  unfold powTail at hR
  refine CutW.go (pol := polC []) mixP ?_
  conv => whnf
  repeat' ((first
   | ((with_reducible first | refine Br.dec ?_ ?_ | refine Br.ndec ?_ ?_) <;> intro hb <;> (try simp only [And.intro @hl (ZZ)] at hb) <;> (first | omega | skip))
   | (with_reducible first | refine Br.tt rfl ?_ | refine Br.ff rfl ?_ | refine Br.ff (isEmptyCons _ _) ?_)
   | (refine Side.mk ?_ ?_; focus (first | omega | (dsimp only [InR, Int.reduceToNat, IntKind.bits, Int.reducePow]; omega) | (simp only [hl]; omega) | (simp [CC]; done) | (constructor <;> omega)))
   | (refine Br.mk ?_ ?_ <;> intro hb <;> (try simp only [And.intro @hl (ZZ)] at hb) <;> (first | omega | skip))
   | refine Src.whole ⟨rfl, rfl⟩ ?_ | refine FrzV.whole ?_
   | refine CallW.use (dec_digits s hs) ?_) <;> conv => whnf)
  · rw [if_pos (by omega)] at hR
    subst hR
    refine PostCl.of (h0) ?_ ?_
    · repeat first | exact trivial | refine ⟨VLe.refl _, ?_⟩
    · repeat first | exact trivial | refine ⟨by decide, ?_⟩
  · rw [if_pos (by omega)] at hR
    subst hR
    refine PostCl.of (h0) ?_ ?_
    · repeat first | exact trivial | refine ⟨VLe.refl _, ?_⟩
    · repeat first | exact trivial | refine ⟨by decide, ?_⟩
  · rw [if_neg (by omega)] at hR
    refine LoopW.cl ?_
    refine LoopW.sub (dpow_loop s hs (runL_dig (by omega)) less (powD s 0) _ (fun v hv hv0 hv1 => ?_) (fun hv => ?_) s.length 0 0 (by omega) (by omega) (by omega) rfl) (by repeat first | exact trivial | refine ⟨VLe.refl _, ?_⟩) (by repeat first | exact trivial | refine ⟨by decide, ?_⟩)
    · rw [hv] at hR
      simp only [] at hR
      conv => whnf
      repeat' ((first
       | ((with_reducible first | refine Br.dec ?_ ?_ | refine Br.ndec ?_ ?_) <;> intro hb <;> (try simp only [ZZ] at hb) <;> (first | omega | skip))
       | (with_reducible first | refine Br.tt rfl ?_ | refine Br.ff rfl ?_ | refine Br.ff (isEmptyCons _ _) ?_)
       | (refine Side.mk ?_ ?_; focus (first | omega | (dsimp only [InR, Int.reduceToNat, IntKind.bits, Int.reducePow]; omega) | (simp [CC]; done) | (constructor <;> omega)))
       | (refine Br.mk ?_ ?_ <;> intro hb <;> (try simp only [ZZ] at hb) <;> (first | omega | skip))
       | refine Src.whole ⟨rfl, rfl⟩ ?_ | refine FrzV.whole ?_) <;> conv => whnf)
      · rw [if_pos (by assumption)] at hR
        subst hR
        rw [InR.wrap (by simp only [InR]; omega), Int.zero_sub]
        refine PostCl.of (h1) ?_ ?_
        · repeat first | exact trivial | refine ⟨VLe.refl _, ?_⟩
        · repeat first | exact trivial | refine ⟨by decide, ?_⟩
      · rw [if_neg (by simp [*])] at hR
        subst hR
        refine PostCl.of (h1) ?_ ?_
        · repeat first | exact trivial | refine ⟨VLe.refl _, ?_⟩
        · repeat first | exact trivial | refine ⟨by decide, ?_⟩
    · rw [hv] at hR
      subst hR
      conv => whnf
      refine PostCl.of (h1) ?_ ?_
      · repeat first | exact trivial | refine ⟨VLe.refl _, ?_⟩
      · repeat first | exact trivial | refine ⟨by decide, ?_⟩
theorem dec_power (s : Str) (hs : s.length ≤ 1073741824) : AbsCall PP GG F.dec_power [.p (.str s)] [] ⟨.ret (.tup [.p (.int .i64 (decPow s).1), .p (.bool (decPow s).2)]), [], []⟩ := by
  have hl1 : (s.drop 1).length = s.length - 1 := List.length_drop
  have hD : decPow s = if preB s 45 = true then powTail true (s.drop 1) else if preB s 43 = true then powTail false (s.drop 1) else powTail false s := rfl
  refine absCall_of (pol := polC [4]) mixP F.dec_power_is ?_
  conv => whnf
  repeat' ((first
   | ((with_reducible first | refine Br.dec ?_ ?_ | refine Br.ndec ?_ ?_) <;> intro hb <;> (try simp only [ZZ] at hb) <;> (first | omega | skip))
   | (with_reducible first | refine Br.tt rfl ?_ | refine Br.ff rfl ?_ | refine Br.ff (isEmptyCons _ _) ?_)
   | (refine Side.mk ?_ ?_; focus (first | omega | (dsimp only [InR, Int.reduceToNat, IntKind.bits, Int.reducePow]; omega) | exact ⟨by decide, by have := preB_len (by assumption); omega⟩ | (simp [CC]; done) | (constructor <;> omega)))
   | (refine Br.mk ?_ ?_ <;> intro hb <;> (try simp only [ZZ] at hb) <;> (first | omega | skip))
   | refine Src.whole ⟨rfl, rfl⟩ ?_ | refine FrzV.whole ?_
   | refine CallW.use (strings_HasPrefix s 45) ?_
   | refine CallW.use (strings_HasPrefix s 43) ?_) <;> conv => whnf)
  all_goals refine CutW.cl ?_
  · refine CutW.sub (dpow_4 (preB s 45) (s.drop 1) (by omega) (decPow s) _ (by rw [hD, if_pos hb, hb]) ?_ ?_) (by repeat first | exact trivial | refine ⟨VLe.refl _, ?_⟩) (by repeat first | exact trivial | refine ⟨by decide, ?_⟩)
    · conv => whnf
      exact CLe.eq rfl
    · conv => whnf
      exact CLe.eq rfl
  · rename_i h45
    refine CutW.sub (dpow_4 (preB s 45) (s.drop 1) (by omega) (decPow s) _ (by rw [hD, if_neg (by rw [h45]; simp), if_pos hb, h45]) ?_ ?_) (by repeat first | exact trivial | refine ⟨VLe.refl _, ?_⟩) (by repeat first | exact trivial | refine ⟨by decide, ?_⟩)
    · conv => whnf
      exact CLe.eq rfl
    · conv => whnf
      exact CLe.eq rfl
  · rename_i h45
    refine CutW.sub (dpow_4 (preB s 45) s (by omega) (decPow s) _ (by rw [hD, if_neg (by rw [h45]; simp), if_neg (by rw [hb]; simp), h45]) ?_ ?_) (by repeat first | exact trivial | refine ⟨VLe.refl _, ?_⟩) (by repeat first | exact trivial | refine ⟨by decide, ?_⟩)
    · conv => whnf
      exact CLe.eq rfl
    · conv => whnf
      exact CLe.eq rfl
theorem parse_21 (less : Bool) (w p : Str) (e : Int) (hw : w.length + p.length ≤ 400) (he : -100000 ≤ e ∧ e ≤ 100000) (R : Dnum) (K : Post) (hR : decE less w p e = R)
    (h0 : K .ret [(2, .ptr 0 0), (3, .p (.bool R.2))] [.var T.dec_number (.p (.agg [.bool R.1.1, .str R.1.2.1, .int .i64 R.1.2.2]))] []) :
    CutW PP GG 103 0 (tailN F.dec_parse_c 21) [(2, .ptr 0 0), (5, .p (.bool less)), (7, .p (.str w)), (8, .p (.str p)), (9, .p (.int .i64 e))] [.var T.dec_number (.p (.agg [.bool false, .str [], .int .i64 0]))] [] (PostCl 103 K) := by
  have hl : (w ++ p).length = w.length + p.length := List.length_append
  have ht := trimL_len (w ++ p)
  unfold decE at hR
  refine CutW.go (pol := polC []) mixP ?_
  conv => whnf
  repeat' ((first
   | ((with_reducible first | refine Br.dec ?_ ?_ | refine Br.ndec ?_ ?_) <;> intro hb <;> (try simp only [ZZ] at hb) <;> (first | omega | skip))
   | (with_reducible first | refine Br.tt rfl ?_ | refine Br.ff rfl ?_ | refine Br.ff (isEmptyCons _ _) ?_)
   | (refine Side.mk ?_ ?_; focus (first | omega | (dsimp only [InR, Int.reduceToNat, IntKind.bits, Int.reducePow]; omega) | (simp only [hl]; omega) | (simp [CC]; done) | (constructor <;> omega)))
   | (refine Br.mk ?_ ?_ <;> intro hb <;> (try simp only [ZZ] at hb) <;> (first | omega | skip))
   | refine Src.whole ⟨rfl, rfl⟩ ?_ | refine FrzV.whole ?_
   | refine CallW.use (strings_TrimLeft (w ++ p) (by omega)) ?_
   | refine CallW.use (strings_TrimRight (trimL (w ++ p)) (by omega)) ?_) <;> conv => whnf)
  all_goals
    first
    | (rw [if_pos (by omega)] at hR; subst hR; refine PostCl.of (h0) (by repeat first | exact trivial | refine ⟨VLe.refl _, ?_⟩) (by repeat first | exact trivial | refine ⟨by decide, ?_⟩))
    | (rw [if_neg (by omega)] at hR; subst hR; refine PostCl.of (h0) (by repeat first | exact trivial | refine ⟨VLe.refl _, ?_⟩) (by repeat first | exact trivial | refine ⟨by decide, ?_⟩))
theorem parse_14 (less : Bool) (w p s : Str) (hw : w.length + p.length + s.length ≤ 400) (R : Dnum) (K : Post) (hR : decD less w p s = R)
    (h0 : K .ret [(2, .ptr 0 0), (3, .p (.bool R.2))] [.var T.dec_number (.p (.agg [.bool R.1.1, .str R.1.2.1, .int .i64 R.1.2.2]))] []) :
    CutW PP GG 103 0 (tailN F.dec_parse_c 14) [(2, .ptr 0 0), (4, .p (.str s)), (5, .p (.bool less)), (7, .p (.str w)), (8, .p (.str p)), (9, .p (.int .i64 0))] [.var T.dec_number (.p (.agg [.bool false, .str [], .int .i64 0]))] [] (PostCl 103 K) := by
  have hl1 : (s.drop 1).length = s.length - 1 := List.length_drop
  unfold decD b0 at hR
  refine CutW.go (pol := polC [21]) mixP ?_
  conv => whnf
  repeat' ((first
   | ((with_reducible first | refine Br.dec ?_ ?_ | refine Br.ndec ?_ ?_) <;> intro hb <;> (try simp only [And.intro NN (ZZ)] at hb) <;> (first | omega | skip))
   | (with_reducible first | refine Br.tt rfl ?_ | refine Br.ff rfl ?_ | refine Br.ff (isEmptyCons _ _) ?_)
   | (refine Side.mk ?_ ?_; focus (first | omega | (dsimp only [InR, Int.reduceToNat, IntKind.bits, Int.reducePow]; omega) | (simp only [Int.reduceToNat, hl1]; omega) | (simp [CC]; done) | (constructor <;> omega)))
   | (refine Br.mk ?_ ?_ <;> intro hb <;> (try simp only [And.intro NN (ZZ)] at hb) <;> (first | omega | skip))
   | refine Src.whole ⟨rfl, rfl⟩ ?_ | refine FrzV.whole ?_
   | refine CallW.use (dec_power (s.drop 1) (by omega)) ?_) <;> conv => whnf)
  all_goals
    first
    | (rw [if_pos (by omega)] at hR; refine CutW.sub (parse_21 less w p 0 (by omega) (by omega) R K hR h0) (by repeat first | exact trivial | refine ⟨VLe.refl _, ?_⟩) (by repeat first | exact trivial | refine ⟨by decide, ?_⟩))
    | (rw [if_neg (by omega), if_pos (by omega)] at hR; subst hR; refine PostCl.of (h0) (by repeat first | exact trivial | refine ⟨VLe.refl _, ?_⟩) (by repeat first | exact trivial | refine ⟨by decide, ?_⟩))
    | (rw [if_neg (by omega), if_neg (by omega), if_pos (by assumption)] at hR; subst hR; refine PostCl.of (h0) (by repeat first | exact trivial | refine ⟨VLe.refl _, ?_⟩) (by repeat first | exact trivial | refine ⟨by decide, ?_⟩))
    | (rw [if_neg (by omega), if_neg (by omega), if_neg (nf (by assumption))] at hR; refine CutW.sub (parse_21 less w p (decPow (s.drop 1)).1 (by omega) (decPow_bound _) R K hR h0) (by repeat first | exact trivial | refine ⟨VLe.refl _, ?_⟩) (by repeat first | exact trivial | refine ⟨by decide, ?_⟩))
theorem parse_9 (less : Bool) (w s : Str) (hw : w.length + s.length ≤ 400) (R : Dnum) (K : Post) (hR : decC less w s = R)
    (h0 : K .ret [(2, .ptr 0 0), (3, .p (.bool R.2))] [.var T.dec_number (.p (.agg [.bool R.1.1, .str R.1.2.1, .int .i64 R.1.2.2]))] []) :
    CutW PP GG 103 0 (tailN F.dec_parse_c 9) [(2, .ptr 0 0), (4, .p (.str s)), (5, .p (.bool less)), (7, .p (.str w)), (8, .p (.str [])), (9, .p (.int .i64 0))] [.var T.dec_number (.p (.agg [.bool false, .str [], .int .i64 0]))] [] (PostCl 103 K) := by
  have hl1 : (s.drop 1).length = s.length - 1 := List.length_drop
  have hr1 := runL_le (s.drop 1)
  have e1 : List.take (((runL (s.drop 1) : Int) + 1).toNat - 1) (s.drop 1) = List.take (runL (s.drop 1)) (s.drop 1) := by congr 1 <;> omega
  have e2 : List.drop ((runL (s.drop 1) : Int) + 1).toNat s = List.drop (runL (s.drop 1)) (s.drop 1) := by rw [List.drop_drop]; congr 1 <;> omega
  have e5 : 1 ≤ s.length → w.length + (List.take (((runL (s.drop 1) : Int) + 1).toNat - 1) (s.drop 1)).length + (List.drop ((runL (s.drop 1) : Int) + 1).toNat s).length ≤ 400 := by intro h; rw [e1, e2, take_run, List.length_drop]; omega
  unfold decC at hR
  refine CutW.go (pol := polC [14]) mixP ?_
  conv => whnf
  repeat' ((first
   | ((with_reducible first | refine Br.dec ?_ ?_ | refine Br.ndec ?_ ?_) <;> intro hb <;> (try simp only [And.intro NN (ZZ)] at hb) <;> (first | omega | skip))
   | (with_reducible first | refine Br.tt rfl ?_ | refine Br.ff rfl ?_ | refine Br.ff (isEmptyCons _ _) ?_)
   | (refine Side.mk ?_ ?_; focus (first | omega | (dsimp only [InR, Int.reduceToNat, IntKind.bits, Int.reducePow]; omega) | exact ⟨by decide, by have := preB_len (by assumption); omega⟩ | (have := preB_len (by assumption); simp only [Int.reduceToNat, hl1]; omega) | (simp [CC]; done) | (constructor <;> omega)))
   | (refine Br.mk ?_ ?_ <;> intro hb <;> (try simp only [And.intro NN (ZZ)] at hb) <;> (first | omega | skip))
   | refine Src.whole ⟨rfl, rfl⟩ ?_ | refine FrzV.whole ?_
   | refine CallW.use (strings_HasPrefix s 46) ?_
   | refine CallW.use (dec_digits (s.drop 1) (by omega)) ?_) <;> conv => whnf)
  all_goals
    first
    | (rw [if_pos (by assumption), if_pos (by omega)] at hR; subst hR; refine PostCl.of (h0) (by repeat first | exact trivial | refine ⟨VLe.refl _, ?_⟩) (by repeat first | exact trivial | refine ⟨by decide, ?_⟩))
    | (rw [if_pos (by assumption), if_neg (by omega), ← e1, ← e2] at hR; refine CutW.sub (parse_14 less w _ _ (e5 (preB_len (by assumption))) R K hR h0) (by repeat first | exact trivial | refine ⟨VLe.refl _, ?_⟩) (by repeat first | exact trivial | refine ⟨by decide, ?_⟩))
    | (rw [if_neg (nt (by assumption))] at hR; refine CutW.sub (parse_14 less w [] s (by simp only [List.length_nil]; omega) R K hR h0) (by repeat first | exact trivial | refine ⟨VLe.refl _, ?_⟩) (by repeat first | exact trivial | refine ⟨by decide, ?_⟩))
theorem parse_4 (less : Bool) (s : Str) (hw : s.length ≤ 400) (R : Dnum) (K : Post) (hR : decB less s = R)
    (h0 : K .ret [(2, .ptr 0 0), (3, .p (.bool R.2))] [.var T.dec_number (.p (.agg [.bool R.1.1, .str R.1.2.1, .int .i64 R.1.2.2]))] []) :
    CutW PP GG 103 0 (tailN F.dec_parse_c 4) [(2, .ptr 0 0), (4, .p (.str s)), (5, .p (.bool less))] [.var T.dec_number (.p (.agg [.bool false, .str [], .int .i64 0]))] [] (PostCl 103 K) := by
  have hr := runL_le s
  have hwl : (s.take (runL s)).length = runL s := take_run s
  have hul : (s.drop (runL s)).length = s.length - runL s := List.length_drop
  unfold decB b0 at hR
  refine CutW.go (pol := polC [9]) mixP ?_
  conv => whnf
  repeat' ((first
   | ((with_reducible first | refine Br.dec ?_ ?_ | refine Br.ndec ?_ ?_) <;> intro hb <;> (try simp only [And.intro NN (And.intro @Int.toNat_natCast (And.intro @hwl (ZZ)))] at hb) <;> (first | omega | skip))
   | (with_reducible first | refine Br.tt rfl ?_ | refine Br.ff rfl ?_ | refine Br.ff (isEmptyCons _ _) ?_)
   | (refine Side.mk ?_ ?_; focus (first | omega | (dsimp only [InR, Int.reduceToNat, IntKind.bits, Int.reducePow]; omega) | (simp only [And.intro NN (And.intro @Int.toNat_natCast hwl)]; omega) | (simp [CC]; done) | (constructor <;> omega)))
   | (refine Br.mk ?_ ?_ <;> intro hb <;> (try simp only [And.intro NN (And.intro @Int.toNat_natCast (And.intro @hwl (ZZ)))] at hb) <;> (first | omega | skip))
   | refine Src.whole ⟨rfl, rfl⟩ ?_ | refine FrzV.whole ?_
   | refine CallW.use (dec_digits s (by omega)) ?_) <;> conv => whnf)
  all_goals
    first
    | (rw [if_pos (by omega)] at hR; subst hR; refine PostCl.of (h0) (by repeat first | exact trivial | refine ⟨VLe.refl _, ?_⟩) (by repeat first | exact trivial | refine ⟨by decide, ?_⟩))
    | (rw [if_neg (by omega)] at hR; refine CutW.sub (parse_9 less (s.take (runL s)) (s.drop (runL s)) (by omega) R K hR h0) (by repeat first | exact trivial | refine ⟨VLe.refl _, ?_⟩) (by repeat first | exact trivial | refine ⟨by decide, ?_⟩))
theorem dec_parse (s : Str) (hs : s.length ≤ 1073741824) : AbsCall PP GG F.dec_parse [.p (.str s)] [] ⟨.ret (.tup [.p (.agg [.bool (decParse s).1.1, .str (decParse s).1.2.1, .int .i64 (decParse s).1.2.2]), .p (.bool (decParse s).2)]), [], []⟩ := by
  have hD : decParse s = if 400 < s.length then noNum else decB (preB s 45) (if preB s 45 = true then s.drop 1 else s) := rfl
  have hle : (if preB s 45 = true then s.drop 1 else s).length ≤ s.length := by split <;> simp
  refine absCall_of (pol := polC [4]) mixP F.dec_parse_is ?_
  conv => whnf
  repeat' ((first
   | ((with_reducible first | refine Br.dec ?_ ?_ | refine Br.ndec ?_ ?_) <;> intro hb <;> (try simp only [ZZ] at hb) <;> (first | omega | skip))
   | (with_reducible first | refine Br.tt rfl ?_ | refine Br.ff rfl ?_ | refine Br.ff (isEmptyCons _ _) ?_)
   | (refine Side.mk ?_ ?_; focus (first | omega | (dsimp only [InR, Int.reduceToNat, IntKind.bits, Int.reducePow]; omega) | (simp [CC]; done) | (constructor <;> omega)))
   | (refine Br.mk ?_ ?_ <;> intro hb <;> (try simp only [ZZ] at hb) <;> (first | omega | skip))
   | refine Src.whole ⟨rfl, rfl⟩ ?_ | refine FrzV.whole ?_
   | refine CallW.use (strings_CutPrefix s 45) ?_) <;> conv => whnf)
  · exact CLe.eq (by rw [hD, if_pos (by omega)]; rfl)
  · refine CutW.cl ?_
    refine CutW.sub (parse_4 (preB s 45) (if preB s 45 = true then s.drop 1 else s) (by omega) (decParse s) _ (by rw [hD]; exact (if_neg (by omega)).symm) ?_) (by repeat first | exact trivial | refine ⟨VLe.refl _, ?_⟩) (by repeat first | exact trivial | refine ⟨by decide, ?_⟩)
    conv => whnf
    exact CLe.eq rfl
theorem dec_Good (s : Str) (hs : s.length ≤ 1073741824) : AbsCall PP GG F.dec_Good [.p (.str s)] [] ⟨.ret (.p (.bool (decParse s).2)), [], []⟩ := by
  refine absCall_of (pol := polG) mixP F.dec_Good_is ?_
  conv => whnf
  repeat' ((first
   | ((with_reducible first | refine Br.dec ?_ ?_ | refine Br.ndec ?_ ?_) <;> intro hb <;> (try simp only [ZZ] at hb) <;> (first | omega | skip))
   | (with_reducible first | refine Br.tt rfl ?_ | refine Br.ff rfl ?_ | refine Br.ff (isEmptyCons _ _) ?_)
   | (refine Side.mk ?_ ?_; focus (first | omega | (dsimp only [InR, Int.reduceToNat, IntKind.bits, Int.reducePow]; omega) | (simp [CC]; done) | (constructor <;> omega)))
   | (refine Br.mk ?_ ?_ <;> intro hb <;> (try simp only [ZZ] at hb) <;> (first | omega | skip))
   | refine Src.whole ⟨rfl, rfl⟩ ?_ | refine FrzV.whole ?_
   | refine CallW.use (dec_parse s hs) ?_) <;> conv => whnf)
  exact CLe.eq rfl
theorem ElemZ.byte {s : Str} {i : Nat} {K : PV → Prop} {b : UInt8} (h : s[i]? = some b) (k : K (byteP b)) : ElemZ (s.map byteP) i 1 K := ⟨_, by rw [List.getElem?_map, h]; rfl, rfl, k⟩
theorem value_letters (s : Str) (hs : s.length ≤ 1073741824) : AbsCall PP GG F.value_letters [.p (.str s)] [] ⟨.ret (.p (.int .i64 (if (utfValid s).2 = false then 3 else if 4096 < s.length then 2 else 0))), [], []⟩ := by
  refine absCall_of (pol := polG) mixP F.value_letters_is ?_
  conv => whnf
  repeat' ((first
   | ((with_reducible first | refine Br.dec ?_ ?_ | refine Br.ndec ?_ ?_) <;> intro hb <;> (try simp only [ZZ] at hb) <;> (first | omega | skip))
   | (with_reducible first | refine Br.tt rfl ?_ | refine Br.ff rfl ?_ | refine Br.ff (isEmptyCons _ _) ?_)
   | (refine Side.mk ?_ ?_; focus (first | omega | (dsimp only [InR, Int.reduceToNat, IntKind.bits, Int.reducePow]; omega) | (simp [CC]; done) | (constructor <;> omega)))
   | (refine Br.mk ?_ ?_ <;> intro hb <;> (try simp only [ZZ] at hb) <;> (first | omega | skip))
   | refine Src.whole ⟨rfl, rfl⟩ ?_ | refine FrzV.whole ?_
   | refine CallW.use (utf_Valid s hs) ?_) <;> conv => whnf)
  · exact CLe.retP (by rw [if_pos hb])
  · rename_i h
    exact CLe.retP (by rw [if_neg (nf h), if_pos (by omega)])
  · rename_i h
    exact CLe.retP (by rw [if_neg (nf h), if_neg (by omega)])
theorem value_stamp_1 (c : UInt8) : AbsCall PP GG F.value_stamp_1 [.p (byteP c)] [] ⟨.ret (.p (.bool (oddB c))), [], []⟩ := by
  have hc := UInt8.toNat_lt c
  refine absCall_of (pol := polG) mixP F.value_stamp_1_is ?_
  conv => whnf
  repeat' ((first
   | ((with_reducible first | refine Br.dec ?_ ?_ | refine Br.ndec ?_ ?_) <;> intro hb <;> (try simp only [ZZ] at hb) <;> (first | omega | skip))
   | (with_reducible first | refine Br.tt rfl ?_ | refine Br.ff rfl ?_ | refine Br.ff (isEmptyCons _ _) ?_)
   | (refine Side.mk ?_ ?_; focus (first | omega | (dsimp only [InR, Int.reduceToNat, IntKind.bits, Int.reducePow]; omega) | (simp [CC]; done) | (constructor <;> omega)))
   | (refine Br.mk ?_ ?_ <;> intro hb <;> (try simp only [ZZ] at hb) <;> (first | omega | skip))
   | refine Src.whole ⟨rfl, rfl⟩ ?_ | refine FrzV.whole ?_) <;> conv => whnf)
  all_goals exact CLe.retP (by simp only [PV.bool.injEq, oddB]; first | (symm; rw [decide_eq_false_iff_not]; omega) | (symm; rw [decide_eq_true_eq]; omega) | (rw [decide_eq_decide]; omega))
theorem idx_loop (s : Str) (hs : s.length ≤ 1073741824) (R : Int) (K : Post)
    (h0 : R = -1 → K (.exit 0) [] [] [])
    (hr : ∀ i : Int, R = i → 0 ≤ i → K .ret [(4, .p (.int .i64 i))] [] []) :
    ∀ (q i : Nat), i + q = s.length → findI (s.drop i) i = R →
      LoopW PP GG 19 0 (loopN F.slices_IndexFunc_byte_byte_c 0) [(0, .p (.lst false (s.map byteP))), (1, .p (.fn (.func F.value_stamp_1))), (7, .p (.int .i64 s.length)), (8, .p (.int .i64 i))] [] [] (PostCl 19 K) := by
  have hl : (s.map byteP).length = s.length := by simp
  intro q
  induction q with
  | zero =>
    intro i hi hR
    rw [List.drop_eq_nil_of_le (by omega), findI] at hR
    refine LoopW.round (pol := polG) mixP ?_
    conv => whnf
    repeat' ((first
     | ((with_reducible first | refine Br.dec ?_ ?_ | refine Br.ndec ?_ ?_) <;> intro hb <;> (try simp only [ZZ] at hb) <;> (first | omega | skip))
     | (with_reducible first | refine Br.tt rfl ?_ | refine Br.ff rfl ?_ | refine Br.ff (isEmptyCons _ _) ?_)
     | (refine Side.mk ?_ ?_; focus (first | omega | (dsimp only [InR, Int.reduceToNat, IntKind.bits, Int.reducePow]; omega) | (simp [CC]; done) | (constructor <;> omega)))
     | (refine Br.mk ?_ ?_ <;> intro hb <;> (try simp only [ZZ] at hb) <;> (first | omega | skip))
     | refine Src.whole ⟨rfl, rfl⟩ ?_ | refine FrzV.whole ?_) <;> conv => whnf)
    · refine PostCl.of (h0 hR.symm) ?_ ?_
      · repeat first | exact trivial | refine ⟨VLe.refl _, ?_⟩
      · repeat first | exact trivial | refine ⟨by decide, ?_⟩
  | succ q ih =>
    intro i hi hR
    obtain ⟨b, hbx⟩ : ∃ b, s[i]? = some b := ⟨_, List.getElem?_eq_getElem (show i < s.length by omega)⟩
    rw [drop_cons hbx, findI] at hR
    refine LoopW.round (pol := polG) mixP ?_
    conv => whnf
    repeat' ((first
     | ((with_reducible first | refine Br.dec ?_ ?_ | refine Br.ndec ?_ ?_) <;> intro hb <;> (try simp only [And.intro @hl (ZZ)] at hb) <;> (first | omega | skip))
     | (with_reducible first | refine Br.tt rfl ?_ | refine Br.ff rfl ?_ | refine Br.ff (isEmptyCons _ _) ?_)
     | (refine Side.mk ?_ ?_; focus (first | omega | (dsimp only [InR, Int.reduceToNat, IntKind.bits, Int.reducePow]; omega) | exact ⟨rfl, rfl⟩ | (simp [CC]; done) | (constructor <;> omega)))
     | (refine Br.mk ?_ ?_ <;> intro hb <;> (try simp only [And.intro @hl (ZZ)] at hb) <;> (first | omega | skip))
     | refine Src.whole ⟨rfl, rfl⟩ ?_ | refine FrzV.whole ?_
     | refine CallW.use (value_stamp_1 b) ?_
     | (refine ElemZ.byte (b := b) (by simpa using hbx) ?_)) <;> conv => whnf)
    · rw [if_pos hb] at hR
      refine PostCl.of (hr i hR.symm (by omega)) ?_ ?_
      · repeat first | exact trivial | refine ⟨VLe.refl _, ?_⟩
      · repeat first | exact trivial | refine ⟨by decide, ?_⟩
    · rw [if_neg (nt hb)] at hR
      refine LoopW.sub (ih (i + 1) (by omega) hR) (by repeat first | exact trivial | refine ⟨VLe.refl _, ?_⟩) (by repeat first | exact trivial | refine ⟨by decide, ?_⟩)
theorem slices_IndexFunc (s : Str) (hs : s.length ≤ 1073741824) : AbsCall PP GG F.slices_IndexFunc_byte_byte [.p (.lst false (s.map byteP)), .p (.fn (.func F.value_stamp_1))] [] ⟨.ret (.p (.int .i64 (findI s 0))), [], []⟩ := by
  have hl : (s.map byteP).length = s.length := by simp
  refine absCall_of (pol := polG) mixP F.slices_IndexFunc_byte_byte_is ?_
  conv => whnf
  rw [hl]
  refine LoopW.cl ?_
  refine LoopW.sub (idx_loop s hs (findI s 0) _ (fun h => ?_) (fun i h hi => ?_) s.length 0 (by omega) rfl) (by repeat first | exact trivial | refine ⟨VLe.refl _, ?_⟩) (by repeat first | exact trivial | refine ⟨by decide, ?_⟩)
  · conv => whnf
    exact CLe.eq (by rw [h])
  · conv => whnf
    exact CLe.eq (by rw [h])
theorem slices_ContainsFunc (s : Str) (hs : s.length ≤ 1073741824) : AbsCall PP GG F.slices_ContainsFunc_byte_byte [.p (.lst false (s.map byteP)), .p (.fn (.func F.value_stamp_1))] [] ⟨.ret (.p (.bool (decide (0 ≤ findI s 0)))), [], []⟩ := by
  refine absCall_of (pol := polG) mixP F.slices_ContainsFunc_byte_byte_is ?_
  conv => whnf
  repeat' ((first
   | ((with_reducible first | refine Br.dec ?_ ?_ | refine Br.ndec ?_ ?_) <;> intro hb <;> (try simp only [ZZ] at hb) <;> (first | omega | skip))
   | (with_reducible first | refine Br.tt rfl ?_ | refine Br.ff rfl ?_ | refine Br.ff (isEmptyCons _ _) ?_)
   | (refine Side.mk ?_ ?_; focus (first | omega | (dsimp only [InR, Int.reduceToNat, IntKind.bits, Int.reducePow]; omega) | (simp [CC]; done) | (constructor <;> omega)))
   | (refine Br.mk ?_ ?_ <;> intro hb <;> (try simp only [ZZ] at hb) <;> (first | omega | skip))
   | refine Src.whole ⟨rfl, rfl⟩ ?_ | refine FrzV.whole ?_
   | refine CallW.use (slices_IndexFunc s hs) ?_) <;> conv => whnf)
  exact CLe.eq rfl
theorem value_stamp (s : Str) (hs : s.length ≤ 1073741824) : AbsCall PP GG F.value_stamp [.p (.str s)] [] ⟨.ret (.p (.bool (stampOk s))), [], []⟩ := by
  have hf := findI_neg s 0 (by omega)
  have hS : stampOk s = decide (1 ≤ s.length ∧ s.length ≤ 64 ∧ ∀ b ∈ s, 32 ≤ b.toNat ∧ b.toNat ≤ 126) := rfl
  refine absCall_of (pol := polG) mixP F.value_stamp_is ?_
  conv => whnf
  repeat' ((first
   | ((with_reducible first | refine Br.dec ?_ ?_ | refine Br.ndec ?_ ?_) <;> intro hb <;> (try simp only [ZZ] at hb) <;> (first | omega | skip))
   | (with_reducible first | refine Br.tt rfl ?_ | refine Br.ff rfl ?_ | refine Br.ff (isEmptyCons _ _) ?_)
   | (refine Side.mk ?_ ?_; focus (first | omega | (dsimp only [InR, Int.reduceToNat, IntKind.bits, Int.reducePow]; omega) | (simp [CC]; done) | (constructor <;> omega)))
   | (refine Br.mk ?_ ?_ <;> intro hb <;> (try simp only [ZZ] at hb) <;> (first | omega | skip))
   | refine Src.whole ⟨rfl, rfl⟩ ?_ | refine FrzV.whole ?_
   | refine CallW.use (slices_ContainsFunc s hs) ?_) <;> conv => whnf)
  · refine CLe.retP ?_
    rw [hS, PV.bool.injEq, ← decide_not, decide_eq_decide, ← hf]
    omega
  · exact CLe.retP (by rw [hS, decide_eq_false (by omega)])
  · exact CLe.retP (by rw [hS, decide_eq_false (by omega)])
end Go.Proofs.YtaoejccgdpppgaaGreatDoor
end

section
namespace Go.Am
open Go
def leqS (a b : Str) : Bool := Op.bytesLess a b || decide (a = b)
def ownBad (k n : Int) (ls ll lm : Nat) : Prop := (k ≠ 1 ∧ k ≠ 2 ∧ n ≠ 0) ∨ (k ≠ 3 ∧ k ≠ 4 ∧ k ≠ 7 ∧ ls ≠ 0) ∨ (k ≠ 5 ∧ ll ≠ 0) ∨ (k ≠ 6 ∧ lm ≠ 0)
instance (k n : Int) (ls ll lm : Nat) : Decidable (ownBad k n ls ll lm) := by unfold ownBad; infer_instance
def nodeOk (k n : Int) (s : Str) : Bool :=
  if k = 0 ∨ k = 2 then true else if k = 1 then decide (n = 0 ∨ n = 1) else if k = 3 then numL s && !(refIntL s).2 else if k = 4 then strOk s else if k = 7 then stampOk s else decide (k = 5 ∨ k = 6)
mutual
def plainT : Tree → Bool
  | .mk k n s l m => if ownBad k n s.length l.length m.length then false else nodeOk k n s && (plainL l && plainM none m)
def plainL : List Tree → Bool
  | [] => true
  | t :: l => plainT t && plainL l
def plainM : Option Str → List (Str × Tree) → Bool
  | _, [] => true
  | o, p :: m => plainP o p && plainM (some p.1) m
def plainP : Option Str → Str × Tree → Bool
  | o, (k, t) => strOk k && (!(match o with | none => false | some p => leqS k p) && plainT t)
end
theorem plainT_eq (t : Tree) : plainT t = if ownBad t.kind t.n t.s.length t.l.length t.m.length then false else nodeOk t.kind t.n t.s && (plainL t.l && plainM none t.m) := by cases t; rw [plainT]; rfl
end Go.Am
end

section
namespace Go.Proofs.YtaoejccgdpppgaaGreatDoor
open Go Go.Am
set_option maxRecDepth 100000
def PlainIs (t : Tree) : Prop := AbsCall PP GG F.ref1_plain [.p t.enc] [] ⟨.ret (.p (.bool (plainT t))), [], []⟩
theorem plain_loopL (t : Tree) (hw : t.wt ≤ 4000000) (R : Bool) (K : Post) (hl : ∀ x ∈ t.l, PlainIs x)
    (h0 : R = true → K (.exit 1) [] [.var T.api_Value (.p t.enc)] [])
    (hr : R = false → K .ret [(2, .p (.bool false))] [.var T.api_Value (.p t.enc)] []) :
    ∀ (q i : Nat), i + q = t.l.length → plainL (t.l.drop i) = R →
      LoopW PP GG 160 0 (loopN F.ref1_plain_c 0) [(1, .ptr 0 0), (6, .p (.int .i64 i))] [.var T.api_Value (.p t.enc)] [] (PostCl 160 K) := by
  rw [Tree.enc_eta t] at h0 hr ⊢
  have hwl := t.wt_ll
  have hlen : (Tree.encL t.l).length = t.l.length := Tree.encL_length _
  intro q
  induction q with
  | zero =>
    intro i hi hR
    rw [List.drop_eq_nil_of_le (by omega), plainL] at hR
    refine LoopW.round (pol := polG) mixP ?_
    conv => whnf
    repeat' ((first
     | ((with_reducible first | refine Br.dec ?_ ?_ | refine Br.ndec ?_ ?_) <;> intro hb <;> (try simp only [And.intro @hlen (ZZ)] at hb) <;> (first | omega | contradiction | skip))
     | (with_reducible first | refine Br.tt rfl ?_ | refine Br.ff rfl ?_ | refine Br.ff (isEmptyCons _ _) ?_)
     | (refine Side.mk ?_ ?_; focus (first | omega | (dsimp only [InR, Int.reduceToNat, IntKind.bits, Int.reducePow]; omega) | (simp [CC]; done) | (constructor <;> omega)))
     | with_reducible refine Br.not ?_
     | (with_reducible first | refine Br.tt (by assumption) ?_ | refine Br.ff (by assumption) ?_)
     | (refine Br.mk ?_ ?_ <;> intro hb <;> (try simp only [And.intro @hlen (ZZ)] at hb) <;> (first | omega | contradiction | skip))
     | refine Src.whole ⟨rfl, rfl⟩ ?_ | refine FrzV.whole ?_) <;> conv => whnf)
    · refine PostCl.of (h0 hR.symm) ?_ ?_
      · repeat first | exact trivial | refine ⟨VLe.refl _, ?_⟩
      · repeat first | exact trivial | refine ⟨by decide, ?_⟩
  | succ q ih =>
    intro i hi hR
    obtain ⟨x, hx⟩ : ∃ x, t.l[i]? = some x := ⟨_, List.getElem?_eq_getElem (show i < t.l.length by omega)⟩
    rw [drop_cons hx, plainL] at hR
    have hxm : x ∈ t.l := List.mem_of_getElem? hx
    refine LoopW.round (pol := polG) mixP ?_
    conv => whnf
    repeat' ((first
     | ((with_reducible first | refine Br.dec ?_ ?_ | refine Br.ndec ?_ ?_) <;> intro hb <;> (try simp only [And.intro @hlen (ZZ)] at hb) <;> (first | omega | contradiction | skip))
     | (with_reducible first | refine Br.tt rfl ?_ | refine Br.ff rfl ?_ | refine Br.ff (isEmptyCons _ _) ?_)
     | (refine Side.mk ?_ ?_; focus (first | omega | (dsimp only [InR, Int.reduceToNat, IntKind.bits, Int.reducePow]; omega) | exact ⟨(Tree.enc_cells x).symm, (Tree.enc_isAgg x).symm⟩ | (simp [CC]; done) | (constructor <;> omega)))
     | with_reducible refine Br.not ?_
     | (with_reducible first | refine Br.tt (by assumption) ?_ | refine Br.ff (by assumption) ?_)
     | (refine Br.mk ?_ ?_ <;> intro hb <;> (try simp only [And.intro @hlen (ZZ)] at hb) <;> (first | omega | contradiction | skip))
     | refine Src.whole ⟨rfl, rfl⟩ ?_ | refine FrzV.whole ?_
     | refine CallW.use (hl x hxm) ?_
     | (refine ElemZ.tree (by simpa using hx) ?_)) <;> conv => whnf)
    · rw [hb, Bool.true_and] at hR
      refine LoopW.sub (ih (i + 1) (by omega) hR) (by repeat first | exact trivial | refine ⟨VLe.refl _, ?_⟩) (by repeat first | exact trivial | refine ⟨by decide, ?_⟩)
    · rw [hb, Bool.false_and] at hR
      refine PostCl.of (hr hR.symm) ?_ ?_
      · repeat first | exact trivial | refine ⟨VLe.refl _, ?_⟩
      · repeat first | exact trivial | refine ⟨by decide, ?_⟩
theorem plain_loopM (t : Tree) (hw : t.wt ≤ 4000000) (R : Bool) (K : Post) (hl : ∀ x ∈ t.m, PlainIs x.2)
    (h0 : R = true → K (.exit 3) [] [.var T.api_Value (.p t.enc)] [])
    (hr : R = false → K .ret [(2, .p (.bool false))] [.var T.api_Value (.p t.enc)] []) :
    ∀ (q i : Nat) (o : Option Str), i + q = t.m.length → plainM o (t.m.drop i) = R → (i = 0 → o = none) → (0 < i → ∃ p, t.m[i - 1]? = some p ∧ o = some p.1) →
      LoopW PP GG 160 0 (loopN F.ref1_plain_c 1) [(1, .ptr 0 0), (7, .p (.int .i64 i))] [.var T.api_Value (.p t.enc)] [] (PostCl 160 K) := by
  rw [Tree.enc_eta t] at h0 hr ⊢
  have hwl := t.wt_ml
  have hlen : (Tree.encM t.m).length = t.m.length := Tree.encM_length _
  intro q
  induction q with
  | zero =>
    intro i o hi hR ho1 ho2
    rw [List.drop_eq_nil_of_le (by omega), plainM] at hR
    refine LoopW.round (pol := polG) mixP ?_
    conv => whnf
    repeat' ((first
     | ((with_reducible first | refine Br.dec ?_ ?_ | refine Br.ndec ?_ ?_) <;> intro hb <;> (try simp only [And.intro @hlen (ZZ)] at hb) <;> (first | omega | contradiction | skip))
     | (with_reducible first | refine Br.tt rfl ?_ | refine Br.ff rfl ?_ | refine Br.ff (isEmptyCons _ _) ?_)
     | (refine Side.mk ?_ ?_; focus (first | omega | (dsimp only [InR, Int.reduceToNat, IntKind.bits, Int.reducePow]; omega) | (simp [CC]; done) | (constructor <;> omega)))
     | with_reducible refine Br.not ?_
     | (with_reducible first | refine Br.tt (by assumption) ?_ | refine Br.ff (by assumption) ?_)
     | (refine Br.mk ?_ ?_ <;> intro hb <;> (try simp only [And.intro @hlen (ZZ)] at hb) <;> (first | omega | contradiction | skip))
     | refine Src.whole ⟨rfl, rfl⟩ ?_ | refine FrzV.whole ?_) <;> conv => whnf)
    · refine PostCl.of (h0 hR.symm) ?_ ?_
      · repeat first | exact trivial | refine ⟨VLe.refl _, ?_⟩
      · repeat first | exact trivial | refine ⟨by decide, ?_⟩
  | succ q ih =>
    intro i o hi hR ho1 ho2
    obtain ⟨x, hx⟩ : ∃ x, t.m[i]? = some x := ⟨_, List.getElem?_eq_getElem (show i < t.m.length by omega)⟩
    rw [drop_cons hx, plainM] at hR
    have hxm : x ∈ t.m := List.mem_of_getElem? hx
    have hsp := hl x hxm
    have hxw := Tree.wt_m hxm
    obtain ⟨k, y⟩ := x
    have hst := ref1_Str k (by simp only [] at hxw; omega)
    unfold PlainIs at hsp
    rw [Tree.enc_eta y] at hsp
    simp only [plainP] at hsp hR
    have next : ∀ (i' : Nat), i' = i + 1 → plainM (some k) (t.m.drop i') = R → LoopW PP GG 160 0 (loopN F.ref1_plain_c 1) [(1, .ptr 0 0), (7, .p (.int .i64 i'))] [.var T.api_Value (.p (.agg [.int .i64 t.kind, .int .i64 t.n, .str t.s, .lst false (Tree.encL t.l), .lst false (Tree.encM t.m)]))] [] (PostCl 160 K) := by
      rintro i' rfl h
      exact ih (i + 1) (some k) (by omega) h (by omega) (fun _ => ⟨(k, y), by simpa using hx, rfl⟩)
    by_cases hi0 : i = 0
    · obtain rfl := ho1 hi0
      subst hi0
      refine LoopW.round (pol := polG) mixP ?_
      conv => whnf
      repeat' ((first
       | ((with_reducible first | refine Br.dec ?_ ?_ | refine Br.ndec ?_ ?_) <;> intro hb <;> (try simp only [And.intro @hlen (ZZ)] at hb) <;> (first | omega | contradiction | skip))
       | (with_reducible first | refine Br.tt rfl ?_ | refine Br.ff rfl ?_ | refine Br.ff (isEmptyCons _ _) ?_)
       | (refine Side.mk ?_ ?_; focus (first | omega | (dsimp only [InR, Int.reduceToNat, IntKind.bits, Int.reducePow]; omega) | exact ⟨rfl, rfl⟩ | (simp [CC]; done) | (constructor <;> omega)))
       | with_reducible refine Br.not ?_
       | (with_reducible first | refine Br.tt (by assumption) ?_ | refine Br.ff (by assumption) ?_)
       | (refine Br.mk ?_ ?_ <;> intro hb <;> (try simp only [And.intro @hlen (ZZ)] at hb) <;> (first | omega | contradiction | skip))
       | refine Src.whole ⟨rfl, rfl⟩ ?_ | refine FrzV.whole ?_
       | refine CallW.use (hsp) ?_
       | refine CallW.use (hst) ?_
       | (refine TabsW.lit F.ref1_plain_t28 (by kernel_rfl) ?_)
       | (refine ElemZ.pair (p := (k, y)) (by simpa using hx) ?_; (rw [Tree.encP, Tree.enc_eta y]; conv => whnf))) <;> conv => whnf)
      all_goals
        first
        | (rw [‹strOk k = true›, hb, Bool.not_false, Bool.true_and, Bool.true_and, Bool.true_and] at hR; refine LoopW.sub (next _ rfl hR) (by repeat first | exact trivial | refine ⟨VLe.refl _, ?_⟩) (by repeat first | exact trivial | refine ⟨by decide, ?_⟩))
        | (rw [‹strOk k = true›, hb, Bool.not_false, Bool.true_and, Bool.true_and, Bool.false_and] at hR; refine PostCl.of (hr hR.symm) (by repeat first | exact trivial | refine ⟨VLe.refl _, ?_⟩) (by repeat first | exact trivial | refine ⟨by decide, ?_⟩))
        | (rw [hb, Bool.false_and, Bool.false_and] at hR; refine PostCl.of (hr hR.symm) (by repeat first | exact trivial | refine ⟨VLe.refl _, ?_⟩) (by repeat first | exact trivial | refine ⟨by decide, ?_⟩))
    · obtain ⟨⟨k', y'⟩, hp, rfl⟩ := ho2 (by omega)
      unfold leqS at hR
      simp only [] at hR
      cases hq : (Op.bytesLess k k' || decide (k = k')) with
      | false =>
        rw [hq] at hR
        refine LoopW.round (pol := polG) mixP ?_
        conv => whnf
        repeat' ((first
         | ((with_reducible first | refine Br.dec ?_ ?_ | refine Br.ndec ?_ ?_) <;> intro hb <;> (try simp only [And.intro @hlen (ZZ)] at hb) <;> (first | omega | contradiction | skip))
         | (with_reducible first | refine Br.tt rfl ?_ | refine Br.ff rfl ?_ | refine Br.ff (isEmptyCons _ _) ?_)
         | (refine Side.mk ?_ ?_; focus (first | omega | (dsimp only [InR, Int.reduceToNat, IntKind.bits, Int.reducePow]; omega) | exact ⟨rfl, rfl⟩ | (simp [CC]; done) | (constructor <;> omega)))
         | with_reducible refine Br.not ?_
         | (with_reducible first | refine Br.tt (by assumption) ?_ | refine Br.ff (by assumption) ?_)
         | (refine Br.mk ?_ ?_ <;> intro hb <;> (try simp only [And.intro @hlen (ZZ)] at hb) <;> (first | omega | contradiction | skip))
         | refine Src.whole ⟨rfl, rfl⟩ ?_ | refine FrzV.whole ?_
         | refine CallW.use (hsp) ?_
         | refine CallW.use (hst) ?_
         | (refine TabsW.lit F.ref1_plain_t28 (by kernel_rfl) ?_)
         | (refine ElemZ.pair (p := (k, y)) (by simpa using hx) ?_; (rw [Tree.encP, Tree.enc_eta y]; conv => whnf))
         | (refine ElemZ.pair (p := (k', y')) (by rw [show ((i : Int) - 1).toNat = i - 1 by omega]; exact hp) ?_; (rw [Tree.encP, Tree.enc_eta y']; conv => whnf))) <;> conv => whnf)
        all_goals
          first
          | (rw [‹strOk k = true›, hb, Bool.not_false, Bool.true_and, Bool.true_and, Bool.true_and] at hR; refine LoopW.sub (next _ rfl hR) (by repeat first | exact trivial | refine ⟨VLe.refl _, ?_⟩) (by repeat first | exact trivial | refine ⟨by decide, ?_⟩))
          | (rw [‹strOk k = true›, hb, Bool.not_false, Bool.true_and, Bool.true_and, Bool.false_and] at hR; refine PostCl.of (hr hR.symm) (by repeat first | exact trivial | refine ⟨VLe.refl _, ?_⟩) (by repeat first | exact trivial | refine ⟨by decide, ?_⟩))
          | (rw [hb, Bool.false_and, Bool.false_and] at hR; refine PostCl.of (hr hR.symm) (by repeat first | exact trivial | refine ⟨VLe.refl _, ?_⟩) (by repeat first | exact trivial | refine ⟨by decide, ?_⟩))
      | true =>
        rw [hq] at hR
        refine LoopW.round (pol := polG) mixP ?_
        conv => whnf
        repeat' ((first
         | ((with_reducible first | refine Br.dec ?_ ?_ | refine Br.ndec ?_ ?_) <;> intro hb <;> (try simp only [And.intro @hlen (ZZ)] at hb) <;> (first | omega | contradiction | skip))
         | (with_reducible first | refine Br.tt rfl ?_ | refine Br.ff rfl ?_ | refine Br.ff (isEmptyCons _ _) ?_)
         | (refine Side.mk ?_ ?_; focus (first | omega | (dsimp only [InR, Int.reduceToNat, IntKind.bits, Int.reducePow]; omega) | exact ⟨rfl, rfl⟩ | (simp [CC]; done) | (constructor <;> omega)))
         | with_reducible refine Br.not ?_
         | (with_reducible first | refine Br.tt (by assumption) ?_ | refine Br.ff (by assumption) ?_)
         | (refine Br.mk ?_ ?_ <;> intro hb <;> (try simp only [And.intro @hlen (ZZ)] at hb) <;> (first | omega | contradiction | skip))
         | refine Src.whole ⟨rfl, rfl⟩ ?_ | refine FrzV.whole ?_
         | refine CallW.use (hsp) ?_
         | refine CallW.use (hst) ?_
         | (refine TabsW.lit F.ref1_plain_t28 (by kernel_rfl) ?_)
         | (refine ElemZ.pair (p := (k, y)) (by simpa using hx) ?_; (rw [Tree.encP, Tree.enc_eta y]; conv => whnf))
         | (refine ElemZ.pair (p := (k', y')) (by rw [show ((i : Int) - 1).toNat = i - 1 by omega]; exact hp) ?_; (rw [Tree.encP, Tree.enc_eta y']; conv => whnf))) <;> conv => whnf)
        all_goals
          first
          | (rw [‹strOk k = true›, Bool.not_true, Bool.true_and, Bool.false_and, Bool.false_and] at hR; refine PostCl.of (hr hR.symm) (by repeat first | exact trivial | refine ⟨VLe.refl _, ?_⟩) (by repeat first | exact trivial | refine ⟨by decide, ?_⟩))
          | (rw [hb, Bool.false_and, Bool.false_and] at hR; refine PostCl.of (hr hR.symm) (by repeat first | exact trivial | refine ⟨VLe.refl _, ?_⟩) (by repeat first | exact trivial | refine ⟨by decide, ?_⟩))
theorem plain_4 (t : Tree) (hw : t.wt ≤ 4000000) (hl : ∀ x ∈ t.l, PlainIs x) (hm : ∀ x ∈ t.m, PlainIs x.2) (hg : ¬ ownBad t.kind t.n t.s.length t.l.length t.m.length) (R : Bool) (K : Post)
    (hR : (nodeOk t.kind t.n t.s && (plainL t.l && plainM none t.m)) = R)
    (h0 : K .ret [(2, .p (.bool R))] [.var T.api_Value (.p t.enc)] []) :
    CutW PP GG 160 0 (tailN F.ref1_plain_c 4) [(1, .ptr 0 0), (3, .p (.int .i64 t.kind))] [.var T.api_Value (.p t.enc)] [] (PostCl 160 K) := by
  have hs := t.wt_s
  have hlL := plain_loopL t hw
  have hlM := plain_loopM t hw
  rw [Tree.enc_eta t] at h0 hlL hlM ⊢
  unfold ownBad at hg
  unfold nodeOk at hR
  have pl : t.kind ≠ 5 → plainL t.l = true := fun h => by rw [List.eq_nil_of_length_eq_zero (show t.l.length = 0 by omega)]; rfl
  have pm : t.kind ≠ 6 → plainM none t.m = true := fun h => by rw [List.eq_nil_of_length_eq_zero (show t.m.length = 0 by omega)]; rfl
  refine CutW.go (pol := polC []) mixP ?_
  conv => whnf
  repeat' ((first
   | ((with_reducible first | refine Br.dec ?_ ?_ | refine Br.ndec ?_ ?_) <;> intro hb <;> (try simp only [ZZ] at hb) <;> (first | omega | contradiction | skip))
   | (with_reducible first | refine Br.tt rfl ?_ | refine Br.ff rfl ?_ | refine Br.ff (isEmptyCons _ _) ?_)
   | (refine Side.mk ?_ ?_; focus (first | omega | (dsimp only [InR, Int.reduceToNat, IntKind.bits, Int.reducePow]; omega) | (simp [CC]; done) | (constructor <;> omega)))
   | with_reducible refine Br.not ?_
   | (with_reducible first | refine Br.tt (by assumption) ?_ | refine Br.ff (by assumption) ?_)
   | (refine Br.mk ?_ ?_ <;> intro hb <;> (try simp only [ZZ] at hb) <;> (first | omega | contradiction | skip))
   | refine Src.whole ⟨rfl, rfl⟩ ?_ | refine FrzV.whole ?_
   | refine CallW.use (ref1_Int t.s (by omega)) ?_
   | refine CallW.use (ref1_Number t.s (by omega)) ?_
   | refine CallW.use (ref1_Str t.s (by omega)) ?_
   | refine CallW.use (ref1_Stamp t.s) ?_) <;> conv => whnf)
  · rw [pl (by omega), pm (by omega), if_pos (by omega)] at hR
    subst hR
    refine PostCl.of (h0) ?_ ?_
    · repeat first | exact trivial | refine ⟨VLe.refl _, ?_⟩
    · repeat first | exact trivial | refine ⟨by decide, ?_⟩
  · rw [pl (by omega), pm (by omega), if_pos (by omega)] at hR
    subst hR
    refine PostCl.of (h0) ?_ ?_
    · repeat first | exact trivial | refine ⟨VLe.refl _, ?_⟩
    · repeat first | exact trivial | refine ⟨by decide, ?_⟩
  · rw [pl (by omega), pm (by omega), if_neg (by omega), if_pos (by omega), decide_eq_true (Or.inl hb)] at hR
    subst hR
    refine PostCl.of (h0) ?_ ?_
    · repeat first | exact trivial | refine ⟨VLe.refl _, ?_⟩
    · repeat first | exact trivial | refine ⟨by decide, ?_⟩
  · rw [pl (by omega), pm (by omega), if_neg (by omega), if_pos (by omega), show decide (t.n = 0 ∨ t.n = 1) = decide (t.n = 1) by simp [hb]] at hR
    simp only [And.intro Bool.and_true Bool.true_and] at hR
    subst hR
    refine PostCl.of (h0) ?_ ?_
    · repeat first | exact trivial | refine ⟨VLe.refl _, ?_⟩
    · repeat first | exact trivial | refine ⟨by decide, ?_⟩
  · rw [pl (by omega), pm (by omega), if_neg (by omega), if_neg (by omega), if_pos (by omega), hb] at hR
    simp only [And.intro Bool.and_true Bool.true_and] at hR
    subst hR
    refine PostCl.of (h0) ?_ ?_
    · repeat first | exact trivial | refine ⟨VLe.refl _, ?_⟩
    · repeat first | exact trivial | refine ⟨by decide, ?_⟩
  · rw [pl (by omega), pm (by omega), if_neg (by omega), if_neg (by omega), if_pos (by omega), hb] at hR
    subst hR
    refine PostCl.of (h0) ?_ ?_
    · repeat first | exact trivial | refine ⟨VLe.refl _, ?_⟩
    · repeat first | exact trivial | refine ⟨by decide, ?_⟩
  · rw [pl (by omega), pm (by omega), if_neg (by omega), if_neg (by omega), if_neg (by omega), if_pos (by omega)] at hR
    simp only [And.intro Bool.and_true Bool.true_and] at hR
    subst hR
    refine PostCl.of (h0) ?_ ?_
    · repeat first | exact trivial | refine ⟨VLe.refl _, ?_⟩
    · repeat first | exact trivial | refine ⟨by decide, ?_⟩
  · rw [pl (by omega), pm (by omega), if_neg (by omega), if_neg (by omega), if_neg (by omega), if_neg (by omega), if_pos (by omega)] at hR
    simp only [And.intro Bool.and_true Bool.true_and] at hR
    subst hR
    refine PostCl.of (h0) ?_ ?_
    · repeat first | exact trivial | refine ⟨VLe.refl _, ?_⟩
    · repeat first | exact trivial | refine ⟨by decide, ?_⟩
  · rw [pm (by omega), if_neg (by omega), if_neg (by omega), if_neg (by omega), if_neg (by omega), if_neg (by omega), decide_eq_true (Or.inl hb), Bool.true_and, Bool.and_true] at hR
    refine LoopW.cl ?_
    refine LoopW.sub (hlL R _ hl (fun h => ?_) (fun h => ?_) t.l.length 0 (by omega) hR) (by repeat first | exact trivial | refine ⟨VLe.refl _, ?_⟩) (by repeat first | exact trivial | refine ⟨by decide, ?_⟩)
    · conv => whnf
      subst h
      refine PostCl.of (h0) ?_ ?_
      · repeat first | exact trivial | refine ⟨VLe.refl _, ?_⟩
      · repeat first | exact trivial | refine ⟨by decide, ?_⟩
    · conv => whnf
      subst h
      refine PostCl.of (h0) ?_ ?_
      · repeat first | exact trivial | refine ⟨VLe.refl _, ?_⟩
      · repeat first | exact trivial | refine ⟨by decide, ?_⟩
  · rw [pl (by omega), if_neg (by omega), if_neg (by omega), if_neg (by omega), if_neg (by omega), if_neg (by omega), decide_eq_true (Or.inr hb), Bool.true_and, Bool.true_and] at hR
    refine LoopW.cl ?_
    refine LoopW.sub (hlM R _ hm (fun h => ?_) (fun h => ?_) t.m.length 0 none (by omega) hR (fun _ => rfl) (by omega)) (by repeat first | exact trivial | refine ⟨VLe.refl _, ?_⟩) (by repeat first | exact trivial | refine ⟨by decide, ?_⟩)
    · conv => whnf
      subst h
      refine PostCl.of (h0) ?_ ?_
      · repeat first | exact trivial | refine ⟨VLe.refl _, ?_⟩
      · repeat first | exact trivial | refine ⟨by decide, ?_⟩
    · conv => whnf
      subst h
      refine PostCl.of (h0) ?_ ?_
      · repeat first | exact trivial | refine ⟨VLe.refl _, ?_⟩
      · repeat first | exact trivial | refine ⟨by decide, ?_⟩
  · rw [if_neg (by omega), if_neg (by omega), if_neg (by omega), if_neg (by omega), if_neg (by omega), decide_eq_false (by omega), Bool.false_and] at hR
    subst hR
    refine PostCl.of (h0) ?_ ?_
    · repeat first | exact trivial | refine ⟨VLe.refl _, ?_⟩
    · repeat first | exact trivial | refine ⟨by decide, ?_⟩
theorem ref1_plain : ∀ t : Tree, t.wt ≤ 4000000 → PlainIs t := by
  refine Tree.indW fun t hw hl hm => ?_
  have hP := plainT_eq t
  have h4 := plain_4 t hw (fun x hx => (hl x hx).2) (fun x hx => (hm x hx).2.2)
  have hlen : (Tree.encL t.l).length = t.l.length := Tree.encL_length _
  have hmlen : (Tree.encM t.m).length = t.m.length := Tree.encM_length _
  have hP1 : ownBad t.kind t.n t.s.length t.l.length t.m.length → plainT t = false := fun h => by rw [hP, if_pos h]
  have hP2 : ¬ ownBad t.kind t.n t.s.length t.l.length t.m.length → plainT t = (nodeOk t.kind t.n t.s && (plainL t.l && plainM none t.m)) := fun h => by rw [hP, if_neg h]
  clear hP
  unfold ownBad at hP1 hP2 h4
  unfold PlainIs
  rw [Tree.enc_eta t] at h4 ⊢
  refine absCall_of (pol := polC [4]) mixP F.ref1_plain_is ?_
  conv => whnf
  repeat' ((first
   | ((with_reducible first | refine Br.dec ?_ ?_ | refine Br.ndec ?_ ?_) <;> intro hb <;> (try simp only [And.intro @hlen (And.intro @hmlen (ZZ))] at hb) <;> (first | omega | contradiction | skip))
   | (with_reducible first | refine Br.tt rfl ?_ | refine Br.ff rfl ?_ | refine Br.ff (isEmptyCons _ _) ?_)
   | (refine Side.mk ?_ ?_; focus (first | omega | (dsimp only [InR, Int.reduceToNat, IntKind.bits, Int.reducePow]; omega) | (simp [CC]; done) | (constructor <;> omega)))
   | with_reducible refine Br.not ?_
   | (with_reducible first | refine Br.tt (by assumption) ?_ | refine Br.ff (by assumption) ?_)
   | (refine Br.mk ?_ ?_ <;> intro hb <;> (try simp only [And.intro @hlen (And.intro @hmlen (ZZ))] at hb) <;> (first | omega | contradiction | skip))
   | refine Src.whole ⟨rfl, rfl⟩ ?_ | refine FrzV.whole ?_) <;> conv => whnf)
  all_goals
    first
    | exact CLe.retP (by rw [hP1 (by omega)])
    | (refine CutW.cl ?_; refine CutW.sub (h4 (by omega) (plainT t) _ (hP2 (by omega)).symm ?_) (by repeat first | exact trivial | refine ⟨VLe.refl _, ?_⟩) (by repeat first | exact trivial | refine ⟨by decide, ?_⟩); (conv => whnf); exact CLe.eq rfl)
theorem ref1_Value (t : Tree) (hw : t.wt ≤ 4000000) : AbsCall PP GG F.ref1_Value [.p t.enc] [] ⟨.ret (.p (.bool (!(steep t 32 4096).1 && plainT t))), [], []⟩ := by
  have hp := ref1_plain t hw
  have hh := ref1_Heavy t 4096 32 hw (by omega) (by omega)
  unfold PlainIs at hp
  rw [Tree.enc_eta t] at hp hh ⊢
  refine absCall_of (pol := polG) mixP F.ref1_Value_is ?_
  conv => whnf
  repeat' ((first
   | ((with_reducible first | refine Br.dec ?_ ?_ | refine Br.ndec ?_ ?_) <;> intro hb <;> (try simp only [ZZ] at hb) <;> (first | omega | contradiction | skip))
   | (with_reducible first | refine Br.tt rfl ?_ | refine Br.ff rfl ?_ | refine Br.ff (isEmptyCons _ _) ?_)
   | (refine Side.mk ?_ ?_; focus (first | omega | (dsimp only [InR, Int.reduceToNat, IntKind.bits, Int.reducePow]; omega) | (simp [CC]; done) | (constructor <;> omega)))
   | with_reducible refine Br.not ?_
   | (with_reducible first | refine Br.tt (by assumption) ?_ | refine Br.ff (by assumption) ?_)
   | (refine Br.mk ?_ ?_ <;> intro hb <;> (try simp only [ZZ] at hb) <;> (first | omega | contradiction | skip))
   | refine Src.whole ⟨rfl, rfl⟩ ?_ | refine FrzV.whole ?_
   | refine CallW.use (hp) ?_
   | refine CallW.use (hh) ?_) <;> conv => whnf)
  · exact CLe.retP (by simp [*])
  · exact CLe.retP (by simp [*])
end Go.Proofs.YtaoejccgdpppgaaGreatDoor
end

section
namespace Go.Am
open Go
def okP (R : Parts) : Bool := R.2.2.2.2 && (powerL R.2.2.2.1).2
theorem numL_eq (s : Str) : numL s = (okP (numParts s) && decide (s.length ≤ 400)) := by
  unfold numL formL okP
  cases (numParts s).2.2.2.2 <;> cases (powerL (numParts s).2.2.2.1).2 <;> rfl
theorem preB_iff (s : Str) (p : UInt8) : preB s p = true ↔ 0 < s.length ∧ b0 s = p.toNat := by
  unfold preB b0
  rw [decide_eq_true_eq]
  cases s with
  | nil => simp
  | cons b s => simp [UInt8.toNat_inj]
theorem decE_ok (less : Bool) (w p : Str) (e : Int) : (decE less w p e).2 = true := by unfold decE; split <;> rfl
theorem powL_powD : ∀ (s : Str) (v : Int), (∀ b ∈ s, dig b = true) → powL s v = powD s v
  | [], _, _ => rfl
  | b :: s, v, h => by
    rw [powL, powD, if_pos (h b (by simp)), show 10 * v + ((b.toNat : Int) - 48) = v * 10 + ((b.toNat : Int) - 48) by omega]
    by_cases hc : 100000 < v * 10 + ((b.toNat : Int) - 48)
    · rw [if_pos hc, if_pos hc]
    · rw [if_neg hc, if_neg hc]
      exact powL_powD s _ fun x hx => h x (by simp [hx])
theorem powerL_ok (p : Str) : (powerL p).2 = (powL p 0).isSome := by
  unfold powerL
  split
  · rename_i h; rw [h]; rfl
  · rename_i v h; rw [h]; split <;> rfl
theorem powTail_ok (less : Bool) (d : Str) : (powTail less d).2 = if d.length = 0 ∨ runL d ≠ d.length then false else (powD d 0).isSome := by
  unfold powTail
  split
  · rfl
  · split
    · rename_i h; rw [h]; rfl
    · rename_i v h; rw [h]; split <;> rfl
theorem partsE_ok (neg : Bool) (w f p d : Str) (h : powL p 0 = powL d 0) (less : Bool) : okP (partsE neg w f p d) = (powTail less d).2 := by
  rw [powTail_ok]
  unfold partsE okP
  split
  · rfl
  · rename_i hc
    simp only [Bool.true_and]
    rw [powerL_ok, h, powL_powD d 0 (runL_dig (by omega))]
theorem powL_sign {p : Str} (h : 0 < p.length) (hs : b0 p = 43 ∨ b0 p = 45) : powL p 0 = powL (p.drop 1) 0 := by
  cases p with
  | nil => simp at h
  | cons b s =>
    have hb : b0 (b :: s) = b.toNat := rfl
    rw [powL, if_neg]
    · rfl
    · unfold dig; rw [decide_eq_true_eq]; omega
theorem partsD_ok (neg less : Bool) (w f s : Str) : okP (partsD neg w f s) = (decD less w f s).2 := by
  unfold partsD decD
  split
  · rw [decE_ok]; rfl
  · split
    · rfl
    · have key : okP (if 0 < (s.drop 1).length ∧ (b0 (s.drop 1) = 43 ∨ b0 (s.drop 1) = 45) then partsE neg w f (s.drop 1) ((s.drop 1).drop 1) else partsE neg w f (s.drop 1) (s.drop 1)) = (decPow (s.drop 1)).2 := by
        have h45 := preB_iff (s.drop 1) 45
        have h43 := preB_iff (s.drop 1) 43
        have e45 : (45 : UInt8).toNat = 45 := rfl
        have e43 : (43 : UInt8).toNat = 43 := rfl
        rw [e45] at h45
        rw [e43] at h43
        unfold decPow
        split
        · rename_i hc
          rw [partsE_ok neg w f _ _ (powL_sign hc.1 hc.2) (preB (s.drop 1) 45)]
          by_cases hp : preB (s.drop 1) 45 = true
          · rw [if_pos hp, hp]
          · rw [if_neg hp, if_pos (h43.2 (by have := mt h45.2 hp; omega))]
            rw [show preB (s.drop 1) 45 = false by simpa using hp]
        · rename_i hc
          rw [partsE_ok neg w f _ _ rfl false, if_neg (fun h => hc (by have := h45.1 h; omega)), if_neg (fun h => hc (by have := h43.1 h; omega))]
      rw [key]
      cases hq : (decPow (s.drop 1)).2 with
      | false => rfl
      | true => rw [if_neg (by simp), decE_ok]
theorem partsC_ok (neg less : Bool) (w s : Str) : okP (partsC neg w s) = (decC less w s).2 := by
  have h := preB_iff s 46
  have e46 : (46 : UInt8).toNat = 46 := rfl
  rw [e46] at h
  unfold partsC decC
  by_cases hp : preB s 46 = true
  · rw [if_pos (h.1 hp), if_pos hp]
    split
    · rfl
    · exact partsD_ok _ _ _ _ _
  · rw [if_neg (mt h.2 hp), if_neg hp]
    exact partsD_ok _ _ _ _ _
theorem partsB_ok (neg less : Bool) (s : Str) : okP (partsB neg s) = (decB less s).2 := by
  have hb : 0 < runL s → b0 (s.take (runL s)) = b0 s := by
    intro h
    cases s with
    | nil => rfl
    | cons b s =>
      obtain ⟨k, hk⟩ : ∃ k, runL (b :: s) = k + 1 := ⟨runL (b :: s) - 1, by omega⟩
      rw [hk]; rfl
  unfold partsB decB
  by_cases h0 : runL s = 0
  · rw [if_pos (.inl h0), if_pos (.inl h0)]; rfl
  · rw [hb (by omega)]
    split
    · rfl
    · exact partsC_ok _ _ _ _
theorem decParse_ok (s : Str) : (decParse s).2 = numL s := by
  rw [numL_eq]
  have h := preB_iff s 45
  have e45 : (45 : UInt8).toNat = 45 := rfl
  rw [e45] at h
  unfold decParse
  by_cases hl : 400 < s.length
  · rw [if_pos hl, decide_eq_false (by omega), Bool.and_false]; rfl
  · rw [if_neg hl, decide_eq_true (by omega), Bool.and_true]
    unfold numParts
    by_cases hp : preB s 45 = true
    · rw [if_pos hp, if_pos (h.1 hp), hp]; exact (partsB_ok _ _ _).symm
    · rw [if_neg hp, if_neg (mt h.2 hp)]; exact (partsB_ok _ _ _).symm
end Go.Am
end

section
namespace Go.Proofs.YtaoejccgdpppgaaGreatDoor
open Go Go.Am
set_option maxRecDepth 100000
def IntIs (I : Str → Int × Bool) : Prop := ∀ s : Str, s.length ≤ 1073741824 → AbsCall PP GG F.dec_Int [.p (.str s)] [] ⟨.ret (.tup [.p (.int .i64 (I s).1), .p (.bool (I s).2)]), [], []⟩
theorem own_13 (I : Str → Int × Bool) (hI : IntIs I) (hlaw : ∀ s, numL s = true → (I s).2 = (refIntL s).2) (t : Tree) (hw : t.wt ≤ 4000000) (hk : t.kind ≠ 0 ∧ t.kind ≠ 1 ∧ t.kind ≠ 2 ∧ t.kind ≠ 5 ∧ t.kind ≠ 6) (R : Bool) (K : Post)
    (hR : (decide (¬ ownBad t.kind t.n t.s.length t.l.length t.m.length) && nodeOk t.kind t.n t.s) = R)
    (h0 : K .ret [(2, .p (.bool R))] [.var T.api_Value (.p t.enc)] []) :
    CutW PP GG 135 0 (tailN F.value_own_c 13) [(1, .ptr 0 0), (4, .p (.bool (decide (0 < (t.l.length : Int))))), (5, .p (.bool (decide (0 < (t.m.length : Int)))))] [.var T.api_Value (.p t.enc)] [] (PostCl 135 K) := by
  have hs := t.wt_s
  rw [Tree.enc_eta t] at h0 ⊢
  have hg := dec_Good t.s (by omega)
  rw [decParse_ok] at hg
  have bad : ownBad t.kind t.n t.s.length t.l.length t.m.length → R = false := fun h => by rw [← hR, decide_eq_false (fun k => k h), Bool.false_and]
  have fine : ¬ ownBad t.kind t.n t.s.length t.l.length t.m.length → nodeOk t.kind t.n t.s = R := fun h => by rw [← hR, decide_eq_true h, Bool.true_and]
  have let0 : decide ((if (utfValid t.s).2 = false then (3 : Int) else if 4096 < t.s.length then 2 else 0) = 0) = strOk t.s := by
    unfold strOk
    cases (utfValid t.s).2 with
    | false => rw [if_pos rfl, Bool.and_false]; rfl
    | true =>
      rw [if_neg (by simp), Bool.and_true]
      split
      · rw [decide_eq_false (by omega), decide_eq_false (by omega)]
      · rw [decide_eq_true rfl, decide_eq_true (by omega)]
  clear hR
  unfold ownBad at bad fine
  unfold nodeOk at fine
  refine CutW.go (pol := polC []) mixP ?_
  conv => whnf
  repeat' ((first
   | ((with_reducible first | refine Br.dec ?_ ?_ | refine Br.ndec ?_ ?_) <;> intro hb <;> (try simp only [ZZ] at hb) <;> (first | omega | skip))
   | (with_reducible first | refine Br.tt rfl ?_ | refine Br.ff rfl ?_ | refine Br.ff (isEmptyCons _ _) ?_)
   | (refine Side.mk ?_ ?_; focus (first | omega | (dsimp only [InR, Int.reduceToNat, IntKind.bits, Int.reducePow]; omega) | (simp [CC]; done) | (constructor <;> omega)))
   | (refine Br.mk ?_ ?_ <;> intro hb <;> (try simp only [ZZ] at hb) <;> (first | omega | skip))
   | refine Src.whole ⟨rfl, rfl⟩ ?_ | refine FrzV.whole ?_
   | refine CallW.use (hI t.s (by omega)) ?_
   | refine CallW.use (hg) ?_
   | refine CallW.use (value_letters t.s (by omega)) ?_
   | refine CallW.use (value_stamp t.s (by omega)) ?_) <;> conv => whnf)
  · obtain rfl := bad (by omega)
    refine PostCl.of (h0) ?_ ?_
    · repeat first | exact trivial | refine ⟨VLe.refl _, ?_⟩
    · repeat first | exact trivial | refine ⟨by decide, ?_⟩
  · obtain rfl := bad (by omega)
    refine PostCl.of (h0) ?_ ?_
    · repeat first | exact trivial | refine ⟨VLe.refl _, ?_⟩
    · repeat first | exact trivial | refine ⟨by decide, ?_⟩
  · obtain rfl := bad (by omega)
    refine PostCl.of (h0) ?_ ?_
    · repeat first | exact trivial | refine ⟨VLe.refl _, ?_⟩
    · repeat first | exact trivial | refine ⟨by decide, ?_⟩
  · have hR := fine (by omega)
    rw [if_neg (by omega), if_neg (by omega), if_pos (by omega), hb, ← hlaw t.s hb, Bool.true_and] at hR
    subst hR
    refine PostCl.of (h0) ?_ ?_
    · repeat first | exact trivial | refine ⟨VLe.refl _, ?_⟩
    · repeat first | exact trivial | refine ⟨by decide, ?_⟩
  · have hR := fine (by omega)
    rw [if_neg (by omega), if_neg (by omega), if_pos (by omega), hb, Bool.false_and] at hR
    subst hR
    refine PostCl.of (h0) ?_ ?_
    · repeat first | exact trivial | refine ⟨VLe.refl _, ?_⟩
    · repeat first | exact trivial | refine ⟨by decide, ?_⟩
  · have hR := fine (by omega)
    rw [if_neg (by omega), if_neg (by omega), if_neg (by omega), if_pos (by omega), ← let0] at hR
    subst hR
    refine PostCl.of (h0) ?_ ?_
    · repeat first | exact trivial | refine ⟨VLe.refl _, ?_⟩
    · repeat first | exact trivial | refine ⟨by decide, ?_⟩
  · have hR := fine (by omega)
    rw [if_neg (by omega), if_neg (by omega), if_neg (by omega), if_neg (by omega), if_pos (by omega)] at hR
    subst hR
    refine PostCl.of (h0) ?_ ?_
    · repeat first | exact trivial | refine ⟨VLe.refl _, ?_⟩
    · repeat first | exact trivial | refine ⟨by decide, ?_⟩
  · have hR : R = false := by
      by_cases ho : t.kind ≠ 1 ∧ t.kind ≠ 2 ∧ t.n ≠ 0 ∨ t.kind ≠ 3 ∧ t.kind ≠ 4 ∧ t.kind ≠ 7 ∧ t.s.length ≠ 0 ∨ t.kind ≠ 5 ∧ t.l.length ≠ 0 ∨ t.kind ≠ 6 ∧ t.m.length ≠ 0
      · exact bad ho
      · rw [← fine ho, if_neg (by omega), if_neg (by omega), if_neg (by omega), if_neg (by omega), if_neg (by omega), decide_eq_false (by omega)]
    subst hR
    refine PostCl.of (h0) ?_ ?_
    · repeat first | exact trivial | refine ⟨VLe.refl _, ?_⟩
    · repeat first | exact trivial | refine ⟨by decide, ?_⟩
def ownB (t : Tree) : Bool := decide (¬ ownBad t.kind t.n t.s.length t.l.length t.m.length) && nodeOk t.kind t.n t.s
theorem value_own (I : Str → Int × Bool) (hI : IntIs I) (hlaw : ∀ s, numL s = true → (I s).2 = (refIntL s).2) (t : Tree) (hw : t.wt ≤ 4000000) : AbsCall PP GG F.value_own [.p t.enc] [] ⟨.ret (.p (.bool (ownB t))), [], []⟩ := by
  have h13 := own_13 I hI hlaw t hw
  have hel : (Tree.encL t.l).length = t.l.length := Tree.encL_length _
  have hem : (Tree.encM t.m).length = t.m.length := Tree.encM_length _
  have bad : ownBad t.kind t.n t.s.length t.l.length t.m.length → ownB t = false := fun h => by unfold ownB; rw [decide_eq_false (fun k => k h), Bool.false_and]
  have fine : ¬ ownBad t.kind t.n t.s.length t.l.length t.m.length → ownB t = nodeOk t.kind t.n t.s := fun h => by unfold ownB; rw [decide_eq_true h, Bool.true_and]
  have hO : ownB t = (decide (¬ ownBad t.kind t.n t.s.length t.l.length t.m.length) && nodeOk t.kind t.n t.s) := rfl
  unfold ownBad at bad fine
  unfold nodeOk at fine
  rw [Tree.enc_eta t] at h13 ⊢
  rw [← hel, ← hem] at h13
  refine absCall_of (pol := polC [13]) mixP F.value_own_is ?_
  conv => whnf
  repeat' ((first
   | ((with_reducible first | refine Br.dec ?_ ?_ | refine Br.ndec ?_ ?_) <;> intro hb <;> (try simp only [And.intro @hel (And.intro @hem (ZZ))] at hb) <;> (first | omega | skip))
   | (with_reducible first | refine Br.tt rfl ?_ | refine Br.ff rfl ?_ | refine Br.ff (isEmptyCons _ _) ?_)
   | (refine Side.mk ?_ ?_; focus (first | omega | (dsimp only [InR, Int.reduceToNat, IntKind.bits, Int.reducePow]; omega) | (simp [CC]; done) | (constructor <;> omega)))
   | (refine Br.mk ?_ ?_ <;> intro hb <;> (try simp only [And.intro @hel (And.intro @hem (ZZ))] at hb) <;> (first | omega | skip))
   | refine Src.whole ⟨rfl, rfl⟩ ?_ | refine FrzV.whole ?_) <;> conv => whnf)
  all_goals
    first
    | exact CLe.retP (by rw [bad (by omega)])
    | (refine CLe.retP ?_
       rw [hem]
       by_cases hm : t.m.length = 0
       · rw [fine (by omega), decide_eq_false (show ¬ (0 : Int) < (t.m.length : Int) by omega)]
         repeat (first | rw [if_pos (by omega)] | rw [if_neg (by omega)])
         first | rfl | (rw [decide_eq_true (by omega)]; rfl)
       · rw [bad (by omega), decide_eq_true (show (0 : Int) < (t.m.length : Int) by omega)]; rfl)
    | (refine CLe.retP ?_
       rw [hel]
       by_cases hm : t.l.length = 0
       · rw [fine (by omega), decide_eq_false (show ¬ (0 : Int) < (t.l.length : Int) by omega)]
         repeat (first | rw [if_pos (by omega)] | rw [if_neg (by omega)])
         first | rfl | (rw [decide_eq_true (by omega)]; rfl)
       · rw [bad (by omega), decide_eq_true (show (0 : Int) < (t.l.length : Int) by omega)]; rfl)
    | (refine CutW.cl ?_; refine CutW.sub (h13 (by omega) (ownB t) _ (by rw [hel, hem]; exact hO.symm) ?_) (by repeat first | exact trivial | refine ⟨VLe.refl _, ?_⟩) (by repeat first | exact trivial | refine ⟨by decide, ?_⟩); (conv => whnf); exact CLe.eq rfl)
    | exact CLe.retP (by
        by_cases ho : t.kind ≠ 1 ∧ t.kind ≠ 2 ∧ t.n ≠ 0 ∨ t.kind ≠ 3 ∧ t.kind ≠ 4 ∧ t.kind ≠ 7 ∧ t.s.length ≠ 0 ∨ t.kind ≠ 5 ∧ t.l.length ≠ 0 ∨ t.kind ≠ 6 ∧ t.m.length ≠ 0
        · rw [bad ho]
        · rw [fine ho, if_neg (by omega), if_pos (by omega), decide_eq_false (by omega)])
end Go.Proofs.YtaoejccgdpppgaaGreatDoor
end

section
namespace Go.Proofs
open Go.Shelf
def Tryz.lays153_ren : Go.Shelf.Ren := ⟨fun | 153 => 120 | 152 => 140 | 226 => 147 | 227 => 85 | 228 => 111 | 137 => 65 | 119 => 166 | 224 => 167 | 225 => 168 | 217 => 88 | 266 => 114 | n => n, fun | 9 => 9 | 3 => 3 | 4 => 4 | 5 => 5 | 21 => 21 | 117 => 122 | 116 => 121 | 0 => 0 | 46 => 106 | 124 => 125 | n => n, fun | n => n⟩
theorem Tryz.lays153 : Go.Proofs.Lays.n153 Tryz.prog Tryz.lays153_ren := {
  mixed := by kernel_rfl
  f119 := Tryz.func166.trans (congrArg some (by kernel_rfl))
  f137 := Tryz.func65.trans (congrArg some (by kernel_rfl))
  f152 := Tryz.func140.trans (congrArg some (by kernel_rfl))
  f153 := Tryz.func120.trans (congrArg some (by kernel_rfl))
  f217 := Tryz.func88.trans (congrArg some (by kernel_rfl))
  f224 := Tryz.func167.trans (congrArg some (by kernel_rfl))
  f225 := Tryz.func168.trans (congrArg some (by kernel_rfl))
  f226 := Tryz.func147.trans (congrArg some (by kernel_rfl))
  f227 := Tryz.func85.trans (congrArg some (by kernel_rfl))
  f228 := Tryz.func111.trans (congrArg some (by kernel_rfl))
  f266 := Tryz.func114.trans (congrArg some (by kernel_rfl))
  t0 := Tryz.underlying0
  a0 := Tryz.isAgg0
  z0 := Tryz.sizeOf0
  v0 := Tryz.zeroValue0
  t3 := Tryz.underlying3
  a3 := Tryz.isAgg3
  z3 := Tryz.sizeOf3
  v3 := Tryz.zeroValue3
  t4 := Tryz.underlying4
  a4 := Tryz.isAgg4
  z4 := Tryz.sizeOf4
  v4 := Tryz.zeroValue4
  t5 := Tryz.underlying5
  a5 := Tryz.isAgg5
  z5 := Tryz.sizeOf5
  v5 := Tryz.zeroValue5
  t9 := Tryz.underlying9
  a9 := Tryz.isAgg9
  z9 := Tryz.sizeOf9
  v9 := Tryz.zeroValue9
  t21 := Tryz.underlying21
  a21 := Tryz.isAgg21
  z21 := Tryz.sizeOf21
  v21 := Tryz.zeroValue21
  t46 := Tryz.underlying106
  a46 := Tryz.isAgg106
  z46 := Tryz.sizeOf106
  v46 := Tryz.zeroValue106
  t116 := Tryz.underlying121
  a116 := Tryz.isAgg121
  z116 := Tryz.sizeOf121
  t117 := Tryz.underlying122
  a117 := Tryz.isAgg122
  z117 := Tryz.sizeOf122
  v117 := Tryz.zeroValue122
  t124 := Tryz.underlying125
  a124 := Tryz.isAgg125
  z124 := Tryz.sizeOf125
  v124 := Tryz.zeroValue125 }
def Tryz.lays150_ren : Go.Shelf.Ren := ⟨fun | 150 => 98 | 153 => 120 | 152 => 140 | 226 => 147 | 227 => 85 | 228 => 111 | 137 => 65 | 119 => 166 | 224 => 167 | 225 => 168 | 217 => 88 | 266 => 114 | n => n, fun | 9 => 9 | 4 => 4 | 3 => 3 | 5 => 5 | 21 => 21 | 117 => 122 | 116 => 121 | 0 => 0 | 46 => 106 | 124 => 125 | n => n, fun | n => n⟩
theorem Tryz.lays150 : Go.Proofs.Lays.n150 Tryz.prog Tryz.lays150_ren := {
  mixed := by kernel_rfl
  f119 := Tryz.func166.trans (congrArg some (by kernel_rfl))
  f137 := Tryz.func65.trans (congrArg some (by kernel_rfl))
  f150 := Tryz.func98.trans (congrArg some (by kernel_rfl))
  f152 := Tryz.func140.trans (congrArg some (by kernel_rfl))
  f153 := Tryz.func120.trans (congrArg some (by kernel_rfl))
  f217 := Tryz.func88.trans (congrArg some (by kernel_rfl))
  f224 := Tryz.func167.trans (congrArg some (by kernel_rfl))
  f225 := Tryz.func168.trans (congrArg some (by kernel_rfl))
  f226 := Tryz.func147.trans (congrArg some (by kernel_rfl))
  f227 := Tryz.func85.trans (congrArg some (by kernel_rfl))
  f228 := Tryz.func111.trans (congrArg some (by kernel_rfl))
  f266 := Tryz.func114.trans (congrArg some (by kernel_rfl))
  t0 := Tryz.underlying0
  a0 := Tryz.isAgg0
  z0 := Tryz.sizeOf0
  v0 := Tryz.zeroValue0
  t3 := Tryz.underlying3
  a3 := Tryz.isAgg3
  z3 := Tryz.sizeOf3
  v3 := Tryz.zeroValue3
  t4 := Tryz.underlying4
  a4 := Tryz.isAgg4
  z4 := Tryz.sizeOf4
  v4 := Tryz.zeroValue4
  t5 := Tryz.underlying5
  a5 := Tryz.isAgg5
  z5 := Tryz.sizeOf5
  v5 := Tryz.zeroValue5
  t9 := Tryz.underlying9
  a9 := Tryz.isAgg9
  z9 := Tryz.sizeOf9
  v9 := Tryz.zeroValue9
  t21 := Tryz.underlying21
  a21 := Tryz.isAgg21
  z21 := Tryz.sizeOf21
  v21 := Tryz.zeroValue21
  t46 := Tryz.underlying106
  a46 := Tryz.isAgg106
  z46 := Tryz.sizeOf106
  v46 := Tryz.zeroValue106
  t116 := Tryz.underlying121
  a116 := Tryz.isAgg121
  z116 := Tryz.sizeOf121
  t117 := Tryz.underlying122
  a117 := Tryz.isAgg122
  z117 := Tryz.sizeOf122
  v117 := Tryz.zeroValue122
  t124 := Tryz.underlying125
  a124 := Tryz.isAgg125
  z124 := Tryz.sizeOf125
  v124 := Tryz.zeroValue125 }
open Go.RowKit Go.Lib in
theorem Tryz.strings_ContainsAny_laid (s chars : ByteArray) (w : World) (hs : s.size < 4294967281) (hcs : chars.size < 4294967281) (has : ∀ (j : Nat) b, s.data.toList[j]? = some b → b.toNat < 128) (hac : ∀ (j : Nat) b, chars.data.toList[j]? = some b → b.toNat < 128) :
    Calls Tryz.prog 98 #[.string s, .string chars] w fun e w' => e = .returned (.bool (Lib.containsAny s.data.toList chars.data.toList)) ∧ Below w.heap.size w w' := Any.strings_ContainsAny_laid Tryz.lays150 (by kernel_rfl) s chars w hs hcs has hac
end Go.Proofs
end

section
namespace Go.Proofs.YtaoejccgdpppgaaGreatDoor
open Go Go.Am Go.RowKit
theorem strings_ContainsAny (s c : List UInt8) (hs : s.length < 4294967281) (hc : c.length < 4294967281) (h1 : ∀ (j : Nat) (b : UInt8), s[j]? = some b → b.toNat < 128) (h2 : ∀ (j : Nat) (b : UInt8), c[j]? = some b → b.toNat < 128) (H : Heap) :
    AbsCall PP GG F.strings_ContainsAny [.p (.str s), .p (.str c)] H ⟨.ret (.p (.bool (Lib.containsAny s c))), H, []⟩ := by
  refine absBelow fun B L w vs _ ha hg => ?_
  obtain ⟨v, u, rfl, hv, hu⟩ := vrel2 ha
  obtain rfl := vstr hv
  obtain rfl := vstr hu
  refine CallTo.of_calls Tryz.func98 (by kernel_rfl) rfl ((Tryz.strings_ContainsAny_laid ⟨s.toArray⟩ ⟨c.toArray⟩ w (by simpa [ByteArray.size] using hs) (by simpa [ByteArray.size] using hc) (by simpa using h1) (by simpa using h2)).mono ?_)
  rintro e w' ⟨rfl, hb⟩
  exact ⟨hb, _, rfl, by simpa using VRel.p _ _ (.bool _)⟩
theorem vrel3 {B : Nat → Prop} {L : Am.Loc} {w : World} {x y z : V} {vs : List Value} (h : VRelL B L w [x, y, z] vs) : ∃ v u t, vs = [v, u, t] ∧ VRel B L w x v ∧ VRel B L w y u ∧ VRel B L w z t := by
  match vs, h with
  | [v, u, t], h => exact ⟨v, u, t, rfl, h.2 0 _ _ rfl rfl, h.2 1 _ _ rfl rfl, h.2 2 _ _ rfl rfl⟩
  | [], h => have := h.1; simp at this
  | [_], h => have := h.1; simp at this
  | [_, _], h => have := h.1; simp at this
  | _ :: _ :: _ :: _ :: _, h => have := h.1; simp at this
end Go.Proofs.YtaoejccgdpppgaaGreatDoor
end

section
namespace Go.Proofs
open Go.Shelf
def Tryz.laysC174_ren : Go.Shelf.Ren := ⟨fun | 174 => 99 | 247 => 126 | 245 => 127 | 287 => 149 | 279 => 150 | 280 => 151 | 281 => 152 | 282 => 153 | 321 => 174 | 322 => 175 | 316 => 176 | 171 => 178 | 205 => 177 | 243 => 187 | 246 => 105 | 283 => 132 | 284 => 133 | 285 => 134 | 286 => 135 | 129 => 159 | 317 => 158 | 318 => 160 | 319 => 161 | 320 => 162 | 337 => 182 | 338 => 183 | n => n, fun | 9 => 9 | 3 => 3 | 2 => 2 | 75 => 94 | 85 => 130 | 4 => 4 | 167 => 171 | 5 => 5 | 53 => 160 | 175 => 172 | 46 => 106 | 168 => 174 | 37 => 34 | 0 => 0 | 210 => 195 | 21 => 21 | 127 => 101 | 145 => 204 | 143 => 202 | 171 => 159 | 173 => 163 | 212 => 180 | 51 => 181 | 20 => 20 | 213 => 182 | 232 => 212 | 233 => 213 | 80 => 66 | n => n, fun | 15 => 4 | 16 => 5 | 17 => 1 | 18 => 6 | 19 => 7 | n => n⟩
theorem Tryz.laysC174 : Go.Proofs.LaysC.n174 Tryz.prog Tryz.laysC174_ren := {
  mixed := by kernel_rfl
  f129 := Tryz.func159.trans (congrArg some (by kernel_rfl))
  f171 := Tryz.func178.trans (congrArg some (by kernel_rfl))
  f174 := Tryz.func99.trans (congrArg some (by kernel_rfl))
  f205 := Tryz.func177.trans (congrArg some (by kernel_rfl))
  f243 := Tryz.func187.trans (congrArg some (by kernel_rfl))
  f245 := Tryz.func127.trans (congrArg some (by kernel_rfl))
  f246 := Tryz.func105.trans (congrArg some (by kernel_rfl))
  f247 := Tryz.func126.trans (congrArg some (by kernel_rfl))
  f279 := Tryz.func150.trans (congrArg some (by kernel_rfl))
  f280 := Tryz.func151.trans (congrArg some (by kernel_rfl))
  f281 := Tryz.func152.trans (congrArg some (by kernel_rfl))
  f282 := Tryz.func153.trans (congrArg some (by kernel_rfl))
  f283 := Tryz.func132.trans (congrArg some (by kernel_rfl))
  f284 := Tryz.func133.trans (congrArg some (by kernel_rfl))
  f285 := Tryz.func134.trans (congrArg some (by kernel_rfl))
  f286 := Tryz.func135.trans (congrArg some (by kernel_rfl))
  f287 := Tryz.func149.trans (congrArg some (by kernel_rfl))
  f316 := Tryz.func176.trans (congrArg some (by kernel_rfl))
  f317 := Tryz.func158.trans (congrArg some (by kernel_rfl))
  f318 := Tryz.func160.trans (congrArg some (by kernel_rfl))
  f319 := Tryz.func161.trans (congrArg some (by kernel_rfl))
  f320 := Tryz.func162.trans (congrArg some (by kernel_rfl))
  f321 := Tryz.func174.trans (congrArg some (by kernel_rfl))
  f322 := Tryz.func175.trans (congrArg some (by kernel_rfl))
  f337 := Tryz.func182.trans (congrArg some (by kernel_rfl))
  f338 := Tryz.func183.trans (congrArg some (by kernel_rfl))
  t0 := Tryz.underlying0
  a0 := Tryz.isAgg0
  z0 := Tryz.sizeOf0
  v0 := Tryz.zeroValue0
  t2 := Tryz.underlying2
  a2 := Tryz.isAgg2
  z2 := Tryz.sizeOf2
  v2 := Tryz.zeroValue2
  t3 := Tryz.underlying3
  a3 := Tryz.isAgg3
  z3 := Tryz.sizeOf3
  v3 := Tryz.zeroValue3
  t4 := Tryz.underlying4
  a4 := Tryz.isAgg4
  z4 := Tryz.sizeOf4
  v4 := Tryz.zeroValue4
  t5 := Tryz.underlying5
  a5 := Tryz.isAgg5
  z5 := Tryz.sizeOf5
  v5 := Tryz.zeroValue5
  t9 := Tryz.underlying9
  a9 := Tryz.isAgg9
  z9 := Tryz.sizeOf9
  v9 := Tryz.zeroValue9
  t20 := Tryz.underlying20
  a20 := Tryz.isAgg20
  z20 := Tryz.sizeOf20
  v20 := Tryz.zeroValue20
  t21 := Tryz.underlying21
  a21 := Tryz.isAgg21
  z21 := Tryz.sizeOf21
  v21 := Tryz.zeroValue21
  t37 := Tryz.underlying34
  a37 := Tryz.isAgg34
  z37 := Tryz.sizeOf34
  v37 := Tryz.zeroValue34
  t46 := Tryz.underlying106
  a46 := Tryz.isAgg106
  z46 := Tryz.sizeOf106
  v46 := Tryz.zeroValue106
  t51 := Tryz.underlying181
  a51 := Tryz.isAgg181
  z51 := Tryz.sizeOf181
  v51 := Tryz.zeroValue181
  t53 := Tryz.underlying160
  a53 := Tryz.isAgg160
  z53 := Tryz.sizeOf160
  v53 := Tryz.zeroValue160
  t75 := Tryz.underlying94
  a75 := Tryz.isAgg94
  z75 := Tryz.sizeOf94
  v75 := Tryz.zeroValue94
  t85 := Tryz.underlying130
  a85 := Tryz.isAgg130
  z85 := Tryz.sizeOf130
  v85 := Tryz.zeroValue130
  t127 := Tryz.underlying101
  a127 := Tryz.isAgg101
  z127 := Tryz.sizeOf101
  v127 := Tryz.zeroValue101
  t143 := Tryz.underlying202
  a143 := Tryz.isAgg202
  z143 := Tryz.sizeOf202
  v143 := Tryz.zeroValue202
  t145 := Tryz.underlying204
  a145 := Tryz.isAgg204
  z145 := Tryz.sizeOf204
  v145 := Tryz.zeroValue204
  t167 := Tryz.underlying171
  a167 := Tryz.isAgg171
  z167 := Tryz.sizeOf171
  v167 := Tryz.zeroValue171
  t168 := Tryz.underlying174
  a168 := Tryz.isAgg174
  z168 := Tryz.sizeOf174
  v168 := Tryz.zeroValue174
  t171 := Tryz.underlying159
  a171 := Tryz.isAgg159
  z171 := Tryz.sizeOf159
  v171 := Tryz.zeroValue159
  t173 := Tryz.underlying163
  a173 := Tryz.isAgg163
  z173 := Tryz.sizeOf163
  v173 := Tryz.zeroValue163
  t175 := Tryz.underlying172
  a175 := Tryz.isAgg172
  z175 := Tryz.sizeOf172
  v175 := Tryz.zeroValue172
  t210 := Tryz.underlying195
  a210 := Tryz.isAgg195
  z210 := Tryz.sizeOf195
  v210 := Tryz.zeroValue195
  t212 := Tryz.underlying180
  a212 := Tryz.isAgg180
  z212 := Tryz.sizeOf180
  v212 := Tryz.zeroValue180
  t213 := Tryz.underlying182
  a213 := Tryz.isAgg182
  z213 := Tryz.sizeOf182
  t232 := Tryz.underlying212
  a232 := Tryz.isAgg212
  z232 := Tryz.sizeOf212
  v232 := Tryz.zeroValue212
  t233 := Tryz.underlying213
  a233 := Tryz.isAgg213
  z233 := Tryz.sizeOf213
  v233 := Tryz.zeroValue213
  g15 := by kernel_rfl
  g16 := by kernel_rfl
  g17 := by kernel_rfl
  g18 := by kernel_rfl
  g19 := by kernel_rfl
  t80 := Tryz.underlying66
  a80 := Tryz.isAgg66
  z80 := Tryz.sizeOf66
  v80 := Tryz.zeroValue66
  i0 := by kernel_rfl
  i2 := by kernel_rfl
  i3 := by kernel_rfl
  i4 := by kernel_rfl
  i5 := by kernel_rfl
  i9 := by kernel_rfl
  i20 := by kernel_rfl
  i21 := by kernel_rfl
  i37 := by kernel_rfl
  i46 := by kernel_rfl
  i51 := by kernel_rfl
  i53 := by kernel_rfl
  i75 := by kernel_rfl
  i80 := by kernel_rfl
  i85 := by kernel_rfl
  i127 := by kernel_rfl
  i143 := by kernel_rfl
  i145 := by kernel_rfl
  i167 := by kernel_rfl
  i168 := by kernel_rfl
  i171 := by kernel_rfl
  i173 := by kernel_rfl
  i175 := by kernel_rfl
  i210 := by kernel_rfl
  i212 := by kernel_rfl
  i232 := by kernel_rfl
  i233 := by kernel_rfl
  m15 := by kernel_rfl
  m16 := by kernel_rfl
  m17 := by kernel_rfl
  m18 := by kernel_rfl
  m19 := by kernel_rfl
  c0 := by kernel_rfl
  c2 := by kernel_rfl
  c3 := by kernel_rfl
  c4 := by kernel_rfl
  c5 := by kernel_rfl
  c9 := by kernel_rfl
  c20 := by kernel_rfl
  c21 := by kernel_rfl
  c37 := by kernel_rfl
  c46 := by kernel_rfl
  c51 := by kernel_rfl
  c53 := by kernel_rfl
  c75 := by kernel_rfl
  c80 := by kernel_rfl
  c85 := by kernel_rfl
  c127 := by kernel_rfl
  c143 := by kernel_rfl
  c145 := by kernel_rfl
  c167 := by kernel_rfl
  c168 := by kernel_rfl
  c171 := by kernel_rfl
  c173 := by kernel_rfl
  c175 := by kernel_rfl
  c210 := by kernel_rfl
  c212 := by kernel_rfl
  c213 := by kernel_rfl
  c232 := by kernel_rfl
  c233 := by kernel_rfl }
open Go.RowKit in
theorem Tryz.strconv_ParseInt_10_at64_ok (s : ByteArray) (hmax : s.size ≤ 9223372036854775806) (v : Int) (h : Lib.parseIntB 64 s.data.toList = .ok v) (w : World) :
    Calls Tryz.prog 99 #[.string s, .int .i64 10, .int .i64 64] w fun e w' => e = .returned (.tuple #[.int .i64 v, .nilIface]) ∧ (w' = w ∨ ∃ t, w' = Lib.bytesWorld w 5 t) := Any.strconv_ParseInt_10_at64_ok Tryz.laysC174 s hmax v h w
open Go.RowKit in
theorem Tryz.strconv_ParseInt_10_at64_other (s : ByteArray) (hlim : s.size ≤ 281474976710656) (h : (∀ v, Lib.parseIntB 64 s.data.toList ≠ .ok v) ∧ Lib.parseIntB 64 s.data.toList ≠ .range) (ev : Value) (w : World) (hv : w.cell? ⟨4, 0, none⟩ = some ev) (hev : ev = .nilIface ∨ ∃ te pe, ev = .iface te pe) :
    Calls Tryz.prog 99 #[.string s, .int .i64 10, .int .i64 64] w fun e w' => ∃ N, e = .returned (.tuple #[.int .i64 (0), .iface 174 (.pointer (some ⟨N, 0, none⟩))]) ∧ w.heap.size ≤ N ∧ w'.heap[N]? = some (.cells #[.string ⟨#[80, 97, 114, 115, 101, 73, 110, 116]⟩, .string s, ev] 195 (0, 0)) ∧ Below w.heap.size w w' := Any.strconv_ParseInt_10_at64_syntax Tryz.laysC174 s hlim (by
    cases hx : Lib.parseIntB 64 s.data.toList with
    | ok v => exact absurd hx (h.1 v)
    | range => exact absurd hx h.2
    | _ => rfl) ev w hv hev
open Go.RowKit in
theorem Tryz.strconv_ParseInt_10_at64_range (s : ByteArray) (hlim : s.size ≤ 281474976710656) (h : Lib.parseIntB 64 s.data.toList = .range) (ev : Value) (w : World) (hv : w.cell? ⟨5, 0, none⟩ = some ev) (hev : ev = .nilIface ∨ ∃ te pe, ev = .iface te pe) :
    Calls Tryz.prog 99 #[.string s, .int .i64 10, .int .i64 64] w fun e w' => ∃ N, e = .returned (.tuple #[.int .i64 (Lib.intSat 64 s.data.toList), .iface 174 (.pointer (some ⟨N, 0, none⟩))]) ∧ w.heap.size ≤ N ∧ w'.heap[N]? = some (.cells #[.string ⟨#[80, 97, 114, 115, 101, 73, 110, 116]⟩, .string s, ev] 195 (0, 0)) ∧ Below w.heap.size w w' := Any.strconv_ParseInt_10_at64_range Tryz.laysC174 s hlim h ev w hv hev
end Go.Proofs
end

section
namespace Go.Am
open Go
def dotE : Str := [46, 101, 69]
def decIntL (s : Str) : Int × Bool := if numL s = false ∨ Lib.containsAny s dotE = true ∨ s = [45, 48] then (0, false) else match Lib.parseIntB 64 s with
  | .ok n => (n, true)
  | _ => (0, false)
theorem containsAny_iff (s c : Str) : Lib.containsAny s c = true ↔ ∃ b ∈ s, b ∈ c := by
  unfold Lib.containsAny
  rw [decide_eq_true_eq]
  induction s with
  | nil => simp [Lib.indexAny]
  | cons b s ih =>
    have hge := Lib.indexAny_ge c s
    have e : (0 ≤ Lib.indexAny (b :: s) c) ↔ (b ∈ c ∨ 0 ≤ Lib.indexAny s c) := by
      rw [Lib.indexAny]
      by_cases h : b ∈ c
      · simp [h]
      · have h' : c.contains b = false := by simpa using h
        rw [h', if_neg (by simp)]
        by_cases h2 : Lib.indexAny s c = -1
        · simp [h, h2]
        · have h3 : (Lib.indexAny s c == -1) = false := by simpa using h2
          rw [h3, if_neg (by simp)]
          simp only [h, false_or]
          omega
    rw [e, ih]
    simp
def valN : Str → Nat → Nat
  | [], a => a
  | b :: s, a => valN s (a * 10 + (b.toNat - 48))
theorem valN_ge : ∀ (s : Str) (a : Nat), a ≤ valN s a
  | [], a => Nat.le_refl _
  | b :: s, a => Nat.le_trans (by omega) (valN_ge s _)
theorem parseU_val {M : Nat} (hM : M = 2 ^ 64 - 1) : ∀ (s : Str) (a : Nat), (∀ b ∈ s, dig b = true) → a ≤ M → Lib.parseUintM M a s = if valN s a ≤ M then .ok (valN s a) else .range
  | [], a, _, h => by rw [Lib.parseUintM, valN, if_pos h]
  | b :: s, a, hd, h => by
    have hb := hd b (by simp)
    unfold dig at hb
    rw [decide_eq_true_eq] at hb
    have hge := valN_ge s (a * 10 + (b.toNat - 48))
    rw [Lib.parseUintM, valN, if_pos hb]
    subst hM
    split
    · rw [if_neg (by omega)]
    · split
      · rw [if_neg (by omega)]
      · exact parseU_val rfl s _ (fun x hx => hd x (by simp [hx])) (by omega)
theorem negL_val : ∀ (s : Str) (a : Nat), (∀ b ∈ s, dig b = true) → a ≤ 2 ^ 63 → negL s (-(a : Int)) = if valN s a ≤ 2 ^ 63 then some (-(valN s a : Int)) else none
  | [], a, _, h => by rw [negL, valN, if_pos h]
  | b :: s, a, hd, h => by
    have hb := hd b (by simp)
    unfold dig at hb
    rw [decide_eq_true_eq] at hb
    have hge := valN_ge s (a * 10 + (b.toNat - 48))
    rw [negL, valN]
    split
    · rw [if_neg (by omega)]
    · have e : 10 * (-(a : Int)) - ((b.toNat : Int) - 48) = -((a * 10 + (b.toNat - 48) : Nat) : Int) := by omega
      rw [e]
      exact negL_val s _ (fun x hx => hd x (by simp [hx])) (by omega)
def Whole (_s : Str) (x : Parts) (neg : Bool) (w r : Str) : Prop :=
  ((∃ b ∈ r, b ∈ dotE) ∧ (0 < x.2.2.1.length ∨ 0 < x.2.2.2.1.length)) ∨ (r = [] ∧ x = (neg, w, [], [], true))
theorem partsD_whole (neg : Bool) (w f s : Str) (h : (partsD neg w f s).2.2.2.2 = true) : (s = [] ∧ partsD neg w f s = (neg, w, f, [], true)) ∨ ((∃ b ∈ s, b ∈ dotE) ∧ 0 < (partsD neg w f s).2.2.2.1.length ∧ (partsD neg w f s).2.2.1 = f) := by
  unfold partsD at h ⊢
  split
  · rename_i h0
    exact .inl ⟨List.eq_nil_of_length_eq_zero h0, rfl⟩
  · rename_i h0
    rw [if_neg h0] at h
    cases s with
    | nil => simp at h0
    | cons c s =>
      split
      · rename_i h1; rw [if_pos h1] at h; cases h
      · rename_i h1
        rw [if_neg h1] at h
        have hc : c ∈ dotE := by
          simp only [b0, List.getD_cons_zero] at h1
          have h1 : c.toNat = 101 ∨ c.toNat = 69 := by omega
          have hu : ∀ n : UInt8, c.toNat = n.toNat → c = n := fun n h => UInt8.toNat_inj.1 h
          rcases h1 with h1 | h1
          · rw [hu 101 h1]; decide
          · rw [hu 69 h1]; decide
        refine .inr ⟨⟨c, by simp, hc⟩, ?_⟩
        have key : ∀ p d : Str, d.length ≤ p.length → (partsE neg w f p d).2.2.2.2 = true → 0 < (partsE neg w f p d).2.2.2.1.length ∧ (partsE neg w f p d).2.2.1 = f := by
          intro p d hpd hh
          unfold partsE at hh ⊢
          split
          · rename_i h2; rw [if_pos h2] at hh; cases hh
          · rename_i h2; refine ⟨?_, rfl⟩; simp only []; omega
        split
        · rename_i h2
          rw [if_pos h2] at h
          exact key _ _ (by rw [List.length_drop (i := 1)]; omega) h
        · rename_i h2
          rw [if_neg h2] at h
          exact key _ _ (Nat.le_refl _) h
theorem partsC_whole (neg : Bool) (w s : Str) (h : (partsC neg w s).2.2.2.2 = true) : Whole s (partsC neg w s) neg w s := by
  unfold partsC at h ⊢
  unfold Whole
  split
  · rename_i h1
    rw [if_pos h1] at h
    split
    · rename_i h2; rw [if_pos h2] at h; cases h
    · rename_i h2
      rw [if_neg h2] at h
      have hdot : ∃ b ∈ s, b ∈ dotE := by
        cases s with
        | nil => simp at h1
        | cons c s =>
          refine ⟨c, by simp, ?_⟩
          have h3 : c.toNat = 46 := by simpa [b0] using h1.2
          rw [show c = 46 from UInt8.toNat_inj.1 h3]; decide
      refine .inl ⟨hdot, .inl ?_⟩
      have hl : 0 < ((s.drop 1).take (runL (s.drop 1))).length := by rw [take_run]; omega
      rcases partsD_whole _ _ _ _ h with ⟨_, h4⟩ | ⟨_, _, h4⟩
      · rw [h4]; exact hl
      · rw [h4]; exact hl
  · rename_i h1
    rw [if_neg h1] at h
    rcases partsD_whole _ _ _ _ h with ⟨h3, h4⟩ | ⟨h3, h4, _⟩
    · exact .inr ⟨h3, h4⟩
    · exact .inl ⟨h3, .inr h4⟩
theorem partsB_whole (neg : Bool) (s : Str) (h : (partsB neg s).2.2.2.2 = true) : ((∃ b ∈ s, b ∈ dotE) ∧ (0 < (partsB neg s).2.2.1.length ∨ 0 < (partsB neg s).2.2.2.1.length)) ∨ (partsB neg s = (neg, s, [], [], true) ∧ s ≠ [] ∧ ∀ b ∈ s, dig b = true) := by
  unfold partsB at h ⊢
  split
  · rename_i h1; rw [if_pos h1] at h; cases h
  · rename_i h1
    rw [if_neg h1] at h
    rcases partsC_whole _ _ _ h with ⟨⟨b, hb, hb2⟩, h2⟩ | ⟨h2, h3⟩
    · exact .inl ⟨⟨b, List.mem_of_mem_drop hb, hb2⟩, h2⟩
    · have hle : s.length ≤ runL s := by
        have := congrArg List.length h2
        rw [List.length_drop] at this
        simp only [List.length_nil] at this
        omega
      have ht : s.take (runL s) = s := List.take_of_length_le hle
      refine .inr ⟨by rw [h3, ht], ?_, fun b hb => take_dig s b (by rw [ht]; exact hb)⟩
      rintro rfl
      simp [runL] at h1
theorem dig_dotE {b : UInt8} (h : dig b = true) : ¬ b ∈ dotE := by
  unfold dig at h
  rw [decide_eq_true_eq] at h
  intro hm
  simp only [dotE, List.mem_cons, List.mem_nil_iff, or_false] at hm
  rcases hm with rfl | rfl | rfl <;> revert h <;> decide
theorem decIntL_eq (s : Str) : decIntL s = refIntL s := by
  unfold decIntL refIntL
  by_cases h0 : numL s = false ∨ s = [45, 48]
  · rw [if_pos (by rcases h0 with h | h <;> simp [h]), if_pos h0]
  · rw [if_neg h0]
    have hnum : numL s = true := by simpa using (not_or.1 h0).1
    have hs := (not_or.1 h0).2
    have hok : (numParts s).2.2.2.2 = true := by
      rw [numL_eq] at hnum
      unfold okP at hnum
      simp only [Bool.and_eq_true] at hnum
      exact hnum.1.1
    have big : ∀ w : Str, w ≠ [] → (∀ b ∈ w, dig b = true) → Lib.parseUintB 64 w = if valN w 0 ≤ 2 ^ 64 - 1 then .ok (valN w 0) else .range := by
      intro w hne hd
      unfold Lib.parseUintB
      rw [if_neg hne]
      exact parseU_val rfl w 0 hd (by omega)
    by_cases hc : Lib.containsAny s dotE = true
    · rw [if_pos (Or.inr (Or.inl hc))]
      have hex := (containsAny_iff s dotE).1 hc
      have hgo : 0 < (numParts s).2.2.1.length ∨ 0 < (numParts s).2.2.2.1.length := by
        unfold numParts at hok ⊢
        split
        · rename_i h1
          rw [if_pos h1] at hok
          rcases partsB_whole _ _ hok with h2 | ⟨_, _, h2⟩
          · exact h2.2
          · exfalso
            obtain ⟨b, hb, hb2⟩ := hex
            cases s with
            | nil => simp at hb
            | cons c s =>
              rcases List.mem_cons.1 hb with rfl | hb
              · have h3 : b.toNat = 45 := by simpa [b0] using h1.2
                rw [show b = 45 from UInt8.toNat_inj.1 h3] at hb2
                revert hb2; decide
              · exact dig_dotE (h2 b (by simpa using hb)) hb2
        · rename_i h1
          rw [if_neg h1] at hok
          rcases partsB_whole _ _ hok with h2 | ⟨_, _, h2⟩
          · exact h2.2
          · exfalso
            obtain ⟨b, hb, hb2⟩ := hex
            exact dig_dotE (h2 b hb) hb2
      rw [if_pos hgo]
    · rw [if_neg (by simp [hnum, hc, hs])]
      have hnc : ∀ b ∈ s, ¬ b ∈ dotE := fun b hb hb2 => hc ((containsAny_iff s dotE).2 ⟨b, hb, hb2⟩)
      unfold numParts at hok ⊢
      by_cases h1 : 0 < s.length ∧ b0 s = 45
      · rw [if_pos h1] at hok ⊢
        cases s with
        | nil => simp at h1
        | cons c s =>
          have h3 : c = 45 := UInt8.toNat_inj.1 (by simpa [b0] using h1.2)
          subst h3
          rw [show (45 :: s : Str).drop 1 = s from rfl] at hok ⊢
          rcases partsB_whole _ _ hok with ⟨⟨b, hb, hb2⟩, _⟩ | ⟨h2, hne, hd⟩
          · exact absurd hb2 (hnc b (by simp [hb]))
          · rw [h2]
            simp only [List.length_nil, Nat.lt_irrefl, or_self, if_false]
            have hneg := negL_val s 0 hd (by omega)
            rw [show (-((0 : Nat) : Int)) = 0 by omega] at hneg
            rw [hneg, Lib.parseIntB_minus, big s hne hd]
            by_cases hv : valN s 0 ≤ 2 ^ 63
            · rw [if_pos (show valN s 0 ≤ 2 ^ 64 - 1 by omega), if_pos hv]
              simp only [Lib.signedC]
              rw [if_neg (by omega)]
              simp
            · rw [if_neg hv]
              by_cases hw : valN s 0 ≤ 2 ^ 64 - 1
              · rw [if_pos hw]
                simp only [Lib.signedC]
                rw [if_pos (by omega)]
              · rw [if_neg hw]
                rfl
      · rw [if_neg h1] at hok ⊢
        rcases partsB_whole _ _ hok with ⟨⟨b, hb, hb2⟩, _⟩ | ⟨h2, hne, hd⟩
        · exact absurd hb2 (hnc b hb)
        · rw [h2]
          simp only [List.length_nil, Nat.lt_irrefl, or_self, if_false]
          have hneg := negL_val s 0 hd (by omega)
          rw [show (-((0 : Nat) : Int)) = 0 by omega] at hneg
          have hpb : Lib.parseIntB 64 s = Lib.signlessC (2 ^ 63) (Lib.parseUintB 64 s) := by
            cases s with
            | nil => exact absurd rfl hne
            | cons c s =>
              have hdc := hd c (by simp)
              unfold dig at hdc
              rw [decide_eq_true_eq] at hdc
              exact Lib.parseIntB_plain 64 c s (by omega) (by omega)
          rw [hneg, hpb, big s hne hd]
          by_cases hv : valN s 0 ≤ 2 ^ 63
          · rw [if_pos (show valN s 0 ≤ 2 ^ 64 - 1 by omega), if_pos hv]
            simp only [Lib.signlessC]
            by_cases hv2 : valN s 0 = 2 ^ 63
            · rw [if_pos (by omega)]
              simp [hv2]
            · rw [if_neg (by omega)]
              simp only []
              rw [if_neg (by simp), if_neg (by omega), Int.neg_neg]
          · rw [if_neg hv]
            by_cases hw : valN s 0 ≤ 2 ^ 64 - 1
            · rw [if_pos hw]
              simp only [Lib.signlessC]
              rw [if_pos (by omega)]
            · rw [if_neg hw]
              rfl
def Asc (s : Str) : Prop := ∀ b ∈ s, b.toNat < 128
theorem asc_dig {s : Str} (h : ∀ b ∈ s, dig b = true) : Asc s := fun b hb => by
  have := h b hb
  unfold dig at this
  rw [decide_eq_true_eq] at this
  omega
theorem asc_run {s : Str} (h : Asc (s.drop (runL s))) : Asc s := by
  intro b hb
  rw [← List.take_append_drop (runL s) s] at hb
  rcases List.mem_append.1 hb with hb | hb
  · exact asc_dig (take_dig s) b hb
  · exact h b hb
theorem asc_cons {s : Str} (h1 : b0 s < 128) (h : Asc (s.drop 1)) : Asc s := by
  cases s with
  | nil => intro b hb; cases hb
  | cons c s =>
    intro b hb
    rcases List.mem_cons.1 hb with rfl | hb
    · simpa [b0] using h1
    · exact h b (by simpa using hb)
theorem asc_E {neg : Bool} {w f p d : Str} (h : (partsE neg w f p d).2.2.2.2 = true) : Asc d := by
  unfold partsE at h
  split at h
  · cases h
  · rename_i hc
    exact asc_dig (runL_dig (by omega))
theorem asc_D {neg : Bool} {w f s : Str} (h : (partsD neg w f s).2.2.2.2 = true) : Asc s := by
  unfold partsD at h
  split at h
  · rename_i h0
    obtain rfl := List.eq_nil_of_length_eq_zero h0
    intro b hb; cases hb
  · split at h
    · cases h
    · rename_i h1
      refine asc_cons (by omega) ?_
      split at h
      · rename_i h2
        exact asc_cons (by omega) (asc_E h)
      · exact asc_E h
theorem asc_C {neg : Bool} {w s : Str} (h : (partsC neg w s).2.2.2.2 = true) : Asc s := by
  unfold partsC at h
  split at h
  · rename_i h0
    split at h
    · cases h
    · exact asc_cons (by omega) (asc_run (asc_D h))
  · exact asc_D h
theorem asc_B {neg : Bool} {s : Str} (h : (partsB neg s).2.2.2.2 = true) : Asc s := by
  unfold partsB at h
  split at h
  · cases h
  · exact asc_run (asc_C h)
theorem numL_asc {s : Str} (h : numL s = true) : s.length ≤ 400 ∧ Asc s := by
  rw [numL_eq] at h
  unfold okP at h
  simp only [Bool.and_eq_true, decide_eq_true_eq] at h
  refine ⟨h.2, ?_⟩
  have h := h.1.1
  unfold numParts at h
  split at h
  · exact asc_cons (by omega) (asc_B h)
  · exact asc_B h
end Go.Am
end

section
namespace Go.Proofs.YtaoejccgdpppgaaGreatDoor
open Go Go.Am Go.RowKit
set_option maxRecDepth 100000
def intEndP (T : Nat) (sat : Int) : Lib.NumEnd Int → PV
  | .ok n => .tup [.int .i64 n, .nili]
  | .range => .tup [.int .i64 sat, .iface T .anyp]
  | _ => .tup [.int .i64 0, .iface T .anyp]
theorem err_cell {B : Nat → Prop} {w : World} (hg : GOk GG B w) (g : Nat) (h : GG g = some (.iface T.ptr_errors_errorString .anyp)) : ∃ ev, w.cell? ⟨g, 0, none⟩ = some ev ∧ (ev = .nilIface ∨ ∃ te pe, ev = .iface te pe) := by
  obtain ⟨h1, _⟩ := hg g _ h
  cases h1 with
  | cptr d b o u hb hw hf hc hr =>
    refine ⟨u 0, hc 0 (by simp [PV.cells]), .inr ?_⟩
    have := hr 0 _ rfl
    generalize u 0 = x at this
    cases this
    exact ⟨_, _, rfl⟩
theorem strconv_ParseInt (s : Str) (hs : s.length ≤ 1073741824) (H : Heap) :
    AbsCall PP GG F.strconv_ParseInt [.p (.str s), .p (.int .i64 10), .p (.int .i64 64)] H ⟨.ret (.p (intEndP T.ptr_strconv_NumError (Lib.intSat 64 s) (Lib.parseIntB 64 s))), H, []⟩ := by
  refine absBelow fun B L w vs _ ha hg => ?_
  obtain ⟨v, u, t, rfl, hv, hu, ht⟩ := vrel3 ha
  obtain rfl := vstr hv
  obtain rfl := vint hu
  obtain rfl := vint ht
  cases hp : Lib.parseIntB 64 s with
  | ok n =>
    refine CallTo.of_calls Tryz.func99 (by kernel_rfl) rfl ((Tryz.strconv_ParseInt_10_at64_ok ⟨s.toArray⟩ (by simp [ByteArray.size]; omega) n (by simpa using hp) w).mono ?_)
    rintro e w' ⟨rfl, hb⟩
    refine ⟨?_, _, rfl, .p _ _ (.tup _ [.int .i64 n, .nilIface] rfl fun i x y hx hy => ?_)⟩
    rcases hb with rfl | ⟨t, rfl⟩
    · exact Below.refl _ _
    · exact Lib.bytesWorld_below _ _ _
    · rcases i with _ | _ | i
      · cases hx; cases hy; exact .int _ _
      · cases hx; cases hy; exact .nili
      · simp at hx
  | range =>
    obtain ⟨ev, h1, h2⟩ := err_cell hg Gl.strconv_ErrRange rfl
    refine CallTo.of_calls Tryz.func99 (by kernel_rfl) rfl ((Tryz.strconv_ParseInt_10_at64_range ⟨s.toArray⟩ (by simp [ByteArray.size]; omega) (by simpa using hp) ev w h1 h2).mono ?_)
    rintro e w' ⟨N, rfl, _, _, hb⟩
    refine ⟨hb, _, rfl, .p _ _ (.tup _ [.int .i64 (Lib.intSat 64 s), .iface T.ptr_strconv_NumError (.pointer (some ⟨N, 0, none⟩))] rfl fun i x y hx hy => ?_)⟩
    rcases i with _ | _ | i
    · cases hx; cases hy; exact .int _ _
    · cases hx; cases hy; exact .iface _ _ _ (.anyp _)
    · simp at hx
  | _ =>
    obtain ⟨ev, h1, h2⟩ := err_cell hg Gl.strconv_ErrSyntax rfl
    refine CallTo.of_calls Tryz.func99 (by kernel_rfl) rfl ((Tryz.strconv_ParseInt_10_at64_other ⟨s.toArray⟩ (by simp [ByteArray.size]; omega) (by constructor <;> simp [hp]) ev w h1 h2).mono ?_)
    rintro e w' ⟨N, rfl, _, _, hb⟩
    refine ⟨hb, _, rfl, .p _ _ (.tup _ [.int .i64 0, .iface T.ptr_strconv_NumError (.pointer (some ⟨N, 0, none⟩))] rfl fun i x y hx hy => ?_)⟩
    rcases i with _ | _ | i
    · cases hx; cases hy; exact .int _ _
    · cases hx; cases hy; exact .iface _ _ _ (.anyp _)
    · simp at hx
theorem num_ascii (s : Str) (h : numL s = true) : s.length ≤ 400 ∧ ∀ (j : Nat) (b : UInt8), s[j]? = some b → b.toNat < 128 := ⟨(numL_asc h).1, fun _ b hb => (numL_asc h).2 b (List.mem_of_getElem? hb)⟩
theorem dec_Int (s : Str) (hs : s.length ≤ 1073741824) : AbsCall PP GG F.dec_Int [.p (.str s)] [] ⟨.ret (.tup [.p (.int .i64 (refIntL s).1), .p (.bool (refIntL s).2)]), [], []⟩ := by
  have hg := dec_Good s hs
  rw [decParse_ok] at hg
  rw [← decIntL_eq]
  have hP := strconv_ParseInt s hs []
  unfold decIntL
  cases hn : numL s with
  | false =>
    rw [hn] at hg
    rw [if_pos (Or.inl rfl)]
    refine absCall_of (pol := polG) mixP F.dec_Int_is ?_
    conv => whnf
    repeat' ((first
     | ((with_reducible first | refine Br.dec ?_ ?_ | refine Br.ndec ?_ ?_) <;> intro hb <;> (try simp only [ZZ] at hb) <;> (first | omega | contradiction | skip))
     | (with_reducible first | refine Br.tt rfl ?_ | refine Br.ff rfl ?_ | refine Br.ff (isEmptyCons _ _) ?_)
     | (refine Side.mk ?_ ?_; focus (first | omega | (dsimp only [InR, Int.reduceToNat, IntKind.bits, Int.reducePow]; omega) | (simp [CC]; done) | (constructor <;> omega)))
     | with_reducible refine Br.not ?_
     | (with_reducible first | refine Br.tt (by assumption) ?_ | refine Br.ff (by assumption) ?_)
     | (refine Br.mk ?_ ?_ <;> intro hb <;> (try simp only [ZZ] at hb) <;> (first | omega | contradiction | skip))
     | refine Src.whole ⟨rfl, rfl⟩ ?_ | refine FrzV.whole ?_
     | refine CallW.use (hg) ?_) <;> conv => whnf)
    exact CLe.eq rfl
  | true =>
    rw [hn] at hg
    obtain ⟨hl, hasc⟩ := num_ascii s hn
    have hC := strings_ContainsAny s dotE (by omega) (by decide) hasc (by intro j b hb; have := List.mem_of_getElem? hb; revert this; unfold dotE; simp only [List.mem_cons, List.mem_nil_iff, or_false]; rintro (rfl | rfl | rfl) <;> decide) []
    cases hc : Lib.containsAny s dotE with
    | true =>
      rw [hc] at hC
      rw [if_pos (Or.inr (Or.inl rfl))]
      refine absCall_of (pol := polG) mixP F.dec_Int_is ?_
      conv => whnf
      repeat' ((first
       | ((with_reducible first | refine Br.dec ?_ ?_ | refine Br.ndec ?_ ?_) <;> intro hb <;> (try simp only [ZZ] at hb) <;> (first | omega | contradiction | skip))
       | (with_reducible first | refine Br.tt rfl ?_ | refine Br.ff rfl ?_ | refine Br.ff (isEmptyCons _ _) ?_)
       | (refine Side.mk ?_ ?_; focus (first | omega | (dsimp only [InR, Int.reduceToNat, IntKind.bits, Int.reducePow]; omega) | (simp [CC]; done) | (constructor <;> omega)))
       | with_reducible refine Br.not ?_
       | (with_reducible first | refine Br.tt (by assumption) ?_ | refine Br.ff (by assumption) ?_)
       | (refine Br.mk ?_ ?_ <;> intro hb <;> (try simp only [ZZ] at hb) <;> (first | omega | contradiction | skip))
       | refine Src.whole ⟨rfl, rfl⟩ ?_ | refine FrzV.whole ?_
       | refine CallW.use (hg) ?_
       | refine CallW.use (hC) ?_) <;> conv => whnf)
      exact CLe.eq rfl
    | false =>
      rw [hc] at hC
      by_cases h0 : s = [45, 48]
      · rw [if_pos (Or.inr (Or.inr h0))]
        refine absCall_of (pol := polG) mixP F.dec_Int_is ?_
        conv => whnf
        repeat' ((first
         | ((with_reducible first | refine Br.dec ?_ ?_ | refine Br.ndec ?_ ?_) <;> intro hb <;> (try simp only [ZZ] at hb) <;> (first | omega | contradiction | skip))
         | (with_reducible first | refine Br.tt rfl ?_ | refine Br.ff rfl ?_ | refine Br.ff (isEmptyCons _ _) ?_)
         | (refine Side.mk ?_ ?_; focus (first | omega | (dsimp only [InR, Int.reduceToNat, IntKind.bits, Int.reducePow]; omega) | (simp [CC]; done) | (constructor <;> omega)))
         | with_reducible refine Br.not ?_
         | (with_reducible first | refine Br.tt (by assumption) ?_ | refine Br.ff (by assumption) ?_)
         | (refine Br.mk ?_ ?_ <;> intro hb <;> (try simp only [ZZ] at hb) <;> (first | omega | contradiction | skip))
         | refine Src.whole ⟨rfl, rfl⟩ ?_ | refine FrzV.whole ?_
         | refine CallW.use (hg) ?_
         | refine CallW.use (hC) ?_) <;> conv => whnf)
        exact CLe.eq rfl
      · rw [if_neg (by simp [h0])]
        cases hp : Lib.parseIntB 64 s with
        | ok n =>
          rw [hp] at hP
          refine absCall_of (pol := polG) mixP F.dec_Int_is ?_
          conv => whnf
          repeat' ((first
           | ((with_reducible first | refine Br.dec ?_ ?_ | refine Br.ndec ?_ ?_) <;> intro hb <;> (try simp only [ZZ] at hb) <;> (first | omega | contradiction | skip))
           | (with_reducible first | refine Br.tt rfl ?_ | refine Br.ff rfl ?_ | refine Br.ff (isEmptyCons _ _) ?_)
           | (refine Side.mk ?_ ?_; focus (first | omega | (dsimp only [InR, Int.reduceToNat, IntKind.bits, Int.reducePow]; omega) | (simp [CC]; done) | (constructor <;> omega)))
           | with_reducible refine Br.not ?_
           | (with_reducible first | refine Br.tt (by assumption) ?_ | refine Br.ff (by assumption) ?_)
           | (refine Br.mk ?_ ?_ <;> intro hb <;> (try simp only [ZZ] at hb) <;> (first | omega | contradiction | skip))
           | refine Src.whole ⟨rfl, rfl⟩ ?_ | refine FrzV.whole ?_
           | refine CallW.use (hg) ?_
           | refine CallW.use (hC) ?_
           | refine CallW.use (hP) ?_) <;> conv => whnf)
          exact CLe.eq rfl
        | range =>
          rw [hp] at hP
          refine absCall_of (pol := polG) mixP F.dec_Int_is ?_
          conv => whnf
          repeat' ((first
           | ((with_reducible first | refine Br.dec ?_ ?_ | refine Br.ndec ?_ ?_) <;> intro hb <;> (try simp only [ZZ] at hb) <;> (first | omega | contradiction | skip))
           | (with_reducible first | refine Br.tt rfl ?_ | refine Br.ff rfl ?_ | refine Br.ff (isEmptyCons _ _) ?_)
           | (refine Side.mk ?_ ?_; focus (first | omega | (dsimp only [InR, Int.reduceToNat, IntKind.bits, Int.reducePow]; omega) | (simp [CC]; done) | (constructor <;> omega)))
           | with_reducible refine Br.not ?_
           | (with_reducible first | refine Br.tt (by assumption) ?_ | refine Br.ff (by assumption) ?_)
           | (refine Br.mk ?_ ?_ <;> intro hb <;> (try simp only [ZZ] at hb) <;> (first | omega | contradiction | skip))
           | refine Src.whole ⟨rfl, rfl⟩ ?_ | refine FrzV.whole ?_
           | refine CallW.use (hg) ?_
           | refine CallW.use (hC) ?_
           | refine CallW.use (hP) ?_) <;> conv => whnf)
          exact CLe.eq rfl
        | _ =>
          rw [hp] at hP
          refine absCall_of (pol := polG) mixP F.dec_Int_is ?_
          conv => whnf
          repeat' ((first
           | ((with_reducible first | refine Br.dec ?_ ?_ | refine Br.ndec ?_ ?_) <;> intro hb <;> (try simp only [ZZ] at hb) <;> (first | omega | contradiction | skip))
           | (with_reducible first | refine Br.tt rfl ?_ | refine Br.ff rfl ?_ | refine Br.ff (isEmptyCons _ _) ?_)
           | (refine Side.mk ?_ ?_; focus (first | omega | (dsimp only [InR, Int.reduceToNat, IntKind.bits, Int.reducePow]; omega) | (simp [CC]; done) | (constructor <;> omega)))
           | with_reducible refine Br.not ?_
           | (with_reducible first | refine Br.tt (by assumption) ?_ | refine Br.ff (by assumption) ?_)
           | (refine Br.mk ?_ ?_ <;> intro hb <;> (try simp only [ZZ] at hb) <;> (first | omega | contradiction | skip))
           | refine Src.whole ⟨rfl, rfl⟩ ?_ | refine FrzV.whole ?_
           | refine CallW.use (hg) ?_
           | refine CallW.use (hC) ?_
           | refine CallW.use (hP) ?_) <;> conv => whnf)
          exact CLe.eq rfl
end Go.Proofs.YtaoejccgdpppgaaGreatDoor
end
