/-
JprintOne. The given statement JprintOneUptoCardSaid, proved: for every input of bulk at most 1048576, the law called with it returns true and the arguments read as they did. No further condition.
Trees alike, field by field.
The walk through the reference's likeness of trees.
The statements of layer 9: JprintApart.
Texts of letters: what is written is letters, and no byte below 32 in one line.
What is read of a text may be: its words.
What is written is read back (T1).
What is read of a text may be: its trees.
The statements of layer 9: JprintOne.
What rows need of arguments that are strings, whole numbers, bools.
The row of JprintOne.
-/
import Derived.Test.YtaoejccgdpppgaaGreatDoorPE
import Derived.Test.YtaoejccgdpppgaaGreatDoorPF
import Derived.Test.YtaoejccgdpppgaaGreatDoorPG
import Derived.Test.YtaoejccgdpppgaaGreatDoorPH
import Derived.Test.YtaoejccgdpppgaaGreatDoorPJ
import Derived.Lib.ParseIntBTie
import Derived.Test.YtaoejccgdpppgaaGreatDoorPK

section
namespace Go.Am
mutual
def sameT : Tree → Tree → Bool
  | .mk k n s l m, .mk k' n' s' l' m' => decide (k = k' ∧ n = n' ∧ l.length = l'.length ∧ m.length = m'.length ∧ s = s') && (sameL l l' && sameM m m')
def sameL : List Tree → List Tree → Bool
  | [], [] => true
  | t :: l, u :: l' => sameT t u && sameL l l'
  | _, _ => false
def sameM : List (Str × Tree) → List (Str × Tree) → Bool
  | [], [] => true
  | p :: m, p' :: m' => sameP p p' && sameM m m'
  | _, _ => false
def sameP : Str × Tree → Str × Tree → Bool
  | (k, t), (k', t') => decide (k = k') && sameT t t'
end
theorem sameT_eq (t u : Tree) : sameT t u = (decide (t.kind = u.kind ∧ t.n = u.n ∧ t.l.length = u.l.length ∧ t.m.length = u.m.length ∧ t.s = u.s) && (sameL t.l u.l && sameM t.m u.m)) := by
  cases t; cases u; rw [sameT]; rfl
theorem sameL_iff : ∀ (l l' : List Tree), (∀ x ∈ l, ∀ u, sameT x u = true ↔ x = u) → (sameL l l' = true ↔ l = l')
  | [], [], _ => by simp [sameL]
  | [], _ :: _, _ => by simp [sameL]
  | _ :: _, [], _ => by simp [sameL]
  | x :: l, y :: l', h => by
    rw [sameL, Bool.and_eq_true, h x (by simp), sameL_iff l l' (fun x hx => h x (by simp [hx]))]
    simp
theorem sameM_iff : ∀ (l l' : List (Str × Tree)), (∀ x ∈ l, ∀ u, sameT x.2 u = true ↔ x.2 = u) → (sameM l l' = true ↔ l = l')
  | [], [], _ => by simp [sameM]
  | [], _ :: _, _ => by simp [sameM]
  | _ :: _, [], _ => by simp [sameM]
  | (k, x) :: l, (k', y) :: l', h => by
    have h1 := h (k, x) (by simp)
    simp only [] at h1
    rw [sameM, sameP, Bool.and_eq_true, Bool.and_eq_true, decide_eq_true_eq, h1, sameM_iff l l' (fun x hx => h x (by simp [hx]))]
    simp
theorem sameT_iff : ∀ (t u : Tree), sameT t u = true ↔ t = u := by
  refine Tree.ind fun t hl hm u => ?_
  rw [sameT_eq, Bool.and_eq_true, Bool.and_eq_true, sameL_iff _ _ hl, sameM_iff _ _ hm, decide_eq_true_eq]
  constructor
  · rintro ⟨⟨h1, h2, _, _, h3⟩, h4, h5⟩
    rw [t.eta, u.eta, h1, h2, h3, h4, h5]
  · rintro rfl
    exact ⟨⟨rfl, rfl, rfl, rfl, rfl⟩, rfl, rfl⟩
end Go.Am
end

section
namespace Go.Proofs.YtaoejccgdpppgaaGreatDoor
open Go Go.Am
set_option maxRecDepth 100000
def SameIs (t : Tree) : Prop := ∀ u : Tree, u.wt ≤ 4000000 → AbsCall PP GG F.ref1_Same [.p t.enc, .p u.enc, .p (.bool false)] [] ⟨.ret (.p (.bool (sameT t u))), [], []⟩
theorem same_loopL (t u : Tree) (hw : t.wt ≤ 4000000) (hu : u.wt ≤ 4000000) (hlen : t.l.length = u.l.length) (R : Bool) (K : Post) (hl : ∀ x ∈ t.l, SameIs x)
    (h0 : R = true → K (.exit 0) [(2, .p (.bool false)), (3, .ptr 0 0), (4, .ptr 1 0)] [.var T.api_Value (.p t.enc), .var T.api_Value (.p u.enc)] [])
    (hr : R = false → K .ret [(6, .p (.bool false))] [.var T.api_Value (.p t.enc), .var T.api_Value (.p u.enc)] []) :
    ∀ (q i : Nat), i + q = t.l.length → sameL (t.l.drop i) (u.l.drop i) = R →
      LoopW PP GG 118 0 (loopN F.ref1_Same_c 0) [(2, .p (.bool false)), (3, .ptr 0 0), (4, .ptr 1 0), (7, .p (.int .i64 i))] [.var T.api_Value (.p t.enc), .var T.api_Value (.p u.enc)] [] (PostCl 118 K) := by
  rw [Tree.enc_eta t, Tree.enc_eta u] at h0 hr ⊢
  have hwl := t.wt_ll
  have hel : (Tree.encL t.l).length = t.l.length := Tree.encL_length _
  intro q
  induction q with
  | zero =>
    intro i hi hR
    rw [List.drop_eq_nil_of_le (by omega), List.drop_eq_nil_of_le (by omega), sameL] at hR
    refine LoopW.round (pol := polG) mixP ?_
    conv => whnf
    repeat' ((first
     | ((with_reducible first | refine Br.dec ?_ ?_ | refine Br.ndec ?_ ?_) <;> intro hb <;> (try simp only [And.intro @hel (ZZ)] at hb) <;> (first | omega | contradiction | skip))
     | (with_reducible first | refine Br.tt rfl ?_ | refine Br.ff rfl ?_ | refine Br.ff (isEmptyCons _ _) ?_)
     | (refine Side.mk ?_ ?_; focus (first | omega | (dsimp only [InR, Int.reduceToNat, IntKind.bits, Int.reducePow]; omega) | (simp [CC]; done) | (constructor <;> omega)))
     | with_reducible refine Br.not ?_
     | (with_reducible first | refine Br.tt (by assumption) ?_ | refine Br.ff (by assumption) ?_)
     | (refine Br.mk ?_ ?_ <;> intro hb <;> (try simp only [And.intro @hel (ZZ)] at hb) <;> (first | omega | contradiction | skip))
     | refine Src.whole ⟨rfl, rfl⟩ ?_ | refine FrzV.whole ?_) <;> conv => whnf)
    · refine PostCl.of (h0 hR.symm) ?_ ?_
      · repeat first | exact trivial | refine ⟨VLe.refl _, ?_⟩
      · repeat first | exact trivial | refine ⟨by decide, ?_⟩
  | succ q ih =>
    intro i hi hR
    obtain ⟨x, hx⟩ : ∃ x, t.l[i]? = some x := ⟨_, List.getElem?_eq_getElem (show i < t.l.length by omega)⟩
    obtain ⟨y, hy⟩ : ∃ y, u.l[i]? = some y := ⟨_, List.getElem?_eq_getElem (show i < u.l.length by omega)⟩
    rw [drop_cons hx, drop_cons hy, sameL] at hR
    have hxm : x ∈ t.l := List.mem_of_getElem? hx
    have hym := Tree.wt_l (List.mem_of_getElem? hy)
    have hsp := hl x hxm y (by omega)
    rw [Tree.enc_eta x, Tree.enc_eta y] at hsp
    refine LoopW.round (pol := polG) mixP ?_
    conv => whnf
    repeat' ((first
     | ((with_reducible first | refine Br.dec ?_ ?_ | refine Br.ndec ?_ ?_) <;> intro hb <;> (try simp only [And.intro @hel (ZZ)] at hb) <;> (first | omega | contradiction | skip))
     | (with_reducible first | refine Br.tt rfl ?_ | refine Br.ff rfl ?_ | refine Br.ff (isEmptyCons _ _) ?_)
     | (refine Side.mk ?_ ?_; focus (first | omega | (dsimp only [InR, Int.reduceToNat, IntKind.bits, Int.reducePow]; omega) | exact ⟨rfl, rfl⟩ | (simp [CC]; done) | (constructor <;> omega)))
     | with_reducible refine Br.not ?_
     | (with_reducible first | refine Br.tt (by assumption) ?_ | refine Br.ff (by assumption) ?_)
     | (refine Br.mk ?_ ?_ <;> intro hb <;> (try simp only [And.intro @hel (ZZ)] at hb) <;> (first | omega | contradiction | skip))
     | refine Src.whole ⟨rfl, rfl⟩ ?_ | refine FrzV.whole ?_
     | refine CallW.use (hsp) ?_
     | (refine ElemZ.tree (l := t.l) (by simpa using hx) ?_; (rw [Tree.enc_eta x]; conv => whnf))
     | (refine ElemZ.tree (l := u.l) (by simpa using hy) ?_; (rw [Tree.enc_eta y]; conv => whnf))) <;> conv => whnf)
    · rw [hb, Bool.true_and] at hR
      refine LoopW.sub (ih (i + 1) (by omega) hR) (by repeat first | exact trivial | refine ⟨VLe.refl _, ?_⟩) (by repeat first | exact trivial | refine ⟨by decide, ?_⟩)
    · rw [hb, Bool.false_and] at hR
      refine PostCl.of (hr hR.symm) ?_ ?_
      · repeat first | exact trivial | refine ⟨VLe.refl _, ?_⟩
      · repeat first | exact trivial | refine ⟨by decide, ?_⟩
theorem same_loopM (t u : Tree) (hw : t.wt ≤ 4000000) (hu : u.wt ≤ 4000000) (hlen : t.m.length = u.m.length) (R : Bool) (K : Post) (hl : ∀ x ∈ t.m, SameIs x.2)
    (h0 : R = true → K (.exit 2) [] [.var T.api_Value (.p t.enc), .var T.api_Value (.p u.enc)] [])
    (hr : R = false → K .ret [(6, .p (.bool false))] [.var T.api_Value (.p t.enc), .var T.api_Value (.p u.enc)] []) :
    ∀ (q i : Nat), i + q = t.m.length → sameM (t.m.drop i) (u.m.drop i) = R →
      LoopW PP GG 118 0 (loopN F.ref1_Same_c 1) [(2, .p (.bool false)), (3, .ptr 0 0), (4, .ptr 1 0), (8, .p (.int .i64 i))] [.var T.api_Value (.p t.enc), .var T.api_Value (.p u.enc)] [] (PostCl 118 K) := by
  rw [Tree.enc_eta t, Tree.enc_eta u] at h0 hr ⊢
  have hwl := t.wt_ml
  have hel : (Tree.encM t.m).length = t.m.length := Tree.encM_length _
  intro q
  induction q with
  | zero =>
    intro i hi hR
    rw [List.drop_eq_nil_of_le (by omega), List.drop_eq_nil_of_le (by omega), sameM] at hR
    refine LoopW.round (pol := polG) mixP ?_
    conv => whnf
    repeat' ((first
     | ((with_reducible first | refine Br.dec ?_ ?_ | refine Br.ndec ?_ ?_) <;> intro hb <;> (try simp only [And.intro @hel (ZZ)] at hb) <;> (first | omega | contradiction | skip))
     | (with_reducible first | refine Br.tt rfl ?_ | refine Br.ff rfl ?_ | refine Br.ff (isEmptyCons _ _) ?_)
     | (refine Side.mk ?_ ?_; focus (first | omega | (dsimp only [InR, Int.reduceToNat, IntKind.bits, Int.reducePow]; omega) | (simp [CC]; done) | (constructor <;> omega)))
     | with_reducible refine Br.not ?_
     | (with_reducible first | refine Br.tt (by assumption) ?_ | refine Br.ff (by assumption) ?_)
     | (refine Br.mk ?_ ?_ <;> intro hb <;> (try simp only [And.intro @hel (ZZ)] at hb) <;> (first | omega | contradiction | skip))
     | refine Src.whole ⟨rfl, rfl⟩ ?_ | refine FrzV.whole ?_) <;> conv => whnf)
    · refine PostCl.of (h0 hR.symm) ?_ ?_
      · repeat first | exact trivial | refine ⟨VLe.refl _, ?_⟩
      · repeat first | exact trivial | refine ⟨by decide, ?_⟩
  | succ q ih =>
    intro i hi hR
    obtain ⟨x, hx⟩ : ∃ x, t.m[i]? = some x := ⟨_, List.getElem?_eq_getElem (show i < t.m.length by omega)⟩
    obtain ⟨y, hy⟩ : ∃ y, u.m[i]? = some y := ⟨_, List.getElem?_eq_getElem (show i < u.m.length by omega)⟩
    rw [drop_cons hx, drop_cons hy, sameM] at hR
    have hxm : x ∈ t.m := List.mem_of_getElem? hx
    have hym := Tree.wt_m (List.mem_of_getElem? hy)
    have hsp := hl x hxm y.2 (by omega)
    obtain ⟨k, x⟩ := x
    obtain ⟨k', y⟩ := y
    rw [sameP] at hR
    simp only [] at hsp
    rw [Tree.enc_eta x, Tree.enc_eta y] at hsp
    by_cases hk : k = k'
    · rw [decide_eq_true hk, Bool.true_and] at hR
      refine LoopW.round (pol := polG) mixP ?_
      conv => whnf
      repeat' ((first
       | ((with_reducible first | refine Br.dec ?_ ?_ | refine Br.ndec ?_ ?_) <;> intro hb <;> (try simp only [And.intro @hel (ZZ)] at hb) <;> (first | omega | contradiction | skip))
       | (with_reducible first | refine Br.tt rfl ?_ | refine Br.ff rfl ?_ | refine Br.ff (isEmptyCons _ _) ?_)
       | (refine Side.mk ?_ ?_; focus (first | omega | (dsimp only [InR, Int.reduceToNat, IntKind.bits, Int.reducePow]; omega) | exact ⟨rfl, rfl⟩ | (simp [CC]; done) | (constructor <;> omega)))
       | with_reducible refine Br.not ?_
       | (with_reducible first | refine Br.tt (by assumption) ?_ | refine Br.ff (by assumption) ?_)
       | (refine Br.mk ?_ ?_ <;> intro hb <;> (try simp only [And.intro @hel (ZZ)] at hb) <;> (first | omega | contradiction | skip))
       | refine Src.whole ⟨rfl, rfl⟩ ?_ | refine FrzV.whole ?_
       | refine CallW.use (hsp) ?_
       | (refine TabsW.lit F.ref1_Same_t13 (by kernel_rfl) ?_)
       | (refine ElemZ.pairE (m := t.m) (k := k) (y := x) (by simpa using hx) ?_)
       | (refine ElemZ.pairE (m := u.m) (k := k') (y := y) (by simpa using hy) ?_)) <;> conv => whnf)
      · rw [hb, Bool.true_and] at hR
        refine LoopW.sub (ih (i + 1) (by omega) hR) (by repeat first | exact trivial | refine ⟨VLe.refl _, ?_⟩) (by repeat first | exact trivial | refine ⟨by decide, ?_⟩)
      · rw [hb, Bool.false_and] at hR
        refine PostCl.of (hr hR.symm) ?_ ?_
        · repeat first | exact trivial | refine ⟨VLe.refl _, ?_⟩
        · repeat first | exact trivial | refine ⟨by decide, ?_⟩
    · rw [decide_eq_false hk, Bool.false_and, Bool.false_and] at hR
      refine LoopW.round (pol := polG) mixP ?_
      conv => whnf
      repeat' ((first
       | ((with_reducible first | refine Br.dec ?_ ?_ | refine Br.ndec ?_ ?_) <;> intro hb <;> (try simp only [And.intro @hel (ZZ)] at hb) <;> (first | omega | contradiction | skip))
       | (with_reducible first | refine Br.tt rfl ?_ | refine Br.ff rfl ?_ | refine Br.ff (isEmptyCons _ _) ?_)
       | (refine Side.mk ?_ ?_; focus (first | omega | (dsimp only [InR, Int.reduceToNat, IntKind.bits, Int.reducePow]; omega) | exact ⟨rfl, rfl⟩ | (simp [CC]; done) | (constructor <;> omega)))
       | with_reducible refine Br.not ?_
       | (with_reducible first | refine Br.tt (by assumption) ?_ | refine Br.ff (by assumption) ?_)
       | (refine Br.mk ?_ ?_ <;> intro hb <;> (try simp only [And.intro @hel (ZZ)] at hb) <;> (first | omega | contradiction | skip))
       | refine Src.whole ⟨rfl, rfl⟩ ?_ | refine FrzV.whole ?_
       | refine CallW.use (hsp) ?_
       | (refine TabsW.lit F.ref1_Same_t13 (by kernel_rfl) ?_)
       | (refine ElemZ.pairE (m := t.m) (k := k) (y := x) (by simpa using hx) ?_)
       | (refine ElemZ.pairE (m := u.m) (k := k') (y := y) (by simpa using hy) ?_)) <;> conv => whnf)
      refine PostCl.of (hr hR.symm) ?_ ?_
      · repeat first | exact trivial | refine ⟨VLe.refl _, ?_⟩
      · repeat first | exact trivial | refine ⟨by decide, ?_⟩
theorem ref1_Same : ∀ t : Tree, t.wt ≤ 4000000 → SameIs t := by
  refine Tree.indW fun t hw hl hm u hu => ?_
  have hS := sameT_eq t u
  have hlL := same_loopL t u hw hu
  have hlM := same_loopM t u hw hu
  have hel : (Tree.encL t.l).length = t.l.length := Tree.encL_length _
  have hem : (Tree.encM t.m).length = t.m.length := Tree.encM_length _
  have hel2 : (Tree.encL u.l).length = u.l.length := Tree.encL_length _
  have hem2 : (Tree.encM u.m).length = u.m.length := Tree.encM_length _
  generalize sameT t u = R at hS ⊢
  rw [Tree.enc_eta t, Tree.enc_eta u] at hlL hlM ⊢
  by_cases hc : t.kind = u.kind ∧ t.n = u.n ∧ t.l.length = u.l.length ∧ t.m.length = u.m.length ∧ t.s = u.s
  · rw [decide_eq_true hc, Bool.true_and] at hS
    obtain ⟨h1, h2, h3, h4, h5⟩ := hc
    refine absCall_of (pol := polG) mixP F.ref1_Same_is ?_
    conv => whnf
    repeat' ((first
     | ((with_reducible first | refine Br.dec ?_ ?_ | refine Br.ndec ?_ ?_) <;> intro hb <;> (try simp only [And.intro @hel (And.intro @hem (And.intro @hel2 (And.intro @hem2 (ZZ))))] at hb) <;> (first | omega | contradiction | skip))
     | (with_reducible first | refine Br.tt rfl ?_ | refine Br.ff rfl ?_ | refine Br.ff (isEmptyCons _ _) ?_)
     | (refine Side.mk ?_ ?_; focus (first | omega | (dsimp only [InR, Int.reduceToNat, IntKind.bits, Int.reducePow]; omega) | (simp [CC]; done) | (constructor <;> omega)))
     | with_reducible refine Br.not ?_
     | (with_reducible first | refine Br.tt (by assumption) ?_ | refine Br.ff (by assumption) ?_)
     | (refine Br.mk ?_ ?_ <;> intro hb <;> (try simp only [And.intro @hel (And.intro @hem (And.intro @hel2 (And.intro @hem2 (ZZ))))] at hb) <;> (first | omega | contradiction | skip))
     | refine Src.whole ⟨rfl, rfl⟩ ?_ | refine FrzV.whole ?_
     | (refine TabsW.lit F.ref1_Same_t1 (by kernel_rfl) ?_)) <;> conv => whnf)
    refine LoopW.cl ?_
    refine LoopW.sub (hlL h3 (sameL t.l u.l) _ (fun x hx => (hl x hx).2) (fun h => ?_) (fun h => ?_) t.l.length 0 (by omega) rfl) (by repeat first | exact trivial | refine ⟨VLe.refl _, ?_⟩) (by repeat first | exact trivial | refine ⟨by decide, ?_⟩)
    · conv => whnf
      rw [h, Bool.true_and] at hS
      repeat' ((first
       | ((with_reducible first | refine Br.dec ?_ ?_ | refine Br.ndec ?_ ?_) <;> intro hb <;> (try simp only [ZZ] at hb) <;> (first | omega | contradiction | skip))
       | (with_reducible first | refine Br.tt rfl ?_ | refine Br.ff rfl ?_ | refine Br.ff (isEmptyCons _ _) ?_)
       | (refine Side.mk ?_ ?_; focus (first | omega | (dsimp only [InR, Int.reduceToNat, IntKind.bits, Int.reducePow]; omega) | (simp [CC]; done) | (constructor <;> omega)))
       | with_reducible refine Br.not ?_
       | (with_reducible first | refine Br.tt (by assumption) ?_ | refine Br.ff (by assumption) ?_)
       | (refine Br.mk ?_ ?_ <;> intro hb <;> (try simp only [ZZ] at hb) <;> (first | omega | contradiction | skip))
       | refine Src.whole ⟨rfl, rfl⟩ ?_ | refine FrzV.whole ?_) <;> conv => whnf)
      refine LoopW.cl ?_
      refine LoopW.sub (hlM h4 R _ (fun x hx => (hm x hx).2.2) (fun h => ?_) (fun h => ?_) t.m.length 0 (by omega) hS.symm) (by repeat first | exact trivial | refine ⟨VLe.refl _, ?_⟩) (by repeat first | exact trivial | refine ⟨by decide, ?_⟩)
      · conv => whnf
        exact CLe.retP (by rw [h])
      · conv => whnf
        exact CLe.retP (by rw [h])
    · conv => whnf
      rw [h, Bool.false_and] at hS
      exact CLe.retP (by rw [hS])
  · rw [decide_eq_false hc, Bool.false_and] at hS
    subst hS
    refine absCall_of (pol := polG) mixP F.ref1_Same_is ?_
    conv => whnf
    repeat' ((first
     | ((with_reducible first | refine Br.dec ?_ ?_ | refine Br.ndec ?_ ?_) <;> intro hb <;> (try simp only [And.intro @hel (And.intro @hem (And.intro @hel2 (And.intro @hem2 (ZZ))))] at hb) <;> (first | omega | contradiction | skip))
     | (with_reducible first | refine Br.tt rfl ?_ | refine Br.ff rfl ?_ | refine Br.ff (isEmptyCons _ _) ?_)
     | (refine Side.mk ?_ ?_; focus (first | omega | (dsimp only [InR, Int.reduceToNat, IntKind.bits, Int.reducePow]; omega) | (simp [CC]; done) | (constructor <;> omega)))
     | with_reducible refine Br.not ?_
     | (with_reducible first | refine Br.tt (by assumption) ?_ | refine Br.ff (by assumption) ?_)
     | (refine Br.mk ?_ ?_ <;> intro hb <;> (try simp only [And.intro @hel (And.intro @hem (And.intro @hel2 (And.intro @hem2 (ZZ))))] at hb) <;> (first | omega | contradiction | skip))
     | refine Src.whole ⟨rfl, rfl⟩ ?_ | refine FrzV.whole ?_) <;> conv => whnf)
    all_goals first
      | exact CLe.retP rfl
      | exact absurd ⟨by omega, by omega, by omega, by omega, by assumption⟩ hc
end Go.Proofs.YtaoejccgdpppgaaGreatDoor
end

section
namespace Go.Am
open Go
inductive Vd : Str → Prop
  | nil : Vd []
  | step {c : UInt8} {cs : Str} (h : (utfTake (c :: cs)).2 ≠ 0) (r : Vd ((c :: cs).drop (stepN (c :: cs)))) : Vd (c :: cs)
theorem stepN_of {s : Str} (h : (utfTake s).2 ≠ 0) : stepN s = (utfTake s).2.toNat := by unfold stepN; have := utfTake_n s; omega
theorem scan_of_vd {s : Str} (h : Vd s) : ∀ (q : Nat) (p : Int), (utfScan q s p).2 = true := by
  induction h with
  | nil => intro q p; cases q <;> rfl
  | @step c cs h r ih =>
    intro q p
    cases q with
    | zero => rfl
    | succ q =>
      unfold utfScan
      simp only []
      rw [if_neg h, ← stepN_of h]
      exact ih q _
theorem valid_vd {s : Str} (h : Vd s) : (utfValid s).2 = true := scan_of_vd h _ _
theorem Vd.app {s r : Str} (h : Vd s) (g : Vd r) : Vd (s ++ r) := by
  induction h with
  | nil => exact g
  | @step c cs h0 _ ih =>
    have e := utfTake_app r h0
    rw [List.cons_append] at e ⊢
    have hle := stepN_le c cs
    have e2 : stepN (c :: (cs ++ r)) = stepN (c :: cs) := by unfold stepN; rw [e]
    refine .step (by rw [e]; exact h0) ?_
    rw [e2, ← List.cons_append, List.drop_append_of_le_length hle]
    exact ih
theorem vd_low {c : UInt8} {s : Str} (hc : c.toNat < 128) (h : Vd s) : Vd (c :: s) := by
  have e := take_low hc s
  refine .step (by rw [e]; simp) ?_
  have : stepN (c :: s) = 1 := by unfold stepN; rw [e]; rfl
  rw [this]
  exact h
theorem Ge.le {n m : Nat} {s : Str} (h : Ge n s) (hm : m ≤ n) : Ge m s := fun b hb => Nat.le_trans hm (h b hb)
theorem u8n {n : Nat} (h : n < 256) : (UInt8.ofNat n).toNat = n := by rw [UInt8.toNat_ofNat']; omega
theorem vd_enc {r : Int} (hg : utfGood r = true) : Vd (utfEnc r) := by
  have hgn : ¬ utfGood r = false := by rw [hg]; simp
  have hr : 0 ≤ r ∧ r ≤ 1114111 := by unfold utfGood at hg; rw [decide_eq_true_eq] at hg; omega
  obtain ⟨n, rfl⟩ := Int.eq_ofNat_of_zero_le hr.1
  unfold utfEnc
  rw [if_neg hgn]
  simp only [Int.toNat_natCast]
  split
  · exact vd_low (by rw [u8n (by omega)]; omega) .nil
  rename_i h1
  have fin : ∀ (c : UInt8) (cs : Str) (k : Nat), cs.length = k → utfTake (c :: cs) = ((n : Int), ((k + 1 : Nat) : Int)) → Vd (c :: cs) := by
    intro c cs k hk h
    refine .step (by rw [h]; simp only []; omega) ?_
    have : stepN (c :: cs) = k + 1 := by unfold stepN; rw [h]; simp only []; omega
    rw [this, List.drop_eq_nil_of_le (by simp [hk])]
    exact .nil
  split
  · rename_i h2
    refine fin _ _ 1 rfl ?_
    have b0 := u8n (n := 192 + n / 64) (by omega)
    have b1 := u8n (n := 128 + n % 64) (by omega)
    have hb : utfBegins (192 + n / 64) = (2, (((192 + n / 64) % 64 : Nat) : Int)) := by
      unfold utfBegins; rw [if_neg (by omega), if_neg (by omega), if_pos (by omega)]
    have hz : utfSize (n : Int) = 2 := by unfold utfSize; rw [if_neg (by omega), if_pos (by omega)]
    unfold utfTake
    simp only [b0, hb, List.length_cons, List.length_nil]
    rw [if_neg (by omega), show Int.toNat 2 - 1 = 1 from rfl, takeL, b1, if_pos (by omega), takeL]
    simp only []
    rw [show ((192 + n / 64) % 64 : Nat) * 64 + (((128 + n % 64) % 64 : Nat) : Int) = (n : Int) by omega, if_pos ⟨hg, hz⟩]
    rfl
  rename_i h2
  split
  · rename_i h3
    refine fin _ _ 2 rfl ?_
    have b0 := u8n (n := 224 + n / 4096) (by omega)
    have b1 := u8n (n := 128 + n / 64 % 64) (by omega)
    have b2 := u8n (n := 128 + n % 64) (by omega)
    have hb : utfBegins (224 + n / 4096) = (3, (((224 + n / 4096) % 32 : Nat) : Int)) := by
      unfold utfBegins; rw [if_neg (by omega), if_neg (by omega), if_neg (by omega), if_pos (by omega)]
    have hz : utfSize (n : Int) = 3 := by unfold utfSize; rw [if_neg (by omega), if_neg (by omega), if_pos (by omega)]
    unfold utfTake
    simp only [b0, hb, List.length_cons, List.length_nil]
    rw [if_neg (by omega), show Int.toNat 3 - 1 = 2 from rfl, takeL, b1, if_pos (by omega), takeL, b2, if_pos (by omega), takeL]
    simp only []
    rw [show (((224 + n / 4096) % 32 : Nat) * 64 + (((128 + n / 64 % 64) % 64 : Nat) : Int)) * 64 + (((128 + n % 64) % 64 : Nat) : Int) = (n : Int) by omega, if_pos ⟨hg, hz⟩]
    rfl
  · rename_i h3
    refine fin _ _ 3 rfl ?_
    have b0 := u8n (n := 240 + n / 262144) (by omega)
    have b1 := u8n (n := 128 + n / 4096 % 64) (by omega)
    have b2 := u8n (n := 128 + n / 64 % 64) (by omega)
    have b3 := u8n (n := 128 + n % 64) (by omega)
    have hb : utfBegins (240 + n / 262144) = (4, (((240 + n / 262144) % 16 : Nat) : Int)) := by
      unfold utfBegins; rw [if_neg (by omega), if_neg (by omega), if_neg (by omega), if_neg (by omega), if_pos (by omega)]
    have hz : utfSize (n : Int) = 4 := by unfold utfSize; rw [if_neg (by omega), if_neg (by omega), if_neg (by omega)]
    unfold utfTake
    simp only [b0, hb, List.length_cons, List.length_nil]
    rw [if_neg (by omega), show Int.toNat 4 - 1 = 3 from rfl, takeL, b1, if_pos (by omega), takeL, b2, if_pos (by omega), takeL, b3, if_pos (by omega), takeL]
    simp only []
    rw [show ((((240 + n / 262144) % 16 : Nat) * 64 + (((128 + n / 4096 % 64) % 64 : Nat) : Int)) * 64 + (((128 + n / 64 % 64) % 64 : Nat) : Int)) * 64 + (((128 + n % 64) % 64 : Nat) : Int) = (n : Int) by omega, if_pos ⟨hg, hz⟩]
    rfl
theorem enc_short {r : Int} : (r < 128 → (utfEnc r).length ≤ 1) ∧ (r < 65536 → (utfEnc r).length ≤ 3) ∧ (utfEnc r).length ≤ 4 := by
  unfold utfEnc
  repeat' split
  all_goals simp
  all_goals omega
theorem shortL_low {c : UInt8} {x : Int} (h : shortL c = some x) : x < 128 := by
  unfold shortL at h
  repeat' split at h
  all_goals first
    | (cases h; omega)
    | cases h
theorem escAt_put {t : Str} {a : Nat} {acc : Str} (ha : a < t.length) (h : (escAt t a acc).1 = true) :
    ∃ (k : Nat) (x : Int), escAt t a acc = (true, ((a + k : Nat) : Int), acc ++ utfEnc x) ∧ utfGood x = true ∧ (utfEnc x).length ≤ k := by
  have good : ∀ {b : Int} {x k : Int}, (putR b acc x k).1 = true → utfGood x = true := by
    intro b x k h
    unfold putR at h
    split at h
    · assumption
    · simp at h
  by_cases h1 : a + 1 = t.length
  · rw [escAt_end h1] at h
    simp at h
  · cases hs : shortL (t.getD (a + 1) 0) with
    | some x =>
      rw [escAt_short h1 hs] at h ⊢
      exact ⟨2, x, by rw [putR_ok h]; rfl, good h, by have := (enc_short (r := x)).1 (shortL_low hs); omega⟩
    | none =>
      rw [escAt_u h1 hs] at h ⊢
      split at h
      · simp at h
      · rename_i h2
        rw [if_neg h2]
        simp only [not_or, Bool.not_eq_false] at h2
        have hd := digL_lt h2.2
        split at h
        · rename_i h3
          rw [if_pos h3]
          exact ⟨6, _, by rw [putR_ok h]; rfl, good h, by have := (enc_short (r := (digL t (a + 2) 4).1)).2.1 (by omega); omega⟩
        · rename_i h3
          rw [if_neg h3]
          split at h
          · simp at h
          · rename_i h4
            rw [if_neg h4]
            exact ⟨12, _, by rw [putR_ok h]; rfl, good h, by have := (enc_short (r := 65536 + ((digL t (a + 2) 4).1 - 55296) * 1024 + ((digL t (a + 8) 4).1 - 56320))).2.2; omega⟩
theorem unqL_good : ∀ (q : Nat) (t : Str) (a : Nat) (acc : Str), a ≤ t.length → Vd acc → (unqL q t a acc).2.2 < 0 → Vd (unqL q t a acc).1 ∧ ((unqL q t a acc).1.length : Int) + a ≤ acc.length + (unqL q t a acc).2.1
  | 0, t, a, acc, ha, _, h => by rw [unqL] at h; simp only [] at h; omega
  | q + 1, t, a, acc, ha, hv, h => by
    rw [unqL] at h ⊢
    split
    · rename_i h1; rw [if_pos h1] at h; simp only [] at h; omega
    rename_i h1
    rw [if_neg h1] at h
    split
    · exact ⟨hv, by simp only []; omega⟩
    rename_i h2
    rw [if_neg h2] at h
    split
    · rename_i h3; rw [if_pos h3] at h; simp only [] at h; omega
    rename_i h3
    rw [if_neg h3] at h
    split
    · rename_i h4
      rw [if_pos h4] at h
      split
      · rename_i h5
        rw [if_pos h5] at h
        obtain ⟨k, x, e, hg, hl⟩ := escAt_put (acc := acc) (show a < t.length by omega) h5
        have hb := escAt_bound (acc := acc) (show a < t.length by omega) h5
        rw [e] at h hb ⊢
        simp only [Int.toNat_natCast] at h hb ⊢
        have := unqL_good q t (a + k) (acc ++ utfEnc x) hb.2 (hv.app (vd_enc hg)) h
        refine ⟨this.1, ?_⟩
        have h2 := this.2
        rw [List.length_append] at h2
        omega
      · rename_i h5; rw [if_neg h5] at h; simp only [] at h; omega
    · rename_i h4
      rw [if_neg h4] at h
      split
      · rename_i h5; rw [if_pos h5] at h; simp only [] at h; omega
      · rename_i h5
        rw [if_neg h5] at h
        have hn := utfTake_n (t.drop a)
        have he := utfTake_enc _ h5
        have hgr := utfTake_r (t.drop a)
        have hlen : (utfEnc (utfTake (t.drop a)).1).length = (utfTake (t.drop a)).2.toNat := by rw [he, List.length_take]; omega
        rw [List.length_drop] at hn
        have := unqL_good q t (a + (utfTake (t.drop a)).2.toNat) (acc ++ utfEnc (utfTake (t.drop a)).1) (by omega) (hv.app (vd_enc (hgr.resolve_left h5))) h
        refine ⟨this.1, ?_⟩
        have h2 := this.2
        rw [List.length_append] at h2
        omega
def wordOk (w : Wd) : Prop := (w.k = 2 → strOk w.s = true) ∧ (w.k = 3 → numL w.s = true)
theorem unquoteL_good {t : Str} {a : Nat} (ha : a < t.length) (h : (unquoteL t a).2.2 < 0) : Vd (unquoteL t a).1 ∧ ((unquoteL t a).1.length : Int) + a ≤ (unquoteL t a).2.1 := by
  have hc : clampL t a = a := by unfold clampL; omega
  unfold unquoteL at h ⊢
  rw [hc, Int.toNat_natCast] at h ⊢
  split
  · rename_i h1; rw [if_pos h1] at h; simp only [] at h; omega
  · rename_i h1
    rw [if_neg h1] at h
    have := unqL_good (t.length + 1) t (a + 1) [] (by omega) .nil h
    refine ⟨this.1, ?_⟩
    have h2 := this.2
    simp only [List.length_nil] at h2
    omega
theorem wordL_ok (t : Str) (a : Nat) (ha : a < t.length) (h : (wordL t a).2.2.1 = 0) : wordOk (wordL t a).1 ∧ ((wordL t a).1.s.length : Int) + a ≤ (wordL t a).2.1 := by
  have htk : ∀ n : Nat, (((t.drop a).take n).length : Int) ≤ n := fun n => by rw [List.length_take]; omega
  unfold wordL at h ⊢
  split
  · have := htk 1
    exact ⟨⟨fun e => absurd e (by show ¬ (1 : Int) = 2; decide), fun e => absurd e (by show ¬ (1 : Int) = 3; decide)⟩, by show (((t.drop a).take 1).length : Int) + a ≤ (a : Int) + 1; omega⟩
  rename_i h1
  rw [if_neg h1] at h
  split
  · rename_i h2
    rw [if_pos h2] at h
    split
    · rename_i h3; rw [if_pos h3] at h; simp at h
    rename_i h3
    rw [if_neg h3] at h
    split
    · rename_i h4; rw [if_pos h4] at h; simp at h
    rename_i h4
    obtain ⟨g1, g2⟩ := unquoteL_good ha (by omega : (unquoteL t a).2.2 < 0)
    refine ⟨⟨fun _ => ?_, fun e => absurd e (by show ¬ (2 : Int) = 3; decide)⟩, g2⟩
    show strOk (unquoteL t a).1 = true
    unfold strOk
    rw [valid_vd g1, Bool.and_true, decide_eq_true_eq]
    omega
  rename_i h2
  rw [if_neg h2] at h
  split
  · rename_i h3
    rw [if_pos h3] at h
    split
    · rename_i h4; rw [if_pos h4] at h; simp at h
    have := htk (whileL (t.drop a) lowers)
    exact ⟨⟨fun e => absurd e (by show ¬ (4 : Int) = 2; decide), fun e => absurd e (by show ¬ (4 : Int) = 3; decide)⟩, by show (((t.drop a).take _).length : Int) + a ≤ (a : Int) + _; omega⟩
  rename_i h3
  rw [if_neg h3] at h
  split
  · rename_i h4; rw [if_pos h4] at h; simp at h
  rename_i h4
  rw [if_neg h4] at h
  split
  · rename_i h5; rw [if_pos h5] at h; exact absurd h h5
  rename_i h5
  have := htk (whileL (t.drop a) numBs)
  refine ⟨⟨fun e => absurd e (by show ¬ (3 : Int) = 2; decide), fun _ => ?_⟩, by show (((t.drop a).take _).length : Int) + a ≤ (a : Int) + _; omega⟩
  show numL ((t.drop a).take _) = true
  have h6 : jnumL ((t.drop a).take (whileL (t.drop a) numBs)) = 0 := by omega
  unfold jnumL at h6
  split at h6
  · omega
  · split at h6
    · assumption
    · split at h6 <;> omega
def wsum (ws : List Wd) : Nat := (ws.map fun w => 1 + w.s.length).sum
theorem wsum_app (l r : List Wd) : wsum (l ++ r) = wsum l + wsum r := by simp [wsum]
theorem cutL_ok : ∀ (q : Nat) (t : Str) (a : Nat) (acc : List Wd), a ≤ t.length → (∀ w ∈ acc, wordOk w) → wsum acc ≤ 2 * a → (∀ w ∈ (cutL q t a acc).1, wordOk w) ∧ wsum (cutL q t a acc).1 ≤ 2 * t.length
  | 0, t, a, acc, ha, h, hs => by rw [cutL]; exact ⟨h, by simp only []; omega⟩
  | q + 1, t, a, acc, ha, h, hs => by
    rw [cutL]
    split
    · exact ⟨h, by simp only []; omega⟩
    rename_i hl
    split
    · simp [wsum]
    rename_i he
    have he : (wordL t a).2.2.1 = 0 := by simpa using he
    obtain ⟨g1, g2⟩ := wordL_ok t a (by omega) he
    have hb := (wordL_bound t a (by omega)).1 he
    have hw := whileL_le (t.drop (wordL t a).2.1.toNat) blanksB
    rw [List.length_drop] at hw
    refine cutL_ok q t _ _ (by omega) (fun w hw => ?_) ?_
    · rcases List.mem_append.1 hw with hw | hw
      · exact h w hw
      · rw [List.mem_singleton.1 hw]; exact g1
    · rw [wsum_app]
      simp only [wsum, List.map_cons, List.map_nil, List.sum_cons, List.sum_nil] at *
      omega
theorem cutT_good (t : Str) (h : (cutT t).2.1 = 0) : (∀ w ∈ (cutT t).1, wordOk w) ∧ wsum (cutT t).1 ≤ 2 * t.length + 1 := by
  unfold cutT at h ⊢
  split
  · rename_i h1; rw [if_pos h1] at h; exact absurd h h1
  rename_i h1
  rw [if_neg h1] at h
  split
  · rename_i h2; rw [if_pos h2] at h; exact absurd h h2
  have hw := whileL_le t blanksB
  obtain ⟨g1, g2⟩ := cutL_ok (t.length + 1) t (whileL t blanksB) [] hw (by simp) (by simp [wsum])
  refine ⟨fun w hw => ?_, ?_⟩
  · rcases List.mem_append.1 hw with hw | hw
    · exact g1 w hw
    · rw [List.mem_singleton.1 hw]; exact ⟨fun e => absurd e (by show ¬ (0 : Int) = 2; decide), fun e => absurd e (by show ¬ (0 : Int) = 3; decide)⟩
  · rw [wsum_app]
    simp only [wsum, List.map_cons, List.map_nil, List.sum_cons, List.sum_nil, List.length_nil] at *
    omega
theorem refInt_range {s : Str} (h : (refIntL s).2 = true) : -9223372036854775808 ≤ (refIntL s).1 ∧ (refIntL s).1 ≤ 9223372036854775807 := by
  rw [← decIntL_eq] at h ⊢
  unfold decIntL at h ⊢
  split
  · rename_i h1; rw [if_pos h1] at h; simp at h
  rename_i h1
  rw [if_neg h1] at h
  cases hp : Lib.parseIntB 64 s with
  | ok v =>
    have := Lib.parseIntB_bounds hp
    simp only []
    omega
  | _ => rw [hp] at h; simp at h
theorem good_mk {k n : Int} {s : Str} {l : List Tree} {m : List (Str × Tree)} (h1 : ¬ ownBad k n s.length l.length m.length) (h2 : nodeOk k n s = true) (h3 : -9223372036854775808 ≤ n ∧ n ≤ 9223372036854775807)
    (h4 : ∀ x ∈ l, goodT x = true) (h5 : ∀ p ∈ m, strOk p.1 = true ∧ goodT p.2 = true) (h6 : Up m) : goodT (.mk k n s l m) = true := by
  have e : ∀ x : Tree, goodT x = true → plainT x = true ∧ okT x = true := fun x hx => by unfold goodT at hx; rwa [Bool.and_eq_true] at hx
  have hl : plainL l = true ∧ okL l = true := by
    clear h1
    induction l with
    | nil => exact ⟨rfl, rfl⟩
    | cons x l ih =>
      obtain ⟨g1, g2⟩ := e x (h4 x (by simp))
      obtain ⟨g3, g4⟩ := ih fun y hy => h4 y (by simp [hy])
      rw [plainL, okL, g1, g2, g3, g4]
      exact ⟨rfl, rfl⟩
  have hm : ∀ (m : List (Str × Tree)) (o : Option Str), (∀ p ∈ m, strOk p.1 = true ∧ goodT p.2 = true) → Up m → (∀ p ∈ m, ∀ j, o = some j → j < p.1) → plainM o m = true ∧ okM m = true := by
    intro m
    induction m with
    | nil => intro o _ _ _; exact ⟨rfl, rfl⟩
    | cons p m ih =>
      intro o h5 h6 h7
      obtain ⟨k, x⟩ := p
      obtain ⟨g0, gx⟩ := h5 (k, x) (by simp)
      obtain ⟨g1, g2⟩ := e x gx
      obtain ⟨u1, u2⟩ := List.pairwise_cons.1 h6
      obtain ⟨g3, g4⟩ := ih (some k) (fun y hy => h5 y (by simp [hy])) u2 (fun p hp j hj => by cases hj; exact u1 p hp)
      cases o with
      | none => simp [plainM, plainP, okM, okQ, g0, g1, g2, g3, g4]
      | some j =>
        have hj : leqS k j = false := by
          have := h7 (k, x) (by simp) j rfl
          cases hl : leqS k j with
          | false => rfl
          | true => exact absurd ((leqS_iff _ _).1 hl) (List.not_le.2 this)
        simp [plainM, plainP, okM, okQ, g0, g1, g2, g3, g4, hj]
  obtain ⟨m1, m2⟩ := hm m none h5 h6 (by simp)
  unfold goodT
  rw [Bool.and_eq_true, plainT_eq, okT_eq]
  refine ⟨?_, ?_⟩
  · show (if ownBad k n s.length l.length m.length then false else nodeOk k n s && (plainL l && plainM none m)) = true
    rw [if_neg h1, h2, hl.1, m1]; rfl
  · show (decide (-9223372036854775808 ≤ n ∧ n ≤ 9223372036854775807) && (okL l && okM m)) = true
    rw [decide_eq_true h3, hl.2, m2]; rfl
theorem stamp_mk {k n : Int} {s : Str} {l : List Tree} {m : List (Str × Tree)} (h1 : k ≠ 7) (h2 : ∀ x ∈ l, stampT x = false) (h3 : ∀ p ∈ m, stampT p.2 = false) : stampT (.mk k n s l m) = false := by
  have hl : stampL l = false := by
    induction l with
    | nil => rfl
    | cons x l ih => rw [stampL, h2 x (by simp), ih fun y hy => h2 y (by simp [hy])]; rfl
  have hm : stampM m = false := by
    induction m with
    | nil => rfl
    | cons x l ih =>
      obtain ⟨k, x⟩ := x
      rw [stampM, stampP, h3 (k, x) (by simp), ih fun y hy => h3 y (by simp [hy])]; rfl
  rw [stampT_eq]
  show (decide (k = 7) || (stampL l || stampM m)) = false
  rw [decide_eq_false h1, hl, hm]; rfl
theorem ins_sums (k : Str) (x : Tree) : ∀ m : List (Str × Tree), Tree.nodesM (insK k x m) = x.nodes + Tree.nodesM m ∧ Tree.wtM (insK k x m) = k.length + x.wt + Tree.wtM m ∧ Tree.depthM (insK k x m) = max x.depth (Tree.depthM m)
  | [] => by simp [insK, Tree.nodesM, Tree.wtM, Tree.depthM, Tree.nodesP, Tree.wtP, Tree.depthP]
  | p :: m => by
    rw [insK]
    split
    · simp [Tree.nodesM, Tree.wtM, Tree.depthM, Tree.nodesP, Tree.wtP, Tree.depthP]
    · obtain ⟨h1, h2, h3⟩ := ins_sums k x m
      simp only [Tree.nodesM, Tree.wtM, Tree.depthM, h1, h2, h3]
      omega
theorem sort_sums : ∀ m : List (Str × Tree), Tree.nodesM (sortP m) = Tree.nodesM m ∧ Tree.wtM (sortP m) = Tree.wtM m ∧ Tree.depthM (sortP m) = Tree.depthM m
  | [] => ⟨rfl, rfl, rfl⟩
  | (k, x) :: m => by
    obtain ⟨h1, h2, h3⟩ := sort_sums m
    obtain ⟨g1, g2, g3⟩ := ins_sums k x (sortP m)
    simp only [sortP, Tree.nodesM, Tree.wtM, Tree.depthM, Tree.nodesP, Tree.wtP, Tree.depthP, g1, g2, g3, h1, h2, h3]
    exact ⟨trivial, trivial, trivial⟩
theorem sort_up {m : List (Str × Tree)} (h : (m.map (·.1)).Nodup) : Up (sortP m) := by
  have hnd : ((sortP m).map (·.1)).Nodup := (((sortP_perm m).map _).nodup_iff).2 h
  have h1 := sortP_pw m
  have h2 : (sortP m).Pairwise fun p q => p.1 ≠ q.1 := List.pairwise_map.1 hnd
  refine (h1.and h2).imp fun {p q} hpq => ?_
  by_cases h : p.1 < q.1
  · exact h
  · exact absurd (List.le_antisymm hpq.1 (List.not_lt.1 h)) hpq.2
def wAt (ws : List Wd) (i : Nat) : Nat := wsum (ws.drop i)
theorem wAt_step {ws : List Wd} {i : Nat} (h : i < ws.length) : wAt ws i = 1 + (wdAt ws i).s.length + wAt ws (i + 1) := by
  unfold wAt
  rw [List.drop_eq_getElem_cons h]
  have : wdAt ws i = ws[i] := by unfold wdAt; simp [h]
  rw [this]
  simp only [wsum, List.map_cons, List.sum_cons]
def okPart (d : Int) (x : Tree) : Prop := goodT x = true ∧ stampT x = false ∧ d + 1 + x.depth ≤ 33
def valOk (ws : List Wd) (d : Int) (i : Nat) (n : Int) : RR → Prop
  | .error _ => True
  | .ok (v, j, m) => goodT v = true ∧ stampT v = false ∧ d + v.depth ≤ 33 ∧ m = n + v.nodes ∧ v.wt + wAt ws j ≤ wAt ws i
def listOk (ws : List Wd) (d : Int) (i : Nat) (n : Int) (acc : List Tree) : RR → Prop
  | .error _ => True
  | .ok (v, j, m) => ∃ l, v = .mk 5 0 [] (acc ++ l) [] ∧ (∀ x ∈ l, okPart d x) ∧ m = n + Tree.nodesL l ∧ Tree.wtL l + wAt ws j ≤ wAt ws i
def mapOk (ws : List Wd) (d : Int) (i : Nat) (n : Int) (acc : List (Str × Tree)) : RR → Prop
  | .error _ => True
  | .ok (v, j, m) => ∃ l, v = .mk 6 0 [] [] (sortP (acc ++ l)) ∧ ((acc.map (·.1)).Nodup → ((acc ++ l).map (·.1)).Nodup) ∧ (∀ x ∈ l, strOk x.1 = true ∧ okPart d x.2) ∧ m = n + Tree.nodesM l ∧ Tree.wtM l + wAt ws j ≤ wAt ws i
theorem depthL_le {l : List Tree} {d : Int} (hd : 0 ≤ d) (h : ∀ x ∈ l, (x.depth : Int) ≤ d) : (Tree.depthL l : Int) ≤ d := by
  induction l with
  | nil => simp [Tree.depthL, hd]
  | cons x l ih =>
    have h1 := h x (by simp)
    have h2 := ih fun y hy => h y (by simp [hy])
    rw [Tree.depthL]; omega
theorem depthM_le {l : List (Str × Tree)} {d : Int} (hd : 0 ≤ d) (h : ∀ x ∈ l, (x.2.depth : Int) ≤ d) : (Tree.depthM l : Int) ≤ d := by
  induction l with
  | nil => simp [Tree.depthM, hd]
  | cons x l ih =>
    have h1 := h x (by simp)
    have h2 := ih fun y hy => h y (by simp [hy])
    obtain ⟨k, x⟩ := x
    rw [Tree.depthM, Tree.depthP]
    simp only [] at h1
    omega
theorem plainW_ok {ws : List Wd} {w : Wd} (hw : wordOk w) (h4 : 2 ≤ w.k) (h5 : w.k ≤ 4) : goodT (plainW w) = true ∧ stampT (plainW w) = false ∧ (plainW w).depth = 1 ∧ (plainW w).nodes = 1 ∧ (plainW w).wt ≤ 1 + w.s.length := by
  have r0 : (-9223372036854775808 : Int) ≤ 0 ∧ (0 : Int) ≤ 9223372036854775807 := by decide
  have up0 : Up [] := List.Pairwise.nil
  unfold plainW
  split
  · rename_i h
    refine ⟨good_mk (by unfold ownBad; simp) ?_ r0 (by simp) (by simp) up0, stamp_mk (by decide) (by simp) (by simp), by simp [Tree.depth, Tree.depthL, Tree.depthM], by simp [Tree.nodes, Tree.nodesL, Tree.nodesM], by simp [Tree.wt, Tree.wtL, Tree.wtM]⟩
    unfold nodeOk
    rw [if_neg (by decide), if_neg (by decide), if_neg (by decide), if_pos rfl]
    exact hw.1 h
  rename_i h2
  split
  · rename_i h3
    have hn := hw.2 h3
    split
    · rename_i h6
      refine ⟨good_mk (by unfold ownBad; simp) rfl (refInt_range h6) (by simp) (by simp) up0, stamp_mk (by decide) (by simp) (by simp), by simp [Tree.depth, Tree.depthL, Tree.depthM], by simp [Tree.nodes, Tree.nodesL, Tree.nodesM], by simp [Tree.wt, Tree.wtL, Tree.wtM]⟩
    · rename_i h6
      refine ⟨good_mk (by unfold ownBad; simp) ?_ r0 (by simp) (by simp) up0, stamp_mk (by decide) (by simp) (by simp), by simp [Tree.depth, Tree.depthL, Tree.depthM], by simp [Tree.nodes, Tree.nodesL, Tree.nodesM], by simp [Tree.wt, Tree.wtL, Tree.wtM]⟩
      unfold nodeOk
      rw [if_neg (by decide), if_neg (by decide), if_pos rfl, hn]
      simpa using h6
  split
  · exact ⟨by decide, by decide, by decide, by decide, by simp [Tree.wt, Tree.wtL, Tree.wtM]⟩
  split
  · exact ⟨by decide, by decide, by decide, by decide, by simp [Tree.wt, Tree.wtL, Tree.wtM]⟩
  · exact ⟨by decide, by decide, by decide, by decide, by simp [Tree.wt, Tree.wtL, Tree.wtM]⟩
theorem read_good {ws : List Wd} (h : WsOk ws) (hw : ∀ w ∈ ws, wordOk w) : ∀ q : Nat, (∀ d i n, i < ws.length → 1 ≤ d → valOk ws d i n (valR q ws d i n)) ∧ (∀ d i n, i < ws.length → 1 ≤ d → d ≤ 32 → listOk ws d i n [] (listR q ws d i n)) ∧
    (∀ d i n acc, i < ws.length → 1 ≤ d → listOk ws d i n acc (itemsR q ws d i n acc)) ∧ (∀ d i n, i < ws.length → 1 ≤ d → d ≤ 32 → mapOk ws d i n [] (pairsR q ws d i n)) ∧ (∀ d i n acc, i < ws.length → 1 ≤ d → mapOk ws d i n acc (entriesR q ws d i n acc)) := by
  have nx : ∀ {j : Nat} {s : Str}, j < ws.length → isS (wdAt ws j) s = true → j + 1 < ws.length := fun hj hs => h.end_ _ hj (by rw [(isS_k hs).1]; decide)
  intro q
  induction q with
  | zero => refine ⟨?_, ?_, ?_, ?_, ?_⟩ <;> intros <;> simp [valR, listR, itemsR, pairsR, entriesR, valOk, listOk, mapOk]
  | succ q ih =>
    obtain ⟨hv, hl, hi, hp, he⟩ := ih
    have ok := okR_all h q
    refine ⟨?_, ?_, ?_, ?_, ?_⟩
    · intro d i n hin hd
      rw [valR]
      split
      · trivial
      rename_i h1
      split
      · trivial
      rename_i h1'
      have h2 : i + 1 < ws.length := h.end_ i hin fun e => h1 (.inl e)
      have hst := wAt_step hin
      split
      · rename_i h3
        have := hl d (i + 1) (n + 1) h2 hd (by omega)
        cases hr : listR q ws d (i + 1) (n + 1) with
        | error e => trivial
        | ok x =>
          obtain ⟨v, j, m⟩ := x
          rw [hr] at this
          obtain ⟨l, rfl, g1, g2, g3⟩ := this
          rw [List.nil_append]
          have hdl : (Tree.depthL l : Int) ≤ 32 - d := depthL_le (by omega) fun x hx => by have := (g1 x hx).2.2; omega
          refine ⟨good_mk (by unfold ownBad; simp) rfl (by decide) (fun x hx => (g1 x hx).1) (by simp) List.Pairwise.nil, stamp_mk (by decide) (fun x hx => (g1 x hx).2.1) (by simp), ?_, ?_, ?_⟩
          · simp only [Tree.depth, Tree.depthM]; omega
          · simp only [Tree.nodes, Tree.nodesM]; omega
          · simp only [Tree.wt, Tree.wtM, List.length_nil]; omega
      · split
        · have := hp d (i + 1) (n + 1) h2 hd (by omega)
          cases hr : pairsR q ws d (i + 1) (n + 1) with
          | error e => trivial
          | ok x =>
            obtain ⟨v, j, m⟩ := x
            rw [hr] at this
            obtain ⟨l, rfl, g0, g1, g2, g3⟩ := this
            rw [List.nil_append] at g0 ⊢
            have g0 := g0 (by simp)
            obtain ⟨s1, s2, s3⟩ := sort_sums l
            have hdl : (Tree.depthM l : Int) ≤ 32 - d := depthM_le (by omega) fun x hx => by have := (g1 x hx).2.2.2; omega
            have hmem : ∀ p ∈ sortP l, p ∈ l := fun p hp => (sortP_perm l).mem_iff.1 hp
            refine ⟨good_mk (by unfold ownBad; simp) rfl (by decide) (by simp) (fun x hx => ⟨(g1 x (hmem x hx)).1, (g1 x (hmem x hx)).2.1⟩) (sort_up g0), stamp_mk (by decide) (by simp) (fun x hx => (g1 x (hmem x hx)).2.2.1), ?_, ?_, ?_⟩
            · simp only [Tree.depth, Tree.depthL, s3]; omega
            · simp only [Tree.nodes, Tree.nodesL, s1]; omega
            · simp only [Tree.wt, Tree.wtL, List.length_nil, s2]; omega
        · rename_i h3 h4
          have ht := (h.text _ (h.at hin).2)
          have hk : 2 ≤ (wdAt ws i).k := by
            have hk0 : ¬ (wdAt ws i).k = 0 := fun e => h1 (.inl e)
            have hk1 : ¬ (wdAt ws i).k = 1 := by
              intro e
              unfold isS at h3 h4
              simp only [decide_eq_true_eq, e, true_and] at h3 h4
              exact h1 (.inr ⟨e, h4, h3⟩)
            omega
          obtain ⟨p1, p2, p3, p4, p5⟩ := plainW_ok (ws := ws) (hw _ (h.at hin).2) hk ht.2.2.1
          exact ⟨p1, p2, by rw [p3]; omega, by rw [p4]; rfl, by omega⟩
    · intro d i n hin hd hd2
      rw [listR]
      split
      · have hst := wAt_step hin
        exact ⟨[], rfl, by simp, by simp [Tree.nodesL], by simp only [Tree.wtL]; omega⟩
      · exact hi _ _ _ _ hin hd
    · intro d i n acc hin hd
      rw [itemsR]
      have hv' := hv (d + 1) i n hin (by omega)
      have ho := ok.1 (d + 1) i n hin
      cases hr : valR q ws (d + 1) i n with
      | error e => trivial
      | ok x =>
        obtain ⟨x, j, m⟩ := x
        rw [hr] at hv' ho
        obtain ⟨g1, g2, g3, g4, g5⟩ := hv'
        have hj := ho.2.1
        have hst := wAt_step hj
        simp only []
        split
        · exact ⟨[x], rfl, by simp only [List.mem_singleton, forall_eq]; exact ⟨g1, g2, by omega⟩, by simp only [Tree.nodesL]; omega, by simp only [Tree.wtL]; omega⟩
        · split
          · rename_i h1
            have := hi d (j + 1) m (acc ++ [x]) (nx hj h1) hd
            cases hr2 : itemsR q ws d (j + 1) m (acc ++ [x]) with
            | error e => trivial
            | ok y =>
              obtain ⟨v, j2, m2⟩ := y
              rw [hr2] at this
              obtain ⟨l, rfl, k1, k2, k3⟩ := this
              refine ⟨x :: l, by simp, ?_, by simp only [Tree.nodesL]; omega, by simp only [Tree.wtL]; omega⟩
              intro y hy
              rcases List.mem_cons.1 hy with rfl | hy
              · exact ⟨g1, g2, by omega⟩
              · exact k1 y hy
          · trivial
    · intro d i n hin hd hd2
      rw [pairsR]
      split
      · have hst := wAt_step hin
        exact ⟨[], rfl, by simp, by simp, by simp [Tree.nodesM], by simp only [Tree.wtM]; omega⟩
      · exact he _ _ _ _ hin hd
    · intro d i n acc hin hd
      rw [entriesR]
      split
      · trivial
      rename_i h0
      split
      · trivial
      rename_i hk
      split
      · trivial
      rename_i h3
      have h1 : i + 1 < ws.length := h.end_ i hin (by omega)
      have h3 : isS (wdAt ws (i + 1)) [58] = true := by simpa using h3
      have hv' := hv (d + 1) (i + 2) n (nx h1 h3) (by omega)
      have ho := ok.1 (d + 1) (i + 2) n (nx h1 h3)
      have hst1 := wAt_step hin
      have hst2 := wAt_step h1
      rw [show i + 1 + 1 = i + 2 from rfl] at hst2
      have hkey := (hw _ (h.at hin).2).1 (by omega)
      have hnm : ¬ (wdAt ws i).s ∈ acc.map (·.1) := fun hm => hk ((hasK_mem _ _).2 hm)
      cases hr : valR q ws (d + 1) (i + 2) n with
      | error e => trivial
      | ok x =>
        obtain ⟨x, j, m⟩ := x
        rw [hr] at hv' ho
        obtain ⟨g1, g2, g3, g4, g5⟩ := hv'
        have hj := ho.2.1
        have hst := wAt_step hj
        have hnd : (acc.map (·.1)).Nodup → ((acc ++ [((wdAt ws i).s, x)]).map (·.1)).Nodup := by
          intro hnd
          rw [List.map_append, List.map_cons, List.map_nil]
          refine List.nodup_append.2 ⟨hnd, by simp, ?_⟩
          intro a ha b hb
          rw [List.mem_singleton.1 hb]
          exact fun e => hnm (by rw [← show a = (wdAt ws i).s from e]; exact ha)
        simp only []
        split
        · refine ⟨[((wdAt ws i).s, x)], rfl, hnd, ?_, by simp only [Tree.nodesM, Tree.nodesP]; omega, by simp only [Tree.wtM, Tree.wtP]; omega⟩
          intro y hy
          rw [List.mem_singleton.1 hy]
          exact ⟨hkey, g1, g2, by simp only []; omega⟩
        · split
          · rename_i h4
            have := he d (j + 1) m (acc ++ [((wdAt ws i).s, x)]) (nx hj h4) hd
            cases hr2 : entriesR q ws d (j + 1) m (acc ++ [((wdAt ws i).s, x)]) with
            | error e => trivial
            | ok y =>
              obtain ⟨v, j2, m2⟩ := y
              rw [hr2] at this
              obtain ⟨l, rfl, k0, k1, k2, k3⟩ := this
              refine ⟨((wdAt ws i).s, x) :: l, by simp, fun hn => by have := k0 (hnd hn); simpa using this, ?_, by simp only [Tree.nodesM, Tree.nodesP]; omega, by simp only [Tree.wtM, Tree.wtP]; omega⟩
              intro y hy
              rcases List.mem_cons.1 hy with rfl | hy
              · exact ⟨hkey, g1, g2, by simp only []; omega⟩
              · exact k1 y hy
          · trivial
theorem parse_good {t : Str} (h : (parseS t).2.1 = 0) : goodT (parseS t).1 = true ∧ stampT (parseS t).1 = false ∧ (parseS t).1.depth ≤ 32 ∧ (parseS t).1.nodes ≤ 4096 ∧ (parseS t).1.wt ≤ 2 * t.length + 1 := by
  unfold parseS at h ⊢
  by_cases hc : (cutT t).2.1 = 0
  · rw [if_pos hc] at h ⊢
    have hok := cutT_ok t hc
    have hpos := cutT_pos t hc
    obtain ⟨g1, g2⟩ := cutT_good t hc
    have hr := (read_good hok g1 (3 * (cutT t).1.length + 1)).1 1 0 0 hpos (by omega)
    have ho := (okR_all hok (3 * (cutT t).1.length + 1)).1 1 0 0 hpos
    have her := (errR_all hok (3 * (cutT t).1.length + 1)).1 1 0 0 hpos (by omega)
    unfold wholeS at h ⊢
    cases hx : valR (3 * (cutT t).1.length + 1) (cutT t).1 1 0 0 with
    | error e =>
      rw [hx] at h her
      obtain ⟨h1, _⟩ := her
      simp only [] at h
      omega
    | ok x =>
      obtain ⟨v, j, m⟩ := x
      rw [hx] at h hr ho
      simp only [] at h ⊢
      split
      · obtain ⟨k1, k2, k3, k4, k5⟩ := hr
        have h3 := ho.2.2.2
        have h5 : wAt (cutT t).1 0 = wsum (cutT t).1 := by unfold wAt; rw [List.drop_zero]
        exact ⟨k1, k2, by simp only []; omega, by simp only []; omega, by simp only []; omega⟩
      · rename_i h1; rw [if_neg h1] at h; simp at h
  · rw [if_neg hc] at h; exact absurd h hc
theorem steep_false : ∀ (t : Tree) (d n : Int), (t.depth : Int) ≤ d → (t.nodes : Int) ≤ n → (steep t d n).1 = false ∧ (steep t d n).2 = n - t.nodes := by
  have hL : ∀ (l : List Tree), (∀ x ∈ l, ∀ d n : Int, (x.depth : Int) ≤ d → (x.nodes : Int) ≤ n → (steep x d n).1 = false ∧ (steep x d n).2 = n - x.nodes) → ∀ d n : Int, (Tree.depthL l : Int) ≤ d → (Tree.nodesL l : Int) ≤ n → (steepL l d n).1 = false ∧ (steepL l d n).2 = n - Tree.nodesL l := by
    intro l
    induction l with
    | nil => intro _ d n _ _; simp [steepL, Tree.nodesL]
    | cons x l ih =>
      intro h d n hd hn
      simp only [Tree.nodesL, Tree.depthL] at hd hn ⊢
      obtain ⟨h1, h2⟩ := h x (by simp) d n (by omega) (by omega)
      rw [steepL_cons, if_neg (by rw [h1]; decide), h2]
      have := ih (fun y hy => h y (by simp [hy])) d (n - x.nodes) (by omega) (by omega)
      exact ⟨this.1, by rw [this.2]; omega⟩
  have hM : ∀ (l : List (Str × Tree)), (∀ x ∈ l, ∀ d n : Int, (x.2.depth : Int) ≤ d → (x.2.nodes : Int) ≤ n → (steep x.2 d n).1 = false ∧ (steep x.2 d n).2 = n - x.2.nodes) → ∀ d n : Int, (Tree.depthM l : Int) ≤ d → (Tree.nodesM l : Int) ≤ n → (steepM l d n).1 = false ∧ (steepM l d n).2 = n - Tree.nodesM l := by
    intro l
    induction l with
    | nil => intro _ d n _ _; simp [steepM, Tree.nodesM]
    | cons x l ih =>
      intro h d n hd hn
      obtain ⟨k, x⟩ := x
      simp only [Tree.nodesM, Tree.depthM, Tree.nodesP, Tree.depthP] at hd hn ⊢
      obtain ⟨h1, h2⟩ := h (k, x) (by simp) d n (by simp only []; omega) (by simp only []; omega)
      simp only [] at h1 h2
      rw [steepM_cons]
      simp only []
      rw [if_neg (by rw [h1]; decide), h2]
      have := ih (fun y hy => h y (by simp [hy])) d (n - x.nodes) (by omega) (by omega)
      exact ⟨this.1, by rw [this.2]; omega⟩
  refine Tree.ind fun t hl hm d n hd hn => ?_
  obtain ⟨k, z, s, l, m⟩ := t
  simp only [Tree.nodes, Tree.depth] at hd hn ⊢
  rw [steep_mk, if_neg (by omega)]
  obtain ⟨h1, h2⟩ := hL l hl (d - 1) (n - 1) (by omega) (by omega)
  rw [if_neg (by rw [h1]; decide), h2]
  obtain ⟨h3, h4⟩ := hM m hm (d - 1) (n - 1 - Tree.nodesL l) (by omega) (by omega)
  exact ⟨h3, by rw [h4]; omega⟩
end Go.Am
end

section
namespace Go.Proofs.YtaoejccgdpppgaaGreatDoor
open Go Go.Am
set_option maxRecDepth 100000
theorem law9_JprintOne (t u : Str) : AbsCall PP GG F.law9_JprintOne [.p (.str t), .p (.str u)] [] ⟨.ret (.p (.bool true)), [], []⟩ := by
  by_cases hlen : t.length ≤ 1500 ∧ u.length ≤ 1500
  · obtain ⟨hl1, hl2⟩ := hlen
    have hP1 := jread_Parse t (by omega)
    have hP2 := jread_Parse u (by omega)
    have hg1 := fun h => parse_good (t := t) h
    have hg2 := fun h => parse_good (t := u) h
    generalize parseS t = R1 at *
    generalize parseS u = R2 at *
    obtain ⟨v, e1, a1⟩ := R1
    obtain ⟨w, e2, a2⟩ := R2
    dsimp only [] at hg1 hg2 hP1 hP2
    unfold faultE at hP1 hP2
    dsimp only [] at hP1 hP2
    by_cases h1 : e1 = 0
    · rw [if_pos h1] at hP1
      by_cases h2 : e2 = 0
      · rw [if_pos h2] at hP2
        obtain ⟨g1, s1, d1, n1, w1⟩ := hg1 h1
        obtain ⟨g2, s2, d2, n2, w2⟩ := hg2 h2
        have p1 : plainT v = true ∧ okT v = true := by unfold goodT at g1; rwa [Bool.and_eq_true] at g1
        have p2 : plainT w = true ∧ okT w = true := by unfold goodT at g2; rwa [Bool.and_eq_true] at g2
        have t1 := (steep_false v 32 4096 (by omega) (by omega)).1
        have t2 := (steep_false w 32 4096 (by omega) (by omega)).1
        have hC1 := jprint_Compact v (by omega) p1.2
        have hC2 := jprint_Compact w (by omega) p2.2
        rw [textT_eq, t1, p1.1, if_pos (by rfl), show dd false 0 = -1 from rfl] at hC1
        rw [textT_eq, t2, p2.1, if_pos (by rfl), show dd false 0 = -1 from rfl] at hC2
        have hS := ref1_Same v (by omega) w (by omega)
        have key : decide (printT v (-1) = printT w (-1)) = sameT v w := by
          have hi := print_inj g1 g2 s1 s2 (-1)
          have hs := sameT_iff v w
          cases hq : sameT v w with
          | true => rw [decide_eq_true (hi.2 (hs.1 hq))]
          | false => rw [decide_eq_false (fun h => by rw [hs.2 (hi.1 h)] at hq; cases hq)]
        rw [Tree.enc_eta v] at hP1 hC1 hS
        rw [Tree.enc_eta w] at hP2 hC2 hS
        generalize printT v (-1) = x1 at *
        generalize printT w (-1) = x2 at *
        refine absCall_of (pol := polG) mixP F.law9_JprintOne_is ?_
        conv => whnf
        repeat' ((first
         | ((with_reducible first | refine Br.dec ?_ ?_ | refine Br.ndec ?_ ?_) <;> intro hb <;> (try simp only [ZZ] at hb) <;> (first | omega | contradiction | skip))
         | (with_reducible first | refine Br.tt rfl ?_ | refine Br.ff rfl ?_ | refine Br.ff (isEmptyCons _ _) ?_)
         | (refine Side.mk ?_ ?_; focus (first | omega | (dsimp only [InR, Int.reduceToNat, IntKind.bits, Int.reducePow]; omega) | (simp [CC]; done) | (constructor <;> omega)))
         | with_reducible refine Br.not ?_
         | (with_reducible first | refine Br.tt (by assumption) ?_ | refine Br.ff (by assumption) ?_)
         | (refine Br.mk ?_ ?_ <;> intro hb <;> (try simp only [ZZ] at hb) <;> (first | omega | contradiction | skip))
         | refine Src.whole ⟨rfl, rfl⟩ ?_ | refine FrzV.whole ?_
         | refine CallW.use (law9_awake) ?_
         | refine CallW.use (hP1) ?_
         | refine CallW.use (hP2) ?_
         | refine CallW.use (hS) ?_
         | refine CallW.use (hC1) ?_
         | refine CallW.use (hC2) ?_) <;> conv => whnf)
        all_goals
          first
          | exact CLe.retP rfl
          | exact CLe.retP (by rw [key]; simp)
      · rw [if_neg h2] at hP2
        rw [Tree.enc_eta v] at hP1
        rw [Tree.enc_eta w] at hP2
        refine absCall_of (pol := polG) mixP F.law9_JprintOne_is ?_
        conv => whnf
        repeat' ((first
         | ((with_reducible first | refine Br.dec ?_ ?_ | refine Br.ndec ?_ ?_) <;> intro hb <;> (try simp only [ZZ] at hb) <;> (first | omega | contradiction | skip))
         | (with_reducible first | refine Br.tt rfl ?_ | refine Br.ff rfl ?_ | refine Br.ff (isEmptyCons _ _) ?_)
         | (refine Side.mk ?_ ?_; focus (first | omega | (dsimp only [InR, Int.reduceToNat, IntKind.bits, Int.reducePow]; omega) | (simp [CC]; done) | (constructor <;> omega)))
         | with_reducible refine Br.not ?_
         | (with_reducible first | refine Br.tt (by assumption) ?_ | refine Br.ff (by assumption) ?_)
         | (refine Br.mk ?_ ?_ <;> intro hb <;> (try simp only [ZZ] at hb) <;> (first | omega | contradiction | skip))
         | refine Src.whole ⟨rfl, rfl⟩ ?_ | refine FrzV.whole ?_
         | refine CallW.use (law9_awake) ?_
         | refine CallW.use (hP1) ?_
         | refine CallW.use (hP2) ?_) <;> conv => whnf)
        all_goals
          first
          | exact CLe.retP rfl
    · rw [if_neg h1] at hP1
      have hP2' : ∃ f : Int × Int × Int × Int, AbsCall PP GG F.jread_Parse [.p (.str u)] [] ⟨.ret (.tup [.p w.enc, .p (.agg [.int .i64 f.1, .int .i64 f.2.1, .int .i64 f.2.2.1, .int .i64 f.2.2.2])]), [], []⟩ := by
        by_cases h2 : e2 = 0
        · rw [if_pos h2] at hP2; exact ⟨(0, 0, 0, 0), hP2⟩
        · rw [if_neg h2] at hP2; exact ⟨(e2, clampL u a2, (placeL u a2).1, (placeL u a2).2), hP2⟩
      obtain ⟨f, hP2⟩ := hP2'
      rw [Tree.enc_eta v] at hP1
      rw [Tree.enc_eta w] at hP2
      refine absCall_of (pol := polG) mixP F.law9_JprintOne_is ?_
      conv => whnf
      repeat' ((first
       | ((with_reducible first | refine Br.dec ?_ ?_ | refine Br.ndec ?_ ?_) <;> intro hb <;> (try simp only [ZZ] at hb) <;> (first | omega | contradiction | skip))
       | (with_reducible first | refine Br.tt rfl ?_ | refine Br.ff rfl ?_ | refine Br.ff (isEmptyCons _ _) ?_)
       | (refine Side.mk ?_ ?_; focus (first | omega | (dsimp only [InR, Int.reduceToNat, IntKind.bits, Int.reducePow]; omega) | (simp [CC]; done) | (constructor <;> omega)))
       | with_reducible refine Br.not ?_
       | (with_reducible first | refine Br.tt (by assumption) ?_ | refine Br.ff (by assumption) ?_)
       | (refine Br.mk ?_ ?_ <;> intro hb <;> (try simp only [ZZ] at hb) <;> (first | omega | contradiction | skip))
       | refine Src.whole ⟨rfl, rfl⟩ ?_ | refine FrzV.whole ?_
       | refine CallW.use (law9_awake) ?_
       | refine CallW.use (hP1) ?_
       | refine CallW.use (hP2) ?_) <;> conv => whnf)
      all_goals
        first
        | exact CLe.retP rfl
  · refine absCall_of (pol := polG) mixP F.law9_JprintOne_is ?_
    conv => whnf
    repeat' ((first
     | ((with_reducible first | refine Br.dec ?_ ?_ | refine Br.ndec ?_ ?_) <;> intro hb <;> (try simp only [ZZ] at hb) <;> (first | omega | contradiction | skip))
     | (with_reducible first | refine Br.tt rfl ?_ | refine Br.ff rfl ?_ | refine Br.ff (isEmptyCons _ _) ?_)
     | (refine Side.mk ?_ ?_; focus (first | omega | (dsimp only [InR, Int.reduceToNat, IntKind.bits, Int.reducePow]; omega) | (simp [CC]; done) | (constructor <;> omega)))
     | with_reducible refine Br.not ?_
     | (with_reducible first | refine Br.tt (by assumption) ?_ | refine Br.ff (by assumption) ?_)
     | (refine Br.mk ?_ ?_ <;> intro hb <;> (try simp only [ZZ] at hb) <;> (first | omega | contradiction | skip))
     | refine Src.whole ⟨rfl, rfl⟩ ?_ | refine FrzV.whole ?_
     | refine CallW.use (law9_awake) ?_) <;> conv => whnf)
    all_goals
      first
      | exact CLe.retP rfl
      | exact absurd ⟨by omega, by omega⟩ hlen
end Go.Proofs.YtaoejccgdpppgaaGreatDoor
end

section
namespace Go.Proofs.YtaoejccgdpppgaaGreatDoor
open Go.ChangeShapes Go.WideShapes Go.ChangeAt Go.RowKit Go.Am
set_option maxRecDepth 100000
theorem str_arg {H : Type} {enc : TypeId × Value → H} {W : World} {base : Nat} {sp : Nat → Bool} {held : Bool} {v : Value} {d : DataW H} {ps : List MemPlace} (hval : Value.okWide PP W .any base T.string v) (h : DataW.Trod enc PP W 0 sp held T.string v d ps) :
    ∃ s : Str, v = .string ⟨s.toArray⟩ ∧ d = .lit (.string s) ∧ ps = [] := by
  obtain ⟨s, rfl, rfl, rfl, _⟩ := ChangeMaps.open_string c_str hval h
  exact ⟨s.data.toList, by simp, rfl, rfl⟩
theorem readS : PP.readableRec T.string = true := by kernel_rfl
theorem rowS : T.string < PP.types.size := of_decide_eq_true (by kernel_rfl)
theorem arg_stays {t : TypeId} (hr : PP.readableRec t = true) (ht : t < PP.types.size) {H : Type} {enc : TypeId × Value → H} {W W' : World} {v : Value} {d : DataW H} {ps : List MemPlace} (h : DataW.Trod enc PP W 0 (fun _ => true) true t v d ps) (hb : Below W.heap.size W W') (hlt : ∀ x ∈ ps, x.block < W.heap.size)
    {sp : Nat → Bool} (hs : ∀ x ∈ ps, sp x.block = true) : DataW.Trod enc PP W' 0 sp true t v d ps :=
  WideElems.Trod_stays laidOutP hr ht h (fun x hx => hb.same (hlt x hx)) hs
theorem jprintOne_contract (H : Type) (enc : TypeId × Value → H) (W : World) (base : Nat) (args : Array Value) (ds gs : List (DataW H)) (before : List MemPlace)
    (hval : ∀ (j : Nat) t v, Tryz.f8.params[j]? = some t → args[j]? = some v → Value.okWide PP W .any base t v)
    (hW : DataW.Whole enc PP Tryz.f8.params.toList Rows.jprintOneSpec.vars false W args.toList ds gs before) (hL : laidMetH PP Rows.jprintOneRow.laid W) (hk : Rows.uptoBulkAll ds ≤ 1048576) :
    Calls PP F.law9_JprintOne args W fun e W' => ∃ v, e = .returned v ∧ Rows.jprintOneSpec.post enc PP Tryz.f8 false true false false W args v W' := by
  have hW' := hW
  have hlt := hW.lt
  obtain ⟨p, q, hA0, hV, rfl, hfz, hnd⟩ := hW
  have hA : DataW.TrodAll enc PP W 0 (fun _ => true) true Tryz.f8.params.toList args.toList ds p := hA0
  rw [Tryz.params8] at hA
  obtain ⟨v0, vs0, d0, ds0, p0, q0, hargs, rfl, rfl, h0, r0⟩ := trodAll_cons hA
  obtain ⟨v1, vs1, d1, ds1, p1, q1, rfl, rfl, rfl, h1, r1⟩ := trodAll_cons r0
  obtain ⟨rfl, rfl, rfl⟩ := trodAll_nil r1
  obtain rfl : args = #[v0, v1] := by cases args; simp_all
  obtain ⟨rfl, rfl⟩ := trodVars_none hV
  clear hA0
  obtain ⟨t0, rfl, rfl, rfl⟩ := str_arg (hval 0 T.string v0 (by kernel_rfl) rfl) h0
  obtain ⟨t1, rfl, rfl, rfl⟩ := str_arg (hval 1 T.string v1 (by kernel_rfl) rfl) h1
  simp only [List.append_nil] at hW' hlt
  simp only [Rows.uptoBulkAll, Rows.uptoBulk] at hk
  refine (law_call (f := F.law9_JprintOne) (ds := [.str t0, .str t1]) (vs := [.string ⟨t0.toArray⟩, .string ⟨t1.toArray⟩]) Tryz.func8 (by kernel_rfl) rfl (fun i x y hx hy => ?_) (gok_of hL (by rw [pow10_lit]; rfl) rfl rfl) (law9_JprintOne t0 t1 )).mono fun e W1 ⟨he, hb⟩ => ?_
  · rcases i with _ | _ | i
    · cases hx; cases hy; exact .str t0
    · cases hx; cases hy; exact .str t1
    · simp at hx
  · subst he
    have b := Tryz.underlying4
    exact ⟨_, rfl, post_of_below (pa := []) (pv := []) hW' (fun _ _ _ => trodAll_cons_mk (shut_bool b _) trodAll_mk0)
      (fun sp hs => trodAll_mk2 (arg_stays readS rowS h0 hb (by simp) (by simp)) (arg_stays readS rowS h1 hb (by simp) (by simp)))
      (fun _ _ => rfl) (by simp) hb (ok_one (by kernel_rfl) rfl (okWide_bool_mk b _))⟩
theorem jprintOne_reads (os : Os) {H : Type} (enc : TypeId × Value → H) : ∃ places, DataW.whole enc PP ((World.laidAll PP os Rows.jprintOneUptoRow.laid).forCall (fun _ _ => 0) ⟨#[], #[.string ⟨#[]⟩, .string ⟨#[]⟩], []⟩).memory Tryz.f8.params.toList Rows.jprintOneSpec.vars false (#[.string ⟨#[]⟩, .string ⟨#[]⟩] : Array Value).toList 8 = some ([.lit (.string []), .lit (.string [])], [], places) :=
  ⟨[], by kernel_rfl⟩
theorem jprintOne_lifted (os : Os) (started : os.Started) (H : Type) (enc : TypeId × Value → H) (Fi : Stop.Interp) :
    ReturnsInHanded {} Tryz.checked os F.law9_JprintOne .any ((Rows.OpenSpec.upto Rows.jprintOneSpec).preRow enc PP Tryz.f8 Rows.jprintOneUptoRow.domain false Rows.jprintOneUptoRow.laid) (((Rows.OpenSpec.upto Rows.jprintOneSpec).at Fi).post enc PP Tryz.f8 false true false false) := by
  obtain ⟨places, hx⟩ := jprintOne_reads os enc
  refine returnsInHanded_of_row (C := Tryz.checked) (s := Rows.OpenSpec.upto Rows.jprintOneSpec) own started (by kernel_rfl) Tryz.func8
    (witness_row_atRef (enc := enc) (C := Tryz.checked) false (World.laidAll PP os Rows.jprintOneUptoRow.laid) #[.string ⟨#[]⟩, .string ⟨#[]⟩] (World.laidAll_os _ _ _) (by kernel_rfl) (by kernel_rfl) (by kernel_rfl)
      (OpenSpec.preRow_of_cond 8 hx (by kernel_rfl) (fun k hk => by cases hk; kernel_rfl) (by kernel_rfl) (laidMet_laidAll _ (by kernel_rfl) (by kernel_rfl)))) ?_
  intro W base args ds gs before hval hW _ hcond _ hL _ _
  have hk := of_decide_eq_true (hcond _ rfl)
  refine jprintOne_contract H enc W base args ds gs before hval hW hL (Nat.le_trans ?_ hk)
  rw [bulk_append]
  exact Nat.le_add_right _ _
theorem jprintOne_said : Rows.JprintOneUptoSaid :=
  OpenClaim.holds_of_cond F.law9_JprintOne Tryz.f8 rfl rfl rfl rfl rfl rfl rfl ⟨rfl, rfl, rfl, rfl, rfl⟩ rfl rfl rfl rfl rfl (by kernel_rfl) Tryz.func8 (by kernel_rfl)
    (of_decide_eq_true (by kernel_rfl)) (by unfold Func.isWrapper; first | (rw [if_pos (by decide +kernel)]; kernel_rfl) | (rw [if_neg (by decide +kernel)]; exact ⟨rfl, rfl⟩))
    (fun os started H enc _ Fi => by rw [OpenClaim.pre_eq_preRow]; exact jprintOne_lifted os started H enc Fi)
theorem jprintOne_plain (f : FuncId) (fn : Func) (hf : Tryz.pinned.checked.prog.funcNamed "dragoman/dragomanlaw9.JprintOne" = some f) (hfn : Tryz.pinned.checked.prog.funcs[f]? = some fn) :
    true = Tryz.pinned.checked.prog.looks [] ∧ ∀ (j : Nat) t, fn.params[j]? = some t → Tryz.pinned.checked.prog.wantsStandIn t = false := by
  obtain rfl : f = F.law9_JprintOne := Option.some.inj ((show PP.funcNamed "dragoman/dragomanlaw9.JprintOne" = some F.law9_JprintOne by kernel_rfl).symm.trans hf) |>.symm
  obtain rfl : fn = Tryz.f8 := (Option.some.inj (Tryz.func8.symm.trans hfn)).symm
  refine ⟨by kernel_rfl, fun j t ht => ?_⟩
  rw [Tryz.params8] at ht
  obtain rfl : t = T.string := by simpa using Array.mem_of_getElem? ht
  exact (show PP.wantsStandIn T.string = false by kernel_rfl)
theorem jprintOne_card : Rows.JprintOneUptoCardSaid :=
  Claim7.holds_tied_plain_at .later [] _ _ _ _ jprintOne_said (fun _ h => by cases h) (by kernel_rfl) (fun _ h => by cases h) jprintOneUpto_row_tie rfl ⟨rfl, rfl⟩ (by kernel_rfl) rfl jprintOne_plain (by kernel_rfl)
end Go.Proofs.YtaoejccgdpppgaaGreatDoor
end
