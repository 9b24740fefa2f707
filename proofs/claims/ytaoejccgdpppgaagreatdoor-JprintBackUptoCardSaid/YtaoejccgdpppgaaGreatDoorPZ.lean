/-
JprintBack. The given statement JprintBackUptoCardSaid, proved: for every input of bulk at most 1048576, the law called with it returns true and the arguments read as they did. No further condition.
Trees alike, field by field.
The walk through the reference's likeness of trees.
The statements of layer 9: JprintApart.
Texts of letters: what is written is letters, and no byte below 32 in one line.
What is written is read back (T1).
The statements of layer 9: JprintPlain, JprintBack.
The row of JprintBack.
-/
import Derived.Test.YtaoejccgdpppgaaGreatDoorPE
import Derived.Test.YtaoejccgdpppgaaGreatDoorPG
import Derived.Test.YtaoejccgdpppgaaGreatDoorPH
import Derived.Test.YtaoejccgdpppgaaGreatDoorPI
import Derived.Test.YtaoejccgdpppgaaGreatDoorPJ
import Derived.Test.YtaoejccgdpppgaaGreatDoorPK
import Derived.Test.YtaoejccgdpppgaaGreatDoorPF
import Derived.Test.YtaoejccgdpppgaaGreatDoorPL

section
namespace Go.Am
mutual
def sameT : Tree → Tree → Bool
  | .mk k n s l m, .mk k' n' s' l' m' => decide (k = k' ∧ n = n' ∧ l.length = l'.length ∧ m.length = m'.length ∧ s = s') && (sameL l l' && sameM m m')
def sameL : List Tree → List Tree → Bool
  | [], [] => true
  | t :: l, u :: l' => sameT t u && sameL l l'
  | _, _ => false
def sameM : List (Str × Tree) → List (Str × Tree) → Bool
  | [], [] => true
  | p :: m, p' :: m' => sameP p p' && sameM m m'
  | _, _ => false
def sameP : Str × Tree → Str × Tree → Bool
  | (k, t), (k', t') => decide (k = k') && sameT t t'
end
theorem sameT_eq (t u : Tree) : sameT t u = (decide (t.kind = u.kind ∧ t.n = u.n ∧ t.l.length = u.l.length ∧ t.m.length = u.m.length ∧ t.s = u.s) && (sameL t.l u.l && sameM t.m u.m)) := by
  cases t; cases u; rw [sameT]; rfl
theorem sameL_iff : ∀ (l l' : List Tree), (∀ x ∈ l, ∀ u, sameT x u = true ↔ x = u) → (sameL l l' = true ↔ l = l')
  | [], [], _ => by simp [sameL]
  | [], _ :: _, _ => by simp [sameL]
  | _ :: _, [], _ => by simp [sameL]
  | x :: l, y :: l', h => by
    rw [sameL, Bool.and_eq_true, h x (by simp), sameL_iff l l' (fun x hx => h x (by simp [hx]))]
    simp
theorem sameM_iff : ∀ (l l' : List (Str × Tree)), (∀ x ∈ l, ∀ u, sameT x.2 u = true ↔ x.2 = u) → (sameM l l' = true ↔ l = l')
  | [], [], _ => by simp [sameM]
  | [], _ :: _, _ => by simp [sameM]
  | _ :: _, [], _ => by simp [sameM]
  | (k, x) :: l, (k', y) :: l', h => by
    have h1 := h (k, x) (by simp)
    simp only [] at h1
    rw [sameM, sameP, Bool.and_eq_true, Bool.and_eq_true, decide_eq_true_eq, h1, sameM_iff l l' (fun x hx => h x (by simp [hx]))]
    simp
theorem sameT_iff : ∀ (t u : Tree), sameT t u = true ↔ t = u := by
  refine Tree.ind fun t hl hm u => ?_
  rw [sameT_eq, Bool.and_eq_true, Bool.and_eq_true, sameL_iff _ _ hl, sameM_iff _ _ hm, decide_eq_true_eq]
  constructor
  · rintro ⟨⟨h1, h2, _, _, h3⟩, h4, h5⟩
    rw [t.eta, u.eta, h1, h2, h3, h4, h5]
  · rintro rfl
    exact ⟨⟨rfl, rfl, rfl, rfl, rfl⟩, rfl, rfl⟩
end Go.Am
end

section
namespace Go.Proofs.YtaoejccgdpppgaaGreatDoor
open Go Go.Am
set_option maxRecDepth 100000
def SameIs (t : Tree) : Prop := ∀ u : Tree, u.wt ≤ 4000000 → AbsCall PP GG F.ref1_Same [.p t.enc, .p u.enc, .p (.bool false)] [] ⟨.ret (.p (.bool (sameT t u))), [], []⟩
theorem same_loopL (t u : Tree) (hw : t.wt ≤ 4000000) (hu : u.wt ≤ 4000000) (hlen : t.l.length = u.l.length) (R : Bool) (K : Post) (hl : ∀ x ∈ t.l, SameIs x)
    (h0 : R = true → K (.exit 0) [(2, .p (.bool false)), (3, .ptr 0 0), (4, .ptr 1 0)] [.var T.api_Value (.p t.enc), .var T.api_Value (.p u.enc)] [])
    (hr : R = false → K .ret [(6, .p (.bool false))] [.var T.api_Value (.p t.enc), .var T.api_Value (.p u.enc)] []) :
    ∀ (q i : Nat), i + q = t.l.length → sameL (t.l.drop i) (u.l.drop i) = R →
      LoopW PP GG 118 0 (loopN F.ref1_Same_c 0) [(2, .p (.bool false)), (3, .ptr 0 0), (4, .ptr 1 0), (7, .p (.int .i64 i))] [.var T.api_Value (.p t.enc), .var T.api_Value (.p u.enc)] [] (PostCl 118 K) := by
  rw [Tree.enc_eta t, Tree.enc_eta u] at h0 hr ⊢
  have hwl := t.wt_ll
  have hel : (Tree.encL t.l).length = t.l.length := Tree.encL_length _
  intro q
  induction q with
  | zero =>
    intro i hi hR
    rw [List.drop_eq_nil_of_le (by omega), List.drop_eq_nil_of_le (by omega), sameL] at hR
    refine LoopW.round (pol := polG) mixP ?_
    conv => whnf
    repeat' ((first
     | ((with_reducible first | refine Br.dec ?_ ?_ | refine Br.ndec ?_ ?_) <;> intro hb <;> (try simp only [And.intro @hel (ZZ)] at hb) <;> (first | omega | contradiction | skip))
     | (with_reducible first | refine Br.tt rfl ?_ | refine Br.ff rfl ?_ | refine Br.ff (isEmptyCons _ _) ?_)
     | (refine Side.mk ?_ ?_; focus (first | omega | (dsimp only [InR, Int.reduceToNat, IntKind.bits, Int.reducePow]; omega) | (simp [CC]; done) | (constructor <;> omega)))
     | with_reducible refine Br.not ?_
     | (with_reducible first | refine Br.tt (by assumption) ?_ | refine Br.ff (by assumption) ?_)
     | (refine Br.mk ?_ ?_ <;> intro hb <;> (try simp only [And.intro @hel (ZZ)] at hb) <;> (first | omega | contradiction | skip))
     | refine Src.whole ⟨rfl, rfl⟩ ?_ | refine FrzV.whole ?_) <;> conv => whnf)
    · refine PostCl.of (h0 hR.symm) ?_ ?_
      · repeat first | exact trivial | refine ⟨VLe.refl _, ?_⟩
      · repeat first | exact trivial | refine ⟨by decide, ?_⟩
  | succ q ih =>
    intro i hi hR
    obtain ⟨x, hx⟩ : ∃ x, t.l[i]? = some x := ⟨_, List.getElem?_eq_getElem (show i < t.l.length by omega)⟩
    obtain ⟨y, hy⟩ : ∃ y, u.l[i]? = some y := ⟨_, List.getElem?_eq_getElem (show i < u.l.length by omega)⟩
    rw [drop_cons hx, drop_cons hy, sameL] at hR
    have hxm : x ∈ t.l := List.mem_of_getElem? hx
    have hym := Tree.wt_l (List.mem_of_getElem? hy)
    have hsp := hl x hxm y (by omega)
    rw [Tree.enc_eta x, Tree.enc_eta y] at hsp
    refine LoopW.round (pol := polG) mixP ?_
    conv => whnf
    repeat' ((first
     | ((with_reducible first | refine Br.dec ?_ ?_ | refine Br.ndec ?_ ?_) <;> intro hb <;> (try simp only [And.intro @hel (ZZ)] at hb) <;> (first | omega | contradiction | skip))
     | (with_reducible first | refine Br.tt rfl ?_ | refine Br.ff rfl ?_ | refine Br.ff (isEmptyCons _ _) ?_)
     | (refine Side.mk ?_ ?_; focus (first | omega | (dsimp only [InR, Int.reduceToNat, IntKind.bits, Int.reducePow]; omega) | exact ⟨rfl, rfl⟩ | (simp [CC]; done) | (constructor <;> omega)))
     | with_reducible refine Br.not ?_
     | (with_reducible first | refine Br.tt (by assumption) ?_ | refine Br.ff (by assumption) ?_)
     | (refine Br.mk ?_ ?_ <;> intro hb <;> (try simp only [And.intro @hel (ZZ)] at hb) <;> (first | omega | contradiction | skip))
     | refine Src.whole ⟨rfl, rfl⟩ ?_ | refine FrzV.whole ?_
     | refine CallW.use (hsp) ?_
     | (refine ElemZ.tree (l := t.l) (by simpa using hx) ?_; (rw [Tree.enc_eta x]; conv => whnf))
     | (refine ElemZ.tree (l := u.l) (by simpa using hy) ?_; (rw [Tree.enc_eta y]; conv => whnf))) <;> conv => whnf)
    · rw [hb, Bool.true_and] at hR
      refine LoopW.sub (ih (i + 1) (by omega) hR) (by repeat first | exact trivial | refine ⟨VLe.refl _, ?_⟩) (by repeat first | exact trivial | refine ⟨by decide, ?_⟩)
    · rw [hb, Bool.false_and] at hR
      refine PostCl.of (hr hR.symm) ?_ ?_
      · repeat first | exact trivial | refine ⟨VLe.refl _, ?_⟩
      · repeat first | exact trivial | refine ⟨by decide, ?_⟩
theorem same_loopM (t u : Tree) (hw : t.wt ≤ 4000000) (hu : u.wt ≤ 4000000) (hlen : t.m.length = u.m.length) (R : Bool) (K : Post) (hl : ∀ x ∈ t.m, SameIs x.2)
    (h0 : R = true → K (.exit 2) [] [.var T.api_Value (.p t.enc), .var T.api_Value (.p u.enc)] [])
    (hr : R = false → K .ret [(6, .p (.bool false))] [.var T.api_Value (.p t.enc), .var T.api_Value (.p u.enc)] []) :
    ∀ (q i : Nat), i + q = t.m.length → sameM (t.m.drop i) (u.m.drop i) = R →
      LoopW PP GG 118 0 (loopN F.ref1_Same_c 1) [(2, .p (.bool false)), (3, .ptr 0 0), (4, .ptr 1 0), (8, .p (.int .i64 i))] [.var T.api_Value (.p t.enc), .var T.api_Value (.p u.enc)] [] (PostCl 118 K) := by
  rw [Tree.enc_eta t, Tree.enc_eta u] at h0 hr ⊢
  have hwl := t.wt_ml
  have hel : (Tree.encM t.m).length = t.m.length := Tree.encM_length _
  intro q
  induction q with
  | zero =>
    intro i hi hR
    rw [List.drop_eq_nil_of_le (by omega), List.drop_eq_nil_of_le (by omega), sameM] at hR
    refine LoopW.round (pol := polG) mixP ?_
    conv => whnf
    repeat' ((first
     | ((with_reducible first | refine Br.dec ?_ ?_ | refine Br.ndec ?_ ?_) <;> intro hb <;> (try simp only [And.intro @hel (ZZ)] at hb) <;> (first | omega | contradiction | skip))
     | (with_reducible first | refine Br.tt rfl ?_ | refine Br.ff rfl ?_ | refine Br.ff (isEmptyCons _ _) ?_)
     | (refine Side.mk ?_ ?_; focus (first | omega | (dsimp only [InR, Int.reduceToNat, IntKind.bits, Int.reducePow]; omega) | (simp [CC]; done) | (constructor <;> omega)))
     | with_reducible refine Br.not ?_
     | (with_reducible first | refine Br.tt (by assumption) ?_ | refine Br.ff (by assumption) ?_)
     | (refine Br.mk ?_ ?_ <;> intro hb <;> (try simp only [And.intro @hel (ZZ)] at hb) <;> (first | omega | contradiction | skip))
     | refine Src.whole ⟨rfl, rfl⟩ ?_ | refine FrzV.whole ?_) <;> conv => whnf)
    · refine PostCl.of (h0 hR.symm) ?_ ?_
      · repeat first | exact trivial | refine ⟨VLe.refl _, ?_⟩
      · repeat first | exact trivial | refine ⟨by decide, ?_⟩
  | succ q ih =>
    intro i hi hR
    obtain ⟨x, hx⟩ : ∃ x, t.m[i]? = some x := ⟨_, List.getElem?_eq_getElem (show i < t.m.length by omega)⟩
    obtain ⟨y, hy⟩ : ∃ y, u.m[i]? = some y := ⟨_, List.getElem?_eq_getElem (show i < u.m.length by omega)⟩
    rw [drop_cons hx, drop_cons hy, sameM] at hR
    have hxm : x ∈ t.m := List.mem_of_getElem? hx
    have hym := Tree.wt_m (List.mem_of_getElem? hy)
    have hsp := hl x hxm y.2 (by omega)
    obtain ⟨k, x⟩ := x
    obtain ⟨k', y⟩ := y
    rw [sameP] at hR
    simp only [] at hsp
    rw [Tree.enc_eta x, Tree.enc_eta y] at hsp
    by_cases hk : k = k'
    · rw [decide_eq_true hk, Bool.true_and] at hR
      refine LoopW.round (pol := polG) mixP ?_
      conv => whnf
      repeat' ((first
       | ((with_reducible first | refine Br.dec ?_ ?_ | refine Br.ndec ?_ ?_) <;> intro hb <;> (try simp only [And.intro @hel (ZZ)] at hb) <;> (first | omega | contradiction | skip))
       | (with_reducible first | refine Br.tt rfl ?_ | refine Br.ff rfl ?_ | refine Br.ff (isEmptyCons _ _) ?_)
       | (refine Side.mk ?_ ?_; focus (first | omega | (dsimp only [InR, Int.reduceToNat, IntKind.bits, Int.reducePow]; omega) | exact ⟨rfl, rfl⟩ | (simp [CC]; done) | (constructor <;> omega)))
       | with_reducible refine Br.not ?_
       | (with_reducible first | refine Br.tt (by assumption) ?_ | refine Br.ff (by assumption) ?_)
       | (refine Br.mk ?_ ?_ <;> intro hb <;> (try simp only [And.intro @hel (ZZ)] at hb) <;> (first | omega | contradiction | skip))
       | refine Src.whole ⟨rfl, rfl⟩ ?_ | refine FrzV.whole ?_
       | refine CallW.use (hsp) ?_
       | (refine TabsW.lit F.ref1_Same_t13 (by kernel_rfl) ?_)
       | (refine ElemZ.pairE (m := t.m) (k := k) (y := x) (by simpa using hx) ?_)
       | (refine ElemZ.pairE (m := u.m) (k := k') (y := y) (by simpa using hy) ?_)) <;> conv => whnf)
      · rw [hb, Bool.true_and] at hR
        refine LoopW.sub (ih (i + 1) (by omega) hR) (by repeat first | exact trivial | refine ⟨VLe.refl _, ?_⟩) (by repeat first | exact trivial | refine ⟨by decide, ?_⟩)
      · rw [hb, Bool.false_and] at hR
        refine PostCl.of (hr hR.symm) ?_ ?_
        · repeat first | exact trivial | refine ⟨VLe.refl _, ?_⟩
        · repeat first | exact trivial | refine ⟨by decide, ?_⟩
    · rw [decide_eq_false hk, Bool.false_and, Bool.false_and] at hR
      refine LoopW.round (pol := polG) mixP ?_
      conv => whnf
      repeat' ((first
       | ((with_reducible first | refine Br.dec ?_ ?_ | refine Br.ndec ?_ ?_) <;> intro hb <;> (try simp only [And.intro @hel (ZZ)] at hb) <;> (first | omega | contradiction | skip))
       | (with_reducible first | refine Br.tt rfl ?_ | refine Br.ff rfl ?_ | refine Br.ff (isEmptyCons _ _) ?_)
       | (refine Side.mk ?_ ?_; focus (first | omega | (dsimp only [InR, Int.reduceToNat, IntKind.bits, Int.reducePow]; omega) | exact ⟨rfl, rfl⟩ | (simp [CC]; done) | (constructor <;> omega)))
       | with_reducible refine Br.not ?_
       | (with_reducible first | refine Br.tt (by assumption) ?_ | refine Br.ff (by assumption) ?_)
       | (refine Br.mk ?_ ?_ <;> intro hb <;> (try simp only [And.intro @hel (ZZ)] at hb) <;> (first | omega | contradiction | skip))
       | refine Src.whole ⟨rfl, rfl⟩ ?_ | refine FrzV.whole ?_
       | refine CallW.use (hsp) ?_
       | (refine TabsW.lit F.ref1_Same_t13 (by kernel_rfl) ?_)
       | (refine ElemZ.pairE (m := t.m) (k := k) (y := x) (by simpa using hx) ?_)
       | (refine ElemZ.pairE (m := u.m) (k := k') (y := y) (by simpa using hy) ?_)) <;> conv => whnf)
      refine PostCl.of (hr hR.symm) ?_ ?_
      · repeat first | exact trivial | refine ⟨VLe.refl _, ?_⟩
      · repeat first | exact trivial | refine ⟨by decide, ?_⟩
theorem ref1_Same : ∀ t : Tree, t.wt ≤ 4000000 → SameIs t := by
  refine Tree.indW fun t hw hl hm u hu => ?_
  have hS := sameT_eq t u
  have hlL := same_loopL t u hw hu
  have hlM := same_loopM t u hw hu
  have hel : (Tree.encL t.l).length = t.l.length := Tree.encL_length _
  have hem : (Tree.encM t.m).length = t.m.length := Tree.encM_length _
  have hel2 : (Tree.encL u.l).length = u.l.length := Tree.encL_length _
  have hem2 : (Tree.encM u.m).length = u.m.length := Tree.encM_length _
  generalize sameT t u = R at hS ⊢
  rw [Tree.enc_eta t, Tree.enc_eta u] at hlL hlM ⊢
  by_cases hc : t.kind = u.kind ∧ t.n = u.n ∧ t.l.length = u.l.length ∧ t.m.length = u.m.length ∧ t.s = u.s
  · rw [decide_eq_true hc, Bool.true_and] at hS
    obtain ⟨h1, h2, h3, h4, h5⟩ := hc
    refine absCall_of (pol := polG) mixP F.ref1_Same_is ?_
    conv => whnf
    repeat' ((first
     | ((with_reducible first | refine Br.dec ?_ ?_ | refine Br.ndec ?_ ?_) <;> intro hb <;> (try simp only [And.intro @hel (And.intro @hem (And.intro @hel2 (And.intro @hem2 (ZZ))))] at hb) <;> (first | omega | contradiction | skip))
     | (with_reducible first | refine Br.tt rfl ?_ | refine Br.ff rfl ?_ | refine Br.ff (isEmptyCons _ _) ?_)
     | (refine Side.mk ?_ ?_; focus (first | omega | (dsimp only [InR, Int.reduceToNat, IntKind.bits, Int.reducePow]; omega) | (simp [CC]; done) | (constructor <;> omega)))
     | with_reducible refine Br.not ?_
     | (with_reducible first | refine Br.tt (by assumption) ?_ | refine Br.ff (by assumption) ?_)
     | (refine Br.mk ?_ ?_ <;> intro hb <;> (try simp only [And.intro @hel (And.intro @hem (And.intro @hel2 (And.intro @hem2 (ZZ))))] at hb) <;> (first | omega | contradiction | skip))
     | refine Src.whole ⟨rfl, rfl⟩ ?_ | refine FrzV.whole ?_
     | (refine TabsW.lit F.ref1_Same_t1 (by kernel_rfl) ?_)) <;> conv => whnf)
    refine LoopW.cl ?_
    refine LoopW.sub (hlL h3 (sameL t.l u.l) _ (fun x hx => (hl x hx).2) (fun h => ?_) (fun h => ?_) t.l.length 0 (by omega) rfl) (by repeat first | exact trivial | refine ⟨VLe.refl _, ?_⟩) (by repeat first | exact trivial | refine ⟨by decide, ?_⟩)
    · conv => whnf
      rw [h, Bool.true_and] at hS
      repeat' ((first
       | ((with_reducible first | refine Br.dec ?_ ?_ | refine Br.ndec ?_ ?_) <;> intro hb <;> (try simp only [ZZ] at hb) <;> (first | omega | contradiction | skip))
       | (with_reducible first | refine Br.tt rfl ?_ | refine Br.ff rfl ?_ | refine Br.ff (isEmptyCons _ _) ?_)
       | (refine Side.mk ?_ ?_; focus (first | omega | (dsimp only [InR, Int.reduceToNat, IntKind.bits, Int.reducePow]; omega) | (simp [CC]; done) | (constructor <;> omega)))
       | with_reducible refine Br.not ?_
       | (with_reducible first | refine Br.tt (by assumption) ?_ | refine Br.ff (by assumption) ?_)
       | (refine Br.mk ?_ ?_ <;> intro hb <;> (try simp only [ZZ] at hb) <;> (first | omega | contradiction | skip))
       | refine Src.whole ⟨rfl, rfl⟩ ?_ | refine FrzV.whole ?_) <;> conv => whnf)
      refine LoopW.cl ?_
      refine LoopW.sub (hlM h4 R _ (fun x hx => (hm x hx).2.2) (fun h => ?_) (fun h => ?_) t.m.length 0 (by omega) hS.symm) (by repeat first | exact trivial | refine ⟨VLe.refl _, ?_⟩) (by repeat first | exact trivial | refine ⟨by decide, ?_⟩)
      · conv => whnf
        exact CLe.retP (by rw [h])
      · conv => whnf
        exact CLe.retP (by rw [h])
    · conv => whnf
      rw [h, Bool.false_and] at hS
      exact CLe.retP (by rw [hS])
  · rw [decide_eq_false hc, Bool.false_and] at hS
    subst hS
    refine absCall_of (pol := polG) mixP F.ref1_Same_is ?_
    conv => whnf
    repeat' ((first
     | ((with_reducible first | refine Br.dec ?_ ?_ | refine Br.ndec ?_ ?_) <;> intro hb <;> (try simp only [And.intro @hel (And.intro @hem (And.intro @hel2 (And.intro @hem2 (ZZ))))] at hb) <;> (first | omega | contradiction | skip))
     | (with_reducible first | refine Br.tt rfl ?_ | refine Br.ff rfl ?_ | refine Br.ff (isEmptyCons _ _) ?_)
     | (refine Side.mk ?_ ?_; focus (first | omega | (dsimp only [InR, Int.reduceToNat, IntKind.bits, Int.reducePow]; omega) | (simp [CC]; done) | (constructor <;> omega)))
     | with_reducible refine Br.not ?_
     | (with_reducible first | refine Br.tt (by assumption) ?_ | refine Br.ff (by assumption) ?_)
     | (refine Br.mk ?_ ?_ <;> intro hb <;> (try simp only [And.intro @hel (And.intro @hem (And.intro @hel2 (And.intro @hem2 (ZZ))))] at hb) <;> (first | omega | contradiction | skip))
     | refine Src.whole ⟨rfl, rfl⟩ ?_ | refine FrzV.whole ?_) <;> conv => whnf)
    all_goals first
      | exact CLe.retP rfl
      | exact absurd ⟨by omega, by omega, by omega, by omega, by assumption⟩ hc
def StampIs (t : Tree) : Prop := AbsCall PP GG F.law9_stamped [.p t.enc] [] ⟨.ret (.p (.bool (stampT t))), [], []⟩
theorem stamp_loopL (t : Tree) (hw : t.wt ≤ 4000000) (R : Bool) (K : Post) (hl : ∀ x ∈ t.l, StampIs x)
    (h0 : R = false → K (.exit 0) [(1, .ptr 0 0)] [.var T.api_Value (.p t.enc)] [])
    (hr : R = true → K .ret [(2, .p (.bool true))] [.var T.api_Value (.p t.enc)] []) :
    ∀ (q i : Nat), i + q = t.l.length → stampL (t.l.drop i) = R →
      LoopW PP GG 35 0 (loopN F.law9_stamped_c 0) [(1, .ptr 0 0), (3, .p (.int .i64 i))] [.var T.api_Value (.p t.enc)] [] (PostCl 35 K) := by
  rw [Tree.enc_eta t] at h0 hr ⊢
  have hwl := t.wt_ll
  have hel : (Tree.encL t.l).length = t.l.length := Tree.encL_length _
  intro q
  induction q with
  | zero =>
    intro i hi hR
    rw [List.drop_eq_nil_of_le (by omega), stampL] at hR
    refine LoopW.round (pol := polG) mixP ?_
    conv => whnf
    repeat' ((first
     | ((with_reducible first | refine Br.dec ?_ ?_ | refine Br.ndec ?_ ?_) <;> intro hb <;> (try simp only [And.intro @hel (ZZ)] at hb) <;> (first | omega | contradiction | skip))
     | (with_reducible first | refine Br.tt rfl ?_ | refine Br.ff rfl ?_ | refine Br.ff (isEmptyCons _ _) ?_)
     | (refine Side.mk ?_ ?_; focus (first | omega | (dsimp only [InR, Int.reduceToNat, IntKind.bits, Int.reducePow]; omega) | (simp [CC]; done) | (constructor <;> omega)))
     | with_reducible refine Br.not ?_
     | (with_reducible first | refine Br.tt (by assumption) ?_ | refine Br.ff (by assumption) ?_)
     | (refine Br.mk ?_ ?_ <;> intro hb <;> (try simp only [And.intro @hel (ZZ)] at hb) <;> (first | omega | contradiction | skip))
     | refine Src.whole ⟨rfl, rfl⟩ ?_ | refine FrzV.whole ?_) <;> conv => whnf)
    · refine PostCl.of (h0 hR.symm) ?_ ?_
      · repeat first | exact trivial | refine ⟨VLe.refl _, ?_⟩
      · repeat first | exact trivial | refine ⟨by decide, ?_⟩
  | succ q ih =>
    intro i hi hR
    obtain ⟨x, hx⟩ : ∃ x, t.l[i]? = some x := ⟨_, List.getElem?_eq_getElem (show i < t.l.length by omega)⟩
    rw [drop_cons hx, stampL] at hR
    have hsp := hl x (List.mem_of_getElem? hx)
    unfold StampIs at hsp
    rw [Tree.enc_eta x] at hsp
    refine LoopW.round (pol := polG) mixP ?_
    conv => whnf
    repeat' ((first
     | ((with_reducible first | refine Br.dec ?_ ?_ | refine Br.ndec ?_ ?_) <;> intro hb <;> (try simp only [And.intro @hel (ZZ)] at hb) <;> (first | omega | contradiction | skip))
     | (with_reducible first | refine Br.tt rfl ?_ | refine Br.ff rfl ?_ | refine Br.ff (isEmptyCons _ _) ?_)
     | (refine Side.mk ?_ ?_; focus (first | omega | (dsimp only [InR, Int.reduceToNat, IntKind.bits, Int.reducePow]; omega) | exact ⟨rfl, rfl⟩ | (simp [CC]; done) | (constructor <;> omega)))
     | with_reducible refine Br.not ?_
     | (with_reducible first | refine Br.tt (by assumption) ?_ | refine Br.ff (by assumption) ?_)
     | (refine Br.mk ?_ ?_ <;> intro hb <;> (try simp only [And.intro @hel (ZZ)] at hb) <;> (first | omega | contradiction | skip))
     | refine Src.whole ⟨rfl, rfl⟩ ?_ | refine FrzV.whole ?_
     | refine CallW.use (hsp) ?_
     | (refine ElemZ.tree (l := t.l) (by simpa using hx) ?_; (rw [Tree.enc_eta x]; conv => whnf))) <;> conv => whnf)
    · rw [hb, Bool.true_or] at hR
      refine PostCl.of (hr hR.symm) ?_ ?_
      · repeat first | exact trivial | refine ⟨VLe.refl _, ?_⟩
      · repeat first | exact trivial | refine ⟨by decide, ?_⟩
    · rw [hb, Bool.false_or] at hR
      refine LoopW.sub (ih (i + 1) (by omega) hR) (by repeat first | exact trivial | refine ⟨VLe.refl _, ?_⟩) (by repeat first | exact trivial | refine ⟨by decide, ?_⟩)
theorem stamp_loopM (t : Tree) (hw : t.wt ≤ 4000000) (R : Bool) (K : Post) (hl : ∀ x ∈ t.m, StampIs x.2)
    (h0 : R = false → K (.exit 2) [] [.var T.api_Value (.p t.enc)] [])
    (hr : R = true → K .ret [(2, .p (.bool true))] [.var T.api_Value (.p t.enc)] []) :
    ∀ (q i : Nat), i + q = t.m.length → stampM (t.m.drop i) = R →
      LoopW PP GG 35 0 (loopN F.law9_stamped_c 1) [(1, .ptr 0 0), (4, .p (.int .i64 i))] [.var T.api_Value (.p t.enc)] [] (PostCl 35 K) := by
  rw [Tree.enc_eta t] at h0 hr ⊢
  have hwl := t.wt_ml
  have hel : (Tree.encM t.m).length = t.m.length := Tree.encM_length _
  intro q
  induction q with
  | zero =>
    intro i hi hR
    rw [List.drop_eq_nil_of_le (by omega), stampM] at hR
    refine LoopW.round (pol := polG) mixP ?_
    conv => whnf
    repeat' ((first
     | ((with_reducible first | refine Br.dec ?_ ?_ | refine Br.ndec ?_ ?_) <;> intro hb <;> (try simp only [And.intro @hel (ZZ)] at hb) <;> (first | omega | contradiction | skip))
     | (with_reducible first | refine Br.tt rfl ?_ | refine Br.ff rfl ?_ | refine Br.ff (isEmptyCons _ _) ?_)
     | (refine Side.mk ?_ ?_; focus (first | omega | (dsimp only [InR, Int.reduceToNat, IntKind.bits, Int.reducePow]; omega) | (simp [CC]; done) | (constructor <;> omega)))
     | with_reducible refine Br.not ?_
     | (with_reducible first | refine Br.tt (by assumption) ?_ | refine Br.ff (by assumption) ?_)
     | (refine Br.mk ?_ ?_ <;> intro hb <;> (try simp only [And.intro @hel (ZZ)] at hb) <;> (first | omega | contradiction | skip))
     | refine Src.whole ⟨rfl, rfl⟩ ?_ | refine FrzV.whole ?_) <;> conv => whnf)
    · refine PostCl.of (h0 hR.symm) ?_ ?_
      · repeat first | exact trivial | refine ⟨VLe.refl _, ?_⟩
      · repeat first | exact trivial | refine ⟨by decide, ?_⟩
  | succ q ih =>
    intro i hi hR
    obtain ⟨x, hx⟩ : ∃ x, t.m[i]? = some x := ⟨_, List.getElem?_eq_getElem (show i < t.m.length by omega)⟩
    have hsp := hl x (List.mem_of_getElem? hx)
    obtain ⟨k, y⟩ := x
    rw [drop_cons hx, stampM, stampP] at hR
    unfold StampIs at hsp
    simp only [] at hsp
    rw [Tree.enc_eta y] at hsp
    refine LoopW.round (pol := polG) mixP ?_
    conv => whnf
    repeat' ((first
     | ((with_reducible first | refine Br.dec ?_ ?_ | refine Br.ndec ?_ ?_) <;> intro hb <;> (try simp only [And.intro @hel (ZZ)] at hb) <;> (first | omega | contradiction | skip))
     | (with_reducible first | refine Br.tt rfl ?_ | refine Br.ff rfl ?_ | refine Br.ff (isEmptyCons _ _) ?_)
     | (refine Side.mk ?_ ?_; focus (first | omega | (dsimp only [InR, Int.reduceToNat, IntKind.bits, Int.reducePow]; omega) | exact ⟨rfl, rfl⟩ | (simp [CC]; done) | (constructor <;> omega)))
     | with_reducible refine Br.not ?_
     | (with_reducible first | refine Br.tt (by assumption) ?_ | refine Br.ff (by assumption) ?_)
     | (refine Br.mk ?_ ?_ <;> intro hb <;> (try simp only [And.intro @hel (ZZ)] at hb) <;> (first | omega | contradiction | skip))
     | refine Src.whole ⟨rfl, rfl⟩ ?_ | refine FrzV.whole ?_
     | refine CallW.use (hsp) ?_
     | (refine ElemZ.pairE (k := k) (y := y) (by simpa using hx) ?_)) <;> conv => whnf)
    · rw [hb, Bool.true_or] at hR
      refine PostCl.of (hr hR.symm) ?_ ?_
      · repeat first | exact trivial | refine ⟨VLe.refl _, ?_⟩
      · repeat first | exact trivial | refine ⟨by decide, ?_⟩
    · rw [hb, Bool.false_or] at hR
      refine LoopW.sub (ih (i + 1) (by omega) hR) (by repeat first | exact trivial | refine ⟨VLe.refl _, ?_⟩) (by repeat first | exact trivial | refine ⟨by decide, ?_⟩)
theorem law9_stamped : ∀ t : Tree, t.wt ≤ 4000000 → StampIs t := by
  refine Tree.indW fun t hw hl hm => ?_
  have hS := stampT_eq t
  have hlL := stamp_loopL t hw
  have hlM := stamp_loopM t hw
  unfold StampIs
  generalize stampT t = R at hS ⊢
  rw [Tree.enc_eta t] at hlL hlM ⊢
  refine absCall_of (pol := polG) mixP F.law9_stamped_is ?_
  conv => whnf
  repeat' ((first
   | ((with_reducible first | refine Br.dec ?_ ?_ | refine Br.ndec ?_ ?_) <;> intro hb <;> (try simp only [ZZ] at hb) <;> (first | omega | contradiction | skip))
   | (with_reducible first | refine Br.tt rfl ?_ | refine Br.ff rfl ?_ | refine Br.ff (isEmptyCons _ _) ?_)
   | (refine Side.mk ?_ ?_; focus (first | omega | (dsimp only [InR, Int.reduceToNat, IntKind.bits, Int.reducePow]; omega) | (simp [CC]; done) | (constructor <;> omega)))
   | with_reducible refine Br.not ?_
   | (with_reducible first | refine Br.tt (by assumption) ?_ | refine Br.ff (by assumption) ?_)
   | (refine Br.mk ?_ ?_ <;> intro hb <;> (try simp only [ZZ] at hb) <;> (first | omega | contradiction | skip))
   | refine Src.whole ⟨rfl, rfl⟩ ?_ | refine FrzV.whole ?_) <;> conv => whnf)
  · rw [decide_eq_true hb, Bool.true_or] at hS
    exact CLe.retP (by rw [hS])
  · rw [decide_eq_false hb, Bool.false_or] at hS
    refine LoopW.cl ?_
    refine LoopW.sub (hlL (stampL t.l) _ (fun x hx => (hl x hx).2) (fun h => ?_) (fun h => ?_) t.l.length 0 (by omega) rfl) (by repeat first | exact trivial | refine ⟨VLe.refl _, ?_⟩) (by repeat first | exact trivial | refine ⟨by decide, ?_⟩)
    · conv => whnf
      rw [h, Bool.false_or] at hS
      repeat' ((first
       | ((with_reducible first | refine Br.dec ?_ ?_ | refine Br.ndec ?_ ?_) <;> intro hb <;> (try simp only [ZZ] at hb) <;> (first | omega | contradiction | skip))
       | (with_reducible first | refine Br.tt rfl ?_ | refine Br.ff rfl ?_ | refine Br.ff (isEmptyCons _ _) ?_)
       | (refine Side.mk ?_ ?_; focus (first | omega | (dsimp only [InR, Int.reduceToNat, IntKind.bits, Int.reducePow]; omega) | (simp [CC]; done) | (constructor <;> omega)))
       | with_reducible refine Br.not ?_
       | (with_reducible first | refine Br.tt (by assumption) ?_ | refine Br.ff (by assumption) ?_)
       | (refine Br.mk ?_ ?_ <;> intro hb <;> (try simp only [ZZ] at hb) <;> (first | omega | contradiction | skip))
       | refine Src.whole ⟨rfl, rfl⟩ ?_ | refine FrzV.whole ?_) <;> conv => whnf)
      refine LoopW.cl ?_
      refine LoopW.sub (hlM R _ (fun x hx => (hm x hx).2.2) (fun h => ?_) (fun h => ?_) t.m.length 0 (by omega) hS.symm) (by repeat first | exact trivial | refine ⟨VLe.refl _, ?_⟩) (by repeat first | exact trivial | refine ⟨by decide, ?_⟩)
      · conv => whnf
        exact CLe.retP (by rw [h])
      · conv => whnf
        exact CLe.retP (by rw [h])
    · conv => whnf
      rw [h, Bool.true_or] at hS
      exact CLe.retP (by rw [hS])
end Go.Proofs.YtaoejccgdpppgaaGreatDoor
end

section
namespace Go.Am
open Go
inductive Vd : Str → Prop
  | nil : Vd []
  | step {c : UInt8} {cs : Str} (h : (utfTake (c :: cs)).2 ≠ 0) (r : Vd ((c :: cs).drop (stepN (c :: cs)))) : Vd (c :: cs)
theorem stepN_of {s : Str} (h : (utfTake s).2 ≠ 0) : stepN s = (utfTake s).2.toNat := by unfold stepN; have := utfTake_n s; omega
theorem vd_of_scan : ∀ (q : Nat) (s : Str), s.length ≤ q → (utfScan q s 0).2 = true → Vd s
  | _, [], _, _ => .nil
  | 0, c :: cs, h, _ => by simp at h
  | q + 1, c :: cs, h, hs => by
    obtain ⟨h0, h1⟩ := scan_cons hs
    have := stepN_pos (c :: cs)
    exact .step h0 (vd_of_scan q _ (by rw [List.length_drop]; simp only [List.length_cons] at h ⊢; omega) h1)
theorem scan_of_vd {s : Str} (h : Vd s) : ∀ (q : Nat) (p : Int), (utfScan q s p).2 = true := by
  induction h with
  | nil => intro q p; cases q <;> rfl
  | @step c cs h r ih =>
    intro q p
    cases q with
    | zero => rfl
    | succ q =>
      unfold utfScan
      simp only []
      rw [if_neg h, ← stepN_of h]
      exact ih q _
theorem vd_valid {s : Str} (h : (utfValid s).2 = true) : Vd s := vd_of_scan _ _ (Nat.le_refl _) h
theorem valid_vd {s : Str} (h : Vd s) : (utfValid s).2 = true := scan_of_vd h _ _
theorem vd_str {s : Str} (h : strOk s = true) : Vd s := by
  unfold strOk at h
  rw [Bool.and_eq_true] at h
  exact vd_valid h.2
theorem Vd.app {s r : Str} (h : Vd s) (g : Vd r) : Vd (s ++ r) := by
  induction h with
  | nil => exact g
  | @step c cs h0 _ ih =>
    have e := utfTake_app r h0
    rw [List.cons_append] at e ⊢
    have hle := stepN_le c cs
    have e2 : stepN (c :: (cs ++ r)) = stepN (c :: cs) := by unfold stepN; rw [e]
    refine .step (by rw [e]; exact h0) ?_
    rw [e2, ← List.cons_append, List.drop_append_of_le_length hle]
    exact ih
theorem vd_low {c : UInt8} {s : Str} (hc : c.toNat < 128) (h : Vd s) : Vd (c :: s) := by
  have e := take_low hc s
  refine .step (by rw [e]; simp) ?_
  have : stepN (c :: s) = 1 := by unfold stepN; rw [e]; rfl
  rw [this]
  exact h
theorem vd_asc {s : Str} (h : ∀ b ∈ s, b.toNat < 128) : Vd s := by
  induction s with
  | nil => exact .nil
  | cons c s ih => exact vd_low (h c (by simp)) (ih fun b hb => h b (by simp [hb]))
theorem vd_one {c : UInt8} {cs : Str} (h : (utfTake (c :: cs)).2 ≠ 0) : Vd ((c :: cs).take (stepN (c :: cs))) := by
  have hp := utfTake_pre c cs
  have h1 := stepN_pos (c :: cs)
  obtain ⟨m, hm⟩ : ∃ m, stepN (c :: cs) = m + 1 := ⟨stepN (c :: cs) - 1, by omega⟩
  rw [hm, List.take_succ_cons] at hp ⊢
  have hs : stepN (c :: cs.take m) = stepN (c :: cs) := by unfold stepN; rw [hp]
  refine .step (by rw [hp]; exact h) ?_
  rw [hs, hm, List.drop_eq_nil_of_le (by simp only [List.length_cons, List.length_take]; omega)]
  exact .nil
theorem vd_unit {c : UInt8} {cs : Str} (h : (utfTake (c :: cs)).2 ≠ 0) : Vd (unitL (c :: cs)) := by
  rcases unit_form c cs h with ⟨hc, _, e⟩ | ⟨_, e, _⟩
  · rw [e]
    refine vd_asc ?_
    have key : ∀ k : Nat, k < 128 → ∀ b ∈ q1 (UInt8.ofNat k), b.toNat < 128 := by decide +kernel
    have := key c.toNat hc
    rwa [u8_of] at this
  · rw [e]; exact vd_one h
theorem vd_quoteL {s : Str} (h : Vd s) : ∀ q, Vd (quoteL q s) := by
  induction h with
  | nil => intro q; cases q <;> exact .nil
  | @step c cs h0 _ ih =>
    intro q
    cases q with
    | zero => exact .nil
    | succ q => exact (vd_unit h0).app (ih q)
theorem vd_quote {s : Str} (h : strOk s = true) : Vd (quoteS s) := vd_low (c := 34) (by decide) ((vd_quoteL (vd_str h) _).app (vd_asc (by decide)))
theorem vd_nc {s : Str} (h : Nc s) : Vd s := vd_asc fun b hb => by
  have := h b hb
  unfold numCh at this
  have := of_decide_eq_true this
  omega
theorem vd_line (d : Int) : Vd (lineL d) := by
  refine vd_asc ?_
  unfold lineL
  split
  · simp
  · intro b hb
    rcases List.mem_cons.1 hb with rfl | hb
    · decide
    · have : ∀ n : Nat, ∀ b ∈ Lib.repeatL [32, 32] n, b = 32 := by
        intro n
        induction n with
        | zero => simp [Lib.repeatL]
        | succ n ih =>
          intro b hb
          rcases List.mem_append.1 (show b ∈ [32, 32] ++ Lib.repeatL [32, 32] n from hb) with hb | hb
          · simpa using hb
          · exact ih b hb
      rw [this _ b hb]; decide
theorem vd_colon (d : Int) : Vd (colonL d) := by
  refine vd_asc ?_
  unfold colonL
  split <;> decide
theorem vd_printL (d : Int) : ∀ (l : List Tree) (f : Bool), (∀ x ∈ l, ∀ d, Vd (printT x d)) → Vd (printL f l d)
  | [], _, _ => .nil
  | x :: l, f, h => by
    rw [printL]
    refine Vd.app ?_ ((vd_line d).app ((h x (by simp) d).app (vd_printL d l false fun y hy => h y (by simp [hy]))))
    split
    · exact .nil
    · exact vd_asc (by decide)
theorem vd_printM (d : Int) : ∀ (l : List (Str × Tree)) (f : Bool), (∀ x ∈ l, strOk x.1 = true ∧ ∀ d, Vd (printT x.2 d)) → Vd (printM f l d)
  | [], _, _ => .nil
  | (k, x) :: l, f, h => by
    obtain ⟨h1, h2⟩ := h (k, x) (by simp)
    rw [printM, printP]
    refine Vd.app ?_ ((vd_line d).app (((vd_quote h1).app ((vd_colon d).app (h2 d))).app (vd_printM d l false fun y hy => h y (by simp [hy]))))
    split
    · exact .nil
    · exact vd_asc (by decide)
theorem vd_print : ∀ t : Tree, goodT t = true → ∀ d, Vd (printT t d) := by
  refine Tree.ind fun t hl hm hg d => ?_
  obtain ⟨h1, h2, hr, gl, gm⟩ := goodT_spec hg
  rw [printT_eq]
  split
  · exact vd_asc (by decide)
  split
  · split <;> exact vd_asc (by decide)
  split
  · exact vd_nc (nc_itoa _)
  split
  · rename_i hk
    rw [hk] at h2
    unfold nodeOk at h2
    rw [if_neg (by omega), if_neg (by omega), if_pos rfl, Bool.and_eq_true] at h2
    exact vd_nc (nc_num h2.1)
  split
  · rename_i hk
    refine vd_quote ?_
    rcases hk with hk | hk
    · rw [hk] at h2
      unfold nodeOk at h2
      rwa [if_neg (by omega), if_neg (by omega), if_neg (by omega), if_pos rfl] at h2
    · rw [hk] at h2
      unfold nodeOk at h2
      rw [if_neg (by omega), if_neg (by omega), if_neg (by omega), if_neg (by omega), if_pos rfl] at h2
      exact stamp_str h2
  split
  · split
    · exact vd_asc (by decide)
    · exact vd_low (by decide) ((vd_printM _ _ _ fun x hx => ⟨(gm x hx).1, hm x hx (gm x hx).2⟩).app ((vd_line d).app (vd_asc (by decide))))
  · split
    · exact vd_asc (by decide)
    · exact vd_low (by decide) ((vd_printL _ _ _ fun x hx => hl x hx (gl x hx)).app ((vd_line d).app (vd_asc (by decide))))
theorem Ge.le {n m : Nat} {s : Str} (h : Ge n s) (hm : m ≤ n) : Ge m s := fun b hb => Nat.le_trans hm (h b hb)
theorem steep_nodes : ∀ (t : Tree) (d n : Int), 0 ≤ n → (steep t d n).1 = false → t.nodes + (steep t d n).2 = n ∧ t.depth ≤ d := by
  have hL : ∀ (l : List Tree), (∀ x ∈ l, ∀ d n : Int, 0 ≤ n → (steep x d n).1 = false → x.nodes + (steep x d n).2 = n ∧ x.depth ≤ d) → ∀ d n : Int, 0 ≤ n → 0 ≤ d → (steepL l d n).1 = false → Tree.nodesL l + (steepL l d n).2 = n ∧ Tree.depthL l ≤ d := by
    intro l
    induction l with
    | nil => intro _ d n _ hd _; simp [steepL, Tree.nodesL, Tree.depthL, hd]
    | cons x l ih =>
      intro h d n hn hd hs
      rw [steepL_cons] at hs ⊢
      split at hs
      · simp at hs
      · rename_i h1
        rw [if_neg h1]
        have h2 := h x (by simp) d n hn (by simpa using h1)
        have h3 := ih (fun y hy => h y (by simp [hy])) d (steep x d n).2 (steep_ok x d n hn).1 hd hs
        simp only [Tree.nodesL, Tree.depthL]
        omega
  have hM : ∀ (l : List (Str × Tree)), (∀ x ∈ l, ∀ d n : Int, 0 ≤ n → (steep x.2 d n).1 = false → x.2.nodes + (steep x.2 d n).2 = n ∧ x.2.depth ≤ d) → ∀ d n : Int, 0 ≤ n → 0 ≤ d → (steepM l d n).1 = false → Tree.nodesM l + (steepM l d n).2 = n ∧ Tree.depthM l ≤ d := by
    intro l
    induction l with
    | nil => intro _ d n _ hd _; simp [steepM, Tree.nodesM, Tree.depthM, hd]
    | cons x l ih =>
      intro h d n hn hd hs
      rw [steepM_cons] at hs ⊢
      split at hs
      · simp at hs
      · rename_i h1
        rw [if_neg h1]
        have h2 := h x (by simp) d n hn (by simpa using h1)
        have h3 := ih (fun y hy => h y (by simp [hy])) d (steep x.2 d n).2 (steep_ok x.2 d n hn).1 hd hs
        obtain ⟨k, x⟩ := x
        simp only [Tree.nodesM, Tree.depthM, Tree.nodesP, Tree.depthP] at *
        omega
  refine Tree.ind fun t hl hm d n hn hs => ?_
  obtain ⟨k, z, s, l, m⟩ := t
  rw [steep_mk] at hs ⊢
  split at hs
  · simp at hs
  rename_i h0
  rw [if_neg h0]
  split at hs
  · simp at hs
  rename_i h1
  rw [if_neg h1]
  have ok1 : 0 ≤ (steepL l (d - 1) (n - 1)).2 := (steepL_ok (fun t _ d n hn => steep_ok t d n hn) (d - 1) (n - 1) (by omega)).1
  have h2 := hL l hl (d - 1) (n - 1) (by omega) (by omega) (by simpa using h1)
  have h3 := hM m hm (d - 1) _ ok1 (by omega) hs
  simp only [Tree.nodes, Tree.depth]
  omega
theorem parse_print {t : Tree} (hg : goodT t = true) (d : Int) (hlen : (printT t d).length ≤ 65536) (hn : t.nodes ≤ 4096) (hd : t.depth ≤ 32) : parseS (printT t d) = (unst t, 0, 0) := by
  have hv := valid_vd (vd_print t hg d)
  have hne : printT t d ≠ [] := printT_ne hg d
  have hsk : skipB (printT t d) = printT t d := by have := print_skip hg d []; rwa [List.append_nil] at this
  have hwz : whileL (printT t d) blanksB = 0 := by
    have h1 := skip_drop (printT t d)
    rw [hsk] at h1
    have h2 := congrArg List.length h1
    rw [List.length_drop] at h2
    have : 0 < (printT t d).length := List.length_pos_iff.2 hne
    omega
  have hlx := lex_tree t d [] [] hg (.inl rfl) .nil
  rw [List.append_nil, List.append_nil] at hlx
  have hj : judgeS (printT t d) = (0, 0) := by
    unfold judgeS
    rw [if_neg (by omega), if_neg (by rw [hv]; decide)]
  obtain ⟨l, hc, hl⟩ := cutL_lexes hlx ((printT t d).length + 1) (printT t d) 0 [] rfl (by omega) (by omega)
  have hcut : cutT (printT t d) = (l ++ [⟨0, [], (printT t d).length⟩], 0, 0) := by
    unfold cutT
    rw [hj, if_neg (by decide), hwz, hc, if_neg (by simp), List.nil_append]
  unfold parseS
  rw [hcut, if_pos rfl]
  unfold wholeS
  have hll : l.length = (wordsT t).length := by rw [← hl, List.length_map]
  have hr := read_tree t (3 * (l ++ [(⟨0, [], (printT t d).length⟩ : Wd)]).length + 1) (l ++ [⟨0, [], (printT t d).length⟩]) 1 0 0 [(0, [])] hg (by simp [hl, kp]) (by rw [List.length_append]; omega) (by omega) (by omega)
  rw [hr]
  simp only []
  have hat : wdAt (l ++ [(⟨0, [], (printT t d).length⟩ : Wd)]) (0 + (wordsT t).length) = ⟨0, [], (printT t d).length⟩ := by
    unfold wdAt
    rw [Nat.zero_add, ← hll]
    simp
  rw [hat, if_pos rfl]
theorem unst_id : ∀ t : Tree, stampT t = false → unst t = t := by
  have hL : ∀ l : List Tree, (∀ x ∈ l, unst x = x) → unstL l = l := by
    intro l
    induction l with
    | nil => intro _; rfl
    | cons x l ih => intro h; rw [unstL, h x (by simp), ih fun y hy => h y (by simp [hy])]
  have hM : ∀ l : List (Str × Tree), (∀ x ∈ l, unst x.2 = x.2) → unstM l = l := by
    intro l
    induction l with
    | nil => intro _; rfl
    | cons x l ih =>
      intro h
      obtain ⟨k, y⟩ := x
      rw [unstM, unstP, h (k, y) (by simp), ih fun y hy => h y (by simp [hy])]
  refine Tree.ind fun t hl hm h => ?_
  obtain ⟨h1, h2, h3⟩ := stampT_spec h
  rw [unst_eq, if_neg h1, hL t.l fun x hx => hl x hx (h2 x hx), hM t.m fun x hx => hm x hx (h3 x hx)]
  exact t.eta.symm
end Go.Am
end

section
namespace Go.Proofs.YtaoejccgdpppgaaGreatDoor
open Go Go.Am
set_option maxRecDepth 100000
theorem law9_JprintBack (t : Tree) (hw : t.wt ≤ 1100000) (ho : okT t = true) : AbsCall PP GG F.law9_JprintBack [.p t.enc] [] ⟨.ret (.p (.bool true)), [], []⟩ := by
  have hC := jprint_Compact t hw ho
  have hI := jprint_Indent t hw ho
  rw [textT_eq] at hC hI
  have hH := ref1_Heavy t 300 32 (by omega) (by omega) (by omega)
  have hV := ref1_Value t (by omega)
  have hS := law9_stamped t (by omega)
  unfold StampIs at hS
  have hSm := ref1_Same t (by omega) t (by omega)
  rw [(sameT_iff t t).2 rfl] at hSm
  cases hh : (steep t 32 300).1 with
  | true =>
    rw [hh] at hH
    rw [Tree.enc_eta t] at hH ⊢
    refine absCall_of (pol := polG) mixP F.law9_JprintBack_is ?_
    conv => whnf
    repeat' ((first
     | ((with_reducible first | refine Br.dec ?_ ?_ | refine Br.ndec ?_ ?_) <;> intro hb <;> (try simp only [ZZ] at hb) <;> (first | omega | contradiction | skip))
     | (with_reducible first | refine Br.tt rfl ?_ | refine Br.ff rfl ?_ | refine Br.ff (isEmptyCons _ _) ?_)
     | (refine Side.mk ?_ ?_; focus (first | omega | (dsimp only [InR, Int.reduceToNat, IntKind.bits, Int.reducePow]; omega) | (simp [CC]; done) | (constructor <;> omega)))
     | with_reducible refine Br.not ?_
     | (with_reducible first | refine Br.tt (by assumption) ?_ | refine Br.ff (by assumption) ?_)
     | (refine Br.mk ?_ ?_ <;> intro hb <;> (try simp only [ZZ] at hb) <;> (first | omega | contradiction | skip))
     | refine Src.whole ⟨rfl, rfl⟩ ?_ | refine FrzV.whole ?_
     | refine CallW.use (law9_awake) ?_
     | refine CallW.use (hH) ?_) <;> conv => whnf)
    all_goals exact CLe.retP rfl
  | false =>
  rw [hh] at hH
  cases hg : (!(steep t 32 4096).1 && plainT t) with
  | false =>
    rw [hg] at hV
    rw [Tree.enc_eta t] at hH hV ⊢
    refine absCall_of (pol := polG) mixP F.law9_JprintBack_is ?_
    conv => whnf
    repeat' ((first
     | ((with_reducible first | refine Br.dec ?_ ?_ | refine Br.ndec ?_ ?_) <;> intro hb <;> (try simp only [ZZ] at hb) <;> (first | omega | contradiction | skip))
     | (with_reducible first | refine Br.tt rfl ?_ | refine Br.ff rfl ?_ | refine Br.ff (isEmptyCons _ _) ?_)
     | (refine Side.mk ?_ ?_; focus (first | omega | (dsimp only [InR, Int.reduceToNat, IntKind.bits, Int.reducePow]; omega) | (simp [CC]; done) | (constructor <;> omega)))
     | with_reducible refine Br.not ?_
     | (with_reducible first | refine Br.tt (by assumption) ?_ | refine Br.ff (by assumption) ?_)
     | (refine Br.mk ?_ ?_ <;> intro hb <;> (try simp only [ZZ] at hb) <;> (first | omega | contradiction | skip))
     | refine Src.whole ⟨rfl, rfl⟩ ?_ | refine FrzV.whole ?_
     | refine CallW.use (law9_awake) ?_
     | refine CallW.use (hH) ?_
     | refine CallW.use (hV) ?_) <;> conv => whnf)
    all_goals exact CLe.retP rfl
  | true =>
  rw [hg] at hC hI hV
  rw [if_pos rfl] at hC hI
  cases hs : stampT t with
  | true =>
    rw [hs] at hS
    rw [Tree.enc_eta t] at hH hV hS ⊢
    refine absCall_of (pol := polG) mixP F.law9_JprintBack_is ?_
    conv => whnf
    repeat' ((first
     | ((with_reducible first | refine Br.dec ?_ ?_ | refine Br.ndec ?_ ?_) <;> intro hb <;> (try simp only [ZZ] at hb) <;> (first | omega | contradiction | skip))
     | (with_reducible first | refine Br.tt rfl ?_ | refine Br.ff rfl ?_ | refine Br.ff (isEmptyCons _ _) ?_)
     | (refine Side.mk ?_ ?_; focus (first | omega | (dsimp only [InR, Int.reduceToNat, IntKind.bits, Int.reducePow]; omega) | (simp [CC]; done) | (constructor <;> omega)))
     | with_reducible refine Br.not ?_
     | (with_reducible first | refine Br.tt (by assumption) ?_ | refine Br.ff (by assumption) ?_)
     | (refine Br.mk ?_ ?_ <;> intro hb <;> (try simp only [ZZ] at hb) <;> (first | omega | contradiction | skip))
     | refine Src.whole ⟨rfl, rfl⟩ ?_ | refine FrzV.whole ?_
     | refine CallW.use (law9_awake) ?_
     | refine CallW.use (hH) ?_
     | refine CallW.use (hV) ?_
     | refine CallW.use (hS) ?_) <;> conv => whnf)
    all_goals exact CLe.retP rfl
  | false =>
    rw [hs] at hS
    rw [Bool.and_eq_true] at hg
    have hgt : goodT t = true := by unfold goodT; rw [hg.2, ho]; rfl
    have hst := steep_nodes t 32 300 (by omega) hh
    have hso := (steep_ok t 32 300 (by omega)).1
    have hpp := fun d h => parse_print hgt d h (by omega) (by omega)
    rw [unst_id t hs] at hpp
    have hwp := t.wt_pos
    have hl1 := printT_len t (by omega) (-1) (by omega) hgt (by omega)
    have hl2 := printT_len t (by omega) 0 (by omega) hgt (by omega)
    rw [show dd false 0 = -1 from rfl] at hC
    rw [show dd true 0 = 0 from rfl] at hI
    have hp1 := hpp (-1)
    have hp2 := hpp 0
    generalize printT t (-1) = x1 at *
    generalize printT t 0 = x2 at *
    by_cases hL : x1.length ≤ 65536 ∧ x2.length ≤ 65536
    · have hP1 := jread_Parse x1 (by omega)
      have hP2 := jread_Parse x2 (by omega)
      rw [hp1 hL.1, show faultE x1 (0, 0) = noFault from rfl] at hP1
      rw [hp2 hL.2, show faultE x2 (0, 0) = noFault from rfl] at hP2
      obtain ⟨hL1, hL2⟩ := hL
      rw [Tree.enc_eta t] at hC hI hH hV hS hSm hP1 hP2 ⊢
      refine absCall_of (pol := polG) mixP F.law9_JprintBack_is ?_
      conv => whnf
      repeat' ((first
       | ((with_reducible first | refine Br.dec ?_ ?_ | refine Br.ndec ?_ ?_) <;> intro hb <;> (try simp only [ZZ] at hb) <;> (first | omega | contradiction | skip))
       | (with_reducible first | refine Br.tt rfl ?_ | refine Br.ff rfl ?_ | refine Br.ff (isEmptyCons _ _) ?_)
       | (refine Side.mk ?_ ?_; focus (first | omega | (dsimp only [InR, Int.reduceToNat, IntKind.bits, Int.reducePow]; omega) | (simp [CC]; done) | (constructor <;> omega)))
       | with_reducible refine Br.not ?_
       | (with_reducible first | refine Br.tt (by assumption) ?_ | refine Br.ff (by assumption) ?_)
       | (refine Br.mk ?_ ?_ <;> intro hb <;> (try simp only [ZZ] at hb) <;> (first | omega | contradiction | skip))
       | refine Src.whole ⟨rfl, rfl⟩ ?_ | refine FrzV.whole ?_
       | refine CallW.use (law9_awake) ?_
       | refine CallW.use (hH) ?_
       | refine CallW.use (hV) ?_
       | refine CallW.use (hS) ?_
       | refine CallW.use (hC) ?_
       | refine CallW.use (hI) ?_
       | refine CallW.use (hP1) ?_
       | refine CallW.use (hP2) ?_
       | refine CallW.use (hSm) ?_) <;> conv => whnf)
      all_goals
        first
        | exact CLe.retP rfl
        | (refine CLe.retP ?_; (simp; done))
    · rw [Tree.enc_eta t] at hC hI hH hV hS ⊢
      refine absCall_of (pol := polG) mixP F.law9_JprintBack_is ?_
      conv => whnf
      repeat' ((first
       | ((with_reducible first | refine Br.dec ?_ ?_ | refine Br.ndec ?_ ?_) <;> intro hb <;> (try simp only [ZZ] at hb) <;> (first | omega | contradiction | skip))
       | (with_reducible first | refine Br.tt rfl ?_ | refine Br.ff rfl ?_ | refine Br.ff (isEmptyCons _ _) ?_)
       | (refine Side.mk ?_ ?_; focus (first | omega | (dsimp only [InR, Int.reduceToNat, IntKind.bits, Int.reducePow]; omega) | (simp [CC]; done) | (constructor <;> omega)))
       | with_reducible refine Br.not ?_
       | (with_reducible first | refine Br.tt (by assumption) ?_ | refine Br.ff (by assumption) ?_)
       | (refine Br.mk ?_ ?_ <;> intro hb <;> (try simp only [ZZ] at hb) <;> (first | omega | contradiction | skip))
       | refine Src.whole ⟨rfl, rfl⟩ ?_ | refine FrzV.whole ?_
       | refine CallW.use (law9_awake) ?_
       | refine CallW.use (hH) ?_
       | refine CallW.use (hV) ?_
       | refine CallW.use (hS) ?_
       | refine CallW.use (hC) ?_
       | refine CallW.use (hI) ?_) <;> conv => whnf)
      all_goals
        first
        | exact CLe.retP rfl
        | exact absurd ⟨by omega, by omega⟩ hL
end Go.Proofs.YtaoejccgdpppgaaGreatDoor
end

section
namespace Go.Proofs.YtaoejccgdpppgaaGreatDoor
open Go.ChangeShapes Go.WideShapes Go.ChangeAt Go.RowKit Go.Am
set_option maxRecDepth 100000
theorem jprintBack_contract (H : Type) (enc : TypeId × Value → H) (W : World) (args : Array Value) (ds gs : List (DataW H)) (before : List MemPlace)
    (hW : DataW.Whole enc PP Tryz.f7.params.toList Rows.jprintBackSpec.vars false W args.toList ds gs before) (hL : laidMetH PP Rows.jprintBackRow.laid W) (hk : Rows.uptoBulkAll ds ≤ 1048576) :
    Calls PP F.law9_JprintBack args W fun e W' => ∃ v, e = .returned v ∧ Rows.jprintBackSpec.post enc PP Tryz.f7 false true false false W args v W' := by
  have hW' := hW
  have hlt := hW.lt
  obtain ⟨p, q, hA0, hV, rfl, hfz, hnd⟩ := hW
  have hA : DataW.TrodAll enc PP W 0 (fun _ => true) true Tryz.f7.params.toList args.toList ds p := hA0
  rw [Tryz.params7] at hA
  obtain ⟨v0, vs0, d0, ds0, p0, q0, hargs, rfl, rfl, h0, r0⟩ := trodAll_cons hA
  obtain ⟨rfl, rfl, rfl⟩ := trodAll_nil r0
  obtain rfl : args = #[v0] := by cases args; simp_all
  obtain ⟨rfl, rfl⟩ := trodVars_none hV
  clear hA0
  simp only [List.append_nil] at hW' hlt
  simp only [Rows.uptoBulkAll] at hk
  obtain ⟨t0, hr0, hok0, hwt0⟩ := tree_rel h0
  refine (law_call (f := F.law9_JprintBack) (ds := [t0.enc]) (vs := [v0]) Tryz.func7 (by kernel_rfl) rfl (fun i x y hx hy => ?_) (gok_of hL (by rw [pow10_lit]; rfl) rfl rfl) (law9_JprintBack t0 (by omega) hok0)).mono fun e W' ⟨he, hb⟩ => ?_
  · rcases i with _ | i
    · cases hx; cases hy; exact hr0
    · simp at hx
  · subst he
    have b := Tryz.underlying4
    exact ⟨_, rfl, post_of_below (pa := p0) (pv := []) hW' (fun _ _ _ => trodAll_cons_mk (shut_bool b _) trodAll_mk0)
      (fun sp hs => trodAll_mk1 (tree_stays h0 hb (fun x hx => hlt x (by simp [hx])) (fun x hx => hs x (by simp [hx]))))
      (fun _ _ => rfl) (by simp) hb (ok_one (by kernel_rfl) rfl (okWide_bool_mk b _))⟩
theorem jprintBack_reads (os : Os) {H : Type} (enc : TypeId × Value → H) : ∃ places, DataW.whole enc PP ((World.laidAll PP os Rows.jprintBackUptoRow.laid).forCall (fun _ _ => 0) ⟨#[], #[nullV], []⟩).memory Tryz.f7.params.toList Rows.jprintBackSpec.vars false (#[nullV] : Array Value).toList 8 = some ([nullD], [], places) :=
  ⟨[], by kernel_rfl⟩
theorem jprintBack_lifted (os : Os) (started : os.Started) (H : Type) (enc : TypeId × Value → H) (Fi : Stop.Interp) :
    ReturnsInHanded {} Tryz.checked os F.law9_JprintBack .any ((Rows.OpenSpec.upto Rows.jprintBackSpec).preRow enc PP Tryz.f7 Rows.jprintBackUptoRow.domain false Rows.jprintBackUptoRow.laid) (((Rows.OpenSpec.upto Rows.jprintBackSpec).at Fi).post enc PP Tryz.f7 false true false false) := by
  obtain ⟨places, hx⟩ := jprintBack_reads os enc
  refine returnsInHanded_of_row (C := Tryz.checked) (s := Rows.OpenSpec.upto Rows.jprintBackSpec) own started (by kernel_rfl) Tryz.func7
    (witness_row_atRef (enc := enc) (C := Tryz.checked) false (World.laidAll PP os Rows.jprintBackUptoRow.laid) #[nullV] (World.laidAll_os _ _ _) (by kernel_rfl) (by kernel_rfl) (by kernel_rfl)
      (OpenSpec.preRow_of_cond 8 hx (by kernel_rfl) (fun k hk => by cases hk; kernel_rfl) (by kernel_rfl) (laidMet_laidAll _ (by kernel_rfl) (by kernel_rfl)))) ?_
  intro W base args ds gs before hval hW _ hcond _ hL _ _
  have hk := of_decide_eq_true (hcond _ rfl)
  refine jprintBack_contract H enc W args ds gs before hW hL (Nat.le_trans ?_ hk)
  rw [bulk_append]
  exact Nat.le_add_right _ _
theorem jprintBack_said : Rows.JprintBackUptoSaid :=
  OpenClaim.holds_of_cond F.law9_JprintBack Tryz.f7 rfl rfl rfl rfl rfl rfl rfl ⟨rfl, rfl, rfl, rfl, rfl⟩ rfl rfl rfl rfl rfl (by kernel_rfl) Tryz.func7 (by kernel_rfl)
    (of_decide_eq_true (by kernel_rfl)) (by unfold Func.isWrapper; first | (rw [if_pos (by decide +kernel)]; kernel_rfl) | (rw [if_neg (by decide +kernel)]; exact ⟨rfl, rfl⟩))
    (fun os started H enc _ Fi => by rw [OpenClaim.pre_eq_preRow]; exact jprintBack_lifted os started H enc Fi)
theorem jprintBack_plain (f : FuncId) (fn : Func) (hf : Tryz.pinned.checked.prog.funcNamed "dragoman/dragomanlaw9.JprintBack" = some f) (hfn : Tryz.pinned.checked.prog.funcs[f]? = some fn) :
    true = Tryz.pinned.checked.prog.looks [] ∧ ∀ (j : Nat) t, fn.params[j]? = some t → Tryz.pinned.checked.prog.wantsStandIn t = false := by
  obtain rfl : f = F.law9_JprintBack := Option.some.inj ((show PP.funcNamed "dragoman/dragomanlaw9.JprintBack" = some F.law9_JprintBack by kernel_rfl).symm.trans hf) |>.symm
  obtain rfl : fn = Tryz.f7 := (Option.some.inj (Tryz.func7.symm.trans hfn)).symm
  refine ⟨by kernel_rfl, fun j t ht => ?_⟩
  rw [Tryz.params7] at ht
  obtain rfl : t = T.api_Value := by simpa using Array.mem_of_getElem? ht
  exact (show PP.wantsStandIn T.api_Value = false by kernel_rfl)
theorem jprintBack_card : Rows.JprintBackUptoCardSaid :=
  Claim7.holds_tied_plain_at .later [] _ _ _ _ jprintBack_said (fun _ h => by cases h) (by kernel_rfl) (fun _ h => by cases h) jprintBackUpto_row_tie rfl ⟨rfl, rfl⟩ (by kernel_rfl) rfl jprintBack_plain (by kernel_rfl)
end Go.Proofs.YtaoejccgdpppgaaGreatDoor
end
