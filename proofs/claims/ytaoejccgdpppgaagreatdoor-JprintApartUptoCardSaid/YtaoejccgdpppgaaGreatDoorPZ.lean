/-
JprintApart.
The given statement JprintApartUptoCardSaid, proved: for every input of bulk at most 1048576, the law of package dragomanlaw9 called with it returns true and the arguments read as they did. No further condition.
Trees alike, field by field.
The walk through the reference's likeness of trees.
What is written in lines, without blanks and ends of lines, is what is written in one.
One byte, kept or not.
Unlike strings, unlike numbers are written unlike.
Unlike trees without stamps are written unlike.
The statements of layer 9: JprintApart.
The row of JprintApart.
-/
import Derived.Test.YtaoejccgdpppgaaGreatDoorPF
import Derived.Test.YtaoejccgdpppgaaGreatDoorPH
import Derived.Test.YtaoejccgdpppgaaGreatDoorPI
import Derived.Test.YtaoejccgdpppgaaGreatDoorPJ
import Derived.Test.YtaoejccgdpppgaaGreatDoorPK

section
namespace Go.Am
mutual
def sameT : Tree → Tree → Bool
  | .mk k n s l m, .mk k' n' s' l' m' => decide (k = k' ∧ n = n' ∧ l.length = l'.length ∧ m.length = m'.length ∧ s = s') && (sameL l l' && sameM m m')
def sameL : List Tree → List Tree → Bool
  | [], [] => true
  | t :: l, u :: l' => sameT t u && sameL l l'
  | _, _ => false
def sameM : List (Str × Tree) → List (Str × Tree) → Bool
  | [], [] => true
  | p :: m, p' :: m' => sameP p p' && sameM m m'
  | _, _ => false
def sameP : Str × Tree → Str × Tree → Bool
  | (k, t), (k', t') => decide (k = k') && sameT t t'
end
theorem sameT_eq (t u : Tree) : sameT t u = (decide (t.kind = u.kind ∧ t.n = u.n ∧ t.l.length = u.l.length ∧ t.m.length = u.m.length ∧ t.s = u.s) && (sameL t.l u.l && sameM t.m u.m)) := by
  cases t; cases u; rw [sameT]; rfl
theorem sameL_iff : ∀ (l l' : List Tree), (∀ x ∈ l, ∀ u, sameT x u = true ↔ x = u) → (sameL l l' = true ↔ l = l')
  | [], [], _ => by simp [sameL]
  | [], _ :: _, _ => by simp [sameL]
  | _ :: _, [], _ => by simp [sameL]
  | x :: l, y :: l', h => by
    rw [sameL, Bool.and_eq_true, h x (by simp), sameL_iff l l' (fun x hx => h x (by simp [hx]))]
    simp
theorem sameM_iff : ∀ (l l' : List (Str × Tree)), (∀ x ∈ l, ∀ u, sameT x.2 u = true ↔ x.2 = u) → (sameM l l' = true ↔ l = l')
  | [], [], _ => by simp [sameM]
  | [], _ :: _, _ => by simp [sameM]
  | _ :: _, [], _ => by simp [sameM]
  | (k, x) :: l, (k', y) :: l', h => by
    have h1 := h (k, x) (by simp)
    simp only [] at h1
    rw [sameM, sameP, Bool.and_eq_true, Bool.and_eq_true, decide_eq_true_eq, h1, sameM_iff l l' (fun x hx => h x (by simp [hx]))]
    simp
theorem sameT_iff : ∀ (t u : Tree), sameT t u = true ↔ t = u := by
  refine Tree.ind fun t hl hm u => ?_
  rw [sameT_eq, Bool.and_eq_true, Bool.and_eq_true, sameL_iff _ _ hl, sameM_iff _ _ hm, decide_eq_true_eq]
  constructor
  · rintro ⟨⟨h1, h2, _, _, h3⟩, h4, h5⟩
    rw [t.eta, u.eta, h1, h2, h3, h4, h5]
  · rintro rfl
    exact ⟨⟨rfl, rfl, rfl, rfl, rfl⟩, rfl, rfl⟩
end Go.Am
end

section
namespace Go.Proofs.YtaoejccgdpppgaaGreatDoor
open Go Go.Am
set_option maxRecDepth 100000
def SameIs (t : Tree) : Prop := ∀ u : Tree, u.wt ≤ 4000000 → AbsCall PP GG F.ref1_Same [.p t.enc, .p u.enc, .p (.bool false)] [] ⟨.ret (.p (.bool (sameT t u))), [], []⟩
theorem same_loopL (t u : Tree) (hw : t.wt ≤ 4000000) (hu : u.wt ≤ 4000000) (hlen : t.l.length = u.l.length) (R : Bool) (K : Post) (hl : ∀ x ∈ t.l, SameIs x)
    (h0 : R = true → K (.exit 0) [(2, .p (.bool false)), (3, .ptr 0 0), (4, .ptr 1 0)] [.var T.api_Value (.p t.enc), .var T.api_Value (.p u.enc)] [])
    (hr : R = false → K .ret [(6, .p (.bool false))] [.var T.api_Value (.p t.enc), .var T.api_Value (.p u.enc)] []) :
    ∀ (q i : Nat), i + q = t.l.length → sameL (t.l.drop i) (u.l.drop i) = R →
      LoopW PP GG 118 0 (loopN F.ref1_Same_c 0) [(2, .p (.bool false)), (3, .ptr 0 0), (4, .ptr 1 0), (7, .p (.int .i64 i))] [.var T.api_Value (.p t.enc), .var T.api_Value (.p u.enc)] [] (PostCl 118 K) := by
  rw [Tree.enc_eta t, Tree.enc_eta u] at h0 hr ⊢
  have hwl := t.wt_ll
  have hel : (Tree.encL t.l).length = t.l.length := Tree.encL_length _
  intro q
  induction q with
  | zero =>
    intro i hi hR
    rw [List.drop_eq_nil_of_le (by omega), List.drop_eq_nil_of_le (by omega), sameL] at hR
    refine LoopW.round (pol := polG) mixP ?_
    conv => whnf
    repeat' (first
     | ((first | with_reducible refine Br.dec (fun hb => ?_) (fun hb => ?_) | with_reducible refine Br.ndec (fun hb => ?_) (fun hb => ?_)) <;> (try dsimp only at hb) <;> (try simp only [ZZ, hel] at hb) <;> (first | omega | contradiction | (conv => whnf)))
     | ((first | with_reducible refine Br.tt rfl ?_ | with_reducible refine Br.ff rfl ?_ | with_reducible refine Br.ff (isEmptyCons _ _) ?_); conv => whnf)
     | (refine Side.mk ?_ ?_; (focus (first | omega | (dsimp only [InR]; omega) | (dsimp only [Int.reduceToNat, IntKind.bits, Int.reducePow, InR]; omega) | (simp [PV.cells, PV.leaf, byteP]; done) | (constructor <;> omega))); conv => whnf)
     | (with_reducible refine Br.not ?_)
     | ((first | with_reducible refine Br.tt (by assumption) ?_ | with_reducible refine Br.ff (by assumption) ?_); conv => whnf)
     | (refine Br.mk (fun hb => ?_) (fun hb => ?_) <;> (try dsimp only at hb) <;> (try simp only [ZZ, hel] at hb) <;> (first | omega | contradiction | (conv => whnf)))
     | ((first | refine Src.whole ⟨rfl, rfl⟩ ?_ | refine FrzV.whole ?_); conv => whnf))
    · refine PostCl.of (h0 hR.symm) ?_ ?_
      · repeat (first | exact True.intro | refine And.intro (by first | exact VLe.refl _ | fail) ?_)
      · repeat (first | exact True.intro | refine And.intro (by decide) ?_)
  | succ q ih =>
    intro i hi hR
    obtain ⟨x, hx⟩ : ∃ x, t.l[i]? = some x := ⟨_, List.getElem?_eq_getElem (show i < t.l.length by omega)⟩
    obtain ⟨y, hy⟩ : ∃ y, u.l[i]? = some y := ⟨_, List.getElem?_eq_getElem (show i < u.l.length by omega)⟩
    rw [drop_cons hx, drop_cons hy, sameL] at hR
    have hxm : x ∈ t.l := List.mem_of_getElem? hx
    have hym := Tree.wt_l (List.mem_of_getElem? hy)
    have hsp := hl x hxm y (by omega)
    rw [Tree.enc_eta x, Tree.enc_eta y] at hsp
    refine LoopW.round (pol := polG) mixP ?_
    conv => whnf
    repeat' (first
     | ((first | with_reducible refine Br.dec (fun hb => ?_) (fun hb => ?_) | with_reducible refine Br.ndec (fun hb => ?_) (fun hb => ?_)) <;> (try dsimp only at hb) <;> (try simp only [ZZ, hel] at hb) <;> (first | omega | contradiction | (conv => whnf)))
     | ((first | with_reducible refine Br.tt rfl ?_ | with_reducible refine Br.ff rfl ?_ | with_reducible refine Br.ff (isEmptyCons _ _) ?_); conv => whnf)
     | (refine Side.mk ?_ ?_; (focus (first | omega | (dsimp only [InR]; omega) | (dsimp only [Int.reduceToNat, IntKind.bits, Int.reducePow, InR]; omega) | exact ⟨rfl, rfl⟩ | (simp [PV.cells, PV.leaf, byteP]; done) | (constructor <;> omega))); conv => whnf)
     | (with_reducible refine Br.not ?_)
     | ((first | with_reducible refine Br.tt (by assumption) ?_ | with_reducible refine Br.ff (by assumption) ?_); conv => whnf)
     | (refine Br.mk (fun hb => ?_) (fun hb => ?_) <;> (try dsimp only at hb) <;> (try simp only [ZZ, hel] at hb) <;> (first | omega | contradiction | (conv => whnf)))
     | ((first | refine Src.whole ⟨rfl, rfl⟩ ?_ | refine FrzV.whole ?_); conv => whnf)
     | ((first | refine CallW.use (hsp) ?_); conv => whnf)
     | (refine ElemZ.tree (l := t.l) (by simpa using hx) ?_; (rw [Tree.enc_eta x]; conv => whnf))
     | (refine ElemZ.tree (l := u.l) (by simpa using hy) ?_; (rw [Tree.enc_eta y]; conv => whnf)))
    · rw [hb, Bool.true_and] at hR
      refine LoopW.sub (ih (i + 1) (by omega) hR) (by repeat (first | exact True.intro | refine And.intro (by first | exact VLe.refl _ | fail) ?_)) (by repeat (first | exact True.intro | refine And.intro (by decide) ?_))
    · rw [hb, Bool.false_and] at hR
      refine PostCl.of (hr hR.symm) ?_ ?_
      · repeat (first | exact True.intro | refine And.intro (by first | exact VLe.refl _ | fail) ?_)
      · repeat (first | exact True.intro | refine And.intro (by decide) ?_)
theorem same_loopM (t u : Tree) (hw : t.wt ≤ 4000000) (hu : u.wt ≤ 4000000) (hlen : t.m.length = u.m.length) (R : Bool) (K : Post) (hl : ∀ x ∈ t.m, SameIs x.2)
    (h0 : R = true → K (.exit 2) [] [.var T.api_Value (.p t.enc), .var T.api_Value (.p u.enc)] [])
    (hr : R = false → K .ret [(6, .p (.bool false))] [.var T.api_Value (.p t.enc), .var T.api_Value (.p u.enc)] []) :
    ∀ (q i : Nat), i + q = t.m.length → sameM (t.m.drop i) (u.m.drop i) = R →
      LoopW PP GG 118 0 (loopN F.ref1_Same_c 1) [(2, .p (.bool false)), (3, .ptr 0 0), (4, .ptr 1 0), (8, .p (.int .i64 i))] [.var T.api_Value (.p t.enc), .var T.api_Value (.p u.enc)] [] (PostCl 118 K) := by
  rw [Tree.enc_eta t, Tree.enc_eta u] at h0 hr ⊢
  have hwl := t.wt_ml
  have hel : (Tree.encM t.m).length = t.m.length := Tree.encM_length _
  intro q
  induction q with
  | zero =>
    intro i hi hR
    rw [List.drop_eq_nil_of_le (by omega), List.drop_eq_nil_of_le (by omega), sameM] at hR
    refine LoopW.round (pol := polG) mixP ?_
    conv => whnf
    repeat' (first
     | ((first | with_reducible refine Br.dec (fun hb => ?_) (fun hb => ?_) | with_reducible refine Br.ndec (fun hb => ?_) (fun hb => ?_)) <;> (try dsimp only at hb) <;> (try simp only [ZZ, hel] at hb) <;> (first | omega | contradiction | (conv => whnf)))
     | ((first | with_reducible refine Br.tt rfl ?_ | with_reducible refine Br.ff rfl ?_ | with_reducible refine Br.ff (isEmptyCons _ _) ?_); conv => whnf)
     | (refine Side.mk ?_ ?_; (focus (first | omega | (dsimp only [InR]; omega) | (dsimp only [Int.reduceToNat, IntKind.bits, Int.reducePow, InR]; omega) | (simp [PV.cells, PV.leaf, byteP]; done) | (constructor <;> omega))); conv => whnf)
     | (with_reducible refine Br.not ?_)
     | ((first | with_reducible refine Br.tt (by assumption) ?_ | with_reducible refine Br.ff (by assumption) ?_); conv => whnf)
     | (refine Br.mk (fun hb => ?_) (fun hb => ?_) <;> (try dsimp only at hb) <;> (try simp only [ZZ, hel] at hb) <;> (first | omega | contradiction | (conv => whnf)))
     | ((first | refine Src.whole ⟨rfl, rfl⟩ ?_ | refine FrzV.whole ?_); conv => whnf))
    · refine PostCl.of (h0 hR.symm) ?_ ?_
      · repeat (first | exact True.intro | refine And.intro (by first | exact VLe.refl _ | fail) ?_)
      · repeat (first | exact True.intro | refine And.intro (by decide) ?_)
  | succ q ih =>
    intro i hi hR
    obtain ⟨x, hx⟩ : ∃ x, t.m[i]? = some x := ⟨_, List.getElem?_eq_getElem (show i < t.m.length by omega)⟩
    obtain ⟨y, hy⟩ : ∃ y, u.m[i]? = some y := ⟨_, List.getElem?_eq_getElem (show i < u.m.length by omega)⟩
    rw [drop_cons hx, drop_cons hy, sameM] at hR
    have hxm : x ∈ t.m := List.mem_of_getElem? hx
    have hym := Tree.wt_m (List.mem_of_getElem? hy)
    have hsp := hl x hxm y.2 (by omega)
    obtain ⟨k, x⟩ := x
    obtain ⟨k', y⟩ := y
    rw [sameP] at hR
    simp only [] at hsp
    rw [Tree.enc_eta x, Tree.enc_eta y] at hsp
    by_cases hk : k = k'
    · rw [decide_eq_true hk, Bool.true_and] at hR
      refine LoopW.round (pol := polG) mixP ?_
      conv => whnf
      repeat' (first
       | ((first | with_reducible refine Br.dec (fun hb => ?_) (fun hb => ?_) | with_reducible refine Br.ndec (fun hb => ?_) (fun hb => ?_)) <;> (try dsimp only at hb) <;> (try simp only [ZZ, hel] at hb) <;> (first | omega | contradiction | (conv => whnf)))
       | ((first | with_reducible refine Br.tt rfl ?_ | with_reducible refine Br.ff rfl ?_ | with_reducible refine Br.ff (isEmptyCons _ _) ?_); conv => whnf)
       | (refine Side.mk ?_ ?_; (focus (first | omega | (dsimp only [InR]; omega) | (dsimp only [Int.reduceToNat, IntKind.bits, Int.reducePow, InR]; omega) | exact ⟨rfl, rfl⟩ | (simp [PV.cells, PV.leaf, byteP]; done) | (constructor <;> omega))); conv => whnf)
       | (with_reducible refine Br.not ?_)
       | ((first | with_reducible refine Br.tt (by assumption) ?_ | with_reducible refine Br.ff (by assumption) ?_); conv => whnf)
       | (refine Br.mk (fun hb => ?_) (fun hb => ?_) <;> (try dsimp only at hb) <;> (try simp only [ZZ, hel] at hb) <;> (first | omega | contradiction | (conv => whnf)))
       | ((first | refine Src.whole ⟨rfl, rfl⟩ ?_ | refine FrzV.whole ?_); conv => whnf)
       | ((first | refine CallW.use (hsp) ?_); conv => whnf)
       | (refine TabsW.lit F.ref1_Same_t13 (by kernel_rfl) ?_; conv => whnf)
       | (refine ElemZ.pairE (m := t.m) (k := k) (y := x) (by simpa using hx) ?_; conv => whnf)
       | (refine ElemZ.pairE (m := u.m) (k := k') (y := y) (by simpa using hy) ?_; conv => whnf))
      · rw [hb, Bool.true_and] at hR
        refine LoopW.sub (ih (i + 1) (by omega) hR) (by repeat (first | exact True.intro | refine And.intro (by first | exact VLe.refl _ | fail) ?_)) (by repeat (first | exact True.intro | refine And.intro (by decide) ?_))
      · rw [hb, Bool.false_and] at hR
        refine PostCl.of (hr hR.symm) ?_ ?_
        · repeat (first | exact True.intro | refine And.intro (by first | exact VLe.refl _ | fail) ?_)
        · repeat (first | exact True.intro | refine And.intro (by decide) ?_)
    · rw [decide_eq_false hk, Bool.false_and, Bool.false_and] at hR
      refine LoopW.round (pol := polG) mixP ?_
      conv => whnf
      repeat' (first
       | ((first | with_reducible refine Br.dec (fun hb => ?_) (fun hb => ?_) | with_reducible refine Br.ndec (fun hb => ?_) (fun hb => ?_)) <;> (try dsimp only at hb) <;> (try simp only [ZZ, hel] at hb) <;> (first | omega | contradiction | (conv => whnf)))
       | ((first | with_reducible refine Br.tt rfl ?_ | with_reducible refine Br.ff rfl ?_ | with_reducible refine Br.ff (isEmptyCons _ _) ?_); conv => whnf)
       | (refine Side.mk ?_ ?_; (focus (first | omega | (dsimp only [InR]; omega) | (dsimp only [Int.reduceToNat, IntKind.bits, Int.reducePow, InR]; omega) | exact ⟨rfl, rfl⟩ | (simp [PV.cells, PV.leaf, byteP]; done) | (constructor <;> omega))); conv => whnf)
       | (with_reducible refine Br.not ?_)
       | ((first | with_reducible refine Br.tt (by assumption) ?_ | with_reducible refine Br.ff (by assumption) ?_); conv => whnf)
       | (refine Br.mk (fun hb => ?_) (fun hb => ?_) <;> (try dsimp only at hb) <;> (try simp only [ZZ, hel] at hb) <;> (first | omega | contradiction | (conv => whnf)))
       | ((first | refine Src.whole ⟨rfl, rfl⟩ ?_ | refine FrzV.whole ?_); conv => whnf)
       | ((first | refine CallW.use (hsp) ?_); conv => whnf)
       | (refine TabsW.lit F.ref1_Same_t13 (by kernel_rfl) ?_; conv => whnf)
       | (refine ElemZ.pairE (m := t.m) (k := k) (y := x) (by simpa using hx) ?_; conv => whnf)
       | (refine ElemZ.pairE (m := u.m) (k := k') (y := y) (by simpa using hy) ?_; conv => whnf))
      refine PostCl.of (hr hR.symm) ?_ ?_
      · repeat (first | exact True.intro | refine And.intro (by first | exact VLe.refl _ | fail) ?_)
      · repeat (first | exact True.intro | refine And.intro (by decide) ?_)
theorem ref1_Same : ∀ t : Tree, t.wt ≤ 4000000 → SameIs t := by
  refine Tree.indW fun t hw hl hm u hu => ?_
  have hS := sameT_eq t u
  have hlL := same_loopL t u hw hu
  have hlM := same_loopM t u hw hu
  have hel : (Tree.encL t.l).length = t.l.length := Tree.encL_length _
  have hem : (Tree.encM t.m).length = t.m.length := Tree.encM_length _
  have hel2 : (Tree.encL u.l).length = u.l.length := Tree.encL_length _
  have hem2 : (Tree.encM u.m).length = u.m.length := Tree.encM_length _
  generalize sameT t u = R at hS ⊢
  rw [Tree.enc_eta t, Tree.enc_eta u] at hlL hlM ⊢
  by_cases hc : t.kind = u.kind ∧ t.n = u.n ∧ t.l.length = u.l.length ∧ t.m.length = u.m.length ∧ t.s = u.s
  · rw [decide_eq_true hc, Bool.true_and] at hS
    obtain ⟨h1, h2, h3, h4, h5⟩ := hc
    refine absCall_of (pol := polG) mixP F.ref1_Same_is ?_
    conv => whnf
    repeat' (first
     | ((first | with_reducible refine Br.dec (fun hb => ?_) (fun hb => ?_) | with_reducible refine Br.ndec (fun hb => ?_) (fun hb => ?_)) <;> (try dsimp only at hb) <;> (try simp only [ZZ, hel, hem, hel2, hem2] at hb) <;> (first | omega | contradiction | (conv => whnf)))
     | ((first | with_reducible refine Br.tt rfl ?_ | with_reducible refine Br.ff rfl ?_ | with_reducible refine Br.ff (isEmptyCons _ _) ?_); conv => whnf)
     | (refine Side.mk ?_ ?_; (focus (first | omega | (dsimp only [InR]; omega) | (dsimp only [Int.reduceToNat, IntKind.bits, Int.reducePow, InR]; omega) | (simp [PV.cells, PV.leaf, byteP]; done) | (constructor <;> omega))); conv => whnf)
     | (with_reducible refine Br.not ?_)
     | ((first | with_reducible refine Br.tt (by assumption) ?_ | with_reducible refine Br.ff (by assumption) ?_); conv => whnf)
     | (refine Br.mk (fun hb => ?_) (fun hb => ?_) <;> (try dsimp only at hb) <;> (try simp only [ZZ, hel, hem, hel2, hem2] at hb) <;> (first | omega | contradiction | (conv => whnf)))
     | ((first | refine Src.whole ⟨rfl, rfl⟩ ?_ | refine FrzV.whole ?_); conv => whnf)
     | (refine TabsW.lit F.ref1_Same_t1 (by kernel_rfl) ?_; conv => whnf))
    refine LoopW.cl ?_
    refine LoopW.sub (hlL h3 (sameL t.l u.l) _ (fun x hx => (hl x hx).2) (fun h => ?_) (fun h => ?_) t.l.length 0 (by omega) rfl) (by repeat (first | exact True.intro | refine And.intro (by first | exact VLe.refl _ | fail) ?_)) (by repeat (first | exact True.intro | refine And.intro (by decide) ?_))
    · conv => whnf
      rw [h, Bool.true_and] at hS
      repeat' (first
       | ((first | with_reducible refine Br.dec (fun hb => ?_) (fun hb => ?_) | with_reducible refine Br.ndec (fun hb => ?_) (fun hb => ?_)) <;> (try dsimp only at hb) <;> (try simp only [ZZ] at hb) <;> (first | omega | contradiction | (conv => whnf)))
       | ((first | with_reducible refine Br.tt rfl ?_ | with_reducible refine Br.ff rfl ?_ | with_reducible refine Br.ff (isEmptyCons _ _) ?_); conv => whnf)
       | (refine Side.mk ?_ ?_; (focus (first | omega | (dsimp only [InR]; omega) | (dsimp only [Int.reduceToNat, IntKind.bits, Int.reducePow, InR]; omega) | (simp [PV.cells, PV.leaf, byteP]; done) | (constructor <;> omega))); conv => whnf)
       | (with_reducible refine Br.not ?_)
       | ((first | with_reducible refine Br.tt (by assumption) ?_ | with_reducible refine Br.ff (by assumption) ?_); conv => whnf)
       | (refine Br.mk (fun hb => ?_) (fun hb => ?_) <;> (try dsimp only at hb) <;> (try simp only [ZZ] at hb) <;> (first | omega | contradiction | (conv => whnf)))
       | ((first | refine Src.whole ⟨rfl, rfl⟩ ?_ | refine FrzV.whole ?_); conv => whnf))
      refine LoopW.cl ?_
      refine LoopW.sub (hlM h4 R _ (fun x hx => (hm x hx).2.2) (fun h => ?_) (fun h => ?_) t.m.length 0 (by omega) hS.symm) (by repeat (first | exact True.intro | refine And.intro (by first | exact VLe.refl _ | fail) ?_)) (by repeat (first | exact True.intro | refine And.intro (by decide) ?_))
      · conv => whnf
        exact CLe.retP (by rw [h])
      · conv => whnf
        exact CLe.retP (by rw [h])
    · conv => whnf
      rw [h, Bool.false_and] at hS
      exact CLe.retP (by rw [hS])
  · rw [decide_eq_false hc, Bool.false_and] at hS
    subst hS
    refine absCall_of (pol := polG) mixP F.ref1_Same_is ?_
    conv => whnf
    repeat' (first
     | ((first | with_reducible refine Br.dec (fun hb => ?_) (fun hb => ?_) | with_reducible refine Br.ndec (fun hb => ?_) (fun hb => ?_)) <;> (try dsimp only at hb) <;> (try simp only [ZZ, hel, hem, hel2, hem2] at hb) <;> (first | omega | contradiction | (conv => whnf)))
     | ((first | with_reducible refine Br.tt rfl ?_ | with_reducible refine Br.ff rfl ?_ | with_reducible refine Br.ff (isEmptyCons _ _) ?_); conv => whnf)
     | (refine Side.mk ?_ ?_; (focus (first | omega | (dsimp only [InR]; omega) | (dsimp only [Int.reduceToNat, IntKind.bits, Int.reducePow, InR]; omega) | (simp [PV.cells, PV.leaf, byteP]; done) | (constructor <;> omega))); conv => whnf)
     | (with_reducible refine Br.not ?_)
     | ((first | with_reducible refine Br.tt (by assumption) ?_ | with_reducible refine Br.ff (by assumption) ?_); conv => whnf)
     | (refine Br.mk (fun hb => ?_) (fun hb => ?_) <;> (try dsimp only at hb) <;> (try simp only [ZZ, hel, hem, hel2, hem2] at hb) <;> (first | omega | contradiction | (conv => whnf)))
     | ((first | refine Src.whole ⟨rfl, rfl⟩ ?_ | refine FrzV.whole ?_); conv => whnf))
    all_goals first
      | exact CLe.retP rfl
      | exact absurd ⟨by omega, by omega, by omega, by omega, by assumption⟩ hc
end Go.Proofs.YtaoejccgdpppgaaGreatDoor
end

section
namespace Go.Am
open Go
/-- no blank, no end of a line -/
def keepB (b : UInt8) : Bool := !decide ((b.toNat : Int) = 32) && !decide ((b.toNat : Int) = 10)
def sq (s : Str) : Str := s.filter keepB
theorem sq_append (s r : Str) : sq (s ++ r) = sq s ++ sq r := List.filter_append _ _
theorem sq_cons (c : UInt8) (s : Str) : sq (c :: s) = sq [c] ++ sq s := sq_append [c] s
theorem sq_id {s : Str} (h : ∀ b ∈ s, 11 ≤ b.toNat ∧ b.toNat ≠ 32) : sq s = s := by
  unfold sq
  rw [List.filter_eq_self]
  intro b hb
  have := h b hb
  unfold keepB
  rw [decide_eq_false (by omega), decide_eq_false (by omega)]
  rfl
theorem sq_line (d : Int) : sq (lineL d) = [] := by
  unfold lineL
  split
  · rfl
  · unfold sq
    rw [List.filter_eq_nil_iff]
    intro b hb
    rcases List.mem_cons.1 hb with rfl | hb
    · decide
    · generalize d.toNat = n at hb
      induction n with
      | zero => cases hb
      | succ n ih =>
        rw [show Lib.repeatL [32, 32] (n + 1) = [32, 32] ++ Lib.repeatL [32, 32] n from rfl] at hb
        rcases List.mem_append.1 hb with hb | hb
        · simp at hb; subst hb; decide
        · exact ih hb
theorem sq_colon (d : Int) : sq (colonL d) = [58] := by unfold colonL; split <;> decide
/-! ### leaves have no byte below 32 -/
def Ge (n : Nat) (s : Str) : Prop := ∀ b ∈ s, n ≤ b.toNat
theorem Ge.app {n : Nat} {s r : Str} (h1 : Ge n s) (h2 : Ge n r) : Ge n (s ++ r) := fun b hb => (List.mem_append.1 hb).elim (h1 b) (h2 b)
theorem Ge.cons {n : Nat} {c : UInt8} {s : Str} (h1 : n ≤ c.toNat) (h2 : Ge n s) : Ge n (c :: s) := fun b hb => (List.mem_cons.1 hb).elim (fun e => by rw [e]; exact h1) (h2 b)
theorem Ge.nil {n : Nat} : Ge n [] := fun b hb => by cases hb
theorem ge_dig {s : Str} (h : ∀ b ∈ s, dig b = true) : Ge 43 s := fun b hb => by
  have := h b hb
  unfold dig at this
  rw [decide_eq_true_eq] at this
  omega
theorem ge_run {s : Str} (h : Ge 43 (s.drop (runL s))) : Ge 43 s := by
  have := Ge.app (ge_dig (take_dig s)) h
  rwa [List.take_append_drop] at this
theorem ge_cons {s : Str} (h1 : 43 ≤ b0 s) (h : Ge 43 (s.drop 1)) : Ge 43 s := by
  cases s with
  | nil => exact Ge.nil
  | cons c s => exact Ge.cons (by simpa [b0] using h1) (by simpa using h)
theorem ge_E {neg : Bool} {w f p d : Str} (h : (partsE neg w f p d).2.2.2.2 = true) : Ge 43 d := by
  unfold partsE at h
  split at h
  · cases h
  · rename_i hc
    exact ge_dig (runL_dig (by omega))
theorem ge_D {neg : Bool} {w f s : Str} (h : (partsD neg w f s).2.2.2.2 = true) : Ge 43 s := by
  unfold partsD at h
  split at h
  · rename_i h0
    obtain rfl := List.eq_nil_of_length_eq_zero h0
    exact Ge.nil
  · split at h
    · cases h
    · refine ge_cons (by omega) ?_
      split at h
      · exact ge_cons (by omega) (ge_E h)
      · exact ge_E h
theorem ge_C {neg : Bool} {w s : Str} (h : (partsC neg w s).2.2.2.2 = true) : Ge 43 s := by
  unfold partsC at h
  split at h
  · split at h
    · cases h
    · exact ge_cons (by omega) (ge_run (ge_D h))
  · exact ge_D h
theorem ge_B {neg : Bool} {s : Str} (h : (partsB neg s).2.2.2.2 = true) : Ge 43 s := by
  unfold partsB at h
  split at h
  · cases h
  · exact ge_run (ge_C h)
theorem ge_num {s : Str} (h : numL s = true) : Ge 43 s := by
  rw [numL_eq] at h
  unfold okP at h
  simp only [Bool.and_eq_true, decide_eq_true_eq] at h
  have h := h.1.1
  unfold numParts at h
  split at h
  · exact ge_cons (by omega) (ge_B h)
  · exact ge_B h
theorem ge_u8 {n m : Nat} (h : n ≤ m) (h2 : m < 256) : n ≤ (UInt8.ofNat m).toNat := by
  rw [UInt8.toNat_ofNat', Nat.mod_eq_of_lt h2]; exact h
theorem ge_digits : ∀ n : Nat, Ge 43 (Lib.decDigits n) := by
  intro n
  induction n using Nat.strongRecOn with
  | ind n ih =>
    rw [Lib.decDigits]
    split
    · exact Ge.cons (ge_u8 (by omega) (by omega)) Ge.nil
    · exact Ge.app (ih _ (by omega)) (Ge.cons (ge_u8 (by omega) (by omega)) Ge.nil)
theorem ge_itoa (z : Int) : Ge 43 (Lib.itoa z) := by
  by_cases h : 0 ≤ z
  · obtain ⟨u, rfl⟩ := Int.eq_ofNat_of_zero_le h
    rw [Lib.itoa_nonneg]
    exact ge_digits u
  · obtain ⟨u, hu⟩ := Int.eq_ofNat_of_zero_le (show 0 ≤ -z by omega)
    rw [show z = -(u : Int) by omega, Lib.itoa_neg u (by omega)]
    exact Ge.cons (by decide) (ge_digits u)
theorem ge_enc (r : Int) (h0 : 32 ≤ r) : Ge 32 (utfEnc r) := by
  unfold utfEnc
  split
  · exact Ge.nil
  · rename_i hg
    have hg : r ≤ 1114111 := by unfold utfGood at hg; simp at hg; omega
    repeat' split
    · exact Ge.cons (ge_u8 (by omega) (by omega)) Ge.nil
    · exact Ge.cons (ge_u8 (by omega) (by omega)) (Ge.cons (ge_u8 (by omega) (by omega)) Ge.nil)
    · exact Ge.cons (ge_u8 (by omega) (by omega)) (Ge.cons (ge_u8 (by omega) (by omega)) (Ge.cons (ge_u8 (by omega) (by omega)) Ge.nil))
    · exact Ge.cons (ge_u8 (by omega) (by omega)) (Ge.cons (ge_u8 (by omega) (by omega)) (Ge.cons (ge_u8 (by omega) (by omega)) (Ge.cons (ge_u8 (by omega) (by omega)) Ge.nil)))
theorem ge_esc (r : Int) (h0 : 0 ≤ r) : Ge 32 (escR r) := by
  by_cases h : r < 32
  · obtain ⟨n, rfl⟩ := Int.eq_ofNat_of_zero_le h0
    have key : ∀ n : Nat, n < 32 → ∀ b ∈ escR (n : Int), 32 ≤ b.toNat := by decide +kernel
    exact key n (by omega)
  · have : escR r = utfEnc r ∨ Ge 32 (escR r) := by
      unfold escR
      repeat' split
      all_goals first | exact .inl rfl | (right; intro b hb; revert b; decide) | omega
    rcases this with h2 | h2
    · rw [h2]; exact ge_enc r (by omega)
    · exact h2
theorem letR_pos (s : Str) : 0 ≤ letR s := by
  unfold letR
  split
  · omega
  · rename_i h
    have := (utfTake_r s).resolve_left h
    unfold utfGood at this
    rw [decide_eq_true_eq] at this
    omega
theorem ge_quoteL : ∀ (q : Nat) (s : Str), Ge 32 (quoteL q s)
  | 0, s => by rw [quoteL]; exact Ge.nil
  | q + 1, [] => by rw [quoteL]; exact Ge.nil
  | q + 1, c :: cs => by
    rw [quoteL, escR_eq]
    exact Ge.app (ge_esc _ (letR_pos _)) (ge_quoteL q _)
theorem ge_quote (s : Str) : Ge 32 (quoteS s) := by
  unfold quoteS
  exact Ge.cons (by decide) (Ge.app (ge_quoteL _ _) (Ge.cons (by decide) Ge.nil))
/-- has a text no blank? -/
def NoB (s : Str) : Prop := ∀ b ∈ s, b.toNat ≠ 32
theorem NoB.l {s r : Str} (h : NoB (s ++ r)) : NoB s := fun b hb => h b (List.mem_append_left _ hb)
theorem NoB.r {s r : Str} (h : NoB (s ++ r)) : NoB r := fun b hb => h b (List.mem_append_right _ hb)
theorem NoB.t {c : UInt8} {s : Str} (h : NoB (c :: s)) : NoB s := fun b hb => h b (List.mem_cons_of_mem _ hb)
theorem sq_ge {n : Nat} (hn : 11 ≤ n) {s : Str} (h : Ge n s) (hb : NoB s) : sq s = s := sq_id fun b hm => ⟨Nat.le_trans hn (h b hm), hb b hm⟩
theorem lines_law : ∀ t : Tree, goodT t = true → NoB (printT t (-1)) → ∀ d : Int, -1 ≤ d → sq (printT t d) = printT t (-1) := by
  refine Tree.ind fun t hl hm hg hb d hd => ?_
  obtain ⟨_, hn, hr, hgl, hgm⟩ := goodT_spec hg
  have hdd : deeper (-1) = -1 := rfl
  have hdp : -1 ≤ deeper d := by unfold deeper; split <;> omega
  have hL : ∀ (l : List Tree) (f : Bool), (∀ x ∈ l, x ∈ t.l) → NoB (printL f l (-1)) → sq (printL f l (deeper d)) = printL f l (-1) := by
    intro l
    induction l with
    | nil => intro f _ _; rfl
    | cons x l ih =>
      intro f hx hb
      rw [printL] at hb ⊢
      rw [printL]
      have e : sq (if f = true then ([] : Str) else [44]) = if f = true then [] else [44] := by split <;> decide
      rw [sq_append, sq_append, sq_append, e, sq_line, hl x (hx x (by simp)) (hgl x (hx x (by simp))) hb.r.r.l _ hdp, ih false (fun y hy => hx y (by simp [hy])) hb.r.r.r]
      rfl
  have hM : ∀ (l : List (Str × Tree)) (f : Bool), (∀ x ∈ l, x ∈ t.m) → NoB (printM f l (-1)) → sq (printM f l (deeper d)) = printM f l (-1) := by
    intro l
    induction l with
    | nil => intro f _ _; rfl
    | cons x l ih =>
      intro f hx hb
      obtain ⟨k, y⟩ := x
      rw [printM, printP] at hb ⊢
      rw [printM, printP]
      have e : sq (if f = true then ([] : Str) else [44]) = if f = true then [] else [44] := by split <;> decide
      have hq : sq (quoteS k) = quoteS k := sq_ge (by omega) (ge_quote k) hb.r.r.l.l
      have hy := hm (k, y) (hx (k, y) (by simp)) (hgm (k, y) (hx (k, y) (by simp))).2 hb.r.r.l.r.r _ hdp
      simp only [] at hy
      rw [sq_append, sq_append, sq_append, sq_append, sq_append, e, sq_line, sq_colon, hq, hy, ih false (fun y hy => hx y (by simp [hy])) hb.r.r.r]
      rfl
  rw [printT_eq] at hb ⊢
  rw [printT_eq]
  rw [hdd] at hb ⊢
  by_cases h0 : t.kind = 0
  · rw [if_pos h0, if_pos h0]; decide
  rw [if_neg h0] at hb
  rw [if_neg h0, if_neg h0]
  by_cases h1 : t.kind = 1
  · rw [if_pos h1, if_pos h1]; split <;> decide
  rw [if_neg h1] at hb
  rw [if_neg h1, if_neg h1]
  by_cases h2 : t.kind = 2
  · rw [if_pos h2] at hb
    rw [if_pos h2, if_pos h2]; exact sq_ge (by omega) (ge_itoa _) hb
  rw [if_neg h2] at hb
  rw [if_neg h2, if_neg h2]
  by_cases h3 : t.kind = 3
  · rw [if_pos h3] at hb
    rw [if_pos h3, if_pos h3]
    refine sq_ge (by omega) (ge_num (s := t.s) ?_) hb
    unfold nodeOk at hn
    rw [if_neg (by omega), if_neg h1, if_pos h3, Bool.and_eq_true] at hn
    exact hn.1
  rw [if_neg h3] at hb
  rw [if_neg h3, if_neg h3]
  by_cases h4 : t.kind = 4 ∨ t.kind = 7
  · rw [if_pos h4] at hb
    rw [if_pos h4, if_pos h4]; exact sq_ge (by omega) (ge_quote _) hb
  rw [if_neg h4] at hb
  rw [if_neg h4, if_neg h4]
  by_cases h6 : t.kind = 6
  · rw [if_pos h6] at hb
    rw [if_pos h6, if_pos h6]
    by_cases hz : t.m.length = 0
    · rw [if_pos hz, if_pos hz]; decide
    · rw [if_neg hz] at hb
      rw [if_neg hz, if_neg hz]
      rw [sq_cons, sq_append, sq_append, sq_line, hM t.m true (fun _ h => h) hb.t.l]
      rfl
  · rw [if_neg h6] at hb
    rw [if_neg h6, if_neg h6]
    by_cases hz : t.l.length = 0
    · rw [if_pos hz, if_pos hz]; decide
    · rw [if_neg hz] at hb
      rw [if_neg hz, if_neg hz]
      rw [sq_cons, sq_append, sq_append, sq_line, hL t.l true (fun _ h => h) hb.t.l]
      rfl
end Go.Am
end

section
namespace Go.Am
theorem sq_keep {b : UInt8} (h1 : ¬ (b.toNat : Int) = 32) (h2 : ¬ (b.toNat : Int) = 10) : sq [b] = [b] := by
  unfold sq keepB
  rw [List.filter_cons, decide_eq_false h1, decide_eq_false h2]; rfl
theorem sq_drop {b : UInt8} (h : (b.toNat : Int) = 32 ∨ (b.toNat : Int) = 10) : sq [b] = [] := by
  unfold sq keepB
  rw [List.filter_cons, if_neg, List.filter_nil]
  rcases h with h | h
  · rw [decide_eq_true h]; simp
  · rw [decide_eq_true h]; simp
end Go.Am
end

section
namespace Go.Am
open Go
/-! ### strings -/
def q1 (c : UInt8) : Str := quoteU [c] 1
theorem q1_head : ∀ k : Nat, k < 128 → ∃ a y, q1 (UInt8.ofNat k) = a :: y ∧ a ≠ 34 ∧ a.toNat < 128 := by
  have h : ∀ k : Nat, k < 128 → (match q1 (UInt8.ofNat k) with | a :: _ => decide (a ≠ 34 ∧ a.toNat < 128) | [] => false) = true := by decide +kernel
  intro k hk
  have := h k hk
  split at this
  · rename_i a y e
    rw [decide_eq_true_eq] at this
    exact ⟨a, y, e, this.1, this.2⟩
  · cases this
theorem q1_prefix : ∀ k : Nat, k < 128 → ∀ j : Nat, j < 128 → (q1 (UInt8.ofNat k)).isPrefixOf (q1 (UInt8.ofNat j)) = true → k = j := by decide +kernel
theorem take_len (c : UInt8) (cs : Str) (h : (utfTake (c :: cs)).2 ≠ 0) : (utfTake (c :: cs)).2 = (utfBegins c.toNat).1 := by
  unfold utfTake at h ⊢
  simp only [] at h ⊢
  split
  · rename_i h1; rw [if_pos h1] at h; exact absurd rfl h
  · rename_i h1
    rw [if_neg h1] at h
    split
    · rename_i h2; rw [h2] at h; exact absurd rfl h
    · rename_i r h2
      rw [h2] at h
      simp only [] at h
      split
      · rfl
      · rename_i h3; rw [if_neg h3] at h; exact absurd rfl h
/-- a letter's bytes, as they are written -/
def unitL (s : Str) : Str := quoteU (s.take (stepN s)) (utfTake s).2
theorem unit_form (c : UInt8) (cs : Str) (h : (utfTake (c :: cs)).2 ≠ 0) :
    (c.toNat < 128 ∧ (c :: cs).take (stepN (c :: cs)) = [c] ∧ unitL (c :: cs) = q1 c) ∨
    (128 ≤ c.toNat ∧ unitL (c :: cs) = (c :: cs).take (stepN (c :: cs)) ∧ ((c :: cs).take (stepN (c :: cs))).length = (utfBegins c.toNat).1.toNat ∧ 1 ≤ (utfBegins c.toNat).1) := by
  have hn := utfTake_n (c :: cs)
  have hk := take_len c cs h
  have hs : stepN (c :: cs) = (utfTake (c :: cs)).2.toNat := by unfold stepN; omega
  by_cases hc : c.toNat < 128
  · refine .inl ⟨hc, ?_, ?_⟩
    · have : (utfBegins c.toNat).1 = 1 := by unfold utfBegins; rw [if_pos hc]
      rw [hs, hk, this]; rfl
    · have : (utfBegins c.toNat).1 = 1 := by unfold utfBegins; rw [if_pos hc]
      unfold unitL
      rw [hs, hk, this]; rfl
  · refine .inr ⟨by omega, ?_, ?_, by omega⟩
    · unfold unitL
      have hb : b0 ((c :: cs).take (stepN (c :: cs))) = c.toNat := by
        rw [hs]
        obtain ⟨k, hk2⟩ : ∃ k, (utfTake (c :: cs)).2.toNat = k + 1 := ⟨(utfTake (c :: cs)).2.toNat - 1, by omega⟩
        rw [hk2]; rfl
      unfold quoteU
      rw [if_neg h, hb]
      repeat (rw [if_neg (by omega)])
    · rw [List.length_take, hs, hk]
      have : (utfTake (c :: cs)).2 ≤ (c :: cs).length := by omega
      omega
theorem u8_of (c : UInt8) : UInt8.ofNat c.toNat = c := by simp
theorem unit_head (c : UInt8) (cs : Str) (h : (utfTake (c :: cs)).2 ≠ 0) : ∃ a y, unitL (c :: cs) = a :: y ∧ a ≠ 34 ∧ (a.toNat < 128 ↔ c.toNat < 128) := by
  rcases unit_form c cs h with ⟨h1, _, h3⟩ | ⟨h1, h2, h3, h4⟩
  · obtain ⟨a, y, e, h5, h6⟩ := q1_head c.toNat h1
    rw [u8_of] at e
    exact ⟨a, y, by rw [h3, e], h5, by omega⟩
  · obtain ⟨k, hk⟩ : ∃ k, stepN (c :: cs) = k + 1 := ⟨stepN (c :: cs) - 1, by have := stepN_pos (c :: cs); omega⟩
    refine ⟨c, cs.take k, by rw [h2, hk]; rfl, ?_, Iff.rfl⟩
    rintro rfl
    exact absurd h1 (by decide)
theorem unit_inj (c : UInt8) (cs : Str) (e : UInt8) (es : Str) (h1 : (utfTake (c :: cs)).2 ≠ 0) (h2 : (utfTake (e :: es)).2 ≠ 0) (X Y : Str) (h : unitL (c :: cs) ++ X = unitL (e :: es) ++ Y) :
    (c :: cs).take (stepN (c :: cs)) = (e :: es).take (stepN (e :: es)) ∧ X = Y := by
  rcases unit_form c cs h1 with ⟨a1, a2, a3⟩ | ⟨a1, a2, a3, a4⟩ <;> rcases unit_form e es h2 with ⟨b1, b2, b3⟩ | ⟨b1, b2, b3, b4⟩
  · rw [a3, b3] at h
    have key : ∀ (c e : UInt8) (X Y : Str), c.toNat < 128 → e.toNat < 128 → (q1 c).length ≤ (q1 e).length → q1 c ++ X = q1 e ++ Y → c = e ∧ X = Y := by
      intro c e X Y hc he hl h
      have hp : q1 c <+: q1 e := List.prefix_of_prefix_length_le ⟨X, h⟩ ⟨Y, rfl⟩ hl
      have := q1_prefix c.toNat hc e.toNat he (by rw [u8_of, u8_of]; exact List.isPrefixOf_iff_prefix.2 hp)
      have hce : c = e := UInt8.toNat_inj.1 this
      subst hce
      exact ⟨rfl, List.append_cancel_left h⟩
    rcases Nat.le_total (q1 c).length (q1 e).length with hl | hl
    · obtain ⟨rfl, rfl⟩ := key c e X Y a1 b1 hl h
      exact ⟨by rw [a2, b2], rfl⟩
    · obtain ⟨rfl, rfl⟩ := key e c Y X b1 a1 hl h.symm
      exact ⟨by rw [a2, b2], rfl⟩
  · obtain ⟨x, y, e1, _, e2⟩ := unit_head c cs h1
    obtain ⟨x', y', e1', _, e2'⟩ := unit_head e es h2
    rw [e1, e1'] at h
    have := (List.cons.inj h).1
    subst this
    omega
  · obtain ⟨x, y, e1, _, e2⟩ := unit_head c cs h1
    obtain ⟨x', y', e1', _, e2'⟩ := unit_head e es h2
    rw [e1, e1'] at h
    have := (List.cons.inj h).1
    subst this
    omega
  · rw [a2, b2] at h
    have hce : c = e := by
      obtain ⟨k, hk⟩ : ∃ k, stepN (c :: cs) = k + 1 := ⟨stepN (c :: cs) - 1, by have := stepN_pos (c :: cs); omega⟩
      obtain ⟨j, hj⟩ : ∃ k, stepN (e :: es) = k + 1 := ⟨stepN (e :: es) - 1, by have := stepN_pos (e :: es); omega⟩
      rw [hk, hj] at h
      exact (List.cons.inj h).1
    subst hce
    exact List.append_inj h (by rw [a3, b3])
theorem scan_at (q : Nat) : ∀ (s : Str) (p r : Int), (utfScan q s p).2 = (utfScan q s r).2 := by
  induction q with
  | zero => intro s p r; rfl
  | succ q ih =>
    intro s p r
    cases s with
    | nil => rfl
    | cons c cs =>
      unfold utfScan
      simp only []
      split
      · rfl
      · exact ih _ _ _
theorem scan_cons {q : Nat} {c : UInt8} {cs : Str} {p : Int} (h : (utfScan (q + 1) (c :: cs) p).2 = true) : (utfTake (c :: cs)).2 ≠ 0 ∧ (utfScan q ((c :: cs).drop (stepN (c :: cs))) 0).2 = true := by
  unfold utfScan at h
  simp only [] at h
  split at h
  · cases h
  · rename_i h0
    refine ⟨h0, ?_⟩
    have hn := utfTake_n (c :: cs)
    have hs : stepN (c :: cs) = (utfTake (c :: cs)).2.toNat := by unfold stepN; omega
    rw [hs, scan_at q _ 0]
    exact h
theorem quoteL_inj : ∀ (q : Nat) (s : Str) (q' : Nat) (s' R R' : Str), s.length ≤ q → s'.length ≤ q' → (utfScan q s 0).2 = true → (utfScan q' s' 0).2 = true → quoteL q s ++ 34 :: R = quoteL q' s' ++ 34 :: R' → s = s' ∧ R = R' := by
  intro q
  induction q with
  | zero =>
    intro s q' s' R R' hl hl' hv hv' h
    obtain rfl := List.eq_nil_of_length_eq_zero (Nat.le_zero.1 hl)
    cases q' with
    | zero =>
      obtain rfl := List.eq_nil_of_length_eq_zero (Nat.le_zero.1 hl')
      exact ⟨rfl, by simpa [quoteL] using h⟩
    | succ q' =>
      cases s' with
      | nil => exact ⟨rfl, by simpa [quoteL] using h⟩
      | cons e es =>
        obtain ⟨a, y, e1, e2, _⟩ := unit_head e es (scan_cons hv').1
        rw [quoteL, quoteL] at h
        change [] ++ 34 :: R = (unitL (e :: es) ++ _) ++ 34 :: R' at h
        rw [e1] at h
        exact absurd (List.cons.inj h).1.symm e2
  | succ q ih =>
    intro s q' s' R R' hl hl' hv hv' h
    cases s with
    | nil =>
      cases q' with
      | zero =>
        obtain rfl := List.eq_nil_of_length_eq_zero (Nat.le_zero.1 hl')
        exact ⟨rfl, by simpa [quoteL] using h⟩
      | succ q' =>
        cases s' with
        | nil => exact ⟨rfl, by simpa [quoteL] using h⟩
        | cons e es =>
          obtain ⟨a, y, e1, e2, _⟩ := unit_head e es (scan_cons hv').1
          rw [quoteL, quoteL] at h
          change [] ++ 34 :: R = (unitL (e :: es) ++ _) ++ 34 :: R' at h
          rw [e1] at h
          exact absurd (List.cons.inj h).1.symm e2
    | cons c cs =>
      obtain ⟨v1, v2⟩ := scan_cons hv
      cases q' with
      | zero =>
        obtain rfl := List.eq_nil_of_length_eq_zero (Nat.le_zero.1 hl')
        obtain ⟨a, y, e1, e2, _⟩ := unit_head c cs v1
        rw [quoteL, quoteL] at h
        change (unitL (c :: cs) ++ _) ++ 34 :: R = [] ++ 34 :: R' at h
        rw [e1] at h
        exact absurd (List.cons.inj h).1 e2
      | succ q' =>
        cases s' with
        | nil =>
          obtain ⟨a, y, e1, e2, _⟩ := unit_head c cs v1
          rw [quoteL, quoteL] at h
          change (unitL (c :: cs) ++ _) ++ 34 :: R = [] ++ 34 :: R' at h
          rw [e1] at h
          exact absurd (List.cons.inj h).1 e2
        | cons e es =>
          obtain ⟨w1, w2⟩ := scan_cons hv'
          rw [quoteL, quoteL] at h
          change (unitL (c :: cs) ++ _) ++ 34 :: R = (unitL (e :: es) ++ _) ++ 34 :: R' at h
          rw [List.append_assoc, List.append_assoc] at h
          obtain ⟨h1, h2⟩ := unit_inj c cs e es v1 w1 _ _ h
          have p1 := stepN_pos (c :: cs)
          have p2 := stepN_pos (e :: es)
          obtain ⟨h3, h4⟩ := ih _ q' _ R R' (by rw [List.length_drop]; omega) (by rw [List.length_drop]; omega) v2 w2 h2
          refine ⟨?_, h4⟩
          rw [← List.take_append_drop (stepN (c :: cs)) (c :: cs), ← List.take_append_drop (stepN (e :: es)) (e :: es), h1, h3]
theorem quoteS_inj {s s' R R' : Str} (hv : strOk s = true) (hv' : strOk s' = true) (h : quoteS s ++ R = quoteS s' ++ R') : s = s' ∧ R = R' := by
  unfold strOk at hv hv'
  rw [Bool.and_eq_true] at hv hv'
  unfold quoteS at h
  simp only [List.cons_append, List.append_assoc, List.singleton_append] at h
  have h := (List.cons.inj h).2
  exact quoteL_inj _ _ _ _ _ _ (Nat.le_refl _) (Nat.le_refl _) hv.2 hv'.2 h
/-! ### numbers -/
def numCh (b : UInt8) : Bool := decide ((48 ≤ b.toNat ∧ b.toNat ≤ 57) ∨ b.toNat = 43 ∨ b.toNat = 45 ∨ b.toNat = 46 ∨ b.toNat = 101 ∨ b.toNat = 69)
def Nc (s : Str) : Prop := ∀ b ∈ s, numCh b = true
theorem Nc.app {s r : Str} (h1 : Nc s) (h2 : Nc r) : Nc (s ++ r) := fun b hb => (List.mem_append.1 hb).elim (h1 b) (h2 b)
theorem Nc.cons {c : UInt8} {s : Str} (h1 : numCh c = true) (h2 : Nc s) : Nc (c :: s) := fun b hb => (List.mem_cons.1 hb).elim (fun e => by rw [e]; exact h1) (h2 b)
theorem Nc.nil : Nc [] := fun b hb => by cases hb
theorem nc_dig {s : Str} (h : ∀ b ∈ s, dig b = true) : Nc s := fun b hb => by
  have := h b hb
  unfold dig at this
  rw [decide_eq_true_eq] at this
  unfold numCh
  rw [decide_eq_true_eq]
  exact .inl this
theorem nc_run {s : Str} (h : Nc (s.drop (runL s))) : Nc s := by
  have := Nc.app (nc_dig (take_dig s)) h
  rwa [List.take_append_drop] at this
theorem nc_cons {s : Str} (h1 : b0 s = 43 ∨ b0 s = 45 ∨ b0 s = 46 ∨ b0 s = 101 ∨ b0 s = 69) (h : Nc (s.drop 1)) : Nc s := by
  cases s with
  | nil => exact Nc.nil
  | cons c s => exact Nc.cons (by unfold numCh; rw [decide_eq_true_eq]; exact .inr (by simpa [b0] using h1)) (by simpa using h)
theorem nc_E {neg : Bool} {w f p d : Str} (h : (partsE neg w f p d).2.2.2.2 = true) : Nc d := by
  unfold partsE at h
  split at h
  · cases h
  · rename_i hc
    exact nc_dig (runL_dig (by omega))
theorem nc_D {neg : Bool} {w f s : Str} (h : (partsD neg w f s).2.2.2.2 = true) : Nc s := by
  unfold partsD at h
  split at h
  · rename_i h0
    obtain rfl := List.eq_nil_of_length_eq_zero h0
    exact Nc.nil
  · split at h
    · cases h
    · refine nc_cons (by omega) ?_
      split at h
      · exact nc_cons (by omega) (nc_E h)
      · exact nc_E h
theorem nc_C {neg : Bool} {w s : Str} (h : (partsC neg w s).2.2.2.2 = true) : Nc s := by
  unfold partsC at h
  split at h
  · split at h
    · cases h
    · exact nc_cons (by omega) (nc_run (nc_D h))
  · exact nc_D h
theorem nc_B {neg : Bool} {s : Str} (h : (partsB neg s).2.2.2.2 = true) : Nc s := by
  unfold partsB at h
  split at h
  · cases h
  · exact nc_run (nc_C h)
theorem nc_num {s : Str} (h : numL s = true) : Nc s := by
  rw [numL_eq] at h
  unfold okP at h
  simp only [Bool.and_eq_true, decide_eq_true_eq] at h
  have h := h.1.1
  unfold numParts at h
  split at h
  · exact nc_cons (by omega) (nc_B h)
  · exact nc_B h
theorem dig_u8 {m : Nat} (h : m < 10) : dig (UInt8.ofNat (48 + m)) = true := by
  unfold dig
  rw [UInt8.toNat_ofNat', Nat.mod_eq_of_lt (by omega), decide_eq_true_eq]
  omega
theorem digits_dig : ∀ n : Nat, ∀ b ∈ Lib.decDigits n, dig b = true := by
  intro n
  induction n using Nat.strongRecOn with
  | ind n ih =>
    intro b hb
    rw [Lib.decDigits] at hb
    split at hb
    · rename_i h
      rw [List.mem_singleton] at hb
      subst hb
      exact dig_u8 h
    · rcases List.mem_append.1 hb with hb | hb
      · exact ih _ (by omega) b hb
      · rw [List.mem_singleton] at hb
        subst hb
        exact dig_u8 (by omega)
theorem nc_itoa (z : Int) : Nc (Lib.itoa z) := by
  by_cases h : 0 ≤ z
  · obtain ⟨u, rfl⟩ := Int.eq_ofNat_of_zero_le h
    rw [Lib.itoa_nonneg]
    exact nc_dig (digits_dig u)
  · obtain ⟨u, hu⟩ := Int.eq_ofNat_of_zero_le (show 0 ≤ -z by omega)
    rw [show z = -(u : Int) by omega, Lib.itoa_neg u (by omega)]
    exact Nc.cons (by decide) (nc_dig (digits_dig u))
theorem valN_app : ∀ (s r : Str) (a : Nat), valN (s ++ r) a = valN r (valN s a)
  | [], r, a => rfl
  | b :: s, r, a => by rw [List.cons_append, valN, valN, valN_app s r]
theorem valN_digits : ∀ n : Nat, valN (Lib.decDigits n) 0 = n := by
  intro n
  induction n using Nat.strongRecOn with
  | ind n ih =>
    rw [Lib.decDigits]
    split
    · rename_i h
      rw [valN, valN, UInt8.toNat_ofNat', Nat.mod_eq_of_lt (by omega)]
      omega
    · rename_i h
      rw [valN_app, ih _ (by omega), valN, valN, UInt8.toNat_ofNat', Nat.mod_eq_of_lt (by omega)]
      omega
theorem digits_ne (n : Nat) : Lib.decDigits n ≠ [] := by rw [Lib.decDigits]; split <;> simp
theorem parse_digits {u : Nat} (h : u ≤ 2 ^ 63) : Lib.parseUintB 64 (Lib.decDigits u) = .ok u := by
  unfold Lib.parseUintB
  rw [if_neg (digits_ne u), parseU_val rfl _ 0 (digits_dig u) (by omega), valN_digits, if_pos (by omega)]
theorem parse_itoa {z : Int} (h0 : -9223372036854775808 ≤ z) (h1 : z ≤ 9223372036854775807) : Lib.parseIntB 64 (Lib.itoa z) = .ok z := by
  by_cases h : 0 ≤ z
  · obtain ⟨u, rfl⟩ := Int.eq_ofNat_of_zero_le h
    rw [Lib.itoa_nonneg]
    have hp := parse_digits (u := u) (by omega)
    have hd := digits_dig u
    generalize Lib.decDigits u = s at *
    cases s with
    | nil => simp [Lib.parseUintB] at hp
    | cons c s =>
      have hdc := hd c (by simp)
      unfold dig at hdc
      rw [decide_eq_true_eq] at hdc
      rw [Lib.parseIntB_plain 64 c s (by omega) (by omega), hp]
      simp only [Lib.signlessC]
      rw [if_neg (by omega)]
  · obtain ⟨u, hu⟩ := Int.eq_ofNat_of_zero_le (show 0 ≤ -z by omega)
    rw [show z = -(u : Int) by omega, Lib.itoa_neg u (by omega), Lib.parseIntB_minus, parse_digits (by omega)]
    simp only [Lib.signedC]
    rw [if_neg (by omega)]
theorem itoa_inj {z y : Int} (hz : -9223372036854775808 ≤ z ∧ z ≤ 9223372036854775807) (hy : -9223372036854775808 ≤ y ∧ y ≤ 9223372036854775807) (h : Lib.itoa z = Lib.itoa y) : z = y := by
  have h1 := parse_itoa hz.1 hz.2
  rw [h, parse_itoa hy.1 hy.2] at h1
  injection h1 with h1
  exact h1.symm
theorem refInt_itoa {z : Int} (hz : -9223372036854775808 ≤ z ∧ z ≤ 9223372036854775807) (hn : numL (Lib.itoa z) = true) : (refIntL (Lib.itoa z)).2 = true := by
  rw [← decIntL_eq]
  unfold decIntL
  have hp := parse_itoa hz.1 hz.2
  rw [if_neg, hp]
  simp only [not_or]
  refine ⟨by simp [hn], ?_, ?_⟩
  · intro hc
    obtain ⟨b, hb, hb2⟩ := (containsAny_iff _ _).1 hc
    by_cases h : 0 ≤ z
    · obtain ⟨u, rfl⟩ := Int.eq_ofNat_of_zero_le h
      rw [Lib.itoa_nonneg] at hb
      exact dig_dotE (digits_dig u b hb) hb2
    · obtain ⟨u, hu⟩ := Int.eq_ofNat_of_zero_le (show 0 ≤ -z by omega)
      rw [show z = -(u : Int) by omega, Lib.itoa_neg u (by omega)] at hb
      rcases List.mem_cons.1 hb with rfl | hb
      · revert hb2; decide
      · exact dig_dotE (digits_dig u b hb) hb2
  · intro h
    rw [h] at hp
    have h0 : z = 0 := by
      have h2 : Lib.parseIntB 64 [45, 48] = .ok 0 := by decide
      rw [h2] at hp
      injection hp with hp
      exact hp.symm
    subst h0
    have h3 := itoa_small (u := 0) (by omega)
    rw [show ((0 : Nat) : Int) = 0 from rfl, h] at h3
    revert h3; decide
/-- behind a number: nothing, or no letter of a number -/
def TailR (R : Str) : Prop := R = [] ∨ ∃ a y, R = a :: y ∧ (a = 10 ∨ a = 44 ∨ a = 93 ∨ a = 125)
theorem tail_while {s R : Str} (hs : Nc s) (hR : TailR R) : (s ++ R).takeWhile numCh = s := by
  rw [List.takeWhile_append_of_pos hs]
  rcases hR with rfl | ⟨a, y, rfl, h⟩
  · simp
  · rw [List.takeWhile_cons, if_neg, List.append_nil]
    rcases h with rfl | rfl | rfl | rfl <;> decide
theorem num_split {s s' R R' : Str} (hs : Nc s) (hs' : Nc s') (hR : TailR R) (hR' : TailR R') (h : s ++ R = s' ++ R') : s = s' ∧ R = R' := by
  have h1 := tail_while hs hR
  rw [h, tail_while hs' hR'] at h1
  subst h1
  exact ⟨rfl, List.append_cancel_left h⟩
end Go.Am
end

section
namespace Go.Am
open Go
mutual
def stampT : Tree → Bool
  | .mk k _ _ l m => decide (k = 7) || (stampL l || stampM m)
def stampL : List Tree → Bool
  | [] => false
  | t :: l => stampT t || stampL l
def stampM : List (Str × Tree) → Bool
  | [] => false
  | p :: m => stampP p || stampM m
def stampP : Str × Tree → Bool
  | (_, t) => stampT t
end
theorem stampT_eq (t : Tree) : stampT t = (decide (t.kind = 7) || (stampL t.l || stampM t.m)) := by cases t; rw [stampT]; rfl
theorem stampL_mem : ∀ {l : List Tree}, stampL l = false → ∀ x ∈ l, stampT x = false
  | [], _, x, hx => by cases hx
  | t :: l, h, x, hx => by
    rw [stampL, Bool.or_eq_false_iff] at h
    rcases List.mem_cons.1 hx with rfl | hx
    · exact h.1
    · exact stampL_mem h.2 x hx
theorem stampM_mem : ∀ {l : List (Str × Tree)}, stampM l = false → ∀ x ∈ l, stampT x.2 = false
  | [], _, x, hx => by cases hx
  | (k, t) :: l, h, x, hx => by
    rw [stampM, stampP, Bool.or_eq_false_iff] at h
    rcases List.mem_cons.1 hx with rfl | hx
    · exact h.1
    · exact stampM_mem h.2 x hx
theorem stampT_spec {t : Tree} (h : stampT t = false) : t.kind ≠ 7 ∧ (∀ x ∈ t.l, stampT x = false) ∧ ∀ x ∈ t.m, stampT x.2 = false := by
  rw [stampT_eq, Bool.or_eq_false_iff, Bool.or_eq_false_iff, decide_eq_false_iff_not] at h
  exact ⟨h.1, stampL_mem h.2.1, stampM_mem h.2.2⟩
/-- a good tree's own fields -/
theorem own_fields {t : Tree} (h : ¬ ownBad t.kind t.n t.s.length t.l.length t.m.length) :
    (t.kind ≠ 1 → t.kind ≠ 2 → t.n = 0) ∧ (t.kind ≠ 3 → t.kind ≠ 4 → t.kind ≠ 7 → t.s = []) ∧ (t.kind ≠ 5 → t.l = []) ∧ (t.kind ≠ 6 → t.m = []) := by
  unfold ownBad at h
  refine ⟨fun h1 h2 => by omega, fun h1 h2 h3 => List.eq_nil_of_length_eq_zero (by omega), fun h1 => List.eq_nil_of_length_eq_zero (by omega), fun h1 => List.eq_nil_of_length_eq_zero (by omega)⟩
theorem Tree.ext' {t u : Tree} (h1 : t.kind = u.kind) (h2 : t.n = u.n) (h3 : t.s = u.s) (h4 : t.l = u.l) (h5 : t.m = u.m) : t = u := by rw [t.eta, u.eta, h1, h2, h3, h4, h5]
/-- what a value's first byte tells of it -/
def cls (a : UInt8) : Int := if a = 110 then 0 else if a = 116 ∨ a = 102 then 1 else if numCh a = true then 2 else if a = 34 then 4 else if a = 91 then 5 else if a = 123 then 6 else 9
def kindC (k : Int) : Int := if k = 3 then 2 else k
theorem good_kinds {t : Tree} (hg : goodT t = true) (hs : stampT t = false) : t.kind = 0 ∨ (t.kind = 1 ∧ (t.n = 0 ∨ t.n = 1)) ∨ t.kind = 2 ∨ (t.kind = 3 ∧ numL t.s = true ∧ (refIntL t.s).2 = false) ∨ (t.kind = 4 ∧ strOk t.s = true) ∨ t.kind = 5 ∨ t.kind = 6 := by
  obtain ⟨_, h, _, _, _⟩ := goodT_spec hg
  have h7 := (stampT_spec hs).1
  unfold nodeOk at h
  by_cases c0 : t.kind = 0 ∨ t.kind = 2
  · omega
  rw [if_neg c0] at h
  by_cases c1 : t.kind = 1
  · rw [if_pos c1, decide_eq_true_eq] at h; omega
  rw [if_neg c1] at h
  by_cases c3 : t.kind = 3
  · rw [if_pos c3, Bool.and_eq_true] at h; exact .inr (.inr (.inr (.inl ⟨c3, h.1, by simpa using h.2⟩)))
  rw [if_neg c3] at h
  by_cases c4 : t.kind = 4
  · rw [if_pos c4] at h; exact .inr (.inr (.inr (.inr (.inl ⟨c4, h⟩))))
  rw [if_neg c4, if_neg h7, decide_eq_true_eq] at h
  omega
/-! ### how each kind is written -/
theorem p0 {t : Tree} (hk : t.kind = 0) (d : Int) : printT t d = [110, 117, 108, 108] := by rw [printT_eq, if_pos hk]
theorem p1 {t : Tree} (hk : t.kind = 1) (d : Int) : printT t d = if t.n = 1 then [116, 114, 117, 101] else [102, 97, 108, 115, 101] := by rw [printT_eq, if_neg (by omega), if_pos hk]
theorem p2 {t : Tree} (hk : t.kind = 2) (d : Int) : printT t d = Lib.itoa t.n := by rw [printT_eq, if_neg (by omega), if_neg (by omega), if_pos hk]
theorem p3 {t : Tree} (hk : t.kind = 3) (d : Int) : printT t d = t.s := by rw [printT_eq, if_neg (by omega), if_neg (by omega), if_neg (by omega), if_pos hk]
theorem p4 {t : Tree} (hk : t.kind = 4) (d : Int) : printT t d = quoteS t.s := by rw [printT_eq, if_neg (by omega), if_neg (by omega), if_neg (by omega), if_neg (by omega), if_pos (Or.inl hk)]
theorem p5 {t : Tree} (hk : t.kind = 5) (d : Int) : printT t d = if t.l.length = 0 then [91, 93] else 91 :: (printL true t.l (deeper d) ++ (lineL d ++ [93])) := by rw [printT_eq, if_neg (by omega), if_neg (by omega), if_neg (by omega), if_neg (by omega), if_neg (by omega), if_neg (by omega)]
theorem p6 {t : Tree} (hk : t.kind = 6) (d : Int) : printT t d = if t.m.length = 0 then [123, 125] else 123 :: (printM true t.m (deeper d) ++ (lineL d ++ [125])) := by rw [printT_eq, if_neg (by omega), if_neg (by omega), if_neg (by omega), if_neg (by omega), if_neg (by omega), if_pos hk]
theorem cls_num {a : UInt8} (h : numCh a = true) : cls a = 2 := by
  have key : ∀ k : Nat, k < 256 → numCh (UInt8.ofNat k) = true → cls (UInt8.ofNat k) = 2 := by decide +kernel
  have := key a.toNat a.toNat_lt
  rw [u8_of] at this
  exact this h
theorem nc_head {s : Str} (hs : Nc s) (hn : s ≠ []) : ∃ a y, s = a :: y ∧ cls a = 2 := by
  cases s with
  | nil => exact absurd rfl hn
  | cons a y => exact ⟨a, y, rfl, cls_num (hs a (by simp))⟩
theorem head_cls {t : Tree} (hg : goodT t = true) (hs : stampT t = false) (d : Int) : ∃ a y, printT t d = a :: y ∧ cls a = kindC t.kind := by
  rw [printT_eq]
  rcases good_kinds hg hs with hk | ⟨hk, hn⟩ | hk | ⟨hk, hn, _⟩ | ⟨hk, hn⟩ | hk | hk
  · rw [hk]; exact ⟨110, _, rfl, by decide⟩
  · rw [hk]
    rcases hn with hn | hn <;> rw [hn]
    · exact ⟨102, _, rfl, by decide⟩
    · exact ⟨116, _, rfl, by decide⟩
  · rw [hk, if_neg (by omega), if_neg (by omega), if_pos rfl]
    obtain ⟨a, y, h1, h2⟩ := nc_head (nc_itoa t.n) (itoa_ne t.n)
    exact ⟨a, y, h1, h2⟩
  · rw [hk, if_neg (by omega), if_neg (by omega), if_neg (by omega), if_pos rfl]
    obtain ⟨a, y, h1, h2⟩ := nc_head (nc_num hn) (numL_ne hn)
    exact ⟨a, y, h1, h2⟩
  · rw [hk, if_neg (by omega), if_neg (by omega), if_neg (by omega), if_neg (by omega), if_pos (by omega)]
    exact ⟨34, _, rfl, by decide⟩
  · rw [hk, if_neg (by omega), if_neg (by omega), if_neg (by omega), if_neg (by omega), if_neg (by omega), if_neg (by omega)]
    split
    · exact ⟨91, _, rfl, by decide⟩
    · exact ⟨91, _, rfl, by decide⟩
  · rw [hk, if_neg (by omega), if_neg (by omega), if_neg (by omega), if_neg (by omega), if_neg (by omega), if_pos rfl]
    split
    · exact ⟨123, _, rfl, by decide⟩
    · exact ⟨123, _, rfl, by decide⟩
theorem line_head (d : Int) (z : UInt8) (R : Str) : (lineL d ++ z :: R = z :: R) ∨ ∃ y, lineL d ++ z :: R = 10 :: y := by
  unfold lineL
  split
  · exact .inl rfl
  · exact .inr ⟨_, rfl⟩
def InjAt (t : Tree) : Prop := ∀ (u : Tree) (d : Int) (R R' : Str), goodT t = true → goodT u = true → stampT t = false → stampT u = false → TailR R → TailR R' → printT t d ++ R = printT u d ++ R' → t = u ∧ R = R'
/-- what stands behind a part is a tail -/
theorem tail_L (d' d : Int) (z : UInt8) (hz : z = 93 ∨ z = 125) (R : Str) : ∀ l : List Tree, TailR (printL false l d' ++ (lineL d ++ z :: R))
  | [] => by
    rw [printL, List.nil_append]
    rcases line_head d z R with h | ⟨y, h⟩
    · rw [h]; exact .inr ⟨z, R, rfl, by rcases hz with rfl | rfl <;> decide⟩
    · rw [h]; exact .inr ⟨10, y, rfl, by decide⟩
  | x :: l => by rw [printL, if_neg (by simp)]; exact .inr ⟨44, _, rfl, by decide⟩
theorem tail_M (d' d : Int) (z : UInt8) (hz : z = 93 ∨ z = 125) (R : Str) : ∀ l : List (Str × Tree), TailR (printM false l d' ++ (lineL d ++ z :: R))
  | [] => by
    rw [printM, List.nil_append]
    rcases line_head d z R with h | ⟨y, h⟩
    · rw [h]; exact .inr ⟨z, R, rfl, by rcases hz with rfl | rfl <;> decide⟩
    · rw [h]; exact .inr ⟨10, y, rfl, by decide⟩
  | x :: l => by rw [printM, if_neg (by simp)]; exact .inr ⟨44, _, rfl, by decide⟩
theorem line_44 (d : Int) (z : UInt8) (hz : z = 93 ∨ z = 125) (R Y : Str) : lineL d ++ z :: R ≠ 44 :: Y := by
  intro h
  rcases line_head d z R with h2 | ⟨y, h2⟩
  · rw [h2] at h
    have := (List.cons.inj h).1
    rcases hz with rfl | rfl <;> revert this <;> decide
  · rw [h2] at h
    have := (List.cons.inj h).1
    revert this; decide
theorem injL (d' d : Int) (z : UInt8) (hz : z = 93 ∨ z = 125) : ∀ (l l' : List Tree) (R R' : Str), (∀ x ∈ l, InjAt x ∧ goodT x = true ∧ stampT x = false) → (∀ x ∈ l', goodT x = true ∧ stampT x = false) →
    printL false l d' ++ (lineL d ++ z :: R) = printL false l' d' ++ (lineL d ++ z :: R') → l = l' ∧ R = R'
  | [], [], R, R', _, _, h => by
    rw [printL, List.nil_append, List.nil_append] at h
    have := List.append_cancel_left h
    exact ⟨rfl, (List.cons.inj this).2⟩
  | [], y :: l', R, R', _, _, h => by
    rw [printL, printL, List.nil_append, if_neg (by simp)] at h
    exact absurd h (line_44 d z hz R _)
  | x :: l, [], R, R', _, _, h => by
    rw [printL, printL, List.nil_append, if_neg (by simp)] at h
    exact absurd h.symm (line_44 d z hz R' _)
  | x :: l, y :: l', R, R', hl, hl', h => by
    rw [printL, printL, if_neg (by simp)] at h
    simp only [List.append_assoc] at h
    have h := List.append_cancel_left (List.append_cancel_left h)
    obtain ⟨hx, hg, hs⟩ := hl x (by simp)
    obtain ⟨hg', hs'⟩ := hl' y (by simp)
    obtain ⟨rfl, h2⟩ := hx y d' _ _ hg hg' hs hs' (tail_L d' d z hz R l) (tail_L d' d z hz R' l') h
    obtain ⟨rfl, rfl⟩ := injL d' d z hz l l' R R' (fun x hx => hl x (by simp [hx])) (fun x hx => hl' x (by simp [hx])) h2
    exact ⟨rfl, rfl⟩
theorem injM (d' d : Int) (z : UInt8) (hz : z = 93 ∨ z = 125) : ∀ (l l' : List (Str × Tree)) (R R' : Str), (∀ x ∈ l, InjAt x.2 ∧ strOk x.1 = true ∧ goodT x.2 = true ∧ stampT x.2 = false) → (∀ x ∈ l', strOk x.1 = true ∧ goodT x.2 = true ∧ stampT x.2 = false) →
    printM false l d' ++ (lineL d ++ z :: R) = printM false l' d' ++ (lineL d ++ z :: R') → l = l' ∧ R = R'
  | [], [], R, R', _, _, h => by
    rw [printM, List.nil_append, List.nil_append] at h
    have := List.append_cancel_left h
    exact ⟨rfl, (List.cons.inj this).2⟩
  | [], y :: l', R, R', _, _, h => by
    rw [printM, printM, List.nil_append, if_neg (by simp)] at h
    exact absurd h (line_44 d z hz R _)
  | x :: l, [], R, R', _, _, h => by
    rw [printM, printM, List.nil_append, if_neg (by simp)] at h
    exact absurd h.symm (line_44 d z hz R' _)
  | (k, x) :: l, (k', y) :: l', R, R', hl, hl', h => by
    rw [printM, printM, printP, printP, if_neg (by simp)] at h
    simp only [List.append_assoc] at h
    have h := List.append_cancel_left (List.append_cancel_left h)
    obtain ⟨hx, hk, hg, hs⟩ := hl (k, x) (by simp)
    obtain ⟨hk', hg', hs'⟩ := hl' (k', y) (by simp)
    simp only [] at hx hk hg hs hk' hg' hs'
    obtain ⟨rfl, h1⟩ := quoteS_inj hk hk' h
    obtain ⟨rfl, h2⟩ := hx y d' _ _ hg hg' hs hs' (tail_M d' d z hz R l) (tail_M d' d z hz R' l') (List.append_cancel_left h1)
    obtain ⟨rfl, rfl⟩ := injM d' d z hz l l' R R' (fun x hx => hl x (by simp [hx])) (fun x hx => hl' x (by simp [hx])) h2
    exact ⟨rfl, rfl⟩
theorem open_ne (d' : Int) (X Y : Str) (z : UInt8) (hz : z = 93 ∨ z = 125) (hX : ∃ a y, X = a :: y ∧ cls a ≤ 6) : lineL d' ++ X ≠ z :: Y := by
  obtain ⟨a, y, rfl, ha⟩ := hX
  intro h
  have hc : cls z = 9 := by rcases hz with rfl | rfl <;> decide
  rcases line_head d' a y with h2 | ⟨y', h2⟩
  · rw [h2] at h
    have := (List.cons.inj h).1
    subst this
    omega
  · rw [h2] at h
    have := (List.cons.inj h).1
    subst this
    rcases hz with h3 | h3 <;> revert h3 <;> decide
theorem kindC_le {t : Tree} (hg : goodT t = true) (hs : stampT t = false) : kindC t.kind ≤ 6 := by
  unfold kindC
  rcases good_kinds hg hs with hk | ⟨hk, _⟩ | hk | ⟨hk, _⟩ | ⟨hk, _⟩ | hk | hk <;> rw [hk] <;> decide
theorem inj_tree : ∀ t : Tree, InjAt t := by
  refine Tree.ind fun t hl hm u d R R' hg hg' hs hs' hR hR' h => ?_
  obtain ⟨a, y, e1, c1⟩ := head_cls hg hs d
  obtain ⟨a', y', e2, c2⟩ := head_cls hg' hs' d
  have hc : kindC t.kind = kindC u.kind := by
    rw [e1, e2] at h
    have := (List.cons.inj h).1
    subst this
    rw [← c1, ← c2]
  clear e1 e2 c1 c2
  obtain ⟨o1, _, r1, gl1, gm1⟩ := goodT_spec hg
  obtain ⟨o2, _, r2, gl2, gm2⟩ := goodT_spec hg'
  obtain ⟨fn1, fs1, fl1, fm1⟩ := own_fields o1
  obtain ⟨fn2, fs2, fl2, fm2⟩ := own_fields o2
  obtain ⟨_, sl1, sm1⟩ := stampT_spec hs
  obtain ⟨_, sl2, sm2⟩ := stampT_spec hs'
  have k1 := good_kinds hg hs
  have k2 := good_kinds hg' hs'
  unfold kindC at hc
  -- a number's text
  have num : ∀ {v : Tree} {x : Str}, (v.kind = 2 ∧ x = Lib.itoa v.n) ∨ (v.kind = 3 ∧ x = v.s ∧ numL v.s = true) → Nc x := by
    rintro v x (⟨_, rfl⟩ | ⟨_, rfl, hn⟩)
    · exact nc_itoa _
    · exact nc_num hn
  rcases k1 with hk | ⟨hk, hn⟩ | hk | ⟨hk, hn, hi⟩ | ⟨hk, hn⟩ | hk | hk
  · have hu : u.kind = 0 := by rw [hk] at hc; split at hc <;> split at hc <;> omega
    rw [p0 hk, p0 hu] at h
    exact ⟨Tree.ext' (by omega) (by rw [fn1 (by omega) (by omega), fn2 (by omega) (by omega)]) (by rw [fs1 (by omega) (by omega) (by omega), fs2 (by omega) (by omega) (by omega)]) (by rw [fl1 (by omega), fl2 (by omega)]) (by rw [fm1 (by omega), fm2 (by omega)]), List.append_cancel_left h⟩
  · have hu : u.kind = 1 := by rw [hk] at hc; split at hc <;> split at hc <;> omega
    have hnu : u.n = 0 ∨ u.n = 1 := by
      rcases k2 with q | q | q | q | q | q | q <;> omega
    rw [p1 hk, p1 hu] at h
    have hh : t.n = u.n ∧ R = R' := by
      rcases hn with hn | hn <;> rcases hnu with hnu | hnu <;> rw [hn, hnu] at h ⊢
      · exact ⟨rfl, List.append_cancel_left h⟩
      · exact absurd (List.cons.inj (h : (102 : UInt8) :: _ = 116 :: _)).1 (by decide)
      · exact absurd (List.cons.inj (h : (116 : UInt8) :: _ = 102 :: _)).1 (by decide)
      · exact ⟨rfl, List.append_cancel_left h⟩
    exact ⟨Tree.ext' (by omega) hh.1 (by rw [fs1 (by omega) (by omega) (by omega), fs2 (by omega) (by omega) (by omega)]) (by rw [fl1 (by omega), fl2 (by omega)]) (by rw [fm1 (by omega), fm2 (by omega)]), hh.2⟩
  · have hu : u.kind = 2 ∨ u.kind = 3 := by rw [hk] at hc; split at hc <;> split at hc <;> omega
    rw [p2 hk] at h
    rcases hu with hu | hu
    · rw [p2 hu] at h
      obtain ⟨h1, h2⟩ := num_split (nc_itoa _) (nc_itoa _) hR hR' h
      exact ⟨Tree.ext' (by omega) (itoa_inj r1 r2 h1) (by rw [fs1 (by omega) (by omega) (by omega), fs2 (by omega) (by omega) (by omega)]) (by rw [fl1 (by omega), fl2 (by omega)]) (by rw [fm1 (by omega), fm2 (by omega)]), h2⟩
    · obtain ⟨hnu, hiu⟩ : numL u.s = true ∧ (refIntL u.s).2 = false := by
        rcases k2 with q | q | q | q | q | q | q <;> first | omega | exact q.2
      rw [p3 hu] at h
      obtain ⟨h1, h2⟩ := num_split (nc_itoa _) (nc_num hnu) hR hR' h
      rw [← h1] at hnu hiu
      rw [refInt_itoa r1 hnu] at hiu
      cases hiu
  · have hu : u.kind = 2 ∨ u.kind = 3 := by rw [hk] at hc; split at hc <;> split at hc <;> omega
    rw [p3 hk] at h
    rcases hu with hu | hu
    · rw [p2 hu] at h
      obtain ⟨h1, h2⟩ := num_split (nc_num hn) (nc_itoa _) hR hR' h
      rw [h1] at hn hi
      rw [refInt_itoa r2 hn] at hi
      cases hi
    · have hnu : numL u.s = true := by
        rcases k2 with q | q | q | q | q | q | q <;> first | omega | exact q.2.1
      rw [p3 hu] at h
      obtain ⟨h1, h2⟩ := num_split (nc_num hn) (nc_num hnu) hR hR' h
      exact ⟨Tree.ext' (by omega) (by rw [fn1 (by omega) (by omega), fn2 (by omega) (by omega)]) h1 (by rw [fl1 (by omega), fl2 (by omega)]) (by rw [fm1 (by omega), fm2 (by omega)]), h2⟩
  · have hu : u.kind = 4 := by rw [hk] at hc; split at hc <;> split at hc <;> omega
    have hnu : strOk u.s = true := by
      rcases k2 with q | q | q | q | q | q | q <;> first | omega | exact q.2
    rw [p4 hk, p4 hu] at h
    obtain ⟨h1, h2⟩ := quoteS_inj hn hnu h
    exact ⟨Tree.ext' (by omega) (by rw [fn1 (by omega) (by omega), fn2 (by omega) (by omega)]) h1 (by rw [fl1 (by omega), fl2 (by omega)]) (by rw [fm1 (by omega), fm2 (by omega)]), h2⟩
  · have hu : u.kind = 5 := by rw [hk] at hc; split at hc <;> split at hc <;> omega
    have hh : t.l = u.l ∧ R = R' := by
      rw [p5 hk, p5 hu] at h
      have ht : ∀ x ∈ t.l, InjAt x ∧ goodT x = true ∧ stampT x = false := fun x hx => ⟨hl x hx, gl1 x hx, sl1 x hx⟩
      have hu : ∀ x ∈ u.l, goodT x = true ∧ stampT x = false := fun x hx => ⟨gl2 x hx, sl2 x hx⟩
      generalize t.l = lt at *
      generalize u.l = lu at *
      cases lt with
      | nil =>
        cases lu with
        | nil => exact ⟨rfl, List.append_cancel_left h⟩
        | cons x l' =>
          rw [if_pos List.length_nil, if_neg (by simp), printL, if_pos rfl, List.nil_append] at h
          simp only [List.cons_append, List.append_assoc, List.nil_append] at h
          have h := (List.cons.inj h).2
          obtain ⟨a, y, e, c⟩ := head_cls (hu x (by simp)).1 (hu x (by simp)).2 (deeper d)
          exact absurd h.symm (open_ne _ _ _ 93 (by decide) ⟨a, y ++ _, by rw [e]; rfl, by have := kindC_le (hu x (by simp)).1 (hu x (by simp)).2; omega⟩)
      | cons x l =>
        cases lu with
        | nil =>
          rw [if_neg (by simp), if_pos List.length_nil, printL, if_pos rfl, List.nil_append] at h
          simp only [List.cons_append, List.append_assoc, List.nil_append] at h
          have h := (List.cons.inj h).2
          obtain ⟨a, y, e, c⟩ := head_cls (ht x (by simp)).2.1 (ht x (by simp)).2.2 (deeper d)
          exact absurd h (open_ne _ _ _ 93 (by decide) ⟨a, y ++ _, by rw [e]; rfl, by have := kindC_le (ht x (by simp)).2.1 (ht x (by simp)).2.2; omega⟩)
        | cons x' l' =>
          rw [if_neg (by simp), if_neg (by simp), printL, printL, if_pos rfl, List.nil_append] at h
          simp only [List.cons_append, List.append_assoc, List.nil_append] at h
          have h := List.append_cancel_left (List.cons.inj h).2
          obtain ⟨hx, q1, q2⟩ := ht x (by simp)
          obtain ⟨q3, q4⟩ := hu x' (by simp)
          obtain ⟨rfl, h2⟩ := hx x' (deeper d) _ _ q1 q3 q2 q4 (tail_L _ d 93 (by decide) R l) (tail_L _ d 93 (by decide) R' l') h
          obtain ⟨rfl, rfl⟩ := injL (deeper d) d 93 (by decide) l l' R R' (fun x hx => ht x (by simp [hx])) (fun x hx => hu x (by simp [hx])) h2
          exact ⟨rfl, rfl⟩
    exact ⟨Tree.ext' (by omega) (by rw [fn1 (by omega) (by omega), fn2 (by omega) (by omega)]) (by rw [fs1 (by omega) (by omega) (by omega), fs2 (by omega) (by omega) (by omega)]) hh.1 (by rw [fm1 (by omega), fm2 (by omega)]), hh.2⟩
  · have hu : u.kind = 6 := by rw [hk] at hc; split at hc <;> split at hc <;> omega
    have hh : t.m = u.m ∧ R = R' := by
      rw [p6 hk, p6 hu] at h
      have ht : ∀ x ∈ t.m, InjAt x.2 ∧ strOk x.1 = true ∧ goodT x.2 = true ∧ stampT x.2 = false := fun x hx => ⟨hm x hx, (gm1 x hx).1, (gm1 x hx).2, sm1 x hx⟩
      have hu : ∀ x ∈ u.m, strOk x.1 = true ∧ goodT x.2 = true ∧ stampT x.2 = false := fun x hx => ⟨(gm2 x hx).1, (gm2 x hx).2, sm2 x hx⟩
      generalize t.m = lt at *
      generalize u.m = lu at *
      cases lt with
      | nil =>
        cases lu with
        | nil => exact ⟨rfl, List.append_cancel_left h⟩
        | cons x l' =>
          obtain ⟨k', x⟩ := x
          rw [if_pos List.length_nil, if_neg (by simp), printM, printP, if_pos rfl, List.nil_append] at h
          simp only [List.cons_append, List.append_assoc, List.nil_append] at h
          have h := (List.cons.inj h).2
          exact absurd h.symm (open_ne _ _ _ 125 (by decide) ⟨34, _, rfl, by decide⟩)
      | cons x l =>
        obtain ⟨k, x⟩ := x
        cases lu with
        | nil =>
          rw [if_neg (by simp), if_pos List.length_nil, printM, printP, if_pos rfl, List.nil_append] at h
          simp only [List.cons_append, List.append_assoc, List.nil_append] at h
          have h := (List.cons.inj h).2
          exact absurd h (open_ne _ _ _ 125 (by decide) ⟨34, _, rfl, by decide⟩)
        | cons x' l' =>
          obtain ⟨k', x'⟩ := x'
          rw [if_neg (by simp), if_neg (by simp), printM, printM, printP, printP, if_pos rfl, List.nil_append] at h
          simp only [List.cons_append, List.append_assoc, List.nil_append] at h
          have h := List.append_cancel_left (List.cons.inj h).2
          obtain ⟨hx, q0, q1, q2⟩ := ht (k, x) (by simp)
          obtain ⟨q5, q3, q4⟩ := hu (k', x') (by simp)
          simp only [] at hx q0 q1 q2 q3 q4 q5
          obtain ⟨rfl, h1⟩ := quoteS_inj q0 q5 h
          obtain ⟨rfl, h2⟩ := hx x' (deeper d) _ _ q1 q3 q2 q4 (tail_M _ d 125 (by decide) R l) (tail_M _ d 125 (by decide) R' l') (List.append_cancel_left h1)
          obtain ⟨rfl, rfl⟩ := injM (deeper d) d 125 (by decide) l l' R R' (fun x hx => ht x (by simp [hx])) (fun x hx => hu x (by simp [hx])) h2
          exact ⟨rfl, rfl⟩
    exact ⟨Tree.ext' (by omega) (by rw [fn1 (by omega) (by omega), fn2 (by omega) (by omega)]) (by rw [fs1 (by omega) (by omega) (by omega), fs2 (by omega) (by omega) (by omega)]) (by rw [fl1 (by omega), fl2 (by omega)]) hh.1, hh.2⟩
theorem print_inj {t u : Tree} (hg : goodT t = true) (hg' : goodT u = true) (hs : stampT t = false) (hs' : stampT u = false) (d : Int) : printT t d = printT u d ↔ t = u := by
  refine ⟨fun h => ?_, fun h => by rw [h]⟩
  exact (inj_tree t u d [] [] hg hg' hs hs' (.inl rfl) (.inl rfl) (by rw [h])).1
end Go.Am
end

section
namespace Go.Proofs.YtaoejccgdpppgaaGreatDoor
open Go Go.Am
set_option maxRecDepth 100000
def StampIs (t : Tree) : Prop := AbsCall PP GG F.law9_stamped [.p t.enc] [] ⟨.ret (.p (.bool (stampT t))), [], []⟩
theorem stamp_loopL (t : Tree) (hw : t.wt ≤ 4000000) (R : Bool) (K : Post) (hl : ∀ x ∈ t.l, StampIs x)
    (h0 : R = false → K (.exit 0) [(1, .ptr 0 0)] [.var T.api_Value (.p t.enc)] [])
    (hr : R = true → K .ret [(2, .p (.bool true))] [.var T.api_Value (.p t.enc)] []) :
    ∀ (q i : Nat), i + q = t.l.length → stampL (t.l.drop i) = R →
      LoopW PP GG 35 0 (loopN F.law9_stamped_c 0) [(1, .ptr 0 0), (3, .p (.int .i64 i))] [.var T.api_Value (.p t.enc)] [] (PostCl 35 K) := by
  rw [Tree.enc_eta t] at h0 hr ⊢
  have hwl := t.wt_ll
  have hel : (Tree.encL t.l).length = t.l.length := Tree.encL_length _
  intro q
  induction q with
  | zero =>
    intro i hi hR
    rw [List.drop_eq_nil_of_le (by omega), stampL] at hR
    refine LoopW.round (pol := polG) mixP ?_
    conv => whnf
    repeat' (first
     | ((first | with_reducible refine Br.dec (fun hb => ?_) (fun hb => ?_) | with_reducible refine Br.ndec (fun hb => ?_) (fun hb => ?_)) <;> (try dsimp only at hb) <;> (try simp only [ZZ, hel] at hb) <;> (first | omega | contradiction | (conv => whnf)))
     | ((first | with_reducible refine Br.tt rfl ?_ | with_reducible refine Br.ff rfl ?_ | with_reducible refine Br.ff (isEmptyCons _ _) ?_); conv => whnf)
     | (refine Side.mk ?_ ?_; (focus (first | omega | (dsimp only [InR]; omega) | (dsimp only [Int.reduceToNat, IntKind.bits, Int.reducePow, InR]; omega) | (simp [PV.cells, PV.leaf, byteP]; done) | (constructor <;> omega))); conv => whnf)
     | (with_reducible refine Br.not ?_)
     | ((first | with_reducible refine Br.tt (by assumption) ?_ | with_reducible refine Br.ff (by assumption) ?_); conv => whnf)
     | (refine Br.mk (fun hb => ?_) (fun hb => ?_) <;> (try dsimp only at hb) <;> (try simp only [ZZ, hel] at hb) <;> (first | omega | contradiction | (conv => whnf)))
     | ((first | refine Src.whole ⟨rfl, rfl⟩ ?_ | refine FrzV.whole ?_); conv => whnf))
    · refine PostCl.of (h0 hR.symm) ?_ ?_
      · repeat (first | exact True.intro | refine And.intro (by first | exact VLe.refl _ | fail) ?_)
      · repeat (first | exact True.intro | refine And.intro (by decide) ?_)
  | succ q ih =>
    intro i hi hR
    obtain ⟨x, hx⟩ : ∃ x, t.l[i]? = some x := ⟨_, List.getElem?_eq_getElem (show i < t.l.length by omega)⟩
    rw [drop_cons hx, stampL] at hR
    have hsp := hl x (List.mem_of_getElem? hx)
    unfold StampIs at hsp
    rw [Tree.enc_eta x] at hsp
    refine LoopW.round (pol := polG) mixP ?_
    conv => whnf
    repeat' (first
     | ((first | with_reducible refine Br.dec (fun hb => ?_) (fun hb => ?_) | with_reducible refine Br.ndec (fun hb => ?_) (fun hb => ?_)) <;> (try dsimp only at hb) <;> (try simp only [ZZ, hel] at hb) <;> (first | omega | contradiction | (conv => whnf)))
     | ((first | with_reducible refine Br.tt rfl ?_ | with_reducible refine Br.ff rfl ?_ | with_reducible refine Br.ff (isEmptyCons _ _) ?_); conv => whnf)
     | (refine Side.mk ?_ ?_; (focus (first | omega | (dsimp only [InR]; omega) | (dsimp only [Int.reduceToNat, IntKind.bits, Int.reducePow, InR]; omega) | exact ⟨rfl, rfl⟩ | (simp [PV.cells, PV.leaf, byteP]; done) | (constructor <;> omega))); conv => whnf)
     | (with_reducible refine Br.not ?_)
     | ((first | with_reducible refine Br.tt (by assumption) ?_ | with_reducible refine Br.ff (by assumption) ?_); conv => whnf)
     | (refine Br.mk (fun hb => ?_) (fun hb => ?_) <;> (try dsimp only at hb) <;> (try simp only [ZZ, hel] at hb) <;> (first | omega | contradiction | (conv => whnf)))
     | ((first | refine Src.whole ⟨rfl, rfl⟩ ?_ | refine FrzV.whole ?_); conv => whnf)
     | ((first | refine CallW.use (hsp) ?_); conv => whnf)
     | (refine ElemZ.tree (l := t.l) (by simpa using hx) ?_; (rw [Tree.enc_eta x]; conv => whnf)))
    · rw [hb, Bool.true_or] at hR
      refine PostCl.of (hr hR.symm) ?_ ?_
      · repeat (first | exact True.intro | refine And.intro (by first | exact VLe.refl _ | fail) ?_)
      · repeat (first | exact True.intro | refine And.intro (by decide) ?_)
    · rw [hb, Bool.false_or] at hR
      refine LoopW.sub (ih (i + 1) (by omega) hR) (by repeat (first | exact True.intro | refine And.intro (by first | exact VLe.refl _ | fail) ?_)) (by repeat (first | exact True.intro | refine And.intro (by decide) ?_))
theorem stamp_loopM (t : Tree) (hw : t.wt ≤ 4000000) (R : Bool) (K : Post) (hl : ∀ x ∈ t.m, StampIs x.2)
    (h0 : R = false → K (.exit 2) [] [.var T.api_Value (.p t.enc)] [])
    (hr : R = true → K .ret [(2, .p (.bool true))] [.var T.api_Value (.p t.enc)] []) :
    ∀ (q i : Nat), i + q = t.m.length → stampM (t.m.drop i) = R →
      LoopW PP GG 35 0 (loopN F.law9_stamped_c 1) [(1, .ptr 0 0), (4, .p (.int .i64 i))] [.var T.api_Value (.p t.enc)] [] (PostCl 35 K) := by
  rw [Tree.enc_eta t] at h0 hr ⊢
  have hwl := t.wt_ml
  have hel : (Tree.encM t.m).length = t.m.length := Tree.encM_length _
  intro q
  induction q with
  | zero =>
    intro i hi hR
    rw [List.drop_eq_nil_of_le (by omega), stampM] at hR
    refine LoopW.round (pol := polG) mixP ?_
    conv => whnf
    repeat' (first
     | ((first | with_reducible refine Br.dec (fun hb => ?_) (fun hb => ?_) | with_reducible refine Br.ndec (fun hb => ?_) (fun hb => ?_)) <;> (try dsimp only at hb) <;> (try simp only [ZZ, hel] at hb) <;> (first | omega | contradiction | (conv => whnf)))
     | ((first | with_reducible refine Br.tt rfl ?_ | with_reducible refine Br.ff rfl ?_ | with_reducible refine Br.ff (isEmptyCons _ _) ?_); conv => whnf)
     | (refine Side.mk ?_ ?_; (focus (first | omega | (dsimp only [InR]; omega) | (dsimp only [Int.reduceToNat, IntKind.bits, Int.reducePow, InR]; omega) | (simp [PV.cells, PV.leaf, byteP]; done) | (constructor <;> omega))); conv => whnf)
     | (with_reducible refine Br.not ?_)
     | ((first | with_reducible refine Br.tt (by assumption) ?_ | with_reducible refine Br.ff (by assumption) ?_); conv => whnf)
     | (refine Br.mk (fun hb => ?_) (fun hb => ?_) <;> (try dsimp only at hb) <;> (try simp only [ZZ, hel] at hb) <;> (first | omega | contradiction | (conv => whnf)))
     | ((first | refine Src.whole ⟨rfl, rfl⟩ ?_ | refine FrzV.whole ?_); conv => whnf))
    · refine PostCl.of (h0 hR.symm) ?_ ?_
      · repeat (first | exact True.intro | refine And.intro (by first | exact VLe.refl _ | fail) ?_)
      · repeat (first | exact True.intro | refine And.intro (by decide) ?_)
  | succ q ih =>
    intro i hi hR
    obtain ⟨x, hx⟩ : ∃ x, t.m[i]? = some x := ⟨_, List.getElem?_eq_getElem (show i < t.m.length by omega)⟩
    have hsp := hl x (List.mem_of_getElem? hx)
    obtain ⟨k, y⟩ := x
    rw [drop_cons hx, stampM, stampP] at hR
    unfold StampIs at hsp
    simp only [] at hsp
    rw [Tree.enc_eta y] at hsp
    refine LoopW.round (pol := polG) mixP ?_
    conv => whnf
    repeat' (first
     | ((first | with_reducible refine Br.dec (fun hb => ?_) (fun hb => ?_) | with_reducible refine Br.ndec (fun hb => ?_) (fun hb => ?_)) <;> (try dsimp only at hb) <;> (try simp only [ZZ, hel] at hb) <;> (first | omega | contradiction | (conv => whnf)))
     | ((first | with_reducible refine Br.tt rfl ?_ | with_reducible refine Br.ff rfl ?_ | with_reducible refine Br.ff (isEmptyCons _ _) ?_); conv => whnf)
     | (refine Side.mk ?_ ?_; (focus (first | omega | (dsimp only [InR]; omega) | (dsimp only [Int.reduceToNat, IntKind.bits, Int.reducePow, InR]; omega) | exact ⟨rfl, rfl⟩ | (simp [PV.cells, PV.leaf, byteP]; done) | (constructor <;> omega))); conv => whnf)
     | (with_reducible refine Br.not ?_)
     | ((first | with_reducible refine Br.tt (by assumption) ?_ | with_reducible refine Br.ff (by assumption) ?_); conv => whnf)
     | (refine Br.mk (fun hb => ?_) (fun hb => ?_) <;> (try dsimp only at hb) <;> (try simp only [ZZ, hel] at hb) <;> (first | omega | contradiction | (conv => whnf)))
     | ((first | refine Src.whole ⟨rfl, rfl⟩ ?_ | refine FrzV.whole ?_); conv => whnf)
     | ((first | refine CallW.use (hsp) ?_); conv => whnf)
     | (refine ElemZ.pairE (k := k) (y := y) (by simpa using hx) ?_; conv => whnf))
    · rw [hb, Bool.true_or] at hR
      refine PostCl.of (hr hR.symm) ?_ ?_
      · repeat (first | exact True.intro | refine And.intro (by first | exact VLe.refl _ | fail) ?_)
      · repeat (first | exact True.intro | refine And.intro (by decide) ?_)
    · rw [hb, Bool.false_or] at hR
      refine LoopW.sub (ih (i + 1) (by omega) hR) (by repeat (first | exact True.intro | refine And.intro (by first | exact VLe.refl _ | fail) ?_)) (by repeat (first | exact True.intro | refine And.intro (by decide) ?_))
theorem law9_stamped : ∀ t : Tree, t.wt ≤ 4000000 → StampIs t := by
  refine Tree.indW fun t hw hl hm => ?_
  have hS := stampT_eq t
  have hlL := stamp_loopL t hw
  have hlM := stamp_loopM t hw
  unfold StampIs
  generalize stampT t = R at hS ⊢
  rw [Tree.enc_eta t] at hlL hlM ⊢
  refine absCall_of (pol := polG) mixP F.law9_stamped_is ?_
  conv => whnf
  repeat' (first
   | ((first | with_reducible refine Br.dec (fun hb => ?_) (fun hb => ?_) | with_reducible refine Br.ndec (fun hb => ?_) (fun hb => ?_)) <;> (try dsimp only at hb) <;> (try simp only [ZZ] at hb) <;> (first | omega | contradiction | (conv => whnf)))
   | ((first | with_reducible refine Br.tt rfl ?_ | with_reducible refine Br.ff rfl ?_ | with_reducible refine Br.ff (isEmptyCons _ _) ?_); conv => whnf)
   | (refine Side.mk ?_ ?_; (focus (first | omega | (dsimp only [InR]; omega) | (dsimp only [Int.reduceToNat, IntKind.bits, Int.reducePow, InR]; omega) | (simp [PV.cells, PV.leaf, byteP]; done) | (constructor <;> omega))); conv => whnf)
   | (with_reducible refine Br.not ?_)
   | ((first | with_reducible refine Br.tt (by assumption) ?_ | with_reducible refine Br.ff (by assumption) ?_); conv => whnf)
   | (refine Br.mk (fun hb => ?_) (fun hb => ?_) <;> (try dsimp only at hb) <;> (try simp only [ZZ] at hb) <;> (first | omega | contradiction | (conv => whnf)))
   | ((first | refine Src.whole ⟨rfl, rfl⟩ ?_ | refine FrzV.whole ?_); conv => whnf))
  · rw [decide_eq_true hb, Bool.true_or] at hS
    exact CLe.retP (by rw [hS])
  · rw [decide_eq_false hb, Bool.false_or] at hS
    refine LoopW.cl ?_
    refine LoopW.sub (hlL (stampL t.l) _ (fun x hx => (hl x hx).2) (fun h => ?_) (fun h => ?_) t.l.length 0 (by omega) rfl) (by repeat (first | exact True.intro | refine And.intro (by first | exact VLe.refl _ | fail) ?_)) (by repeat (first | exact True.intro | refine And.intro (by decide) ?_))
    · conv => whnf
      rw [h, Bool.false_or] at hS
      repeat' (first
       | ((first | with_reducible refine Br.dec (fun hb => ?_) (fun hb => ?_) | with_reducible refine Br.ndec (fun hb => ?_) (fun hb => ?_)) <;> (try dsimp only at hb) <;> (try simp only [ZZ] at hb) <;> (first | omega | contradiction | (conv => whnf)))
       | ((first | with_reducible refine Br.tt rfl ?_ | with_reducible refine Br.ff rfl ?_ | with_reducible refine Br.ff (isEmptyCons _ _) ?_); conv => whnf)
       | (refine Side.mk ?_ ?_; (focus (first | omega | (dsimp only [InR]; omega) | (dsimp only [Int.reduceToNat, IntKind.bits, Int.reducePow, InR]; omega) | (simp [PV.cells, PV.leaf, byteP]; done) | (constructor <;> omega))); conv => whnf)
       | (with_reducible refine Br.not ?_)
       | ((first | with_reducible refine Br.tt (by assumption) ?_ | with_reducible refine Br.ff (by assumption) ?_); conv => whnf)
       | (refine Br.mk (fun hb => ?_) (fun hb => ?_) <;> (try dsimp only at hb) <;> (try simp only [ZZ] at hb) <;> (first | omega | contradiction | (conv => whnf)))
       | ((first | refine Src.whole ⟨rfl, rfl⟩ ?_ | refine FrzV.whole ?_); conv => whnf))
      refine LoopW.cl ?_
      refine LoopW.sub (hlM R _ (fun x hx => (hm x hx).2.2) (fun h => ?_) (fun h => ?_) t.m.length 0 (by omega) hS.symm) (by repeat (first | exact True.intro | refine And.intro (by first | exact VLe.refl _ | fail) ?_)) (by repeat (first | exact True.intro | refine And.intro (by decide) ?_))
      · conv => whnf
        exact CLe.retP (by rw [h])
      · conv => whnf
        exact CLe.retP (by rw [h])
    · conv => whnf
      rw [h, Bool.true_or] at hS
      exact CLe.retP (by rw [hS])
theorem law9_JprintApart (a b : Tree) (hwa : a.wt ≤ 1100000) (hoa : okT a = true) (hwb : b.wt ≤ 1100000) (hob : okT b = true) : AbsCall PP GG F.law9_JprintApart [.p a.enc, .p b.enc] [] ⟨.ret (.p (.bool true)), [], []⟩ := by
  have hCa := jprint_Compact a hwa hoa
  have hIa := jprint_Indent a hwa hoa
  have hCb := jprint_Compact b hwb hob
  have hIb := jprint_Indent b hwb hob
  rw [textT_eq] at hCa hIa hCb hIb
  have hHa := ref1_Heavy a 150 32 (by omega) (by omega) (by omega)
  have hHb := ref1_Heavy b 150 32 (by omega) (by omega) (by omega)
  have hVa := ref1_Value a (by omega)
  have hVb := ref1_Value b (by omega)
  have hSa := law9_stamped a (by omega)
  have hSb := law9_stamped b (by omega)
  have hS := ref1_Same a (by omega) b (by omega)
  unfold StampIs at hSa hSb
  by_cases hc : (!(steep a 32 4096).1 && plainT a) = true ∧ (!(steep b 32 4096).1 && plainT b) = true ∧ stampT a = false ∧ stampT b = false
  · obtain ⟨h1, h2, h3, h4⟩ := hc
    have key : ∀ d, decide (printT a d = printT b d) = sameT a b := by
      intro d
      rw [Bool.and_eq_true] at h1 h2
      have hga : goodT a = true := by unfold goodT; rw [h1.2, hoa]; rfl
      have hgb : goodT b = true := by unfold goodT; rw [h2.2, hob]; rfl
      have hi := print_inj hga hgb h3 h4 d
      have hs := sameT_iff a b
      cases hq : sameT a b with
      | true => rw [decide_eq_true (hi.2 (hs.1 hq))]
      | false => rw [decide_eq_false (fun h => by rw [hs.2 (hi.1 h)] at hq; cases hq)]
    rw [h1] at hVa hCa hIa
    rw [h2] at hVb hCb hIb
    rw [h3] at hSa
    rw [h4] at hSb
    rw [if_pos rfl] at hCa hIa hCb hIb
    rw [Tree.enc_eta a] at hCa hIa hHa hVa hSa hS ⊢
    rw [Tree.enc_eta b] at hCb hIb hHb hVb hSb hS ⊢
    have k1 := key (dd false 0)
    have k2 := key (dd true 0)
    generalize printT a (dd false 0) = x1 at *
    generalize printT b (dd false 0) = x2 at *
    generalize printT a (dd true 0) = x3 at *
    generalize printT b (dd true 0) = x4 at *
    refine absCall_of (pol := polG) mixP F.law9_JprintApart_is ?_
    conv => whnf
    repeat' (first
     | ((first | with_reducible refine Br.dec (fun hb => ?_) (fun hb => ?_) | with_reducible refine Br.ndec (fun hb => ?_) (fun hb => ?_)) <;> (try dsimp only at hb) <;> (try simp only [ZZ] at hb) <;> (first | omega | contradiction | (conv => whnf)))
     | ((first | with_reducible refine Br.tt rfl ?_ | with_reducible refine Br.ff rfl ?_ | with_reducible refine Br.ff (isEmptyCons _ _) ?_); conv => whnf)
     | (refine Side.mk ?_ ?_; (focus (first | omega | (dsimp only [InR]; omega) | (dsimp only [Int.reduceToNat, IntKind.bits, Int.reducePow, InR]; omega) | (simp [PV.cells, PV.leaf, byteP]; done) | (constructor <;> omega))); conv => whnf)
     | (with_reducible refine Br.not ?_)
     | ((first | with_reducible refine Br.tt (by assumption) ?_ | with_reducible refine Br.ff (by assumption) ?_); conv => whnf)
     | (refine Br.mk (fun hb => ?_) (fun hb => ?_) <;> (try dsimp only at hb) <;> (try simp only [ZZ] at hb) <;> (first | omega | contradiction | (conv => whnf)))
     | ((first | refine Src.whole ⟨rfl, rfl⟩ ?_ | refine FrzV.whole ?_); conv => whnf)
     | ((first | refine CallW.use (law9_awake) ?_ | refine CallW.use (hHa) ?_ | refine CallW.use (hHb) ?_ | refine CallW.use (hVa) ?_ | refine CallW.use (hVb) ?_ | refine CallW.use (hSa) ?_ | refine CallW.use (hSb) ?_ | refine CallW.use (hS) ?_ | refine CallW.use (hCa) ?_ | refine CallW.use (hCb) ?_ | refine CallW.use (hIa) ?_ | refine CallW.use (hIb) ?_); conv => whnf))
    all_goals
      first
      | exact CLe.retP rfl
      | exact CLe.retP (by rw [k2]; simp)
      | exact absurd ‹(decide (x1 = x2) == sameT a b) = false› (by rw [k1]; simp)
  · rw [Tree.enc_eta a] at hHa hVa hSa ⊢
    rw [Tree.enc_eta b] at hHb hVb hSb ⊢
    refine absCall_of (pol := polG) mixP F.law9_JprintApart_is ?_
    conv => whnf
    repeat' (first
     | ((first | with_reducible refine Br.dec (fun hb => ?_) (fun hb => ?_) | with_reducible refine Br.ndec (fun hb => ?_) (fun hb => ?_)) <;> (try dsimp only at hb) <;> (try simp only [ZZ] at hb) <;> (first | omega | contradiction | (conv => whnf)))
     | ((first | with_reducible refine Br.tt rfl ?_ | with_reducible refine Br.ff rfl ?_ | with_reducible refine Br.ff (isEmptyCons _ _) ?_); conv => whnf)
     | (refine Side.mk ?_ ?_; (focus (first | omega | (dsimp only [InR]; omega) | (dsimp only [Int.reduceToNat, IntKind.bits, Int.reducePow, InR]; omega) | (simp [PV.cells, PV.leaf, byteP]; done) | (constructor <;> omega))); conv => whnf)
     | (with_reducible refine Br.not ?_)
     | ((first | with_reducible refine Br.tt (by assumption) ?_ | with_reducible refine Br.ff (by assumption) ?_); conv => whnf)
     | (refine Br.mk (fun hb => ?_) (fun hb => ?_) <;> (try dsimp only at hb) <;> (try simp only [ZZ] at hb) <;> (first | omega | contradiction | (conv => whnf)))
     | ((first | refine Src.whole ⟨rfl, rfl⟩ ?_ | refine FrzV.whole ?_); conv => whnf)
     | ((first | refine CallW.use (law9_awake) ?_ | refine CallW.use (hHa) ?_ | refine CallW.use (hHb) ?_ | refine CallW.use (hVa) ?_ | refine CallW.use (hVb) ?_ | refine CallW.use (hSa) ?_ | refine CallW.use (hSb) ?_); conv => whnf))
    all_goals
      first
      | exact CLe.retP rfl
      | exact absurd ⟨by rw [Bool.and_eq_true, Bool.not_eq_true']; assumption, by rw [Bool.and_eq_true, Bool.not_eq_true']; assumption, by assumption, by assumption⟩ hc
end Go.Proofs.YtaoejccgdpppgaaGreatDoor
end

section
namespace Go.Proofs.YtaoejccgdpppgaaGreatDoor
open Go.ChangeShapes Go.WideShapes Go.ChangeAt Go.RowKit Go.Am
set_option maxRecDepth 100000
theorem jprintApart_contract (H : Type) (enc : TypeId × Value → H) (W : World) (args : Array Value) (ds gs : List (DataW H)) (before : List MemPlace)
    (hW : DataW.Whole enc PP Tryz.f5.params.toList Rows.jprintApartSpec.vars false W args.toList ds gs before) (hL : laidMetH PP Rows.jprintApartRow.laid W) (hk : Rows.uptoBulkAll ds ≤ 1048576) :
    Calls PP F.law9_JprintApart args W fun e W' => ∃ v, e = .returned v ∧ Rows.jprintApartSpec.post enc PP Tryz.f5 false true false false W args v W' := by
  have hW' := hW
  have hlt := hW.lt
  obtain ⟨p, q, hA0, hV, rfl, hfz, hnd⟩ := hW
  have hA : DataW.TrodAll enc PP W 0 (fun _ => true) true Tryz.f5.params.toList args.toList ds p := hA0
  rw [Tryz.params5] at hA
  obtain ⟨v0, vs0, d0, ds0, p0, q0, hargs, rfl, rfl, h0, r0⟩ := trodAll_cons hA
  obtain ⟨v1, vs1, d1, ds1, p1, q1, rfl, rfl, rfl, h1, r1⟩ := trodAll_cons r0
  obtain ⟨rfl, rfl, rfl⟩ := trodAll_nil r1
  obtain rfl : args = #[v0, v1] := by cases args; simp_all
  obtain ⟨rfl, rfl⟩ := trodVars_none hV
  clear hA0
  simp only [List.append_nil] at hW' hlt
  simp only [Rows.uptoBulkAll] at hk
  obtain ⟨t0, hr0, hok0, hwt0⟩ := tree_rel h0
  obtain ⟨t1, hr1, hok1, hwt1⟩ := tree_rel h1
  refine (law_call (f := F.law9_JprintApart) (ds := [t0.enc, t1.enc]) (vs := [v0, v1]) Tryz.func5 (by kernel_rfl) rfl (fun i x y hx hy => ?_) (gok_of hL (by rw [pow10_lit]; rfl) rfl rfl) (law9_JprintApart t0 t1 (by omega) hok0 (by omega) hok1)).mono fun e W' ⟨he, hb⟩ => ?_
  · rcases i with _ | _ | i
    · cases hx; cases hy; exact hr0
    · cases hx; cases hy; exact hr1
    · simp at hx
  · subst he
    have b := Tryz.underlying4
    exact ⟨_, rfl, post_of_below (pa := p0 ++ p1) (pv := []) hW' (fun _ _ _ => trodAll_cons_mk (shut_bool b _) trodAll_mk0)
      (fun sp hs => trodAll_mk2 (tree_stays h0 hb (fun x hx => hlt x (by simp [hx])) (fun x hx => hs x (by simp [hx]))) (tree_stays h1 hb (fun x hx => hlt x (by simp [hx])) (fun x hx => hs x (by simp [hx]))))
      (fun _ _ => rfl) (by simp) hb (ok_one (by kernel_rfl) rfl (okWide_bool_mk b _))⟩
theorem jprintApart_reads (os : Os) {H : Type} (enc : TypeId × Value → H) : ∃ places, DataW.whole enc PP ((World.laidAll PP os Rows.jprintApartUptoRow.laid).forCall (fun _ _ => 0) ⟨#[], #[nullV, nullV], []⟩).memory Tryz.f5.params.toList Rows.jprintApartSpec.vars false (#[nullV, nullV] : Array Value).toList 8 = some ([nullD, nullD], [], places) :=
  ⟨[], by kernel_rfl⟩
theorem jprintApart_lifted (os : Os) (started : os.Started) (H : Type) (enc : TypeId × Value → H) (Fi : Stop.Interp) :
    ReturnsInHanded {} Tryz.checked os F.law9_JprintApart .any ((Rows.OpenSpec.upto Rows.jprintApartSpec).preRow enc PP Tryz.f5 Rows.jprintApartUptoRow.domain false Rows.jprintApartUptoRow.laid) (((Rows.OpenSpec.upto Rows.jprintApartSpec).at Fi).post enc PP Tryz.f5 false true false false) := by
  obtain ⟨places, hx⟩ := jprintApart_reads os enc
  refine returnsInHanded_of_row (C := Tryz.checked) (s := Rows.OpenSpec.upto Rows.jprintApartSpec) own started (by kernel_rfl) Tryz.func5
    (witness_row_atRef (enc := enc) (C := Tryz.checked) false (World.laidAll PP os Rows.jprintApartUptoRow.laid) #[nullV, nullV] (World.laidAll_os _ _ _) (by kernel_rfl) (by kernel_rfl) (by kernel_rfl)
      (OpenSpec.preRow_of_cond 8 hx (by kernel_rfl) (fun k hk => by cases hk; kernel_rfl) (by kernel_rfl) (laidMet_laidAll _ (by kernel_rfl) (by kernel_rfl)))) ?_
  intro W base args ds gs before hval hW _ hcond _ hL _ _
  have hk := of_decide_eq_true (hcond _ rfl)
  refine jprintApart_contract H enc W args ds gs before hW hL (Nat.le_trans ?_ hk)
  rw [bulk_append]
  exact Nat.le_add_right _ _
theorem jprintApart_said : Rows.JprintApartUptoSaid :=
  OpenClaim.holds_of_cond F.law9_JprintApart Tryz.f5 rfl rfl rfl rfl rfl rfl rfl ⟨rfl, rfl, rfl, rfl, rfl⟩ rfl rfl rfl rfl rfl (by kernel_rfl) Tryz.func5 (by kernel_rfl)
    (of_decide_eq_true (by kernel_rfl)) (by unfold Func.isWrapper; first | (rw [if_pos (by decide +kernel)]; kernel_rfl) | (rw [if_neg (by decide +kernel)]; exact ⟨rfl, rfl⟩))
    (fun os started H enc _ Fi => by rw [OpenClaim.pre_eq_preRow]; exact jprintApart_lifted os started H enc Fi)
theorem jprintApart_plain (f : FuncId) (fn : Func) (hf : Tryz.pinned.checked.prog.funcNamed "dragoman/dragomanlaw9.JprintApart" = some f) (hfn : Tryz.pinned.checked.prog.funcs[f]? = some fn) :
    true = Tryz.pinned.checked.prog.looks [] ∧ ∀ (j : Nat) t, fn.params[j]? = some t → Tryz.pinned.checked.prog.wantsStandIn t = false := by
  obtain rfl : f = F.law9_JprintApart := Option.some.inj ((show PP.funcNamed "dragoman/dragomanlaw9.JprintApart" = some F.law9_JprintApart by kernel_rfl).symm.trans hf) |>.symm
  obtain rfl : fn = Tryz.f5 := (Option.some.inj (Tryz.func5.symm.trans hfn)).symm
  refine ⟨by kernel_rfl, fun j t ht => ?_⟩
  rw [Tryz.params5] at ht
  obtain rfl : t = T.api_Value := by simpa using Array.mem_of_getElem? ht
  exact (show PP.wantsStandIn T.api_Value = false by kernel_rfl)
theorem jprintApart_card : Rows.JprintApartUptoCardSaid :=
  Claim7.holds_tied_plain_at .later [] _ _ _ _ jprintApart_said (fun _ h => by cases h) (by kernel_rfl) (fun _ h => by cases h) jprintApartUpto_row_tie rfl ⟨rfl, rfl⟩ (by kernel_rfl) rfl jprintApart_plain (by kernel_rfl)
end Go.Proofs.YtaoejccgdpppgaaGreatDoor
end
