/-
The walk through values: Copy, whole; path.Set.
-/
import Derived.Test.YthkoefpidnphpaaGreatDoorPH
import Derived.Test.YthkoefpidnphpaaGreatDoorPG
import Derived.Test.YthkoefpidnphpaaGreatDoorPF

section
namespace Go.Proofs.YthkoefpidnphpaaGreatDoor
open Go Go.Am Go.RowKit
set_option maxRecDepth 100000
theorem value_Copy : ∀ t : Tree, t.wt ≤ 4000000 → CopyIs t := by
  refine Tree.indW fun t hw hl hm hp _ => ?_
  have hml := t.wt_ml
  have hll := t.wt_ll
  obtain ⟨ho5, ho6⟩ := plain_own hp
  have hsub : plainL t.l = true ∧ plainM none t.m = true := by
    obtain ⟨k, n, z, l, m⟩ := t
    rw [plainT] at hp
    split at hp
    · cases hp
    · rw [Bool.and_eq_true, Bool.and_eq_true] at hp
      exact hp.2
  have hcl : ∀ x ∈ t.l, AbsCall PP GG F.value_Copy [.p x.enc] [] ⟨.ret (.p x.enc), [], []⟩ := fun x hx => (hl x hx).2 (plainL_mem hsub.1 x hx) (by have := Tree.wt_l hx; omega)
  have hcm : ∀ x ∈ t.m, AbsCall PP GG F.value_Copy [.p x.2.enc] [] ⟨.ret (.p x.2.enc), [], []⟩ := fun x hx => (hm x hx).2.2 (plainM_mem hsub.2 x hx).2 (by have := Tree.wt_m hx; omega)
  obtain ⟨k, n, s, l, m⟩ := t
  simp only [Tree.kind, Tree.m, Tree.l] at *
  rw [Tree.enc_eta (Tree.mk k n s l m)]
  simp only [Tree.kind, Tree.n, Tree.s, Tree.m, Tree.l]
  have hel : (Tree.encL l).length = l.length := Tree.encL_length _
  have hem : (Tree.encM m).length = m.length := Tree.encM_length _
  by_cases hln : l = []
  · subst hln
    by_cases hmn : m = []
    · subst hmn
      show AbsCall PP GG F.value_Copy [.p (.agg [.int .i64 k, .int .i64 n, .str s, .lst false [], .lst false []])] [] ⟨.ret (.p (.agg [.int .i64 k, .int .i64 n, .str s, .lst false [], .lst false []])), [], []⟩
      refine absCall_of (pol := polG) mixP F.value_Copy_is ?_
      conv => whnf
      repeat' ((first
       | ((with_reducible first | refine Br.dec ?_ ?_ | refine Br.ndec ?_ ?_) <;> intro hb <;> (try simp only [ZZ] at hb) <;> (first | omega | contradiction | skip))
       | (with_reducible first | refine Br.tt rfl ?_ | refine Br.ff rfl ?_ | refine Br.ff (isEmptyCons _ _) ?_)
       | ((with_reducible first | refine Side.mk ?_ ?_ | refine WrapW.mk ?_ ?_); focus (first | omega | (dsimp only [InR, Int.reduceToNat, IntKind.bits, Int.reducePow]; omega) | (simp [CC]; done) | (constructor <;> omega)))
       | with_reducible refine Br.not ?_
       | (with_reducible first | refine Br.tt (by assumption) ?_ | refine Br.ff (by assumption) ?_)
       | (refine Br.mk ?_ ?_ <;> intro hb <;> (try simp only [ZZ] at hb) <;> (first | omega | contradiction | skip))
       | refine Src.whole ⟨rfl, rfl⟩ ?_ | refine FrzV.whole ?_
       | refine CallW.use (clone_vals0) ?_
       | refine CallW.use (clone_pairs0) ?_) <;> conv => whnf)
      refine LoopW.cl ?_
      refine LoopW.sub (copy_zeroL _ _ ?_) (by repeat first | exact trivial | refine ⟨VLe.refl _, ?_⟩) (by repeat first | exact trivial | refine ⟨by decide, ?_⟩)
      conv => whnf
      repeat' ((first
       | ((with_reducible first | refine Br.dec ?_ ?_ | refine Br.ndec ?_ ?_) <;> intro hb <;> (try simp only [ZZ] at hb) <;> (first | omega | contradiction | skip))
       | (with_reducible first | refine Br.tt rfl ?_ | refine Br.ff rfl ?_ | refine Br.ff (isEmptyCons _ _) ?_)
       | ((with_reducible first | refine Side.mk ?_ ?_ | refine WrapW.mk ?_ ?_); focus (first | omega | (dsimp only [InR, Int.reduceToNat, IntKind.bits, Int.reducePow]; omega) | (simp [CC]; done) | (constructor <;> omega)))
       | with_reducible refine Br.not ?_
       | (with_reducible first | refine Br.tt (by assumption) ?_ | refine Br.ff (by assumption) ?_)
       | (refine Br.mk ?_ ?_ <;> intro hb <;> (try simp only [ZZ] at hb) <;> (first | omega | contradiction | skip))
       | refine Src.whole ⟨rfl, rfl⟩ ?_ | refine FrzV.whole ?_) <;> conv => whnf)
      refine LoopW.cl ?_
      refine LoopW.sub (copy_zeroM _ _ ?_) (by repeat first | exact trivial | refine ⟨VLe.refl _, ?_⟩) (by repeat first | exact trivial | refine ⟨by decide, ?_⟩)
      conv => whnf
      repeat' ((first
       | ((with_reducible first | refine Br.dec ?_ ?_ | refine Br.ndec ?_ ?_) <;> intro hb <;> (try simp only [ZZ] at hb) <;> (first | omega | contradiction | skip))
       | (with_reducible first | refine Br.tt rfl ?_ | refine Br.ff rfl ?_ | refine Br.ff (isEmptyCons _ _) ?_)
       | ((with_reducible first | refine Side.mk ?_ ?_ | refine WrapW.mk ?_ ?_); focus (first | omega | (dsimp only [InR, Int.reduceToNat, IntKind.bits, Int.reducePow]; omega) | (simp [CC]; done) | (constructor <;> omega)))
       | with_reducible refine Br.not ?_
       | (with_reducible first | refine Br.tt (by assumption) ?_ | refine Br.ff (by assumption) ?_)
       | (refine Br.mk ?_ ?_ <;> intro hb <;> (try simp only [ZZ] at hb) <;> (first | omega | contradiction | skip))
       | refine Src.whole ⟨rfl, rfl⟩ ?_ | refine FrzV.whole ?_) <;> conv => whnf)
      exact CLe.eq rfl
    · have hD := clone_pairs m hmn (by omega)
      have hlp := copy_loopM k n s m (by omega) hcm
      show AbsCall PP GG F.value_Copy [.p (.agg [.int .i64 k, .int .i64 n, .str s, .lst false [], .lst false (Tree.encM m)])] [] ⟨.ret (.p (.agg [.int .i64 k, .int .i64 n, .str s, .lst false [], .lst false (Tree.encM m)])), [], []⟩
      rw [← hem] at hlp
      generalize Tree.encM m = es at *
      refine absCall_of (pol := polG) mixP F.value_Copy_is ?_
      conv => whnf
      repeat' ((first
       | ((with_reducible first | refine Br.dec ?_ ?_ | refine Br.ndec ?_ ?_) <;> intro hb <;> (try simp only [And.intro @hem (ZZ)] at hb) <;> (first | omega | contradiction | skip))
       | (with_reducible first | refine Br.tt rfl ?_ | refine Br.ff rfl ?_ | refine Br.ff (isEmptyCons _ _) ?_)
       | ((with_reducible first | refine Side.mk ?_ ?_ | refine WrapW.mk ?_ ?_); focus (first | omega | (dsimp only [InR, Int.reduceToNat, IntKind.bits, Int.reducePow]; omega) | (simp [CC]; done) | (constructor <;> omega)))
       | with_reducible refine Br.not ?_
       | (with_reducible first | refine Br.tt (by assumption) ?_ | refine Br.ff (by assumption) ?_)
       | (refine Br.mk ?_ ?_ <;> intro hb <;> (try simp only [And.intro @hem (ZZ)] at hb) <;> (first | omega | contradiction | skip))
       | refine Src.whole ⟨rfl, rfl⟩ ?_ | refine FrzV.whole ?_
       | refine CallW.use (clone_vals0) ?_
       | refine CallW.use (hD) ?_) <;> conv => whnf)
      refine LoopW.cl ?_
      refine LoopW.sub (copy_zeroL _ _ ?_) (by repeat first | exact trivial | refine ⟨VLe.refl _, ?_⟩) (by repeat first | exact trivial | refine ⟨by decide, ?_⟩)
      conv => whnf
      repeat' ((first
       | ((with_reducible first | refine Br.dec ?_ ?_ | refine Br.ndec ?_ ?_) <;> intro hb <;> (try simp only [ZZ] at hb) <;> (first | omega | contradiction | skip))
       | (with_reducible first | refine Br.tt rfl ?_ | refine Br.ff rfl ?_ | refine Br.ff (isEmptyCons _ _) ?_)
       | ((with_reducible first | refine Side.mk ?_ ?_ | refine WrapW.mk ?_ ?_); focus (first | omega | (dsimp only [InR, Int.reduceToNat, IntKind.bits, Int.reducePow]; omega) | (simp [CC]; done) | (constructor <;> omega)))
       | with_reducible refine Br.not ?_
       | (with_reducible first | refine Br.tt (by assumption) ?_ | refine Br.ff (by assumption) ?_)
       | (refine Br.mk ?_ ?_ <;> intro hb <;> (try simp only [ZZ] at hb) <;> (first | omega | contradiction | skip))
       | refine Src.whole ⟨rfl, rfl⟩ ?_ | refine FrzV.whole ?_) <;> conv => whnf)
      refine LoopW.cl ?_
      refine LoopW.sub (hlp _ ?_ es.length 0 (Nat.zero_add _)) (by repeat first | exact trivial | refine ⟨VLe.refl _, ?_⟩) (by repeat first | exact trivial | refine ⟨by decide, ?_⟩)
      conv => whnf
      repeat' ((first
       | ((with_reducible first | refine Br.dec ?_ ?_ | refine Br.ndec ?_ ?_) <;> intro hb <;> (try simp only [ZZ] at hb) <;> (first | omega | contradiction | skip))
       | (with_reducible first | refine Br.tt rfl ?_ | refine Br.ff rfl ?_ | refine Br.ff (isEmptyCons _ _) ?_)
       | ((with_reducible first | refine Side.mk ?_ ?_ | refine WrapW.mk ?_ ?_); focus (first | omega | (dsimp only [InR, Int.reduceToNat, IntKind.bits, Int.reducePow]; omega) | (simp [CC]; done) | (constructor <;> omega)))
       | with_reducible refine Br.not ?_
       | (with_reducible first | refine Br.tt (by assumption) ?_ | refine Br.ff (by assumption) ?_)
       | (refine Br.mk ?_ ?_ <;> intro hb <;> (try simp only [ZZ] at hb) <;> (first | omega | contradiction | skip))
       | refine Src.whole ⟨rfl, rfl⟩ ?_ | refine FrzV.whole ?_) <;> conv => whnf)
      refine FrzV.mk _ (frzM_with 2 _ _ _ _ _ _ rfl) ?_
      conv => whnf
      refine FrzO.mk _ (frzMO_with 2 _ _ _ _ _ _ _ rfl) ?_
      conv => whnf
      refine FrzO.mk _ (frzMO_with 2 _ _ _ _ _ _ _ rfl) ?_
      conv => whnf
      exact CLe.eq rfl
  · have hmn : m = [] := by
      have hk : k = 5 := Classical.byContradiction fun h5 => hln (by
        rw [plainT] at hp
        split at hp
        · cases hp
        · rename_i ho
          exact Classical.byContradiction fun hne => ho (.inr (.inr (.inl ⟨h5, fun e => hne (List.eq_nil_of_length_eq_zero e)⟩))))
      exact ho5 hk
    subst hmn
    have hD := clone_vals l hln (by omega)
    have hlp := copy_loopL k n s l (by omega) hcl
    show AbsCall PP GG F.value_Copy [.p (.agg [.int .i64 k, .int .i64 n, .str s, .lst false (Tree.encL l), .lst false []])] [] ⟨.ret (.p (.agg [.int .i64 k, .int .i64 n, .str s, .lst false (Tree.encL l), .lst false []])), [], []⟩
    rw [← hel] at hlp
    generalize Tree.encL l = es at *
    refine absCall_of (pol := polG) mixP F.value_Copy_is ?_
    conv => whnf
    repeat' ((first
     | ((with_reducible first | refine Br.dec ?_ ?_ | refine Br.ndec ?_ ?_) <;> intro hb <;> (try simp only [And.intro @hel (ZZ)] at hb) <;> (first | omega | contradiction | skip))
     | (with_reducible first | refine Br.tt rfl ?_ | refine Br.ff rfl ?_ | refine Br.ff (isEmptyCons _ _) ?_)
     | ((with_reducible first | refine Side.mk ?_ ?_ | refine WrapW.mk ?_ ?_); focus (first | omega | (dsimp only [InR, Int.reduceToNat, IntKind.bits, Int.reducePow]; omega) | (simp [CC]; done) | (constructor <;> omega)))
     | with_reducible refine Br.not ?_
     | (with_reducible first | refine Br.tt (by assumption) ?_ | refine Br.ff (by assumption) ?_)
     | (refine Br.mk ?_ ?_ <;> intro hb <;> (try simp only [And.intro @hel (ZZ)] at hb) <;> (first | omega | contradiction | skip))
     | refine Src.whole ⟨rfl, rfl⟩ ?_ | refine FrzV.whole ?_
     | refine CallW.use (hD) ?_
     | refine CallW.use (clone_pairs0) ?_) <;> conv => whnf)
    refine LoopW.cl ?_
    refine LoopW.sub (hlp _ ?_ es.length 0 (Nat.zero_add _)) (by repeat first | exact trivial | refine ⟨VLe.refl _, ?_⟩) (by repeat first | exact trivial | refine ⟨by decide, ?_⟩)
    conv => whnf
    repeat' ((first
     | ((with_reducible first | refine Br.dec ?_ ?_ | refine Br.ndec ?_ ?_) <;> intro hb <;> (try simp only [ZZ] at hb) <;> (first | omega | contradiction | skip))
     | (with_reducible first | refine Br.tt rfl ?_ | refine Br.ff rfl ?_ | refine Br.ff (isEmptyCons _ _) ?_)
     | ((with_reducible first | refine Side.mk ?_ ?_ | refine WrapW.mk ?_ ?_); focus (first | omega | (dsimp only [InR, Int.reduceToNat, IntKind.bits, Int.reducePow]; omega) | (simp [CC]; done) | (constructor <;> omega)))
     | with_reducible refine Br.not ?_
     | (with_reducible first | refine Br.tt (by assumption) ?_ | refine Br.ff (by assumption) ?_)
     | (refine Br.mk ?_ ?_ <;> intro hb <;> (try simp only [ZZ] at hb) <;> (first | omega | contradiction | skip))
     | refine Src.whole ⟨rfl, rfl⟩ ?_ | refine FrzV.whole ?_) <;> conv => whnf)
    refine LoopW.cl ?_
    refine LoopW.sub (copy_zeroM _ _ ?_) (by repeat first | exact trivial | refine ⟨VLe.refl _, ?_⟩) (by repeat first | exact trivial | refine ⟨by decide, ?_⟩)
    conv => whnf
    repeat' ((first
     | ((with_reducible first | refine Br.dec ?_ ?_ | refine Br.ndec ?_ ?_) <;> intro hb <;> (try simp only [ZZ] at hb) <;> (first | omega | contradiction | skip))
     | (with_reducible first | refine Br.tt rfl ?_ | refine Br.ff rfl ?_ | refine Br.ff (isEmptyCons _ _) ?_)
     | ((with_reducible first | refine Side.mk ?_ ?_ | refine WrapW.mk ?_ ?_); focus (first | omega | (dsimp only [InR, Int.reduceToNat, IntKind.bits, Int.reducePow]; omega) | (simp [CC]; done) | (constructor <;> omega)))
     | with_reducible refine Br.not ?_
     | (with_reducible first | refine Br.tt (by assumption) ?_ | refine Br.ff (by assumption) ?_)
     | (refine Br.mk ?_ ?_ <;> intro hb <;> (try simp only [ZZ] at hb) <;> (first | omega | contradiction | skip))
     | refine Src.whole ⟨rfl, rfl⟩ ?_ | refine FrzV.whole ?_) <;> conv => whnf)
    refine FrzV.mk _ (frz_with 2 _ _ _ _ _ _ rfl) ?_
    conv => whnf
    refine FrzO.mk _ (frzO_with 2 _ _ _ _ _ _ _ rfl) ?_
    conv => whnf
    refine FrzO.mk _ (frzO_with 2 _ _ _ _ _ _ _ rfl) ?_
    conv => whnf
    exact CLe.eq rfl
end Go.Proofs.YthkoefpidnphpaaGreatDoor
end

section
namespace Go.Am
open Go
theorem wtL_set : ∀ (l : List Tree) (i : Nat) (x u : Tree), l[i]? = some x → Tree.wtL (l.set i u) + x.wt = Tree.wtL l + u.wt
  | [], i, x, u, h => by simp at h
  | t :: l, 0, x, u, h => by
    simp only [List.getElem?_cons_zero, Option.some.injEq] at h
    subst h
    rw [List.set_cons_zero, Tree.wtL, Tree.wtL]
    omega
  | t :: l, i + 1, x, u, h => by
    have := wtL_set l i x u (by simpa using h)
    rw [List.set_cons_succ, Tree.wtL, Tree.wtL]
    omega
theorem setM_cons (p : Str × Tree) (m : List (Str × Tree)) (i : Nat) (y : Tree) : setM (p :: m) (i + 1) y = p :: setM m i y := by unfold setM; rw [List.modify_succ_cons]
theorem wtM_set : ∀ (m : List (Str × Tree)) (i : Nat) (k : Str) (x u : Tree), m[i]? = some (k, x) → Tree.wtM (setM m i u) + x.wt = Tree.wtM m + u.wt
  | [], i, k, x, u, h => by simp at h
  | p :: m, 0, k, x, u, h => by
    simp only [List.getElem?_cons_zero, Option.some.injEq] at h
    subst h
    show Tree.wtM ((k, u) :: m) + x.wt = _
    rw [Tree.wtM, Tree.wtM, Tree.wtP, Tree.wtP]
    omega
  | p :: m, i + 1, k, x, u, h => by
    have := wtM_set m i k x u (by simpa using h)
    rw [setM_cons, Tree.wtM, Tree.wtM]
    omega
theorem plainL_set : ∀ (l : List Tree) (i : Nat) (u : Tree), plainL l = true → plainT u = true → plainL (l.set i u) = true
  | [], i, u, h, hu => by simpa using h
  | t :: l, 0, u, h, hu => by
    rw [plainL, Bool.and_eq_true] at h
    rw [List.set_cons_zero, plainL, hu, h.2]; rfl
  | t :: l, i + 1, u, h, hu => by
    rw [plainL, Bool.and_eq_true] at h
    rw [List.set_cons_succ, plainL, h.1, plainL_set l i u h.2 hu]; rfl
theorem plainM_set : ∀ (m : List (Str × Tree)) (o : Option Str) (i : Nat) (u : Tree), plainM o m = true → plainT u = true → plainM o (setM m i u) = true
  | [], o, i, u, h, hu => by unfold setM; simpa using h
  | p :: m, o, 0, u, h, hu => by
    obtain ⟨k, t⟩ := p
    show plainM o ((k, u) :: m) = true
    rw [plainM, Bool.and_eq_true] at h ⊢
    refine ⟨?_, h.2⟩
    have h1 := h.1
    cases o <;> rw [plainP, Bool.and_eq_true, Bool.and_eq_true] at h1 ⊢ <;> exact ⟨h1.1, h1.2.1, hu⟩
  | p :: m, o, i + 1, u, h, hu => by
    rw [plainM, Bool.and_eq_true] at h
    rw [setM_cons, plainM, h.1, plainM_set m _ i u h.2 hu]; rfl
theorem setM_length (m : List (Str × Tree)) (i : Nat) (u : Tree) : (setM m i u).length = m.length := by unfold setM; simp
theorem withT_plain {v u : Tree} (i : Nat) (hv : plainT v = true) (hu : plainT u = true) : plainT (withT v i u) = true := by
  rw [plainT_eq] at hv
  split at hv
  · cases hv
  rename_i ho
  rw [Bool.and_eq_true, Bool.and_eq_true] at hv
  rw [plainT_eq]
  have e1 : (withT v i u).l.length = v.l.length := by rw [withT_l]; split <;> simp
  have e2 : (withT v i u).m.length = v.m.length := by rw [withT_m]; split <;> simp [setM_length]
  rw [e1, e2]
  show (if ownBad v.kind v.n v.s.length v.l.length v.m.length then false else nodeOk v.kind v.n v.s && (plainL (withT v i u).l && plainM none (withT v i u).m)) = true
  rw [if_neg ho, hv.1, withT_l, withT_m]
  by_cases h5 : v.kind = 5
  · rw [if_pos h5, if_pos h5, plainL_set _ _ _ hv.2.1 hu, hv.2.2]; rfl
  · rw [if_neg h5, if_neg h5, plainM_set _ _ _ _ hv.2.2 hu, hv.2.1]; rfl
theorem withT_wt {v u : Tree} {i : Nat} (h5 : v.kind = 5 → i < v.l.length) (h6 : v.kind ≠ 5 → i < v.m.length) : (withT v i u).wt + (partT v i).wt = v.wt + u.wt := by
  unfold withT partT
  by_cases h : v.kind = 5
  · obtain ⟨x, hx⟩ : ∃ x, v.l[i]? = some x := ⟨_, List.getElem?_eq_getElem (h5 h)⟩
    rw [if_pos h, if_pos h, if_pos h, List.getD_eq_getElem?_getD, hx, Option.getD_some, Tree.wt, Tree.wt_eq v]
    have := wtL_set v.l i x u hx
    omega
  · obtain ⟨⟨k, x⟩, hx⟩ : ∃ x, v.m[i]? = some x := ⟨_, List.getElem?_eq_getElem (h6 h)⟩
    rw [if_neg h, if_neg h, if_neg h, List.getD_eq_getElem?_getD, hx, Option.getD_some, Tree.wt, Tree.wt_eq v]
    have := wtM_set v.m i k x u hx
    simp only []
    omega
end Go.Am
end

section
namespace Go.Proofs.YthkoefpidnphpaaGreatDoor
open Go Go.Am Go.RowKit
set_option maxRecDepth 100000
theorem setT_ok : ∀ (p : List Stp) (v x y : Tree), plainT v = true → plainT x = true → (getT v p).isSome = true → setT v p x = some y → plainT y = true ∧ y.wt ≤ v.wt + x.wt
  | [], v, x, y, hv, hx, _, hs => by
    rw [setT] at hs
    cases hs
    exact ⟨hx, by omega⟩
  | s :: p, v, x, y, hv, hx, hg, hs => by
    rw [getT] at hg
    split at hg
    · cases hg
    rename_i hn
    rw [setT, if_neg hn, Option.map_eq_some_iff] at hs
    obtain ⟨u, hu, rfl⟩ := hs
    obtain ⟨_, hp5, hp6⟩ := part_wt v s (by omega)
    obtain ⟨h1, h2⟩ := setT_ok p _ x u (part_plain hv s (by omega)) hx hg hu
    have := withT_wt (u := u) hp5 hp6
    exact ⟨withT_plain _ hv h1, by omega⟩
theorem path_Set (p : List Stp) (v x y : Tree) (hp : plainT v = true) (hx : plainT x = true) (hv : v.wt ≤ 2000000) (hxw : x.wt ≤ 2000000) (hl : p.length ≤ 1000000) (hg : (getT v p).isSome = true) (hs : setT v p x = some y) :
    AbsCall PP GG F.path_Set [.p v.enc, .p (.lst false (encS p)), .p x.enc] [] ⟨.ret (.tup [.p y.enc, .p (.int .i64 0)]), [], []⟩ := by
  obtain ⟨h1, h2⟩ := setT_ok p v x y hp hx hg hs
  have hS := path_set p v x y hp (by omega) hl hg hs
  have hC := value_Copy y (by omega) h1 (by omega)
  rw [Tree.enc_eta v] at hS ⊢
  rw [Tree.enc_eta x] at hS ⊢
  rw [Tree.enc_eta y] at hS hC ⊢
  refine absCall_of (pol := polG) mixP F.path_Set_is ?_
  conv => whnf
  repeat' ((first
   | ((with_reducible first | refine Br.dec ?_ ?_ | refine Br.ndec ?_ ?_) <;> intro hb <;> (try simp only [ZZ] at hb) <;> (first | omega | contradiction | skip))
   | (with_reducible first | refine Br.tt rfl ?_ | refine Br.ff rfl ?_ | refine Br.ff (isEmptyCons _ _) ?_)
   | ((with_reducible first | refine Side.mk ?_ ?_ | refine WrapW.mk ?_ ?_); focus (first | omega | (dsimp only [InR, Int.reduceToNat, IntKind.bits, Int.reducePow]; omega) | (simp [CC]; done) | (constructor <;> omega)))
   | with_reducible refine Br.not ?_
   | (with_reducible first | refine Br.tt (by assumption) ?_ | refine Br.ff (by assumption) ?_)
   | (refine Br.mk ?_ ?_ <;> intro hb <;> (try simp only [ZZ] at hb) <;> (first | omega | contradiction | skip))
   | refine Src.whole ⟨rfl, rfl⟩ ?_ | refine FrzV.whole ?_
   | refine CallW.use (hS) ?_
   | refine CallW.use (hC) ?_) <;> conv => whnf)
  exact CLe.eq rfl
theorem clip_steps (l : List Stp) (hl : l.length ≤ 4000000) : AbsCall PP GG F.slices_Clip_path_Step_path_Step [.p (.lst false (encS l))] [] ⟨.ret (.p (.lst true (encS l))), [], []⟩ := by
  have hel := encS_length l
  have hc := encS_cells l
  have ht : (encS l).take (encS l).length = encS l := List.take_length
  generalize encS l = es at *
  refine absCall_of (pol := polG) mixP F.slices_Clip_path_Step_path_Step_is ?_
  conv => whnf
  repeat' ((first
   | ((with_reducible first | refine Br.dec ?_ ?_ | refine Br.ndec ?_ ?_) <;> intro hb <;> (try simp only [ZZ] at hb) <;> (first | omega | contradiction | skip))
   | (with_reducible first | refine Br.tt rfl ?_ | refine Br.ff rfl ?_ | refine Br.ff (isEmptyCons _ _) ?_)
   | ((with_reducible first | refine Side.mk ?_ ?_ | refine WrapW.mk ?_ ?_); focus (first | omega | (dsimp only [InR, Int.reduceToNat, IntKind.bits, Int.reducePow]; omega) | exact ⟨hc, by omega⟩ | (simp [CC]; done) | (constructor <;> omega)))
   | with_reducible refine Br.not ?_
   | (with_reducible first | refine Br.tt (by assumption) ?_ | refine Br.ff (by assumption) ?_)
   | (refine Br.mk ?_ ?_ <;> intro hb <;> (try simp only [ZZ] at hb) <;> (first | omega | contradiction | skip))
   | refine Src.whole ⟨rfl, rfl⟩ ?_ | refine FrzV.whole ?_) <;> conv => whnf)
  exact CLe.retP (by rw [Int.toNat_natCast, ht])
end Go.Proofs.YthkoefpidnphpaaGreatDoor
end

section
namespace Go.Am
open Go
mutual
def allPT : Tree → List Stp → List (List Stp)
  | .mk _ _ _ l m, pre => pre :: (allPL l 0 pre ++ allPM m pre)
def allPL : List Tree → Nat → List Stp → List (List Stp)
  | [], _, _ => []
  | t :: l, i, pre => allPT t (pre ++ [⟨[], i, true⟩]) ++ allPL l (i + 1) pre
def allPM : List (Str × Tree) → List Stp → List (List Stp)
  | [], _ => []
  | p :: m, pre => allPP p pre ++ allPM m pre
def allPP : Str × Tree → List Stp → List (List Stp)
  | (k, t), pre => allPT t (pre ++ [⟨k, 0, false⟩])
end
mutual
theorem allPT_len : ∀ (t : Tree) (pre : List Stp), (allPT t pre).length = t.nodes
  | .mk _ _ _ l m, pre => by
    rw [allPT, Tree.nodes, List.length_cons, List.length_append, allPL_len l 0 pre, allPM_len m pre]
    omega
theorem allPL_len : ∀ (l : List Tree) (i : Nat) (pre : List Stp), (allPL l i pre).length = Tree.nodesL l
  | [], i, pre => by rw [allPL, Tree.nodesL]; rfl
  | t :: l, i, pre => by rw [allPL, Tree.nodesL, List.length_append, allPT_len t, allPL_len l]
theorem allPM_len : ∀ (m : List (Str × Tree)) (pre : List Stp), (allPM m pre).length = Tree.nodesM m
  | [], pre => by rw [allPM, Tree.nodesM]; rfl
  | p :: m, pre => by rw [allPM, Tree.nodesM, List.length_append, allPP_len p, allPM_len m]
theorem allPP_len : ∀ (p : Str × Tree) (pre : List Stp), (allPP p pre).length = Tree.nodesP p
  | (k, t), pre => by rw [allPP, Tree.nodesP, allPT_len t]
end
theorem mem_allPL : ∀ (l : List Tree) (i : Nat) (pre q : List Stp), q ∈ allPL l i pre → ∃ (j : Nat) (t : Tree), l[j]? = some t ∧ q ∈ allPT t (pre ++ [⟨[], ((i + j : Nat) : Int), true⟩])
  | [], i, pre, q, h => by rw [allPL] at h; cases h
  | t :: l, i, pre, q, h => by
    rw [allPL, List.mem_append] at h
    rcases h with h | h
    · exact ⟨0, t, rfl, h⟩
    · obtain ⟨j, u, h1, h2⟩ := mem_allPL l (i + 1) pre q h
      exact ⟨j + 1, u, h1, by rw [show i + (j + 1) = i + 1 + j by omega]; exact h2⟩
theorem mem_allPM : ∀ (m : List (Str × Tree)) (pre q : List Stp), q ∈ allPM m pre → ∃ (j : Nat) (k : Str) (t : Tree), m[j]? = some (k, t) ∧ q ∈ allPT t (pre ++ [⟨k, 0, false⟩])
  | [], pre, q, h => by rw [allPM] at h; cases h
  | p :: m, pre, q, h => by
    rw [allPM, List.mem_append] at h
    rcases h with h | h
    · obtain ⟨k, t⟩ := p
      rw [allPP] at h
      exact ⟨0, k, t, rfl, h⟩
    · obtain ⟨j, k, u, h1, h2⟩ := mem_allPM m pre q h
      exact ⟨j + 1, k, u, h1, h2⟩
theorem allPT_eq (t : Tree) (pre : List Stp) : allPT t pre = pre :: (allPL t.l 0 pre ++ allPM t.m pre) := by obtain ⟨k, n, s, l, m⟩ := t; rw [allPT]; rfl
theorem all_get : ∀ t : Tree, Uniq t → plainT t = true → ∀ pre q, q ∈ allPT t pre → ∃ r, q = pre ++ r ∧ (getT t r).isSome = true := by
  refine Tree.ind fun t hl hm hu hp pre q hq => ?_
  rw [allPT_eq] at hq
  have hown : (t.l ≠ [] → t.kind = 5) ∧ (t.m ≠ [] → t.kind = 6) ∧ plainL t.l = true ∧ plainM none t.m = true := by
    have h := hp
    rw [plainT_eq] at h
    split at h
    · cases h
    rename_i ho
    rw [Bool.and_eq_true, Bool.and_eq_true] at h
    exact ⟨fun hne => Classical.byContradiction fun hk => ho (.inr (.inr (.inl ⟨hk, fun e => hne (List.eq_nil_of_length_eq_zero e)⟩))),
      fun hne => Classical.byContradiction fun hk => ho (.inr (.inr (.inr ⟨hk, fun e => hne (List.eq_nil_of_length_eq_zero e)⟩))), h.2.1, h.2.2⟩
  cases hu with
  | mk hd ul um =>
  rcases List.mem_cons.1 hq with rfl | hq
  · exact ⟨[], by simp, rfl⟩
  rcases List.mem_append.1 hq with hq | hq
  · obtain ⟨j, x, hx, hq⟩ := mem_allPL _ _ _ _ hq
    have hxm := List.mem_of_getElem? hx
    obtain ⟨r, rfl, hr⟩ := hl x hxm (ul x hxm) (plainL_mem hown.2.2.1 x hxm) _ _ hq
    have hk := hown.1 (fun e => by rw [e] at hx; simp at hx)
    have hj : j < t.l.length := (List.getElem?_eq_some_iff.1 hx).1
    refine ⟨⟨[], ((0 + j : Nat) : Int), true⟩ :: r, by simp, ?_⟩
    have hf : findS t ⟨[], ((0 + j : Nat) : Int), true⟩ = j := by
      unfold findS
      rw [if_pos ⟨rfl, hk, by simp only []; omega, by simp only []; omega⟩]
      simp
    rw [getT, hf, if_neg (by omega), Int.toNat_natCast]
    unfold partT
    rw [if_pos hk, List.getD_eq_getElem?_getD, hx]
    exact hr
  · obtain ⟨j, k, x, hx, hq⟩ := mem_allPM _ _ _ hq
    have hxm := List.mem_of_getElem? hx
    obtain ⟨r, rfl, hr⟩ := hm (k, x) hxm (um (k, x) hxm) (plainM_mem hown.2.2.2 (k, x) hxm).2 _ _ hq
    have hk := hown.2.1 (fun e => by rw [e] at hx; simp at hx)
    refine ⟨⟨k, 0, false⟩ :: r, by simp, ?_⟩
    have hf : findS t ⟨k, 0, false⟩ = j := by
      unfold findS
      rw [if_neg (by simp), if_pos ⟨rfl, hk⟩]
      exact idxK_up hd hx
    rw [getT, hf, if_neg (by omega), Int.toNat_natCast]
    unfold partT
    rw [if_neg (by omega), List.getD_eq_getElem?_getD, hx]
    exact hr
end Go.Am
end

section
namespace Go.Proofs.YthkoefpidnphpaaGreatDoor
open Go Go.Am Go.RowKit
set_option maxRecDepth 100000
def pthV (p : List Stp) : PV := .lst false (encS p)
def wkO (acc : List (List Stp)) : List HO := [.var T.path_walker (.agg [.sl 1 0 (acc.map pthV).length]), .arr T.sl_path_Step 1 (acc.map pthV)]
def WalkIs (t : Tree) : Prop := ∀ (pre : List Stp) (acc : List (List Stp)), pre.length + t.nodes ≤ 1000 → (acc ++ allPT t pre).length ≤ 1000000 → acc ≠ [] →
  AbsCall PP GG F.path_walker_walk [.ptr 0 0, .p t.enc, .p (.lst false (encS pre))] (wkO acc) ⟨.ret (.tup []), wkO (acc ++ allPT t pre), [1]⟩
theorem encS_app (p : List Stp) (s : Stp) : encS p ++ [PV.agg [.str s.k, .int .i64 s.a, .bool s.p]] = encS (p ++ [s]) := by unfold encS; rw [List.map_append]; rfl
theorem walk_loopL (t : Tree) (pre : List Stp) (hpl : pre.length + t.nodes ≤ 1000) (hc : ∀ x ∈ t.l, WalkIs x) (hnx : ∀ x ∈ t.l, x.nodes < t.nodes) (hlen : t.l.length ≤ 4000000) (acc0 : List (List Stp)) (hal : acc0.length ≤ 1000000) (K : Post)
    (h0 : K (.exit 0) [(0, .ptr 0 0), (2, .p (.lst true (encS pre))), (4, .ptr 2 0)] (wkO acc0 ++ [.var T.api_Value (.p t.enc)]) [1]) :
    ∀ (q i : Nat) (acc : List (List Stp)), i + q = t.l.length → acc ≠ [] → acc ++ allPL (t.l.drop i) i pre = acc0 →
      LoopW PP GG 57 2 (loopN F.path_walker_walk_c 0) [(0, .ptr 0 0), (2, .p (.lst true (encS pre))), (4, .ptr 2 0), (23, .p (.lst false (Tree.encL t.l))), (24, .p (.int .i64 t.l.length)), (25, .p (.int .i64 i))] (wkO acc ++ [.var T.api_Value (.p t.enc)]) [1] (PostCl 57 K) := by
  have hel : (Tree.encL t.l).length = t.l.length := Tree.encL_length _
  have hep := encS_length pre
  have hcs := encS_cells pre
  intro q
  induction q with
  | zero =>
    intro i acc hi hne hR
    rw [List.drop_eq_nil_of_le (by omega), allPL, List.append_nil] at hR
    subst hR
    unfold wkO at h0 ⊢
    refine LoopW.round (pol := polG) mixP ?_
    conv => whnf
    repeat' ((first
     | ((with_reducible first | refine Br.dec ?_ ?_ | refine Br.ndec ?_ ?_) <;> intro hb <;> (try simp only [ZZ] at hb) <;> (first | omega | contradiction | skip))
     | (with_reducible first | refine Br.tt rfl ?_ | refine Br.ff rfl ?_ | refine Br.ff (isEmptyCons _ _) ?_)
     | ((with_reducible first | refine Side.mk ?_ ?_ | refine WrapW.mk ?_ ?_); focus (first | omega | (dsimp only [InR, Int.reduceToNat, IntKind.bits, Int.reducePow]; omega) | (simp [CC]; done) | (constructor <;> omega)))
     | with_reducible refine Br.not ?_
     | (with_reducible first | refine Br.tt (by assumption) ?_ | refine Br.ff (by assumption) ?_)
     | (refine Br.mk ?_ ?_ <;> intro hb <;> (try simp only [ZZ] at hb) <;> (first | omega | contradiction | skip))
     | refine Src.whole ⟨rfl, rfl⟩ ?_ | refine FrzV.whole ?_) <;> conv => whnf)
    refine PostCl.of (h0) ?_ ?_
    · repeat first | exact trivial | refine ⟨VLe.refl _, ?_⟩
    · repeat first | exact trivial | refine ⟨by decide, ?_⟩
  | succ q ih =>
    intro i acc hi hne hR
    obtain ⟨x, hx⟩ : ∃ x, t.l[i]? = some x := ⟨_, List.getElem?_eq_getElem (show i < t.l.length by omega)⟩
    have hxi : t.l[(i : Int).toNat]? = some x := by rw [Int.toNat_natCast]; exact hx
    rw [drop_cons hx, allPL, ← List.append_assoc] at hR
    have hxm := List.mem_of_getElem? hx
    have hlR := congrArg List.length hR
    rw [List.length_append] at hlR
    have hC := hc x hxm (pre ++ [⟨[], i, true⟩]) acc (by have := hnx x hxm; simp only [List.length_append, List.length_cons, List.length_nil]; omega) (by omega) hne
    rw [← encS_app] at hC
    have hl := ih (i + 1) _ (by omega) (by simp [hne]) hR
    rw [Tree.enc_eta x] at hC
    rw [Tree.enc_eta t] at hl ⊢
    clear h0 ih
    generalize acc ++ allPT x (pre ++ [⟨[], i, true⟩]) = acc2 at *
    unfold wkO at hC hl ⊢
    generalize acc2.map pthV = es2 at *
    generalize acc.map pthV = es at *
    generalize encS pre = ep at *
    refine LoopW.round (pol := polG) mixP ?_
    conv => whnf
    repeat' ((first
     | ((with_reducible first | refine Br.dec ?_ ?_ | refine Br.ndec ?_ ?_) <;> intro hb <;> (try simp only [And.intro @hel (ZZ)] at hb) <;> (first | omega | contradiction | skip))
     | (with_reducible first | refine Br.tt rfl ?_ | refine Br.ff rfl ?_ | refine Br.ff (isEmptyCons _ _) ?_)
     | ((with_reducible first | refine Side.mk ?_ ?_ | refine WrapW.mk ?_ ?_); focus (first | omega | (dsimp only [InR, Int.reduceToNat, IntKind.bits, Int.reducePow]; omega) | exact stp_side ⟨[], i, true⟩ | exact ⟨fun y hy => (stp_side ⟨[], i, true⟩ y hy).1, by show (ep.length + 1) * 64 ≤ _; omega, hcs⟩ | exact ⟨rfl, rfl⟩ | (simp [CC]; done) | (constructor <;> omega)))
     | with_reducible refine Br.not ?_
     | (with_reducible first | refine Br.tt (by assumption) ?_ | refine Br.ff (by assumption) ?_)
     | (refine Br.mk ?_ ?_ <;> intro hb <;> (try simp only [And.intro @hel (ZZ)] at hb) <;> (first | omega | contradiction | skip))
     | refine Src.whole ⟨rfl, rfl⟩ ?_ | refine FrzV.whole ?_
     | refine CallW.use (hC) ?_
     | (refine ElemZ.tree hxi ?_; (rw [Tree.enc_eta x]; conv => whnf))) <;> conv => whnf)
    refine LoopW.ren [0, 1, 2] (hl) (by repeat first | exact trivial | refine ⟨⟨rfl, VLe.refl _⟩, ?_⟩) (by repeat first | exact trivial | refine ⟨by decide, ?_⟩) rfl rfl
theorem walk_loopM (t : Tree) (pre : List Stp) (hpl : pre.length + t.nodes ≤ 1000) (hc : ∀ x ∈ t.m, WalkIs x.2) (hnx : ∀ x ∈ t.m, x.2.nodes < t.nodes) (hlen : t.m.length ≤ 4000000) (acc0 : List (List Stp)) (hal : acc0.length ≤ 1000000) (K : Post)
    (h0 : K (.exit 2) [(0, .ptr 0 0)] (wkO acc0 ++ [.var T.api_Value (.p t.enc)]) [1]) :
    ∀ (q i : Nat) (acc : List (List Stp)), i + q = t.m.length → acc ≠ [] → acc ++ allPM (t.m.drop i) pre = acc0 →
      LoopW PP GG 57 2 (loopN F.path_walker_walk_c 1) [(0, .ptr 0 0), (2, .p (.lst true (encS pre))), (4, .ptr 2 0), (40, .p (.lst false (Tree.encM t.m))), (41, .p (.int .i64 t.m.length)), (42, .p (.int .i64 i))] (wkO acc ++ [.var T.api_Value (.p t.enc)]) [1] (PostCl 57 K) := by
  have hel : (Tree.encM t.m).length = t.m.length := Tree.encM_length _
  have hep := encS_length pre
  have hcs := encS_cells pre
  intro q
  induction q with
  | zero =>
    intro i acc hi hne hR
    rw [List.drop_eq_nil_of_le (by omega), allPM, List.append_nil] at hR
    subst hR
    unfold wkO at h0 ⊢
    refine LoopW.round (pol := polG) mixP ?_
    conv => whnf
    repeat' ((first
     | ((with_reducible first | refine Br.dec ?_ ?_ | refine Br.ndec ?_ ?_) <;> intro hb <;> (try simp only [ZZ] at hb) <;> (first | omega | contradiction | skip))
     | (with_reducible first | refine Br.tt rfl ?_ | refine Br.ff rfl ?_ | refine Br.ff (isEmptyCons _ _) ?_)
     | ((with_reducible first | refine Side.mk ?_ ?_ | refine WrapW.mk ?_ ?_); focus (first | omega | (dsimp only [InR, Int.reduceToNat, IntKind.bits, Int.reducePow]; omega) | (simp [CC]; done) | (constructor <;> omega)))
     | with_reducible refine Br.not ?_
     | (with_reducible first | refine Br.tt (by assumption) ?_ | refine Br.ff (by assumption) ?_)
     | (refine Br.mk ?_ ?_ <;> intro hb <;> (try simp only [ZZ] at hb) <;> (first | omega | contradiction | skip))
     | refine Src.whole ⟨rfl, rfl⟩ ?_ | refine FrzV.whole ?_) <;> conv => whnf)
    refine PostCl.of (h0) ?_ ?_
    · repeat first | exact trivial | refine ⟨VLe.refl _, ?_⟩
    · repeat first | exact trivial | refine ⟨by decide, ?_⟩
  | succ q ih =>
    intro i acc hi hne hR
    obtain ⟨⟨z, x⟩, hx⟩ : ∃ x, t.m[i]? = some x := ⟨_, List.getElem?_eq_getElem (show i < t.m.length by omega)⟩
    have hxi : t.m[(i : Int).toNat]? = some (z, x) := by rw [Int.toNat_natCast]; exact hx
    rw [drop_cons hx, allPM, allPP, ← List.append_assoc] at hR
    have hxm := List.mem_of_getElem? hx
    have hlR := congrArg List.length hR
    rw [List.length_append] at hlR
    have hC := hc (z, x) hxm (pre ++ [⟨z, 0, false⟩]) acc (by have := hnx (z, x) hxm; simp only [List.length_append, List.length_cons, List.length_nil] at *; omega) (by simp only []; omega) hne
    rw [← encS_app] at hC
    have hl := ih (i + 1) _ (by omega) (by simp [hne]) hR
    simp only [] at hC
    rw [Tree.enc_eta x] at hC
    rw [Tree.enc_eta t] at hl ⊢
    clear h0 ih
    generalize acc ++ allPT x (pre ++ [⟨z, 0, false⟩]) = acc2 at *
    unfold wkO at hC hl ⊢
    generalize acc2.map pthV = es2 at *
    generalize acc.map pthV = es at *
    generalize encS pre = ep at *
    refine LoopW.round (pol := polG) mixP ?_
    conv => whnf
    repeat' ((first
     | ((with_reducible first | refine Br.dec ?_ ?_ | refine Br.ndec ?_ ?_) <;> intro hb <;> (try simp only [And.intro @hel (ZZ)] at hb) <;> (first | omega | contradiction | skip))
     | (with_reducible first | refine Br.tt rfl ?_ | refine Br.ff rfl ?_ | refine Br.ff (isEmptyCons _ _) ?_)
     | ((with_reducible first | refine Side.mk ?_ ?_ | refine WrapW.mk ?_ ?_); focus (first | omega | (dsimp only [InR, Int.reduceToNat, IntKind.bits, Int.reducePow]; omega) | exact stp_side ⟨z, 0, false⟩ | exact ⟨fun y hy => (stp_side ⟨z, 0, false⟩ y hy).1, by show (ep.length + 1) * 64 ≤ _; omega, hcs⟩ | exact ⟨rfl, rfl⟩ | (simp [CC]; done) | (constructor <;> omega)))
     | with_reducible refine Br.not ?_
     | (with_reducible first | refine Br.tt (by assumption) ?_ | refine Br.ff (by assumption) ?_)
     | (refine Br.mk ?_ ?_ <;> intro hb <;> (try simp only [And.intro @hel (ZZ)] at hb) <;> (first | omega | contradiction | skip))
     | refine Src.whole ⟨rfl, rfl⟩ ?_ | refine FrzV.whole ?_
     | refine CallW.use (hC) ?_
     | (refine ElemZ.pairE hxi ?_)) <;> conv => whnf)
    refine LoopW.ren [0, 1, 2] (hl) (by repeat first | exact trivial | refine ⟨⟨rfl, VLe.refl _⟩, ?_⟩) (by repeat first | exact trivial | refine ⟨by decide, ?_⟩) rfl rfl
theorem path_walk : ∀ t : Tree, t.wt ≤ 4000000 → WalkIs t := by
  refine Tree.indW fun t hw hl hm pre acc hpl hal hne => ?_
  have hml := t.wt_ml
  have hll := t.wt_ll
  have hC := clip_steps pre (by omega)
  have hte := allPT_eq t pre
  have hle : (acc ++ allPT t pre).length = acc.length + 1 + (allPL t.l 0 pre).length + (allPM t.m pre).length := by rw [hte]; simp only [List.length_append, List.length_cons]; omega
  have hL := fun K h0 => walk_loopL t pre hpl (fun x hx => (hl x hx).2) (fun x hx => Tree.nodes_l hx) (by omega) (acc ++ [pre] ++ allPL t.l 0 pre) (by simp only [List.length_append, List.length_cons, List.length_nil]; omega) K h0 t.l.length 0 (acc ++ [pre]) (Nat.zero_add _) (by simp) rfl
  have hM := fun K h0 => walk_loopM t pre hpl (fun x hx => (hm x hx).2.2) (fun x hx => Tree.nodes_m hx) (by omega) (acc ++ allPT t pre) hal K h0 t.m.length 0 (acc ++ [pre] ++ allPL t.l 0 pre) (Nat.zero_add _) (by simp) (by rw [hte, List.drop_zero]; simp)
  have hel : (Tree.encL t.l).length = t.l.length := Tree.encL_length _
  have hem : (Tree.encM t.m).length = t.m.length := Tree.encM_length _
  have hpe : (acc ++ [pre]).map pthV = acc.map pthV ++ [.lst false (encS pre)] := by rw [List.map_append]; rfl
  have hlm : (acc.map pthV).length = acc.length := List.length_map _
  unfold wkO at hL hM ⊢
  rw [hpe] at hL
  generalize (acc ++ [pre] ++ allPL t.l 0 pre).map pthV = es1 at *
  generalize (acc ++ allPT t pre).map pthV = es2 at *
  generalize acc.map pthV = es at *
  generalize encS pre = ep at *
  rw [← hel] at hL
  rw [← hem] at hM
  rw [Tree.enc_eta t] at hL hM ⊢
  refine absCall_of (pol := polG) mixP F.path_walker_walk_is ?_
  conv => whnf
  repeat' ((first
   | ((with_reducible first | refine Br.dec ?_ ?_ | refine Br.ndec ?_ ?_) <;> intro hb <;> (try simp only [ZZ] at hb) <;> (first | omega | contradiction | skip))
   | (with_reducible first | refine Br.tt rfl ?_ | refine Br.ff rfl ?_ | refine Br.ff (isEmptyCons _ _) ?_)
   | ((with_reducible first | refine Side.mk ?_ ?_ | refine WrapW.mk ?_ ?_); focus (first | omega | (dsimp only [InR, Int.reduceToNat, IntKind.bits, Int.reducePow]; omega) | exact ⟨fun y hy => by obtain rfl := List.mem_singleton.1 hy; rfl, rfl, by show (_ + 1) * 48 ≤ _; omega⟩ | (simp [CC]; done) | (constructor <;> omega)))
   | with_reducible refine Br.not ?_
   | (with_reducible first | refine Br.tt (by assumption) ?_ | refine Br.ff (by assumption) ?_)
   | (refine Br.mk ?_ ?_ <;> intro hb <;> (try simp only [ZZ] at hb) <;> (first | omega | contradiction | skip))
   | refine Src.whole ⟨rfl, rfl⟩ ?_ | refine FrzV.whole ?_
   | refine CallW.use (hC) ?_) <;> conv => whnf)
  refine LoopW.cl ?_
  refine LoopW.ren [0, 1, 2] (hL _ ?_) (by repeat first | exact trivial | refine ⟨⟨rfl, VLe.refl _⟩, ?_⟩) (by repeat first | exact trivial | refine ⟨by decide, ?_⟩) rfl rfl
  conv => whnf
  repeat' ((first
   | ((with_reducible first | refine Br.dec ?_ ?_ | refine Br.ndec ?_ ?_) <;> intro hb <;> (try simp only [ZZ] at hb) <;> (first | omega | contradiction | skip))
   | (with_reducible first | refine Br.tt rfl ?_ | refine Br.ff rfl ?_ | refine Br.ff (isEmptyCons _ _) ?_)
   | ((with_reducible first | refine Side.mk ?_ ?_ | refine WrapW.mk ?_ ?_); focus (first | omega | (dsimp only [InR, Int.reduceToNat, IntKind.bits, Int.reducePow]; omega) | (simp [CC]; done) | (constructor <;> omega)))
   | with_reducible refine Br.not ?_
   | (with_reducible first | refine Br.tt (by assumption) ?_ | refine Br.ff (by assumption) ?_)
   | (refine Br.mk ?_ ?_ <;> intro hb <;> (try simp only [ZZ] at hb) <;> (first | omega | contradiction | skip))
   | refine Src.whole ⟨rfl, rfl⟩ ?_ | refine FrzV.whole ?_) <;> conv => whnf)
  refine LoopW.cl ?_
  refine LoopW.sub (hM _ ?_) (by repeat first | exact trivial | refine ⟨VLe.refl _, ?_⟩) (by repeat first | exact trivial | refine ⟨by decide, ?_⟩)
  conv => whnf
  repeat' ((first
   | ((with_reducible first | refine Br.dec ?_ ?_ | refine Br.ndec ?_ ?_) <;> intro hb <;> (try simp only [ZZ] at hb) <;> (first | omega | contradiction | skip))
   | (with_reducible first | refine Br.tt rfl ?_ | refine Br.ff rfl ?_ | refine Br.ff (isEmptyCons _ _) ?_)
   | ((with_reducible first | refine Side.mk ?_ ?_ | refine WrapW.mk ?_ ?_); focus (first | omega | (dsimp only [InR, Int.reduceToNat, IntKind.bits, Int.reducePow]; omega) | (simp [CC]; done) | (constructor <;> omega)))
   | with_reducible refine Br.not ?_
   | (with_reducible first | refine Br.tt (by assumption) ?_ | refine Br.ff (by assumption) ?_)
   | (refine Br.mk ?_ ?_ <;> intro hb <;> (try simp only [ZZ] at hb) <;> (first | omega | contradiction | skip))
   | refine Src.whole ⟨rfl, rfl⟩ ?_ | refine FrzV.whole ?_) <;> conv => whnf)
  exact CLe.eq rfl
theorem walk_loopL1 (t : Tree) (pre : List Stp) (hpl : pre.length + t.nodes ≤ 1000) (hc : ∀ x ∈ t.l, WalkIs x) (hnx : ∀ x ∈ t.l, x.nodes < t.nodes) (hlen : t.l.length ≤ 4000000) (acc0 : List (List Stp)) (hal : acc0.length ≤ 1000000) (K : Post)
    (h0 : K (.exit 0) [(0, .ptr 0 0), (2, .p (.lst true (encS pre))), (4, .ptr 2 0)] (wkO acc0 ++ [.var T.api_Value (.p t.enc)]) []) :
    ∀ (q i : Nat) (acc : List (List Stp)), i + q = t.l.length → acc ≠ [] → acc ++ allPL (t.l.drop i) i pre = acc0 →
      LoopW PP GG 57 1 (loopN F.path_walker_walk_c 0) [(0, .ptr 0 0), (2, .p (.lst true (encS pre))), (4, .ptr 2 0), (23, .p (.lst false (Tree.encL t.l))), (24, .p (.int .i64 t.l.length)), (25, .p (.int .i64 i))] (wkO acc ++ [.var T.api_Value (.p t.enc)]) [] (PostCl 57 K) := by
  have hel : (Tree.encL t.l).length = t.l.length := Tree.encL_length _
  have hep := encS_length pre
  have hcs := encS_cells pre
  intro q
  induction q with
  | zero =>
    intro i acc hi hne hR
    rw [List.drop_eq_nil_of_le (by omega), allPL, List.append_nil] at hR
    subst hR
    unfold wkO at h0 ⊢
    refine LoopW.round (pol := polG) mixP ?_
    conv => whnf
    repeat' ((first
     | ((with_reducible first | refine Br.dec ?_ ?_ | refine Br.ndec ?_ ?_) <;> intro hb <;> (try simp only [ZZ] at hb) <;> (first | omega | contradiction | skip))
     | (with_reducible first | refine Br.tt rfl ?_ | refine Br.ff rfl ?_ | refine Br.ff (isEmptyCons _ _) ?_)
     | ((with_reducible first | refine Side.mk ?_ ?_ | refine WrapW.mk ?_ ?_); focus (first | omega | (dsimp only [InR, Int.reduceToNat, IntKind.bits, Int.reducePow]; omega) | (simp [CC]; done) | (constructor <;> omega)))
     | with_reducible refine Br.not ?_
     | (with_reducible first | refine Br.tt (by assumption) ?_ | refine Br.ff (by assumption) ?_)
     | (refine Br.mk ?_ ?_ <;> intro hb <;> (try simp only [ZZ] at hb) <;> (first | omega | contradiction | skip))
     | refine Src.whole ⟨rfl, rfl⟩ ?_ | refine FrzV.whole ?_) <;> conv => whnf)
    refine PostCl.of (h0) ?_ ?_
    · repeat first | exact trivial | refine ⟨VLe.refl _, ?_⟩
    · repeat first | exact trivial | refine ⟨by decide, ?_⟩
  | succ q ih =>
    intro i acc hi hne hR
    obtain ⟨x, hx⟩ : ∃ x, t.l[i]? = some x := ⟨_, List.getElem?_eq_getElem (show i < t.l.length by omega)⟩
    have hxi : t.l[(i : Int).toNat]? = some x := by rw [Int.toNat_natCast]; exact hx
    rw [drop_cons hx, allPL, ← List.append_assoc] at hR
    have hxm := List.mem_of_getElem? hx
    have hlR := congrArg List.length hR
    rw [List.length_append] at hlR
    have hC := hc x hxm (pre ++ [⟨[], i, true⟩]) acc (by have := hnx x hxm; simp only [List.length_append, List.length_cons, List.length_nil]; omega) (by omega) hne
    rw [← encS_app] at hC
    have hl := ih (i + 1) _ (by omega) (by simp [hne]) hR
    rw [Tree.enc_eta x] at hC
    rw [Tree.enc_eta t] at hl ⊢
    clear h0 ih
    generalize acc ++ allPT x (pre ++ [⟨[], i, true⟩]) = acc2 at *
    unfold wkO at hC hl ⊢
    generalize acc2.map pthV = es2 at *
    generalize acc.map pthV = es at *
    generalize encS pre = ep at *
    refine LoopW.round (pol := polG) mixP ?_
    conv => whnf
    repeat' ((first
     | ((with_reducible first | refine Br.dec ?_ ?_ | refine Br.ndec ?_ ?_) <;> intro hb <;> (try simp only [And.intro @hel (ZZ)] at hb) <;> (first | omega | contradiction | skip))
     | (with_reducible first | refine Br.tt rfl ?_ | refine Br.ff rfl ?_ | refine Br.ff (isEmptyCons _ _) ?_)
     | ((with_reducible first | refine Side.mk ?_ ?_ | refine WrapW.mk ?_ ?_); focus (first | omega | (dsimp only [InR, Int.reduceToNat, IntKind.bits, Int.reducePow]; omega) | exact stp_side ⟨[], i, true⟩ | exact ⟨fun y hy => (stp_side ⟨[], i, true⟩ y hy).1, by show (ep.length + 1) * 64 ≤ _; omega, hcs⟩ | exact ⟨rfl, rfl⟩ | (simp [CC]; done) | (constructor <;> omega)))
     | with_reducible refine Br.not ?_
     | (with_reducible first | refine Br.tt (by assumption) ?_ | refine Br.ff (by assumption) ?_)
     | (refine Br.mk ?_ ?_ <;> intro hb <;> (try simp only [And.intro @hel (ZZ)] at hb) <;> (first | omega | contradiction | skip))
     | refine Src.whole ⟨rfl, rfl⟩ ?_ | refine FrzV.whole ?_
     | refine CallW.use (hC) ?_
     | (refine ElemZ.tree hxi ?_; (rw [Tree.enc_eta x]; conv => whnf))) <;> conv => whnf)
    refine LoopW.ren [0, 1, 2] (hl) (by repeat first | exact trivial | refine ⟨⟨rfl, VLe.refl _⟩, ?_⟩) (by repeat first | exact trivial | refine ⟨by decide, ?_⟩) rfl rfl
theorem walk_loopM1 (t : Tree) (pre : List Stp) (hpl : pre.length + t.nodes ≤ 1000) (hc : ∀ x ∈ t.m, WalkIs x.2) (hnx : ∀ x ∈ t.m, x.2.nodes < t.nodes) (hlen : t.m.length ≤ 4000000) (acc0 : List (List Stp)) (hal : acc0.length ≤ 1000000) (K : Post)
    (h0 : K (.exit 2) [(0, .ptr 0 0)] (wkO acc0 ++ [.var T.api_Value (.p t.enc)]) []) :
    ∀ (q i : Nat) (acc : List (List Stp)), i + q = t.m.length → acc ≠ [] → acc ++ allPM (t.m.drop i) pre = acc0 →
      LoopW PP GG 57 1 (loopN F.path_walker_walk_c 1) [(0, .ptr 0 0), (2, .p (.lst true (encS pre))), (4, .ptr 2 0), (40, .p (.lst false (Tree.encM t.m))), (41, .p (.int .i64 t.m.length)), (42, .p (.int .i64 i))] (wkO acc ++ [.var T.api_Value (.p t.enc)]) [] (PostCl 57 K) := by
  have hel : (Tree.encM t.m).length = t.m.length := Tree.encM_length _
  have hep := encS_length pre
  have hcs := encS_cells pre
  intro q
  induction q with
  | zero =>
    intro i acc hi hne hR
    rw [List.drop_eq_nil_of_le (by omega), allPM, List.append_nil] at hR
    subst hR
    unfold wkO at h0 ⊢
    refine LoopW.round (pol := polG) mixP ?_
    conv => whnf
    repeat' ((first
     | ((with_reducible first | refine Br.dec ?_ ?_ | refine Br.ndec ?_ ?_) <;> intro hb <;> (try simp only [ZZ] at hb) <;> (first | omega | contradiction | skip))
     | (with_reducible first | refine Br.tt rfl ?_ | refine Br.ff rfl ?_ | refine Br.ff (isEmptyCons _ _) ?_)
     | ((with_reducible first | refine Side.mk ?_ ?_ | refine WrapW.mk ?_ ?_); focus (first | omega | (dsimp only [InR, Int.reduceToNat, IntKind.bits, Int.reducePow]; omega) | (simp [CC]; done) | (constructor <;> omega)))
     | with_reducible refine Br.not ?_
     | (with_reducible first | refine Br.tt (by assumption) ?_ | refine Br.ff (by assumption) ?_)
     | (refine Br.mk ?_ ?_ <;> intro hb <;> (try simp only [ZZ] at hb) <;> (first | omega | contradiction | skip))
     | refine Src.whole ⟨rfl, rfl⟩ ?_ | refine FrzV.whole ?_) <;> conv => whnf)
    refine PostCl.of (h0) ?_ ?_
    · repeat first | exact trivial | refine ⟨VLe.refl _, ?_⟩
    · repeat first | exact trivial | refine ⟨by decide, ?_⟩
  | succ q ih =>
    intro i acc hi hne hR
    obtain ⟨⟨z, x⟩, hx⟩ : ∃ x, t.m[i]? = some x := ⟨_, List.getElem?_eq_getElem (show i < t.m.length by omega)⟩
    have hxi : t.m[(i : Int).toNat]? = some (z, x) := by rw [Int.toNat_natCast]; exact hx
    rw [drop_cons hx, allPM, allPP, ← List.append_assoc] at hR
    have hxm := List.mem_of_getElem? hx
    have hlR := congrArg List.length hR
    rw [List.length_append] at hlR
    have hC := hc (z, x) hxm (pre ++ [⟨z, 0, false⟩]) acc (by have := hnx (z, x) hxm; simp only [List.length_append, List.length_cons, List.length_nil] at *; omega) (by simp only []; omega) hne
    rw [← encS_app] at hC
    have hl := ih (i + 1) _ (by omega) (by simp [hne]) hR
    simp only [] at hC
    rw [Tree.enc_eta x] at hC
    rw [Tree.enc_eta t] at hl ⊢
    clear h0 ih
    generalize acc ++ allPT x (pre ++ [⟨z, 0, false⟩]) = acc2 at *
    unfold wkO at hC hl ⊢
    generalize acc2.map pthV = es2 at *
    generalize acc.map pthV = es at *
    generalize encS pre = ep at *
    refine LoopW.round (pol := polG) mixP ?_
    conv => whnf
    repeat' ((first
     | ((with_reducible first | refine Br.dec ?_ ?_ | refine Br.ndec ?_ ?_) <;> intro hb <;> (try simp only [And.intro @hel (ZZ)] at hb) <;> (first | omega | contradiction | skip))
     | (with_reducible first | refine Br.tt rfl ?_ | refine Br.ff rfl ?_ | refine Br.ff (isEmptyCons _ _) ?_)
     | ((with_reducible first | refine Side.mk ?_ ?_ | refine WrapW.mk ?_ ?_); focus (first | omega | (dsimp only [InR, Int.reduceToNat, IntKind.bits, Int.reducePow]; omega) | exact stp_side ⟨z, 0, false⟩ | exact ⟨fun y hy => (stp_side ⟨z, 0, false⟩ y hy).1, by show (ep.length + 1) * 64 ≤ _; omega, hcs⟩ | exact ⟨rfl, rfl⟩ | (simp [CC]; done) | (constructor <;> omega)))
     | with_reducible refine Br.not ?_
     | (with_reducible first | refine Br.tt (by assumption) ?_ | refine Br.ff (by assumption) ?_)
     | (refine Br.mk ?_ ?_ <;> intro hb <;> (try simp only [And.intro @hel (ZZ)] at hb) <;> (first | omega | contradiction | skip))
     | refine Src.whole ⟨rfl, rfl⟩ ?_ | refine FrzV.whole ?_
     | refine CallW.use (hC) ?_
     | (refine ElemZ.pairE hxi ?_)) <;> conv => whnf)
    refine LoopW.ren [0, 1, 2] (hl) (by repeat first | exact trivial | refine ⟨⟨rfl, VLe.refl _⟩, ?_⟩) (by repeat first | exact trivial | refine ⟨by decide, ?_⟩) rfl rfl
theorem path_walk1 (t : Tree) (hw : t.wt ≤ 4000000) (hn : t.nodes ≤ 1000) :
    AbsCall PP GG F.path_walker_walk [.ptr 0 0, .p t.enc, .p (.lst false [])] [.var T.path_walker (.p (.agg [.nils]))] ⟨.ret (.tup []), wkO (allPT t []), []⟩ := by
  have hml := t.wt_ml
  have hll := t.wt_ll
  have hC := clip_steps [] (by simp)
  have hte := allPT_eq t []
  have hle : (allPT t []).length = t.nodes := allPT_len t []
  have hle2 : (allPT t []).length = 1 + (allPL t.l 0 []).length + (allPM t.m []).length := by rw [hte]; simp only [List.length_append, List.length_cons]; omega
  have hL := fun K h0 => walk_loopL1 t [] (by simpa using hn) (fun x hx => path_walk x (by have := Tree.wt_l hx; omega)) (fun x hx => Tree.nodes_l hx) (by omega) ([[]] ++ allPL t.l 0 []) (by simp only [List.length_append, List.length_cons, List.length_nil]; omega) K h0 t.l.length 0 [[]] (Nat.zero_add _) (by simp) rfl
  have hM := fun K h0 => walk_loopM1 t [] (by simpa using hn) (fun x hx => path_walk x.2 (by have := Tree.wt_m hx; omega)) (fun x hx => Tree.nodes_m hx) (by omega) (allPT t []) (by omega) K h0 t.m.length 0 ([[]] ++ allPL t.l 0 []) (Nat.zero_add _) (by simp) (by rw [hte, List.drop_zero]; simp)
  have hel : (Tree.encL t.l).length = t.l.length := Tree.encL_length _
  have hem : (Tree.encM t.m).length = t.m.length := Tree.encM_length _
  unfold wkO at hL hM ⊢
  have hpe : ([[]] : List (List Stp)).map pthV = [.lst false []] := rfl
  have hee : encS [] = [] := rfl
  rw [hpe] at hL
  rw [hee] at hL hM hC
  generalize ([[]] ++ allPL t.l 0 []).map pthV = es1 at *
  generalize (allPT t []).map pthV = es2 at *
  rw [← hel] at hL
  rw [← hem] at hM
  rw [Tree.enc_eta t] at hL hM ⊢
  refine absCall_of (pol := polG) mixP F.path_walker_walk_is ?_
  conv => whnf
  repeat' ((first
   | ((with_reducible first | refine Br.dec ?_ ?_ | refine Br.ndec ?_ ?_) <;> intro hb <;> (try simp only [ZZ] at hb) <;> (first | omega | contradiction | skip))
   | (with_reducible first | refine Br.tt rfl ?_ | refine Br.ff rfl ?_ | refine Br.ff (isEmptyCons _ _) ?_)
   | ((with_reducible first | refine Side.mk ?_ ?_ | refine WrapW.mk ?_ ?_); focus (first | omega | (dsimp only [InR, Int.reduceToNat, IntKind.bits, Int.reducePow]; omega) | exact ⟨fun y hy => by obtain rfl := List.mem_singleton.1 hy; rfl, by show 1 * 48 ≤ _; decide⟩ | (simp [CC]; done) | (constructor <;> omega)))
   | with_reducible refine Br.not ?_
   | (with_reducible first | refine Br.tt (by assumption) ?_ | refine Br.ff (by assumption) ?_)
   | (refine Br.mk ?_ ?_ <;> intro hb <;> (try simp only [ZZ] at hb) <;> (first | omega | contradiction | skip))
   | refine Src.whole ⟨rfl, rfl⟩ ?_ | refine FrzV.whole ?_
   | refine CallW.use (hC) ?_) <;> conv => whnf)
  refine LoopW.cl ?_
  refine LoopW.ren [0, 3, 1] (hL _ ?_) (by repeat first | exact trivial | refine ⟨⟨rfl, VLe.refl _⟩, ?_⟩) (by repeat first | exact trivial | refine ⟨by decide, ?_⟩) rfl rfl
  conv => whnf
  repeat' ((first
   | ((with_reducible first | refine Br.dec ?_ ?_ | refine Br.ndec ?_ ?_) <;> intro hb <;> (try simp only [ZZ] at hb) <;> (first | omega | contradiction | skip))
   | (with_reducible first | refine Br.tt rfl ?_ | refine Br.ff rfl ?_ | refine Br.ff (isEmptyCons _ _) ?_)
   | ((with_reducible first | refine Side.mk ?_ ?_ | refine WrapW.mk ?_ ?_); focus (first | omega | (dsimp only [InR, Int.reduceToNat, IntKind.bits, Int.reducePow]; omega) | (simp [CC]; done) | (constructor <;> omega)))
   | with_reducible refine Br.not ?_
   | (with_reducible first | refine Br.tt (by assumption) ?_ | refine Br.ff (by assumption) ?_)
   | (refine Br.mk ?_ ?_ <;> intro hb <;> (try simp only [ZZ] at hb) <;> (first | omega | contradiction | skip))
   | refine Src.whole ⟨rfl, rfl⟩ ?_ | refine FrzV.whole ?_) <;> conv => whnf)
  refine LoopW.cl ?_
  refine LoopW.sub (hM _ ?_) (by repeat first | exact trivial | refine ⟨VLe.refl _, ?_⟩) (by repeat first | exact trivial | refine ⟨by decide, ?_⟩)
  conv => whnf
  repeat' ((first
   | ((with_reducible first | refine Br.dec ?_ ?_ | refine Br.ndec ?_ ?_) <;> intro hb <;> (try simp only [ZZ] at hb) <;> (first | omega | contradiction | skip))
   | (with_reducible first | refine Br.tt rfl ?_ | refine Br.ff rfl ?_ | refine Br.ff (isEmptyCons _ _) ?_)
   | ((with_reducible first | refine Side.mk ?_ ?_ | refine WrapW.mk ?_ ?_); focus (first | omega | (dsimp only [InR, Int.reduceToNat, IntKind.bits, Int.reducePow]; omega) | (simp [CC]; done) | (constructor <;> omega)))
   | with_reducible refine Br.not ?_
   | (with_reducible first | refine Br.tt (by assumption) ?_ | refine Br.ff (by assumption) ?_)
   | (refine Br.mk ?_ ?_ <;> intro hb <;> (try simp only [ZZ] at hb) <;> (first | omega | contradiction | skip))
   | refine Src.whole ⟨rfl, rfl⟩ ?_ | refine FrzV.whole ?_) <;> conv => whnf)
  exact CLe.eq rfl
theorem frz_wk (t : Nat) (es : List PV) : HO.frz 2 es (.var t (.agg [.sl 2 0 es.length])) = .var t (.p (.agg [.lst false es])) := by
  rw [HO.frz]
  simp only [V.frz, V.frzL, if_pos, Nat.zero_add, Nat.le_refl, List.drop_zero, List.take_length]
  rfl
theorem path_All (t : Tree) (hw : t.wt ≤ 4000000) (hn : t.nodes ≤ 1000) : AbsCall PP GG F.path_All [.p t.enc] [] ⟨.ret (.p (.lst false ((allPT t []).map pthV))), [], []⟩ := by
  have hW := (path_walk1 t hw hn).args (args := [.ptr 0 0, .p t.enc, .p .nils]) ⟨VLe.refl _, VLe.refl _, (PLe.nils false).p, trivial⟩
  unfold wkO at hW
  generalize (allPT t []).map pthV = es at *
  rw [Tree.enc_eta t] at hW ⊢
  refine absCall_of (pol := polG) mixP F.path_All_is ?_
  conv => whnf
  repeat' ((first
   | ((with_reducible first | refine Br.dec ?_ ?_ | refine Br.ndec ?_ ?_) <;> intro hb <;> (try simp only [ZZ] at hb) <;> (first | omega | contradiction | skip))
   | (with_reducible first | refine Br.tt rfl ?_ | refine Br.ff rfl ?_ | refine Br.ff (isEmptyCons _ _) ?_)
   | ((with_reducible first | refine Side.mk ?_ ?_ | refine WrapW.mk ?_ ?_); focus (first | omega | (dsimp only [InR, Int.reduceToNat, IntKind.bits, Int.reducePow]; omega) | (simp [CC]; done) | (constructor <;> omega)))
   | with_reducible refine Br.not ?_
   | (with_reducible first | refine Br.tt (by assumption) ?_ | refine Br.ff (by assumption) ?_)
   | (refine Br.mk ?_ ?_ <;> intro hb <;> (try simp only [ZZ] at hb) <;> (first | omega | contradiction | skip))
   | refine Src.whole ⟨rfl, rfl⟩ ?_ | refine FrzV.whole ?_
   | refine CallW.use (hW) ?_) <;> conv => whnf)
  refine FrzO.mk _ (frz_wk _ es) ?_
  conv => whnf
  exact CLe.eq rfl
end Go.Proofs.YthkoefpidnphpaaGreatDoor
end

section
namespace Go.Proofs.YthkoefpidnphpaaGreatDoor
open Go Go.Am Go.RowKit
set_option maxRecDepth 100000
set_option maxHeartbeats 2000000
end Go.Proofs.YthkoefpidnphpaaGreatDoor
end

section
namespace Go.Am
open Go
theorem part_nodes {v : Tree} {s : Stp} (h : 0 ≤ findS v s) : (partT v (findS v s).toNat).nodes < v.nodes := by
  obtain ⟨_, h5, h6, hk⟩ := findS_lt v s
  unfold partT
  rcases hk h with hk | hk
  · rw [if_pos hk]
    have hlt : (findS v s).toNat < v.l.length := by have := h5 hk; omega
    rw [List.getD_eq_getElem?_getD, List.getElem?_eq_getElem hlt]
    exact Tree.nodes_l (List.getElem_mem _)
  · rw [if_neg (by omega)]
    have hlt : (findS v s).toNat < v.m.length := by have := h6 hk; omega
    rw [List.getD_eq_getElem?_getD, List.getElem?_eq_getElem hlt]
    exact Tree.nodes_m (List.getElem_mem _)
theorem getT_len : ∀ (p : List Stp) (v : Tree), (getT v p).isSome = true → p.length < v.nodes
  | [], v, _ => Tree.nodes_pos v
  | s :: p, v, h => by
    rw [getT] at h
    split at h
    · cases h
    rename_i hn
    have h1 := getT_len p _ h
    have h2 := part_nodes (v := v) (s := s) (by omega)
    rw [List.length_cons]
    omega
end Go.Am
end

section
namespace Go.Proofs.YthkoefpidnphpaaGreatDoor
open Go Go.Am Go.RowKit
set_option maxRecDepth 100000
theorem copy2_loopL (k n : Int) (s : Str) (l : List Tree) (ms : List PV) (hl : l.length ≤ 4000000) (hc : ∀ x ∈ l, AbsCall PP GG F.value_Copy [.p x.enc] [] ⟨.ret (.p x.enc), [], []⟩) (K : Post)
    (h0 : K (.exit 0) [(1, .ptr 0 0), (2, .ptr 1 0)] [.var T.api_Value (.agg [.p (.int .i64 k), .p (.int .i64 n), .p (.str s), .sl 2 0 (Tree.encL l).length, .sl 3 0 ms.length]), .var T.api_Value (.p (.agg [.int .i64 0, .int .i64 0, .str [], .nils, .nils])), .arr T.api_Value 5 (Tree.encL l), .arr T.api_Pair 6 ms] []) :
    ∀ (q i : Nat), i + q = l.length → LoopW PP GG 50 0 (loopN F.value_Copy_c 0) [(1, .ptr 0 0), (2, .ptr 1 0), (15, .p (.int .i64 l.length)), (16, .p (.int .i64 i))]
      [.var T.api_Value (.agg [.p (.int .i64 k), .p (.int .i64 n), .p (.str s), .sl 2 0 (Tree.encL l).length, .sl 3 0 ms.length]), .var T.api_Value (.p (.agg [.int .i64 0, .int .i64 0, .str [], .nils, .nils])), .arr T.api_Value 5 (Tree.encL l), .arr T.api_Pair 6 ms] [] (PostCl 50 K) := by
  have hel : (Tree.encL l).length = l.length := Tree.encL_length _
  intro q
  induction q with
  | zero =>
    intro i hi
    obtain rfl : i = l.length := by omega
    refine LoopW.round (pol := polG) mixP ?_
    conv => whnf
    repeat' ((first
     | ((with_reducible first | refine Br.dec ?_ ?_ | refine Br.ndec ?_ ?_) <;> intro hb <;> (try simp only [ZZ] at hb) <;> (first | omega | contradiction | skip))
     | (with_reducible first | refine Br.tt rfl ?_ | refine Br.ff rfl ?_ | refine Br.ff (isEmptyCons _ _) ?_)
     | ((with_reducible first | refine Side.mk ?_ ?_ | refine WrapW.mk ?_ ?_); focus (first | omega | (dsimp only [InR, Int.reduceToNat, IntKind.bits, Int.reducePow]; omega) | (simp [CC]; done) | (constructor <;> omega)))
     | with_reducible refine Br.not ?_
     | (with_reducible first | refine Br.tt (by assumption) ?_ | refine Br.ff (by assumption) ?_)
     | (refine Br.mk ?_ ?_ <;> intro hb <;> (try simp only [ZZ] at hb) <;> (first | omega | contradiction | skip))
     | refine Src.whole ⟨rfl, rfl⟩ ?_ | refine FrzV.whole ?_) <;> conv => whnf)
    refine PostCl.of (h0) ?_ ?_
    · repeat first | exact trivial | refine ⟨VLe.refl _, ?_⟩
    · repeat first | exact trivial | refine ⟨by decide, ?_⟩
  | succ q ih =>
    intro i hi
    obtain ⟨x, hx⟩ : ∃ x, l[i]? = some x := ⟨_, List.getElem?_eq_getElem (show i < l.length by omega)⟩
    have hC := hc x (List.mem_of_getElem? hx)
    have hxe : (Tree.encL l)[(i : Int).toNat]? = some (.agg [.int .i64 x.kind, .int .i64 x.n, .str x.s, .lst false (Tree.encL x.l), .lst false (Tree.encM x.m)]) := by
      rw [Int.toNat_natCast, Tree.encL_get hx, Tree.enc_eta x]
    have hset := set_same hxe
    have hl := ih (i + 1) (by omega)
    rw [Tree.enc_eta x] at hC
    generalize Tree.encL l = es at *
    refine LoopW.round (pol := polG) mixP ?_
    conv => whnf
    repeat' ((first
     | ((with_reducible first | refine Br.dec ?_ ?_ | refine Br.ndec ?_ ?_) <;> intro hb <;> (try simp only [And.intro @hel (ZZ)] at hb) <;> (first | omega | contradiction | skip))
     | (with_reducible first | refine Br.tt rfl ?_ | refine Br.ff rfl ?_ | refine Br.ff (isEmptyCons _ _) ?_)
     | ((with_reducible first | refine Side.mk ?_ ?_ | refine WrapW.mk ?_ ?_); focus (first | omega | (dsimp only [InR, Int.reduceToNat, IntKind.bits, Int.reducePow]; omega) | exact ⟨rfl, rfl⟩ | exact ⟨rfl, rfl, rfl, rfl⟩ | (simp [CC]; done) | (constructor <;> omega)))
     | with_reducible refine Br.not ?_
     | (with_reducible first | refine Br.tt (by assumption) ?_ | refine Br.ff (by assumption) ?_)
     | (refine Br.mk ?_ ?_ <;> intro hb <;> (try simp only [And.intro @hel (ZZ)] at hb) <;> (first | omega | contradiction | skip))
     | refine Src.whole ⟨rfl, rfl⟩ ?_ | refine FrzV.whole ?_
     | refine CallW.use (hC) ?_
     | (refine ElemA.mk _ hxe ?_)) <;> conv => whnf)
    rw [show plus0 0 (i : Int).toNat = (i : Int).toNat from rfl, hset]
    refine LoopW.ren [0, 1, 2, 3] (hl) (by repeat first | exact trivial | refine ⟨⟨rfl, VLe.refl _⟩, ?_⟩) (by repeat first | exact trivial | refine ⟨by decide, ?_⟩) rfl rfl
theorem copy2_loopM (k n : Int) (s : Str) (es : List PV) (m : List (Str × Tree)) (hm : m.length ≤ 4000000) (hc : ∀ x ∈ m, AbsCall PP GG F.value_Copy [.p x.2.enc] [] ⟨.ret (.p x.2.enc), [], []⟩) (K : Post)
    (h0 : K (.exit 2) [(1, .ptr 0 0), (2, .ptr 1 0)] [.var T.api_Value (.agg [.p (.int .i64 k), .p (.int .i64 n), .p (.str s), .sl 2 0 es.length, .sl 3 0 (Tree.encM m).length]), .var T.api_Value (.p (.agg [.int .i64 0, .int .i64 0, .str [], .nils, .nils])), .arr T.api_Value 5 es, .arr T.api_Pair 6 (Tree.encM m)] []) :
    ∀ (q i : Nat), i + q = m.length → LoopW PP GG 50 0 (loopN F.value_Copy_c 1) [(1, .ptr 0 0), (2, .ptr 1 0), (32, .p (.int .i64 m.length)), (33, .p (.int .i64 i))]
      [.var T.api_Value (.agg [.p (.int .i64 k), .p (.int .i64 n), .p (.str s), .sl 2 0 es.length, .sl 3 0 (Tree.encM m).length]), .var T.api_Value (.p (.agg [.int .i64 0, .int .i64 0, .str [], .nils, .nils])), .arr T.api_Value 5 es, .arr T.api_Pair 6 (Tree.encM m)] [] (PostCl 50 K) := by
  have hel : (Tree.encM m).length = m.length := Tree.encM_length _
  intro q
  induction q with
  | zero =>
    intro i hi
    obtain rfl : i = m.length := by omega
    refine LoopW.round (pol := polG) mixP ?_
    conv => whnf
    repeat' ((first
     | ((with_reducible first | refine Br.dec ?_ ?_ | refine Br.ndec ?_ ?_) <;> intro hb <;> (try simp only [ZZ] at hb) <;> (first | omega | contradiction | skip))
     | (with_reducible first | refine Br.tt rfl ?_ | refine Br.ff rfl ?_ | refine Br.ff (isEmptyCons _ _) ?_)
     | ((with_reducible first | refine Side.mk ?_ ?_ | refine WrapW.mk ?_ ?_); focus (first | omega | (dsimp only [InR, Int.reduceToNat, IntKind.bits, Int.reducePow]; omega) | (simp [CC]; done) | (constructor <;> omega)))
     | with_reducible refine Br.not ?_
     | (with_reducible first | refine Br.tt (by assumption) ?_ | refine Br.ff (by assumption) ?_)
     | (refine Br.mk ?_ ?_ <;> intro hb <;> (try simp only [ZZ] at hb) <;> (first | omega | contradiction | skip))
     | refine Src.whole ⟨rfl, rfl⟩ ?_ | refine FrzV.whole ?_) <;> conv => whnf)
    refine PostCl.of (h0) ?_ ?_
    · repeat first | exact trivial | refine ⟨VLe.refl _, ?_⟩
    · repeat first | exact trivial | refine ⟨by decide, ?_⟩
  | succ q ih =>
    intro i hi
    obtain ⟨⟨z, x⟩, hx⟩ : ∃ x, m[i]? = some x := ⟨_, List.getElem?_eq_getElem (show i < m.length by omega)⟩
    have hC := hc (z, x) (List.mem_of_getElem? hx)
    have hxe : (Tree.encM m)[(i : Int).toNat]? = some (.agg [.str z, .int .i64 x.kind, .int .i64 x.n, .str x.s, .lst false (Tree.encL x.l), .lst false (Tree.encM x.m)]) := by
      rw [Int.toNat_natCast, Tree.encM_get hx, encP_flat]
    have hset := set_same hxe
    have hl := ih (i + 1) (by omega)
    simp only [] at hC
    rw [Tree.enc_eta x] at hC
    generalize Tree.encM m = es at *
    refine LoopW.round (pol := polG) mixP ?_
    conv => whnf
    repeat' ((first
     | ((with_reducible first | refine Br.dec ?_ ?_ | refine Br.ndec ?_ ?_) <;> intro hb <;> (try simp only [And.intro @hel (ZZ)] at hb) <;> (first | omega | contradiction | skip))
     | (with_reducible first | refine Br.tt rfl ?_ | refine Br.ff rfl ?_ | refine Br.ff (isEmptyCons _ _) ?_)
     | ((with_reducible first | refine Side.mk ?_ ?_ | refine WrapW.mk ?_ ?_); focus (first | omega | (dsimp only [InR, Int.reduceToNat, IntKind.bits, Int.reducePow]; omega) | exact ⟨rfl, rfl⟩ | (simp [CC]; done) | (constructor <;> omega)))
     | with_reducible refine Br.not ?_
     | (with_reducible first | refine Br.tt (by assumption) ?_ | refine Br.ff (by assumption) ?_)
     | (refine Br.mk ?_ ?_ <;> intro hb <;> (try simp only [And.intro @hel (ZZ)] at hb) <;> (first | omega | contradiction | skip))
     | refine Src.whole ⟨rfl, rfl⟩ ?_ | refine FrzV.whole ?_
     | refine CallW.use (hC) ?_
     | (refine ElemA.mk _ hxe ?_)) <;> conv => whnf)
    erw [hset]
    refine LoopW.ren [0, 1, 2, 3] (hl) (by repeat first | exact trivial | refine ⟨⟨rfl, VLe.refl _⟩, ?_⟩) (by repeat first | exact trivial | refine ⟨by decide, ?_⟩) rfl rfl
theorem frz2_with (q r m : Nat) (es : List PV) (k n : Int) (s : Str) (u : Nat) (hr : r ≠ q) (hm : m = es.length) :
    V.frz q es (.agg [.p (.int .i64 k), .p (.int .i64 n), .p (.str s), .sl q 0 m, .sl r 0 u]) = .agg [.p (.int .i64 k), .p (.int .i64 n), .p (.str s), .p (.lst false es), .sl r 0 u] := by
  subst hm
  simp only [V.frz, V.frzL, if_pos, if_neg hr, Nat.zero_add, Nat.le_refl, List.drop_zero, List.take_length]
  rfl
theorem frzO2_with (q r m : Nat) (es : List PV) (k n : Int) (s : Str) (u t : Nat) (hr : r ≠ q) (hm : m = es.length) :
    HO.frz q es (.var t (.agg [.p (.int .i64 k), .p (.int .i64 n), .p (.str s), .sl q 0 m, .sl r 0 u])) = .var t (.agg [.p (.int .i64 k), .p (.int .i64 n), .p (.str s), .p (.lst false es), .sl r 0 u]) := by
  rw [HO.frz, frz2_with q r m es k n s u hr hm]
theorem value_CopyA : ∀ t : Tree, t.wt ≤ 4000000 → AbsCall PP GG F.value_Copy [.p t.enc] [] ⟨.ret (.p t.enc), [], []⟩ := by
  refine Tree.indW fun t hw hl hm => ?_
  have hml := t.wt_ml
  have hll := t.wt_ll
  have hcl : ∀ x ∈ t.l, AbsCall PP GG F.value_Copy [.p x.enc] [] ⟨.ret (.p x.enc), [], []⟩ := fun x hx => (hl x hx).2
  have hcm : ∀ x ∈ t.m, AbsCall PP GG F.value_Copy [.p x.2.enc] [] ⟨.ret (.p x.2.enc), [], []⟩ := fun x hx => (hm x hx).2.2
  obtain ⟨k, n, s, l, m⟩ := t
  simp only [Tree.kind, Tree.m, Tree.l] at *
  rw [Tree.enc_eta (Tree.mk k n s l m)]
  simp only [Tree.kind, Tree.n, Tree.s, Tree.m, Tree.l]
  have hel : (Tree.encL l).length = l.length := Tree.encL_length _
  have hem : (Tree.encM m).length = m.length := Tree.encM_length _
  by_cases hln : l = []
  · subst hln
    by_cases hmn : m = []
    · subst hmn
      show AbsCall PP GG F.value_Copy [.p (.agg [.int .i64 k, .int .i64 n, .str s, .lst false [], .lst false []])] [] ⟨.ret (.p (.agg [.int .i64 k, .int .i64 n, .str s, .lst false [], .lst false []])), [], []⟩
      refine absCall_of (pol := polG) mixP F.value_Copy_is ?_
      conv => whnf
      repeat' ((first
       | ((with_reducible first | refine Br.dec ?_ ?_ | refine Br.ndec ?_ ?_) <;> intro hb <;> (try simp only [ZZ] at hb) <;> (first | omega | contradiction | skip))
       | (with_reducible first | refine Br.tt rfl ?_ | refine Br.ff rfl ?_ | refine Br.ff (isEmptyCons _ _) ?_)
       | ((with_reducible first | refine Side.mk ?_ ?_ | refine WrapW.mk ?_ ?_); focus (first | omega | (dsimp only [InR, Int.reduceToNat, IntKind.bits, Int.reducePow]; omega) | (simp [CC]; done) | (constructor <;> omega)))
       | with_reducible refine Br.not ?_
       | (with_reducible first | refine Br.tt (by assumption) ?_ | refine Br.ff (by assumption) ?_)
       | (refine Br.mk ?_ ?_ <;> intro hb <;> (try simp only [ZZ] at hb) <;> (first | omega | contradiction | skip))
       | refine Src.whole ⟨rfl, rfl⟩ ?_ | refine FrzV.whole ?_
       | refine CallW.use (clone_vals0) ?_
       | refine CallW.use (clone_pairs0) ?_) <;> conv => whnf)
      refine LoopW.cl ?_
      refine LoopW.sub (copy_zeroL _ _ ?_) (by repeat first | exact trivial | refine ⟨VLe.refl _, ?_⟩) (by repeat first | exact trivial | refine ⟨by decide, ?_⟩)
      conv => whnf
      repeat' ((first
       | ((with_reducible first | refine Br.dec ?_ ?_ | refine Br.ndec ?_ ?_) <;> intro hb <;> (try simp only [ZZ] at hb) <;> (first | omega | contradiction | skip))
       | (with_reducible first | refine Br.tt rfl ?_ | refine Br.ff rfl ?_ | refine Br.ff (isEmptyCons _ _) ?_)
       | ((with_reducible first | refine Side.mk ?_ ?_ | refine WrapW.mk ?_ ?_); focus (first | omega | (dsimp only [InR, Int.reduceToNat, IntKind.bits, Int.reducePow]; omega) | (simp [CC]; done) | (constructor <;> omega)))
       | with_reducible refine Br.not ?_
       | (with_reducible first | refine Br.tt (by assumption) ?_ | refine Br.ff (by assumption) ?_)
       | (refine Br.mk ?_ ?_ <;> intro hb <;> (try simp only [ZZ] at hb) <;> (first | omega | contradiction | skip))
       | refine Src.whole ⟨rfl, rfl⟩ ?_ | refine FrzV.whole ?_) <;> conv => whnf)
      refine LoopW.cl ?_
      refine LoopW.sub (copy_zeroM _ _ ?_) (by repeat first | exact trivial | refine ⟨VLe.refl _, ?_⟩) (by repeat first | exact trivial | refine ⟨by decide, ?_⟩)
      conv => whnf
      repeat' ((first
       | ((with_reducible first | refine Br.dec ?_ ?_ | refine Br.ndec ?_ ?_) <;> intro hb <;> (try simp only [ZZ] at hb) <;> (first | omega | contradiction | skip))
       | (with_reducible first | refine Br.tt rfl ?_ | refine Br.ff rfl ?_ | refine Br.ff (isEmptyCons _ _) ?_)
       | ((with_reducible first | refine Side.mk ?_ ?_ | refine WrapW.mk ?_ ?_); focus (first | omega | (dsimp only [InR, Int.reduceToNat, IntKind.bits, Int.reducePow]; omega) | (simp [CC]; done) | (constructor <;> omega)))
       | with_reducible refine Br.not ?_
       | (with_reducible first | refine Br.tt (by assumption) ?_ | refine Br.ff (by assumption) ?_)
       | (refine Br.mk ?_ ?_ <;> intro hb <;> (try simp only [ZZ] at hb) <;> (first | omega | contradiction | skip))
       | refine Src.whole ⟨rfl, rfl⟩ ?_ | refine FrzV.whole ?_) <;> conv => whnf)
      exact CLe.eq rfl
    · have hD := clone_pairs m hmn (by omega)
      have hlp := copy_loopM k n s m (by omega) hcm
      show AbsCall PP GG F.value_Copy [.p (.agg [.int .i64 k, .int .i64 n, .str s, .lst false [], .lst false (Tree.encM m)])] [] ⟨.ret (.p (.agg [.int .i64 k, .int .i64 n, .str s, .lst false [], .lst false (Tree.encM m)])), [], []⟩
      rw [← hem] at hlp
      generalize Tree.encM m = es at *
      refine absCall_of (pol := polG) mixP F.value_Copy_is ?_
      conv => whnf
      repeat' ((first
       | ((with_reducible first | refine Br.dec ?_ ?_ | refine Br.ndec ?_ ?_) <;> intro hb <;> (try simp only [And.intro @hem (ZZ)] at hb) <;> (first | omega | contradiction | skip))
       | (with_reducible first | refine Br.tt rfl ?_ | refine Br.ff rfl ?_ | refine Br.ff (isEmptyCons _ _) ?_)
       | ((with_reducible first | refine Side.mk ?_ ?_ | refine WrapW.mk ?_ ?_); focus (first | omega | (dsimp only [InR, Int.reduceToNat, IntKind.bits, Int.reducePow]; omega) | (simp [CC]; done) | (constructor <;> omega)))
       | with_reducible refine Br.not ?_
       | (with_reducible first | refine Br.tt (by assumption) ?_ | refine Br.ff (by assumption) ?_)
       | (refine Br.mk ?_ ?_ <;> intro hb <;> (try simp only [And.intro @hem (ZZ)] at hb) <;> (first | omega | contradiction | skip))
       | refine Src.whole ⟨rfl, rfl⟩ ?_ | refine FrzV.whole ?_
       | refine CallW.use (clone_vals0) ?_
       | refine CallW.use (hD) ?_) <;> conv => whnf)
      refine LoopW.cl ?_
      refine LoopW.sub (copy_zeroL _ _ ?_) (by repeat first | exact trivial | refine ⟨VLe.refl _, ?_⟩) (by repeat first | exact trivial | refine ⟨by decide, ?_⟩)
      conv => whnf
      repeat' ((first
       | ((with_reducible first | refine Br.dec ?_ ?_ | refine Br.ndec ?_ ?_) <;> intro hb <;> (try simp only [ZZ] at hb) <;> (first | omega | contradiction | skip))
       | (with_reducible first | refine Br.tt rfl ?_ | refine Br.ff rfl ?_ | refine Br.ff (isEmptyCons _ _) ?_)
       | ((with_reducible first | refine Side.mk ?_ ?_ | refine WrapW.mk ?_ ?_); focus (first | omega | (dsimp only [InR, Int.reduceToNat, IntKind.bits, Int.reducePow]; omega) | (simp [CC]; done) | (constructor <;> omega)))
       | with_reducible refine Br.not ?_
       | (with_reducible first | refine Br.tt (by assumption) ?_ | refine Br.ff (by assumption) ?_)
       | (refine Br.mk ?_ ?_ <;> intro hb <;> (try simp only [ZZ] at hb) <;> (first | omega | contradiction | skip))
       | refine Src.whole ⟨rfl, rfl⟩ ?_ | refine FrzV.whole ?_) <;> conv => whnf)
      refine LoopW.cl ?_
      refine LoopW.sub (hlp _ ?_ es.length 0 (Nat.zero_add _)) (by repeat first | exact trivial | refine ⟨VLe.refl _, ?_⟩) (by repeat first | exact trivial | refine ⟨by decide, ?_⟩)
      conv => whnf
      repeat' ((first
       | ((with_reducible first | refine Br.dec ?_ ?_ | refine Br.ndec ?_ ?_) <;> intro hb <;> (try simp only [ZZ] at hb) <;> (first | omega | contradiction | skip))
       | (with_reducible first | refine Br.tt rfl ?_ | refine Br.ff rfl ?_ | refine Br.ff (isEmptyCons _ _) ?_)
       | ((with_reducible first | refine Side.mk ?_ ?_ | refine WrapW.mk ?_ ?_); focus (first | omega | (dsimp only [InR, Int.reduceToNat, IntKind.bits, Int.reducePow]; omega) | (simp [CC]; done) | (constructor <;> omega)))
       | with_reducible refine Br.not ?_
       | (with_reducible first | refine Br.tt (by assumption) ?_ | refine Br.ff (by assumption) ?_)
       | (refine Br.mk ?_ ?_ <;> intro hb <;> (try simp only [ZZ] at hb) <;> (first | omega | contradiction | skip))
       | refine Src.whole ⟨rfl, rfl⟩ ?_ | refine FrzV.whole ?_) <;> conv => whnf)
      refine FrzV.mk _ (frzM_with 2 _ _ _ _ _ _ rfl) ?_
      conv => whnf
      refine FrzO.mk _ (frzMO_with 2 _ _ _ _ _ _ _ rfl) ?_
      conv => whnf
      refine FrzO.mk _ (frzMO_with 2 _ _ _ _ _ _ _ rfl) ?_
      conv => whnf
      exact CLe.eq rfl
  · have hD := clone_vals l hln (by omega)
    by_cases hmn : m = []
    · subst hmn
      have hlp := copy_loopL k n s l (by omega) hcl
      show AbsCall PP GG F.value_Copy [.p (.agg [.int .i64 k, .int .i64 n, .str s, .lst false (Tree.encL l), .lst false []])] [] ⟨.ret (.p (.agg [.int .i64 k, .int .i64 n, .str s, .lst false (Tree.encL l), .lst false []])), [], []⟩
      rw [← hel] at hlp
      generalize Tree.encL l = es at *
      refine absCall_of (pol := polG) mixP F.value_Copy_is ?_
      conv => whnf
      repeat' ((first
       | ((with_reducible first | refine Br.dec ?_ ?_ | refine Br.ndec ?_ ?_) <;> intro hb <;> (try simp only [And.intro @hel (ZZ)] at hb) <;> (first | omega | contradiction | skip))
       | (with_reducible first | refine Br.tt rfl ?_ | refine Br.ff rfl ?_ | refine Br.ff (isEmptyCons _ _) ?_)
       | ((with_reducible first | refine Side.mk ?_ ?_ | refine WrapW.mk ?_ ?_); focus (first | omega | (dsimp only [InR, Int.reduceToNat, IntKind.bits, Int.reducePow]; omega) | (simp [CC]; done) | (constructor <;> omega)))
       | with_reducible refine Br.not ?_
       | (with_reducible first | refine Br.tt (by assumption) ?_ | refine Br.ff (by assumption) ?_)
       | (refine Br.mk ?_ ?_ <;> intro hb <;> (try simp only [And.intro @hel (ZZ)] at hb) <;> (first | omega | contradiction | skip))
       | refine Src.whole ⟨rfl, rfl⟩ ?_ | refine FrzV.whole ?_
       | refine CallW.use (hD) ?_
       | refine CallW.use (clone_pairs0) ?_) <;> conv => whnf)
      refine LoopW.cl ?_
      refine LoopW.sub (hlp _ ?_ es.length 0 (Nat.zero_add _)) (by repeat first | exact trivial | refine ⟨VLe.refl _, ?_⟩) (by repeat first | exact trivial | refine ⟨by decide, ?_⟩)
      conv => whnf
      repeat' ((first
       | ((with_reducible first | refine Br.dec ?_ ?_ | refine Br.ndec ?_ ?_) <;> intro hb <;> (try simp only [ZZ] at hb) <;> (first | omega | contradiction | skip))
       | (with_reducible first | refine Br.tt rfl ?_ | refine Br.ff rfl ?_ | refine Br.ff (isEmptyCons _ _) ?_)
       | ((with_reducible first | refine Side.mk ?_ ?_ | refine WrapW.mk ?_ ?_); focus (first | omega | (dsimp only [InR, Int.reduceToNat, IntKind.bits, Int.reducePow]; omega) | (simp [CC]; done) | (constructor <;> omega)))
       | with_reducible refine Br.not ?_
       | (with_reducible first | refine Br.tt (by assumption) ?_ | refine Br.ff (by assumption) ?_)
       | (refine Br.mk ?_ ?_ <;> intro hb <;> (try simp only [ZZ] at hb) <;> (first | omega | contradiction | skip))
       | refine Src.whole ⟨rfl, rfl⟩ ?_ | refine FrzV.whole ?_) <;> conv => whnf)
      refine LoopW.cl ?_
      refine LoopW.sub (copy_zeroM _ _ ?_) (by repeat first | exact trivial | refine ⟨VLe.refl _, ?_⟩) (by repeat first | exact trivial | refine ⟨by decide, ?_⟩)
      conv => whnf
      repeat' ((first
       | ((with_reducible first | refine Br.dec ?_ ?_ | refine Br.ndec ?_ ?_) <;> intro hb <;> (try simp only [ZZ] at hb) <;> (first | omega | contradiction | skip))
       | (with_reducible first | refine Br.tt rfl ?_ | refine Br.ff rfl ?_ | refine Br.ff (isEmptyCons _ _) ?_)
       | ((with_reducible first | refine Side.mk ?_ ?_ | refine WrapW.mk ?_ ?_); focus (first | omega | (dsimp only [InR, Int.reduceToNat, IntKind.bits, Int.reducePow]; omega) | (simp [CC]; done) | (constructor <;> omega)))
       | with_reducible refine Br.not ?_
       | (with_reducible first | refine Br.tt (by assumption) ?_ | refine Br.ff (by assumption) ?_)
       | (refine Br.mk ?_ ?_ <;> intro hb <;> (try simp only [ZZ] at hb) <;> (first | omega | contradiction | skip))
       | refine Src.whole ⟨rfl, rfl⟩ ?_ | refine FrzV.whole ?_) <;> conv => whnf)
      refine FrzV.mk _ (frz_with 2 _ _ _ _ _ _ rfl) ?_
      conv => whnf
      refine FrzO.mk _ (frzO_with 2 _ _ _ _ _ _ _ rfl) ?_
      conv => whnf
      refine FrzO.mk _ (frzO_with 2 _ _ _ _ _ _ _ rfl) ?_
      conv => whnf
      exact CLe.eq rfl
    · have hE := clone_pairs m hmn (by omega)
      have hlp := copy2_loopL k n s l (Tree.encM m) (by omega) hcl
      have hmp := copy2_loopM k n s (Tree.encL l) m (by omega) hcm
      rw [← hel] at hlp
      rw [← hem] at hmp
      generalize Tree.encM m = ms at *
      generalize Tree.encL l = es at *
      refine absCall_of (pol := polG) mixP F.value_Copy_is ?_
      conv => whnf
      repeat' ((first
       | ((with_reducible first | refine Br.dec ?_ ?_ | refine Br.ndec ?_ ?_) <;> intro hb <;> (try simp only [And.intro @hel (And.intro @hem (ZZ))] at hb) <;> (first | omega | contradiction | skip))
       | (with_reducible first | refine Br.tt rfl ?_ | refine Br.ff rfl ?_ | refine Br.ff (isEmptyCons _ _) ?_)
       | ((with_reducible first | refine Side.mk ?_ ?_ | refine WrapW.mk ?_ ?_); focus (first | omega | (dsimp only [InR, Int.reduceToNat, IntKind.bits, Int.reducePow]; omega) | (simp [CC]; done) | (constructor <;> omega)))
       | with_reducible refine Br.not ?_
       | (with_reducible first | refine Br.tt (by assumption) ?_ | refine Br.ff (by assumption) ?_)
       | (refine Br.mk ?_ ?_ <;> intro hb <;> (try simp only [And.intro @hel (And.intro @hem (ZZ))] at hb) <;> (first | omega | contradiction | skip))
       | refine Src.whole ⟨rfl, rfl⟩ ?_ | refine FrzV.whole ?_
       | refine CallW.use (hD) ?_
       | refine CallW.use (hE) ?_) <;> conv => whnf)
      refine LoopW.cl ?_
      refine LoopW.sub (hlp _ ?_ es.length 0 (Nat.zero_add _)) (by repeat first | exact trivial | refine ⟨VLe.refl _, ?_⟩) (by repeat first | exact trivial | refine ⟨by decide, ?_⟩)
      conv => whnf
      repeat' ((first
       | ((with_reducible first | refine Br.dec ?_ ?_ | refine Br.ndec ?_ ?_) <;> intro hb <;> (try simp only [ZZ] at hb) <;> (first | omega | contradiction | skip))
       | (with_reducible first | refine Br.tt rfl ?_ | refine Br.ff rfl ?_ | refine Br.ff (isEmptyCons _ _) ?_)
       | ((with_reducible first | refine Side.mk ?_ ?_ | refine WrapW.mk ?_ ?_); focus (first | omega | (dsimp only [InR, Int.reduceToNat, IntKind.bits, Int.reducePow]; omega) | (simp [CC]; done) | (constructor <;> omega)))
       | with_reducible refine Br.not ?_
       | (with_reducible first | refine Br.tt (by assumption) ?_ | refine Br.ff (by assumption) ?_)
       | (refine Br.mk ?_ ?_ <;> intro hb <;> (try simp only [ZZ] at hb) <;> (first | omega | contradiction | skip))
       | refine Src.whole ⟨rfl, rfl⟩ ?_ | refine FrzV.whole ?_) <;> conv => whnf)
      refine LoopW.cl ?_
      refine LoopW.sub (hmp _ ?_ ms.length 0 (Nat.zero_add _)) (by repeat first | exact trivial | refine ⟨VLe.refl _, ?_⟩) (by repeat first | exact trivial | refine ⟨by decide, ?_⟩)
      conv => whnf
      repeat' ((first
       | ((with_reducible first | refine Br.dec ?_ ?_ | refine Br.ndec ?_ ?_) <;> intro hb <;> (try simp only [ZZ] at hb) <;> (first | omega | contradiction | skip))
       | (with_reducible first | refine Br.tt rfl ?_ | refine Br.ff rfl ?_ | refine Br.ff (isEmptyCons _ _) ?_)
       | ((with_reducible first | refine Side.mk ?_ ?_ | refine WrapW.mk ?_ ?_); focus (first | omega | (dsimp only [InR, Int.reduceToNat, IntKind.bits, Int.reducePow]; omega) | (simp [CC]; done) | (constructor <;> omega)))
       | with_reducible refine Br.not ?_
       | (with_reducible first | refine Br.tt (by assumption) ?_ | refine Br.ff (by assumption) ?_)
       | (refine Br.mk ?_ ?_ <;> intro hb <;> (try simp only [ZZ] at hb) <;> (first | omega | contradiction | skip))
       | refine Src.whole ⟨rfl, rfl⟩ ?_ | refine FrzV.whole ?_) <;> conv => whnf)
      refine FrzV.mk _ (frz2_with 2 3 _ _ _ _ _ _ (by decide) rfl) ?_
      conv => whnf
      refine FrzO.mk _ (frzO2_with 2 3 _ _ _ _ _ _ _ (by decide) rfl) ?_
      conv => whnf
      refine FrzO.mk _ (frzO2_with 2 3 _ _ _ _ _ _ _ (by decide) rfl) ?_
      conv => whnf
      refine FrzV.mk _ (frzM_with 3 _ _ _ _ _ _ rfl) ?_
      conv => whnf
      refine FrzO.mk _ (frzMO_with 3 _ _ _ _ _ _ _ rfl) ?_
      conv => whnf
      refine FrzO.mk _ (frzMO_with 3 _ _ _ _ _ _ _ rfl) ?_
      conv => whnf
      exact CLe.eq rfl
def zeroP : PV := .agg [.str [], .int .i64 0, .int .i64 0, .str [], .nils, .nils]
theorem srcPartE {off len : Nat} {es r : List PV} {K : List PV → Prop} (h : off + len ≤ es.length) (e : (es.drop off).take len = r) (k : K r) : Am.Src off len es K := by
  subst e; exact Am.Src.part h k
theorem del_len {es B : List PV} {i : Nat} (hi : i < es.length) (hB : B.length = es.length - (i + 1)) : (es.take i ++ (B ++ es.drop (i + B.length))).length = es.length := by
  simp only [List.length_append, List.length_take, List.length_drop]; omega
theorem del_list {es B : List PV} {i : Nat} (hi : i < es.length) (hB : B.length = es.length - (i + 1)) (z : PV) :
    (es.take i ++ (B ++ es.drop (i + B.length))).take (i + B.length) ++ (List.replicate (es.length - (i + B.length)) z ++ (es.take i ++ (B ++ es.drop (i + B.length))).drop ((i + B.length) + (es.length - (i + B.length)))) = es.take i ++ (B ++ [z]) := by
  have h2 : (es.take i ++ B).length = i + B.length := by simp; omega
  have h3 : (es.take i ++ (B ++ es.drop (i + B.length))).drop ((i + B.length) + (es.length - (i + B.length))) = [] := List.drop_eq_nil_of_le (by rw [del_len hi hB]; omega)
  have h4 : (es.take i ++ (B ++ es.drop (i + B.length))).take (i + B.length) = es.take i ++ B := by
    rw [← List.append_assoc, List.take_append_of_le_length (by omega), List.take_of_length_le (by omega)]
  rw [h3, h4, List.append_nil, List.append_assoc, show es.length - (i + B.length) = 1 by omega]
  rfl
theorem delete_vals (es : List PV) (i : Nat) (hc : ∀ y ∈ es, y.cells.length = 5) (hi : i < es.length) (hl : es.length ≤ 4000000) :
    AbsCall PP GG F.slices_Delete_api_Value_api_Value [.sl 0 0 es.length, .p (.int .i64 i), .p (.int .i64 (i + 1 : Nat))] [.arr T.api_Value 5 es] ⟨.ret (.sl 0 0 (es.length - 1)), [.arr T.api_Value 5 (es.eraseIdx i ++ [zeroV])], [0]⟩ := by
  have hp : ∀ y ∈ es.drop (i + 1), y.cells.length = 5 := fun y hy => hc y (List.mem_of_mem_drop hy)
  have hB : (es.drop (i + 1)).length = es.length - (i + 1) := by simp
  rw [List.eraseIdx_eq_take_drop_succ, List.append_assoc]
  obtain ⟨B, hBe⟩ : ∃ B, es.drop (i + 1) = B := ⟨_, rfl⟩
  rw [hBe] at hp hB ⊢
  have hpe : (es.drop (i + 1)).take (es.length - (i + 1)) = B := by rw [hBe]; exact List.take_of_length_le (by omega)
  have hdl := del_len hi hB
  have hz := del_list hi hB zeroV
  have hlen : es.length - 1 = i + B.length := by omega
  rw [hlen, ← hz]
  refine absCall_of (pol := polG) mixP F.slices_Delete_api_Value_api_Value_is ?_
  conv => whnf
  repeat' ((first
   | ((with_reducible first | refine Br.dec ?_ ?_ | refine Br.ndec ?_ ?_) <;> intro hb <;> (try simp only [ZZ] at hb) <;> (first | omega | contradiction | skip))
   | (with_reducible first | refine Br.tt rfl ?_ | refine Br.ff rfl ?_ | refine Br.ff (isEmptyCons _ _) ?_)
   | ((with_reducible first | refine Side.mk ?_ ?_ | refine WrapW.mk ?_ ?_); focus (first | omega | (dsimp only [InR, Int.reduceToNat, IntKind.bits, Int.reducePow]; omega) | exact ⟨hp, by show ¬ i = _; omega, by show i + B.length ≤ _; omega⟩ | exact ⟨by omega, by show ((i + B.length : Nat) : Int) ≤ _; omega, by show (es.length : Int) ≤ (((es.take i ++ (B ++ es.drop (i + B.length))).length : Nat) : Int); rw [hdl]; omega⟩ | (show i + B.length + (es.length - (i + B.length)) ≤ (es.take i ++ (B ++ es.drop (i + B.length))).length; rw [hdl]; omega) | (simp [CC]; done) | (constructor <;> omega)))
   | with_reducible refine Br.not ?_
   | (with_reducible first | refine Br.tt (by assumption) ?_ | refine Br.ff (by assumption) ?_)
   | (refine Br.mk ?_ ?_ <;> intro hb <;> (try simp only [ZZ] at hb) <;> (first | omega | contradiction | skip))
   | refine Src.whole ⟨rfl, rfl⟩ ?_ | refine FrzV.whole ?_
   | (refine srcPartE (show i + 1 + (es.length - (i + 1)) ≤ es.length by omega) hpe ?_)
   | (refine WrapW.other ?_)) <;> conv => whnf)
  all_goals exact CLe.eq rfl
theorem delete_pairs (es : List PV) (i : Nat) (hc : ∀ y ∈ es, y.cells.length = 6) (hi : i < es.length) (hl : es.length ≤ 4000000) :
    AbsCall PP GG F.slices_Delete_api_Pair_api_Pair [.sl 0 0 es.length, .p (.int .i64 i), .p (.int .i64 (i + 1 : Nat))] [.arr T.api_Pair 6 es] ⟨.ret (.sl 0 0 (es.length - 1)), [.arr T.api_Pair 6 (es.eraseIdx i ++ [zeroP])], [0]⟩ := by
  have hp : ∀ y ∈ es.drop (i + 1), y.cells.length = 6 := fun y hy => hc y (List.mem_of_mem_drop hy)
  have hB : (es.drop (i + 1)).length = es.length - (i + 1) := by simp
  rw [List.eraseIdx_eq_take_drop_succ, List.append_assoc]
  obtain ⟨B, hBe⟩ : ∃ B, es.drop (i + 1) = B := ⟨_, rfl⟩
  rw [hBe] at hp hB ⊢
  have hpe : (es.drop (i + 1)).take (es.length - (i + 1)) = B := by rw [hBe]; exact List.take_of_length_le (by omega)
  have hdl := del_len hi hB
  have hz := del_list hi hB zeroP
  have hlen : es.length - 1 = i + B.length := by omega
  rw [hlen, ← hz]
  refine absCall_of (pol := polG) mixP F.slices_Delete_api_Pair_api_Pair_is ?_
  conv => whnf
  repeat' ((first
   | ((with_reducible first | refine Br.dec ?_ ?_ | refine Br.ndec ?_ ?_) <;> intro hb <;> (try simp only [ZZ] at hb) <;> (first | omega | contradiction | skip))
   | (with_reducible first | refine Br.tt rfl ?_ | refine Br.ff rfl ?_ | refine Br.ff (isEmptyCons _ _) ?_)
   | ((with_reducible first | refine Side.mk ?_ ?_ | refine WrapW.mk ?_ ?_); focus (first | omega | (dsimp only [InR, Int.reduceToNat, IntKind.bits, Int.reducePow]; omega) | exact ⟨hp, by show ¬ i = _; omega, by show i + B.length ≤ _; omega⟩ | exact ⟨by omega, by show ((i + B.length : Nat) : Int) ≤ _; omega, by show (es.length : Int) ≤ (((es.take i ++ (B ++ es.drop (i + B.length))).length : Nat) : Int); rw [hdl]; omega⟩ | (show i + B.length + (es.length - (i + B.length)) ≤ (es.take i ++ (B ++ es.drop (i + B.length))).length; rw [hdl]; omega) | (simp [CC]; done) | (constructor <;> omega)))
   | with_reducible refine Br.not ?_
   | (with_reducible first | refine Br.tt (by assumption) ?_ | refine Br.ff (by assumption) ?_)
   | (refine Br.mk ?_ ?_ <;> intro hb <;> (try simp only [ZZ] at hb) <;> (first | omega | contradiction | skip))
   | refine Src.whole ⟨rfl, rfl⟩ ?_ | refine FrzV.whole ?_
   | (refine srcPartE (show i + 1 + (es.length - (i + 1)) ≤ es.length by omega) hpe ?_)
   | (refine WrapW.other ?_)) <;> conv => whnf)
  all_goals exact CLe.eq rfl
end Go.Proofs.YthkoefpidnphpaaGreatDoor
end

section
namespace Go.Am
open Go
def ownT (v : Tree) : Prop := (v.kind = 5 → v.m = []) ∧ (v.kind = 6 → v.l = [])
def along : Tree → List Stp → Prop
  | _, [] => True
  | v, s :: p => ownT v ∧ v.m.Pairwise (fun p q => p.1 ≠ q.1) ∧ (0 ≤ findS v s → along (partT v (findS v s).toNat) p)
theorem part_mem {v : Tree} {s : Stp} (h : 0 ≤ findS v s) : (v.kind = 5 ∧ partT v (findS v s).toNat ∈ v.l) ∨ (v.kind = 6 ∧ ∃ k, (k, partT v (findS v s).toNat) ∈ v.m) := by
  obtain ⟨_, h5, h6, hk⟩ := findS_lt v s
  unfold partT
  rcases hk h with hk | hk
  · rw [if_pos hk]
    have hlt : (findS v s).toNat < v.l.length := by have := h5 hk; omega
    rw [List.getD_eq_getElem?_getD, List.getElem?_eq_getElem hlt]
    exact .inl ⟨hk, List.getElem_mem _⟩
  · rw [if_neg (by omega)]
    have hlt : (findS v s).toNat < v.m.length := by have := h6 hk; omega
    rw [List.getD_eq_getElem?_getD, List.getElem?_eq_getElem hlt]
    exact .inr ⟨hk, (v.m[(findS v s).toNat]).1, List.getElem_mem _⟩
theorem part_Uniq {v : Tree} (h : Uniq v) {s : Stp} (hf : 0 ≤ findS v s) : Uniq (partT v (findS v s).toNat) := by
  cases h with
  | mk _ hl hm =>
    rcases part_mem hf with ⟨_, h1⟩ | ⟨_, k, h1⟩
    · exact hl _ h1
    · exact hm _ h1
theorem plain_parts {v : Tree} (h : plainT v = true) : ownT v ∧ plainL v.l = true ∧ plainM none v.m = true := by
  rw [plainT_eq] at h
  split at h
  · cases h
  rename_i ho
  rw [Bool.and_eq_true, Bool.and_eq_true] at h
  exact ⟨⟨fun hk => Classical.byContradiction fun hne => ho (.inr (.inr (.inr ⟨by omega, fun e => hne (List.eq_nil_of_length_eq_zero e)⟩))),
    fun hk => Classical.byContradiction fun hne => ho (.inr (.inr (.inl ⟨by omega, fun e => hne (List.eq_nil_of_length_eq_zero e)⟩)))⟩, h.2.1, h.2.2⟩
theorem part_plainT {v : Tree} (h : plainT v = true) {s : Stp} (hf : 0 ≤ findS v s) : plainT (partT v (findS v s).toNat) = true := by
  obtain ⟨_, hl, hm⟩ := plain_parts h
  rcases part_mem hf with ⟨_, h1⟩ | ⟨_, k, h1⟩
  · exact plainL_mem hl _ h1
  · exact (plainM_mem hm _ h1).2
theorem along_plain : ∀ (p : List Stp) (v : Tree), plainT v = true → Uniq v → along v p
  | [], _, _, _ => trivial
  | s :: p, v, hv, hu => ⟨(plain_parts hv).1, by cases hu with | mk h _ _ => exact h, fun hf => along_plain p _ (part_plainT hv hf) (part_Uniq hu hf)⟩
theorem pairwise_keys {m m' : List (Str × Tree)} (h : m.map (·.1) = m'.map (·.1)) (hp : m.Pairwise (fun p q => p.1 ≠ q.1)) : m'.Pairwise (fun p q => p.1 ≠ q.1) := by
  have h1 : (m.map (·.1)).Pairwise (· ≠ ·) := List.pairwise_map.2 hp
  rw [h] at h1
  exact List.pairwise_map.1 h1
theorem own_with {v : Tree} (h : ownT v) (i : Nat) (x : Tree) : ownT (withT v i x) := by
  constructor
  · intro hk
    rw [withT_kind] at hk
    rw [withT_m, if_pos hk]
    exact h.1 hk
  · intro hk
    rw [withT_kind] at hk
    rw [withT_l, if_neg (by omega)]
    exact h.2 hk
theorem pairs_with {v : Tree} (h : v.m.Pairwise (fun p q => p.1 ≠ q.1)) (i : Nat) (x : Tree) : (withT v i x).m.Pairwise (fun p q => p.1 ≠ q.1) := by
  rw [withT_m]
  split
  · exact h
  · exact pairwise_keys (setM_keys v.m i x).symm h
theorem along_set : ∀ (p : List Stp) (v x y : Tree), along v p → (getT v p).isSome = true → setT v p x = some y → along y p ∧ getT y p = some x
  | [], v, x, y, _, _, hs => by
    rw [setT] at hs
    cases hs
    exact ⟨trivial, rfl⟩
  | s :: p, v, x, y, ha, hg, hs => by
    rw [getT] at hg
    split at hg
    · cases hg
    rename_i hn
    rw [setT, if_neg hn, Option.map_eq_some_iff] at hs
    obtain ⟨u, hu, rfl⟩ := hs
    obtain ⟨h1, h2, h3⟩ := ha
    obtain ⟨h4, h5⟩ := along_set p _ x u (h3 (by omega)) hg hu
    refine ⟨⟨own_with h1 _ _, pairs_with h2 _ _, fun _ => ?_⟩, ?_⟩
    · rw [withT_find, withT_part (by omega)]
      exact h4
    · rw [getT, withT_find, if_neg hn, withT_part (by omega)]
      exact h5
theorem part_wtB {v : Tree} {s : Stp} (h : 0 ≤ findS v s) : (v.kind = 5 → (findS v s).toNat < v.l.length) ∧ (v.kind ≠ 5 → (findS v s).toNat < v.m.length) := by
  obtain ⟨_, h5, h6, hk⟩ := findS_lt v s
  exact ⟨fun e => by have := h5 e; omega, fun e => by have := h6 ((hk h).resolve_left e); omega⟩
theorem set_wt : ∀ (p : List Stp) (v x y : Tree), (getT v p).isSome = true → setT v p x = some y → y.wt ≤ v.wt + x.wt
  | [], v, x, y, _, hs => by
    rw [setT] at hs
    cases hs
    omega
  | s :: p, v, x, y, hg, hs => by
    rw [getT] at hg
    split at hg
    · cases hg
    rename_i hn
    rw [setT, if_neg hn, Option.map_eq_some_iff] at hs
    obtain ⟨u, hu, rfl⟩ := hs
    have h2 := set_wt p _ x u hg hu
    have := withT_wt (u := u) (part_wtB (v := v) (s := s) (by omega)).1 (part_wtB (v := v) (s := s) (by omega)).2
    omega
theorem wtL_erase : ∀ (l : List Tree) (i : Nat), Tree.wtL (l.eraseIdx i) ≤ Tree.wtL l
  | [], i => by simp
  | t :: l, 0 => by rw [List.eraseIdx_cons_zero, Tree.wtL]; omega
  | t :: l, i + 1 => by rw [List.eraseIdx_cons_succ, Tree.wtL, Tree.wtL]; have := wtL_erase l i; omega
theorem wtM_erase : ∀ (l : List (Str × Tree)) (i : Nat), Tree.wtM (l.eraseIdx i) ≤ Tree.wtM l
  | [], i => by simp
  | t :: l, 0 => by rw [List.eraseIdx_cons_zero, Tree.wtM]; omega
  | t :: l, i + 1 => by rw [List.eraseIdx_cons_succ, Tree.wtM, Tree.wtM]; have := wtM_erase l i; omega
theorem cutP_wt (v : Tree) (i : Nat) : (cutP v i).wt ≤ v.wt := by
  unfold cutP
  rw [Tree.wt, Tree.wt_eq v]
  have h1 := wtL_erase v.l i
  have h2 := wtM_erase v.m i
  split
  · omega
  · omega
theorem drop_wt : ∀ (p : List Stp) (v y : Tree), dropT v p = some y → y.wt ≤ v.wt
  | [], v, y, h => by rw [dropT] at h; cases h
  | s :: p, v, y, h => by
    rw [dropT] at h
    split at h
    · cases h
    rename_i hn
    split at h
    · rw [Option.map_eq_some_iff] at h
      obtain ⟨u, hu, rfl⟩ := h
      have h1 := drop_wt p _ u hu
      have := withT_wt (u := u) (part_wtB (v := v) (s := s) (by omega)).1 (part_wtB (v := v) (s := s) (by omega)).2
      omega
    · cases h
      exact cutP_wt v _
theorem get_drop_key : ∀ (p : List Stp) (v y : Tree) (s : Stp), along v p → p.getLast? = some s → s.p = false → dropT v p = some y → getT y p = none
  | [], v, y, s, _, h, _, _ => by cases h
  | t :: p, v, y, s, ha, hl, hs, h => by
    rw [dropT] at h
    split at h
    · cases h
    rename_i hn
    split at h
    · rename_i hp
      rw [Option.map_eq_some_iff] at h
      obtain ⟨u, hu, rfl⟩ := h
      rw [getT, withT_find, if_neg hn, withT_part (by omega)]
      refine get_drop_key p _ u s (ha.2.2 (by omega)) ?_ hs hu
      rw [List.getLast?_cons] at hl
      cases hq : p.getLast? with
      | none => exact absurd (List.getLast?_eq_none_iff.1 hq) hp
      | some z => rw [hq] at hl; simpa using hl
    · rename_i hp
      simp only [ne_eq, Decidable.not_not] at hp
      subst hp
      simp only [List.getLast?_singleton, Option.some.injEq] at hl
      subst hl
      cases h
      have hk : v.kind = 6 ∧ findS v t = idxK v.m t.k := by
        unfold findS at hn ⊢
        rw [if_neg (by rw [hs]; simp)] at hn ⊢
        split at hn
        · rename_i h6
          exact ⟨h6.2, by rw [if_pos h6]⟩
        · omega
      have hk5 : ¬ v.kind = 5 := by omega
      have hf : findS (cutP v (findS v t).toNat) t = -1 := by
        have hx : idxK v.m t.k = ((findS v t).toNat : Int) := by rw [← hk.2]; omega
        generalize (findS v t).toNat = i at *
        have e1 : (cutP v i).kind = v.kind := rfl
        have e2 : (cutP v i).m = v.m.eraseIdx i := by unfold cutP; rw [if_neg hk5, if_neg hk5]; rfl
        unfold findS
        rw [if_neg (by rw [hs]; simp), if_pos ⟨hs, by rw [e1]; exact hk.1⟩, e2]
        exact idxK_erase ha.2.1 hx
      rw [getT, hf, if_pos (by omega)]
theorem all_ok : ∀ t : Tree, plainT t = true → t.nodes ≤ 1000000 → ∀ pre q, q ∈ allPT t pre → ∃ r, q = pre ++ r ∧ ∀ s ∈ r, stpOk s = true := by
  refine Tree.ind fun t hl hm hp hn pre q hq => ?_
  rw [allPT_eq] at hq
  obtain ⟨hown, hpl, hpm⟩ := plain_parts hp
  rcases List.mem_cons.1 hq with rfl | hq
  · exact ⟨[], by simp, by simp⟩
  rcases List.mem_append.1 hq with hq | hq
  · obtain ⟨j, x, hx, hq⟩ := mem_allPL _ _ _ _ hq
    have hxm := List.mem_of_getElem? hx
    have := Tree.nodes_l hxm
    obtain ⟨r, rfl, hr⟩ := hl x hxm (plainL_mem hpl x hxm) (by omega) _ _ hq
    have hj : j < t.l.length := (List.getElem?_eq_some_iff.1 hx).1
    have hjn : t.l.length ≤ t.nodes := by
      have : ∀ l : List Tree, l.length ≤ Tree.nodesL l := by
        intro l
        induction l with
        | nil => simp [Tree.nodesL]
        | cons a l ih => rw [Tree.nodesL, List.length_cons]; have := Tree.nodes_pos a; omega
      have h1 := this t.l
      have h2 : t.nodes = 1 + Tree.nodesL t.l + Tree.nodesM t.m := by obtain ⟨k, n, s, l, m⟩ := t; rw [Tree.nodes]; rfl
      omega
    refine ⟨⟨[], ((0 + j : Nat) : Int), true⟩ :: r, by simp, ?_⟩
    intro s hs
    rcases List.mem_cons.1 hs with rfl | hs
    · unfold stpOk
      simp only [if_true, decide_eq_true_eq]
      exact ⟨trivial, by omega, by omega⟩
    · exact hr s hs
  · obtain ⟨j, k, x, hx, hq⟩ := mem_allPM _ _ _ hq
    have hxm := List.mem_of_getElem? hx
    have := Tree.nodes_m hxm
    have hk := plainM_mem hpm _ hxm
    obtain ⟨r, rfl, hr⟩ := hm _ hxm hk.2 (by simp only [] at *; omega) _ _ hq
    refine ⟨⟨k, 0, false⟩ :: r, by simp, ?_⟩
    intro s hs
    rcases List.mem_cons.1 hs with rfl | hs
    · unfold stpOk
      simp only [Bool.false_eq_true, if_false, decide_true, Bool.true_and]
      exact hk.1
    · exact hr s hs
theorem all_ne (t : Tree) (hp : plainT t = true) (hn : t.nodes ≤ 1000000) : [] ∉ allPL t.l 0 [] ++ allPM t.m [] := by
  intro h
  obtain ⟨_, hpl, hpm⟩ := plain_parts hp
  rcases List.mem_append.1 h with h | h
  · obtain ⟨j, x, hx, hq⟩ := mem_allPL _ _ _ _ h
    have hxm := List.mem_of_getElem? hx
    have := Tree.nodes_l hxm
    obtain ⟨r, hr, _⟩ := all_ok x (plainL_mem hpl x hxm) (by omega) _ _ hq
    simp at hr
  · obtain ⟨j, k, x, hx, hq⟩ := mem_allPM _ _ _ h
    have hxm := List.mem_of_getElem? hx
    have := Tree.nodes_m hxm
    obtain ⟨r, hr, _⟩ := all_ok x (plainM_mem hpm _ hxm).2 (by simp only [] at *; omega) _ _ hq
    simp at hr
end Go.Am
end

section
namespace Go.Proofs.YthkoefpidnphpaaGreatDoor
open Go Go.Am Go.RowKit
set_option maxRecDepth 100000
theorem path_withO (v y : Tree) (i : Nat) (ho : ownT v) (hv : v.wt ≤ 4000000) (h5 : v.kind = 5 → i < v.l.length) (h6 : v.kind = 6 → i < v.m.length) (hk : v.kind = 5 ∨ v.kind = 6) :
    AbsCall PP GG F.path_with [.p v.enc, .p (.int .i64 i), .p y.enc] [] ⟨.ret (.p (withT v i y).enc), [], []⟩ := by
  have hml := v.wt_ml
  have hll := v.wt_ll
  obtain ⟨ho5, ho6⟩ := ho
  obtain ⟨k, n, s, l, m⟩ := v
  simp only [Tree.kind, Tree.m, Tree.l] at *
  rcases hk with rfl | rfl
  · obtain rfl := ho5 rfl
    have e : withT (Tree.mk 5 n s l []) i y = Tree.mk 5 n s (l.set i y) [] := rfl
    rw [e]
    exact path_with_l 5 n s l i y rfl (by omega) (h5 rfl)
  · obtain rfl := ho6 rfl
    have e : withT (Tree.mk 6 n s [] m) i y = Tree.mk 6 n s [] (setM m i y) := rfl
    rw [e]
    exact path_with_m n s m i y (by omega) (h6 rfl)
def polD : Pol := { keepR := fun f => Nat.beq f F.slices_Clone_api_Value_api_Value || Nat.beq f F.slices_Clone_api_Pair_api_Pair || Nat.beq f F.slices_Delete_api_Value_api_Value || Nat.beq f F.slices_Delete_api_Pair_api_Pair, byref := fun f => Nat.beq f F.slices_Delete_api_Value_api_Value || Nat.beq f F.slices_Delete_api_Pair_api_Pair, mask := fun _ _ => none }
theorem frzD_l (q m : Nat) (es r : List PV) (k n : Int) (s : Str) (l : List PV) (hm : m ≤ es.length) (hr : es.take m = r) :
    V.frz q es (.agg [.p (.int .i64 k), .p (.int .i64 n), .p (.str s), .sl q 0 m, .p (.lst false l)]) = .p (.agg [.int .i64 k, .int .i64 n, .str s, .lst false r, .lst false l]) := by
  subst hr
  simp only [V.frz, V.frzL, if_pos, Nat.zero_add, if_pos hm, List.drop_zero]
  rfl
theorem frzDO_l (q m : Nat) (es r : List PV) (k n : Int) (s : Str) (l : List PV) (t : Nat) (hm : m ≤ es.length) (hr : es.take m = r) :
    HO.frz q es (.var t (.agg [.p (.int .i64 k), .p (.int .i64 n), .p (.str s), .sl q 0 m, .p (.lst false l)])) = .var t (.p (.agg [.int .i64 k, .int .i64 n, .str s, .lst false r, .lst false l])) := by
  rw [HO.frz, frzD_l q m es r k n s l hm hr]
theorem frzD_m (q m : Nat) (es r : List PV) (k n : Int) (s : Str) (l : List PV) (hm : m ≤ es.length) (hr : es.take m = r) :
    V.frz q es (.agg [.p (.int .i64 k), .p (.int .i64 n), .p (.str s), .p (.lst false l), .sl q 0 m]) = .p (.agg [.int .i64 k, .int .i64 n, .str s, .lst false l, .lst false r]) := by
  subst hr
  simp only [V.frz, V.frzL, if_pos, Nat.zero_add, if_pos hm, List.drop_zero]
  rfl
theorem frzDO_m (q m : Nat) (es r : List PV) (k n : Int) (s : Str) (l : List PV) (t : Nat) (hm : m ≤ es.length) (hr : es.take m = r) :
    HO.frz q es (.var t (.agg [.p (.int .i64 k), .p (.int .i64 n), .p (.str s), .p (.lst false l), .sl q 0 m])) = .var t (.p (.agg [.int .i64 k, .int .i64 n, .str s, .lst false l, .lst false r])) := by
  rw [HO.frz, frzD_m q m es r k n s l hm hr]
theorem frzT2 (q : Nat) (es : List PV) (x y : V) (d : PV) (h : V.frz q es x = y) : V.frz q es (.tup [x, .p d]) = .tup [y, .p d] := by
  simp only [V.frz, V.frzL, h]
theorem erase_take {α : Type} {es : List α} {i : Nat} (hi : i < es.length) (z : α) : (es.eraseIdx i ++ [z]).take (es.length - 1) = es.eraseIdx i := by
  have h : (es.eraseIdx i).length = es.length - 1 := List.length_eraseIdx_of_lt hi
  rw [← h, List.take_append_of_le_length (Nat.le_refl _), List.take_length]
theorem map_erase {α β : Type} (f : α → β) : ∀ (l : List α) (i : Nat), (l.eraseIdx i).map f = (l.map f).eraseIdx i
  | [], i => by simp
  | _ :: _, 0 => rfl
  | a :: l, i + 1 => by simp [map_erase f l i]
theorem path_drop1 (v : Tree) (s : Stp) (ho : ownT v) (hv : v.wt ≤ 4000000) (hf : 0 ≤ findS v s) :
    AbsCall PP GG F.path_drop [.p v.enc, .p (.lst false (encS [s]))] [] ⟨.ret (.tup [.p (cutP v (findS v s).toNat).enc, .p (.bool true)]), [], []⟩ := by
  have hml := v.wt_ml
  have hll := v.wt_ll
  obtain ⟨_, h5, h6, hk⟩ := findS_lt v s
  have hF := path_find v s (by omega) (by omega)
  have hs0 : [s][(0 : Int).toNat]? = some s := rfl
  have hel : (encS [s]).length = 1 := encS_length [s]
  have hcl := encS_cells [s]
  have hk := hk hf
  have hfn : ((findS v s).toNat : Int) = findS v s := Int.toNat_of_nonneg hf
  rw [← hfn] at hF h5 h6
  generalize (findS v s).toNat = i at *
  obtain ⟨ho5, ho6⟩ := ho
  rcases hk with hk | hk
  · have hi := h5 hk
    obtain ⟨k, n, z, l, m⟩ := v
    simp only [Tree.kind, Tree.m, Tree.l] at *
    subst hk
    obtain rfl := ho5 rfl
    have hi : i < l.length := by omega
    have hne : l ≠ [] := by rintro rfl; simp at hi
    have hC := clone_vals l hne (by omega)
    have hes : Tree.encL (l.eraseIdx i) = (Tree.encL l).eraseIdx i := by rw [Tree.encL_eq, Tree.encL_eq, map_erase]
    have hle : (Tree.encL l).length = l.length := Tree.encL_length _
    have hD := delete_vals (Tree.encL l) i (Tree.encL_cells l) (by omega) (by omega)
    have hcut : cutP (Tree.mk 5 n z l []) i = Tree.mk 5 n z (l.eraseIdx i) [] := rfl
    have htk := erase_take (z := zeroV) (show i < (Tree.encL l).length by omega)
    have htl : (Tree.encL l).length - 1 ≤ ((Tree.encL l).eraseIdx i ++ [zeroV]).length := by rw [List.length_append, List.length_eraseIdx_of_lt (by omega)]; omega
    rw [hcut]
    rw [Tree.enc_eta (Tree.mk 5 n z l []), Tree.enc_eta (Tree.mk 5 n z (l.eraseIdx i) [])] at *
    simp only [Tree.kind, Tree.n, Tree.s, Tree.l, Tree.m] at *
    rw [hes]
    rw [show Tree.encM [] = [] from rfl] at *
    generalize Tree.encL l = es at *
    refine absCall_of (pol := polD) mixP F.path_drop_is ?_
    conv => whnf
    repeat' ((first
     | ((with_reducible first | refine Br.dec ?_ ?_ | refine Br.ndec ?_ ?_) <;> intro hb <;> (try simp only [And.intro @hel (ZZ)] at hb) <;> (first | omega | contradiction | skip))
     | (with_reducible first | refine Br.tt rfl ?_ | refine Br.ff rfl ?_ | refine Br.ff (isEmptyCons _ _) ?_)
     | ((with_reducible first | refine Side.mk ?_ ?_ | refine WrapW.mk ?_ ?_); focus (first | omega | (dsimp only [InR, Int.reduceToNat, IntKind.bits, Int.reducePow]; omega) | exact ⟨rfl, rfl⟩ | (simp [CC]; done) | (constructor <;> omega)))
     | with_reducible refine Br.not ?_
     | (with_reducible first | refine Br.tt (by assumption) ?_ | refine Br.ff (by assumption) ?_)
     | (refine Br.mk ?_ ?_ <;> intro hb <;> (try simp only [And.intro @hel (ZZ)] at hb) <;> (first | omega | contradiction | skip))
     | refine Src.whole ⟨rfl, rfl⟩ ?_ | refine FrzV.whole ?_
     | refine CallW.use (hF) ?_
     | refine CallW.use (hC) ?_
     | refine CallW.use (hD) ?_
     | (refine ElemZ.stp hs0 ?_)) <;> conv => whnf)
    refine FrzV.mk _ (frzT2 _ _ _ _ _ (frzD_l 2 _ _ _ _ _ _ _ htl htk)) ?_
    conv => whnf
    refine FrzO.mk _ (frzDO_l 2 _ _ _ _ _ _ _ _ htl htk) ?_
    conv => whnf
    refine FrzO.mk _ (frzDO_l 2 _ _ _ _ _ _ _ _ htl htk) ?_
    conv => whnf
    exact CLe.eq rfl
  · have hi := h6 hk
    obtain ⟨k, n, z, l, m⟩ := v
    simp only [Tree.kind, Tree.m, Tree.l] at *
    subst hk
    obtain rfl := ho6 rfl
    have hi : i < m.length := by omega
    have hne : m ≠ [] := by rintro rfl; simp at hi
    have hC := clone_pairs m hne (by omega)
    have hes : Tree.encM (m.eraseIdx i) = (Tree.encM m).eraseIdx i := by rw [Tree.encM_eq, Tree.encM_eq, map_erase]
    have hle : (Tree.encM m).length = m.length := Tree.encM_length _
    have hD := delete_pairs (Tree.encM m) i (Tree.encM_cells m) (by omega) (by omega)
    have hcut : cutP (Tree.mk 6 n z [] m) i = Tree.mk 6 n z [] (m.eraseIdx i) := rfl
    have htk := erase_take (z := zeroP) (show i < (Tree.encM m).length by omega)
    have htl : (Tree.encM m).length - 1 ≤ ((Tree.encM m).eraseIdx i ++ [zeroP]).length := by rw [List.length_append, List.length_eraseIdx_of_lt (by omega)]; omega
    rw [hcut]
    rw [Tree.enc_eta (Tree.mk 6 n z [] m), Tree.enc_eta (Tree.mk 6 n z [] (m.eraseIdx i))] at *
    simp only [Tree.kind, Tree.n, Tree.s, Tree.l, Tree.m] at *
    rw [hes]
    rw [show Tree.encL [] = [] from rfl] at *
    generalize Tree.encM m = es at *
    refine absCall_of (pol := polD) mixP F.path_drop_is ?_
    conv => whnf
    repeat' ((first
     | ((with_reducible first | refine Br.dec ?_ ?_ | refine Br.ndec ?_ ?_) <;> intro hb <;> (try simp only [And.intro @hel (ZZ)] at hb) <;> (first | omega | contradiction | skip))
     | (with_reducible first | refine Br.tt rfl ?_ | refine Br.ff rfl ?_ | refine Br.ff (isEmptyCons _ _) ?_)
     | ((with_reducible first | refine Side.mk ?_ ?_ | refine WrapW.mk ?_ ?_); focus (first | omega | (dsimp only [InR, Int.reduceToNat, IntKind.bits, Int.reducePow]; omega) | exact ⟨rfl, rfl⟩ | (simp [CC]; done) | (constructor <;> omega)))
     | with_reducible refine Br.not ?_
     | (with_reducible first | refine Br.tt (by assumption) ?_ | refine Br.ff (by assumption) ?_)
     | (refine Br.mk ?_ ?_ <;> intro hb <;> (try simp only [And.intro @hel (ZZ)] at hb) <;> (first | omega | contradiction | skip))
     | refine Src.whole ⟨rfl, rfl⟩ ?_ | refine FrzV.whole ?_
     | refine CallW.use (hF) ?_
     | refine CallW.use (hC) ?_
     | refine CallW.use (hD) ?_
     | (refine ElemZ.stp hs0 ?_)) <;> conv => whnf)
    refine FrzV.mk _ (frzT2 _ _ _ _ _ (frzD_m 2 _ _ _ _ _ _ _ htl htk)) ?_
    conv => whnf
    refine FrzO.mk _ (frzDO_m 2 _ _ _ _ _ _ _ _ htl htk) ?_
    conv => whnf
    refine FrzO.mk _ (frzDO_m 2 _ _ _ _ _ _ _ _ htl htk) ?_
    conv => whnf
    exact CLe.eq rfl
theorem path_drop : ∀ (p : List Stp) (v y : Tree), along v p → v.wt ≤ 4000000 → p.length ≤ 1000000 → (getT v p).isSome = true → dropT v p = some y →
    AbsCall PP GG F.path_drop [.p v.enc, .p (.lst false (encS p))] [] ⟨.ret (.tup [.p y.enc, .p (.bool true)]), [], []⟩
  | [], v, y, ha, hv, hl, hg, hs => by rw [dropT] at hs; cases hs
  | [s], v, y, ha, hv, hl, hg, hs => by
    rw [getT] at hg
    split at hg
    · cases hg
    rename_i hn
    rw [dropT, if_neg hn, if_neg (by simp)] at hs
    cases hs
    exact path_drop1 v s ha.1 hv (by omega)
  | s :: s2 :: p, v, y, ha, hv, hl, hg, hs => by
    have hel : (encS (s :: s2 :: p)).length = p.length + 1 + 1 := encS_length (s :: s2 :: p)
    rw [getT] at hg
    split at hg
    · cases hg
    rename_i hn
    rw [dropT, if_neg hn, if_pos (by simp), Option.map_eq_some_iff] at hs
    obtain ⟨u, hu, rfl⟩ := hs
    obtain ⟨hpw, hp5, hp6⟩ := part_wt v s (by omega)
    have hk := (findS_lt v s).2.2.2 (by omega)
    have hml := v.wt_ml
    have hll := v.wt_ll
    have hF := path_find v s (by omega) (by omega)
    have hP := path_part v (findS v s).toNat hp5 hp6
    have hW := path_withO v u (findS v s).toNat ha.1 hv hp5 (fun h => hp6 (by omega)) hk
    have hS := path_drop (s2 :: p) (partT v (findS v s).toNat) u (ha.2.2 (by omega)) (by omega) (by simp only [List.length_cons] at hl ⊢; omega) hg hu
    have hfn : ((findS v s).toNat : Int) = findS v s := Int.toNat_of_nonneg (by omega)
    rw [hfn] at hP hW
    have hs0 : (s :: s2 :: p)[(0 : Int).toNat]? = some s := rfl
    have hdr : (encS (s :: s2 :: p)).drop 1 = encS (s2 :: p) := rfl
    rw [← hdr] at hS
    generalize partT v (findS v s).toNat = q at *
    generalize withT v (findS v s).toNat u = z at *
    generalize findS v s = f at *
    rw [Tree.enc_eta v] at hF hP hW ⊢
    rw [Tree.enc_eta q] at hP hS
    rw [Tree.enc_eta u] at hS hW
    rw [Tree.enc_eta z] at hW ⊢
    have hcl := encS_cells (s :: s2 :: p)
    refine absCall_of (pol := polG) mixP F.path_drop_is ?_
    conv => whnf
    repeat' ((first
     | ((with_reducible first | refine Br.dec ?_ ?_ | refine Br.ndec ?_ ?_) <;> intro hb <;> (try simp only [And.intro @hel (ZZ)] at hb) <;> (first | omega | contradiction | skip))
     | (with_reducible first | refine Br.tt rfl ?_ | refine Br.ff rfl ?_ | refine Br.ff (isEmptyCons _ _) ?_)
     | ((with_reducible first | refine Side.mk ?_ ?_ | refine WrapW.mk ?_ ?_); focus (first | omega | (dsimp only [InR, Int.reduceToNat, IntKind.bits, Int.reducePow]; omega) | exact ⟨rfl, rfl⟩ | exact ⟨hcl, by decide, by rw [hel]; omega⟩ | (simp [CC]; done) | (constructor <;> omega)))
     | with_reducible refine Br.not ?_
     | (with_reducible first | refine Br.tt (by assumption) ?_ | refine Br.ff (by assumption) ?_)
     | (refine Br.mk ?_ ?_ <;> intro hb <;> (try simp only [And.intro @hel (ZZ)] at hb) <;> (first | omega | contradiction | skip))
     | refine Src.whole ⟨rfl, rfl⟩ ?_ | refine FrzV.whole ?_
     | refine CallW.use (hF) ?_
     | refine CallW.use (hP) ?_
     | refine CallW.use (hS) ?_
     | refine CallW.use (hW) ?_
     | (refine ElemZ.stp hs0 ?_)) <;> conv => whnf)
    all_goals exact CLe.eq rfl
theorem path_Drop (p : List Stp) (v y : Tree) (ha : along v p) (hv : v.wt ≤ 4000000) (hl : p.length ≤ 1000000) (hg : (getT v p).isSome = true) (hs : dropT v p = some y) :
    AbsCall PP GG F.path_Drop [.p v.enc, .p (.lst false (encS p))] [] ⟨.ret (.tup [.p y.enc, .p (.int .i64 0)]), [], []⟩ := by
  have h2 := drop_wt p v y hs
  have hS := path_drop p v y ha hv hl hg hs
  have hC := value_CopyA y (by omega)
  rw [Tree.enc_eta v] at hS ⊢
  rw [Tree.enc_eta y] at hS hC ⊢
  refine absCall_of (pol := polG) mixP F.path_Drop_is ?_
  conv => whnf
  repeat' ((first
   | ((with_reducible first | refine Br.dec ?_ ?_ | refine Br.ndec ?_ ?_) <;> intro hb <;> (try simp only [ZZ] at hb) <;> (first | omega | contradiction | skip))
   | (with_reducible first | refine Br.tt rfl ?_ | refine Br.ff rfl ?_ | refine Br.ff (isEmptyCons _ _) ?_)
   | ((with_reducible first | refine Side.mk ?_ ?_ | refine WrapW.mk ?_ ?_); focus (first | omega | (dsimp only [InR, Int.reduceToNat, IntKind.bits, Int.reducePow]; omega) | (simp [CC]; done) | (constructor <;> omega)))
   | with_reducible refine Br.not ?_
   | (with_reducible first | refine Br.tt (by assumption) ?_ | refine Br.ff (by assumption) ?_)
   | (refine Br.mk ?_ ?_ <;> intro hb <;> (try simp only [ZZ] at hb) <;> (first | omega | contradiction | skip))
   | refine Src.whole ⟨rfl, rfl⟩ ?_ | refine FrzV.whole ?_
   | refine CallW.use (hS) ?_
   | refine CallW.use (hC) ?_) <;> conv => whnf)
  exact CLe.eq rfl
theorem path_SetA (p : List Stp) (v x y : Tree) (hp : plainT v = true) (hv : v.wt ≤ 2000000) (hxw : x.wt ≤ 2000000) (hl : p.length ≤ 1000000) (hg : (getT v p).isSome = true) (hs : setT v p x = some y) :
    AbsCall PP GG F.path_Set [.p v.enc, .p (.lst false (encS p)), .p x.enc] [] ⟨.ret (.tup [.p y.enc, .p (.int .i64 0)]), [], []⟩ := by
  have h2 := set_wt p v x y hg hs
  have hS := path_set p v x y hp (by omega) hl hg hs
  have hC := value_CopyA y (by omega)
  rw [Tree.enc_eta v] at hS ⊢
  rw [Tree.enc_eta x] at hS ⊢
  rw [Tree.enc_eta y] at hS hC ⊢
  refine absCall_of (pol := polG) mixP F.path_Set_is ?_
  conv => whnf
  repeat' ((first
   | ((with_reducible first | refine Br.dec ?_ ?_ | refine Br.ndec ?_ ?_) <;> intro hb <;> (try simp only [ZZ] at hb) <;> (first | omega | contradiction | skip))
   | (with_reducible first | refine Br.tt rfl ?_ | refine Br.ff rfl ?_ | refine Br.ff (isEmptyCons _ _) ?_)
   | ((with_reducible first | refine Side.mk ?_ ?_ | refine WrapW.mk ?_ ?_); focus (first | omega | (dsimp only [InR, Int.reduceToNat, IntKind.bits, Int.reducePow]; omega) | (simp [CC]; done) | (constructor <;> omega)))
   | with_reducible refine Br.not ?_
   | (with_reducible first | refine Br.tt (by assumption) ?_ | refine Br.ff (by assumption) ?_)
   | (refine Br.mk ?_ ?_ <;> intro hb <;> (try simp only [ZZ] at hb) <;> (first | omega | contradiction | skip))
   | refine Src.whole ⟨rfl, rfl⟩ ?_ | refine FrzV.whole ?_
   | refine CallW.use (hS) ?_
   | refine CallW.use (hC) ?_) <;> conv => whnf)
  exact CLe.eq rfl
end Go.Proofs.YthkoefpidnphpaaGreatDoor
end
