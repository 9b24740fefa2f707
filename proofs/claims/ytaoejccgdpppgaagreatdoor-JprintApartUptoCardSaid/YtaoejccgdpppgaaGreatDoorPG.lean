/-
The walks through the reference's letters, III.
How deep a tree is, how many nodes it has: the reference's count.
The walks through the reference's trees.
Numbers' texts, as the reference has them.
The walks through the reference's numbers.
Numbers' texts, as the program reads them.
The walks through the program's numbers.
-/
import Derived.Test.YtaoejccgdpppgaaGreatDoorPF

section
namespace Go.Proofs.YtaoejccgdpppgaaGreatDoor
open Go Go.Am
set_option maxRecDepth 100000
theorem refValid_loop (s : Str) (hs : s.length ≤ 1073741824) (R : Int × Bool) (K : Post)
    (h0 : R = ((s.length : Int), true) → K (.exit 0) [(0, .p (.str s))] [] [])
    (hr : R.2 = false → K .ret [(2, .p (.int .i64 R.1))] [] []) :
    ∀ (q i : Nat), s.length ≤ i + q → i ≤ s.length → utfScan q (s.drop i) i = R →
      LoopW PP GG 23 0 (loopN F.ref1_Valid_c 0) [(0, .p (.str s)), (3, .p (.int .i64 i))] [] [] (PostCl 23 K) := by
  intro q
  induction q with
  | zero =>
    intro i hi hil hR
    rw [utfScan] at hR
    subst hR
    refine LoopW.round (pol := polG) mixP ?_
    conv => whnf
    repeat' (first
     | ((first | with_reducible refine Br.dec (fun hb => ?_) (fun hb => ?_) | with_reducible refine Br.ndec (fun hb => ?_) (fun hb => ?_)) <;> (try dsimp only at hb) <;> (try simp only [ZZ] at hb) <;> (first | omega | (conv => whnf)))
     | ((first | with_reducible refine Br.tt rfl ?_ | with_reducible refine Br.ff rfl ?_ | with_reducible refine Br.ff (isEmptyCons _ _) ?_); conv => whnf)
     | (refine Side.mk ?_ ?_; (focus (first | omega | (dsimp only [InR]; omega) | (dsimp only [Int.reduceToNat, IntKind.bits, Int.reducePow, InR]; omega) | (simp [PV.cells, PV.leaf, byteP]; done) | (constructor <;> omega))); conv => whnf)
     | (refine Br.mk (fun hb => ?_) (fun hb => ?_) <;> (try dsimp only at hb) <;> (try simp only [ZZ] at hb) <;> (first | omega | (conv => whnf)))
     | ((first | refine Src.whole ⟨rfl, rfl⟩ ?_ | refine FrzV.whole ?_); conv => whnf))
    · refine PostCl.of (h0 (by congr 1; omega)) ?_ ?_
      · repeat (first | exact True.intro | refine And.intro (by first | exact VLe.refl _ | fail) ?_)
      · repeat (first | exact True.intro | refine And.intro (by decide) ?_)
  | succ q ih =>
    intro i hi hil hR
    have hT := utfTake_n (s.drop i)
    have hd : (s.drop i).length ≤ 1073741824 := by simp only [List.length_drop]; omega
    have hdl : (s.drop i).length = s.length - i := List.length_drop
    cases hsd : s.drop i with
    | nil =>
      have : (s.drop i).length = 0 := by rw [hsd]; rfl
      rw [hsd, utfScan] at hR
      subst hR
      refine LoopW.round (pol := polG) mixP ?_
      conv => whnf
      repeat' (first
       | ((first | with_reducible refine Br.dec (fun hb => ?_) (fun hb => ?_) | with_reducible refine Br.ndec (fun hb => ?_) (fun hb => ?_)) <;> (try dsimp only at hb) <;> (try simp only [ZZ] at hb) <;> (first | omega | (conv => whnf)))
       | ((first | with_reducible refine Br.tt rfl ?_ | with_reducible refine Br.ff rfl ?_ | with_reducible refine Br.ff (isEmptyCons _ _) ?_); conv => whnf)
       | (refine Side.mk ?_ ?_; (focus (first | omega | (dsimp only [InR]; omega) | (dsimp only [Int.reduceToNat, IntKind.bits, Int.reducePow, InR]; omega) | (simp [PV.cells, PV.leaf, byteP]; done) | (constructor <;> omega))); conv => whnf)
       | (refine Br.mk (fun hb => ?_) (fun hb => ?_) <;> (try dsimp only at hb) <;> (try simp only [ZZ] at hb) <;> (first | omega | (conv => whnf)))
       | ((first | refine Src.whole ⟨rfl, rfl⟩ ?_ | refine FrzV.whole ?_); conv => whnf))
      · refine PostCl.of (h0 (by congr 1; omega)) ?_ ?_
        · repeat (first | exact True.intro | refine And.intro (by first | exact VLe.refl _ | fail) ?_)
        · repeat (first | exact True.intro | refine And.intro (by decide) ?_)
    | cons c cs =>
      have hlt : i < s.length := by have : (s.drop i).length = cs.length + 1 := by rw [hsd]; rfl
                                    omega
      rw [hsd, utfScan, ← hsd] at hR
      refine LoopW.round (pol := polG) mixP ?_
      conv => whnf
      repeat' (first
       | ((first | with_reducible refine Br.dec (fun hb => ?_) (fun hb => ?_) | with_reducible refine Br.ndec (fun hb => ?_) (fun hb => ?_)) <;> (try dsimp only at hb) <;> (try simp only [ZZ] at hb) <;> (first | omega | (conv => whnf)))
       | ((first | with_reducible refine Br.tt rfl ?_ | with_reducible refine Br.ff rfl ?_ | with_reducible refine Br.ff (isEmptyCons _ _) ?_); conv => whnf)
       | (refine Side.mk ?_ ?_; (focus (first | omega | (dsimp only [InR]; omega) | (dsimp only [Int.reduceToNat, IntKind.bits, Int.reducePow, InR]; omega) | (simp [PV.cells, PV.leaf, byteP]; done) | (constructor <;> omega))); conv => whnf)
       | (refine Br.mk (fun hb => ?_) (fun hb => ?_) <;> (try dsimp only at hb) <;> (try simp only [ZZ] at hb) <;> (first | omega | (conv => whnf)))
       | ((first | refine Src.whole ⟨rfl, rfl⟩ ?_ | refine FrzV.whole ?_); conv => whnf)
       | ((first | refine CallW.use (ref1_Take (s.drop i) hd) ?_); conv => whnf))
      · rw [if_pos hb] at hR
        subst hR
        refine PostCl.of (hr rfl) ?_ ?_
        · repeat (first | exact True.intro | refine And.intro (by first | exact VLe.refl _ | fail) ?_)
        · repeat (first | exact True.intro | refine And.intro (by decide) ?_)
      · rw [if_neg hb, List.drop_drop] at hR
        obtain ⟨m, hm⟩ : ∃ m : Nat, (utfTake (s.drop i)).2 = m := ⟨(utfTake (s.drop i)).2.toNat, by omega⟩
        rw [hm] at hR ⊢
        refine LoopW.sub (ih (i + m) (by omega) (by omega) (by rw [← hR]; congr 1)) (by repeat (first | exact True.intro | refine And.intro (by first | exact VLe.refl _ | fail) ?_)) (by repeat (first | exact True.intro | refine And.intro (by decide) ?_))
theorem ref1_Valid (s : Str) (hs : s.length ≤ 1073741824) : AbsCall PP GG F.ref1_Valid [.p (.str s)] [] ⟨.ret (.p (.int .i64 (refValid s))), [], []⟩ := by
  refine absCall_of (pol := polG) mixP F.ref1_Valid_is ?_
  conv => whnf
  refine LoopW.cl ?_
  refine LoopW.sub (refValid_loop s hs (utfValid s) _ (fun h => ?_) (fun h => ?_) s.length 0 (by omega) (by omega) rfl) (by repeat (first | exact True.intro | refine And.intro (by first | exact VLe.refl _ | fail) ?_)) (by repeat (first | exact True.intro | refine And.intro (by decide) ?_))
  · conv => whnf
    exact CLe.eq (by unfold refValid; rw [h]; rfl)
  · conv => whnf
    exact CLe.eq (by unfold refValid; rw [if_neg (by rw [h]; simp)])
theorem starts_loop (s : Str) (hs : s.length ≤ 65536) (K : Post)
    (h0 : ∀ l : List Int, l ++ [(s.length : Int)] = startsL s.length s 0 → K (.exit 0) [(0, .p (.str s)), (3, .sl 0 0 (l.map intP).length)] [.arr T.int 1 (l.map intP)] []) :
    ∀ (q i : Nat) (l : List Int), s.length ≤ i + q → i ≤ s.length → l.length ≤ i → l ++ startsL q (s.drop i) i = startsL s.length s 0 →
      LoopW PP GG 32 0 (loopN F.ref1_Starts_c 0) [(0, .p (.str s)), (3, .sl 0 0 (l.map intP).length), (4, .p (.int .i64 i))] [.arr T.int 1 (l.map intP)] [] (PostCl 32 K) := by
  intro q
  induction q with
  | zero =>
    intro i l hi hil hli hR
    rw [startsL] at hR
    refine LoopW.round (pol := polG) mixP ?_
    conv => whnf
    repeat' (first
     | ((first | with_reducible refine Br.dec (fun hb => ?_) (fun hb => ?_) | with_reducible refine Br.ndec (fun hb => ?_) (fun hb => ?_)) <;> (try dsimp only at hb) <;> (try simp only [ZZ] at hb) <;> (first | omega | (conv => whnf)))
     | ((first | with_reducible refine Br.tt rfl ?_ | with_reducible refine Br.ff rfl ?_ | with_reducible refine Br.ff (isEmptyCons _ _) ?_); conv => whnf)
     | (refine Side.mk ?_ ?_; (focus (first | omega | (dsimp only [InR]; omega) | (dsimp only [Int.reduceToNat, IntKind.bits, Int.reducePow, InR]; omega) | (simp [PV.cells, PV.leaf, byteP]; done) | (constructor <;> omega))); conv => whnf)
     | (refine Br.mk (fun hb => ?_) (fun hb => ?_) <;> (try dsimp only at hb) <;> (try simp only [ZZ] at hb) <;> (first | omega | (conv => whnf)))
     | ((first | refine Src.whole ⟨rfl, rfl⟩ ?_ | refine FrzV.whole ?_); conv => whnf))
    · refine PostCl.of (h0 l (by rw [← hR]; congr 2; omega)) ?_ ?_
      · repeat (first | exact True.intro | refine And.intro (by first | exact VLe.refl _ | fail) ?_)
      · repeat (first | exact True.intro | refine And.intro (by decide) ?_)
  | succ q ih =>
    intro i l hi hil hli hR
    have hT := utfTake_n (s.drop i)
    have hd : (s.drop i).length ≤ 1073741824 := by simp only [List.length_drop]; omega
    have hdl : (s.drop i).length = s.length - i := List.length_drop
    have hlen : (l.map intP).length = l.length := by simp
    cases hsd : s.drop i with
    | nil =>
      have : (s.drop i).length = 0 := by rw [hsd]; rfl
      rw [hsd, startsL] at hR
      refine LoopW.round (pol := polG) mixP ?_
      conv => whnf
      repeat' (first
       | ((first | with_reducible refine Br.dec (fun hb => ?_) (fun hb => ?_) | with_reducible refine Br.ndec (fun hb => ?_) (fun hb => ?_)) <;> (try dsimp only at hb) <;> (try simp only [ZZ] at hb) <;> (first | omega | (conv => whnf)))
       | ((first | with_reducible refine Br.tt rfl ?_ | with_reducible refine Br.ff rfl ?_ | with_reducible refine Br.ff (isEmptyCons _ _) ?_); conv => whnf)
       | (refine Side.mk ?_ ?_; (focus (first | omega | (dsimp only [InR]; omega) | (dsimp only [Int.reduceToNat, IntKind.bits, Int.reducePow, InR]; omega) | (simp [PV.cells, PV.leaf, byteP]; done) | (constructor <;> omega))); conv => whnf)
       | (refine Br.mk (fun hb => ?_) (fun hb => ?_) <;> (try dsimp only at hb) <;> (try simp only [ZZ] at hb) <;> (first | omega | (conv => whnf)))
       | ((first | refine Src.whole ⟨rfl, rfl⟩ ?_ | refine FrzV.whole ?_); conv => whnf))
      · refine PostCl.of (h0 l (by rw [← hR]; congr 2; omega)) ?_ ?_
        · repeat (first | exact True.intro | refine And.intro (by first | exact VLe.refl _ | fail) ?_)
        · repeat (first | exact True.intro | refine And.intro (by decide) ?_)
    | cons c cs =>
      have hlt : i < s.length := by have : (s.drop i).length = cs.length + 1 := by rw [hsd]; rfl
                                    omega
      rw [hsd, startsL, ← hsd] at hR
      refine LoopW.round (pol := polG) mixP ?_
      conv => whnf
      repeat' (first
       | ((first | with_reducible refine Br.dec (fun hb => ?_) (fun hb => ?_) | with_reducible refine Br.ndec (fun hb => ?_) (fun hb => ?_)) <;> (try dsimp only at hb) <;> (try simp only [ZZ] at hb) <;> (first | omega | (conv => whnf)))
       | ((first | with_reducible refine Br.tt rfl ?_ | with_reducible refine Br.ff rfl ?_ | with_reducible refine Br.ff (isEmptyCons _ _) ?_); conv => whnf)
       | (refine Side.mk ?_ ?_; (focus (first | omega | (dsimp only [InR]; omega) | (dsimp only [Int.reduceToNat, IntKind.bits, Int.reducePow, InR]; omega) | (refine ⟨by simp [PV.cells], rfl, ?_⟩; simp only [hlen, List.length_cons, List.length_nil]; omega) | (simp [PV.cells, PV.leaf, byteP]; done) | (constructor <;> omega))); conv => whnf)
       | (refine Br.mk (fun hb => ?_) (fun hb => ?_) <;> (try dsimp only at hb) <;> (try simp only [ZZ] at hb) <;> (first | omega | (conv => whnf)))
       | ((first | refine Src.whole ⟨rfl, rfl⟩ ?_ | refine FrzV.whole ?_); conv => whnf)
       | ((first | refine CallW.use (ref1_Take (s.drop i) hd) ?_); conv => whnf))
      · rw [show max (utfTake (s.drop i)).2 1 = ((1 : Nat) : Int) by omega, List.drop_drop, Int.toNat_natCast] at hR
        have e : List.map intP l ++ [PV.int .i64 (i : Int)] = (l ++ [(i : Int)]).map intP := by simp [intP]
        rw [e]
        refine LoopW.ren [0] (ih (i + 1) (l ++ [(i : Int)]) (by omega) (by omega) (by simp; omega) (by rw [← hR, List.append_assoc]; rfl)) (by repeat (first | exact True.intro | refine And.intro (And.intro (by first | rfl | fail) (by first | exact VLe.refl _ | fail)) ?_)) (by repeat (first | exact True.intro | refine And.intro (by decide) ?_)) (by rfl) (by rfl)
      · obtain ⟨m, hm⟩ : ∃ m : Nat, (utfTake (s.drop i)).2 = m := ⟨(utfTake (s.drop i)).2.toNat, by omega⟩
        rw [show max (utfTake (s.drop i)).2 1 = (m : Int) by omega, List.drop_drop, Int.toNat_natCast] at hR
        have e : List.map intP l ++ [PV.int .i64 (i : Int)] = (l ++ [(i : Int)]).map intP := by simp [intP]
        rw [e, hm]
        refine LoopW.ren [0] (ih (i + m) (l ++ [(i : Int)]) (by omega) (by omega) (by simp; omega) (by rw [← hR, List.append_assoc]; rfl)) (by repeat (first | exact True.intro | refine And.intro (And.intro (by first | rfl | fail) (by first | exact VLe.refl _ | fail)) ?_)) (by repeat (first | exact True.intro | refine And.intro (by decide) ?_)) (by rfl) (by rfl)
theorem ref1_Starts (s : Str) (hs : s.length ≤ 65536) : AbsCall PP GG F.ref1_Starts [.p (.str s)] [] ⟨.ret (.p (.lst false ((startsL s.length s 0).map intP))), [], []⟩ := by
  refine absCall_of (pol := polG) mixP F.ref1_Starts_is ?_
  conv => whnf
  refine LoopW.cl ?_
  by_cases h0 : s.length = 0
  · obtain rfl := List.eq_nil_of_length_eq_zero h0
    refine LoopW.round (pol := polG) mixP ?_
    conv => whnf
    repeat' (first
     | ((first | with_reducible refine Br.dec (fun hb => ?_) (fun hb => ?_) | with_reducible refine Br.ndec (fun hb => ?_) (fun hb => ?_)) <;> (try dsimp only at hb) <;> (try simp only [ZZ, List.length_nil] at hb) <;> (first | omega | (conv => whnf)))
     | ((first | with_reducible refine Br.tt rfl ?_ | with_reducible refine Br.ff rfl ?_ | with_reducible refine Br.ff (isEmptyCons _ _) ?_); conv => whnf)
     | (refine Side.mk ?_ ?_; (focus (first | omega | (dsimp only [InR]; omega) | (dsimp only [Int.reduceToNat, IntKind.bits, Int.reducePow, InR]; omega) | (simp [PV.cells, PV.leaf, byteP]; done) | (constructor <;> omega))); conv => whnf)
     | (refine Br.mk (fun hb => ?_) (fun hb => ?_) <;> (try dsimp only at hb) <;> (try simp only [ZZ, List.length_nil] at hb) <;> (first | omega | (conv => whnf)))
     | ((first | refine Src.whole ⟨rfl, rfl⟩ ?_ | refine FrzV.whole ?_); conv => whnf))
    refine PostCl.of (σ2 := [(0, .p (.str [])), (3, .p .nils)]) ?_ (by repeat (first | exact True.intro | refine And.intro (by first | exact VLe.refl _ | fail) ?_)) (by repeat (first | exact True.intro | refine And.intro (by decide) ?_))
    conv => whnf
    repeat' (first
     | ((first | with_reducible refine Br.dec (fun hb => ?_) (fun hb => ?_) | with_reducible refine Br.ndec (fun hb => ?_) (fun hb => ?_)) <;> (try dsimp only at hb) <;> (try simp only [ZZ, List.length_nil] at hb) <;> (first | omega | (conv => whnf)))
     | ((first | with_reducible refine Br.tt rfl ?_ | with_reducible refine Br.ff rfl ?_ | with_reducible refine Br.ff (isEmptyCons _ _) ?_); conv => whnf)
     | (refine Side.mk ?_ ?_; (focus (first | omega | (dsimp only [InR]; omega) | (dsimp only [Int.reduceToNat, IntKind.bits, Int.reducePow, InR]; omega) | (simp [PV.cells, PV.leaf, byteP]; done) | (constructor <;> omega))); conv => whnf)
     | (refine Br.mk (fun hb => ?_) (fun hb => ?_) <;> (try dsimp only at hb) <;> (try simp only [ZZ, List.length_nil] at hb) <;> (first | omega | (conv => whnf)))
     | ((first | refine Src.whole ⟨rfl, rfl⟩ ?_ | refine FrzV.whole ?_); conv => whnf))
    exact CLe.eq rfl
  · obtain ⟨c, cs, rfl⟩ := List.exists_cons_of_length_pos (Nat.pos_of_ne_zero h0)
    have hT := utfTake_n (c :: cs)
    have hl : (c :: cs).length = cs.length + 1 := rfl
    have fin : ∀ m : Nat, max (utfTake (c :: cs)).2 1 = (m : Int) → m ≤ (c :: cs).length → 1 ≤ m → ∀ K : Post, (∀ l : List Int, l ++ [((c :: cs).length : Int)] = startsL (c :: cs).length (c :: cs) 0 → K (.exit 0) [(0, .p (.str (c :: cs))), (3, .sl 0 0 (l.map intP).length)] [.arr T.int 1 (l.map intP)] []) →
        LoopW PP GG 32 0 (loopN F.ref1_Starts_c 0) [(0, .p (.str (c :: cs))), (3, .sl 0 0 1), (4, .p (.int .i64 m))] [.arr T.int 1 [.int .i64 0]] [] (PostCl 32 K) := by
      intro m hm hml hm1 K hK
      refine starts_loop (c :: cs) hs K hK cs.length m [0] (by omega) hml (by simpa using hm1) ?_
      rw [hl, startsL, hm]
      simp
    have out : ∀ l : List Int, l ++ [((c :: cs).length : Int)] = startsL (c :: cs).length (c :: cs) 0 → l.length ≤ 65537 := by
      intro l h
      have : l.length + 1 = (startsL (c :: cs).length (c :: cs) 0).length := by rw [← h]; simp
      have := startsL_len (c :: cs).length (c :: cs) 0
      omega
    refine LoopW.round (pol := polG) mixP ?_
    conv => whnf
    repeat' (first
     | ((first | with_reducible refine Br.dec (fun hb => ?_) (fun hb => ?_) | with_reducible refine Br.ndec (fun hb => ?_) (fun hb => ?_)) <;> (try dsimp only at hb) <;> (try simp only [ZZ] at hb) <;> (first | omega | (conv => whnf)))
     | ((first | with_reducible refine Br.tt rfl ?_ | with_reducible refine Br.ff rfl ?_ | with_reducible refine Br.ff (isEmptyCons _ _) ?_); conv => whnf)
     | (refine Side.mk ?_ ?_; (focus (first | omega | (dsimp only [InR]; omega) | (dsimp only [Int.reduceToNat, IntKind.bits, Int.reducePow, InR]; omega) | (simp [PV.cells, PV.leaf, byteP]; done) | (constructor <;> omega))); conv => whnf)
     | (refine Br.mk (fun hb => ?_) (fun hb => ?_) <;> (try dsimp only at hb) <;> (try simp only [ZZ] at hb) <;> (first | omega | (conv => whnf)))
     | ((first | refine Src.whole ⟨rfl, rfl⟩ ?_ | refine FrzV.whole ?_); conv => whnf)
     | ((first | refine CallW.use (ref1_Take (c :: cs) (by omega)) ?_); conv => whnf))
    · refine LoopW.ren [1] (fin 1 (by omega) (by omega) (by omega) _ (fun l h => ?_)) (by repeat (first | exact True.intro | refine And.intro (And.intro (by first | rfl | fail) (by first | exact VLe.refl _ | fail)) ?_)) (by repeat (first | exact True.intro | refine And.intro (by decide) ?_)) (by rfl) (by rfl)
      have := out l h
      have hlen : (l.map intP).length = l.length := by simp
      conv => whnf
      repeat' (first
       | ((first | with_reducible refine Br.dec (fun hb => ?_) (fun hb => ?_) | with_reducible refine Br.ndec (fun hb => ?_) (fun hb => ?_)) <;> (try dsimp only at hb) <;> (try simp only [ZZ] at hb) <;> (first | omega | (conv => whnf)))
       | ((first | with_reducible refine Br.tt rfl ?_ | with_reducible refine Br.ff rfl ?_ | with_reducible refine Br.ff (isEmptyCons _ _) ?_); conv => whnf)
       | (refine Side.mk ?_ ?_; (focus (first | omega | (dsimp only [InR]; omega) | (dsimp only [Int.reduceToNat, IntKind.bits, Int.reducePow, InR]; omega) | (refine ⟨by simp [PV.cells], rfl, ?_⟩; simp only [hlen, List.length_cons, List.length_nil]; omega) | (simp [PV.cells, PV.leaf, byteP]; done) | (constructor <;> omega))); conv => whnf)
       | (refine Br.mk (fun hb => ?_) (fun hb => ?_) <;> (try dsimp only at hb) <;> (try simp only [ZZ] at hb) <;> (first | omega | (conv => whnf)))
       | ((first | refine Src.whole ⟨rfl, rfl⟩ ?_ | refine FrzV.whole ?_); conv => whnf))
      exact CLe.retP (by rw [← h]; simp [intP])
    · obtain ⟨m, hm⟩ : ∃ m : Nat, (utfTake (c :: cs)).2 = m := ⟨(utfTake (c :: cs)).2.toNat, by omega⟩
      rw [hm, Int.zero_add]
      refine LoopW.ren [1] (fin m (by omega) (by omega) (by omega) _ (fun l h => ?_)) (by repeat (first | exact True.intro | refine And.intro (And.intro (by first | rfl | fail) (by first | exact VLe.refl _ | fail)) ?_)) (by repeat (first | exact True.intro | refine And.intro (by decide) ?_)) (by rfl) (by rfl)
      have := out l h
      have hlen : (l.map intP).length = l.length := by simp
      conv => whnf
      repeat' (first
       | ((first | with_reducible refine Br.dec (fun hb => ?_) (fun hb => ?_) | with_reducible refine Br.ndec (fun hb => ?_) (fun hb => ?_)) <;> (try dsimp only at hb) <;> (try simp only [ZZ] at hb) <;> (first | omega | (conv => whnf)))
       | ((first | with_reducible refine Br.tt rfl ?_ | with_reducible refine Br.ff rfl ?_ | with_reducible refine Br.ff (isEmptyCons _ _) ?_); conv => whnf)
       | (refine Side.mk ?_ ?_; (focus (first | omega | (dsimp only [InR]; omega) | (dsimp only [Int.reduceToNat, IntKind.bits, Int.reducePow, InR]; omega) | (refine ⟨by simp [PV.cells], rfl, ?_⟩; simp only [hlen, List.length_cons, List.length_nil]; omega) | (simp [PV.cells, PV.leaf, byteP]; done) | (constructor <;> omega))); conv => whnf)
       | (refine Br.mk (fun hb => ?_) (fun hb => ?_) <;> (try dsimp only at hb) <;> (try simp only [ZZ] at hb) <;> (first | omega | (conv => whnf)))
       | ((first | refine Src.whole ⟨rfl, rfl⟩ ?_ | refine FrzV.whole ?_); conv => whnf))
      exact CLe.retP (by rw [← h]; simp [intP])
end Go.Proofs.YtaoejccgdpppgaaGreatDoor
end

section
namespace Go.Am
mutual
def steep : Tree → Int → Int → Bool × Int
  | .mk _ _ _ l m, d, n => if d < 1 ∨ n < 1 then (true, 0) else match steepL l (d - 1) (n - 1) with
    | (true, _) => (true, 0)
    | (false, n') => steepM m (d - 1) n'
def steepL : List Tree → Int → Int → Bool × Int
  | [], _, n => (false, n)
  | t :: l, d, n => match steep t d n with
    | (true, _) => (true, 0)
    | (false, n') => steepL l d n'
def steepM : List (Str × Tree) → Int → Int → Bool × Int
  | [], _, n => (false, n)
  | p :: m, d, n => match steepP p d n with
    | (true, _) => (true, 0)
    | (false, n') => steepM m d n'
def steepP : Str × Tree → Int → Int → Bool × Int
  | (_, t), d, n => steep t d n
end
theorem steepL_cons (t : Tree) (l : List Tree) (d n : Int) : steepL (t :: l) d n = if (steep t d n).1 = true then (true, 0) else steepL l d (steep t d n).2 := by
  rw [steepL]
  cases h : steep t d n with
  | mk a b => cases a <;> simp
theorem steepM_cons (p : Str × Tree) (m : List (Str × Tree)) (d n : Int) : steepM (p :: m) d n = if (steep p.2 d n).1 = true then (true, 0) else steepM m d (steep p.2 d n).2 := by
  obtain ⟨k, t⟩ := p
  rw [steepM, steepP]
  cases h : steep t d n with
  | mk a b => cases a <;> simp
theorem steep_mk (k n : Int) (s : Str) (l : List Tree) (m : List (Str × Tree)) (d q : Int) : steep (.mk k n s l m) d q = if d < 1 ∨ q < 1 then (true, 0) else if (steepL l (d - 1) (q - 1)).1 = true then (true, 0) else steepM m (d - 1) (steepL l (d - 1) (q - 1)).2 := by
  rw [steep]
  split
  · rfl
  · cases h : steepL l (d - 1) (q - 1) with
    | mk a b => cases a <;> simp
/-- what is left is not more than there was -/
def SteepOk (R : Bool × Int) (n : Int) : Prop := 0 ≤ R.2 ∧ R.2 ≤ n
theorem steepL_ok {l : List Tree} (h : ∀ t ∈ l, ∀ d n : Int, 0 ≤ n → SteepOk (steep t d n) n) : ∀ d n : Int, 0 ≤ n → SteepOk (steepL l d n) n := by
  induction l with
  | nil => intro d n hn; simp [steepL, SteepOk, hn]
  | cons t l ih =>
    intro d n hn
    have h1 := h t (by simp) d n hn
    rw [steepL_cons]
    split
    · exact ⟨by simp, by simpa using hn⟩
    · have h2 := ih (fun x hx => h x (by simp [hx])) d _ h1.1
      exact ⟨h2.1, Int.le_trans h2.2 h1.2⟩
theorem steepM_ok {l : List (Str × Tree)} (h : ∀ t ∈ l, ∀ d n : Int, 0 ≤ n → SteepOk (steep t.2 d n) n) : ∀ d n : Int, 0 ≤ n → SteepOk (steepM l d n) n := by
  induction l with
  | nil => intro d n hn; simp [steepM, SteepOk, hn]
  | cons t l ih =>
    intro d n hn
    have h1 := h t (by simp) d n hn
    rw [steepM_cons]
    split
    · exact ⟨by simp, by simpa using hn⟩
    · have h2 := ih (fun x hx => h x (by simp [hx])) d _ h1.1
      exact ⟨h2.1, Int.le_trans h2.2 h1.2⟩
theorem steep_ok : ∀ (t : Tree) (d n : Int), 0 ≤ n → SteepOk (steep t d n) n := by
  refine Tree.ind ?_
  rintro ⟨k, q, s, l, m⟩ hl hm d n hn
  replace hl : ∀ x ∈ l, ∀ d n : Int, 0 ≤ n → SteepOk (steep x d n) n := hl
  replace hm : ∀ x ∈ m, ∀ d n : Int, 0 ≤ n → SteepOk (steep x.2 d n) n := hm
  rw [steep_mk]
  split
  · exact ⟨by simp, by simpa using hn⟩
  · rename_i hc
    have h1 := steepL_ok hl (d - 1) (n - 1) (by omega)
    split
    · exact ⟨by simp, by simpa using hn⟩
    · have h2 := steepM_ok hm (d - 1) _ h1.1
      exact ⟨h2.1, by have := h2.2; have := h1.2; omega⟩
end Go.Am
end

section
namespace Go.Proofs.YtaoejccgdpppgaaGreatDoor
open Go Go.Am
set_option maxRecDepth 100000
def SteepIs (t : Tree) : Prop := ∀ d n : Int, 0 ≤ d → d ≤ 1000000 → 0 ≤ n → n ≤ 1000000 →
  AbsCall PP GG F.ref1_steep [.p t.enc, .p (.int .i64 d), .p (.int .i64 n)] [] ⟨.ret (.tup [.p (.bool (steep t d n).1), .p (.int .i64 (steep t d n).2)]), [], []⟩
theorem steep_loopL (t : Tree) (d : Int) (hd : 1 ≤ d ∧ d ≤ 1000000) (R : Bool × Int) (K : Post) (hl : ∀ x ∈ t.l, SteepIs x) (hw : t.wt ≤ 4000000)
    (h0 : ∀ n : Int, R = (false, n) → 0 ≤ n → n ≤ 1000000 → K (.exit 0) [(1, .p (.int .i64 d)), (2, .p (.int .i64 n)), (3, .ptr 0 0)] [.var T.api_Value (.p t.enc)] [])
    (hr : R = (true, 0) → K .ret [(6, .p (.bool true)), (7, .p (.int .i64 0))] [.var T.api_Value (.p t.enc)] []) :
    ∀ (q i : Nat) (n : Int), i + q = t.l.length → 0 ≤ n → n ≤ 1000000 → steepL (t.l.drop i) (d - 1) n = R →
      LoopW PP GG 66 0 (loopN F.ref1_steep_c 0) [(1, .p (.int .i64 d)), (2, .p (.int .i64 n)), (3, .ptr 0 0), (8, .p (.int .i64 i))] [.var T.api_Value (.p t.enc)] [] (PostCl 66 K) := by
  rw [Tree.enc_eta t] at h0 hr ⊢
  have hwl := t.wt_ll
  have hlen : (Tree.encL t.l).length = t.l.length := Tree.encL_length _
  intro q
  induction q with
  | zero =>
    intro i n hi h1 h2 hR
    rw [List.drop_eq_nil_of_le (by omega), steepL] at hR
    refine LoopW.round (pol := polG) mixP ?_
    conv => whnf
    repeat' (first
     | ((first | with_reducible refine Br.dec (fun hb => ?_) (fun hb => ?_) | with_reducible refine Br.ndec (fun hb => ?_) (fun hb => ?_)) <;> (try dsimp only at hb) <;> (try simp only [ZZ, hlen] at hb) <;> (first | omega | (conv => whnf)))
     | ((first | with_reducible refine Br.tt rfl ?_ | with_reducible refine Br.ff rfl ?_ | with_reducible refine Br.ff (isEmptyCons _ _) ?_); conv => whnf)
     | (refine Side.mk ?_ ?_; (focus (first | omega | (dsimp only [InR]; omega) | (dsimp only [Int.reduceToNat, IntKind.bits, Int.reducePow, InR]; omega) | (simp [PV.cells, PV.leaf, byteP]; done) | (constructor <;> omega))); conv => whnf)
     | (refine Br.mk (fun hb => ?_) (fun hb => ?_) <;> (try dsimp only at hb) <;> (try simp only [ZZ, hlen] at hb) <;> (first | omega | (conv => whnf)))
     | ((first | refine Src.whole ⟨rfl, rfl⟩ ?_ | refine FrzV.whole ?_); conv => whnf))
    · refine PostCl.of (h0 n hR.symm h1 h2) ?_ ?_
      · repeat (first | exact True.intro | refine And.intro (by first | exact VLe.refl _ | fail) ?_)
      · repeat (first | exact True.intro | refine And.intro (by decide) ?_)
  | succ q ih =>
    intro i n hi h1 h2 hR
    obtain ⟨x, hx⟩ : ∃ x, t.l[i]? = some x := ⟨_, List.getElem?_eq_getElem (show i < t.l.length by omega)⟩
    rw [drop_cons hx, steepL_cons] at hR
    have hxm : x ∈ t.l := List.mem_of_getElem? hx
    have hok := steep_ok x (d - 1) n h1
    unfold SteepOk at hok
    refine LoopW.round (pol := polG) mixP ?_
    conv => whnf
    repeat' (first
     | ((first | with_reducible refine Br.dec (fun hb => ?_) (fun hb => ?_) | with_reducible refine Br.ndec (fun hb => ?_) (fun hb => ?_)) <;> (try dsimp only at hb) <;> (try simp only [ZZ, hlen] at hb) <;> (first | omega | (conv => whnf)))
     | ((first | with_reducible refine Br.tt rfl ?_ | with_reducible refine Br.ff rfl ?_ | with_reducible refine Br.ff (isEmptyCons _ _) ?_); conv => whnf)
     | (refine Side.mk ?_ ?_; (focus (first | omega | (dsimp only [InR]; omega) | (dsimp only [Int.reduceToNat, IntKind.bits, Int.reducePow, InR]; omega) | exact ⟨(Tree.enc_cells x).symm, (Tree.enc_isAgg x).symm⟩ | (simp [PV.cells, PV.leaf, byteP]; done) | (constructor <;> omega))); conv => whnf)
     | (refine Br.mk (fun hb => ?_) (fun hb => ?_) <;> (try dsimp only at hb) <;> (try simp only [ZZ, hlen] at hb) <;> (first | omega | (conv => whnf)))
     | ((first | refine Src.whole ⟨rfl, rfl⟩ ?_ | refine FrzV.whole ?_); conv => whnf)
     | ((first | refine CallW.use (hl x hxm _ _ (by omega) (by omega) (by omega) (by omega)) ?_); conv => whnf)
     | (refine ElemZ.tree (by simpa using hx) ?_; conv => whnf))
    · refine PostCl.of (hr (by rw [← hR, if_pos hb])) ?_ ?_
      · repeat (first | exact True.intro | refine And.intro (by first | exact VLe.refl _ | fail) ?_)
      · repeat (first | exact True.intro | refine And.intro (by decide) ?_)
    · rw [if_neg (by rw [hb]; simp)] at hR
      refine LoopW.sub (ih (i + 1) _ (by omega) (by omega) (by omega) hR) (by repeat (first | exact True.intro | refine And.intro (by first | exact VLe.refl _ | fail) ?_)) (by repeat (first | exact True.intro | refine And.intro (by decide) ?_))
theorem steep_loopM (t : Tree) (d : Int) (hd : 1 ≤ d ∧ d ≤ 1000000) (R : Bool × Int) (K : Post) (hl : ∀ x ∈ t.m, SteepIs x.2) (hw : t.wt ≤ 4000000)
    (h0 : ∀ n : Int, R = (false, n) → K (.exit 2) [(2, .p (.int .i64 n))] [.var T.api_Value (.p t.enc)] [])
    (hr : R = (true, 0) → K .ret [(6, .p (.bool true)), (7, .p (.int .i64 0))] [.var T.api_Value (.p t.enc)] []) :
    ∀ (q i : Nat) (n : Int), i + q = t.m.length → 0 ≤ n → n ≤ 1000000 → steepM (t.m.drop i) (d - 1) n = R →
      LoopW PP GG 66 0 (loopN F.ref1_steep_c 1) [(1, .p (.int .i64 d)), (2, .p (.int .i64 n)), (3, .ptr 0 0), (11, .p (.int .i64 i))] [.var T.api_Value (.p t.enc)] [] (PostCl 66 K) := by
  rw [Tree.enc_eta t] at h0 hr ⊢
  have hwl := t.wt_ml
  have hlen : (Tree.encM t.m).length = t.m.length := Tree.encM_length _
  intro q
  induction q with
  | zero =>
    intro i n hi h1 h2 hR
    rw [List.drop_eq_nil_of_le (by omega), steepM] at hR
    refine LoopW.round (pol := polG) mixP ?_
    conv => whnf
    repeat' (first
     | ((first | with_reducible refine Br.dec (fun hb => ?_) (fun hb => ?_) | with_reducible refine Br.ndec (fun hb => ?_) (fun hb => ?_)) <;> (try dsimp only at hb) <;> (try simp only [ZZ, hlen] at hb) <;> (first | omega | (conv => whnf)))
     | ((first | with_reducible refine Br.tt rfl ?_ | with_reducible refine Br.ff rfl ?_ | with_reducible refine Br.ff (isEmptyCons _ _) ?_); conv => whnf)
     | (refine Side.mk ?_ ?_; (focus (first | omega | (dsimp only [InR]; omega) | (dsimp only [Int.reduceToNat, IntKind.bits, Int.reducePow, InR]; omega) | (simp [PV.cells, PV.leaf, byteP]; done) | (constructor <;> omega))); conv => whnf)
     | (refine Br.mk (fun hb => ?_) (fun hb => ?_) <;> (try dsimp only at hb) <;> (try simp only [ZZ, hlen] at hb) <;> (first | omega | (conv => whnf)))
     | ((first | refine Src.whole ⟨rfl, rfl⟩ ?_ | refine FrzV.whole ?_); conv => whnf))
    · refine PostCl.of (h0 n hR.symm) ?_ ?_
      · repeat (first | exact True.intro | refine And.intro (by first | exact VLe.refl _ | fail) ?_)
      · repeat (first | exact True.intro | refine And.intro (by decide) ?_)
  | succ q ih =>
    intro i n hi h1 h2 hR
    obtain ⟨x, hx⟩ : ∃ x, t.m[i]? = some x := ⟨_, List.getElem?_eq_getElem (show i < t.m.length by omega)⟩
    rw [drop_cons hx, steepM_cons] at hR
    have hxm : x ∈ t.m := List.mem_of_getElem? hx
    have hok := steep_ok x.2 (d - 1) n h1
    unfold SteepOk at hok
    have hsp := hl x hxm (d - 1) n (by omega) (by omega) (by omega) (by omega)
    obtain ⟨k, y⟩ := x
    rw [Tree.enc_eta y] at hsp
    simp only [] at hok hR
    refine LoopW.round (pol := polG) mixP ?_
    conv => whnf
    repeat' (first
     | ((first | with_reducible refine Br.dec (fun hb => ?_) (fun hb => ?_) | with_reducible refine Br.ndec (fun hb => ?_) (fun hb => ?_)) <;> (try dsimp only at hb) <;> (try simp only [ZZ, hlen] at hb) <;> (first | omega | (conv => whnf)))
     | ((first | with_reducible refine Br.tt rfl ?_ | with_reducible refine Br.ff rfl ?_ | with_reducible refine Br.ff (isEmptyCons _ _) ?_); conv => whnf)
     | (refine Side.mk ?_ ?_; (focus (first | omega | (dsimp only [InR]; omega) | (dsimp only [Int.reduceToNat, IntKind.bits, Int.reducePow, InR]; omega) | exact ⟨rfl, rfl⟩ | (simp [PV.cells, PV.leaf, byteP]; done) | (constructor <;> omega))); conv => whnf)
     | (refine Br.mk (fun hb => ?_) (fun hb => ?_) <;> (try dsimp only at hb) <;> (try simp only [ZZ, hlen] at hb) <;> (first | omega | (conv => whnf)))
     | ((first | refine Src.whole ⟨rfl, rfl⟩ ?_ | refine FrzV.whole ?_); conv => whnf)
     | ((first | refine CallW.use (hsp) ?_); conv => whnf)
     | (refine ElemZ.pair (p := (k, y)) (by simpa using hx) ?_; (rw [Tree.encP, Tree.enc_eta y]; conv => whnf)))
    · refine PostCl.of (hr (by rw [← hR, if_pos hb])) ?_ ?_
      · repeat (first | exact True.intro | refine And.intro (by first | exact VLe.refl _ | fail) ?_)
      · repeat (first | exact True.intro | refine And.intro (by decide) ?_)
    · rw [if_neg (by rw [hb]; simp)] at hR
      refine LoopW.sub (ih (i + 1) _ (by omega) (by omega) (by omega) hR) (by repeat (first | exact True.intro | refine And.intro (by first | exact VLe.refl _ | fail) ?_)) (by repeat (first | exact True.intro | refine And.intro (by decide) ?_))
theorem ref1_steep : ∀ t : Tree, t.wt ≤ 4000000 → SteepIs t := by
  refine Tree.indW fun t hw hl hm d n hd hd2 hn hn2 => ?_
  have hs : steep t d n = if d < 1 ∨ n < 1 then (true, 0) else if (steepL t.l (d - 1) (n - 1)).1 = true then (true, 0) else steepM t.m (d - 1) (steepL t.l (d - 1) (n - 1)).2 := by
    cases t with
    | mk k v s l m => exact steep_mk k v s l m d n
  refine absCall_of (pol := polG) mixP F.ref1_steep_is ?_
  conv => whnf
  repeat' (first
   | ((first | with_reducible refine Br.dec (fun hb => ?_) (fun hb => ?_) | with_reducible refine Br.ndec (fun hb => ?_) (fun hb => ?_)) <;> (try dsimp only at hb) <;> (try simp only [ZZ] at hb) <;> (first | omega | (conv => whnf)))
   | ((first | with_reducible refine Br.tt rfl ?_ | with_reducible refine Br.ff rfl ?_ | with_reducible refine Br.ff (isEmptyCons _ _) ?_); conv => whnf)
   | (refine Side.mk ?_ ?_; (focus (first | omega | (dsimp only [InR]; omega) | (dsimp only [Int.reduceToNat, IntKind.bits, Int.reducePow, InR]; omega) | (simp [PV.cells, PV.leaf, byteP]; done) | (constructor <;> omega))); conv => whnf)
   | (refine Br.mk (fun hb => ?_) (fun hb => ?_) <;> (try dsimp only at hb) <;> (try simp only [ZZ] at hb) <;> (first | omega | (conv => whnf)))
   | ((first | refine Src.whole ⟨rfl, rfl⟩ ?_ | refine FrzV.whole ?_); conv => whnf))
  · exact CLe.eq (by rw [hs, if_pos (by omega)])
  · exact CLe.eq (by rw [hs, if_pos (by omega)])
  rw [if_neg (by omega)] at hs
  refine LoopW.cl ?_
  have hokl := steepL_ok (l := t.l) (fun x _ d n h => steep_ok x d n h) (d - 1) (n - 1) (by omega)
  unfold SteepOk at hokl
  refine LoopW.sub (steep_loopL t d (by omega) (steepL t.l (d - 1) (n - 1)) _ (fun x hx => (hl x hx).2) hw (fun q hq hq0 hq1 => ?_) (fun hq => ?_) t.l.length 0 (n - 1) (by omega) (by omega) (by omega) rfl) (by repeat (first | exact True.intro | refine And.intro (by first | exact VLe.refl _ | fail) ?_)) (by repeat (first | exact True.intro | refine And.intro (by decide) ?_))
  · conv => whnf
    repeat' (first
     | ((first | with_reducible refine Br.dec (fun hb => ?_) (fun hb => ?_) | with_reducible refine Br.ndec (fun hb => ?_) (fun hb => ?_)) <;> (try dsimp only at hb) <;> (try simp only [ZZ] at hb) <;> (first | omega | (conv => whnf)))
     | ((first | with_reducible refine Br.tt rfl ?_ | with_reducible refine Br.ff rfl ?_ | with_reducible refine Br.ff (isEmptyCons _ _) ?_); conv => whnf)
     | (refine Side.mk ?_ ?_; (focus (first | omega | (dsimp only [InR]; omega) | (dsimp only [Int.reduceToNat, IntKind.bits, Int.reducePow, InR]; omega) | (simp [PV.cells, PV.leaf, byteP]; done) | (constructor <;> omega))); conv => whnf)
     | (refine Br.mk (fun hb => ?_) (fun hb => ?_) <;> (try dsimp only at hb) <;> (try simp only [ZZ] at hb) <;> (first | omega | (conv => whnf)))
     | ((first | refine Src.whole ⟨rfl, rfl⟩ ?_ | refine FrzV.whole ?_); conv => whnf))
    refine LoopW.cl ?_
    refine LoopW.sub (steep_loopM t d (by omega) (steepM t.m (d - 1) q) _ (fun x hx => (hm x hx).2.2) hw (fun r hr => ?_) (fun hr => ?_) t.m.length 0 q (by omega) (by omega) (by omega) rfl) (by repeat (first | exact True.intro | refine And.intro (by first | exact VLe.refl _ | fail) ?_)) (by repeat (first | exact True.intro | refine And.intro (by decide) ?_))
    · conv => whnf
      exact CLe.eq (by rw [hs, hq, if_neg (by simp)]; simp only []; rw [hr])
    · conv => whnf
      exact CLe.eq (by rw [hs, hq, if_neg (by simp)]; simp only []; rw [hr])
  · conv => whnf
    exact CLe.eq (by rw [hs, if_pos (by rw [hq])])
theorem ref1_Heavy (t : Tree) (n d : Int) (hw : t.wt ≤ 4000000) (hn : 0 ≤ n ∧ n ≤ 1000000) (hd : 0 ≤ d ∧ d ≤ 1000000) : AbsCall PP GG F.ref1_Heavy [.p t.enc, .p (.int .i64 n), .p (.int .i64 d)] [] ⟨.ret (.p (.bool (steep t d n).1)), [], []⟩ := by
  have hsp := ref1_steep t hw d n (by omega) (by omega) (by omega) (by omega)
  rw [Tree.enc_eta t] at hsp ⊢
  refine absCall_of (pol := polG) mixP F.ref1_Heavy_is ?_
  conv => whnf
  repeat' (first
   | ((first | with_reducible refine Br.dec (fun hb => ?_) (fun hb => ?_) | with_reducible refine Br.ndec (fun hb => ?_) (fun hb => ?_)) <;> (try dsimp only at hb) <;> (try simp only [ZZ] at hb) <;> (first | omega | (conv => whnf)))
   | ((first | with_reducible refine Br.tt rfl ?_ | with_reducible refine Br.ff rfl ?_ | with_reducible refine Br.ff (isEmptyCons _ _) ?_); conv => whnf)
   | (refine Side.mk ?_ ?_; (focus (first | omega | (dsimp only [InR]; omega) | (dsimp only [Int.reduceToNat, IntKind.bits, Int.reducePow, InR]; omega) | (simp [PV.cells, PV.leaf, byteP]; done) | (constructor <;> omega))); conv => whnf)
   | (refine Br.mk (fun hb => ?_) (fun hb => ?_) <;> (try dsimp only at hb) <;> (try simp only [ZZ] at hb) <;> (first | omega | (conv => whnf)))
   | ((first | refine Src.whole ⟨rfl, rfl⟩ ?_ | refine FrzV.whole ?_); conv => whnf)
   | ((first | refine CallW.use (hsp) ?_); conv => whnf))
  exact CLe.eq rfl
theorem ref1_Str (s : Str) (hs : s.length ≤ 1073741824) : AbsCall PP GG F.ref1_Str [.p (.str s)] [] ⟨.ret (.p (.bool (strOk s))), [], []⟩ := by
  refine absCall_of (pol := polG) mixP F.ref1_Str_is ?_
  conv => whnf
  repeat' (first
   | ((first | with_reducible refine Br.dec (fun hb => ?_) (fun hb => ?_) | with_reducible refine Br.ndec (fun hb => ?_) (fun hb => ?_)) <;> (try dsimp only at hb) <;> (try simp only [ZZ] at hb) <;> (first | omega | (conv => whnf)))
   | ((first | with_reducible refine Br.tt rfl ?_ | with_reducible refine Br.ff rfl ?_ | with_reducible refine Br.ff (isEmptyCons _ _) ?_); conv => whnf)
   | (refine Side.mk ?_ ?_; (focus (first | omega | (dsimp only [InR]; omega) | (dsimp only [Int.reduceToNat, IntKind.bits, Int.reducePow, InR]; omega) | (simp [PV.cells, PV.leaf, byteP]; done) | (constructor <;> omega))); conv => whnf)
   | (refine Br.mk (fun hb => ?_) (fun hb => ?_) <;> (try dsimp only at hb) <;> (try simp only [ZZ] at hb) <;> (first | omega | (conv => whnf)))
   | ((first | refine Src.whole ⟨rfl, rfl⟩ ?_ | refine FrzV.whole ?_); conv => whnf)
   | ((first | refine CallW.use (ref1_Valid s hs) ?_); conv => whnf))
  · exact CLe.retP (by unfold strOk; rw [refValid_neg, decide_eq_true (by omega), Bool.true_and])
  · exact CLe.retP (by unfold strOk; rw [decide_eq_false (by omega), Bool.false_and])
theorem stamp_loop (s : Str) (hs : s.length ≤ 64) (K : Post)
    (h0 : (∀ b ∈ s, 32 ≤ b.toNat ∧ b.toNat ≤ 126) → K (.exit 0) [] [] [])
    (hr : ¬ (∀ b ∈ s, 32 ≤ b.toNat ∧ b.toNat ≤ 126) → K .ret [(2, .p (.bool false))] [] []) :
    ∀ (q i : Nat), i + q = s.length → (∀ b ∈ s.take i, 32 ≤ b.toNat ∧ b.toNat ≤ 126) →
      LoopW PP GG 28 0 (loopN F.ref1_Stamp_c 0) [(0, .p (.str s)), (3, .p (.int .i64 i))] [] [] (PostCl 28 K) := by
  intro q
  induction q with
  | zero =>
    intro i hi hR
    rw [List.take_of_length_le (by omega)] at hR
    refine LoopW.round (pol := polG) mixP ?_
    conv => whnf
    repeat' (first
     | ((first | with_reducible refine Br.dec (fun hb => ?_) (fun hb => ?_) | with_reducible refine Br.ndec (fun hb => ?_) (fun hb => ?_)) <;> (try dsimp only at hb) <;> (try simp only [ZZ] at hb) <;> (first | omega | (conv => whnf)))
     | ((first | with_reducible refine Br.tt rfl ?_ | with_reducible refine Br.ff rfl ?_ | with_reducible refine Br.ff (isEmptyCons _ _) ?_); conv => whnf)
     | (refine Side.mk ?_ ?_; (focus (first | omega | (dsimp only [InR]; omega) | (dsimp only [Int.reduceToNat, IntKind.bits, Int.reducePow, InR]; omega) | (simp [PV.cells, PV.leaf, byteP]; done) | (constructor <;> omega))); conv => whnf)
     | (refine Br.mk (fun hb => ?_) (fun hb => ?_) <;> (try dsimp only at hb) <;> (try simp only [ZZ] at hb) <;> (first | omega | (conv => whnf)))
     | ((first | refine Src.whole ⟨rfl, rfl⟩ ?_ | refine FrzV.whole ?_); conv => whnf))
    · refine PostCl.of (h0 hR) ?_ ?_
      · repeat (first | exact True.intro | refine And.intro (by first | exact VLe.refl _ | fail) ?_)
      · repeat (first | exact True.intro | refine And.intro (by decide) ?_)
  | succ q ih =>
    intro i hi hR
    obtain ⟨b, hb⟩ : ∃ b, s[i]? = some b := ⟨_, List.getElem?_eq_getElem (show i < s.length by omega)⟩
    have hg : s.getD (Int.toNat ↑i) 0 = b := getD_of (by simpa using hb)
    have hbm : b ∈ s := List.mem_of_getElem? hb
    have hbl := UInt8.toNat_lt b
    have ht : s.take (i + 1) = s.take i ++ [b] := by rw [List.take_add_one, hb]; rfl
    refine LoopW.round (pol := polG) mixP ?_
    conv => whnf
    repeat' (first
     | ((first | with_reducible refine Br.dec (fun hb => ?_) (fun hb => ?_) | with_reducible refine Br.ndec (fun hb => ?_) (fun hb => ?_)) <;> (try dsimp only at hb) <;> (try simp only [ZZ, hg] at hb) <;> (first | omega | (conv => whnf)))
     | ((first | with_reducible refine Br.tt rfl ?_ | with_reducible refine Br.ff rfl ?_ | with_reducible refine Br.ff (isEmptyCons _ _) ?_); conv => whnf)
     | (refine Side.mk ?_ ?_; (focus (first | omega | (dsimp only [InR]; omega) | (dsimp only [Int.reduceToNat, IntKind.bits, Int.reducePow, InR]; omega) | (simp only [hg, InR]; omega) | (simp [PV.cells, PV.leaf, byteP]; done) | (constructor <;> omega))); conv => whnf)
     | (refine Br.mk (fun hb => ?_) (fun hb => ?_) <;> (try dsimp only at hb) <;> (try simp only [ZZ, hg] at hb) <;> (first | omega | (conv => whnf)))
     | ((first | refine Src.whole ⟨rfl, rfl⟩ ?_ | refine FrzV.whole ?_); conv => whnf))
    · refine PostCl.of (hr (fun h => by have := h b hbm; omega)) ?_ ?_
      · repeat (first | exact True.intro | refine And.intro (by first | exact VLe.refl _ | fail) ?_)
      · repeat (first | exact True.intro | refine And.intro (by decide) ?_)
    · refine PostCl.of (hr (fun h => by have := h b hbm; omega)) ?_ ?_
      · repeat (first | exact True.intro | refine And.intro (by first | exact VLe.refl _ | fail) ?_)
      · repeat (first | exact True.intro | refine And.intro (by decide) ?_)
    · refine LoopW.sub (ih (i + 1) (by omega) (by rw [ht]; intro x hx; exact (List.mem_append.1 hx).elim (hR x) (fun h => by rw [List.mem_singleton] at h; subst h; omega))) (by repeat (first | exact True.intro | refine And.intro (by first | exact VLe.refl _ | fail) ?_)) (by repeat (first | exact True.intro | refine And.intro (by decide) ?_))
theorem ref1_Stamp (s : Str) : AbsCall PP GG F.ref1_Stamp [.p (.str s)] [] ⟨.ret (.p (.bool (stampOk s))), [], []⟩ := by
  refine absCall_of (pol := polG) mixP F.ref1_Stamp_is ?_
  conv => whnf
  repeat' (first
   | ((first | with_reducible refine Br.dec (fun hb => ?_) (fun hb => ?_) | with_reducible refine Br.ndec (fun hb => ?_) (fun hb => ?_)) <;> (try dsimp only at hb) <;> (try simp only [ZZ] at hb) <;> (first | omega | (conv => whnf)))
   | ((first | with_reducible refine Br.tt rfl ?_ | with_reducible refine Br.ff rfl ?_ | with_reducible refine Br.ff (isEmptyCons _ _) ?_); conv => whnf)
   | (refine Side.mk ?_ ?_; (focus (first | omega | (dsimp only [InR]; omega) | (dsimp only [Int.reduceToNat, IntKind.bits, Int.reducePow, InR]; omega) | (simp [PV.cells, PV.leaf, byteP]; done) | (constructor <;> omega))); conv => whnf)
   | (refine Br.mk (fun hb => ?_) (fun hb => ?_) <;> (try dsimp only at hb) <;> (try simp only [ZZ] at hb) <;> (first | omega | (conv => whnf)))
   | ((first | refine Src.whole ⟨rfl, rfl⟩ ?_ | refine FrzV.whole ?_); conv => whnf))
  · exact CLe.retP (by unfold stampOk; rw [decide_eq_false (by omega)])
  · exact CLe.retP (by unfold stampOk; rw [decide_eq_false (by omega)])
  refine LoopW.cl ?_
  refine LoopW.sub (stamp_loop s (by omega) _ (fun h => ?_) (fun h => ?_) s.length 0 (by omega) (by simp)) (by repeat (first | exact True.intro | refine And.intro (by first | exact VLe.refl _ | fail) ?_)) (by repeat (first | exact True.intro | refine And.intro (by decide) ?_))
  · conv => whnf
    exact CLe.retP (by unfold stampOk; rw [decide_eq_true ⟨by omega, by omega, h⟩])
  · conv => whnf
    exact CLe.retP (by unfold stampOk; rw [decide_eq_false (fun e => h e.2.2)])
end Go.Proofs.YtaoejccgdpppgaaGreatDoor
end

section
namespace Go.Am
open Go
def dig (b : UInt8) : Bool := decide (48 ≤ b.toNat ∧ b.toNat ≤ 57)
def runL : Str → Nat
  | [] => 0
  | b :: s => if dig b = true then runL s + 1 else 0
theorem runL_le : ∀ s : Str, runL s ≤ s.length
  | [] => Nat.le_refl _
  | b :: s => by rw [runL]; split <;> simp [runL_le s]
abbrev Parts := Bool × Str × Str × Str × Bool
def noParts : Parts := (false, [], [], [], false)
def b0 (s : Str) : Nat := (s.getD 0 0).toNat
def partsE (neg : Bool) (w f p d : Str) : Parts := if d.length = 0 ∨ runL d ≠ d.length then noParts else (neg, w, f, p, true)
def partsD (neg : Bool) (w f s : Str) : Parts :=
  if s.length = 0 then (neg, w, f, [], true) else if b0 s ≠ 101 ∧ b0 s ≠ 69 then noParts else
  if 0 < (s.drop 1).length ∧ (b0 (s.drop 1) = 43 ∨ b0 (s.drop 1) = 45) then partsE neg w f (s.drop 1) ((s.drop 1).drop 1) else partsE neg w f (s.drop 1) (s.drop 1)
def partsC (neg : Bool) (w s : Str) : Parts :=
  if 0 < s.length ∧ b0 s = 46 then (if runL (s.drop 1) = 0 then noParts else partsD neg w ((s.drop 1).take (runL (s.drop 1))) ((s.drop 1).drop (runL (s.drop 1)))) else partsD neg w [] s
def partsB (neg : Bool) (s : Str) : Parts := if runL s = 0 ∨ (1 < runL s ∧ b0 (s.take (runL s)) = 48) then noParts else partsC neg (s.take (runL s)) (s.drop (runL s))
def numParts (s : Str) : Parts := if 0 < s.length ∧ b0 s = 45 then partsB true (s.drop 1) else partsB false s
/-- what stands behind e, digit by digit -/
def powL : Str → Int → Option Int
  | [], v => some v
  | b :: s, v => if dig b = true then (if 10 * v + (b.toNat - 48) > 100000 then none else powL s (10 * v + (b.toNat - 48))) else powL s v
def powerL (p : Str) : Int × Bool := match powL p 0 with
  | none => (0, false)
  | some v => if 0 < p.length ∧ b0 p = 45 then (-v, true) else (v, true)
def formL (s : Str) : Bool × Bool := ((numParts s).2.2.2.2, (numParts s).2.2.2.2 && !(powerL (numParts s).2.2.2.1).2)
def numL (s : Str) : Bool := (formL s).1 && !(formL s).2 && decide (s.length ≤ 400)
end Go.Am
namespace Go.Am
theorem CLe.parts {x : Parts} {a e : Bool} {b c d : Str} {H : Heap} {mv : List Nat} (h : x = (a, b, c, d, e)) :
    CLe ⟨.ret (.tup [.p (.bool a), .p (.str b), .p (.str c), .p (.str d), .p (.bool e)]), H, mv⟩ ⟨.ret (.tup [.p (.bool x.1), .p (.str x.2.1), .p (.str x.2.2.1), .p (.str x.2.2.2.1), .p (.bool x.2.2.2.2)]), H, mv⟩ := by subst h; exact CLe.refl _
theorem run_side (s : Str) : (0 : Int) ≤ (runL s : Int) ∧ (runL s : Int) ≤ (s.length : Int) := ⟨by omega, Int.ofNat_le.2 (runL_le s)⟩
end Go.Am
namespace Go.Am
theorem take_run (s : Str) : (s.take (runL s)).length = runL s := by rw [List.length_take]; have := runL_le s; omega
theorem run_side1 {s : Str} (h : 0 < (s.length : Int)) : 1 + (runL (s.drop 1) : Int) ≤ (s.length : Int) := by have := runL_le (s.drop 1); rw [List.length_drop] at this; omega
end Go.Am
namespace Go.Am
theorem numParts_p (s : Str) : (numParts s).2.2.2.1.length ≤ s.length := by
  have hE : ∀ neg w f p d, (partsE neg w f p d).2.2.2.1.length ≤ p.length := by
    intro neg w f p d; unfold partsE; split <;> simp [noParts]
  have hD : ∀ neg w f (s : Str), (partsD neg w f s).2.2.2.1.length ≤ s.length := by
    intro neg w f s
    unfold partsD
    split
    · simp
    · split
      · simp [noParts]
      · have hl : (s.drop 1).length ≤ s.length := by rw [List.length_drop]; omega
        split
        · exact Nat.le_trans (hE _ _ _ _ _) hl
        · exact Nat.le_trans (hE _ _ _ _ _) hl
  have hC : ∀ neg w (s : Str), (partsC neg w s).2.2.2.1.length ≤ s.length := by
    intro neg w s
    unfold partsC
    split
    · split
      · simp [noParts]
      · exact Nat.le_trans (hD _ _ _ _) (by rw [List.length_drop, List.length_drop]; omega)
    · exact hD _ _ _ _
  have hB : ∀ neg (s : Str), (partsB neg s).2.2.2.1.length ≤ s.length := by
    intro neg s
    unfold partsB
    split
    · simp [noParts]
    · exact Nat.le_trans (hC _ _ _) (by rw [List.length_drop]; omega)
  unfold numParts
  split
  · exact Nat.le_trans (hB _ _) (by rw [List.length_drop]; omega)
  · exact hB _ _
theorem numParts_len (s : Str) (hs : s.length ≤ 1073741824) : (numParts s).2.2.2.1.length ≤ 1073741824 := Nat.le_trans (numParts_p s) hs
end Go.Am
namespace Go.Am
/-- an int from digits, downwards -/
def negL : Str → Int → Option Int
  | [], v => some v
  | b :: s, v => if v < -((9223372036854775808 - ((b.toNat : Int) - 48)) / 10) then none else negL s (10 * v - ((b.toNat : Int) - 48))
def refIntL (s : Str) : Int × Bool :=
  if numL s = false ∨ s = [45, 48] then (0, false) else
  if 0 < (numParts s).2.2.1.length ∨ 0 < (numParts s).2.2.2.1.length then (0, false) else
  match negL (numParts s).2.1 0 with
  | none => (0, false)
  | some v => if (numParts s).1 = true then (v, true) else if v = -9223372036854775808 then (0, false) else (-v, true)
theorem take_dig : ∀ s : Str, ∀ b ∈ s.take (runL s), dig b = true
  | [] => by simp
  | c :: s => by
    intro b hb
    rw [runL] at hb
    split at hb
    · rename_i h
      rw [List.take_succ_cons] at hb
      rcases List.mem_cons.1 hb with rfl | hb
      · exact h
      · exact take_dig s b hb
    · simp at hb
theorem numParts_w (s : Str) : (∀ b ∈ (numParts s).2.1, dig b = true) ∧ (numParts s).2.1.length ≤ s.length := by
  have hE : ∀ neg w f p d, (partsE neg w f p d).2.1 = w ∨ (partsE neg w f p d).2.1 = [] := by
    intro neg w f p d; unfold partsE; split <;> simp [noParts]
  have hD : ∀ neg w f (s : Str), (partsD neg w f s).2.1 = w ∨ (partsD neg w f s).2.1 = [] := by
    intro neg w f s
    unfold partsD
    split
    · simp
    · split
      · simp [noParts]
      · split
        · exact hE _ _ _ _ _
        · exact hE _ _ _ _ _
  have hC : ∀ neg w (s : Str), (partsC neg w s).2.1 = w ∨ (partsC neg w s).2.1 = [] := by
    intro neg w s
    unfold partsC
    split
    · split
      · simp [noParts]
      · exact hD _ _ _ _
    · exact hD _ _ _ _
  have hB : ∀ neg (s : Str), (∀ b ∈ (partsB neg s).2.1, dig b = true) ∧ (partsB neg s).2.1.length ≤ s.length := by
    intro neg s
    unfold partsB
    split
    · simp [noParts]
    · rcases hC neg (s.take (runL s)) (s.drop (runL s)) with h | h
      · rw [h]; exact ⟨take_dig s, by rw [List.length_take]; omega⟩
      · rw [h]; simp
  unfold numParts
  split
  · have := hB true (s.drop 1)
    refine ⟨this.1, Nat.le_trans this.2 (by rw [List.length_drop]; omega)⟩
  · exact hB _ _
theorem tdiv_neg10 (x : Int) (h : x ≤ 0) : x.tdiv 10 = -((-x) / 10) := by
  obtain ⟨n, hn⟩ := Int.eq_ofNat_of_zero_le (show 0 ≤ -x by omega)
  have hx : x = -(n : Int) := by omega
  subst hx
  rw [Int.neg_tdiv, Int.neg_neg, Int.tdiv_eq_ediv_of_nonneg (by omega)]
end Go.Am
end

section
namespace Go.Proofs.YtaoejccgdpppgaaGreatDoor
open Go Go.Am
set_option maxRecDepth 100000
theorem ref1_digit (c : UInt8) : AbsCall PP GG F.ref1_digit [.p (byteP c)] [] ⟨.ret (.p (.bool (dig c))), [], []⟩ := by
  have hc := UInt8.toNat_lt c
  refine absCall_of (pol := polG) mixP F.ref1_digit_is ?_
  conv => whnf
  repeat' (first
   | ((first | with_reducible refine Br.dec (fun hb => ?_) (fun hb => ?_) | with_reducible refine Br.ndec (fun hb => ?_) (fun hb => ?_)) <;> (try dsimp only at hb) <;> (try simp only [ZZ] at hb) <;> (first | omega | (conv => whnf)))
   | ((first | with_reducible refine Br.tt rfl ?_ | with_reducible refine Br.ff rfl ?_ | with_reducible refine Br.ff (isEmptyCons _ _) ?_); conv => whnf)
   | (refine Side.mk ?_ ?_; (focus (first | omega | (dsimp only [InR]; omega) | (dsimp only [Int.reduceToNat, IntKind.bits, Int.reducePow, InR]; omega) | (simp [PV.cells, PV.leaf, byteP]; done) | (constructor <;> omega))); conv => whnf)
   | (refine Br.mk (fun hb => ?_) (fun hb => ?_) <;> (try dsimp only at hb) <;> (try simp only [ZZ] at hb) <;> (first | omega | (conv => whnf)))
   | ((first | refine Src.whole ⟨rfl, rfl⟩ ?_ | refine FrzV.whole ?_); conv => whnf))
  all_goals exact CLe.retP (by simp only [PV.bool.injEq, dig]; first | (symm; rw [decide_eq_false_iff_not]; omega) | (symm; rw [decide_eq_true_eq]; omega) | (rw [decide_eq_decide]; omega))
theorem run_loop (s : Str) (hs : s.length ≤ 1073741824) (K : Post) (h0 : K (.exit 0) [(3, .p (.int .i64 (runL s)))] [] []) :
    ∀ (q i : Nat), i + q = s.length → i + runL (s.drop i) = runL s →
      LoopW PP GG 17 0 (loopN F.ref1_run_c 0) [(0, .p (.str s)), (3, .p (.int .i64 i))] [] [] (PostCl 17 K) := by
  intro q
  induction q with
  | zero =>
    intro i hi hR
    rw [List.drop_eq_nil_of_le (by omega), runL, Nat.add_zero] at hR
    subst hR
    refine LoopW.round (pol := polG) mixP ?_
    conv => whnf
    repeat' (first
     | ((first | with_reducible refine Br.dec (fun hb => ?_) (fun hb => ?_) | with_reducible refine Br.ndec (fun hb => ?_) (fun hb => ?_)) <;> (try dsimp only at hb) <;> (try simp only [ZZ] at hb) <;> (first | omega | (conv => whnf)))
     | ((first | with_reducible refine Br.tt rfl ?_ | with_reducible refine Br.ff rfl ?_ | with_reducible refine Br.ff (isEmptyCons _ _) ?_); conv => whnf)
     | (refine Side.mk ?_ ?_; (focus (first | omega | (dsimp only [InR]; omega) | (dsimp only [Int.reduceToNat, IntKind.bits, Int.reducePow, InR]; omega) | (simp [PV.cells, PV.leaf, byteP]; done) | (constructor <;> omega))); conv => whnf)
     | (refine Br.mk (fun hb => ?_) (fun hb => ?_) <;> (try dsimp only at hb) <;> (try simp only [ZZ] at hb) <;> (first | omega | (conv => whnf)))
     | ((first | refine Src.whole ⟨rfl, rfl⟩ ?_ | refine FrzV.whole ?_); conv => whnf)
     | ((first | refine CallW.use (ref1_digit _) ?_); conv => whnf))
    · refine PostCl.of (h0) ?_ ?_
      · repeat (first | exact True.intro | refine And.intro (by first | exact VLe.refl _ | fail) ?_)
      · repeat (first | exact True.intro | refine And.intro (by decide) ?_)
  | succ q ih =>
    intro i hi hR
    obtain ⟨b, hb⟩ : ∃ b, s[i]? = some b := ⟨_, List.getElem?_eq_getElem (show i < s.length by omega)⟩
    have hg : s.getD (Int.toNat ↑i) 0 = b := getD_of (by simpa using hb)
    rw [drop_cons hb, runL] at hR
    refine LoopW.round (pol := polG) mixP ?_
    conv => whnf
    repeat' (first
     | ((first | with_reducible refine Br.dec (fun hb => ?_) (fun hb => ?_) | with_reducible refine Br.ndec (fun hb => ?_) (fun hb => ?_)) <;> (try dsimp only at hb) <;> (try simp only [ZZ, hg] at hb) <;> (first | omega | (conv => whnf)))
     | ((first | with_reducible refine Br.tt rfl ?_ | with_reducible refine Br.ff rfl ?_ | with_reducible refine Br.ff (isEmptyCons _ _) ?_); conv => whnf)
     | (refine Side.mk ?_ ?_; (focus (first | omega | (dsimp only [InR]; omega) | (dsimp only [Int.reduceToNat, IntKind.bits, Int.reducePow, InR]; omega) | (simp [PV.cells, PV.leaf, byteP]; done) | (constructor <;> omega))); conv => whnf)
     | (refine Br.mk (fun hb => ?_) (fun hb => ?_) <;> (try dsimp only at hb) <;> (try simp only [ZZ, hg] at hb) <;> (first | omega | (conv => whnf)))
     | ((first | refine Src.whole ⟨rfl, rfl⟩ ?_ | refine FrzV.whole ?_); conv => whnf)
     | ((first | refine CallW.use (ref1_digit _) ?_); conv => whnf))
    · rw [if_pos hb] at hR
      refine LoopW.sub (ih (i + 1) (by omega) (by omega)) (by repeat (first | exact True.intro | refine And.intro (by first | exact VLe.refl _ | fail) ?_)) (by repeat (first | exact True.intro | refine And.intro (by decide) ?_))
    · rw [if_neg (by rw [hb]; simp), Nat.add_zero] at hR
      subst hR
      refine PostCl.of (h0) ?_ ?_
      · repeat (first | exact True.intro | refine And.intro (by first | exact VLe.refl _ | fail) ?_)
      · repeat (first | exact True.intro | refine And.intro (by decide) ?_)
theorem ref1_run (s : Str) (hs : s.length ≤ 1073741824) : AbsCall PP GG F.ref1_run [.p (.str s)] [] ⟨.ret (.p (.int .i64 (runL s))), [], []⟩ := by
  refine absCall_of (pol := polG) mixP F.ref1_run_is ?_
  conv => whnf
  refine LoopW.cl ?_
  refine LoopW.sub (run_loop s hs _ ?_ s.length 0 (by omega) (by simp)) (by repeat (first | exact True.intro | refine And.intro (by first | exact VLe.refl _ | fail) ?_)) (by repeat (first | exact True.intro | refine And.intro (by decide) ?_))
  conv => whnf
  exact CLe.eq rfl
theorem parts_24 (neg : Bool) (w f p d : Str) (hd : d.length ≤ 1073741824) (R : Parts) (K : Post) (hR : partsE neg w f p d = R)
    (h0 : K .ret [(2, .p (.bool R.1)), (3, .p (.str R.2.1)), (4, .p (.str R.2.2.1)), (5, .p (.str R.2.2.2.1)), (6, .p (.bool R.2.2.2.2))] [] []) :
    CutW PP GG 106 0 (tailN F.ref1_parts_c 24) [(7, .p (.bool neg)), (9, .p (.str w)), (10, .p (.str f)), (11, .p (.str p)), (12, .p (.str d))] [] [] (PostCl 106 K) := by
  have hr := runL_le d
  unfold partsE at hR
  refine CutW.go (pol := polC []) mixP ?_
  conv => whnf
  repeat' (first
   | ((first | with_reducible refine Br.dec (fun hb => ?_) (fun hb => ?_) | with_reducible refine Br.ndec (fun hb => ?_) (fun hb => ?_)) <;> (try dsimp only at hb) <;> (try simp only [ZZ] at hb) <;> (first | omega | (conv => whnf)))
   | ((first | with_reducible refine Br.tt rfl ?_ | with_reducible refine Br.ff rfl ?_ | with_reducible refine Br.ff (isEmptyCons _ _) ?_); conv => whnf)
   | (refine Side.mk ?_ ?_; (focus (first | omega | (dsimp only [InR]; omega) | (dsimp only [Int.reduceToNat, IntKind.bits, Int.reducePow, InR]; omega) | (simp [PV.cells, PV.leaf, byteP]; done) | (constructor <;> omega))); conv => whnf)
   | (refine Br.mk (fun hb => ?_) (fun hb => ?_) <;> (try dsimp only at hb) <;> (try simp only [ZZ] at hb) <;> (first | omega | (conv => whnf)))
   | ((first | refine Src.whole ⟨rfl, rfl⟩ ?_ | refine FrzV.whole ?_); conv => whnf)
   | ((first | refine CallW.use (ref1_run d hd) ?_); conv => whnf))
  all_goals
    first
    | (rw [if_pos (by omega)] at hR; subst hR; refine PostCl.of (h0) (by repeat (first | exact True.intro | refine And.intro (by first | exact VLe.refl _ | fail) ?_)) (by repeat (first | exact True.intro | refine And.intro (by decide) ?_)))
    | (rw [if_neg (by omega)] at hR; subst hR; refine PostCl.of (h0) (by repeat (first | exact True.intro | refine And.intro (by first | exact VLe.refl _ | fail) ?_)) (by repeat (first | exact True.intro | refine And.intro (by decide) ?_)))
theorem parts_16 (neg : Bool) (w f s : Str) (hs : s.length ≤ 1073741824) (R : Parts) (K : Post) (hR : partsD neg w f s = R)
    (h0 : K .ret [(2, .p (.bool R.1)), (3, .p (.str R.2.1)), (4, .p (.str R.2.2.1)), (5, .p (.str R.2.2.2.1)), (6, .p (.bool R.2.2.2.2))] [] []) :
    CutW PP GG 106 0 (tailN F.ref1_parts_c 16) [(0, .p (.str s)), (7, .p (.bool neg)), (9, .p (.str w)), (10, .p (.str f))] [] [] (PostCl 106 K) := by
  have hl1 : (s.drop 1).length = s.length - 1 := List.length_drop
  have hl2 : ((s.drop 1).drop 1).length = s.length - 1 - 1 := by rw [List.length_drop, hl1]
  unfold partsD b0 at hR
  refine CutW.go (pol := polC [24]) mixP ?_
  conv => whnf
  repeat' (first
   | ((first | with_reducible refine Br.dec (fun hb => ?_) (fun hb => ?_) | with_reducible refine Br.ndec (fun hb => ?_) (fun hb => ?_)) <;> (try dsimp only at hb) <;> (try simp only [ZZ, Int.reduceToNat, hl1] at hb) <;> (first | omega | (conv => whnf)))
   | ((first | with_reducible refine Br.tt rfl ?_ | with_reducible refine Br.ff rfl ?_ | with_reducible refine Br.ff (isEmptyCons _ _) ?_); conv => whnf)
   | (refine Side.mk ?_ ?_; (focus (first | omega | (dsimp only [InR]; omega) | (dsimp only [Int.reduceToNat, IntKind.bits, Int.reducePow, InR]; omega) | (simp only [Int.reduceToNat, hl1]; omega) | (simp [PV.cells, PV.leaf, byteP]; done) | (constructor <;> omega))); conv => whnf)
   | (refine Br.mk (fun hb => ?_) (fun hb => ?_) <;> (try dsimp only at hb) <;> (try simp only [ZZ, Int.reduceToNat, hl1] at hb) <;> (first | omega | (conv => whnf)))
   | ((first | refine Src.whole ⟨rfl, rfl⟩ ?_ | refine FrzV.whole ?_); conv => whnf))
  all_goals
    first
    | (rw [if_pos (by omega)] at hR; subst hR; refine PostCl.of (h0) (by repeat (first | exact True.intro | refine And.intro (by first | exact VLe.refl _ | fail) ?_)) (by repeat (first | exact True.intro | refine And.intro (by decide) ?_)))
    | (rw [if_neg (by omega), if_pos (by omega)] at hR; subst hR; refine PostCl.of (h0) (by repeat (first | exact True.intro | refine And.intro (by first | exact VLe.refl _ | fail) ?_)) (by repeat (first | exact True.intro | refine And.intro (by decide) ?_)))
    | (rw [if_neg (by omega), if_neg (by omega), if_pos (by omega)] at hR; refine CutW.sub (parts_24 neg w f (s.drop 1) ((s.drop 1).drop 1) (by omega) R K hR h0) (by repeat (first | exact True.intro | refine And.intro (by first | exact VLe.refl _ | fail) ?_)) (by repeat (first | exact True.intro | refine And.intro (by decide) ?_)))
    | (rw [if_neg (by omega), if_neg (by omega), if_neg (by omega)] at hR; refine CutW.sub (parts_24 neg w f (s.drop 1) (s.drop 1) (by omega) R K hR h0) (by repeat (first | exact True.intro | refine And.intro (by first | exact VLe.refl _ | fail) ?_)) (by repeat (first | exact True.intro | refine And.intro (by decide) ?_)))
theorem parts_10 (neg : Bool) (w s : Str) (hs : s.length ≤ 1073741824) (R : Parts) (K : Post) (hR : partsC neg w s = R)
    (h0 : K .ret [(2, .p (.bool R.1)), (3, .p (.str R.2.1)), (4, .p (.str R.2.2.1)), (5, .p (.str R.2.2.2.1)), (6, .p (.bool R.2.2.2.2))] [] []) :
    CutW PP GG 106 0 (tailN F.ref1_parts_c 9) [(0, .p (.str s)), (7, .p (.bool neg)), (9, .p (.str w))] [] [] (PostCl 106 K) := by
  have hl1 : (s.drop 1).length = s.length - 1 := List.length_drop
  have hr1 := runL_le (s.drop 1)
  have e1 : List.take ((1 + (runL (s.drop 1) : Int)).toNat - 1) (s.drop 1) = List.take (runL (s.drop 1)) (s.drop 1) := by congr 1 <;> omega
  have e2 : List.drop (1 + (runL (s.drop 1) : Int)).toNat s = List.drop (runL (s.drop 1)) (s.drop 1) := by rw [List.drop_drop]; congr 1 <;> omega
  have htk : (List.take ((1 + (runL (s.drop 1) : Int)).toNat - 1) (s.drop 1)).length = runL (s.drop 1) := by rw [e1, take_run]
  have hul : (List.drop (1 + (runL (s.drop 1) : Int)).toNat s).length ≤ 1073741824 := by rw [List.length_drop]; omega
  unfold partsC b0 at hR
  rw [← e1, ← e2] at hR
  refine CutW.go (pol := polC [16]) mixP ?_
  conv => whnf
  repeat' (first
   | ((first | with_reducible refine Br.dec (fun hb => ?_) (fun hb => ?_) | with_reducible refine Br.ndec (fun hb => ?_) (fun hb => ?_)) <;> (try dsimp only at hb) <;> (try simp only [ZZ, Int.reduceToNat, hl1, htk] at hb) <;> (first | omega | (conv => whnf)))
   | ((first | with_reducible refine Br.tt rfl ?_ | with_reducible refine Br.ff rfl ?_ | with_reducible refine Br.ff (isEmptyCons _ _) ?_); conv => whnf)
   | (refine Side.mk ?_ ?_; (focus (first | omega | (dsimp only [InR]; omega) | (dsimp only [Int.reduceToNat, IntKind.bits, Int.reducePow, InR]; omega) | (simp only [Int.reduceToNat, hl1]; omega) | (simp [PV.cells, PV.leaf, byteP]; done) | (constructor <;> omega))); conv => whnf)
   | (refine Br.mk (fun hb => ?_) (fun hb => ?_) <;> (try dsimp only at hb) <;> (try simp only [ZZ, Int.reduceToNat, hl1, htk] at hb) <;> (first | omega | (conv => whnf)))
   | ((first | refine Src.whole ⟨rfl, rfl⟩ ?_ | refine FrzV.whole ?_); conv => whnf)
   | ((first | refine CallW.use (ref1_run (s.drop 1) (by omega)) ?_); conv => whnf))
  all_goals
    first
    | (rw [if_pos (by omega), if_pos (by omega)] at hR; subst hR; refine PostCl.of (h0) (by repeat (first | exact True.intro | refine And.intro (by first | exact VLe.refl _ | fail) ?_)) (by repeat (first | exact True.intro | refine And.intro (by decide) ?_)))
    | (rw [if_pos (by omega), if_neg (by omega)] at hR; refine CutW.sub (parts_16 neg w _ _ hul R K hR h0) (by repeat (first | exact True.intro | refine And.intro (by first | exact VLe.refl _ | fail) ?_)) (by repeat (first | exact True.intro | refine And.intro (by decide) ?_)))
    | (rw [if_neg (by omega)] at hR; refine CutW.sub (parts_16 neg w [] s (by omega) R K hR h0) (by repeat (first | exact True.intro | refine And.intro (by first | exact VLe.refl _ | fail) ?_)) (by repeat (first | exact True.intro | refine And.intro (by decide) ?_)))
theorem parts_4 (neg : Bool) (s : Str) (hs : s.length ≤ 1073741824) (R : Parts) (K : Post) (hR : partsB neg s = R)
    (h0 : K .ret [(2, .p (.bool R.1)), (3, .p (.str R.2.1)), (4, .p (.str R.2.2.1)), (5, .p (.str R.2.2.2.1)), (6, .p (.bool R.2.2.2.2))] [] []) :
    CutW PP GG 106 0 (tailN F.ref1_parts_c 4) [(0, .p (.str s)), (7, .p (.bool neg))] [] [] (PostCl 106 K) := by
  have hr := runL_le s
  have hwl : (s.take (runL s)).length = runL s := take_run s
  have hul : (s.drop (runL s)).length = s.length - runL s := List.length_drop
  unfold partsB b0 at hR
  refine CutW.go (pol := polC [9]) mixP ?_
  conv => whnf
  repeat' (first
   | ((first | with_reducible refine Br.dec (fun hb => ?_) (fun hb => ?_) | with_reducible refine Br.ndec (fun hb => ?_) (fun hb => ?_)) <;> (try dsimp only at hb) <;> (try simp only [ZZ, Int.reduceToNat, Int.toNat_natCast, hwl] at hb) <;> (first | omega | (conv => whnf)))
   | ((first | with_reducible refine Br.tt rfl ?_ | with_reducible refine Br.ff rfl ?_ | with_reducible refine Br.ff (isEmptyCons _ _) ?_); conv => whnf)
   | (refine Side.mk ?_ ?_; (focus (first | omega | (dsimp only [InR]; omega) | (dsimp only [Int.reduceToNat, IntKind.bits, Int.reducePow, InR]; omega) | (simp only [Int.reduceToNat, Int.toNat_natCast, hwl]; omega) | (simp [PV.cells, PV.leaf, byteP]; done) | (constructor <;> omega))); conv => whnf)
   | (refine Br.mk (fun hb => ?_) (fun hb => ?_) <;> (try dsimp only at hb) <;> (try simp only [ZZ, Int.reduceToNat, Int.toNat_natCast, hwl] at hb) <;> (first | omega | (conv => whnf)))
   | ((first | refine Src.whole ⟨rfl, rfl⟩ ?_ | refine FrzV.whole ?_); conv => whnf)
   | ((first | refine CallW.use (ref1_run s (by omega)) ?_); conv => whnf))
  all_goals
    first
    | (rw [if_pos (by omega)] at hR; subst hR; refine PostCl.of (h0) (by repeat (first | exact True.intro | refine And.intro (by first | exact VLe.refl _ | fail) ?_)) (by repeat (first | exact True.intro | refine And.intro (by decide) ?_)))
    | (rw [if_neg (by omega)] at hR; refine CutW.sub (parts_10 neg (s.take (runL s)) (s.drop (runL s)) (by omega) R K hR h0) (by repeat (first | exact True.intro | refine And.intro (by first | exact VLe.refl _ | fail) ?_)) (by repeat (first | exact True.intro | refine And.intro (by decide) ?_)))
theorem ref1_parts (s : Str) (hs : s.length ≤ 1073741824) : AbsCall PP GG F.ref1_parts [.p (.str s)] [] ⟨.ret (.tup [.p (.bool (numParts s).1), .p (.str (numParts s).2.1), .p (.str (numParts s).2.2.1), .p (.str (numParts s).2.2.2.1), .p (.bool (numParts s).2.2.2.2)]), [], []⟩ := by
  have hl1 : (s.drop 1).length = s.length - 1 := List.length_drop
  have hN : numParts s = if 0 < s.length ∧ b0 s = 45 then partsB true (s.drop 1) else partsB false s := rfl
  unfold b0 at hN
  refine absCall_of (pol := polC [4]) mixP F.ref1_parts_is ?_
  conv => whnf
  repeat' (first
   | ((first | with_reducible refine Br.dec (fun hb => ?_) (fun hb => ?_) | with_reducible refine Br.ndec (fun hb => ?_) (fun hb => ?_)) <;> (try dsimp only at hb) <;> (try simp only [ZZ, Int.reduceToNat, hl1] at hb) <;> (first | omega | (conv => whnf)))
   | ((first | with_reducible refine Br.tt rfl ?_ | with_reducible refine Br.ff rfl ?_ | with_reducible refine Br.ff (isEmptyCons _ _) ?_); conv => whnf)
   | (refine Side.mk ?_ ?_; (focus (first | omega | (dsimp only [InR]; omega) | (dsimp only [Int.reduceToNat, IntKind.bits, Int.reducePow, InR]; omega) | (simp only [Int.reduceToNat, hl1]; omega) | (simp [PV.cells, PV.leaf, byteP]; done) | (constructor <;> omega))); conv => whnf)
   | (refine Br.mk (fun hb => ?_) (fun hb => ?_) <;> (try dsimp only at hb) <;> (try simp only [ZZ, Int.reduceToNat, hl1] at hb) <;> (first | omega | (conv => whnf)))
   | ((first | refine Src.whole ⟨rfl, rfl⟩ ?_ | refine FrzV.whole ?_); conv => whnf))
  all_goals refine CutW.cl ?_
  · refine CutW.sub (parts_4 (decide (↑(List.getD s (Int.toNat 0) 0).toNat = (45 : Int))) (s.drop 1) (by omega) (numParts s) _ (by rw [hN, if_pos (by omega), decide_eq_true (by simpa using hb)]) ?_) (by repeat (first | exact True.intro | refine And.intro (by first | exact VLe.refl _ | fail) ?_)) (by repeat (first | exact True.intro | refine And.intro (by decide) ?_))
    conv => whnf
    exact CLe.eq rfl
  · refine CutW.sub (parts_4 (decide (↑(List.getD s (Int.toNat 0) 0).toNat = (45 : Int))) s (by omega) (numParts s) _ (by rw [hN, if_neg (by omega), decide_eq_false (by simpa using hb)]) ?_) (by repeat (first | exact True.intro | refine And.intro (by first | exact VLe.refl _ | fail) ?_)) (by repeat (first | exact True.intro | refine And.intro (by decide) ?_))
    conv => whnf
    exact CLe.eq rfl
  · refine CutW.sub (parts_4 false s (by omega) (numParts s) _ (by rw [hN, if_neg (by omega)]) ?_) (by repeat (first | exact True.intro | refine And.intro (by first | exact VLe.refl _ | fail) ?_)) (by repeat (first | exact True.intro | refine And.intro (by decide) ?_))
    conv => whnf
    exact CLe.eq rfl
theorem power_loop (s : Str) (hs : s.length ≤ 1073741824) (R : Option Int) (K : Post)
    (h0 : ∀ v : Int, R = some v → 0 ≤ v → v ≤ 100000 → K (.exit 0) [(0, .p (.str s)), (4, .p (.int .i64 v))] [] [])
    (hr : R = none → K .ret [(2, .p (.int .i64 0)), (3, .p (.bool false))] [] []) :
    ∀ (q i : Nat) (v : Int), i + q = s.length → 0 ≤ v → v ≤ 100000 → powL (s.drop i) v = R →
      LoopW PP GG 36 0 (loopN F.ref1_power_c 0) [(0, .p (.str s)), (4, .p (.int .i64 v)), (5, .p (.int .i64 i))] [] [] (PostCl 36 K) := by
  intro q
  induction q with
  | zero =>
    intro i v hi hv0 hv1 hR
    rw [List.drop_eq_nil_of_le (by omega), powL] at hR
    refine LoopW.round (pol := polG) mixP ?_
    conv => whnf
    repeat' (first
     | ((first | with_reducible refine Br.dec (fun hb => ?_) (fun hb => ?_) | with_reducible refine Br.ndec (fun hb => ?_) (fun hb => ?_)) <;> (try dsimp only at hb) <;> (try simp only [ZZ] at hb) <;> (first | omega | (conv => whnf)))
     | ((first | with_reducible refine Br.tt rfl ?_ | with_reducible refine Br.ff rfl ?_ | with_reducible refine Br.ff (isEmptyCons _ _) ?_); conv => whnf)
     | (refine Side.mk ?_ ?_; (focus (first | omega | (dsimp only [InR]; omega) | (dsimp only [Int.reduceToNat, IntKind.bits, Int.reducePow, InR]; omega) | (simp [PV.cells, PV.leaf, byteP]; done) | (constructor <;> omega))); conv => whnf)
     | (refine Br.mk (fun hb => ?_) (fun hb => ?_) <;> (try dsimp only at hb) <;> (try simp only [ZZ] at hb) <;> (first | omega | (conv => whnf)))
     | ((first | refine Src.whole ⟨rfl, rfl⟩ ?_ | refine FrzV.whole ?_); conv => whnf)
     | ((first | refine CallW.use (ref1_digit _) ?_); conv => whnf))
    · refine PostCl.of (h0 v hR.symm hv0 hv1) ?_ ?_
      · repeat (first | exact True.intro | refine And.intro (by first | exact VLe.refl _ | fail) ?_)
      · repeat (first | exact True.intro | refine And.intro (by decide) ?_)
  | succ q ih =>
    intro i v hi hv0 hv1 hR
    obtain ⟨b, hb⟩ : ∃ b, s[i]? = some b := ⟨_, List.getElem?_eq_getElem (show i < s.length by omega)⟩
    have hg : s.getD (Int.toNat ↑i) 0 = b := getD_of (by simpa using hb)
    have hdb : dig b = decide (48 ≤ b.toNat ∧ b.toNat ≤ 57) := rfl
    rw [drop_cons hb, powL] at hR
    refine LoopW.round (pol := polG) mixP ?_
    conv => whnf
    repeat' (first
     | ((first | with_reducible refine Br.dec (fun hb => ?_) (fun hb => ?_) | with_reducible refine Br.ndec (fun hb => ?_) (fun hb => ?_)) <;> (try dsimp only at hb) <;> (try simp only [ZZ, hg] at hb) <;> (first | omega | (conv => whnf)))
     | ((first | with_reducible refine Br.tt rfl ?_ | with_reducible refine Br.ff rfl ?_ | with_reducible refine Br.ff (isEmptyCons _ _) ?_); conv => whnf)
     | (refine Side.mk ?_ ?_; (focus (first | omega | (dsimp only [InR]; omega) | (dsimp only [Int.reduceToNat, IntKind.bits, Int.reducePow, InR]; omega) | (simp only [hg, InR]; rw [hdb, decide_eq_true_eq] at hb; omega) | (simp [PV.cells, PV.leaf, byteP]; done) | (constructor <;> omega))); conv => whnf)
     | (refine Br.mk (fun hb => ?_) (fun hb => ?_) <;> (try dsimp only at hb) <;> (try simp only [ZZ, hg] at hb) <;> (first | omega | (conv => whnf)))
     | ((first | refine Src.whole ⟨rfl, rfl⟩ ?_ | refine FrzV.whole ?_); conv => whnf)
     | ((first | refine CallW.use (ref1_digit _) ?_); conv => whnf))
    · rename_i hd
      rw [if_pos hd, if_pos (by omega)] at hR
      refine PostCl.of (hr hR.symm) ?_ ?_
      · repeat (first | exact True.intro | refine And.intro (by first | exact VLe.refl _ | fail) ?_)
      · repeat (first | exact True.intro | refine And.intro (by decide) ?_)
    · rename_i hd
      rw [if_pos hd, if_neg (by omega)] at hR
      rw [hdb, decide_eq_true_eq] at hd
      rw [hg]
      refine LoopW.sub (ih (i + 1) _ (by omega) (by omega) (by omega) hR) (by repeat (first | exact True.intro | refine And.intro (by first | exact VLe.refl _ | fail) ?_)) (by repeat (first | exact True.intro | refine And.intro (by decide) ?_))
    · rw [if_neg (by rw [hb]; simp)] at hR
      refine LoopW.sub (ih (i + 1) _ (by omega) hv0 hv1 hR) (by repeat (first | exact True.intro | refine And.intro (by first | exact VLe.refl _ | fail) ?_)) (by repeat (first | exact True.intro | refine And.intro (by decide) ?_))
theorem ref1_power (s : Str) (hs : s.length ≤ 1073741824) : AbsCall PP GG F.ref1_power [.p (.str s)] [] ⟨.ret (.tup [.p (.int .i64 (powerL s).1), .p (.bool (powerL s).2)]), [], []⟩ := by
  refine absCall_of (pol := polG) mixP F.ref1_power_is ?_
  conv => whnf
  refine LoopW.cl ?_
  refine LoopW.sub (power_loop s hs (powL s 0) _ (fun v hv hv0 hv1 => ?_) (fun hv => ?_) s.length 0 0 (by omega) (by omega) (by omega) rfl) (by repeat (first | exact True.intro | refine And.intro (by first | exact VLe.refl _ | fail) ?_)) (by repeat (first | exact True.intro | refine And.intro (by decide) ?_))
  · conv => whnf
    have hP : powerL s = if 0 < s.length ∧ b0 s = 45 then (-v, true) else (v, true) := by unfold powerL; rw [hv]
    unfold b0 at hP
    repeat' (first
     | ((first | with_reducible refine Br.dec (fun hb => ?_) (fun hb => ?_) | with_reducible refine Br.ndec (fun hb => ?_) (fun hb => ?_)) <;> (try dsimp only at hb) <;> (try simp only [ZZ, Int.reduceToNat] at hb) <;> (first | omega | (conv => whnf)))
     | ((first | with_reducible refine Br.tt rfl ?_ | with_reducible refine Br.ff rfl ?_ | with_reducible refine Br.ff (isEmptyCons _ _) ?_); conv => whnf)
     | (refine Side.mk ?_ ?_; (focus (first | omega | (dsimp only [InR]; omega) | (dsimp only [Int.reduceToNat, IntKind.bits, Int.reducePow, InR]; omega) | (simp [PV.cells, PV.leaf, byteP]; done) | (constructor <;> omega))); conv => whnf)
     | (refine Br.mk (fun hb => ?_) (fun hb => ?_) <;> (try dsimp only at hb) <;> (try simp only [ZZ, Int.reduceToNat] at hb) <;> (first | omega | (conv => whnf)))
     | ((first | refine Src.whole ⟨rfl, rfl⟩ ?_ | refine FrzV.whole ?_); conv => whnf))
    · exact CLe.eq (by rw [hP, if_pos (by omega), InR.wrap (by simp only [InR]; omega), Int.zero_sub])
    · exact CLe.eq (by rw [hP, if_neg (by omega)])
    · exact CLe.eq (by rw [hP, if_neg (by omega)])
  · conv => whnf
    exact CLe.eq (by unfold powerL; rw [hv])
theorem ref1_Form (s : Str) (hs : s.length ≤ 1073741824) : AbsCall PP GG F.ref1_Form [.p (.str s)] [] ⟨.ret (.tup [.p (.bool (formL s).1), .p (.bool (formL s).2)]), [], []⟩ := by
  refine absCall_of (pol := polG) mixP F.ref1_Form_is ?_
  conv => whnf
  repeat' (first
   | ((first | with_reducible refine Br.dec (fun hb => ?_) (fun hb => ?_) | with_reducible refine Br.ndec (fun hb => ?_) (fun hb => ?_)) <;> (try dsimp only at hb) <;> (try simp only [ZZ] at hb) <;> (first | omega | (conv => whnf)))
   | ((first | with_reducible refine Br.tt rfl ?_ | with_reducible refine Br.ff rfl ?_ | with_reducible refine Br.ff (isEmptyCons _ _) ?_); conv => whnf)
   | (refine Side.mk ?_ ?_; (focus (first | omega | (dsimp only [InR]; omega) | (dsimp only [Int.reduceToNat, IntKind.bits, Int.reducePow, InR]; omega) | (simp [PV.cells, PV.leaf, byteP]; done) | (constructor <;> omega))); conv => whnf)
   | (refine Br.mk (fun hb => ?_) (fun hb => ?_) <;> (try dsimp only at hb) <;> (try simp only [ZZ] at hb) <;> (first | omega | (conv => whnf)))
   | ((first | refine Src.whole ⟨rfl, rfl⟩ ?_ | refine FrzV.whole ?_); conv => whnf)
   | ((first | refine CallW.use (ref1_parts s hs) ?_ | refine CallW.use (ref1_power _ (numParts_len s hs)) ?_); conv => whnf))
  · exact CLe.eq (by unfold formL; rw [hb]; rfl)
  · exact CLe.eq (by unfold formL; rw [hb]; rfl)
theorem ref1_Number (s : Str) (hs : s.length ≤ 1073741824) : AbsCall PP GG F.ref1_Number [.p (.str s)] [] ⟨.ret (.p (.bool (numL s))), [], []⟩ := by
  refine absCall_of (pol := polG) mixP F.ref1_Number_is ?_
  conv => whnf
  repeat' (first
   | ((first | with_reducible refine Br.dec (fun hb => ?_) (fun hb => ?_) | with_reducible refine Br.ndec (fun hb => ?_) (fun hb => ?_)) <;> (try dsimp only at hb) <;> (try simp only [ZZ] at hb) <;> (first | omega | (conv => whnf)))
   | ((first | with_reducible refine Br.tt rfl ?_ | with_reducible refine Br.ff rfl ?_ | with_reducible refine Br.ff (isEmptyCons _ _) ?_); conv => whnf)
   | (refine Side.mk ?_ ?_; (focus (first | omega | (dsimp only [InR]; omega) | (dsimp only [Int.reduceToNat, IntKind.bits, Int.reducePow, InR]; omega) | (simp [PV.cells, PV.leaf, byteP]; done) | (constructor <;> omega))); conv => whnf)
   | (refine Br.mk (fun hb => ?_) (fun hb => ?_) <;> (try dsimp only at hb) <;> (try simp only [ZZ] at hb) <;> (first | omega | (conv => whnf)))
   | ((first | refine Src.whole ⟨rfl, rfl⟩ ?_ | refine FrzV.whole ?_); conv => whnf)
   | ((first | refine CallW.use (ref1_Form s hs) ?_); conv => whnf))
  all_goals exact CLe.retP (by unfold numL; simp [*]; try omega)
theorem int_loop (w : Str) (hw : w.length ≤ 1073741824) (hd : ∀ b ∈ w, dig b = true) (neg : Bool) (R : Option Int) (K : Post)
    (h0 : ∀ v : Int, R = some v → -9223372036854775808 ≤ v → v ≤ 0 → K (.exit 0) [(4, .p (.bool neg)), (9, .p (.int .i64 v))] [] [])
    (hr : R = none → K .ret [(2, .p (.int .i64 0)), (3, .p (.bool false))] [] []) :
    ∀ (q i : Nat) (v : Int), i + q = w.length → -9223372036854775808 ≤ v → v ≤ 0 → negL (w.drop i) v = R →
      LoopW PP GG 59 0 (loopN F.ref1_Int_c 0) [(4, .p (.bool neg)), (5, .p (.str w)), (9, .p (.int .i64 v)), (10, .p (.int .i64 i))] [] [] (PostCl 59 K) := by
  intro q
  induction q with
  | zero =>
    intro i v hi hv0 hv1 hR
    rw [List.drop_eq_nil_of_le (by omega), negL] at hR
    refine LoopW.round (pol := polG) mixP ?_
    conv => whnf
    repeat' (first
     | ((first | with_reducible refine Br.dec (fun hb => ?_) (fun hb => ?_) | with_reducible refine Br.ndec (fun hb => ?_) (fun hb => ?_)) <;> (try dsimp only at hb) <;> (try simp only [ZZ] at hb) <;> (first | omega | (conv => whnf)))
     | ((first | with_reducible refine Br.tt rfl ?_ | with_reducible refine Br.ff rfl ?_ | with_reducible refine Br.ff (isEmptyCons _ _) ?_); conv => whnf)
     | (refine Side.mk ?_ ?_; (focus (first | omega | (dsimp only [InR]; omega) | (dsimp only [Int.reduceToNat, IntKind.bits, Int.reducePow, InR]; omega) | (simp [PV.cells, PV.leaf, byteP]; done) | (constructor <;> omega))); conv => whnf)
     | (refine Br.mk (fun hb => ?_) (fun hb => ?_) <;> (try dsimp only at hb) <;> (try simp only [ZZ] at hb) <;> (first | omega | (conv => whnf)))
     | ((first | refine Src.whole ⟨rfl, rfl⟩ ?_ | refine FrzV.whole ?_); conv => whnf))
    · refine PostCl.of (h0 v hR.symm hv0 hv1) ?_ ?_
      · repeat (first | exact True.intro | refine And.intro (by first | exact VLe.refl _ | fail) ?_)
      · repeat (first | exact True.intro | refine And.intro (by decide) ?_)
  | succ q ih =>
    intro i v hi hv0 hv1 hR
    obtain ⟨b, hb⟩ : ∃ b, w[i]? = some b := ⟨_, List.getElem?_eq_getElem (show i < w.length by omega)⟩
    have hg : w.getD (Int.toNat ↑i) 0 = b := getD_of (by simpa using hb)
    have hdb := hd b (List.mem_of_getElem? hb)
    unfold dig at hdb
    rw [decide_eq_true_eq] at hdb
    rw [drop_cons hb, negL] at hR
    have htd := tdiv_neg10 (-9223372036854775808 + ((b.toNat : Int) - 48)) (by omega)
    refine LoopW.round (pol := polG) mixP ?_
    conv => whnf
    repeat' (first
     | ((first | with_reducible refine Br.dec (fun hb => ?_) (fun hb => ?_) | with_reducible refine Br.ndec (fun hb => ?_) (fun hb => ?_)) <;> (try dsimp only at hb) <;> (try simp only [ZZ, hg, htd] at hb) <;> (first | omega | (conv => whnf)))
     | ((first | with_reducible refine Br.tt rfl ?_ | with_reducible refine Br.ff rfl ?_ | with_reducible refine Br.ff (isEmptyCons _ _) ?_); conv => whnf)
     | (refine Side.mk ?_ ?_; (focus (first | omega | (dsimp only [InR]; omega) | (dsimp only [Int.reduceToNat, IntKind.bits, Int.reducePow, InR]; omega) | (simp only [hg, htd, InR]; omega) | (refine ⟨by decide, ?_⟩; simp only [hg, htd, InR]; omega) | (simp [PV.cells, PV.leaf, byteP]; done) | (constructor <;> omega))); conv => whnf)
     | (refine Br.mk (fun hb => ?_) (fun hb => ?_) <;> (try dsimp only at hb) <;> (try simp only [ZZ, hg, htd] at hb) <;> (first | omega | (conv => whnf)))
     | ((first | refine Src.whole ⟨rfl, rfl⟩ ?_ | refine FrzV.whole ?_); conv => whnf))
    · rw [if_pos (by omega)] at hR
      refine PostCl.of (hr hR.symm) ?_ ?_
      · repeat (first | exact True.intro | refine And.intro (by first | exact VLe.refl _ | fail) ?_)
      · repeat (first | exact True.intro | refine And.intro (by decide) ?_)
    · rw [if_neg (by omega)] at hR
      rw [hg]
      refine LoopW.sub (ih (i + 1) _ (by omega) (by omega) (by omega) hR) (by repeat (first | exact True.intro | refine And.intro (by first | exact VLe.refl _ | fail) ?_)) (by repeat (first | exact True.intro | refine And.intro (by decide) ?_))
theorem ref1_Int (s : Str) (hs : s.length ≤ 1073741824) : AbsCall PP GG F.ref1_Int [.p (.str s)] [] ⟨.ret (.tup [.p (.int .i64 (refIntL s).1), .p (.bool (refIntL s).2)]), [], []⟩ := by
  have hI : refIntL s = if numL s = false ∨ s = [45, 48] then (0, false) else
    if 0 < (numParts s).2.2.1.length ∨ 0 < (numParts s).2.2.2.1.length then (0, false) else
    match negL (numParts s).2.1 0 with
    | none => (0, false)
    | some v => if (numParts s).1 = true then (v, true) else if v = -9223372036854775808 then (0, false) else (-v, true) := rfl
  have hp := ref1_parts s hs
  have hwd := numParts_w s
  rcases hP : numParts s with ⟨neg, w, f, p, ok⟩
  rw [hP] at hI hp hwd
  simp only [] at hI hp hwd
  have hn := ref1_Number s hs
  by_cases hN : numL s = false ∨ s = [45, 48]
  · rw [if_pos hN] at hI
    rw [hI]
    refine absCall_of (pol := polG) mixP F.ref1_Int_is ?_
    conv => whnf
    repeat' (first
     | ((first | with_reducible refine Br.dec (fun hb => ?_) (fun hb => ?_) | with_reducible refine Br.ndec (fun hb => ?_) (fun hb => ?_)) <;> (try dsimp only at hb) <;> (try simp only [ZZ] at hb) <;> (first | omega | (conv => whnf)))
     | ((first | with_reducible refine Br.tt rfl ?_ | with_reducible refine Br.ff rfl ?_ | with_reducible refine Br.ff (isEmptyCons _ _) ?_); conv => whnf)
     | (refine Side.mk ?_ ?_; (focus (first | omega | (dsimp only [InR]; omega) | (dsimp only [Int.reduceToNat, IntKind.bits, Int.reducePow, InR]; omega) | (simp [PV.cells, PV.leaf, byteP]; done) | (constructor <;> omega))); conv => whnf)
     | (refine Br.mk (fun hb => ?_) (fun hb => ?_) <;> (try dsimp only at hb) <;> (try simp only [ZZ] at hb) <;> (first | omega | (conv => whnf)))
     | ((first | refine Src.whole ⟨rfl, rfl⟩ ?_ | refine FrzV.whole ?_); conv => whnf)
     | ((first | refine CallW.use (hn) ?_); conv => whnf))
    · exact CLe.eq rfl
    · exact CLe.eq rfl
    · rename_i h2
      exact absurd hN (by rw [h2]; simp; exact hb)
  · rw [if_neg hN] at hI
    simp only [not_or, Bool.not_eq_false] at hN
    rw [hN.1] at hn
    refine absCall_of (pol := polG) mixP F.ref1_Int_is ?_
    conv => whnf
    repeat' (first
     | ((first | with_reducible refine Br.dec (fun hb => ?_) (fun hb => ?_) | with_reducible refine Br.ndec (fun hb => ?_) (fun hb => ?_)) <;> (try dsimp only at hb) <;> (try simp only [ZZ] at hb) <;> (first | omega | (conv => whnf)))
     | ((first | with_reducible refine Br.tt rfl ?_ | with_reducible refine Br.ff rfl ?_ | with_reducible refine Br.ff (isEmptyCons _ _) ?_); conv => whnf)
     | (refine Side.mk ?_ ?_; (focus (first | omega | (dsimp only [InR]; omega) | (dsimp only [Int.reduceToNat, IntKind.bits, Int.reducePow, InR]; omega) | (simp [PV.cells, PV.leaf, byteP]; done) | (constructor <;> omega))); conv => whnf)
     | (refine Br.mk (fun hb => ?_) (fun hb => ?_) <;> (try dsimp only at hb) <;> (try simp only [ZZ] at hb) <;> (first | omega | (conv => whnf)))
     | ((first | refine Src.whole ⟨rfl, rfl⟩ ?_ | refine FrzV.whole ?_); conv => whnf)
     | ((first | refine CallW.use (hn) ?_ | refine CallW.use (hp) ?_); conv => whnf))
    · exact absurd hb hN.2
    · exact CLe.eq (by rw [hI, if_pos (by omega)])
    · exact CLe.eq (by rw [hI, if_pos (by omega)])
    rw [if_neg (by omega)] at hI
    refine LoopW.cl ?_
    refine LoopW.sub (int_loop w (by omega) hwd.1 neg (negL w 0) _ (fun v hv hv0 hv1 => ?_) (fun hv => ?_) w.length 0 0 (by omega) (by omega) (by omega) rfl) (by repeat (first | exact True.intro | refine And.intro (by first | exact VLe.refl _ | fail) ?_)) (by repeat (first | exact True.intro | refine And.intro (by decide) ?_))
    · rw [hv] at hI
      simp only [] at hI
      conv => whnf
      repeat' (first
       | ((first | with_reducible refine Br.dec (fun hb => ?_) (fun hb => ?_) | with_reducible refine Br.ndec (fun hb => ?_) (fun hb => ?_)) <;> (try dsimp only at hb) <;> (try simp only [ZZ] at hb) <;> (first | omega | (conv => whnf)))
       | ((first | with_reducible refine Br.tt rfl ?_ | with_reducible refine Br.ff rfl ?_ | with_reducible refine Br.ff (isEmptyCons _ _) ?_); conv => whnf)
       | (refine Side.mk ?_ ?_; (focus (first | omega | (dsimp only [InR]; omega) | (dsimp only [Int.reduceToNat, IntKind.bits, Int.reducePow, InR]; omega) | (simp [PV.cells, PV.leaf, byteP]; done) | (constructor <;> omega))); conv => whnf)
       | (refine Br.mk (fun hb => ?_) (fun hb => ?_) <;> (try dsimp only at hb) <;> (try simp only [ZZ] at hb) <;> (first | omega | (conv => whnf)))
       | ((first | refine Src.whole ⟨rfl, rfl⟩ ?_ | refine FrzV.whole ?_); conv => whnf))
      · exact CLe.eq (by rw [hI, if_pos hb])
      · rename_i h1
        exact CLe.eq (by rw [hI, if_neg (by rw [h1]; simp), if_pos hb])
      · rename_i h1
        exact CLe.eq (by rw [hI, if_neg (by rw [h1]; simp), if_neg hb, InR.wrap (by simp only [InR]; omega), Int.zero_sub])
    · rw [hv] at hI
      simp only [] at hI
      conv => whnf
      exact CLe.eq (by rw [hI])
end Go.Proofs.YtaoejccgdpppgaaGreatDoor
end

section
namespace Go.Am
open Go
def preB (s : Str) (p : UInt8) : Bool := decide (s.take 1 = [p])
def powD : Str → Int → Option Int
  | [], v => some v
  | b :: s, v => if 100000 < v * 10 + ((b.toNat : Int) - 48) then none else powD s (v * 10 + ((b.toNat : Int) - 48))
def powTail (less : Bool) (d : Str) : Int × Bool := if d.length = 0 ∨ runL d ≠ d.length then (0, false) else match powD d 0 with
  | none => (0, false)
  | some v => if less = true then (-v, true) else (v, true)
def decPow (s : Str) : Int × Bool := if preB s 45 = true then powTail true (s.drop 1) else if preB s 43 = true then powTail false (s.drop 1) else powTail false s
def trimL : Str → Str
  | [] => []
  | b :: s => if b = 48 then trimL s else b :: s
theorem runL_dig : ∀ {s : Str}, runL s = s.length → ∀ b ∈ s, dig b = true
  | [], _, b, hb => by cases hb
  | c :: s, h, b, hb => by
    rw [runL] at h
    split at h
    · rename_i hc
      rcases List.mem_cons.1 hb with rfl | hb
      · exact hc
      · exact runL_dig (by simpa using h) b hb
    · simp at h
end Go.Am
namespace Go.Am
def trimRn : Nat → Str → Str
  | 0, s => s
  | q + 1, s => if 0 < s.length ∧ s.getD (s.length - 1) 0 = 48 then trimRn q (s.take (s.length - 1)) else s
def trimR (s : Str) : Str := trimRn s.length s
theorem trimL_len : ∀ s : Str, (trimL s).length ≤ s.length
  | [] => Nat.le_refl _
  | b :: s => by rw [trimL]; split <;> simp; exact Nat.le_succ_of_le (trimL_len s)
abbrev Dnum := (Bool × Str × Int) × Bool
def noNum : Dnum := ((false, [], 0), false)
def decE (less : Bool) (w p : Str) (e : Int) : Dnum :=
  if (trimL (w ++ p)).length = 0 then ((false, [], 0), true) else ((less, trimR (trimL (w ++ p)), e + (((w.length : Int) - 1) - (((w ++ p).length : Int) - ((trimL (w ++ p)).length : Int)))), true)
def decD (less : Bool) (w p s : Str) : Dnum :=
  if s.length = 0 then decE less w p 0 else if b0 s ≠ 101 ∧ b0 s ≠ 69 then noNum else
  if (decPow (s.drop 1)).2 = false then noNum else decE less w p (decPow (s.drop 1)).1
def decC (less : Bool) (w s : Str) : Dnum :=
  if preB s 46 = true then (if runL (s.drop 1) = 0 then noNum else decD less w ((s.drop 1).take (runL (s.drop 1))) ((s.drop 1).drop (runL (s.drop 1)))) else decD less w [] s
def decB (less : Bool) (s : Str) : Dnum := if runL s = 0 ∨ (1 < runL s ∧ b0 s = 48) then noNum else decC less (s.take (runL s)) (s.drop (runL s))
def decParse (s : Str) : Dnum := if 400 < s.length then noNum else decB (preB s 45) (if preB s 45 = true then s.drop 1 else s)
theorem powD_bound : ∀ (s : Str) (v r : Int), (∀ b ∈ s, dig b = true) → 0 ≤ v → v ≤ 100000 → powD s v = some r → 0 ≤ r ∧ r ≤ 100000
  | [], v, r, _, h0, h1, h => by rw [powD] at h; cases h; exact ⟨h0, h1⟩
  | b :: s, v, r, hd, h0, h1, h => by
    rw [powD] at h
    split at h
    · cases h
    · have hb := hd b (by simp)
      unfold dig at hb
      rw [decide_eq_true_eq] at hb
      exact powD_bound s _ r (fun x hx => hd x (by simp [hx])) (by omega) (by omega) h
end Go.Am
namespace Go.Am
theorem decPow_bound (s : Str) : -100000 ≤ (decPow s).1 ∧ (decPow s).1 ≤ 100000 := by
  have h : ∀ less d, -100000 ≤ (powTail less d).1 ∧ (powTail less d).1 ≤ 100000 := by
    intro less d
    unfold powTail
    split
    · simp
    · rename_i hc
      split
      · simp
      · rename_i v hv
        have := powD_bound d 0 v (runL_dig (by omega)) (by omega) (by omega) hv
        split <;> (simp only []; omega)
  unfold decPow
  split
  · exact h _ _
  · split
    · exact h _ _
    · exact h _ _
end Go.Am
namespace Go.Am
theorem nf {b : Bool} (h : b = true) : ¬ b = false := by rw [h]; simp
theorem nt {b : Bool} (h : b = false) : ¬ b = true := by rw [h]; simp
end Go.Am
namespace Go.Am
def oddB (b : UInt8) : Bool := decide (b.toNat < 32 ∨ 126 < b.toNat)
def findI : Str → Int → Int
  | [], _ => -1
  | b :: s, i => if oddB b = true then i else findI s (i + 1)
theorem findI_neg : ∀ (s : Str) (i : Int), 0 ≤ i → (findI s i < 0 ↔ ∀ b ∈ s, 32 ≤ b.toNat ∧ b.toNat ≤ 126)
  | [], i, _ => by simp [findI]
  | b :: s, i, h => by
    rw [findI]
    split
    · rename_i hb
      unfold oddB at hb
      rw [decide_eq_true_eq] at hb
      refine ⟨fun e => by omega, fun e => by have := e b (by simp); omega⟩
    · rename_i hb
      unfold oddB at hb
      rw [decide_eq_true_eq] at hb
      rw [findI_neg s (i + 1) (by omega)]
      refine ⟨fun e x hx => ?_, fun e x hx => e x (by simp [hx])⟩
      rcases List.mem_cons.1 hx with rfl | hx
      · omega
      · exact e x hx
end Go.Am
end

section
namespace Go.Proofs.YtaoejccgdpppgaaGreatDoor
open Go Go.Am
set_option maxRecDepth 100000
theorem ElemA.byte {s : Str} {i : Nat} {K : PV → Prop} {b : UInt8} (h : s[i]? = some b) (k : K (byteP b)) : ElemA (s.map byteP) i K := ⟨_, by rw [List.getElem?_map, h]; rfl, k⟩
theorem sl_HasPrefix (s : Str) (p : UInt8) : AbsCall PP GG F.internal_stringslite_HasPrefix [.p (.str s), .p (.str [p])] [] ⟨.ret (.p (.bool (preB s p))), [], []⟩ := by
  have h1 : ([p] : Str).length = 1 := rfl
  refine absCall_of (pol := polG) mixP F.internal_stringslite_HasPrefix_is ?_
  conv => whnf
  repeat' (first
   | ((first | with_reducible refine Br.dec (fun hb => ?_) (fun hb => ?_) | with_reducible refine Br.ndec (fun hb => ?_) (fun hb => ?_)) <;> (try dsimp only at hb) <;> (try simp only [ZZ, h1] at hb) <;> (first | omega | (conv => whnf)))
   | ((first | with_reducible refine Br.tt rfl ?_ | with_reducible refine Br.ff rfl ?_ | with_reducible refine Br.ff (isEmptyCons _ _) ?_); conv => whnf)
   | (refine Side.mk ?_ ?_; (focus (first | omega | (dsimp only [InR]; omega) | (dsimp only [Int.reduceToNat, IntKind.bits, Int.reducePow, InR]; omega) | (simp only [h1]; omega) | (simp [PV.cells, PV.leaf, byteP]; done) | (constructor <;> omega))); conv => whnf)
   | (refine Br.mk (fun hb => ?_) (fun hb => ?_) <;> (try dsimp only at hb) <;> (try simp only [ZZ, h1] at hb) <;> (first | omega | (conv => whnf)))
   | ((first | refine Src.whole ⟨rfl, rfl⟩ ?_ | refine FrzV.whole ?_); conv => whnf))
  · exact CLe.eq rfl
  · exact CLe.retP (by unfold preB; rw [List.eq_nil_of_length_eq_zero (show s.length = 0 by omega)]; simp)
theorem strings_HasPrefix (s : Str) (p : UInt8) : AbsCall PP GG F.strings_HasPrefix [.p (.str s), .p (.str [p])] [] ⟨.ret (.p (.bool (preB s p))), [], []⟩ := by
  refine absCall_of (pol := polG) mixP F.strings_HasPrefix_is ?_
  conv => whnf
  repeat' (first
   | ((first | with_reducible refine Br.dec (fun hb => ?_) (fun hb => ?_) | with_reducible refine Br.ndec (fun hb => ?_) (fun hb => ?_)) <;> (try dsimp only at hb) <;> (try simp only [ZZ] at hb) <;> (first | omega | (conv => whnf)))
   | ((first | with_reducible refine Br.tt rfl ?_ | with_reducible refine Br.ff rfl ?_ | with_reducible refine Br.ff (isEmptyCons _ _) ?_); conv => whnf)
   | (refine Side.mk ?_ ?_; (focus (first | omega | (dsimp only [InR]; omega) | (dsimp only [Int.reduceToNat, IntKind.bits, Int.reducePow, InR]; omega) | (simp [PV.cells, PV.leaf, byteP]; done) | (constructor <;> omega))); conv => whnf)
   | (refine Br.mk (fun hb => ?_) (fun hb => ?_) <;> (try dsimp only at hb) <;> (try simp only [ZZ] at hb) <;> (first | omega | (conv => whnf)))
   | ((first | refine Src.whole ⟨rfl, rfl⟩ ?_ | refine FrzV.whole ?_); conv => whnf)
   | ((first | refine CallW.use (sl_HasPrefix s p) ?_); conv => whnf))
  exact CLe.eq rfl
theorem preB_len {s : Str} {p : UInt8} (h : preB s p = true) : 1 ≤ s.length := by
  unfold preB at h
  rw [decide_eq_true_eq] at h
  have := congrArg List.length h
  rw [List.length_take] at this
  simp only [List.length_cons, List.length_nil] at this
  omega
theorem sl_CutPrefix (s : Str) (p : UInt8) : AbsCall PP GG F.internal_stringslite_CutPrefix [.p (.str s), .p (.str [p])] [] ⟨.ret (.tup [.p (.str (if preB s p = true then s.drop 1 else s)), .p (.bool (preB s p))]), [], []⟩ := by
  have hl := @preB_len s p
  have h1 : ([p] : Str).length = 1 := rfl
  refine absCall_of (pol := polG) mixP F.internal_stringslite_CutPrefix_is ?_
  conv => whnf
  cases hp : preB s p with
  | true =>
    have hsp := sl_HasPrefix s p
    rw [hp] at hsp
    have := hl hp
    repeat' (first
     | ((first | with_reducible refine Br.dec (fun hb => ?_) (fun hb => ?_) | with_reducible refine Br.ndec (fun hb => ?_) (fun hb => ?_)) <;> (try dsimp only at hb) <;> (try simp only [ZZ] at hb) <;> (first | omega | (conv => whnf)))
     | ((first | with_reducible refine Br.tt rfl ?_ | with_reducible refine Br.ff rfl ?_ | with_reducible refine Br.ff (isEmptyCons _ _) ?_); conv => whnf)
     | (refine Side.mk ?_ ?_; (focus (first | omega | (dsimp only [InR]; omega) | (dsimp only [Int.reduceToNat, IntKind.bits, Int.reducePow, InR]; omega) | (simp only [h1]; omega) | (simp [PV.cells, PV.leaf, byteP]; done) | (constructor <;> omega))); conv => whnf)
     | (refine Br.mk (fun hb => ?_) (fun hb => ?_) <;> (try dsimp only at hb) <;> (try simp only [ZZ] at hb) <;> (first | omega | (conv => whnf)))
     | ((first | refine Src.whole ⟨rfl, rfl⟩ ?_ | refine FrzV.whole ?_); conv => whnf)
     | ((first | refine CallW.use (hsp) ?_); conv => whnf))
    exact CLe.eq rfl
  | false =>
    have hsp := sl_HasPrefix s p
    rw [hp] at hsp
    repeat' (first
     | ((first | with_reducible refine Br.dec (fun hb => ?_) (fun hb => ?_) | with_reducible refine Br.ndec (fun hb => ?_) (fun hb => ?_)) <;> (try dsimp only at hb) <;> (try simp only [ZZ] at hb) <;> (first | omega | (conv => whnf)))
     | ((first | with_reducible refine Br.tt rfl ?_ | with_reducible refine Br.ff rfl ?_ | with_reducible refine Br.ff (isEmptyCons _ _) ?_); conv => whnf)
     | (refine Side.mk ?_ ?_; (focus (first | omega | (dsimp only [InR]; omega) | (dsimp only [Int.reduceToNat, IntKind.bits, Int.reducePow, InR]; omega) | (simp [PV.cells, PV.leaf, byteP]; done) | (constructor <;> omega))); conv => whnf)
     | (refine Br.mk (fun hb => ?_) (fun hb => ?_) <;> (try dsimp only at hb) <;> (try simp only [ZZ] at hb) <;> (first | omega | (conv => whnf)))
     | ((first | refine Src.whole ⟨rfl, rfl⟩ ?_ | refine FrzV.whole ?_); conv => whnf)
     | ((first | refine CallW.use (hsp) ?_); conv => whnf))
    exact CLe.eq rfl
theorem strings_CutPrefix (s : Str) (p : UInt8) : AbsCall PP GG F.strings_CutPrefix [.p (.str s), .p (.str [p])] [] ⟨.ret (.tup [.p (.str (if preB s p = true then s.drop 1 else s)), .p (.bool (preB s p))]), [], []⟩ := by
  refine absCall_of (pol := polG) mixP F.strings_CutPrefix_is ?_
  conv => whnf
  repeat' (first
   | ((first | with_reducible refine Br.dec (fun hb => ?_) (fun hb => ?_) | with_reducible refine Br.ndec (fun hb => ?_) (fun hb => ?_)) <;> (try dsimp only at hb) <;> (try simp only [ZZ] at hb) <;> (first | omega | (conv => whnf)))
   | ((first | with_reducible refine Br.tt rfl ?_ | with_reducible refine Br.ff rfl ?_ | with_reducible refine Br.ff (isEmptyCons _ _) ?_); conv => whnf)
   | (refine Side.mk ?_ ?_; (focus (first | omega | (dsimp only [InR]; omega) | (dsimp only [Int.reduceToNat, IntKind.bits, Int.reducePow, InR]; omega) | (simp [PV.cells, PV.leaf, byteP]; done) | (constructor <;> omega))); conv => whnf)
   | (refine Br.mk (fun hb => ?_) (fun hb => ?_) <;> (try dsimp only at hb) <;> (try simp only [ZZ] at hb) <;> (first | omega | (conv => whnf)))
   | ((first | refine Src.whole ⟨rfl, rfl⟩ ?_ | refine FrzV.whole ?_); conv => whnf)
   | ((first | refine CallW.use (sl_CutPrefix s p) ?_); conv => whnf))
  exact CLe.eq rfl
theorem digits_loop (s : Str) (hs : s.length ≤ 1073741824) (K : Post) (h0 : K (.exit 0) [(3, .p (.int .i64 (runL s)))] [] []) :
    ∀ (q i : Nat), i + q = s.length → i + runL (s.drop i) = runL s →
      LoopW PP GG 23 0 (loopN F.dec_digits_c 0) [(0, .p (.str s)), (3, .p (.int .i64 i))] [] [] (PostCl 23 K) := by
  intro q
  induction q with
  | zero =>
    intro i hi hR
    rw [List.drop_eq_nil_of_le (by omega), runL, Nat.add_zero] at hR
    subst hR
    refine LoopW.round (pol := polG) mixP ?_
    conv => whnf
    repeat' (first
     | ((first | with_reducible refine Br.dec (fun hb => ?_) (fun hb => ?_) | with_reducible refine Br.ndec (fun hb => ?_) (fun hb => ?_)) <;> (try dsimp only at hb) <;> (try simp only [ZZ] at hb) <;> (first | omega | (conv => whnf)))
     | ((first | with_reducible refine Br.tt rfl ?_ | with_reducible refine Br.ff rfl ?_ | with_reducible refine Br.ff (isEmptyCons _ _) ?_); conv => whnf)
     | (refine Side.mk ?_ ?_; (focus (first | omega | (dsimp only [InR]; omega) | (dsimp only [Int.reduceToNat, IntKind.bits, Int.reducePow, InR]; omega) | (simp [PV.cells, PV.leaf, byteP]; done) | (constructor <;> omega))); conv => whnf)
     | (refine Br.mk (fun hb => ?_) (fun hb => ?_) <;> (try dsimp only at hb) <;> (try simp only [ZZ] at hb) <;> (first | omega | (conv => whnf)))
     | ((first | refine Src.whole ⟨rfl, rfl⟩ ?_ | refine FrzV.whole ?_); conv => whnf))
    · refine PostCl.of (h0) ?_ ?_
      · repeat (first | exact True.intro | refine And.intro (by first | exact VLe.refl _ | fail) ?_)
      · repeat (first | exact True.intro | refine And.intro (by decide) ?_)
  | succ q ih =>
    intro i hi hR
    obtain ⟨b, hb⟩ : ∃ b, s[i]? = some b := ⟨_, List.getElem?_eq_getElem (show i < s.length by omega)⟩
    have hg : s.getD (Int.toNat ↑i) 0 = b := getD_of (by simpa using hb)
    have hd : dig b = decide (48 ≤ b.toNat ∧ b.toNat ≤ 57) := rfl
    rw [drop_cons hb, runL] at hR
    refine LoopW.round (pol := polG) mixP ?_
    conv => whnf
    repeat' (first
     | ((first | with_reducible refine Br.dec (fun hb => ?_) (fun hb => ?_) | with_reducible refine Br.ndec (fun hb => ?_) (fun hb => ?_)) <;> (try dsimp only at hb) <;> (try simp only [ZZ, hg] at hb) <;> (first | omega | (conv => whnf)))
     | ((first | with_reducible refine Br.tt rfl ?_ | with_reducible refine Br.ff rfl ?_ | with_reducible refine Br.ff (isEmptyCons _ _) ?_); conv => whnf)
     | (refine Side.mk ?_ ?_; (focus (first | omega | (dsimp only [InR]; omega) | (dsimp only [Int.reduceToNat, IntKind.bits, Int.reducePow, InR]; omega) | (simp [PV.cells, PV.leaf, byteP]; done) | (constructor <;> omega))); conv => whnf)
     | (refine Br.mk (fun hb => ?_) (fun hb => ?_) <;> (try dsimp only at hb) <;> (try simp only [ZZ, hg] at hb) <;> (first | omega | (conv => whnf)))
     | ((first | refine Src.whole ⟨rfl, rfl⟩ ?_ | refine FrzV.whole ?_); conv => whnf))
    all_goals
      first
      | (rw [if_pos (by rw [hd, decide_eq_true_eq]; omega)] at hR; refine LoopW.sub (ih (i + 1) (by omega) (by omega)) (by repeat (first | exact True.intro | refine And.intro (by first | exact VLe.refl _ | fail) ?_)) (by repeat (first | exact True.intro | refine And.intro (by decide) ?_)))
      | (rw [if_neg (by rw [hd, decide_eq_true_eq]; omega), Nat.add_zero] at hR; subst hR; refine PostCl.of (h0) (by repeat (first | exact True.intro | refine And.intro (by first | exact VLe.refl _ | fail) ?_)) (by repeat (first | exact True.intro | refine And.intro (by decide) ?_)))
theorem dec_digits (s : Str) (hs : s.length ≤ 1073741824) : AbsCall PP GG F.dec_digits [.p (.str s)] [] ⟨.ret (.p (.int .i64 (runL s))), [], []⟩ := by
  refine absCall_of (pol := polG) mixP F.dec_digits_is ?_
  conv => whnf
  refine LoopW.cl ?_
  refine LoopW.sub (digits_loop s hs _ ?_ s.length 0 (by omega) (by simp)) (by repeat (first | exact True.intro | refine And.intro (by first | exact VLe.refl _ | fail) ?_)) (by repeat (first | exact True.intro | refine And.intro (by decide) ?_))
  conv => whnf
  exact CLe.eq rfl
theorem trimL_loop (K : Post) (s0 : Str) (h0 : K (.exit 0) [(0, .p (.str (trimL s0)))] [] []) : ∀ (s : Str), s.length ≤ 1073741824 → trimL s = trimL s0 →
      LoopW PP GG 17 0 (loopN F.strings_trimLeftByte_c 0) [(0, .p (.str s)), (1, .p (byteP 48))] [] [] (PostCl 17 K) := by
  intro s
  induction s with
  | nil =>
    intro hs hR
    refine LoopW.round (pol := polG) mixP ?_
    conv => whnf
    repeat' (first
     | ((first | with_reducible refine Br.dec (fun hb => ?_) (fun hb => ?_) | with_reducible refine Br.ndec (fun hb => ?_) (fun hb => ?_)) <;> (try dsimp only at hb) <;> (try simp only [ZZ, List.length_nil] at hb) <;> (first | omega | (conv => whnf)))
     | ((first | with_reducible refine Br.tt rfl ?_ | with_reducible refine Br.ff rfl ?_ | with_reducible refine Br.ff (isEmptyCons _ _) ?_); conv => whnf)
     | (refine Side.mk ?_ ?_; (focus (first | omega | (dsimp only [InR]; omega) | (dsimp only [Int.reduceToNat, IntKind.bits, Int.reducePow, InR]; omega) | (simp [PV.cells, PV.leaf, byteP]; done) | (constructor <;> omega))); conv => whnf)
     | (refine Br.mk (fun hb => ?_) (fun hb => ?_) <;> (try dsimp only at hb) <;> (try simp only [ZZ, List.length_nil] at hb) <;> (first | omega | (conv => whnf)))
     | ((first | refine Src.whole ⟨rfl, rfl⟩ ?_ | refine FrzV.whole ?_); conv => whnf))
    rw [← hR] at h0
    · refine PostCl.of (h0) ?_ ?_
      · repeat (first | exact True.intro | refine And.intro (by first | exact VLe.refl _ | fail) ?_)
      · repeat (first | exact True.intro | refine And.intro (by decide) ?_)
  | cons b s ih =>
    intro hs hR
    have hl : (b :: s).length = s.length + 1 := rfl
    rw [trimL] at hR
    have hg : (b :: s).getD (Int.toNat 0) 0 = b := rfl
    refine LoopW.round (pol := polG) mixP ?_
    conv => whnf
    repeat' (first
     | ((first | with_reducible refine Br.dec (fun hb => ?_) (fun hb => ?_) | with_reducible refine Br.ndec (fun hb => ?_) (fun hb => ?_)) <;> (try dsimp only at hb) <;> (try simp only [ZZ, hg] at hb) <;> (first | omega | (conv => whnf)))
     | ((first | with_reducible refine Br.tt rfl ?_ | with_reducible refine Br.ff rfl ?_ | with_reducible refine Br.ff (isEmptyCons _ _) ?_); conv => whnf)
     | (refine Side.mk ?_ ?_; (focus (first | omega | (dsimp only [InR]; omega) | (dsimp only [Int.reduceToNat, IntKind.bits, Int.reducePow, InR]; omega) | (simp [PV.cells, PV.leaf, byteP]; done) | (constructor <;> omega))); conv => whnf)
     | (refine Br.mk (fun hb => ?_) (fun hb => ?_) <;> (try dsimp only at hb) <;> (try simp only [ZZ, hg] at hb) <;> (first | omega | (conv => whnf)))
     | ((first | refine Src.whole ⟨rfl, rfl⟩ ?_ | refine FrzV.whole ?_); conv => whnf))
    · rw [if_pos (UInt8.toNat_inj.1 (by omega))] at hR
      refine LoopW.sub (ih (by omega) hR) (by repeat (first | exact True.intro | refine And.intro (by first | exact VLe.refl _ | fail) ?_)) (by repeat (first | exact True.intro | refine And.intro (by decide) ?_))
    · rw [if_neg (fun e => hb (by rw [e]))] at hR
      rw [← hR] at h0
      refine PostCl.of (h0) ?_ ?_
      · repeat (first | exact True.intro | refine And.intro (by first | exact VLe.refl _ | fail) ?_)
      · repeat (first | exact True.intro | refine And.intro (by decide) ?_)
theorem strings_trimLeftByte (s : Str) (hs : s.length ≤ 1073741824) : AbsCall PP GG F.strings_trimLeftByte [.p (.str s), .p (byteP 48)] [] ⟨.ret (.p (.str (trimL s))), [], []⟩ := by
  refine absCall_of (pol := polG) mixP F.strings_trimLeftByte_is ?_
  conv => whnf
  refine LoopW.cl ?_
  refine LoopW.sub (trimL_loop _ s ?_ s hs rfl) (by repeat (first | exact True.intro | refine And.intro (by first | exact VLe.refl _ | fail) ?_)) (by repeat (first | exact True.intro | refine And.intro (by decide) ?_))
  conv => whnf
  exact CLe.eq rfl
theorem strings_TrimLeft (s : Str) (hs : s.length ≤ 1073741824) : AbsCall PP GG F.strings_TrimLeft [.p (.str s), .p (.str [48])] [] ⟨.ret (.p (.str (trimL s))), [], []⟩ := by
  have h1 : ([48] : Str).length = 1 := rfl
  have hg : ([48] : Str).getD (Int.toNat 0) 0 = 48 := rfl
  refine absCall_of (pol := polG) mixP F.strings_TrimLeft_is ?_
  conv => whnf
  repeat' (first
   | ((first | with_reducible refine Br.dec (fun hb => ?_) (fun hb => ?_) | with_reducible refine Br.ndec (fun hb => ?_) (fun hb => ?_)) <;> (try dsimp only at hb) <;> (try simp only [ZZ, h1, hg] at hb) <;> (first | omega | (conv => whnf)))
   | ((first | with_reducible refine Br.tt rfl ?_ | with_reducible refine Br.ff rfl ?_ | with_reducible refine Br.ff (isEmptyCons _ _) ?_); conv => whnf)
   | (refine Side.mk ?_ ?_; (focus (first | omega | (dsimp only [InR]; omega) | (dsimp only [Int.reduceToNat, IntKind.bits, Int.reducePow, InR]; omega) | (simp [PV.cells, PV.leaf, byteP]; done) | (constructor <;> omega))); conv => whnf)
   | (refine Br.mk (fun hb => ?_) (fun hb => ?_) <;> (try dsimp only at hb) <;> (try simp only [ZZ, h1, hg] at hb) <;> (first | omega | (conv => whnf)))
   | ((first | refine Src.whole ⟨rfl, rfl⟩ ?_ | refine FrzV.whole ?_); conv => whnf)
   | ((first | refine CallW.use (strings_trimLeftByte s hs) ?_); conv => whnf))
  · exact CLe.retP (by rw [List.eq_nil_of_length_eq_zero hb]; rfl)
  · exact CLe.eq rfl
  · exact absurd (by decide) hb
theorem trimR_loop (K : Post) (R : Str) (h0 : K (.exit 0) [(0, .p (.str R))] [] []) : ∀ (q : Nat) (s : Str), s.length ≤ q → s.length ≤ 1073741824 → trimRn q s = R →
      LoopW PP GG 23 0 (loopN F.strings_trimRightByte_c 0) [(0, .p (.str s)), (1, .p (byteP 48))] [] [] (PostCl 23 K) := by
  intro q
  induction q with
  | zero =>
    intro s hq hs hR
    rw [trimRn] at hR
    subst hR
    refine LoopW.round (pol := polG) mixP ?_
    conv => whnf
    repeat' (first
     | ((first | with_reducible refine Br.dec (fun hb => ?_) (fun hb => ?_) | with_reducible refine Br.ndec (fun hb => ?_) (fun hb => ?_)) <;> (try dsimp only at hb) <;> (try simp only [ZZ] at hb) <;> (first | omega | (conv => whnf)))
     | ((first | with_reducible refine Br.tt rfl ?_ | with_reducible refine Br.ff rfl ?_ | with_reducible refine Br.ff (isEmptyCons _ _) ?_); conv => whnf)
     | (refine Side.mk ?_ ?_; (focus (first | omega | (dsimp only [InR]; omega) | (dsimp only [Int.reduceToNat, IntKind.bits, Int.reducePow, InR]; omega) | (simp [PV.cells, PV.leaf, byteP]; done) | (constructor <;> omega))); conv => whnf)
     | (refine Br.mk (fun hb => ?_) (fun hb => ?_) <;> (try dsimp only at hb) <;> (try simp only [ZZ] at hb) <;> (first | omega | (conv => whnf)))
     | ((first | refine Src.whole ⟨rfl, rfl⟩ ?_ | refine FrzV.whole ?_); conv => whnf))
    · refine PostCl.of (h0) ?_ ?_
      · repeat (first | exact True.intro | refine And.intro (by first | exact VLe.refl _ | fail) ?_)
      · repeat (first | exact True.intro | refine And.intro (by decide) ?_)
  | succ q ih =>
    intro s hq hs hR
    rw [trimRn] at hR
    have hl : (s.take (s.length - 1)).length = s.length - 1 := by rw [List.length_take]; omega
    have e1 : ((s.length : Int) - 1).toNat = s.length - 1 := by omega
    refine LoopW.round (pol := polG) mixP ?_
    conv => whnf
    repeat' (first
     | ((first | with_reducible refine Br.dec (fun hb => ?_) (fun hb => ?_) | with_reducible refine Br.ndec (fun hb => ?_) (fun hb => ?_)) <;> (try dsimp only at hb) <;> (try simp only [ZZ, e1] at hb) <;> (first | omega | (conv => whnf)))
     | ((first | with_reducible refine Br.tt rfl ?_ | with_reducible refine Br.ff rfl ?_ | with_reducible refine Br.ff (isEmptyCons _ _) ?_); conv => whnf)
     | (refine Side.mk ?_ ?_; (focus (first | omega | (dsimp only [InR]; omega) | (dsimp only [Int.reduceToNat, IntKind.bits, Int.reducePow, InR]; omega) | (simp [PV.cells, PV.leaf, byteP]; done) | (constructor <;> omega))); conv => whnf)
     | (refine Br.mk (fun hb => ?_) (fun hb => ?_) <;> (try dsimp only at hb) <;> (try simp only [ZZ, e1] at hb) <;> (first | omega | (conv => whnf)))
     | ((first | refine Src.whole ⟨rfl, rfl⟩ ?_ | refine FrzV.whole ?_); conv => whnf))
    · rw [if_pos ⟨by omega, UInt8.toNat_inj.1 (by omega)⟩] at hR
      rw [e1]
      refine LoopW.sub (ih (s.take (s.length - 1)) (by omega) (by omega) hR) (by repeat (first | exact True.intro | refine And.intro (by first | exact VLe.refl _ | fail) ?_)) (by repeat (first | exact True.intro | refine And.intro (by decide) ?_))
    · rw [if_neg (fun e => hb (by rw [e.2]))] at hR
      subst hR
      refine PostCl.of (h0) ?_ ?_
      · repeat (first | exact True.intro | refine And.intro (by first | exact VLe.refl _ | fail) ?_)
      · repeat (first | exact True.intro | refine And.intro (by decide) ?_)
    · rw [if_neg (fun e => by omega)] at hR
      subst hR
      refine PostCl.of (h0) ?_ ?_
      · repeat (first | exact True.intro | refine And.intro (by first | exact VLe.refl _ | fail) ?_)
      · repeat (first | exact True.intro | refine And.intro (by decide) ?_)
theorem strings_trimRightByte (s : Str) (hs : s.length ≤ 1073741824) : AbsCall PP GG F.strings_trimRightByte [.p (.str s), .p (byteP 48)] [] ⟨.ret (.p (.str (trimR s))), [], []⟩ := by
  refine absCall_of (pol := polG) mixP F.strings_trimRightByte_is ?_
  conv => whnf
  refine LoopW.cl ?_
  refine LoopW.sub (trimR_loop _ (trimR s) ?_ s.length s (by omega) hs rfl) (by repeat (first | exact True.intro | refine And.intro (by first | exact VLe.refl _ | fail) ?_)) (by repeat (first | exact True.intro | refine And.intro (by decide) ?_))
  conv => whnf
  exact CLe.eq rfl
theorem strings_TrimRight (s : Str) (hs : s.length ≤ 1073741824) : AbsCall PP GG F.strings_TrimRight [.p (.str s), .p (.str [48])] [] ⟨.ret (.p (.str (trimR s))), [], []⟩ := by
  have h1 : ([48] : Str).length = 1 := rfl
  have hg : ([48] : Str).getD (Int.toNat 0) 0 = 48 := rfl
  refine absCall_of (pol := polG) mixP F.strings_TrimRight_is ?_
  conv => whnf
  repeat' (first
   | ((first | with_reducible refine Br.dec (fun hb => ?_) (fun hb => ?_) | with_reducible refine Br.ndec (fun hb => ?_) (fun hb => ?_)) <;> (try dsimp only at hb) <;> (try simp only [ZZ, h1, hg] at hb) <;> (first | omega | (conv => whnf)))
   | ((first | with_reducible refine Br.tt rfl ?_ | with_reducible refine Br.ff rfl ?_ | with_reducible refine Br.ff (isEmptyCons _ _) ?_); conv => whnf)
   | (refine Side.mk ?_ ?_; (focus (first | omega | (dsimp only [InR]; omega) | (dsimp only [Int.reduceToNat, IntKind.bits, Int.reducePow, InR]; omega) | (simp [PV.cells, PV.leaf, byteP]; done) | (constructor <;> omega))); conv => whnf)
   | (refine Br.mk (fun hb => ?_) (fun hb => ?_) <;> (try dsimp only at hb) <;> (try simp only [ZZ, h1, hg] at hb) <;> (first | omega | (conv => whnf)))
   | ((first | refine Src.whole ⟨rfl, rfl⟩ ?_ | refine FrzV.whole ?_); conv => whnf)
   | ((first | refine CallW.use (strings_trimRightByte s hs) ?_); conv => whnf))
  · exact CLe.retP (by rw [List.eq_nil_of_length_eq_zero hb]; rfl)
  · exact CLe.eq rfl
  · exact absurd (by decide) hb
theorem dpow_loop (s : Str) (hs : s.length ≤ 1073741824) (hd : ∀ b ∈ s, dig b = true) (less : Bool) (R : Option Int) (K : Post)
    (h0 : ∀ v : Int, R = some v → 0 ≤ v → v ≤ 100000 → K (.exit 0) [(4, .p (.bool less)), (5, .p (.int .i64 v))] [.arr T.uint8 1 (s.map byteP)] [])
    (hr : R = none → K .ret [(2, .p (.int .i64 0)), (3, .p (.bool false))] [.arr T.uint8 1 (s.map byteP)] []) :
    ∀ (q i : Nat) (v : Int), i + q = s.length → 0 ≤ v → v ≤ 100000 → powD (s.drop i) v = R →
      LoopW PP GG 46 0 (loopN F.dec_power_c 0) [(4, .p (.bool less)), (5, .p (.int .i64 v)), (27, .sl 0 0 (s.map byteP).length), (28, .p (.int .i64 (s.map byteP).length)), (29, .p (.int .i64 i))] [.arr T.uint8 1 (s.map byteP)] [] (PostCl 46 K) := by
  have hl : (s.map byteP).length = s.length := by simp
  intro q
  induction q with
  | zero =>
    intro i v hi hv0 hv1 hR
    rw [List.drop_eq_nil_of_le (by omega), powD] at hR
    refine LoopW.round (pol := polG) mixP ?_
    conv => whnf
    repeat' (first
     | ((first | with_reducible refine Br.dec (fun hb => ?_) (fun hb => ?_) | with_reducible refine Br.ndec (fun hb => ?_) (fun hb => ?_)) <;> (try dsimp only at hb) <;> (try simp only [ZZ, hl] at hb) <;> (first | omega | (conv => whnf)))
     | ((first | with_reducible refine Br.tt rfl ?_ | with_reducible refine Br.ff rfl ?_ | with_reducible refine Br.ff (isEmptyCons _ _) ?_); conv => whnf)
     | (refine Side.mk ?_ ?_; (focus (first | omega | (dsimp only [InR]; omega) | (dsimp only [Int.reduceToNat, IntKind.bits, Int.reducePow, InR]; omega) | (simp [PV.cells, PV.leaf, byteP]; done) | (constructor <;> omega))); conv => whnf)
     | (refine Br.mk (fun hb => ?_) (fun hb => ?_) <;> (try dsimp only at hb) <;> (try simp only [ZZ, hl] at hb) <;> (first | omega | (conv => whnf)))
     | ((first | refine Src.whole ⟨rfl, rfl⟩ ?_ | refine FrzV.whole ?_); conv => whnf))
    · refine PostCl.of (h0 v hR.symm hv0 hv1) ?_ ?_
      · repeat (first | exact True.intro | refine And.intro (by first | exact VLe.refl _ | fail) ?_)
      · repeat (first | exact True.intro | refine And.intro (by decide) ?_)
  | succ q ih =>
    intro i v hi hv0 hv1 hR
    obtain ⟨b, hbx⟩ : ∃ b, s[i]? = some b := ⟨_, List.getElem?_eq_getElem (show i < s.length by omega)⟩
    have hdb := hd b (List.mem_of_getElem? hbx)
    unfold dig at hdb
    rw [decide_eq_true_eq] at hdb
    rw [drop_cons hbx, powD] at hR
    refine LoopW.round (pol := polG) mixP ?_
    conv => whnf
    repeat' (first
     | ((first | with_reducible refine Br.dec (fun hb => ?_) (fun hb => ?_) | with_reducible refine Br.ndec (fun hb => ?_) (fun hb => ?_)) <;> (try dsimp only at hb) <;> (try simp only [ZZ, hl] at hb) <;> (first | omega | (conv => whnf)))
     | ((first | with_reducible refine Br.tt rfl ?_ | with_reducible refine Br.ff rfl ?_ | with_reducible refine Br.ff (isEmptyCons _ _) ?_); conv => whnf)
     | (refine Side.mk ?_ ?_; (focus (first | omega | (dsimp only [InR]; omega) | (dsimp only [Int.reduceToNat, IntKind.bits, Int.reducePow, InR]; omega) | exact ⟨rfl, rfl⟩ | (simp [PV.cells, PV.leaf, byteP]; done) | (constructor <;> omega))); conv => whnf)
     | (refine Br.mk (fun hb => ?_) (fun hb => ?_) <;> (try dsimp only at hb) <;> (try simp only [ZZ, hl] at hb) <;> (first | omega | (conv => whnf)))
     | ((first | refine Src.whole ⟨rfl, rfl⟩ ?_ | refine FrzV.whole ?_); conv => whnf)
     | (refine ElemA.byte (b := b) (by simpa [plus0] using hbx) ?_; conv => whnf))
    · rw [if_pos (by omega)] at hR
      refine PostCl.of (hr hR.symm) ?_ ?_
      · repeat (first | exact True.intro | refine And.intro (by first | exact VLe.refl _ | fail) ?_)
      · repeat (first | exact True.intro | refine And.intro (by decide) ?_)
    · rw [if_neg (by omega)] at hR
      refine LoopW.sub (ih (i + 1) _ (by omega) (by omega) (by omega) hR) (by repeat (first | exact True.intro | refine And.intro (by first | exact VLe.refl _ | fail) ?_)) (by repeat (first | exact True.intro | refine And.intro (by decide) ?_))
theorem dpow_4 (less : Bool) (s : Str) (hs : s.length ≤ 1073741824) (R : Int × Bool) (K : Post) (hR : powTail less s = R)
    (h0 : K .ret [(2, .p (.int .i64 R.1)), (3, .p (.bool R.2))] [] [])
    (h1 : K .ret [(2, .p (.int .i64 R.1)), (3, .p (.bool R.2))] [.arr T.uint8 1 (s.map byteP)] []) :
    CutW PP GG 46 0 (tailN F.dec_power_c 4) [(0, .p (.str s)), (4, .p (.bool less))] [] [] (PostCl 46 K) := by
  have hl : (s.map byteP).length = s.length := by simp
  have hr := runL_le s
  unfold powTail at hR
  refine CutW.go (pol := polC []) mixP ?_
  conv => whnf
  repeat' (first
   | ((first | with_reducible refine Br.dec (fun hb => ?_) (fun hb => ?_) | with_reducible refine Br.ndec (fun hb => ?_) (fun hb => ?_)) <;> (try dsimp only at hb) <;> (try simp only [ZZ, hl] at hb) <;> (first | omega | (conv => whnf)))
   | ((first | with_reducible refine Br.tt rfl ?_ | with_reducible refine Br.ff rfl ?_ | with_reducible refine Br.ff (isEmptyCons _ _) ?_); conv => whnf)
   | (refine Side.mk ?_ ?_; (focus (first | omega | (dsimp only [InR]; omega) | (dsimp only [Int.reduceToNat, IntKind.bits, Int.reducePow, InR]; omega) | (simp only [hl]; omega) | (simp [PV.cells, PV.leaf, byteP]; done) | (constructor <;> omega))); conv => whnf)
   | (refine Br.mk (fun hb => ?_) (fun hb => ?_) <;> (try dsimp only at hb) <;> (try simp only [ZZ, hl] at hb) <;> (first | omega | (conv => whnf)))
   | ((first | refine Src.whole ⟨rfl, rfl⟩ ?_ | refine FrzV.whole ?_); conv => whnf)
   | ((first | refine CallW.use (dec_digits s hs) ?_); conv => whnf))
  · rw [if_pos (by omega)] at hR
    subst hR
    refine PostCl.of (h0) ?_ ?_
    · repeat (first | exact True.intro | refine And.intro (by first | exact VLe.refl _ | fail) ?_)
    · repeat (first | exact True.intro | refine And.intro (by decide) ?_)
  · rw [if_pos (by omega)] at hR
    subst hR
    refine PostCl.of (h0) ?_ ?_
    · repeat (first | exact True.intro | refine And.intro (by first | exact VLe.refl _ | fail) ?_)
    · repeat (first | exact True.intro | refine And.intro (by decide) ?_)
  · rw [if_neg (by omega)] at hR
    refine LoopW.cl ?_
    refine LoopW.sub (dpow_loop s hs (runL_dig (by omega)) less (powD s 0) _ (fun v hv hv0 hv1 => ?_) (fun hv => ?_) s.length 0 0 (by omega) (by omega) (by omega) rfl) (by repeat (first | exact True.intro | refine And.intro (by first | exact VLe.refl _ | fail) ?_)) (by repeat (first | exact True.intro | refine And.intro (by decide) ?_))
    · rw [hv] at hR
      simp only [] at hR
      conv => whnf
      repeat' (first
       | ((first | with_reducible refine Br.dec (fun hb => ?_) (fun hb => ?_) | with_reducible refine Br.ndec (fun hb => ?_) (fun hb => ?_)) <;> (try dsimp only at hb) <;> (try simp only [ZZ] at hb) <;> (first | omega | (conv => whnf)))
       | ((first | with_reducible refine Br.tt rfl ?_ | with_reducible refine Br.ff rfl ?_ | with_reducible refine Br.ff (isEmptyCons _ _) ?_); conv => whnf)
       | (refine Side.mk ?_ ?_; (focus (first | omega | (dsimp only [InR]; omega) | (dsimp only [Int.reduceToNat, IntKind.bits, Int.reducePow, InR]; omega) | (simp [PV.cells, PV.leaf, byteP]; done) | (constructor <;> omega))); conv => whnf)
       | (refine Br.mk (fun hb => ?_) (fun hb => ?_) <;> (try dsimp only at hb) <;> (try simp only [ZZ] at hb) <;> (first | omega | (conv => whnf)))
       | ((first | refine Src.whole ⟨rfl, rfl⟩ ?_ | refine FrzV.whole ?_); conv => whnf))
      · rw [if_pos (by assumption)] at hR
        subst hR
        rw [InR.wrap (by simp only [InR]; omega), Int.zero_sub]
        refine PostCl.of (h1) ?_ ?_
        · repeat (first | exact True.intro | refine And.intro (by first | exact VLe.refl _ | fail) ?_)
        · repeat (first | exact True.intro | refine And.intro (by decide) ?_)
      · rw [if_neg (by simp [*])] at hR
        subst hR
        refine PostCl.of (h1) ?_ ?_
        · repeat (first | exact True.intro | refine And.intro (by first | exact VLe.refl _ | fail) ?_)
        · repeat (first | exact True.intro | refine And.intro (by decide) ?_)
    · rw [hv] at hR
      subst hR
      conv => whnf
      refine PostCl.of (h1) ?_ ?_
      · repeat (first | exact True.intro | refine And.intro (by first | exact VLe.refl _ | fail) ?_)
      · repeat (first | exact True.intro | refine And.intro (by decide) ?_)
theorem dec_power (s : Str) (hs : s.length ≤ 1073741824) : AbsCall PP GG F.dec_power [.p (.str s)] [] ⟨.ret (.tup [.p (.int .i64 (decPow s).1), .p (.bool (decPow s).2)]), [], []⟩ := by
  have hl1 : (s.drop 1).length = s.length - 1 := List.length_drop
  have hD : decPow s = if preB s 45 = true then powTail true (s.drop 1) else if preB s 43 = true then powTail false (s.drop 1) else powTail false s := rfl
  refine absCall_of (pol := polC [4]) mixP F.dec_power_is ?_
  conv => whnf
  repeat' (first
   | ((first | with_reducible refine Br.dec (fun hb => ?_) (fun hb => ?_) | with_reducible refine Br.ndec (fun hb => ?_) (fun hb => ?_)) <;> (try dsimp only at hb) <;> (try simp only [ZZ] at hb) <;> (first | omega | (conv => whnf)))
   | ((first | with_reducible refine Br.tt rfl ?_ | with_reducible refine Br.ff rfl ?_ | with_reducible refine Br.ff (isEmptyCons _ _) ?_); conv => whnf)
   | (refine Side.mk ?_ ?_; (focus (first | omega | (dsimp only [InR]; omega) | (dsimp only [Int.reduceToNat, IntKind.bits, Int.reducePow, InR]; omega) | exact ⟨by decide, by have := preB_len (by assumption); omega⟩ | (simp [PV.cells, PV.leaf, byteP]; done) | (constructor <;> omega))); conv => whnf)
   | (refine Br.mk (fun hb => ?_) (fun hb => ?_) <;> (try dsimp only at hb) <;> (try simp only [ZZ] at hb) <;> (first | omega | (conv => whnf)))
   | ((first | refine Src.whole ⟨rfl, rfl⟩ ?_ | refine FrzV.whole ?_); conv => whnf)
   | ((first | refine CallW.use (strings_HasPrefix s 45) ?_ | refine CallW.use (strings_HasPrefix s 43) ?_); conv => whnf))
  all_goals refine CutW.cl ?_
  · refine CutW.sub (dpow_4 (preB s 45) (s.drop 1) (by omega) (decPow s) _ (by rw [hD, if_pos hb, hb]) ?_ ?_) (by repeat (first | exact True.intro | refine And.intro (by first | exact VLe.refl _ | fail) ?_)) (by repeat (first | exact True.intro | refine And.intro (by decide) ?_))
    · conv => whnf
      exact CLe.eq rfl
    · conv => whnf
      exact CLe.eq rfl
  · rename_i h45
    refine CutW.sub (dpow_4 (preB s 45) (s.drop 1) (by omega) (decPow s) _ (by rw [hD, if_neg (by rw [h45]; simp), if_pos hb, h45]) ?_ ?_) (by repeat (first | exact True.intro | refine And.intro (by first | exact VLe.refl _ | fail) ?_)) (by repeat (first | exact True.intro | refine And.intro (by decide) ?_))
    · conv => whnf
      exact CLe.eq rfl
    · conv => whnf
      exact CLe.eq rfl
  · rename_i h45
    refine CutW.sub (dpow_4 (preB s 45) s (by omega) (decPow s) _ (by rw [hD, if_neg (by rw [h45]; simp), if_neg (by rw [hb]; simp), h45]) ?_ ?_) (by repeat (first | exact True.intro | refine And.intro (by first | exact VLe.refl _ | fail) ?_)) (by repeat (first | exact True.intro | refine And.intro (by decide) ?_))
    · conv => whnf
      exact CLe.eq rfl
    · conv => whnf
      exact CLe.eq rfl
end Go.Proofs.YtaoejccgdpppgaaGreatDoor
end
