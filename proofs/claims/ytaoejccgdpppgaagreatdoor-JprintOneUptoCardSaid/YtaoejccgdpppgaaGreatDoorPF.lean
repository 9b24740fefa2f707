/-
The walks through package utf.
-/
import Derived.Test.YtaoejccgdpppgaaGreatDoorPE
import Derived.Shelf.Strings.IndexAnyAll
import Derived.Shelf.Strconv.ParseInt10At64
import Derived.Test.YtaoejccgdpppgaaGreatDoorProg
import Derived.Lib.AtoiErrMem
import Derived.Shelf.Strconv.ParseIntPublic10

section
namespace Go.Proofs.YtaoejccgdpppgaaGreatDoor
open Go Go.Am
set_option maxRecDepth 100000
theorem utf_size (r : Int) : AbsCall PP GG F.utf_size [.p (.int .i64 r)] [] ⟨.ret (.p (.int .i64 (utfSize r))), [], []⟩ := by
  refine absCall_of (pol := polG) mixP F.utf_size_is ?_
  conv => whnf
  repeat' ((first
   | ((with_reducible first | refine Br.dec ?_ ?_ | refine Br.ndec ?_ ?_) <;> intro hb <;> (try simp only [ZZ] at hb) <;> (first | omega | skip))
   | (with_reducible first | refine Br.tt rfl ?_ | refine Br.ff rfl ?_ | refine Br.ff (isEmptyCons _ _) ?_)
   | (refine Side.mk ?_ ?_; focus (first | omega | (dsimp only [InR, Int.reduceToNat, IntKind.bits, Int.reducePow]; omega) | (simp [CC]; done) | (constructor <;> omega)))
   | (refine Br.mk ?_ ?_ <;> intro hb <;> (try simp only [ZZ] at hb) <;> (first | omega | skip))
   | refine Src.whole ⟨rfl, rfl⟩ ?_ | refine FrzV.whole ?_) <;> conv => whnf)
  all_goals exact CLe.retP (by simp [utfSize, *])
theorem utf_Good (r : Int) : AbsCall PP GG F.utf_Good [.p (.int .i64 r)] [] ⟨.ret (.p (.bool (utfGood r))), [], []⟩ := by
  refine absCall_of (pol := polG) mixP F.utf_Good_is ?_
  conv => whnf
  repeat' ((first
   | ((with_reducible first | refine Br.dec ?_ ?_ | refine Br.ndec ?_ ?_) <;> intro hb <;> (try simp only [ZZ] at hb) <;> (first | omega | skip))
   | (with_reducible first | refine Br.tt rfl ?_ | refine Br.ff rfl ?_ | refine Br.ff (isEmptyCons _ _) ?_)
   | (refine Side.mk ?_ ?_; focus (first | omega | (dsimp only [InR, Int.reduceToNat, IntKind.bits, Int.reducePow]; omega) | (simp [CC]; done) | (constructor <;> omega)))
   | (refine Br.mk ?_ ?_ <;> intro hb <;> (try simp only [ZZ] at hb) <;> (first | omega | skip))
   | refine Src.whole ⟨rfl, rfl⟩ ?_ | refine FrzV.whole ?_) <;> conv => whnf)
  all_goals exact CLe.retP (by simp only [PV.bool.injEq, utfGood]; first | (symm; rw [decide_eq_false_iff_not]; omega) | (symm; rw [decide_eq_true_eq]; omega) | (rw [decide_eq_decide]; omega))
theorem utf_begins (c : UInt8) : AbsCall PP GG F.utf_begins [.p (byteP c)] [] ⟨.ret (.tup [.p (.int .i64 (utfBegins c.toNat).1), .p (.int .i64 (utfBegins c.toNat).2)]), [], []⟩ := by
  have hc : c.toNat < 256 := UInt8.toNat_lt c
  refine absCall_of (pol := polG) mixP F.utf_begins_is ?_
  conv => whnf
  repeat' ((first
   | ((with_reducible first | refine Br.dec ?_ ?_ | refine Br.ndec ?_ ?_) <;> intro hb <;> (try simp only [ZZ] at hb) <;> (first | omega | skip))
   | (with_reducible first | refine Br.tt rfl ?_ | refine Br.ff rfl ?_ | refine Br.ff (isEmptyCons _ _) ?_)
   | (refine Side.mk ?_ ?_; focus (first | omega | (dsimp only [InR, Int.reduceToNat, IntKind.bits, Int.reducePow]; omega) | (simp only [oct_andn192 _ hc (by omega), InR]; omega) | (simp only [oct_andn224 _ hc (by omega), InR]; omega) | (simp only [oct_andn240 _ hc (by omega), InR]; omega) | (simp [CC]; done) | (constructor <;> omega)))
   | (refine Br.mk ?_ ?_ <;> intro hb <;> (try simp only [ZZ] at hb) <;> (first | omega | skip))
   | refine Src.whole ⟨rfl, rfl⟩ ?_ | refine FrzV.whole ?_) <;> conv => whnf)
  all_goals
    refine CLe.eq ?_
    unfold utfBegins
    first
      | (rw [if_pos (by omega)]; done)
      | (rw [if_neg (by omega), if_pos (by omega)]; done)
      | (rw [if_neg (by omega), if_neg (by omega), if_pos (by omega), oct_andn192 _ hc (by omega)]; done)
      | (rw [if_neg (by omega), if_neg (by omega), if_neg (by omega), if_pos (by omega), oct_andn224 _ hc (by omega)]; done)
      | (rw [if_neg (by omega), if_neg (by omega), if_neg (by omega), if_neg (by omega), if_pos (by omega), oct_andn240 _ hc (by omega)]; done)
      | (rw [if_neg (by omega), if_neg (by omega), if_neg (by omega), if_neg (by omega), if_neg (by omega)]; done)
theorem take_loop (s : Str) (n : Nat) (hn : n ≤ 4) (hns : n ≤ s.length) (R : Option Int) (K : Post)
    (h0 : ∀ r, R = some r → K (.exit 0) [(4, .p (.int .i64 n)), (5, .p (.int .i64 r))] [] [])
    (hr : R = none → K .ret [(2, .p (.int .i64 0)), (3, .p (.int .i64 0))] [] []) :
    ∀ (q i : Nat) (r : Int), i + q = n → 1 ≤ i → 0 ≤ r → r < takeU q → takeL q (s.drop i) r = R →
      LoopW PP GG 52 0 (loopN F.utf_Take_c 0) [(0, .p (.str s)), (4, .p (.int .i64 n)), (5, .p (.int .i64 r)), (6, .p (.int .i64 i))] [] [] (PostCl 52 K) := by
  intro q
  induction q with
  | zero =>
    intro i r hi h1 hr0 hr1 hR
    rw [takeL] at hR
    refine LoopW.round (pol := polG) mixP ?_
    conv => whnf
    repeat' ((first
     | ((with_reducible first | refine Br.dec ?_ ?_ | refine Br.ndec ?_ ?_) <;> intro hb <;> (try simp only [ZZ] at hb) <;> (first | omega | skip))
     | (with_reducible first | refine Br.tt rfl ?_ | refine Br.ff rfl ?_ | refine Br.ff (isEmptyCons _ _) ?_)
     | (refine Side.mk ?_ ?_; focus (first | omega | (dsimp only [InR, Int.reduceToNat, IntKind.bits, Int.reducePow]; omega) | (simp [CC]; done) | (constructor <;> omega)))
     | (refine Br.mk ?_ ?_ <;> intro hb <;> (try simp only [ZZ] at hb) <;> (first | omega | skip))
     | refine Src.whole ⟨rfl, rfl⟩ ?_ | refine FrzV.whole ?_) <;> conv => whnf)
    · refine PostCl.of (h0 r hR.symm) ?_ ?_
      · repeat first | exact trivial | refine ⟨VLe.refl _, ?_⟩
      · repeat first | exact trivial | refine ⟨by decide, ?_⟩
  | succ q ih =>
    intro i r hi h1 hr0 hr1 hR
    obtain ⟨b, hb⟩ : ∃ b, s[i]? = some b := ⟨_, List.getElem?_eq_getElem (show i < s.length by omega)⟩
    rw [drop_cons hb, takeL] at hR
    have hbl := UInt8.toNat_lt b
    have hst := takeU_step (q := q) (by omega) hr1 (x := (b.toNat % 64 : Nat)) (by omega)
    have hg : s.getD (Int.toNat ↑i) 0 = b := getD_of (by simpa using hb)
    refine LoopW.round (pol := polG) mixP ?_
    conv => whnf
    repeat' ((first
     | ((with_reducible first | refine Br.dec ?_ ?_ | refine Br.ndec ?_ ?_) <;> intro hb <;> (try simp only [ZZ] at hb) <;> (first | omega | skip))
     | (with_reducible first | refine Br.tt rfl ?_ | refine Br.ff rfl ?_ | refine Br.ff (isEmptyCons _ _) ?_)
     | (refine Side.mk ?_ ?_; focus (first | omega | (dsimp only [InR, Int.reduceToNat, IntKind.bits, Int.reducePow]; omega) | (simp only [hg, oct_and63 _ hbl, InR]; omega) | (simp [CC]; done) | (constructor <;> omega)))
     | (refine Br.mk ?_ ?_ <;> intro hb <;> (try simp only [ZZ] at hb) <;> (first | omega | skip))
     | refine Src.whole ⟨rfl, rfl⟩ ?_ | refine FrzV.whole ?_) <;> conv => whnf)
    · have hbb := hb
      rw [hg] at hbb
      have := oct_and192 _ hbl
      rw [decide_eq_decide] at this
      rw [this] at hbb
      rw [if_neg hbb] at hR
      refine PostCl.of (hr hR.symm) ?_ ?_
      · repeat first | exact trivial | refine ⟨VLe.refl _, ?_⟩
      · repeat first | exact trivial | refine ⟨by decide, ?_⟩
    · have hbb := hb
      rw [hg] at hbb ⊢
      have := oct_and192 _ hbl
      rw [decide_eq_decide] at this
      rw [this] at hbb
      rw [if_pos hbb] at hR
      have hio : ior .i64 (r * 2 ^ Int.toNat 6) (iand .u8 b.toNat 63) = r * 64 + (b.toNat % 64 : Nat) := by
        rw [oct_and63 _ hbl]
        exact ior_shift (q := 6) hr0 (by omega) (by omega) (by omega) (by decide)
      rw [hio]
      refine LoopW.sub (ih (i + 1) _ (by omega) (by omega) (by omega) hst.1 hR) (by repeat first | exact trivial | refine ⟨VLe.refl _, ?_⟩) (by repeat first | exact trivial | refine ⟨by decide, ?_⟩)
theorem utf_Take (s : Str) (hs : s.length ≤ 1073741824) : AbsCall PP GG F.utf_Take [.p (.str s)] [] ⟨.ret (.tup [.p (.int .i64 (utfTake s).1), .p (.int .i64 (utfTake s).2)]), [], []⟩ := by
  cases s with
  | nil =>
    refine absCall_of (pol := polG) mixP F.utf_Take_is ?_
    conv => whnf
    repeat' ((first
     | ((with_reducible first | refine Br.dec ?_ ?_ | refine Br.ndec ?_ ?_) <;> intro hb <;> (try simp only [ZZ] at hb) <;> (first | omega | skip))
     | (with_reducible first | refine Br.tt rfl ?_ | refine Br.ff rfl ?_ | refine Br.ff (isEmptyCons _ _) ?_)
     | (refine Side.mk ?_ ?_; focus (first | omega | (dsimp only [InR, Int.reduceToNat, IntKind.bits, Int.reducePow]; omega) | (simp [CC]; done) | (constructor <;> omega)))
     | (refine Br.mk ?_ ?_ <;> intro hb <;> (try simp only [ZZ] at hb) <;> (first | omega | skip))
     | refine Src.whole ⟨rfl, rfl⟩ ?_ | refine FrzV.whole ?_) <;> conv => whnf)
    exact CLe.eq rfl
  | cons c cs =>
    have hbn := utfBegins_n c.toNat
    have hbr := utfBegins_r c.toNat
    have hsp := utf_begins c
    have hT : utfTake (c :: cs) = if (utfBegins c.toNat).1 = 0 ∨ ((c :: cs).length : Int) < (utfBegins c.toNat).1 then (0, 0) else
      match takeL ((utfBegins c.toNat).1.toNat - 1) cs (utfBegins c.toNat).2 with
      | none => (0, 0)
      | some r => if utfGood r = true ∧ utfSize r = (utfBegins c.toNat).1 then (r, (utfBegins c.toNat).1) else (0, 0) := rfl
    generalize utfBegins c.toNat = B at *
    obtain ⟨b1, r⟩ := B
    obtain ⟨n, rfl⟩ : ∃ n : Nat, b1 = n := ⟨b1.toNat, by simp only [] at hbn; omega⟩
    simp only [] at hbn hbr hsp hT
    refine absCall_of (pol := polG) mixP F.utf_Take_is ?_
    conv => whnf
    repeat' ((first
     | ((with_reducible first | refine Br.dec ?_ ?_ | refine Br.ndec ?_ ?_) <;> intro hb <;> (try simp only [ZZ] at hb) <;> (first | omega | skip))
     | (with_reducible first | refine Br.tt rfl ?_ | refine Br.ff rfl ?_ | refine Br.ff (isEmptyCons _ _) ?_)
     | (refine Side.mk ?_ ?_; focus (first | omega | (dsimp only [InR, Int.reduceToNat, IntKind.bits, Int.reducePow]; omega) | (simp only [List.length_cons]; omega) | (simp [CC]; done) | (constructor <;> omega)))
     | (refine Br.mk ?_ ?_ <;> intro hb <;> (try simp only [ZZ] at hb) <;> (first | omega | skip))
     | refine Src.whole ⟨rfl, rfl⟩ ?_ | refine FrzV.whole ?_
     | refine CallW.use (hsp) ?_) <;> conv => whnf)
    · exact CLe.eq (by rw [hT, if_pos (by omega)])
    · exact CLe.eq (by rw [hT, if_pos (by omega)])
    · rename_i hn0
      rw [if_neg (by omega)] at hT
      refine LoopW.cl ?_
      refine LoopW.sub (take_loop (c :: cs) n (by omega) (by omega) (takeL (n - 1) cs r) _ (fun r' hr' => ?_) (fun hr' => ?_) (n - 1) 1 r (by omega) (by omega) hbr.1 (by have := takeU_pos (n - 1) (by omega); omega) rfl) (by repeat first | exact trivial | refine ⟨VLe.refl _, ?_⟩) (by repeat first | exact trivial | refine ⟨by decide, ?_⟩)
      · rw [Int.toNat_natCast, hr'] at hT
        simp only [] at hT
        conv => whnf
        repeat' ((first
         | ((with_reducible first | refine Br.dec ?_ ?_ | refine Br.ndec ?_ ?_) <;> intro hb <;> (try simp only [ZZ] at hb) <;> (first | omega | skip))
         | (with_reducible first | refine Br.tt rfl ?_ | refine Br.ff rfl ?_ | refine Br.ff (isEmptyCons _ _) ?_)
         | (refine Side.mk ?_ ?_; focus (first | omega | (dsimp only [InR, Int.reduceToNat, IntKind.bits, Int.reducePow]; omega) | (simp [CC]; done) | (constructor <;> omega)))
         | (refine Br.mk ?_ ?_ <;> intro hb <;> (try simp only [ZZ] at hb) <;> (first | omega | skip))
         | refine Src.whole ⟨rfl, rfl⟩ ?_ | refine FrzV.whole ?_
         | refine CallW.use (utf_Good _) ?_
         | refine CallW.use (utf_size _) ?_) <;> conv => whnf)
        all_goals refine CLe.eq ?_
        all_goals rw [hT]
        · rw [if_neg (by simp_all)]
        · rw [if_neg (by simp_all)]
        · rw [if_pos (by simp_all)]
      · rw [Int.toNat_natCast, hr'] at hT
        simp only [] at hT
        conv => whnf
        exact CLe.eq (by rw [hT])
theorem utf_Put (bs : Str) (r : Int) (hs : bs.length ≤ 1073741824) : AbsCall PP GG F.utf_Put [.p (.lst false (bs.map byteP)), .p (.int .i64 r)] [] ⟨.ret (.sl 0 0 ((bs ++ utfEnc r).map byteP).length), [.arr T.uint8 1 ((bs ++ utfEnc r).map byteP)], []⟩ := by
  have hlen : (bs.map byteP).length = bs.length := by simp
  have hgr : utfGood r = true → 0 ≤ r ∧ r ≤ 1114111 := by intro hg; unfold utfGood at hg; rw [decide_eq_true_eq] at hg; omega
  refine absCall_of (pol := polG) mixP F.utf_Put_is ?_
  conv => whnf
  repeat' ((first
   | ((with_reducible first | refine Br.dec ?_ ?_ | refine Br.ndec ?_ ?_) <;> intro hb <;> (try simp only [ZZ] at hb) <;> (first | omega | skip))
   | (with_reducible first | refine Br.tt rfl ?_ | refine Br.ff rfl ?_ | refine Br.ff (isEmptyCons _ _) ?_)
   | (refine Side.mk ?_ ?_; focus (first | omega | (dsimp only [InR, Int.reduceToNat, IntKind.bits, Int.reducePow]; omega) | exact ⟨bytes_cells bs, by simp, by simp; omega⟩ | exact ⟨by simp [PV.cells], by simp, by simp; omega⟩ | (simp [CC]; done) | (constructor <;> omega)))
   | (refine Br.mk ?_ ?_ <;> intro hb <;> (try simp only [ZZ] at hb) <;> (first | omega | skip))
   | refine Src.whole ⟨rfl, rfl⟩ ?_ | refine FrzV.whole ?_
   | refine CallW.use (utf_Good _) ?_
   | refine CallW.use (utf_size _) ?_
   | (refine Src.whole ⟨rfl, by simp⟩ ?_)) <;> conv => whnf)
  · refine CLe.arr ?_
    rw [show utfEnc r = [] by unfold utfEnc; rw [if_pos hb]]
    simp
  all_goals
    obtain ⟨hr0, hr1⟩ := hgr ‹utfGood r = true›
    obtain ⟨n, rfl⟩ := Int.eq_ofNat_of_zero_le hr0
    have hng : utfGood (n : Int) ≠ false := by simp_all
    refine CLe.arr ?_
    unfold utfEnc
    rw [if_neg hng]
    have q6 : (n : Int) / 2 ^ Int.toNat 6 = ((n / 64 : Nat) : Int) := by show (n : Int) / 64 = _; omega
    have q12 : (n : Int) / 2 ^ Int.toNat 12 = ((n / 4096 : Nat) : Int) := by show (n : Int) / 4096 = _; omega
    have q18 : (n : Int) / 2 ^ Int.toNat 18 = ((n / 262144 : Nat) : Int) := by show (n : Int) / 262144 = _; omega
    have low : ∀ m : Nat, m ≤ 1114111 → iand .i64 (m : Int) 63 = ((m % 64 : Nat) : Int) := by
      intro m hm
      rw [iand63 (by omega) (by omega)]; omega
    have by' : ∀ m : Nat, m ≤ 255 → PV.int .u8 (IntKind.u8.wrap (m : Int)) = byteP (UInt8.ofNat m) := by
      intro m hm
      have := byte_of (x := (m : Int)) (by omega) (by omega)
      simpa using this
    rw [List.map_append, show List.replicate (Int.toNat 0) (PV.int IntKind.u8 0) = [] from rfl, List.nil_append]
    congr 1
  · rw [utfSize_1] at hb
    rw [if_pos hb]
    simp only [List.map_cons, List.map_nil]
    rw [Int.toNat_natCast, by' n (by omega)]
  · rename_i h1
    rw [utfSize_1] at h1
    rw [utfSize_2] at hb
    rw [if_neg h1, if_pos hb.2]
    simp only [List.map_cons, List.map_nil]
    rw [Int.toNat_natCast, q6, low n (by omega), oct_or192 _ (by omega), oct_or128 _ (by omega), by' _ (by omega), by' _ (by omega)]
  · rename_i h1 h2
    rw [utfSize_1] at h1
    rw [utfSize_2] at h2
    rw [utfSize_3] at hb
    rw [if_neg h1, if_neg (by omega), if_pos hb.2]
    simp only [List.map_cons, List.map_nil]
    rw [Int.toNat_natCast, q6, q12, low n (by omega), low (n / 64) (by omega), oct_or224 _ (by omega), oct_or128 _ (by omega), oct_or128 _ (by omega), by' _ (by omega), by' _ (by omega), by' _ (by omega)]
  · rename_i h1 h2
    rw [utfSize_1] at h1
    rw [utfSize_2] at h2
    rw [utfSize_3] at hb
    rw [if_neg h1, if_neg (by omega), if_neg (by omega)]
    simp only [List.map_cons, List.map_nil]
    rw [Int.toNat_natCast, q6, q12, q18, low n (by omega), low (n / 64) (by omega), low (n / 4096) (by omega), oct_or240 _ (by omega), oct_or128 _ (by omega), oct_or128 _ (by omega), oct_or128 _ (by omega), by' _ (by omega), by' _ (by omega), by' _ (by omega), by' _ (by omega)]
theorem valid_loop (s : Str) (hs : s.length ≤ 1073741824) (R : Int × Bool) (K : Post)
    (h0 : R = ((s.length : Int), true) → K (.exit 0) [(0, .p (.str s))] [] [])
    (hr : R.2 = false → K .ret [(2, .p (.int .i64 R.1)), (3, .p (.bool false))] [] []) :
    ∀ (q i : Nat), s.length ≤ i + q → i ≤ s.length → utfScan q (s.drop i) i = R →
      LoopW PP GG 26 0 (loopN F.utf_Valid_c 0) [(0, .p (.str s)), (4, .p (.int .i64 i))] [] [] (PostCl 26 K) := by
  intro q
  induction q with
  | zero =>
    intro i hi hil hR
    rw [utfScan] at hR
    subst hR
    refine LoopW.round (pol := polG) mixP ?_
    conv => whnf
    repeat' ((first
     | ((with_reducible first | refine Br.dec ?_ ?_ | refine Br.ndec ?_ ?_) <;> intro hb <;> (try simp only [ZZ] at hb) <;> (first | omega | skip))
     | (with_reducible first | refine Br.tt rfl ?_ | refine Br.ff rfl ?_ | refine Br.ff (isEmptyCons _ _) ?_)
     | (refine Side.mk ?_ ?_; focus (first | omega | (dsimp only [InR, Int.reduceToNat, IntKind.bits, Int.reducePow]; omega) | (simp [CC]; done) | (constructor <;> omega)))
     | (refine Br.mk ?_ ?_ <;> intro hb <;> (try simp only [ZZ] at hb) <;> (first | omega | skip))
     | refine Src.whole ⟨rfl, rfl⟩ ?_ | refine FrzV.whole ?_) <;> conv => whnf)
    · refine PostCl.of (h0 (by congr 1; omega)) ?_ ?_
      · repeat first | exact trivial | refine ⟨VLe.refl _, ?_⟩
      · repeat first | exact trivial | refine ⟨by decide, ?_⟩
  | succ q ih =>
    intro i hi hil hR
    have hT := utfTake_n (s.drop i)
    have hd : (s.drop i).length ≤ 1073741824 := by simp only [List.length_drop]; omega
    have hdl : (s.drop i).length = s.length - i := List.length_drop
    cases hsd : s.drop i with
    | nil =>
      have : (s.drop i).length = 0 := by rw [hsd]; rfl
      rw [hsd, utfScan] at hR
      subst hR
      refine LoopW.round (pol := polG) mixP ?_
      conv => whnf
      repeat' ((first
       | ((with_reducible first | refine Br.dec ?_ ?_ | refine Br.ndec ?_ ?_) <;> intro hb <;> (try simp only [ZZ] at hb) <;> (first | omega | skip))
       | (with_reducible first | refine Br.tt rfl ?_ | refine Br.ff rfl ?_ | refine Br.ff (isEmptyCons _ _) ?_)
       | (refine Side.mk ?_ ?_; focus (first | omega | (dsimp only [InR, Int.reduceToNat, IntKind.bits, Int.reducePow]; omega) | (simp [CC]; done) | (constructor <;> omega)))
       | (refine Br.mk ?_ ?_ <;> intro hb <;> (try simp only [ZZ] at hb) <;> (first | omega | skip))
       | refine Src.whole ⟨rfl, rfl⟩ ?_ | refine FrzV.whole ?_) <;> conv => whnf)
      · refine PostCl.of (h0 (by congr 1; omega)) ?_ ?_
        · repeat first | exact trivial | refine ⟨VLe.refl _, ?_⟩
        · repeat first | exact trivial | refine ⟨by decide, ?_⟩
    | cons c cs =>
      have hlt : i < s.length := by have : (s.drop i).length = cs.length + 1 := by rw [hsd]; rfl
                                    omega
      rw [hsd, utfScan, ← hsd] at hR
      refine LoopW.round (pol := polG) mixP ?_
      conv => whnf
      repeat' ((first
       | ((with_reducible first | refine Br.dec ?_ ?_ | refine Br.ndec ?_ ?_) <;> intro hb <;> (try simp only [ZZ] at hb) <;> (first | omega | skip))
       | (with_reducible first | refine Br.tt rfl ?_ | refine Br.ff rfl ?_ | refine Br.ff (isEmptyCons _ _) ?_)
       | (refine Side.mk ?_ ?_; focus (first | omega | (dsimp only [InR, Int.reduceToNat, IntKind.bits, Int.reducePow]; omega) | (simp [CC]; done) | (constructor <;> omega)))
       | (refine Br.mk ?_ ?_ <;> intro hb <;> (try simp only [ZZ] at hb) <;> (first | omega | skip))
       | refine Src.whole ⟨rfl, rfl⟩ ?_ | refine FrzV.whole ?_
       | refine CallW.use (utf_Take (s.drop i) hd) ?_) <;> conv => whnf)
      · rw [if_pos hb] at hR
        subst hR
        refine PostCl.of (hr rfl) ?_ ?_
        · repeat first | exact trivial | refine ⟨VLe.refl _, ?_⟩
        · repeat first | exact trivial | refine ⟨by decide, ?_⟩
      · rw [if_neg hb, List.drop_drop] at hR
        obtain ⟨m, hm⟩ : ∃ m : Nat, (utfTake (s.drop i)).2 = m := ⟨(utfTake (s.drop i)).2.toNat, by omega⟩
        rw [hm] at hR ⊢
        refine LoopW.sub (ih (i + m) (by omega) (by omega) (by rw [← hR]; congr 1)) (by repeat first | exact trivial | refine ⟨VLe.refl _, ?_⟩) (by repeat first | exact trivial | refine ⟨by decide, ?_⟩)
theorem utf_Valid (s : Str) (hs : s.length ≤ 1073741824) : AbsCall PP GG F.utf_Valid [.p (.str s)] [] ⟨.ret (.tup [.p (.int .i64 (utfValid s).1), .p (.bool (utfValid s).2)]), [], []⟩ := by
  refine absCall_of (pol := polG) mixP F.utf_Valid_is ?_
  conv => whnf
  refine LoopW.cl ?_
  refine LoopW.sub (valid_loop s hs (utfValid s) _ (fun h => ?_) (fun h => ?_) s.length 0 (by omega) (by omega) rfl) (by repeat first | exact trivial | refine ⟨VLe.refl _, ?_⟩) (by repeat first | exact trivial | refine ⟨by decide, ?_⟩)
  · conv => whnf
    repeat' ((first
     | ((with_reducible first | refine Br.dec ?_ ?_ | refine Br.ndec ?_ ?_) <;> intro hb <;> (try simp only [ZZ] at hb) <;> (first | omega | skip))
     | (with_reducible first | refine Br.tt rfl ?_ | refine Br.ff rfl ?_ | refine Br.ff (isEmptyCons _ _) ?_)
     | (refine Side.mk ?_ ?_; focus (first | omega | (dsimp only [InR, Int.reduceToNat, IntKind.bits, Int.reducePow]; omega) | (simp [CC]; done) | (constructor <;> omega)))
     | (refine Br.mk ?_ ?_ <;> intro hb <;> (try simp only [ZZ] at hb) <;> (first | omega | skip))
     | refine Src.whole ⟨rfl, rfl⟩ ?_ | refine FrzV.whole ?_) <;> conv => whnf)
    exact CLe.eq (by rw [h])
  · conv => whnf
    repeat' ((first
     | ((with_reducible first | refine Br.dec ?_ ?_ | refine Br.ndec ?_ ?_) <;> intro hb <;> (try simp only [ZZ] at hb) <;> (first | omega | skip))
     | (with_reducible first | refine Br.tt rfl ?_ | refine Br.ff rfl ?_ | refine Br.ff (isEmptyCons _ _) ?_)
     | (refine Side.mk ?_ ?_; focus (first | omega | (dsimp only [InR, Int.reduceToNat, IntKind.bits, Int.reducePow]; omega) | (simp [CC]; done) | (constructor <;> omega)))
     | (refine Br.mk ?_ ?_ <;> intro hb <;> (try simp only [ZZ] at hb) <;> (first | omega | skip))
     | refine Src.whole ⟨rfl, rfl⟩ ?_ | refine FrzV.whole ?_) <;> conv => whnf)
    exact CLe.eq (by rw [h])
end Go.Proofs.YtaoejccgdpppgaaGreatDoor
end

section
namespace Go.Am
open Go
theorem enc_byte {b : UInt8} {n : Nat} (h : n = b.toNat) : UInt8.ofNat n = b := by subst h; simp
theorem enc_take {c : UInt8} {cs : Str} {r : Int} (h0 : (utfBegins c.toNat).1 ≠ 0) (h1 : ¬ ((c :: cs).length : Int) < (utfBegins c.toNat).1) (h2 : takeL ((utfBegins c.toNat).1.toNat - 1) cs (utfBegins c.toNat).2 = some r)
    (hg : utfGood r = true) (hs : utfSize r = (utfBegins c.toNat).1) : utfEnc r = (c :: cs).take (utfBegins c.toNat).1.toNat := by
  have hgn : ¬ utfGood r = false := by rw [hg]; simp
  have hc := UInt8.toNat_lt c
  have split1 : ∀ (q : Nat) (s : Str) (x : Int), takeL (q + 1) s x = some r → ∃ b t, s = b :: t ∧ 128 ≤ b.toNat ∧ b.toNat < 192 ∧ takeL q t (x * 64 + (b.toNat % 64 : Nat)) = some r := by
    intro q s x h
    cases s with
    | nil => simp [takeL] at h
    | cons b t =>
      rw [takeL] at h
      split at h
      · rename_i hb; exact ⟨b, t, rfl, hb.1, hb.2, h⟩
      · cases h
  have last : ∀ (s : Str) (x : Int), takeL 0 s x = some r → r = x := by
    intro s x h
    rw [takeL] at h
    exact (Option.some.inj h).symm
  unfold utfBegins at h0 h1 h2 hs ⊢
  by_cases b1 : c.toNat < 128
  · simp only [if_pos b1] at h0 h1 h2 hs ⊢
    have := last _ _ h2
    subst this
    unfold utfEnc
    rw [if_neg hgn, if_pos (by omega)]
    simp
  · by_cases b2 : c.toNat < 192
    · simp only [if_neg b1, if_pos b2] at h0
      exact absurd rfl h0
    · by_cases b3 : c.toNat < 224
      · simp only [if_neg b1, if_neg b2, if_pos b3] at h0 h1 h2 hs ⊢
        obtain ⟨b, t, rfl, e1, e2, h2⟩ := split1 0 _ _ h2
        have := last _ _ h2
        rw [utfSize_2] at hs
        unfold utfEnc
        rw [if_neg hgn, if_neg (by omega), if_pos (by omega)]
        show _ = [c, b]
        rw [enc_byte (b := c) (by omega), enc_byte (b := b) (by omega)]
      · by_cases b4 : c.toNat < 240
        · simp only [if_neg b1, if_neg b2, if_neg b3, if_pos b4] at h0 h1 h2 hs ⊢
          obtain ⟨b, t, rfl, e1, e2, h2⟩ := split1 1 _ _ h2
          obtain ⟨d, u, rfl, e3, e4, h2⟩ := split1 0 _ _ h2
          have := last _ _ h2
          rw [utfSize_3] at hs
          unfold utfEnc
          rw [if_neg hgn, if_neg (by omega), if_neg (by omega), if_pos (by omega)]
          show _ = [c, b, d]
          rw [enc_byte (b := c) (by omega), enc_byte (b := b) (by omega), enc_byte (b := d) (by omega)]
        · by_cases b5 : c.toNat < 248
          · simp only [if_neg b1, if_neg b2, if_neg b3, if_neg b4, if_pos b5] at h0 h1 h2 hs ⊢
            obtain ⟨b, t, rfl, e1, e2, h2⟩ := split1 2 _ _ h2
            obtain ⟨d, u, rfl, e3, e4, h2⟩ := split1 1 _ _ h2
            obtain ⟨e, v, rfl, e5, e6, h2⟩ := split1 0 _ _ h2
            have := last _ _ h2
            have hg' : 0 ≤ r ∧ r ≤ 1114111 := by unfold utfGood at hg; rw [decide_eq_true_eq] at hg; omega
            have hs' : 65536 ≤ r := by
              unfold utfSize at hs
              split at hs
              · omega
              · split at hs
                · omega
                · split at hs <;> omega
            unfold utfEnc
            rw [if_neg hgn, if_neg (by omega), if_neg (by omega), if_neg (by omega)]
            show _ = [c, b, d, e]
            rw [enc_byte (b := c) (by omega), enc_byte (b := b) (by omega), enc_byte (b := d) (by omega), enc_byte (b := e) (by omega)]
          · simp only [if_neg b1, if_neg b2, if_neg b3, if_neg b4, if_neg b5] at h0
            exact absurd rfl h0
end Go.Am
namespace Go.Am
end Go.Am
namespace Go.Am
def strOk (s : Str) : Bool := decide (s.length ≤ 4096) && (utfValid s).2
def stampOk (s : Str) : Bool := decide (1 ≤ s.length ∧ s.length ≤ 64 ∧ ∀ b ∈ s, 32 ≤ b.toNat ∧ b.toNat ≤ 126)
end Go.Am
end

section
namespace Go.Proofs.YtaoejccgdpppgaaGreatDoor
open Go Go.Am
set_option maxRecDepth 100000
end Go.Proofs.YtaoejccgdpppgaaGreatDoor
end

section
namespace Go.Am
mutual
def steep : Tree → Int → Int → Bool × Int
  | .mk _ _ _ l m, d, n => if d < 1 ∨ n < 1 then (true, 0) else match steepL l (d - 1) (n - 1) with
    | (true, _) => (true, 0)
    | (false, n') => steepM m (d - 1) n'
def steepL : List Tree → Int → Int → Bool × Int
  | [], _, n => (false, n)
  | t :: l, d, n => match steep t d n with
    | (true, _) => (true, 0)
    | (false, n') => steepL l d n'
def steepM : List (Str × Tree) → Int → Int → Bool × Int
  | [], _, n => (false, n)
  | p :: m, d, n => match steepP p d n with
    | (true, _) => (true, 0)
    | (false, n') => steepM m d n'
def steepP : Str × Tree → Int → Int → Bool × Int
  | (_, t), d, n => steep t d n
end
theorem steepL_cons (t : Tree) (l : List Tree) (d n : Int) : steepL (t :: l) d n = if (steep t d n).1 = true then (true, 0) else steepL l d (steep t d n).2 := by
  rw [steepL]
  cases h : steep t d n with
  | mk a b => cases a <;> simp
theorem steepM_cons (p : Str × Tree) (m : List (Str × Tree)) (d n : Int) : steepM (p :: m) d n = if (steep p.2 d n).1 = true then (true, 0) else steepM m d (steep p.2 d n).2 := by
  obtain ⟨k, t⟩ := p
  rw [steepM, steepP]
  cases h : steep t d n with
  | mk a b => cases a <;> simp
theorem steep_mk (k n : Int) (s : Str) (l : List Tree) (m : List (Str × Tree)) (d q : Int) : steep (.mk k n s l m) d q = if d < 1 ∨ q < 1 then (true, 0) else if (steepL l (d - 1) (q - 1)).1 = true then (true, 0) else steepM m (d - 1) (steepL l (d - 1) (q - 1)).2 := by
  rw [steep]
  split
  · rfl
  · cases h : steepL l (d - 1) (q - 1) with
    | mk a b => cases a <;> simp
end Go.Am
end

section
namespace Go.Proofs.YtaoejccgdpppgaaGreatDoor
open Go Go.Am
set_option maxRecDepth 100000
end Go.Proofs.YtaoejccgdpppgaaGreatDoor
end

section
namespace Go.Am
open Go
def dig (b : UInt8) : Bool := decide (48 ≤ b.toNat ∧ b.toNat ≤ 57)
def runL : Str → Nat
  | [] => 0
  | b :: s => if dig b = true then runL s + 1 else 0
theorem runL_le : ∀ s : Str, runL s ≤ s.length
  | [] => Nat.le_refl _
  | b :: s => by rw [runL]; split <;> simp [runL_le s]
abbrev Parts := Bool × Str × Str × Str × Bool
def noParts : Parts := (false, [], [], [], false)
def b0 (s : Str) : Nat := (s.getD 0 0).toNat
def partsE (neg : Bool) (w f p d : Str) : Parts := if d.length = 0 ∨ runL d ≠ d.length then noParts else (neg, w, f, p, true)
def partsD (neg : Bool) (w f s : Str) : Parts :=
  if s.length = 0 then (neg, w, f, [], true) else if b0 s ≠ 101 ∧ b0 s ≠ 69 then noParts else
  if 0 < (s.drop 1).length ∧ (b0 (s.drop 1) = 43 ∨ b0 (s.drop 1) = 45) then partsE neg w f (s.drop 1) ((s.drop 1).drop 1) else partsE neg w f (s.drop 1) (s.drop 1)
def partsC (neg : Bool) (w s : Str) : Parts :=
  if 0 < s.length ∧ b0 s = 46 then (if runL (s.drop 1) = 0 then noParts else partsD neg w ((s.drop 1).take (runL (s.drop 1))) ((s.drop 1).drop (runL (s.drop 1)))) else partsD neg w [] s
def partsB (neg : Bool) (s : Str) : Parts := if runL s = 0 ∨ (1 < runL s ∧ b0 (s.take (runL s)) = 48) then noParts else partsC neg (s.take (runL s)) (s.drop (runL s))
def numParts (s : Str) : Parts := if 0 < s.length ∧ b0 s = 45 then partsB true (s.drop 1) else partsB false s
def powL : Str → Int → Option Int
  | [], v => some v
  | b :: s, v => if dig b = true then (if 10 * v + (b.toNat - 48) > 100000 then none else powL s (10 * v + (b.toNat - 48))) else powL s v
def powerL (p : Str) : Int × Bool := match powL p 0 with
  | none => (0, false)
  | some v => if 0 < p.length ∧ b0 p = 45 then (-v, true) else (v, true)
def formL (s : Str) : Bool × Bool := ((numParts s).2.2.2.2, (numParts s).2.2.2.2 && !(powerL (numParts s).2.2.2.1).2)
def numL (s : Str) : Bool := (formL s).1 && !(formL s).2 && decide (s.length ≤ 400)
end Go.Am
namespace Go.Am
theorem CLe.parts {x : Parts} {a e : Bool} {b c d : Str} {H : Heap} {mv : List Nat} (h : x = (a, b, c, d, e)) :
    CLe ⟨.ret (.tup [.p (.bool a), .p (.str b), .p (.str c), .p (.str d), .p (.bool e)]), H, mv⟩ ⟨.ret (.tup [.p (.bool x.1), .p (.str x.2.1), .p (.str x.2.2.1), .p (.str x.2.2.2.1), .p (.bool x.2.2.2.2)]), H, mv⟩ := by subst h; exact CLe.refl _
end Go.Am
namespace Go.Am
theorem take_run (s : Str) : (s.take (runL s)).length = runL s := by rw [List.length_take]; have := runL_le s; omega
end Go.Am
namespace Go.Am
end Go.Am
namespace Go.Am
def negL : Str → Int → Option Int
  | [], v => some v
  | b :: s, v => if v < -((9223372036854775808 - ((b.toNat : Int) - 48)) / 10) then none else negL s (10 * v - ((b.toNat : Int) - 48))
def refIntL (s : Str) : Int × Bool :=
  if numL s = false ∨ s = [45, 48] then (0, false) else
  if 0 < (numParts s).2.2.1.length ∨ 0 < (numParts s).2.2.2.1.length then (0, false) else
  match negL (numParts s).2.1 0 with
  | none => (0, false)
  | some v => if (numParts s).1 = true then (v, true) else if v = -9223372036854775808 then (0, false) else (-v, true)
theorem take_dig : ∀ s : Str, ∀ b ∈ s.take (runL s), dig b = true
  | [] => by simp
  | c :: s => by
    intro b hb
    rw [runL] at hb
    split at hb
    · rename_i h
      rw [List.take_succ_cons] at hb
      rcases List.mem_cons.1 hb with rfl | hb
      · exact h
      · exact take_dig s b hb
    · simp at hb
end Go.Am
end

section
namespace Go.Proofs.YtaoejccgdpppgaaGreatDoor
open Go Go.Am
set_option maxRecDepth 100000
end Go.Proofs.YtaoejccgdpppgaaGreatDoor
end

section
namespace Go.Am
open Go
def preB (s : Str) (p : UInt8) : Bool := decide (s.take 1 = [p])
def powD : Str → Int → Option Int
  | [], v => some v
  | b :: s, v => if 100000 < v * 10 + ((b.toNat : Int) - 48) then none else powD s (v * 10 + ((b.toNat : Int) - 48))
def powTail (less : Bool) (d : Str) : Int × Bool := if d.length = 0 ∨ runL d ≠ d.length then (0, false) else match powD d 0 with
  | none => (0, false)
  | some v => if less = true then (-v, true) else (v, true)
def decPow (s : Str) : Int × Bool := if preB s 45 = true then powTail true (s.drop 1) else if preB s 43 = true then powTail false (s.drop 1) else powTail false s
def trimL : Str → Str
  | [] => []
  | b :: s => if b = 48 then trimL s else b :: s
theorem runL_dig : ∀ {s : Str}, runL s = s.length → ∀ b ∈ s, dig b = true
  | [], _, b, hb => by cases hb
  | c :: s, h, b, hb => by
    rw [runL] at h
    split at h
    · rename_i hc
      rcases List.mem_cons.1 hb with rfl | hb
      · exact hc
      · exact runL_dig (by simpa using h) b hb
    · simp at h
end Go.Am
namespace Go.Am
def trimRn : Nat → Str → Str
  | 0, s => s
  | q + 1, s => if 0 < s.length ∧ s.getD (s.length - 1) 0 = 48 then trimRn q (s.take (s.length - 1)) else s
def trimR (s : Str) : Str := trimRn s.length s
theorem trimL_len : ∀ s : Str, (trimL s).length ≤ s.length
  | [] => Nat.le_refl _
  | b :: s => by rw [trimL]; split <;> simp; exact Nat.le_succ_of_le (trimL_len s)
abbrev Dnum := (Bool × Str × Int) × Bool
def noNum : Dnum := ((false, [], 0), false)
def decE (less : Bool) (w p : Str) (e : Int) : Dnum :=
  if (trimL (w ++ p)).length = 0 then ((false, [], 0), true) else ((less, trimR (trimL (w ++ p)), e + (((w.length : Int) - 1) - (((w ++ p).length : Int) - ((trimL (w ++ p)).length : Int)))), true)
def decD (less : Bool) (w p s : Str) : Dnum :=
  if s.length = 0 then decE less w p 0 else if b0 s ≠ 101 ∧ b0 s ≠ 69 then noNum else
  if (decPow (s.drop 1)).2 = false then noNum else decE less w p (decPow (s.drop 1)).1
def decC (less : Bool) (w s : Str) : Dnum :=
  if preB s 46 = true then (if runL (s.drop 1) = 0 then noNum else decD less w ((s.drop 1).take (runL (s.drop 1))) ((s.drop 1).drop (runL (s.drop 1)))) else decD less w [] s
def decB (less : Bool) (s : Str) : Dnum := if runL s = 0 ∨ (1 < runL s ∧ b0 s = 48) then noNum else decC less (s.take (runL s)) (s.drop (runL s))
def decParse (s : Str) : Dnum := if 400 < s.length then noNum else decB (preB s 45) (if preB s 45 = true then s.drop 1 else s)
theorem powD_bound : ∀ (s : Str) (v r : Int), (∀ b ∈ s, dig b = true) → 0 ≤ v → v ≤ 100000 → powD s v = some r → 0 ≤ r ∧ r ≤ 100000
  | [], v, r, _, h0, h1, h => by rw [powD] at h; cases h; exact ⟨h0, h1⟩
  | b :: s, v, r, hd, h0, h1, h => by
    rw [powD] at h
    split at h
    · cases h
    · have hb := hd b (by simp)
      unfold dig at hb
      rw [decide_eq_true_eq] at hb
      exact powD_bound s _ r (fun x hx => hd x (by simp [hx])) (by omega) (by omega) h
end Go.Am
namespace Go.Am
theorem decPow_bound (s : Str) : -100000 ≤ (decPow s).1 ∧ (decPow s).1 ≤ 100000 := by
  have h : ∀ less d, -100000 ≤ (powTail less d).1 ∧ (powTail less d).1 ≤ 100000 := by
    intro less d
    unfold powTail
    split
    · simp
    · rename_i hc
      split
      · simp
      · rename_i v hv
        have := powD_bound d 0 v (runL_dig (by omega)) (by omega) (by omega) hv
        split <;> (simp only []; omega)
  unfold decPow
  split
  · exact h _ _
  · split
    · exact h _ _
    · exact h _ _
end Go.Am
namespace Go.Am
theorem nf {b : Bool} (h : b = true) : ¬ b = false := by rw [h]; simp
theorem nt {b : Bool} (h : b = false) : ¬ b = true := by rw [h]; simp
end Go.Am
namespace Go.Am
def oddB (b : UInt8) : Bool := decide (b.toNat < 32 ∨ 126 < b.toNat)
def findI : Str → Int → Int
  | [], _ => -1
  | b :: s, i => if oddB b = true then i else findI s (i + 1)
theorem findI_neg : ∀ (s : Str) (i : Int), 0 ≤ i → (findI s i < 0 ↔ ∀ b ∈ s, 32 ≤ b.toNat ∧ b.toNat ≤ 126)
  | [], i, _ => by simp [findI]
  | b :: s, i, h => by
    rw [findI]
    split
    · rename_i hb
      unfold oddB at hb
      rw [decide_eq_true_eq] at hb
      refine ⟨fun e => by omega, fun e => by have := e b (by simp); omega⟩
    · rename_i hb
      unfold oddB at hb
      rw [decide_eq_true_eq] at hb
      rw [findI_neg s (i + 1) (by omega)]
      refine ⟨fun e x hx => ?_, fun e x hx => e x (by simp [hx])⟩
      rcases List.mem_cons.1 hx with rfl | hx
      · omega
      · exact e x hx
end Go.Am
end

section
namespace Go.Proofs.YtaoejccgdpppgaaGreatDoor
open Go Go.Am
set_option maxRecDepth 100000
theorem ElemA.byte {s : Str} {i : Nat} {K : PV → Prop} {b : UInt8} (h : s[i]? = some b) (k : K (byteP b)) : ElemA (s.map byteP) i K := ⟨_, by rw [List.getElem?_map, h]; rfl, k⟩
theorem sl_HasPrefix (s : Str) (p : UInt8) : AbsCall PP GG F.internal_stringslite_HasPrefix [.p (.str s), .p (.str [p])] [] ⟨.ret (.p (.bool (preB s p))), [], []⟩ := by
  have h1 : ([p] : Str).length = 1 := rfl
  refine absCall_of (pol := polG) mixP F.internal_stringslite_HasPrefix_is ?_
  conv => whnf
  repeat' ((first
   | ((with_reducible first | refine Br.dec ?_ ?_ | refine Br.ndec ?_ ?_) <;> intro hb <;> (try simp only [And.intro @h1 (ZZ)] at hb) <;> (first | omega | skip))
   | (with_reducible first | refine Br.tt rfl ?_ | refine Br.ff rfl ?_ | refine Br.ff (isEmptyCons _ _) ?_)
   | (refine Side.mk ?_ ?_; focus (first | omega | (dsimp only [InR, Int.reduceToNat, IntKind.bits, Int.reducePow]; omega) | (simp only [h1]; omega) | (simp [CC]; done) | (constructor <;> omega)))
   | (refine Br.mk ?_ ?_ <;> intro hb <;> (try simp only [And.intro @h1 (ZZ)] at hb) <;> (first | omega | skip))
   | refine Src.whole ⟨rfl, rfl⟩ ?_ | refine FrzV.whole ?_) <;> conv => whnf)
  · exact CLe.eq rfl
  · exact CLe.retP (by unfold preB; rw [List.eq_nil_of_length_eq_zero (show s.length = 0 by omega)]; simp)
theorem strings_HasPrefix (s : Str) (p : UInt8) : AbsCall PP GG F.strings_HasPrefix [.p (.str s), .p (.str [p])] [] ⟨.ret (.p (.bool (preB s p))), [], []⟩ := by
  refine absCall_of (pol := polG) mixP F.strings_HasPrefix_is ?_
  conv => whnf
  repeat' ((first
   | ((with_reducible first | refine Br.dec ?_ ?_ | refine Br.ndec ?_ ?_) <;> intro hb <;> (try simp only [ZZ] at hb) <;> (first | omega | skip))
   | (with_reducible first | refine Br.tt rfl ?_ | refine Br.ff rfl ?_ | refine Br.ff (isEmptyCons _ _) ?_)
   | (refine Side.mk ?_ ?_; focus (first | omega | (dsimp only [InR, Int.reduceToNat, IntKind.bits, Int.reducePow]; omega) | (simp [CC]; done) | (constructor <;> omega)))
   | (refine Br.mk ?_ ?_ <;> intro hb <;> (try simp only [ZZ] at hb) <;> (first | omega | skip))
   | refine Src.whole ⟨rfl, rfl⟩ ?_ | refine FrzV.whole ?_
   | refine CallW.use (sl_HasPrefix s p) ?_) <;> conv => whnf)
  exact CLe.eq rfl
theorem preB_len {s : Str} {p : UInt8} (h : preB s p = true) : 1 ≤ s.length := by
  unfold preB at h
  rw [decide_eq_true_eq] at h
  have := congrArg List.length h
  rw [List.length_take] at this
  simp only [List.length_cons, List.length_nil] at this
  omega
theorem sl_CutPrefix (s : Str) (p : UInt8) : AbsCall PP GG F.internal_stringslite_CutPrefix [.p (.str s), .p (.str [p])] [] ⟨.ret (.tup [.p (.str (if preB s p = true then s.drop 1 else s)), .p (.bool (preB s p))]), [], []⟩ := by
  have hl := @preB_len s p
  have h1 : ([p] : Str).length = 1 := rfl
  refine absCall_of (pol := polG) mixP F.internal_stringslite_CutPrefix_is ?_
  conv => whnf
  cases hp : preB s p with
  | true =>
    have hsp := sl_HasPrefix s p
    rw [hp] at hsp
    have := hl hp
    repeat' ((first
     | ((with_reducible first | refine Br.dec ?_ ?_ | refine Br.ndec ?_ ?_) <;> intro hb <;> (try simp only [ZZ] at hb) <;> (first | omega | skip))
     | (with_reducible first | refine Br.tt rfl ?_ | refine Br.ff rfl ?_ | refine Br.ff (isEmptyCons _ _) ?_)
     | (refine Side.mk ?_ ?_; focus (first | omega | (dsimp only [InR, Int.reduceToNat, IntKind.bits, Int.reducePow]; omega) | (simp only [h1]; omega) | (simp [CC]; done) | (constructor <;> omega)))
     | (refine Br.mk ?_ ?_ <;> intro hb <;> (try simp only [ZZ] at hb) <;> (first | omega | skip))
     | refine Src.whole ⟨rfl, rfl⟩ ?_ | refine FrzV.whole ?_
     | refine CallW.use (hsp) ?_) <;> conv => whnf)
    exact CLe.eq rfl
  | false =>
    have hsp := sl_HasPrefix s p
    rw [hp] at hsp
    repeat' ((first
     | ((with_reducible first | refine Br.dec ?_ ?_ | refine Br.ndec ?_ ?_) <;> intro hb <;> (try simp only [ZZ] at hb) <;> (first | omega | skip))
     | (with_reducible first | refine Br.tt rfl ?_ | refine Br.ff rfl ?_ | refine Br.ff (isEmptyCons _ _) ?_)
     | (refine Side.mk ?_ ?_; focus (first | omega | (dsimp only [InR, Int.reduceToNat, IntKind.bits, Int.reducePow]; omega) | (simp [CC]; done) | (constructor <;> omega)))
     | (refine Br.mk ?_ ?_ <;> intro hb <;> (try simp only [ZZ] at hb) <;> (first | omega | skip))
     | refine Src.whole ⟨rfl, rfl⟩ ?_ | refine FrzV.whole ?_
     | refine CallW.use (hsp) ?_) <;> conv => whnf)
    exact CLe.eq rfl
theorem strings_CutPrefix (s : Str) (p : UInt8) : AbsCall PP GG F.strings_CutPrefix [.p (.str s), .p (.str [p])] [] ⟨.ret (.tup [.p (.str (if preB s p = true then s.drop 1 else s)), .p (.bool (preB s p))]), [], []⟩ := by
  refine absCall_of (pol := polG) mixP F.strings_CutPrefix_is ?_
  conv => whnf
  repeat' ((first
   | ((with_reducible first | refine Br.dec ?_ ?_ | refine Br.ndec ?_ ?_) <;> intro hb <;> (try simp only [ZZ] at hb) <;> (first | omega | skip))
   | (with_reducible first | refine Br.tt rfl ?_ | refine Br.ff rfl ?_ | refine Br.ff (isEmptyCons _ _) ?_)
   | (refine Side.mk ?_ ?_; focus (first | omega | (dsimp only [InR, Int.reduceToNat, IntKind.bits, Int.reducePow]; omega) | (simp [CC]; done) | (constructor <;> omega)))
   | (refine Br.mk ?_ ?_ <;> intro hb <;> (try simp only [ZZ] at hb) <;> (first | omega | skip))
   | refine Src.whole ⟨rfl, rfl⟩ ?_ | refine FrzV.whole ?_
   | refine CallW.use (sl_CutPrefix s p) ?_) <;> conv => whnf)
  exact CLe.eq rfl
theorem digits_loop (s : Str) (hs : s.length ≤ 1073741824) (K : Post) (h0 : K (.exit 0) [(3, .p (.int .i64 (runL s)))] [] []) :
    ∀ (q i : Nat), i + q = s.length → i + runL (s.drop i) = runL s →
      LoopW PP GG 23 0 (loopN F.dec_digits_c 0) [(0, .p (.str s)), (3, .p (.int .i64 i))] [] [] (PostCl 23 K) := by
  intro q
  induction q with
  | zero =>
    intro i hi hR
    rw [List.drop_eq_nil_of_le (by omega), runL, Nat.add_zero] at hR
    subst hR
    refine LoopW.round (pol := polG) mixP ?_
    conv => whnf
    repeat' ((first
     | ((with_reducible first | refine Br.dec ?_ ?_ | refine Br.ndec ?_ ?_) <;> intro hb <;> (try simp only [ZZ] at hb) <;> (first | omega | skip))
     | (with_reducible first | refine Br.tt rfl ?_ | refine Br.ff rfl ?_ | refine Br.ff (isEmptyCons _ _) ?_)
     | (refine Side.mk ?_ ?_; focus (first | omega | (dsimp only [InR, Int.reduceToNat, IntKind.bits, Int.reducePow]; omega) | (simp [CC]; done) | (constructor <;> omega)))
     | (refine Br.mk ?_ ?_ <;> intro hb <;> (try simp only [ZZ] at hb) <;> (first | omega | skip))
     | refine Src.whole ⟨rfl, rfl⟩ ?_ | refine FrzV.whole ?_) <;> conv => whnf)
    · refine PostCl.of (h0) ?_ ?_
      · repeat first | exact trivial | refine ⟨VLe.refl _, ?_⟩
      · repeat first | exact trivial | refine ⟨by decide, ?_⟩
  | succ q ih =>
    intro i hi hR
    obtain ⟨b, hb⟩ : ∃ b, s[i]? = some b := ⟨_, List.getElem?_eq_getElem (show i < s.length by omega)⟩
    have hg : s.getD (Int.toNat ↑i) 0 = b := getD_of (by simpa using hb)
    have hd : dig b = decide (48 ≤ b.toNat ∧ b.toNat ≤ 57) := rfl
    rw [drop_cons hb, runL] at hR
    refine LoopW.round (pol := polG) mixP ?_
    conv => whnf
    repeat' ((first
     | ((with_reducible first | refine Br.dec ?_ ?_ | refine Br.ndec ?_ ?_) <;> intro hb <;> (try simp only [And.intro @hg (ZZ)] at hb) <;> (first | omega | skip))
     | (with_reducible first | refine Br.tt rfl ?_ | refine Br.ff rfl ?_ | refine Br.ff (isEmptyCons _ _) ?_)
     | (refine Side.mk ?_ ?_; focus (first | omega | (dsimp only [InR, Int.reduceToNat, IntKind.bits, Int.reducePow]; omega) | (simp [CC]; done) | (constructor <;> omega)))
     | (refine Br.mk ?_ ?_ <;> intro hb <;> (try simp only [And.intro @hg (ZZ)] at hb) <;> (first | omega | skip))
     | refine Src.whole ⟨rfl, rfl⟩ ?_ | refine FrzV.whole ?_) <;> conv => whnf)
    all_goals
      first
      | (rw [if_pos (by rw [hd, decide_eq_true_eq]; omega)] at hR; refine LoopW.sub (ih (i + 1) (by omega) (by omega)) (by repeat first | exact trivial | refine ⟨VLe.refl _, ?_⟩) (by repeat first | exact trivial | refine ⟨by decide, ?_⟩))
      | (rw [if_neg (by rw [hd, decide_eq_true_eq]; omega), Nat.add_zero] at hR; subst hR; refine PostCl.of (h0) (by repeat first | exact trivial | refine ⟨VLe.refl _, ?_⟩) (by repeat first | exact trivial | refine ⟨by decide, ?_⟩))
theorem dec_digits (s : Str) (hs : s.length ≤ 1073741824) : AbsCall PP GG F.dec_digits [.p (.str s)] [] ⟨.ret (.p (.int .i64 (runL s))), [], []⟩ := by
  refine absCall_of (pol := polG) mixP F.dec_digits_is ?_
  conv => whnf
  refine LoopW.cl ?_
  refine LoopW.sub (digits_loop s hs _ ?_ s.length 0 (by omega) (by simp)) (by repeat first | exact trivial | refine ⟨VLe.refl _, ?_⟩) (by repeat first | exact trivial | refine ⟨by decide, ?_⟩)
  conv => whnf
  exact CLe.eq rfl
theorem trimL_loop (K : Post) (s0 : Str) (h0 : K (.exit 0) [(0, .p (.str (trimL s0)))] [] []) : ∀ (s : Str), s.length ≤ 1073741824 → trimL s = trimL s0 →
      LoopW PP GG 17 0 (loopN F.strings_trimLeftByte_c 0) [(0, .p (.str s)), (1, .p (byteP 48))] [] [] (PostCl 17 K) := by
  intro s
  induction s with
  | nil =>
    intro hs hR
    refine LoopW.round (pol := polG) mixP ?_
    conv => whnf
    repeat' ((first
     | ((with_reducible first | refine Br.dec ?_ ?_ | refine Br.ndec ?_ ?_) <;> intro hb <;> (try simp only [And.intro @List.length_nil (ZZ)] at hb) <;> (first | omega | skip))
     | (with_reducible first | refine Br.tt rfl ?_ | refine Br.ff rfl ?_ | refine Br.ff (isEmptyCons _ _) ?_)
     | (refine Side.mk ?_ ?_; focus (first | omega | (dsimp only [InR, Int.reduceToNat, IntKind.bits, Int.reducePow]; omega) | (simp [CC]; done) | (constructor <;> omega)))
     | (refine Br.mk ?_ ?_ <;> intro hb <;> (try simp only [And.intro @List.length_nil (ZZ)] at hb) <;> (first | omega | skip))
     | refine Src.whole ⟨rfl, rfl⟩ ?_ | refine FrzV.whole ?_) <;> conv => whnf)
    rw [← hR] at h0
    · refine PostCl.of (h0) ?_ ?_
      · repeat first | exact trivial | refine ⟨VLe.refl _, ?_⟩
      · repeat first | exact trivial | refine ⟨by decide, ?_⟩
  | cons b s ih =>
    intro hs hR
    have hl : (b :: s).length = s.length + 1 := rfl
    rw [trimL] at hR
    have hg : (b :: s).getD (Int.toNat 0) 0 = b := rfl
    refine LoopW.round (pol := polG) mixP ?_
    conv => whnf
    repeat' ((first
     | ((with_reducible first | refine Br.dec ?_ ?_ | refine Br.ndec ?_ ?_) <;> intro hb <;> (try simp only [And.intro @hg (ZZ)] at hb) <;> (first | omega | skip))
     | (with_reducible first | refine Br.tt rfl ?_ | refine Br.ff rfl ?_ | refine Br.ff (isEmptyCons _ _) ?_)
     | (refine Side.mk ?_ ?_; focus (first | omega | (dsimp only [InR, Int.reduceToNat, IntKind.bits, Int.reducePow]; omega) | (simp [CC]; done) | (constructor <;> omega)))
     | (refine Br.mk ?_ ?_ <;> intro hb <;> (try simp only [And.intro @hg (ZZ)] at hb) <;> (first | omega | skip))
     | refine Src.whole ⟨rfl, rfl⟩ ?_ | refine FrzV.whole ?_) <;> conv => whnf)
    · rw [if_pos (UInt8.toNat_inj.1 (by omega))] at hR
      refine LoopW.sub (ih (by omega) hR) (by repeat first | exact trivial | refine ⟨VLe.refl _, ?_⟩) (by repeat first | exact trivial | refine ⟨by decide, ?_⟩)
    · rw [if_neg (fun e => hb (by rw [e]))] at hR
      rw [← hR] at h0
      refine PostCl.of (h0) ?_ ?_
      · repeat first | exact trivial | refine ⟨VLe.refl _, ?_⟩
      · repeat first | exact trivial | refine ⟨by decide, ?_⟩
theorem strings_trimLeftByte (s : Str) (hs : s.length ≤ 1073741824) : AbsCall PP GG F.strings_trimLeftByte [.p (.str s), .p (byteP 48)] [] ⟨.ret (.p (.str (trimL s))), [], []⟩ := by
  refine absCall_of (pol := polG) mixP F.strings_trimLeftByte_is ?_
  conv => whnf
  refine LoopW.cl ?_
  refine LoopW.sub (trimL_loop _ s ?_ s hs rfl) (by repeat first | exact trivial | refine ⟨VLe.refl _, ?_⟩) (by repeat first | exact trivial | refine ⟨by decide, ?_⟩)
  conv => whnf
  exact CLe.eq rfl
theorem strings_TrimLeft (s : Str) (hs : s.length ≤ 1073741824) : AbsCall PP GG F.strings_TrimLeft [.p (.str s), .p (.str [48])] [] ⟨.ret (.p (.str (trimL s))), [], []⟩ := by
  have h1 : ([48] : Str).length = 1 := rfl
  have hg : ([48] : Str).getD (Int.toNat 0) 0 = 48 := rfl
  refine absCall_of (pol := polG) mixP F.strings_TrimLeft_is ?_
  conv => whnf
  repeat' ((first
   | ((with_reducible first | refine Br.dec ?_ ?_ | refine Br.ndec ?_ ?_) <;> intro hb <;> (try simp only [And.intro @h1 (And.intro @hg (ZZ))] at hb) <;> (first | omega | skip))
   | (with_reducible first | refine Br.tt rfl ?_ | refine Br.ff rfl ?_ | refine Br.ff (isEmptyCons _ _) ?_)
   | (refine Side.mk ?_ ?_; focus (first | omega | (dsimp only [InR, Int.reduceToNat, IntKind.bits, Int.reducePow]; omega) | (simp [CC]; done) | (constructor <;> omega)))
   | (refine Br.mk ?_ ?_ <;> intro hb <;> (try simp only [And.intro @h1 (And.intro @hg (ZZ))] at hb) <;> (first | omega | skip))
   | refine Src.whole ⟨rfl, rfl⟩ ?_ | refine FrzV.whole ?_
   | refine CallW.use (strings_trimLeftByte s hs) ?_) <;> conv => whnf)
  · exact CLe.retP (by rw [List.eq_nil_of_length_eq_zero hb]; rfl)
  · exact CLe.eq rfl
  · exact absurd (by decide) hb
theorem trimR_loop (K : Post) (R : Str) (h0 : K (.exit 0) [(0, .p (.str R))] [] []) : ∀ (q : Nat) (s : Str), s.length ≤ q → s.length ≤ 1073741824 → trimRn q s = R →
      LoopW PP GG 23 0 (loopN F.strings_trimRightByte_c 0) [(0, .p (.str s)), (1, .p (byteP 48))] [] [] (PostCl 23 K) := by
  intro q
  induction q with
  | zero =>
    intro s hq hs hR
    rw [trimRn] at hR
    subst hR
    refine LoopW.round (pol := polG) mixP ?_
    conv => whnf
    repeat' ((first
     | ((with_reducible first | refine Br.dec ?_ ?_ | refine Br.ndec ?_ ?_) <;> intro hb <;> (try simp only [ZZ] at hb) <;> (first | omega | skip))
     | (with_reducible first | refine Br.tt rfl ?_ | refine Br.ff rfl ?_ | refine Br.ff (isEmptyCons _ _) ?_)
     | (refine Side.mk ?_ ?_; focus (first | omega | (dsimp only [InR, Int.reduceToNat, IntKind.bits, Int.reducePow]; omega) | (simp [CC]; done) | (constructor <;> omega)))
     | (refine Br.mk ?_ ?_ <;> intro hb <;> (try simp only [ZZ] at hb) <;> (first | omega | skip))
     | refine Src.whole ⟨rfl, rfl⟩ ?_ | refine FrzV.whole ?_) <;> conv => whnf)
    · refine PostCl.of (h0) ?_ ?_
      · repeat first | exact trivial | refine ⟨VLe.refl _, ?_⟩
      · repeat first | exact trivial | refine ⟨by decide, ?_⟩
  | succ q ih =>
    intro s hq hs hR
    rw [trimRn] at hR
    have hl : (s.take (s.length - 1)).length = s.length - 1 := by rw [List.length_take]; omega
    have e1 : ((s.length : Int) - 1).toNat = s.length - 1 := by omega
    refine LoopW.round (pol := polG) mixP ?_
    conv => whnf
    repeat' ((first
     | ((with_reducible first | refine Br.dec ?_ ?_ | refine Br.ndec ?_ ?_) <;> intro hb <;> (try simp only [And.intro @e1 (ZZ)] at hb) <;> (first | omega | skip))
     | (with_reducible first | refine Br.tt rfl ?_ | refine Br.ff rfl ?_ | refine Br.ff (isEmptyCons _ _) ?_)
     | (refine Side.mk ?_ ?_; focus (first | omega | (dsimp only [InR, Int.reduceToNat, IntKind.bits, Int.reducePow]; omega) | (simp [CC]; done) | (constructor <;> omega)))
     | (refine Br.mk ?_ ?_ <;> intro hb <;> (try simp only [And.intro @e1 (ZZ)] at hb) <;> (first | omega | skip))
     | refine Src.whole ⟨rfl, rfl⟩ ?_ | refine FrzV.whole ?_) <;> conv => whnf)
    · rw [if_pos ⟨by omega, UInt8.toNat_inj.1 (by omega)⟩] at hR
      rw [e1]
      refine LoopW.sub (ih (s.take (s.length - 1)) (by omega) (by omega) hR) (by repeat first | exact trivial | refine ⟨VLe.refl _, ?_⟩) (by repeat first | exact trivial | refine ⟨by decide, ?_⟩)
    · rw [if_neg (fun e => hb (by rw [e.2]))] at hR
      subst hR
      refine PostCl.of (h0) ?_ ?_
      · repeat first | exact trivial | refine ⟨VLe.refl _, ?_⟩
      · repeat first | exact trivial | refine ⟨by decide, ?_⟩
    · rw [if_neg (fun e => by omega)] at hR
      subst hR
      refine PostCl.of (h0) ?_ ?_
      · repeat first | exact trivial | refine ⟨VLe.refl _, ?_⟩
      · repeat first | exact trivial | refine ⟨by decide, ?_⟩
theorem strings_trimRightByte (s : Str) (hs : s.length ≤ 1073741824) : AbsCall PP GG F.strings_trimRightByte [.p (.str s), .p (byteP 48)] [] ⟨.ret (.p (.str (trimR s))), [], []⟩ := by
  refine absCall_of (pol := polG) mixP F.strings_trimRightByte_is ?_
  conv => whnf
  refine LoopW.cl ?_
  refine LoopW.sub (trimR_loop _ (trimR s) ?_ s.length s (by omega) hs rfl) (by repeat first | exact trivial | refine ⟨VLe.refl _, ?_⟩) (by repeat first | exact trivial | refine ⟨by decide, ?_⟩)
  conv => whnf
  exact CLe.eq rfl
theorem strings_TrimRight (s : Str) (hs : s.length ≤ 1073741824) : AbsCall PP GG F.strings_TrimRight [.p (.str s), .p (.str [48])] [] ⟨.ret (.p (.str (trimR s))), [], []⟩ := by
  have h1 : ([48] : Str).length = 1 := rfl
  have hg : ([48] : Str).getD (Int.toNat 0) 0 = 48 := rfl
  refine absCall_of (pol := polG) mixP F.strings_TrimRight_is ?_
  conv => whnf
  repeat' ((first
   | ((with_reducible first | refine Br.dec ?_ ?_ | refine Br.ndec ?_ ?_) <;> intro hb <;> (try simp only [And.intro @h1 (And.intro @hg (ZZ))] at hb) <;> (first | omega | skip))
   | (with_reducible first | refine Br.tt rfl ?_ | refine Br.ff rfl ?_ | refine Br.ff (isEmptyCons _ _) ?_)
   | (refine Side.mk ?_ ?_; focus (first | omega | (dsimp only [InR, Int.reduceToNat, IntKind.bits, Int.reducePow]; omega) | (simp [CC]; done) | (constructor <;> omega)))
   | (refine Br.mk ?_ ?_ <;> intro hb <;> (try simp only [And.intro @h1 (And.intro @hg (ZZ))] at hb) <;> (first | omega | skip))
   | refine Src.whole ⟨rfl, rfl⟩ ?_ | refine FrzV.whole ?_
   | refine CallW.use (strings_trimRightByte s hs) ?_) <;> conv => whnf)
  · exact CLe.retP (by rw [List.eq_nil_of_length_eq_zero hb]; rfl)
  · exact CLe.eq rfl
  · exact absurd (by decide) hb
theorem dpow_loop (s : Str) (hs : s.length ≤ 1073741824) (hd : ∀ b ∈ s, dig b = true) (less : Bool) (R : Option Int) (K : Post)
    (h0 : ∀ v : Int, R = some v → 0 ≤ v → v ≤ 100000 → K (.exit 0) [(4, .p (.bool less)), (5, .p (.int .i64 v))] [.arr T.uint8 1 (s.map byteP)] [])
    (hr : R = none → K .ret [(2, .p (.int .i64 0)), (3, .p (.bool false))] [.arr T.uint8 1 (s.map byteP)] []) :
    ∀ (q i : Nat) (v : Int), i + q = s.length → 0 ≤ v → v ≤ 100000 → powD (s.drop i) v = R →
      LoopW PP GG 46 0 (loopN F.dec_power_c 0) [(4, .p (.bool less)), (5, .p (.int .i64 v)), (27, .sl 0 0 (s.map byteP).length), (28, .p (.int .i64 (s.map byteP).length)), (29, .p (.int .i64 i))] [.arr T.uint8 1 (s.map byteP)] [] (PostCl 46 K) := by
  have hl : (s.map byteP).length = s.length := by simp
  intro q
  induction q with
  | zero =>
    intro i v hi hv0 hv1 hR
    rw [List.drop_eq_nil_of_le (by omega), powD] at hR
    refine LoopW.round (pol := polG) mixP ?_
    conv => whnf
    repeat' ((first
     | ((with_reducible first | refine Br.dec ?_ ?_ | refine Br.ndec ?_ ?_) <;> intro hb <;> (try simp only [And.intro @hl (ZZ)] at hb) <;> (first | omega | skip))
     | (with_reducible first | refine Br.tt rfl ?_ | refine Br.ff rfl ?_ | refine Br.ff (isEmptyCons _ _) ?_)
     | (refine Side.mk ?_ ?_; focus (first | omega | (dsimp only [InR, Int.reduceToNat, IntKind.bits, Int.reducePow]; omega) | (simp [CC]; done) | (constructor <;> omega)))
     | (refine Br.mk ?_ ?_ <;> intro hb <;> (try simp only [And.intro @hl (ZZ)] at hb) <;> (first | omega | skip))
     | refine Src.whole ⟨rfl, rfl⟩ ?_ | refine FrzV.whole ?_) <;> conv => whnf)
    · refine PostCl.of (h0 v hR.symm hv0 hv1) ?_ ?_
      · repeat first | exact trivial | refine ⟨VLe.refl _, ?_⟩
      · repeat first | exact trivial | refine ⟨by decide, ?_⟩
  | succ q ih =>
    intro i v hi hv0 hv1 hR
    obtain ⟨b, hbx⟩ : ∃ b, s[i]? = some b := ⟨_, List.getElem?_eq_getElem (show i < s.length by omega)⟩
    have hdb := hd b (List.mem_of_getElem? hbx)
    unfold dig at hdb
    rw [decide_eq_true_eq] at hdb
    rw [drop_cons hbx, powD] at hR
    refine LoopW.round (pol := polG) mixP ?_
    conv => whnf
    repeat' ((first
     | ((with_reducible first | refine Br.dec ?_ ?_ | refine Br.ndec ?_ ?_) <;> intro hb <;> (try simp only [And.intro @hl (ZZ)] at hb) <;> (first | omega | skip))
     | (with_reducible first | refine Br.tt rfl ?_ | refine Br.ff rfl ?_ | refine Br.ff (isEmptyCons _ _) ?_)
     | (refine Side.mk ?_ ?_; focus (first | omega | (dsimp only [InR, Int.reduceToNat, IntKind.bits, Int.reducePow]; omega) | exact ⟨rfl, rfl⟩ | (simp [CC]; done) | (constructor <;> omega)))
     | (refine Br.mk ?_ ?_ <;> intro hb <;> (try simp only [And.intro @hl (ZZ)] at hb) <;> (first | omega | skip))
     | refine Src.whole ⟨rfl, rfl⟩ ?_ | refine FrzV.whole ?_
     | (refine ElemA.byte (b := b) (by simpa [plus0] using hbx) ?_)) <;> conv => whnf)
    · rw [if_pos (by omega)] at hR
      refine PostCl.of (hr hR.symm) ?_ ?_
      · repeat first | exact trivial | refine ⟨VLe.refl _, ?_⟩
      · repeat first | exact trivial | refine ⟨by decide, ?_⟩
    · rw [if_neg (by omega)] at hR
      refine LoopW.sub (ih (i + 1) _ (by omega) (by omega) (by omega) hR) (by repeat first | exact trivial | refine ⟨VLe.refl _, ?_⟩) (by repeat first | exact trivial | refine ⟨by decide, ?_⟩)
theorem dpow_4 (less : Bool) (s : Str) (hs : s.length ≤ 1073741824) (R : Int × Bool) (K : Post) (hR : powTail less s = R)
    (h0 : K .ret [(2, .p (.int .i64 R.1)), (3, .p (.bool R.2))] [] [])
    (h1 : K .ret [(2, .p (.int .i64 R.1)), (3, .p (.bool R.2))] [.arr T.uint8 1 (s.map byteP)] []) :
    CutW PP GG 46 0 (tailN F.dec_power_c 4) [(0, .p (.str s)), (4, .p (.bool less))] [] [] (PostCl 46 K) := by
  have hl : (s.map byteP).length = s.length := by simp
  have hr := runL_le s
  unfold powTail at hR
  refine CutW.go (pol := polC []) mixP ?_
  conv => whnf
  repeat' ((first
   | ((with_reducible first | refine Br.dec ?_ ?_ | refine Br.ndec ?_ ?_) <;> intro hb <;> (try simp only [And.intro @hl (ZZ)] at hb) <;> (first | omega | skip))
   | (with_reducible first | refine Br.tt rfl ?_ | refine Br.ff rfl ?_ | refine Br.ff (isEmptyCons _ _) ?_)
   | (refine Side.mk ?_ ?_; focus (first | omega | (dsimp only [InR, Int.reduceToNat, IntKind.bits, Int.reducePow]; omega) | (simp only [hl]; omega) | (simp [CC]; done) | (constructor <;> omega)))
   | (refine Br.mk ?_ ?_ <;> intro hb <;> (try simp only [And.intro @hl (ZZ)] at hb) <;> (first | omega | skip))
   | refine Src.whole ⟨rfl, rfl⟩ ?_ | refine FrzV.whole ?_
   | refine CallW.use (dec_digits s hs) ?_) <;> conv => whnf)
  · rw [if_pos (by omega)] at hR
    subst hR
    refine PostCl.of (h0) ?_ ?_
    · repeat first | exact trivial | refine ⟨VLe.refl _, ?_⟩
    · repeat first | exact trivial | refine ⟨by decide, ?_⟩
  · rw [if_pos (by omega)] at hR
    subst hR
    refine PostCl.of (h0) ?_ ?_
    · repeat first | exact trivial | refine ⟨VLe.refl _, ?_⟩
    · repeat first | exact trivial | refine ⟨by decide, ?_⟩
  · rw [if_neg (by omega)] at hR
    refine LoopW.cl ?_
    refine LoopW.sub (dpow_loop s hs (runL_dig (by omega)) less (powD s 0) _ (fun v hv hv0 hv1 => ?_) (fun hv => ?_) s.length 0 0 (by omega) (by omega) (by omega) rfl) (by repeat first | exact trivial | refine ⟨VLe.refl _, ?_⟩) (by repeat first | exact trivial | refine ⟨by decide, ?_⟩)
    · rw [hv] at hR
      simp only [] at hR
      conv => whnf
      repeat' ((first
       | ((with_reducible first | refine Br.dec ?_ ?_ | refine Br.ndec ?_ ?_) <;> intro hb <;> (try simp only [ZZ] at hb) <;> (first | omega | skip))
       | (with_reducible first | refine Br.tt rfl ?_ | refine Br.ff rfl ?_ | refine Br.ff (isEmptyCons _ _) ?_)
       | (refine Side.mk ?_ ?_; focus (first | omega | (dsimp only [InR, Int.reduceToNat, IntKind.bits, Int.reducePow]; omega) | (simp [CC]; done) | (constructor <;> omega)))
       | (refine Br.mk ?_ ?_ <;> intro hb <;> (try simp only [ZZ] at hb) <;> (first | omega | skip))
       | refine Src.whole ⟨rfl, rfl⟩ ?_ | refine FrzV.whole ?_) <;> conv => whnf)
      · rw [if_pos (by assumption)] at hR
        subst hR
        rw [InR.wrap (by simp only [InR]; omega), Int.zero_sub]
        refine PostCl.of (h1) ?_ ?_
        · repeat first | exact trivial | refine ⟨VLe.refl _, ?_⟩
        · repeat first | exact trivial | refine ⟨by decide, ?_⟩
      · rw [if_neg (by simp [*])] at hR
        subst hR
        refine PostCl.of (h1) ?_ ?_
        · repeat first | exact trivial | refine ⟨VLe.refl _, ?_⟩
        · repeat first | exact trivial | refine ⟨by decide, ?_⟩
    · rw [hv] at hR
      subst hR
      conv => whnf
      refine PostCl.of (h1) ?_ ?_
      · repeat first | exact trivial | refine ⟨VLe.refl _, ?_⟩
      · repeat first | exact trivial | refine ⟨by decide, ?_⟩
theorem dec_power (s : Str) (hs : s.length ≤ 1073741824) : AbsCall PP GG F.dec_power [.p (.str s)] [] ⟨.ret (.tup [.p (.int .i64 (decPow s).1), .p (.bool (decPow s).2)]), [], []⟩ := by
  have hl1 : (s.drop 1).length = s.length - 1 := List.length_drop
  have hD : decPow s = if preB s 45 = true then powTail true (s.drop 1) else if preB s 43 = true then powTail false (s.drop 1) else powTail false s := rfl
  refine absCall_of (pol := polC [4]) mixP F.dec_power_is ?_
  conv => whnf
  repeat' ((first
   | ((with_reducible first | refine Br.dec ?_ ?_ | refine Br.ndec ?_ ?_) <;> intro hb <;> (try simp only [ZZ] at hb) <;> (first | omega | skip))
   | (with_reducible first | refine Br.tt rfl ?_ | refine Br.ff rfl ?_ | refine Br.ff (isEmptyCons _ _) ?_)
   | (refine Side.mk ?_ ?_; focus (first | omega | (dsimp only [InR, Int.reduceToNat, IntKind.bits, Int.reducePow]; omega) | exact ⟨by decide, by have := preB_len (by assumption); omega⟩ | (simp [CC]; done) | (constructor <;> omega)))
   | (refine Br.mk ?_ ?_ <;> intro hb <;> (try simp only [ZZ] at hb) <;> (first | omega | skip))
   | refine Src.whole ⟨rfl, rfl⟩ ?_ | refine FrzV.whole ?_
   | refine CallW.use (strings_HasPrefix s 45) ?_
   | refine CallW.use (strings_HasPrefix s 43) ?_) <;> conv => whnf)
  all_goals refine CutW.cl ?_
  · refine CutW.sub (dpow_4 (preB s 45) (s.drop 1) (by omega) (decPow s) _ (by rw [hD, if_pos hb, hb]) ?_ ?_) (by repeat first | exact trivial | refine ⟨VLe.refl _, ?_⟩) (by repeat first | exact trivial | refine ⟨by decide, ?_⟩)
    · conv => whnf
      exact CLe.eq rfl
    · conv => whnf
      exact CLe.eq rfl
  · rename_i h45
    refine CutW.sub (dpow_4 (preB s 45) (s.drop 1) (by omega) (decPow s) _ (by rw [hD, if_neg (by rw [h45]; simp), if_pos hb, h45]) ?_ ?_) (by repeat first | exact trivial | refine ⟨VLe.refl _, ?_⟩) (by repeat first | exact trivial | refine ⟨by decide, ?_⟩)
    · conv => whnf
      exact CLe.eq rfl
    · conv => whnf
      exact CLe.eq rfl
  · rename_i h45
    refine CutW.sub (dpow_4 (preB s 45) s (by omega) (decPow s) _ (by rw [hD, if_neg (by rw [h45]; simp), if_neg (by rw [hb]; simp), h45]) ?_ ?_) (by repeat first | exact trivial | refine ⟨VLe.refl _, ?_⟩) (by repeat first | exact trivial | refine ⟨by decide, ?_⟩)
    · conv => whnf
      exact CLe.eq rfl
    · conv => whnf
      exact CLe.eq rfl
theorem parse_21 (less : Bool) (w p : Str) (e : Int) (hw : w.length + p.length ≤ 400) (he : -100000 ≤ e ∧ e ≤ 100000) (R : Dnum) (K : Post) (hR : decE less w p e = R)
    (h0 : K .ret [(2, .ptr 0 0), (3, .p (.bool R.2))] [.var T.dec_number (.p (.agg [.bool R.1.1, .str R.1.2.1, .int .i64 R.1.2.2]))] []) :
    CutW PP GG 103 0 (tailN F.dec_parse_c 21) [(2, .ptr 0 0), (5, .p (.bool less)), (7, .p (.str w)), (8, .p (.str p)), (9, .p (.int .i64 e))] [.var T.dec_number (.p (.agg [.bool false, .str [], .int .i64 0]))] [] (PostCl 103 K) := by
  have hl : (w ++ p).length = w.length + p.length := List.length_append
  have ht := trimL_len (w ++ p)
  unfold decE at hR
  refine CutW.go (pol := polC []) mixP ?_
  conv => whnf
  repeat' ((first
   | ((with_reducible first | refine Br.dec ?_ ?_ | refine Br.ndec ?_ ?_) <;> intro hb <;> (try simp only [ZZ] at hb) <;> (first | omega | skip))
   | (with_reducible first | refine Br.tt rfl ?_ | refine Br.ff rfl ?_ | refine Br.ff (isEmptyCons _ _) ?_)
   | (refine Side.mk ?_ ?_; focus (first | omega | (dsimp only [InR, Int.reduceToNat, IntKind.bits, Int.reducePow]; omega) | (simp only [hl]; omega) | (simp [CC]; done) | (constructor <;> omega)))
   | (refine Br.mk ?_ ?_ <;> intro hb <;> (try simp only [ZZ] at hb) <;> (first | omega | skip))
   | refine Src.whole ⟨rfl, rfl⟩ ?_ | refine FrzV.whole ?_
   | refine CallW.use (strings_TrimLeft (w ++ p) (by omega)) ?_
   | refine CallW.use (strings_TrimRight (trimL (w ++ p)) (by omega)) ?_) <;> conv => whnf)
  all_goals
    first
    | (rw [if_pos (by omega)] at hR; subst hR; refine PostCl.of (h0) (by repeat first | exact trivial | refine ⟨VLe.refl _, ?_⟩) (by repeat first | exact trivial | refine ⟨by decide, ?_⟩))
    | (rw [if_neg (by omega)] at hR; subst hR; refine PostCl.of (h0) (by repeat first | exact trivial | refine ⟨VLe.refl _, ?_⟩) (by repeat first | exact trivial | refine ⟨by decide, ?_⟩))
theorem parse_14 (less : Bool) (w p s : Str) (hw : w.length + p.length + s.length ≤ 400) (R : Dnum) (K : Post) (hR : decD less w p s = R)
    (h0 : K .ret [(2, .ptr 0 0), (3, .p (.bool R.2))] [.var T.dec_number (.p (.agg [.bool R.1.1, .str R.1.2.1, .int .i64 R.1.2.2]))] []) :
    CutW PP GG 103 0 (tailN F.dec_parse_c 14) [(2, .ptr 0 0), (4, .p (.str s)), (5, .p (.bool less)), (7, .p (.str w)), (8, .p (.str p)), (9, .p (.int .i64 0))] [.var T.dec_number (.p (.agg [.bool false, .str [], .int .i64 0]))] [] (PostCl 103 K) := by
  have hl1 : (s.drop 1).length = s.length - 1 := List.length_drop
  unfold decD b0 at hR
  refine CutW.go (pol := polC [21]) mixP ?_
  conv => whnf
  repeat' ((first
   | ((with_reducible first | refine Br.dec ?_ ?_ | refine Br.ndec ?_ ?_) <;> intro hb <;> (try simp only [And.intro NN (ZZ)] at hb) <;> (first | omega | skip))
   | (with_reducible first | refine Br.tt rfl ?_ | refine Br.ff rfl ?_ | refine Br.ff (isEmptyCons _ _) ?_)
   | (refine Side.mk ?_ ?_; focus (first | omega | (dsimp only [InR, Int.reduceToNat, IntKind.bits, Int.reducePow]; omega) | (simp only [Int.reduceToNat, hl1]; omega) | (simp [CC]; done) | (constructor <;> omega)))
   | (refine Br.mk ?_ ?_ <;> intro hb <;> (try simp only [And.intro NN (ZZ)] at hb) <;> (first | omega | skip))
   | refine Src.whole ⟨rfl, rfl⟩ ?_ | refine FrzV.whole ?_
   | refine CallW.use (dec_power (s.drop 1) (by omega)) ?_) <;> conv => whnf)
  all_goals
    first
    | (rw [if_pos (by omega)] at hR; refine CutW.sub (parse_21 less w p 0 (by omega) (by omega) R K hR h0) (by repeat first | exact trivial | refine ⟨VLe.refl _, ?_⟩) (by repeat first | exact trivial | refine ⟨by decide, ?_⟩))
    | (rw [if_neg (by omega), if_pos (by omega)] at hR; subst hR; refine PostCl.of (h0) (by repeat first | exact trivial | refine ⟨VLe.refl _, ?_⟩) (by repeat first | exact trivial | refine ⟨by decide, ?_⟩))
    | (rw [if_neg (by omega), if_neg (by omega), if_pos (by assumption)] at hR; subst hR; refine PostCl.of (h0) (by repeat first | exact trivial | refine ⟨VLe.refl _, ?_⟩) (by repeat first | exact trivial | refine ⟨by decide, ?_⟩))
    | (rw [if_neg (by omega), if_neg (by omega), if_neg (nf (by assumption))] at hR; refine CutW.sub (parse_21 less w p (decPow (s.drop 1)).1 (by omega) (decPow_bound _) R K hR h0) (by repeat first | exact trivial | refine ⟨VLe.refl _, ?_⟩) (by repeat first | exact trivial | refine ⟨by decide, ?_⟩))
theorem parse_9 (less : Bool) (w s : Str) (hw : w.length + s.length ≤ 400) (R : Dnum) (K : Post) (hR : decC less w s = R)
    (h0 : K .ret [(2, .ptr 0 0), (3, .p (.bool R.2))] [.var T.dec_number (.p (.agg [.bool R.1.1, .str R.1.2.1, .int .i64 R.1.2.2]))] []) :
    CutW PP GG 103 0 (tailN F.dec_parse_c 9) [(2, .ptr 0 0), (4, .p (.str s)), (5, .p (.bool less)), (7, .p (.str w)), (8, .p (.str [])), (9, .p (.int .i64 0))] [.var T.dec_number (.p (.agg [.bool false, .str [], .int .i64 0]))] [] (PostCl 103 K) := by
  have hl1 : (s.drop 1).length = s.length - 1 := List.length_drop
  have hr1 := runL_le (s.drop 1)
  have e1 : List.take (((runL (s.drop 1) : Int) + 1).toNat - 1) (s.drop 1) = List.take (runL (s.drop 1)) (s.drop 1) := by congr 1 <;> omega
  have e2 : List.drop ((runL (s.drop 1) : Int) + 1).toNat s = List.drop (runL (s.drop 1)) (s.drop 1) := by rw [List.drop_drop]; congr 1 <;> omega
  have e5 : 1 ≤ s.length → w.length + (List.take (((runL (s.drop 1) : Int) + 1).toNat - 1) (s.drop 1)).length + (List.drop ((runL (s.drop 1) : Int) + 1).toNat s).length ≤ 400 := by intro h; rw [e1, e2, take_run, List.length_drop]; omega
  unfold decC at hR
  refine CutW.go (pol := polC [14]) mixP ?_
  conv => whnf
  repeat' ((first
   | ((with_reducible first | refine Br.dec ?_ ?_ | refine Br.ndec ?_ ?_) <;> intro hb <;> (try simp only [And.intro NN (ZZ)] at hb) <;> (first | omega | skip))
   | (with_reducible first | refine Br.tt rfl ?_ | refine Br.ff rfl ?_ | refine Br.ff (isEmptyCons _ _) ?_)
   | (refine Side.mk ?_ ?_; focus (first | omega | (dsimp only [InR, Int.reduceToNat, IntKind.bits, Int.reducePow]; omega) | exact ⟨by decide, by have := preB_len (by assumption); omega⟩ | (have := preB_len (by assumption); simp only [Int.reduceToNat, hl1]; omega) | (simp [CC]; done) | (constructor <;> omega)))
   | (refine Br.mk ?_ ?_ <;> intro hb <;> (try simp only [And.intro NN (ZZ)] at hb) <;> (first | omega | skip))
   | refine Src.whole ⟨rfl, rfl⟩ ?_ | refine FrzV.whole ?_
   | refine CallW.use (strings_HasPrefix s 46) ?_
   | refine CallW.use (dec_digits (s.drop 1) (by omega)) ?_) <;> conv => whnf)
  all_goals
    first
    | (rw [if_pos (by assumption), if_pos (by omega)] at hR; subst hR; refine PostCl.of (h0) (by repeat first | exact trivial | refine ⟨VLe.refl _, ?_⟩) (by repeat first | exact trivial | refine ⟨by decide, ?_⟩))
    | (rw [if_pos (by assumption), if_neg (by omega), ← e1, ← e2] at hR; refine CutW.sub (parse_14 less w _ _ (e5 (preB_len (by assumption))) R K hR h0) (by repeat first | exact trivial | refine ⟨VLe.refl _, ?_⟩) (by repeat first | exact trivial | refine ⟨by decide, ?_⟩))
    | (rw [if_neg (nt (by assumption))] at hR; refine CutW.sub (parse_14 less w [] s (by simp only [List.length_nil]; omega) R K hR h0) (by repeat first | exact trivial | refine ⟨VLe.refl _, ?_⟩) (by repeat first | exact trivial | refine ⟨by decide, ?_⟩))
theorem parse_4 (less : Bool) (s : Str) (hw : s.length ≤ 400) (R : Dnum) (K : Post) (hR : decB less s = R)
    (h0 : K .ret [(2, .ptr 0 0), (3, .p (.bool R.2))] [.var T.dec_number (.p (.agg [.bool R.1.1, .str R.1.2.1, .int .i64 R.1.2.2]))] []) :
    CutW PP GG 103 0 (tailN F.dec_parse_c 4) [(2, .ptr 0 0), (4, .p (.str s)), (5, .p (.bool less))] [.var T.dec_number (.p (.agg [.bool false, .str [], .int .i64 0]))] [] (PostCl 103 K) := by
  have hr := runL_le s
  have hwl : (s.take (runL s)).length = runL s := take_run s
  have hul : (s.drop (runL s)).length = s.length - runL s := List.length_drop
  unfold decB b0 at hR
  refine CutW.go (pol := polC [9]) mixP ?_
  conv => whnf
  repeat' ((first
   | ((with_reducible first | refine Br.dec ?_ ?_ | refine Br.ndec ?_ ?_) <;> intro hb <;> (try simp only [And.intro NN (And.intro @Int.toNat_natCast (And.intro @hwl (ZZ)))] at hb) <;> (first | omega | skip))
   | (with_reducible first | refine Br.tt rfl ?_ | refine Br.ff rfl ?_ | refine Br.ff (isEmptyCons _ _) ?_)
   | (refine Side.mk ?_ ?_; focus (first | omega | (dsimp only [InR, Int.reduceToNat, IntKind.bits, Int.reducePow]; omega) | (simp only [And.intro NN (And.intro @Int.toNat_natCast hwl)]; omega) | (simp [CC]; done) | (constructor <;> omega)))
   | (refine Br.mk ?_ ?_ <;> intro hb <;> (try simp only [And.intro NN (And.intro @Int.toNat_natCast (And.intro @hwl (ZZ)))] at hb) <;> (first | omega | skip))
   | refine Src.whole ⟨rfl, rfl⟩ ?_ | refine FrzV.whole ?_
   | refine CallW.use (dec_digits s (by omega)) ?_) <;> conv => whnf)
  all_goals
    first
    | (rw [if_pos (by omega)] at hR; subst hR; refine PostCl.of (h0) (by repeat first | exact trivial | refine ⟨VLe.refl _, ?_⟩) (by repeat first | exact trivial | refine ⟨by decide, ?_⟩))
    | (rw [if_neg (by omega)] at hR; refine CutW.sub (parse_9 less (s.take (runL s)) (s.drop (runL s)) (by omega) R K hR h0) (by repeat first | exact trivial | refine ⟨VLe.refl _, ?_⟩) (by repeat first | exact trivial | refine ⟨by decide, ?_⟩))
theorem dec_parse (s : Str) (hs : s.length ≤ 1073741824) : AbsCall PP GG F.dec_parse [.p (.str s)] [] ⟨.ret (.tup [.p (.agg [.bool (decParse s).1.1, .str (decParse s).1.2.1, .int .i64 (decParse s).1.2.2]), .p (.bool (decParse s).2)]), [], []⟩ := by
  have hD : decParse s = if 400 < s.length then noNum else decB (preB s 45) (if preB s 45 = true then s.drop 1 else s) := rfl
  have hle : (if preB s 45 = true then s.drop 1 else s).length ≤ s.length := by split <;> simp
  refine absCall_of (pol := polC [4]) mixP F.dec_parse_is ?_
  conv => whnf
  repeat' ((first
   | ((with_reducible first | refine Br.dec ?_ ?_ | refine Br.ndec ?_ ?_) <;> intro hb <;> (try simp only [ZZ] at hb) <;> (first | omega | skip))
   | (with_reducible first | refine Br.tt rfl ?_ | refine Br.ff rfl ?_ | refine Br.ff (isEmptyCons _ _) ?_)
   | (refine Side.mk ?_ ?_; focus (first | omega | (dsimp only [InR, Int.reduceToNat, IntKind.bits, Int.reducePow]; omega) | (simp [CC]; done) | (constructor <;> omega)))
   | (refine Br.mk ?_ ?_ <;> intro hb <;> (try simp only [ZZ] at hb) <;> (first | omega | skip))
   | refine Src.whole ⟨rfl, rfl⟩ ?_ | refine FrzV.whole ?_
   | refine CallW.use (strings_CutPrefix s 45) ?_) <;> conv => whnf)
  · exact CLe.eq (by rw [hD, if_pos (by omega)]; rfl)
  · refine CutW.cl ?_
    refine CutW.sub (parse_4 (preB s 45) (if preB s 45 = true then s.drop 1 else s) (by omega) (decParse s) _ (by rw [hD]; exact (if_neg (by omega)).symm) ?_) (by repeat first | exact trivial | refine ⟨VLe.refl _, ?_⟩) (by repeat first | exact trivial | refine ⟨by decide, ?_⟩)
    conv => whnf
    exact CLe.eq rfl
theorem dec_Good (s : Str) (hs : s.length ≤ 1073741824) : AbsCall PP GG F.dec_Good [.p (.str s)] [] ⟨.ret (.p (.bool (decParse s).2)), [], []⟩ := by
  refine absCall_of (pol := polG) mixP F.dec_Good_is ?_
  conv => whnf
  repeat' ((first
   | ((with_reducible first | refine Br.dec ?_ ?_ | refine Br.ndec ?_ ?_) <;> intro hb <;> (try simp only [ZZ] at hb) <;> (first | omega | skip))
   | (with_reducible first | refine Br.tt rfl ?_ | refine Br.ff rfl ?_ | refine Br.ff (isEmptyCons _ _) ?_)
   | (refine Side.mk ?_ ?_; focus (first | omega | (dsimp only [InR, Int.reduceToNat, IntKind.bits, Int.reducePow]; omega) | (simp [CC]; done) | (constructor <;> omega)))
   | (refine Br.mk ?_ ?_ <;> intro hb <;> (try simp only [ZZ] at hb) <;> (first | omega | skip))
   | refine Src.whole ⟨rfl, rfl⟩ ?_ | refine FrzV.whole ?_
   | refine CallW.use (dec_parse s hs) ?_) <;> conv => whnf)
  exact CLe.eq rfl
theorem ElemZ.byte {s : Str} {i : Nat} {K : PV → Prop} {b : UInt8} (h : s[i]? = some b) (k : K (byteP b)) : ElemZ (s.map byteP) i 1 K := ⟨_, by rw [List.getElem?_map, h]; rfl, rfl, k⟩
theorem value_letters (s : Str) (hs : s.length ≤ 1073741824) : AbsCall PP GG F.value_letters [.p (.str s)] [] ⟨.ret (.p (.int .i64 (if (utfValid s).2 = false then 3 else if 4096 < s.length then 2 else 0))), [], []⟩ := by
  refine absCall_of (pol := polG) mixP F.value_letters_is ?_
  conv => whnf
  repeat' ((first
   | ((with_reducible first | refine Br.dec ?_ ?_ | refine Br.ndec ?_ ?_) <;> intro hb <;> (try simp only [ZZ] at hb) <;> (first | omega | skip))
   | (with_reducible first | refine Br.tt rfl ?_ | refine Br.ff rfl ?_ | refine Br.ff (isEmptyCons _ _) ?_)
   | (refine Side.mk ?_ ?_; focus (first | omega | (dsimp only [InR, Int.reduceToNat, IntKind.bits, Int.reducePow]; omega) | (simp [CC]; done) | (constructor <;> omega)))
   | (refine Br.mk ?_ ?_ <;> intro hb <;> (try simp only [ZZ] at hb) <;> (first | omega | skip))
   | refine Src.whole ⟨rfl, rfl⟩ ?_ | refine FrzV.whole ?_
   | refine CallW.use (utf_Valid s hs) ?_) <;> conv => whnf)
  · exact CLe.retP (by rw [if_pos hb])
  · rename_i h
    exact CLe.retP (by rw [if_neg (nf h), if_pos (by omega)])
  · rename_i h
    exact CLe.retP (by rw [if_neg (nf h), if_neg (by omega)])
theorem value_stamp_1 (c : UInt8) : AbsCall PP GG F.value_stamp_1 [.p (byteP c)] [] ⟨.ret (.p (.bool (oddB c))), [], []⟩ := by
  have hc := UInt8.toNat_lt c
  refine absCall_of (pol := polG) mixP F.value_stamp_1_is ?_
  conv => whnf
  repeat' ((first
   | ((with_reducible first | refine Br.dec ?_ ?_ | refine Br.ndec ?_ ?_) <;> intro hb <;> (try simp only [ZZ] at hb) <;> (first | omega | skip))
   | (with_reducible first | refine Br.tt rfl ?_ | refine Br.ff rfl ?_ | refine Br.ff (isEmptyCons _ _) ?_)
   | (refine Side.mk ?_ ?_; focus (first | omega | (dsimp only [InR, Int.reduceToNat, IntKind.bits, Int.reducePow]; omega) | (simp [CC]; done) | (constructor <;> omega)))
   | (refine Br.mk ?_ ?_ <;> intro hb <;> (try simp only [ZZ] at hb) <;> (first | omega | skip))
   | refine Src.whole ⟨rfl, rfl⟩ ?_ | refine FrzV.whole ?_) <;> conv => whnf)
  all_goals exact CLe.retP (by simp only [PV.bool.injEq, oddB]; first | (symm; rw [decide_eq_false_iff_not]; omega) | (symm; rw [decide_eq_true_eq]; omega) | (rw [decide_eq_decide]; omega))
theorem idx_loop (s : Str) (hs : s.length ≤ 1073741824) (R : Int) (K : Post)
    (h0 : R = -1 → K (.exit 0) [] [] [])
    (hr : ∀ i : Int, R = i → 0 ≤ i → K .ret [(4, .p (.int .i64 i))] [] []) :
    ∀ (q i : Nat), i + q = s.length → findI (s.drop i) i = R →
      LoopW PP GG 19 0 (loopN F.slices_IndexFunc_byte_byte_c 0) [(0, .p (.lst false (s.map byteP))), (1, .p (.fn (.func F.value_stamp_1))), (7, .p (.int .i64 s.length)), (8, .p (.int .i64 i))] [] [] (PostCl 19 K) := by
  have hl : (s.map byteP).length = s.length := by simp
  intro q
  induction q with
  | zero =>
    intro i hi hR
    rw [List.drop_eq_nil_of_le (by omega), findI] at hR
    refine LoopW.round (pol := polG) mixP ?_
    conv => whnf
    repeat' ((first
     | ((with_reducible first | refine Br.dec ?_ ?_ | refine Br.ndec ?_ ?_) <;> intro hb <;> (try simp only [ZZ] at hb) <;> (first | omega | skip))
     | (with_reducible first | refine Br.tt rfl ?_ | refine Br.ff rfl ?_ | refine Br.ff (isEmptyCons _ _) ?_)
     | (refine Side.mk ?_ ?_; focus (first | omega | (dsimp only [InR, Int.reduceToNat, IntKind.bits, Int.reducePow]; omega) | (simp [CC]; done) | (constructor <;> omega)))
     | (refine Br.mk ?_ ?_ <;> intro hb <;> (try simp only [ZZ] at hb) <;> (first | omega | skip))
     | refine Src.whole ⟨rfl, rfl⟩ ?_ | refine FrzV.whole ?_) <;> conv => whnf)
    · refine PostCl.of (h0 hR.symm) ?_ ?_
      · repeat first | exact trivial | refine ⟨VLe.refl _, ?_⟩
      · repeat first | exact trivial | refine ⟨by decide, ?_⟩
  | succ q ih =>
    intro i hi hR
    obtain ⟨b, hbx⟩ : ∃ b, s[i]? = some b := ⟨_, List.getElem?_eq_getElem (show i < s.length by omega)⟩
    rw [drop_cons hbx, findI] at hR
    refine LoopW.round (pol := polG) mixP ?_
    conv => whnf
    repeat' ((first
     | ((with_reducible first | refine Br.dec ?_ ?_ | refine Br.ndec ?_ ?_) <;> intro hb <;> (try simp only [And.intro @hl (ZZ)] at hb) <;> (first | omega | skip))
     | (with_reducible first | refine Br.tt rfl ?_ | refine Br.ff rfl ?_ | refine Br.ff (isEmptyCons _ _) ?_)
     | (refine Side.mk ?_ ?_; focus (first | omega | (dsimp only [InR, Int.reduceToNat, IntKind.bits, Int.reducePow]; omega) | exact ⟨rfl, rfl⟩ | (simp [CC]; done) | (constructor <;> omega)))
     | (refine Br.mk ?_ ?_ <;> intro hb <;> (try simp only [And.intro @hl (ZZ)] at hb) <;> (first | omega | skip))
     | refine Src.whole ⟨rfl, rfl⟩ ?_ | refine FrzV.whole ?_
     | refine CallW.use (value_stamp_1 b) ?_
     | (refine ElemZ.byte (b := b) (by simpa using hbx) ?_)) <;> conv => whnf)
    · rw [if_pos hb] at hR
      refine PostCl.of (hr i hR.symm (by omega)) ?_ ?_
      · repeat first | exact trivial | refine ⟨VLe.refl _, ?_⟩
      · repeat first | exact trivial | refine ⟨by decide, ?_⟩
    · rw [if_neg (nt hb)] at hR
      refine LoopW.sub (ih (i + 1) (by omega) hR) (by repeat first | exact trivial | refine ⟨VLe.refl _, ?_⟩) (by repeat first | exact trivial | refine ⟨by decide, ?_⟩)
theorem slices_IndexFunc (s : Str) (hs : s.length ≤ 1073741824) : AbsCall PP GG F.slices_IndexFunc_byte_byte [.p (.lst false (s.map byteP)), .p (.fn (.func F.value_stamp_1))] [] ⟨.ret (.p (.int .i64 (findI s 0))), [], []⟩ := by
  have hl : (s.map byteP).length = s.length := by simp
  refine absCall_of (pol := polG) mixP F.slices_IndexFunc_byte_byte_is ?_
  conv => whnf
  rw [hl]
  refine LoopW.cl ?_
  refine LoopW.sub (idx_loop s hs (findI s 0) _ (fun h => ?_) (fun i h hi => ?_) s.length 0 (by omega) rfl) (by repeat first | exact trivial | refine ⟨VLe.refl _, ?_⟩) (by repeat first | exact trivial | refine ⟨by decide, ?_⟩)
  · conv => whnf
    exact CLe.eq (by rw [h])
  · conv => whnf
    exact CLe.eq (by rw [h])
theorem slices_ContainsFunc (s : Str) (hs : s.length ≤ 1073741824) : AbsCall PP GG F.slices_ContainsFunc_byte_byte [.p (.lst false (s.map byteP)), .p (.fn (.func F.value_stamp_1))] [] ⟨.ret (.p (.bool (decide (0 ≤ findI s 0)))), [], []⟩ := by
  refine absCall_of (pol := polG) mixP F.slices_ContainsFunc_byte_byte_is ?_
  conv => whnf
  repeat' ((first
   | ((with_reducible first | refine Br.dec ?_ ?_ | refine Br.ndec ?_ ?_) <;> intro hb <;> (try simp only [ZZ] at hb) <;> (first | omega | skip))
   | (with_reducible first | refine Br.tt rfl ?_ | refine Br.ff rfl ?_ | refine Br.ff (isEmptyCons _ _) ?_)
   | (refine Side.mk ?_ ?_; focus (first | omega | (dsimp only [InR, Int.reduceToNat, IntKind.bits, Int.reducePow]; omega) | (simp [CC]; done) | (constructor <;> omega)))
   | (refine Br.mk ?_ ?_ <;> intro hb <;> (try simp only [ZZ] at hb) <;> (first | omega | skip))
   | refine Src.whole ⟨rfl, rfl⟩ ?_ | refine FrzV.whole ?_
   | refine CallW.use (slices_IndexFunc s hs) ?_) <;> conv => whnf)
  exact CLe.eq rfl
theorem value_stamp (s : Str) (hs : s.length ≤ 1073741824) : AbsCall PP GG F.value_stamp [.p (.str s)] [] ⟨.ret (.p (.bool (stampOk s))), [], []⟩ := by
  have hf := findI_neg s 0 (by omega)
  have hS : stampOk s = decide (1 ≤ s.length ∧ s.length ≤ 64 ∧ ∀ b ∈ s, 32 ≤ b.toNat ∧ b.toNat ≤ 126) := rfl
  refine absCall_of (pol := polG) mixP F.value_stamp_is ?_
  conv => whnf
  repeat' ((first
   | ((with_reducible first | refine Br.dec ?_ ?_ | refine Br.ndec ?_ ?_) <;> intro hb <;> (try simp only [ZZ] at hb) <;> (first | omega | skip))
   | (with_reducible first | refine Br.tt rfl ?_ | refine Br.ff rfl ?_ | refine Br.ff (isEmptyCons _ _) ?_)
   | (refine Side.mk ?_ ?_; focus (first | omega | (dsimp only [InR, Int.reduceToNat, IntKind.bits, Int.reducePow]; omega) | (simp [CC]; done) | (constructor <;> omega)))
   | (refine Br.mk ?_ ?_ <;> intro hb <;> (try simp only [ZZ] at hb) <;> (first | omega | skip))
   | refine Src.whole ⟨rfl, rfl⟩ ?_ | refine FrzV.whole ?_
   | refine CallW.use (slices_ContainsFunc s hs) ?_) <;> conv => whnf)
  · refine CLe.retP ?_
    rw [hS, PV.bool.injEq, ← decide_not, decide_eq_decide, ← hf]
    omega
  · exact CLe.retP (by rw [hS, decide_eq_false (by omega)])
  · exact CLe.retP (by rw [hS, decide_eq_false (by omega)])
end Go.Proofs.YtaoejccgdpppgaaGreatDoor
end

section
namespace Go.Am
open Go
def leqS (a b : Str) : Bool := Op.bytesLess a b || decide (a = b)
def ownBad (k n : Int) (ls ll lm : Nat) : Prop := (k ≠ 1 ∧ k ≠ 2 ∧ n ≠ 0) ∨ (k ≠ 3 ∧ k ≠ 4 ∧ k ≠ 7 ∧ ls ≠ 0) ∨ (k ≠ 5 ∧ ll ≠ 0) ∨ (k ≠ 6 ∧ lm ≠ 0)
instance (k n : Int) (ls ll lm : Nat) : Decidable (ownBad k n ls ll lm) := by unfold ownBad; infer_instance
def nodeOk (k n : Int) (s : Str) : Bool :=
  if k = 0 ∨ k = 2 then true else if k = 1 then decide (n = 0 ∨ n = 1) else if k = 3 then numL s && !(refIntL s).2 else if k = 4 then strOk s else if k = 7 then stampOk s else decide (k = 5 ∨ k = 6)
mutual
def plainT : Tree → Bool
  | .mk k n s l m => if ownBad k n s.length l.length m.length then false else nodeOk k n s && (plainL l && plainM none m)
def plainL : List Tree → Bool
  | [] => true
  | t :: l => plainT t && plainL l
def plainM : Option Str → List (Str × Tree) → Bool
  | _, [] => true
  | o, p :: m => plainP o p && plainM (some p.1) m
def plainP : Option Str → Str × Tree → Bool
  | o, (k, t) => strOk k && (!(match o with | none => false | some p => leqS k p) && plainT t)
end
theorem plainT_eq (t : Tree) : plainT t = if ownBad t.kind t.n t.s.length t.l.length t.m.length then false else nodeOk t.kind t.n t.s && (plainL t.l && plainM none t.m) := by cases t; rw [plainT]; rfl
end Go.Am
end

section
namespace Go.Proofs.YtaoejccgdpppgaaGreatDoor
open Go Go.Am
set_option maxRecDepth 100000
end Go.Proofs.YtaoejccgdpppgaaGreatDoor
end

section
namespace Go.Am
open Go
def okP (R : Parts) : Bool := R.2.2.2.2 && (powerL R.2.2.2.1).2
theorem numL_eq (s : Str) : numL s = (okP (numParts s) && decide (s.length ≤ 400)) := by
  unfold numL formL okP
  cases (numParts s).2.2.2.2 <;> cases (powerL (numParts s).2.2.2.1).2 <;> rfl
theorem preB_iff (s : Str) (p : UInt8) : preB s p = true ↔ 0 < s.length ∧ b0 s = p.toNat := by
  unfold preB b0
  rw [decide_eq_true_eq]
  cases s with
  | nil => simp
  | cons b s => simp [UInt8.toNat_inj]
theorem decE_ok (less : Bool) (w p : Str) (e : Int) : (decE less w p e).2 = true := by unfold decE; split <;> rfl
theorem powL_powD : ∀ (s : Str) (v : Int), (∀ b ∈ s, dig b = true) → powL s v = powD s v
  | [], _, _ => rfl
  | b :: s, v, h => by
    rw [powL, powD, if_pos (h b (by simp)), show 10 * v + ((b.toNat : Int) - 48) = v * 10 + ((b.toNat : Int) - 48) by omega]
    by_cases hc : 100000 < v * 10 + ((b.toNat : Int) - 48)
    · rw [if_pos hc, if_pos hc]
    · rw [if_neg hc, if_neg hc]
      exact powL_powD s _ fun x hx => h x (by simp [hx])
theorem powerL_ok (p : Str) : (powerL p).2 = (powL p 0).isSome := by
  unfold powerL
  split
  · rename_i h; rw [h]; rfl
  · rename_i v h; rw [h]; split <;> rfl
theorem powTail_ok (less : Bool) (d : Str) : (powTail less d).2 = if d.length = 0 ∨ runL d ≠ d.length then false else (powD d 0).isSome := by
  unfold powTail
  split
  · rfl
  · split
    · rename_i h; rw [h]; rfl
    · rename_i v h; rw [h]; split <;> rfl
theorem partsE_ok (neg : Bool) (w f p d : Str) (h : powL p 0 = powL d 0) (less : Bool) : okP (partsE neg w f p d) = (powTail less d).2 := by
  rw [powTail_ok]
  unfold partsE okP
  split
  · rfl
  · rename_i hc
    simp only [Bool.true_and]
    rw [powerL_ok, h, powL_powD d 0 (runL_dig (by omega))]
theorem powL_sign {p : Str} (h : 0 < p.length) (hs : b0 p = 43 ∨ b0 p = 45) : powL p 0 = powL (p.drop 1) 0 := by
  cases p with
  | nil => simp at h
  | cons b s =>
    have hb : b0 (b :: s) = b.toNat := rfl
    rw [powL, if_neg]
    · rfl
    · unfold dig; rw [decide_eq_true_eq]; omega
theorem partsD_ok (neg less : Bool) (w f s : Str) : okP (partsD neg w f s) = (decD less w f s).2 := by
  unfold partsD decD
  split
  · rw [decE_ok]; rfl
  · split
    · rfl
    · have key : okP (if 0 < (s.drop 1).length ∧ (b0 (s.drop 1) = 43 ∨ b0 (s.drop 1) = 45) then partsE neg w f (s.drop 1) ((s.drop 1).drop 1) else partsE neg w f (s.drop 1) (s.drop 1)) = (decPow (s.drop 1)).2 := by
        have h45 := preB_iff (s.drop 1) 45
        have h43 := preB_iff (s.drop 1) 43
        have e45 : (45 : UInt8).toNat = 45 := rfl
        have e43 : (43 : UInt8).toNat = 43 := rfl
        rw [e45] at h45
        rw [e43] at h43
        unfold decPow
        split
        · rename_i hc
          rw [partsE_ok neg w f _ _ (powL_sign hc.1 hc.2) (preB (s.drop 1) 45)]
          by_cases hp : preB (s.drop 1) 45 = true
          · rw [if_pos hp, hp]
          · rw [if_neg hp, if_pos (h43.2 (by have := mt h45.2 hp; omega))]
            rw [show preB (s.drop 1) 45 = false by simpa using hp]
        · rename_i hc
          rw [partsE_ok neg w f _ _ rfl false, if_neg (fun h => hc (by have := h45.1 h; omega)), if_neg (fun h => hc (by have := h43.1 h; omega))]
      rw [key]
      cases hq : (decPow (s.drop 1)).2 with
      | false => rfl
      | true => rw [if_neg (by simp), decE_ok]
theorem partsC_ok (neg less : Bool) (w s : Str) : okP (partsC neg w s) = (decC less w s).2 := by
  have h := preB_iff s 46
  have e46 : (46 : UInt8).toNat = 46 := rfl
  rw [e46] at h
  unfold partsC decC
  by_cases hp : preB s 46 = true
  · rw [if_pos (h.1 hp), if_pos hp]
    split
    · rfl
    · exact partsD_ok _ _ _ _ _
  · rw [if_neg (mt h.2 hp), if_neg hp]
    exact partsD_ok _ _ _ _ _
theorem partsB_ok (neg less : Bool) (s : Str) : okP (partsB neg s) = (decB less s).2 := by
  have hb : 0 < runL s → b0 (s.take (runL s)) = b0 s := by
    intro h
    cases s with
    | nil => rfl
    | cons b s =>
      obtain ⟨k, hk⟩ : ∃ k, runL (b :: s) = k + 1 := ⟨runL (b :: s) - 1, by omega⟩
      rw [hk]; rfl
  unfold partsB decB
  by_cases h0 : runL s = 0
  · rw [if_pos (.inl h0), if_pos (.inl h0)]; rfl
  · rw [hb (by omega)]
    split
    · rfl
    · exact partsC_ok _ _ _ _
theorem decParse_ok (s : Str) : (decParse s).2 = numL s := by
  rw [numL_eq]
  have h := preB_iff s 45
  have e45 : (45 : UInt8).toNat = 45 := rfl
  rw [e45] at h
  unfold decParse
  by_cases hl : 400 < s.length
  · rw [if_pos hl, decide_eq_false (by omega), Bool.and_false]; rfl
  · rw [if_neg hl, decide_eq_true (by omega), Bool.and_true]
    unfold numParts
    by_cases hp : preB s 45 = true
    · rw [if_pos hp, if_pos (h.1 hp), hp]; exact (partsB_ok _ _ _).symm
    · rw [if_neg hp, if_neg (mt h.2 hp)]; exact (partsB_ok _ _ _).symm
end Go.Am
end

section
namespace Go.Proofs.YtaoejccgdpppgaaGreatDoor
open Go Go.Am
set_option maxRecDepth 100000
def IntIs (I : Str → Int × Bool) : Prop := ∀ s : Str, s.length ≤ 1073741824 → AbsCall PP GG F.dec_Int [.p (.str s)] [] ⟨.ret (.tup [.p (.int .i64 (I s).1), .p (.bool (I s).2)]), [], []⟩
theorem own_13 (I : Str → Int × Bool) (hI : IntIs I) (hlaw : ∀ s, numL s = true → (I s).2 = (refIntL s).2) (t : Tree) (hw : t.wt ≤ 4000000) (hk : t.kind ≠ 0 ∧ t.kind ≠ 1 ∧ t.kind ≠ 2 ∧ t.kind ≠ 5 ∧ t.kind ≠ 6) (R : Bool) (K : Post)
    (hR : (decide (¬ ownBad t.kind t.n t.s.length t.l.length t.m.length) && nodeOk t.kind t.n t.s) = R)
    (h0 : K .ret [(2, .p (.bool R))] [.var T.api_Value (.p t.enc)] []) :
    CutW PP GG 135 0 (tailN F.value_own_c 13) [(1, .ptr 0 0), (4, .p (.bool (decide (0 < (t.l.length : Int))))), (5, .p (.bool (decide (0 < (t.m.length : Int)))))] [.var T.api_Value (.p t.enc)] [] (PostCl 135 K) := by
  have hs := t.wt_s
  rw [Tree.enc_eta t] at h0 ⊢
  have hg := dec_Good t.s (by omega)
  rw [decParse_ok] at hg
  have bad : ownBad t.kind t.n t.s.length t.l.length t.m.length → R = false := fun h => by rw [← hR, decide_eq_false (fun k => k h), Bool.false_and]
  have fine : ¬ ownBad t.kind t.n t.s.length t.l.length t.m.length → nodeOk t.kind t.n t.s = R := fun h => by rw [← hR, decide_eq_true h, Bool.true_and]
  have let0 : decide ((if (utfValid t.s).2 = false then (3 : Int) else if 4096 < t.s.length then 2 else 0) = 0) = strOk t.s := by
    unfold strOk
    cases (utfValid t.s).2 with
    | false => rw [if_pos rfl, Bool.and_false]; rfl
    | true =>
      rw [if_neg (by simp), Bool.and_true]
      split
      · rw [decide_eq_false (by omega), decide_eq_false (by omega)]
      · rw [decide_eq_true rfl, decide_eq_true (by omega)]
  clear hR
  unfold ownBad at bad fine
  unfold nodeOk at fine
  refine CutW.go (pol := polC []) mixP ?_
  conv => whnf
  repeat' ((first
   | ((with_reducible first | refine Br.dec ?_ ?_ | refine Br.ndec ?_ ?_) <;> intro hb <;> (try simp only [ZZ] at hb) <;> (first | omega | skip))
   | (with_reducible first | refine Br.tt rfl ?_ | refine Br.ff rfl ?_ | refine Br.ff (isEmptyCons _ _) ?_)
   | (refine Side.mk ?_ ?_; focus (first | omega | (dsimp only [InR, Int.reduceToNat, IntKind.bits, Int.reducePow]; omega) | (simp [CC]; done) | (constructor <;> omega)))
   | (refine Br.mk ?_ ?_ <;> intro hb <;> (try simp only [ZZ] at hb) <;> (first | omega | skip))
   | refine Src.whole ⟨rfl, rfl⟩ ?_ | refine FrzV.whole ?_
   | refine CallW.use (hI t.s (by omega)) ?_
   | refine CallW.use (hg) ?_
   | refine CallW.use (value_letters t.s (by omega)) ?_
   | refine CallW.use (value_stamp t.s (by omega)) ?_) <;> conv => whnf)
  · obtain rfl := bad (by omega)
    refine PostCl.of (h0) ?_ ?_
    · repeat first | exact trivial | refine ⟨VLe.refl _, ?_⟩
    · repeat first | exact trivial | refine ⟨by decide, ?_⟩
  · obtain rfl := bad (by omega)
    refine PostCl.of (h0) ?_ ?_
    · repeat first | exact trivial | refine ⟨VLe.refl _, ?_⟩
    · repeat first | exact trivial | refine ⟨by decide, ?_⟩
  · obtain rfl := bad (by omega)
    refine PostCl.of (h0) ?_ ?_
    · repeat first | exact trivial | refine ⟨VLe.refl _, ?_⟩
    · repeat first | exact trivial | refine ⟨by decide, ?_⟩
  · have hR := fine (by omega)
    rw [if_neg (by omega), if_neg (by omega), if_pos (by omega), hb, ← hlaw t.s hb, Bool.true_and] at hR
    subst hR
    refine PostCl.of (h0) ?_ ?_
    · repeat first | exact trivial | refine ⟨VLe.refl _, ?_⟩
    · repeat first | exact trivial | refine ⟨by decide, ?_⟩
  · have hR := fine (by omega)
    rw [if_neg (by omega), if_neg (by omega), if_pos (by omega), hb, Bool.false_and] at hR
    subst hR
    refine PostCl.of (h0) ?_ ?_
    · repeat first | exact trivial | refine ⟨VLe.refl _, ?_⟩
    · repeat first | exact trivial | refine ⟨by decide, ?_⟩
  · have hR := fine (by omega)
    rw [if_neg (by omega), if_neg (by omega), if_neg (by omega), if_pos (by omega), ← let0] at hR
    subst hR
    refine PostCl.of (h0) ?_ ?_
    · repeat first | exact trivial | refine ⟨VLe.refl _, ?_⟩
    · repeat first | exact trivial | refine ⟨by decide, ?_⟩
  · have hR := fine (by omega)
    rw [if_neg (by omega), if_neg (by omega), if_neg (by omega), if_neg (by omega), if_pos (by omega)] at hR
    subst hR
    refine PostCl.of (h0) ?_ ?_
    · repeat first | exact trivial | refine ⟨VLe.refl _, ?_⟩
    · repeat first | exact trivial | refine ⟨by decide, ?_⟩
  · have hR : R = false := by
      by_cases ho : t.kind ≠ 1 ∧ t.kind ≠ 2 ∧ t.n ≠ 0 ∨ t.kind ≠ 3 ∧ t.kind ≠ 4 ∧ t.kind ≠ 7 ∧ t.s.length ≠ 0 ∨ t.kind ≠ 5 ∧ t.l.length ≠ 0 ∨ t.kind ≠ 6 ∧ t.m.length ≠ 0
      · exact bad ho
      · rw [← fine ho, if_neg (by omega), if_neg (by omega), if_neg (by omega), if_neg (by omega), if_neg (by omega), decide_eq_false (by omega)]
    subst hR
    refine PostCl.of (h0) ?_ ?_
    · repeat first | exact trivial | refine ⟨VLe.refl _, ?_⟩
    · repeat first | exact trivial | refine ⟨by decide, ?_⟩
def ownB (t : Tree) : Bool := decide (¬ ownBad t.kind t.n t.s.length t.l.length t.m.length) && nodeOk t.kind t.n t.s
theorem value_own (I : Str → Int × Bool) (hI : IntIs I) (hlaw : ∀ s, numL s = true → (I s).2 = (refIntL s).2) (t : Tree) (hw : t.wt ≤ 4000000) : AbsCall PP GG F.value_own [.p t.enc] [] ⟨.ret (.p (.bool (ownB t))), [], []⟩ := by
  have h13 := own_13 I hI hlaw t hw
  have hel : (Tree.encL t.l).length = t.l.length := Tree.encL_length _
  have hem : (Tree.encM t.m).length = t.m.length := Tree.encM_length _
  have bad : ownBad t.kind t.n t.s.length t.l.length t.m.length → ownB t = false := fun h => by unfold ownB; rw [decide_eq_false (fun k => k h), Bool.false_and]
  have fine : ¬ ownBad t.kind t.n t.s.length t.l.length t.m.length → ownB t = nodeOk t.kind t.n t.s := fun h => by unfold ownB; rw [decide_eq_true h, Bool.true_and]
  have hO : ownB t = (decide (¬ ownBad t.kind t.n t.s.length t.l.length t.m.length) && nodeOk t.kind t.n t.s) := rfl
  unfold ownBad at bad fine
  unfold nodeOk at fine
  rw [Tree.enc_eta t] at h13 ⊢
  rw [← hel, ← hem] at h13
  refine absCall_of (pol := polC [13]) mixP F.value_own_is ?_
  conv => whnf
  repeat' ((first
   | ((with_reducible first | refine Br.dec ?_ ?_ | refine Br.ndec ?_ ?_) <;> intro hb <;> (try simp only [And.intro @hel (And.intro @hem (ZZ))] at hb) <;> (first | omega | skip))
   | (with_reducible first | refine Br.tt rfl ?_ | refine Br.ff rfl ?_ | refine Br.ff (isEmptyCons _ _) ?_)
   | (refine Side.mk ?_ ?_; focus (first | omega | (dsimp only [InR, Int.reduceToNat, IntKind.bits, Int.reducePow]; omega) | (simp [CC]; done) | (constructor <;> omega)))
   | (refine Br.mk ?_ ?_ <;> intro hb <;> (try simp only [And.intro @hel (And.intro @hem (ZZ))] at hb) <;> (first | omega | skip))
   | refine Src.whole ⟨rfl, rfl⟩ ?_ | refine FrzV.whole ?_) <;> conv => whnf)
  all_goals
    first
    | exact CLe.retP (by rw [bad (by omega)])
    | (refine CLe.retP ?_
       rw [hem]
       by_cases hm : t.m.length = 0
       · rw [fine (by omega), decide_eq_false (show ¬ (0 : Int) < (t.m.length : Int) by omega)]
         repeat (first | rw [if_pos (by omega)] | rw [if_neg (by omega)])
         first | rfl | (rw [decide_eq_true (by omega)]; rfl)
       · rw [bad (by omega), decide_eq_true (show (0 : Int) < (t.m.length : Int) by omega)]; rfl)
    | (refine CLe.retP ?_
       rw [hel]
       by_cases hm : t.l.length = 0
       · rw [fine (by omega), decide_eq_false (show ¬ (0 : Int) < (t.l.length : Int) by omega)]
         repeat (first | rw [if_pos (by omega)] | rw [if_neg (by omega)])
         first | rfl | (rw [decide_eq_true (by omega)]; rfl)
       · rw [bad (by omega), decide_eq_true (show (0 : Int) < (t.l.length : Int) by omega)]; rfl)
    | (refine CutW.cl ?_; refine CutW.sub (h13 (by omega) (ownB t) _ (by rw [hel, hem]; exact hO.symm) ?_) (by repeat first | exact trivial | refine ⟨VLe.refl _, ?_⟩) (by repeat first | exact trivial | refine ⟨by decide, ?_⟩); (conv => whnf); exact CLe.eq rfl)
    | exact CLe.retP (by
        by_cases ho : t.kind ≠ 1 ∧ t.kind ≠ 2 ∧ t.n ≠ 0 ∨ t.kind ≠ 3 ∧ t.kind ≠ 4 ∧ t.kind ≠ 7 ∧ t.s.length ≠ 0 ∨ t.kind ≠ 5 ∧ t.l.length ≠ 0 ∨ t.kind ≠ 6 ∧ t.m.length ≠ 0
        · rw [bad ho]
        · rw [fine ho, if_neg (by omega), if_pos (by omega), decide_eq_false (by omega)])
end Go.Proofs.YtaoejccgdpppgaaGreatDoor
end

section
namespace Go.Proofs
open Go.Shelf
def Tryz.lays153_ren : Go.Shelf.Ren := ⟨fun | 153 => 120 | 152 => 140 | 226 => 147 | 227 => 85 | 228 => 111 | 137 => 65 | 119 => 166 | 224 => 167 | 225 => 168 | 217 => 88 | 266 => 114 | n => n, fun | 9 => 9 | 3 => 3 | 4 => 4 | 5 => 5 | 21 => 21 | 117 => 122 | 116 => 121 | 0 => 0 | 46 => 106 | 124 => 125 | n => n, fun | n => n⟩
theorem Tryz.lays153 : Go.Proofs.Lays.n153 Tryz.prog Tryz.lays153_ren := {
  mixed := by kernel_rfl
  f119 := Tryz.func166.trans (congrArg some (by kernel_rfl))
  f137 := Tryz.func65.trans (congrArg some (by kernel_rfl))
  f152 := Tryz.func140.trans (congrArg some (by kernel_rfl))
  f153 := Tryz.func120.trans (congrArg some (by kernel_rfl))
  f217 := Tryz.func88.trans (congrArg some (by kernel_rfl))
  f224 := Tryz.func167.trans (congrArg some (by kernel_rfl))
  f225 := Tryz.func168.trans (congrArg some (by kernel_rfl))
  f226 := Tryz.func147.trans (congrArg some (by kernel_rfl))
  f227 := Tryz.func85.trans (congrArg some (by kernel_rfl))
  f228 := Tryz.func111.trans (congrArg some (by kernel_rfl))
  f266 := Tryz.func114.trans (congrArg some (by kernel_rfl))
  t0 := Tryz.underlying0
  a0 := Tryz.isAgg0
  z0 := Tryz.sizeOf0
  v0 := Tryz.zeroValue0
  t3 := Tryz.underlying3
  a3 := Tryz.isAgg3
  z3 := Tryz.sizeOf3
  v3 := Tryz.zeroValue3
  t4 := Tryz.underlying4
  a4 := Tryz.isAgg4
  z4 := Tryz.sizeOf4
  v4 := Tryz.zeroValue4
  t5 := Tryz.underlying5
  a5 := Tryz.isAgg5
  z5 := Tryz.sizeOf5
  v5 := Tryz.zeroValue5
  t9 := Tryz.underlying9
  a9 := Tryz.isAgg9
  z9 := Tryz.sizeOf9
  v9 := Tryz.zeroValue9
  t21 := Tryz.underlying21
  a21 := Tryz.isAgg21
  z21 := Tryz.sizeOf21
  v21 := Tryz.zeroValue21
  t46 := Tryz.underlying106
  a46 := Tryz.isAgg106
  z46 := Tryz.sizeOf106
  v46 := Tryz.zeroValue106
  t116 := Tryz.underlying121
  a116 := Tryz.isAgg121
  z116 := Tryz.sizeOf121
  t117 := Tryz.underlying122
  a117 := Tryz.isAgg122
  z117 := Tryz.sizeOf122
  v117 := Tryz.zeroValue122
  t124 := Tryz.underlying125
  a124 := Tryz.isAgg125
  z124 := Tryz.sizeOf125
  v124 := Tryz.zeroValue125 }
def Tryz.lays150_ren : Go.Shelf.Ren := ⟨fun | 150 => 98 | 153 => 120 | 152 => 140 | 226 => 147 | 227 => 85 | 228 => 111 | 137 => 65 | 119 => 166 | 224 => 167 | 225 => 168 | 217 => 88 | 266 => 114 | n => n, fun | 9 => 9 | 4 => 4 | 3 => 3 | 5 => 5 | 21 => 21 | 117 => 122 | 116 => 121 | 0 => 0 | 46 => 106 | 124 => 125 | n => n, fun | n => n⟩
theorem Tryz.lays150 : Go.Proofs.Lays.n150 Tryz.prog Tryz.lays150_ren := {
  mixed := by kernel_rfl
  f119 := Tryz.func166.trans (congrArg some (by kernel_rfl))
  f137 := Tryz.func65.trans (congrArg some (by kernel_rfl))
  f150 := Tryz.func98.trans (congrArg some (by kernel_rfl))
  f152 := Tryz.func140.trans (congrArg some (by kernel_rfl))
  f153 := Tryz.func120.trans (congrArg some (by kernel_rfl))
  f217 := Tryz.func88.trans (congrArg some (by kernel_rfl))
  f224 := Tryz.func167.trans (congrArg some (by kernel_rfl))
  f225 := Tryz.func168.trans (congrArg some (by kernel_rfl))
  f226 := Tryz.func147.trans (congrArg some (by kernel_rfl))
  f227 := Tryz.func85.trans (congrArg some (by kernel_rfl))
  f228 := Tryz.func111.trans (congrArg some (by kernel_rfl))
  f266 := Tryz.func114.trans (congrArg some (by kernel_rfl))
  t0 := Tryz.underlying0
  a0 := Tryz.isAgg0
  z0 := Tryz.sizeOf0
  v0 := Tryz.zeroValue0
  t3 := Tryz.underlying3
  a3 := Tryz.isAgg3
  z3 := Tryz.sizeOf3
  v3 := Tryz.zeroValue3
  t4 := Tryz.underlying4
  a4 := Tryz.isAgg4
  z4 := Tryz.sizeOf4
  v4 := Tryz.zeroValue4
  t5 := Tryz.underlying5
  a5 := Tryz.isAgg5
  z5 := Tryz.sizeOf5
  v5 := Tryz.zeroValue5
  t9 := Tryz.underlying9
  a9 := Tryz.isAgg9
  z9 := Tryz.sizeOf9
  v9 := Tryz.zeroValue9
  t21 := Tryz.underlying21
  a21 := Tryz.isAgg21
  z21 := Tryz.sizeOf21
  v21 := Tryz.zeroValue21
  t46 := Tryz.underlying106
  a46 := Tryz.isAgg106
  z46 := Tryz.sizeOf106
  v46 := Tryz.zeroValue106
  t116 := Tryz.underlying121
  a116 := Tryz.isAgg121
  z116 := Tryz.sizeOf121
  t117 := Tryz.underlying122
  a117 := Tryz.isAgg122
  z117 := Tryz.sizeOf122
  v117 := Tryz.zeroValue122
  t124 := Tryz.underlying125
  a124 := Tryz.isAgg125
  z124 := Tryz.sizeOf125
  v124 := Tryz.zeroValue125 }
open Go.RowKit Go.Lib in
theorem Tryz.strings_ContainsAny_laid (s chars : ByteArray) (w : World) (hs : s.size < 4294967281) (hcs : chars.size < 4294967281) (has : ∀ (j : Nat) b, s.data.toList[j]? = some b → b.toNat < 128) (hac : ∀ (j : Nat) b, chars.data.toList[j]? = some b → b.toNat < 128) :
    Calls Tryz.prog 98 #[.string s, .string chars] w fun e w' => e = .returned (.bool (Lib.containsAny s.data.toList chars.data.toList)) ∧ Below w.heap.size w w' := Any.strings_ContainsAny_laid Tryz.lays150 (by kernel_rfl) s chars w hs hcs has hac
end Go.Proofs
end

section
namespace Go.Proofs.YtaoejccgdpppgaaGreatDoor
open Go Go.Am Go.RowKit
theorem strings_ContainsAny (s c : List UInt8) (hs : s.length < 4294967281) (hc : c.length < 4294967281) (h1 : ∀ (j : Nat) (b : UInt8), s[j]? = some b → b.toNat < 128) (h2 : ∀ (j : Nat) (b : UInt8), c[j]? = some b → b.toNat < 128) (H : Heap) :
    AbsCall PP GG F.strings_ContainsAny [.p (.str s), .p (.str c)] H ⟨.ret (.p (.bool (Lib.containsAny s c))), H, []⟩ := by
  refine absBelow fun B L w vs _ ha hg => ?_
  obtain ⟨v, u, rfl, hv, hu⟩ := vrel2 ha
  obtain rfl := vstr hv
  obtain rfl := vstr hu
  refine CallTo.of_calls Tryz.func98 (by kernel_rfl) rfl ((Tryz.strings_ContainsAny_laid ⟨s.toArray⟩ ⟨c.toArray⟩ w (by simpa [ByteArray.size] using hs) (by simpa [ByteArray.size] using hc) (by simpa using h1) (by simpa using h2)).mono ?_)
  rintro e w' ⟨rfl, hb⟩
  exact ⟨hb, _, rfl, by simpa using VRel.p _ _ (.bool _)⟩
theorem vrel3 {B : Nat → Prop} {L : Am.Loc} {w : World} {x y z : V} {vs : List Value} (h : VRelL B L w [x, y, z] vs) : ∃ v u t, vs = [v, u, t] ∧ VRel B L w x v ∧ VRel B L w y u ∧ VRel B L w z t := by
  match vs, h with
  | [v, u, t], h => exact ⟨v, u, t, rfl, h.2 0 _ _ rfl rfl, h.2 1 _ _ rfl rfl, h.2 2 _ _ rfl rfl⟩
  | [], h => have := h.1; simp at this
  | [_], h => have := h.1; simp at this
  | [_, _], h => have := h.1; simp at this
  | _ :: _ :: _ :: _ :: _, h => have := h.1; simp at this
end Go.Proofs.YtaoejccgdpppgaaGreatDoor
end

section
namespace Go.Proofs
open Go.Shelf
def Tryz.laysC174_ren : Go.Shelf.Ren := ⟨fun | 174 => 99 | 247 => 126 | 245 => 127 | 287 => 149 | 279 => 150 | 280 => 151 | 281 => 152 | 282 => 153 | 321 => 174 | 322 => 175 | 316 => 176 | 171 => 178 | 205 => 177 | 243 => 187 | 246 => 105 | 283 => 132 | 284 => 133 | 285 => 134 | 286 => 135 | 129 => 159 | 317 => 158 | 318 => 160 | 319 => 161 | 320 => 162 | 337 => 182 | 338 => 183 | n => n, fun | 9 => 9 | 3 => 3 | 2 => 2 | 75 => 94 | 85 => 130 | 4 => 4 | 167 => 171 | 5 => 5 | 53 => 160 | 175 => 172 | 46 => 106 | 168 => 174 | 37 => 34 | 0 => 0 | 210 => 195 | 21 => 21 | 127 => 101 | 145 => 204 | 143 => 202 | 171 => 159 | 173 => 163 | 212 => 180 | 51 => 181 | 20 => 20 | 213 => 182 | 232 => 212 | 233 => 213 | 80 => 66 | n => n, fun | 15 => 4 | 16 => 5 | 17 => 1 | 18 => 6 | 19 => 7 | n => n⟩
theorem Tryz.laysC174 : Go.Proofs.LaysC.n174 Tryz.prog Tryz.laysC174_ren := {
  mixed := by kernel_rfl
  f129 := Tryz.func159.trans (congrArg some (by kernel_rfl))
  f171 := Tryz.func178.trans (congrArg some (by kernel_rfl))
  f174 := Tryz.func99.trans (congrArg some (by kernel_rfl))
  f205 := Tryz.func177.trans (congrArg some (by kernel_rfl))
  f243 := Tryz.func187.trans (congrArg some (by kernel_rfl))
  f245 := Tryz.func127.trans (congrArg some (by kernel_rfl))
  f246 := Tryz.func105.trans (congrArg some (by kernel_rfl))
  f247 := Tryz.func126.trans (congrArg some (by kernel_rfl))
  f279 := Tryz.func150.trans (congrArg some (by kernel_rfl))
  f280 := Tryz.func151.trans (congrArg some (by kernel_rfl))
  f281 := Tryz.func152.trans (congrArg some (by kernel_rfl))
  f282 := Tryz.func153.trans (congrArg some (by kernel_rfl))
  f283 := Tryz.func132.trans (congrArg some (by kernel_rfl))
  f284 := Tryz.func133.trans (congrArg some (by kernel_rfl))
  f285 := Tryz.func134.trans (congrArg some (by kernel_rfl))
  f286 := Tryz.func135.trans (congrArg some (by kernel_rfl))
  f287 := Tryz.func149.trans (congrArg some (by kernel_rfl))
  f316 := Tryz.func176.trans (congrArg some (by kernel_rfl))
  f317 := Tryz.func158.trans (congrArg some (by kernel_rfl))
  f318 := Tryz.func160.trans (congrArg some (by kernel_rfl))
  f319 := Tryz.func161.trans (congrArg some (by kernel_rfl))
  f320 := Tryz.func162.trans (congrArg some (by kernel_rfl))
  f321 := Tryz.func174.trans (congrArg some (by kernel_rfl))
  f322 := Tryz.func175.trans (congrArg some (by kernel_rfl))
  f337 := Tryz.func182.trans (congrArg some (by kernel_rfl))
  f338 := Tryz.func183.trans (congrArg some (by kernel_rfl))
  t0 := Tryz.underlying0
  a0 := Tryz.isAgg0
  z0 := Tryz.sizeOf0
  v0 := Tryz.zeroValue0
  t2 := Tryz.underlying2
  a2 := Tryz.isAgg2
  z2 := Tryz.sizeOf2
  v2 := Tryz.zeroValue2
  t3 := Tryz.underlying3
  a3 := Tryz.isAgg3
  z3 := Tryz.sizeOf3
  v3 := Tryz.zeroValue3
  t4 := Tryz.underlying4
  a4 := Tryz.isAgg4
  z4 := Tryz.sizeOf4
  v4 := Tryz.zeroValue4
  t5 := Tryz.underlying5
  a5 := Tryz.isAgg5
  z5 := Tryz.sizeOf5
  v5 := Tryz.zeroValue5
  t9 := Tryz.underlying9
  a9 := Tryz.isAgg9
  z9 := Tryz.sizeOf9
  v9 := Tryz.zeroValue9
  t20 := Tryz.underlying20
  a20 := Tryz.isAgg20
  z20 := Tryz.sizeOf20
  v20 := Tryz.zeroValue20
  t21 := Tryz.underlying21
  a21 := Tryz.isAgg21
  z21 := Tryz.sizeOf21
  v21 := Tryz.zeroValue21
  t37 := Tryz.underlying34
  a37 := Tryz.isAgg34
  z37 := Tryz.sizeOf34
  v37 := Tryz.zeroValue34
  t46 := Tryz.underlying106
  a46 := Tryz.isAgg106
  z46 := Tryz.sizeOf106
  v46 := Tryz.zeroValue106
  t51 := Tryz.underlying181
  a51 := Tryz.isAgg181
  z51 := Tryz.sizeOf181
  v51 := Tryz.zeroValue181
  t53 := Tryz.underlying160
  a53 := Tryz.isAgg160
  z53 := Tryz.sizeOf160
  v53 := Tryz.zeroValue160
  t75 := Tryz.underlying94
  a75 := Tryz.isAgg94
  z75 := Tryz.sizeOf94
  v75 := Tryz.zeroValue94
  t85 := Tryz.underlying130
  a85 := Tryz.isAgg130
  z85 := Tryz.sizeOf130
  v85 := Tryz.zeroValue130
  t127 := Tryz.underlying101
  a127 := Tryz.isAgg101
  z127 := Tryz.sizeOf101
  v127 := Tryz.zeroValue101
  t143 := Tryz.underlying202
  a143 := Tryz.isAgg202
  z143 := Tryz.sizeOf202
  v143 := Tryz.zeroValue202
  t145 := Tryz.underlying204
  a145 := Tryz.isAgg204
  z145 := Tryz.sizeOf204
  v145 := Tryz.zeroValue204
  t167 := Tryz.underlying171
  a167 := Tryz.isAgg171
  z167 := Tryz.sizeOf171
  v167 := Tryz.zeroValue171
  t168 := Tryz.underlying174
  a168 := Tryz.isAgg174
  z168 := Tryz.sizeOf174
  v168 := Tryz.zeroValue174
  t171 := Tryz.underlying159
  a171 := Tryz.isAgg159
  z171 := Tryz.sizeOf159
  v171 := Tryz.zeroValue159
  t173 := Tryz.underlying163
  a173 := Tryz.isAgg163
  z173 := Tryz.sizeOf163
  v173 := Tryz.zeroValue163
  t175 := Tryz.underlying172
  a175 := Tryz.isAgg172
  z175 := Tryz.sizeOf172
  v175 := Tryz.zeroValue172
  t210 := Tryz.underlying195
  a210 := Tryz.isAgg195
  z210 := Tryz.sizeOf195
  v210 := Tryz.zeroValue195
  t212 := Tryz.underlying180
  a212 := Tryz.isAgg180
  z212 := Tryz.sizeOf180
  v212 := Tryz.zeroValue180
  t213 := Tryz.underlying182
  a213 := Tryz.isAgg182
  z213 := Tryz.sizeOf182
  t232 := Tryz.underlying212
  a232 := Tryz.isAgg212
  z232 := Tryz.sizeOf212
  v232 := Tryz.zeroValue212
  t233 := Tryz.underlying213
  a233 := Tryz.isAgg213
  z233 := Tryz.sizeOf213
  v233 := Tryz.zeroValue213
  g15 := by kernel_rfl
  g16 := by kernel_rfl
  g17 := by kernel_rfl
  g18 := by kernel_rfl
  g19 := by kernel_rfl
  t80 := Tryz.underlying66
  a80 := Tryz.isAgg66
  z80 := Tryz.sizeOf66
  v80 := Tryz.zeroValue66
  i0 := by kernel_rfl
  i2 := by kernel_rfl
  i3 := by kernel_rfl
  i4 := by kernel_rfl
  i5 := by kernel_rfl
  i9 := by kernel_rfl
  i20 := by kernel_rfl
  i21 := by kernel_rfl
  i37 := by kernel_rfl
  i46 := by kernel_rfl
  i51 := by kernel_rfl
  i53 := by kernel_rfl
  i75 := by kernel_rfl
  i80 := by kernel_rfl
  i85 := by kernel_rfl
  i127 := by kernel_rfl
  i143 := by kernel_rfl
  i145 := by kernel_rfl
  i167 := by kernel_rfl
  i168 := by kernel_rfl
  i171 := by kernel_rfl
  i173 := by kernel_rfl
  i175 := by kernel_rfl
  i210 := by kernel_rfl
  i212 := by kernel_rfl
  i232 := by kernel_rfl
  i233 := by kernel_rfl
  m15 := by kernel_rfl
  m16 := by kernel_rfl
  m17 := by kernel_rfl
  m18 := by kernel_rfl
  m19 := by kernel_rfl
  c0 := by kernel_rfl
  c2 := by kernel_rfl
  c3 := by kernel_rfl
  c4 := by kernel_rfl
  c5 := by kernel_rfl
  c9 := by kernel_rfl
  c20 := by kernel_rfl
  c21 := by kernel_rfl
  c37 := by kernel_rfl
  c46 := by kernel_rfl
  c51 := by kernel_rfl
  c53 := by kernel_rfl
  c75 := by kernel_rfl
  c80 := by kernel_rfl
  c85 := by kernel_rfl
  c127 := by kernel_rfl
  c143 := by kernel_rfl
  c145 := by kernel_rfl
  c167 := by kernel_rfl
  c168 := by kernel_rfl
  c171 := by kernel_rfl
  c173 := by kernel_rfl
  c175 := by kernel_rfl
  c210 := by kernel_rfl
  c212 := by kernel_rfl
  c213 := by kernel_rfl
  c232 := by kernel_rfl
  c233 := by kernel_rfl }
open Go.RowKit in
theorem Tryz.strconv_ParseInt_10_at64_ok (s : ByteArray) (hmax : s.size ≤ 9223372036854775806) (v : Int) (h : Lib.parseIntB 64 s.data.toList = .ok v) (w : World) :
    Calls Tryz.prog 99 #[.string s, .int .i64 10, .int .i64 64] w fun e w' => e = .returned (.tuple #[.int .i64 v, .nilIface]) ∧ (w' = w ∨ ∃ t, w' = Lib.bytesWorld w 5 t) := Any.strconv_ParseInt_10_at64_ok Tryz.laysC174 s hmax v h w
open Go.RowKit in
theorem Tryz.strconv_ParseInt_10_at64_other (s : ByteArray) (hlim : s.size ≤ 281474976710656) (h : (∀ v, Lib.parseIntB 64 s.data.toList ≠ .ok v) ∧ Lib.parseIntB 64 s.data.toList ≠ .range) (ev : Value) (w : World) (hv : w.cell? ⟨4, 0, none⟩ = some ev) (hev : ev = .nilIface ∨ ∃ te pe, ev = .iface te pe) :
    Calls Tryz.prog 99 #[.string s, .int .i64 10, .int .i64 64] w fun e w' => ∃ N, e = .returned (.tuple #[.int .i64 (0), .iface 174 (.pointer (some ⟨N, 0, none⟩))]) ∧ w.heap.size ≤ N ∧ w'.heap[N]? = some (.cells #[.string ⟨#[80, 97, 114, 115, 101, 73, 110, 116]⟩, .string s, ev] 195 (0, 0)) ∧ Below w.heap.size w w' := Any.strconv_ParseInt_10_at64_syntax Tryz.laysC174 s hlim (by
    cases hx : Lib.parseIntB 64 s.data.toList with
    | ok v => exact absurd hx (h.1 v)
    | range => exact absurd hx h.2
    | _ => rfl) ev w hv hev
open Go.RowKit in
theorem Tryz.strconv_ParseInt_10_at64_range (s : ByteArray) (hlim : s.size ≤ 281474976710656) (h : Lib.parseIntB 64 s.data.toList = .range) (ev : Value) (w : World) (hv : w.cell? ⟨5, 0, none⟩ = some ev) (hev : ev = .nilIface ∨ ∃ te pe, ev = .iface te pe) :
    Calls Tryz.prog 99 #[.string s, .int .i64 10, .int .i64 64] w fun e w' => ∃ N, e = .returned (.tuple #[.int .i64 (Lib.intSat 64 s.data.toList), .iface 174 (.pointer (some ⟨N, 0, none⟩))]) ∧ w.heap.size ≤ N ∧ w'.heap[N]? = some (.cells #[.string ⟨#[80, 97, 114, 115, 101, 73, 110, 116]⟩, .string s, ev] 195 (0, 0)) ∧ Below w.heap.size w w' := Any.strconv_ParseInt_10_at64_range Tryz.laysC174 s hlim h ev w hv hev
end Go.Proofs
end
