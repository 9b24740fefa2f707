/-
The walks through package utf.
-/
import Derived.Test.YtaoejccgdpppgaaGreatDoorPE

section
namespace Go.Proofs.YtaoejccgdpppgaaGreatDoor
open Go Go.Am
set_option maxRecDepth 100000
theorem utf_size (r : Int) : AbsCall PP GG F.utf_size [.p (.int .i64 r)] [] ⟨.ret (.p (.int .i64 (utfSize r))), [], []⟩ := by
  refine absCall_of (pol := polG) mixP F.utf_size_is ?_
  conv => whnf
  repeat' ((first
   | ((with_reducible first | refine Br.dec ?_ ?_ | refine Br.ndec ?_ ?_) <;> intro hb <;> (try simp only [ZZ] at hb) <;> (first | omega | skip))
   | (with_reducible first | refine Br.tt rfl ?_ | refine Br.ff rfl ?_ | refine Br.ff (isEmptyCons _ _) ?_)
   | (refine Side.mk ?_ ?_; focus (first | omega | (dsimp only [InR, Int.reduceToNat, IntKind.bits, Int.reducePow]; omega) | (simp [CC]; done) | (constructor <;> omega)))
   | (refine Br.mk ?_ ?_ <;> intro hb <;> (try simp only [ZZ] at hb) <;> (first | omega | skip))
   | refine Src.whole ⟨rfl, rfl⟩ ?_ | refine FrzV.whole ?_) <;> conv => whnf)
  all_goals exact CLe.retP (by simp [utfSize, *])
theorem utf_Good (r : Int) : AbsCall PP GG F.utf_Good [.p (.int .i64 r)] [] ⟨.ret (.p (.bool (utfGood r))), [], []⟩ := by
  refine absCall_of (pol := polG) mixP F.utf_Good_is ?_
  conv => whnf
  repeat' ((first
   | ((with_reducible first | refine Br.dec ?_ ?_ | refine Br.ndec ?_ ?_) <;> intro hb <;> (try simp only [ZZ] at hb) <;> (first | omega | skip))
   | (with_reducible first | refine Br.tt rfl ?_ | refine Br.ff rfl ?_ | refine Br.ff (isEmptyCons _ _) ?_)
   | (refine Side.mk ?_ ?_; focus (first | omega | (dsimp only [InR, Int.reduceToNat, IntKind.bits, Int.reducePow]; omega) | (simp [CC]; done) | (constructor <;> omega)))
   | (refine Br.mk ?_ ?_ <;> intro hb <;> (try simp only [ZZ] at hb) <;> (first | omega | skip))
   | refine Src.whole ⟨rfl, rfl⟩ ?_ | refine FrzV.whole ?_) <;> conv => whnf)
  all_goals exact CLe.retP (by simp only [PV.bool.injEq, utfGood]; first | (symm; rw [decide_eq_false_iff_not]; omega) | (symm; rw [decide_eq_true_eq]; omega) | (rw [decide_eq_decide]; omega))
theorem utf_begins (c : UInt8) : AbsCall PP GG F.utf_begins [.p (byteP c)] [] ⟨.ret (.tup [.p (.int .i64 (utfBegins c.toNat).1), .p (.int .i64 (utfBegins c.toNat).2)]), [], []⟩ := by
  have hc : c.toNat < 256 := UInt8.toNat_lt c
  refine absCall_of (pol := polG) mixP F.utf_begins_is ?_
  conv => whnf
  repeat' ((first
   | ((with_reducible first | refine Br.dec ?_ ?_ | refine Br.ndec ?_ ?_) <;> intro hb <;> (try simp only [ZZ] at hb) <;> (first | omega | skip))
   | (with_reducible first | refine Br.tt rfl ?_ | refine Br.ff rfl ?_ | refine Br.ff (isEmptyCons _ _) ?_)
   | (refine Side.mk ?_ ?_; focus (first | omega | (dsimp only [InR, Int.reduceToNat, IntKind.bits, Int.reducePow]; omega) | (simp only [oct_andn192 _ hc (by omega), InR]; omega) | (simp only [oct_andn224 _ hc (by omega), InR]; omega) | (simp only [oct_andn240 _ hc (by omega), InR]; omega) | (simp [CC]; done) | (constructor <;> omega)))
   | (refine Br.mk ?_ ?_ <;> intro hb <;> (try simp only [ZZ] at hb) <;> (first | omega | skip))
   | refine Src.whole ⟨rfl, rfl⟩ ?_ | refine FrzV.whole ?_) <;> conv => whnf)
  all_goals
    refine CLe.eq ?_
    unfold utfBegins
    first
      | (rw [if_pos (by omega)]; done)
      | (rw [if_neg (by omega), if_pos (by omega)]; done)
      | (rw [if_neg (by omega), if_neg (by omega), if_pos (by omega), oct_andn192 _ hc (by omega)]; done)
      | (rw [if_neg (by omega), if_neg (by omega), if_neg (by omega), if_pos (by omega), oct_andn224 _ hc (by omega)]; done)
      | (rw [if_neg (by omega), if_neg (by omega), if_neg (by omega), if_neg (by omega), if_pos (by omega), oct_andn240 _ hc (by omega)]; done)
      | (rw [if_neg (by omega), if_neg (by omega), if_neg (by omega), if_neg (by omega), if_neg (by omega)]; done)
theorem take_loop (s : Str) (n : Nat) (hn : n ≤ 4) (hns : n ≤ s.length) (R : Option Int) (K : Post)
    (h0 : ∀ r, R = some r → K (.exit 0) [(4, .p (.int .i64 n)), (5, .p (.int .i64 r))] [] [])
    (hr : R = none → K .ret [(2, .p (.int .i64 0)), (3, .p (.int .i64 0))] [] []) :
    ∀ (q i : Nat) (r : Int), i + q = n → 1 ≤ i → 0 ≤ r → r < takeU q → takeL q (s.drop i) r = R →
      LoopW PP GG 52 0 (loopN F.utf_Take_c 0) [(0, .p (.str s)), (4, .p (.int .i64 n)), (5, .p (.int .i64 r)), (6, .p (.int .i64 i))] [] [] (PostCl 52 K) := by
  intro q
  induction q with
  | zero =>
    intro i r hi h1 hr0 hr1 hR
    rw [takeL] at hR
    refine LoopW.round (pol := polG) mixP ?_
    conv => whnf
    repeat' ((first
     | ((with_reducible first | refine Br.dec ?_ ?_ | refine Br.ndec ?_ ?_) <;> intro hb <;> (try simp only [ZZ] at hb) <;> (first | omega | skip))
     | (with_reducible first | refine Br.tt rfl ?_ | refine Br.ff rfl ?_ | refine Br.ff (isEmptyCons _ _) ?_)
     | (refine Side.mk ?_ ?_; focus (first | omega | (dsimp only [InR, Int.reduceToNat, IntKind.bits, Int.reducePow]; omega) | (simp [CC]; done) | (constructor <;> omega)))
     | (refine Br.mk ?_ ?_ <;> intro hb <;> (try simp only [ZZ] at hb) <;> (first | omega | skip))
     | refine Src.whole ⟨rfl, rfl⟩ ?_ | refine FrzV.whole ?_) <;> conv => whnf)
    · refine PostCl.of (h0 r hR.symm) ?_ ?_
      · repeat first | exact trivial | refine ⟨VLe.refl _, ?_⟩
      · repeat first | exact trivial | refine ⟨by decide, ?_⟩
  | succ q ih =>
    intro i r hi h1 hr0 hr1 hR
    obtain ⟨b, hb⟩ : ∃ b, s[i]? = some b := ⟨_, List.getElem?_eq_getElem (show i < s.length by omega)⟩
    rw [drop_cons hb, takeL] at hR
    have hbl := UInt8.toNat_lt b
    have hst := takeU_step (q := q) (by omega) hr1 (x := (b.toNat % 64 : Nat)) (by omega)
    have hg : s.getD (Int.toNat ↑i) 0 = b := getD_of (by simpa using hb)
    refine LoopW.round (pol := polG) mixP ?_
    conv => whnf
    repeat' ((first
     | ((with_reducible first | refine Br.dec ?_ ?_ | refine Br.ndec ?_ ?_) <;> intro hb <;> (try simp only [ZZ] at hb) <;> (first | omega | skip))
     | (with_reducible first | refine Br.tt rfl ?_ | refine Br.ff rfl ?_ | refine Br.ff (isEmptyCons _ _) ?_)
     | (refine Side.mk ?_ ?_; focus (first | omega | (dsimp only [InR, Int.reduceToNat, IntKind.bits, Int.reducePow]; omega) | (simp only [hg, oct_and63 _ hbl, InR]; omega) | (simp [CC]; done) | (constructor <;> omega)))
     | (refine Br.mk ?_ ?_ <;> intro hb <;> (try simp only [ZZ] at hb) <;> (first | omega | skip))
     | refine Src.whole ⟨rfl, rfl⟩ ?_ | refine FrzV.whole ?_) <;> conv => whnf)
    · have hbb := hb
      rw [hg] at hbb
      have := oct_and192 _ hbl
      rw [decide_eq_decide] at this
      rw [this] at hbb
      rw [if_neg hbb] at hR
      refine PostCl.of (hr hR.symm) ?_ ?_
      · repeat first | exact trivial | refine ⟨VLe.refl _, ?_⟩
      · repeat first | exact trivial | refine ⟨by decide, ?_⟩
    · have hbb := hb
      rw [hg] at hbb ⊢
      have := oct_and192 _ hbl
      rw [decide_eq_decide] at this
      rw [this] at hbb
      rw [if_pos hbb] at hR
      have hio : ior .i64 (r * 2 ^ Int.toNat 6) (iand .u8 b.toNat 63) = r * 64 + (b.toNat % 64 : Nat) := by
        rw [oct_and63 _ hbl]
        exact ior_shift (q := 6) hr0 (by omega) (by omega) (by omega) (by decide)
      rw [hio]
      refine LoopW.sub (ih (i + 1) _ (by omega) (by omega) (by omega) hst.1 hR) (by repeat first | exact trivial | refine ⟨VLe.refl _, ?_⟩) (by repeat first | exact trivial | refine ⟨by decide, ?_⟩)
theorem utf_Take (s : Str) (hs : s.length ≤ 1073741824) : AbsCall PP GG F.utf_Take [.p (.str s)] [] ⟨.ret (.tup [.p (.int .i64 (utfTake s).1), .p (.int .i64 (utfTake s).2)]), [], []⟩ := by
  cases s with
  | nil =>
    refine absCall_of (pol := polG) mixP F.utf_Take_is ?_
    conv => whnf
    repeat' ((first
     | ((with_reducible first | refine Br.dec ?_ ?_ | refine Br.ndec ?_ ?_) <;> intro hb <;> (try simp only [ZZ] at hb) <;> (first | omega | skip))
     | (with_reducible first | refine Br.tt rfl ?_ | refine Br.ff rfl ?_ | refine Br.ff (isEmptyCons _ _) ?_)
     | (refine Side.mk ?_ ?_; focus (first | omega | (dsimp only [InR, Int.reduceToNat, IntKind.bits, Int.reducePow]; omega) | (simp [CC]; done) | (constructor <;> omega)))
     | (refine Br.mk ?_ ?_ <;> intro hb <;> (try simp only [ZZ] at hb) <;> (first | omega | skip))
     | refine Src.whole ⟨rfl, rfl⟩ ?_ | refine FrzV.whole ?_) <;> conv => whnf)
    exact CLe.eq rfl
  | cons c cs =>
    have hbn := utfBegins_n c.toNat
    have hbr := utfBegins_r c.toNat
    have hsp := utf_begins c
    have hT : utfTake (c :: cs) = if (utfBegins c.toNat).1 = 0 ∨ ((c :: cs).length : Int) < (utfBegins c.toNat).1 then (0, 0) else
      match takeL ((utfBegins c.toNat).1.toNat - 1) cs (utfBegins c.toNat).2 with
      | none => (0, 0)
      | some r => if utfGood r = true ∧ utfSize r = (utfBegins c.toNat).1 then (r, (utfBegins c.toNat).1) else (0, 0) := rfl
    generalize utfBegins c.toNat = B at *
    obtain ⟨b1, r⟩ := B
    obtain ⟨n, rfl⟩ : ∃ n : Nat, b1 = n := ⟨b1.toNat, by simp only [] at hbn; omega⟩
    simp only [] at hbn hbr hsp hT
    refine absCall_of (pol := polG) mixP F.utf_Take_is ?_
    conv => whnf
    repeat' ((first
     | ((with_reducible first | refine Br.dec ?_ ?_ | refine Br.ndec ?_ ?_) <;> intro hb <;> (try simp only [ZZ] at hb) <;> (first | omega | skip))
     | (with_reducible first | refine Br.tt rfl ?_ | refine Br.ff rfl ?_ | refine Br.ff (isEmptyCons _ _) ?_)
     | (refine Side.mk ?_ ?_; focus (first | omega | (dsimp only [InR, Int.reduceToNat, IntKind.bits, Int.reducePow]; omega) | (simp only [List.length_cons]; omega) | (simp [CC]; done) | (constructor <;> omega)))
     | (refine Br.mk ?_ ?_ <;> intro hb <;> (try simp only [ZZ] at hb) <;> (first | omega | skip))
     | refine Src.whole ⟨rfl, rfl⟩ ?_ | refine FrzV.whole ?_
     | refine CallW.use (hsp) ?_) <;> conv => whnf)
    · exact CLe.eq (by rw [hT, if_pos (by omega)])
    · exact CLe.eq (by rw [hT, if_pos (by omega)])
    · rename_i hn0
      rw [if_neg (by omega)] at hT
      refine LoopW.cl ?_
      refine LoopW.sub (take_loop (c :: cs) n (by omega) (by omega) (takeL (n - 1) cs r) _ (fun r' hr' => ?_) (fun hr' => ?_) (n - 1) 1 r (by omega) (by omega) hbr.1 (by have := takeU_pos (n - 1) (by omega); omega) rfl) (by repeat first | exact trivial | refine ⟨VLe.refl _, ?_⟩) (by repeat first | exact trivial | refine ⟨by decide, ?_⟩)
      · rw [Int.toNat_natCast, hr'] at hT
        simp only [] at hT
        conv => whnf
        repeat' ((first
         | ((with_reducible first | refine Br.dec ?_ ?_ | refine Br.ndec ?_ ?_) <;> intro hb <;> (try simp only [ZZ] at hb) <;> (first | omega | skip))
         | (with_reducible first | refine Br.tt rfl ?_ | refine Br.ff rfl ?_ | refine Br.ff (isEmptyCons _ _) ?_)
         | (refine Side.mk ?_ ?_; focus (first | omega | (dsimp only [InR, Int.reduceToNat, IntKind.bits, Int.reducePow]; omega) | (simp [CC]; done) | (constructor <;> omega)))
         | (refine Br.mk ?_ ?_ <;> intro hb <;> (try simp only [ZZ] at hb) <;> (first | omega | skip))
         | refine Src.whole ⟨rfl, rfl⟩ ?_ | refine FrzV.whole ?_
         | refine CallW.use (utf_Good _) ?_
         | refine CallW.use (utf_size _) ?_) <;> conv => whnf)
        all_goals refine CLe.eq ?_
        all_goals rw [hT]
        · rw [if_neg (by simp_all)]
        · rw [if_neg (by simp_all)]
        · rw [if_pos (by simp_all)]
      · rw [Int.toNat_natCast, hr'] at hT
        simp only [] at hT
        conv => whnf
        exact CLe.eq (by rw [hT])
theorem utf_Put (bs : Str) (r : Int) (hs : bs.length ≤ 1073741824) : AbsCall PP GG F.utf_Put [.p (.lst false (bs.map byteP)), .p (.int .i64 r)] [] ⟨.ret (.sl 0 0 ((bs ++ utfEnc r).map byteP).length), [.arr T.uint8 1 ((bs ++ utfEnc r).map byteP)], []⟩ := by
  have hlen : (bs.map byteP).length = bs.length := by simp
  have hgr : utfGood r = true → 0 ≤ r ∧ r ≤ 1114111 := by intro hg; unfold utfGood at hg; rw [decide_eq_true_eq] at hg; omega
  refine absCall_of (pol := polG) mixP F.utf_Put_is ?_
  conv => whnf
  repeat' ((first
   | ((with_reducible first | refine Br.dec ?_ ?_ | refine Br.ndec ?_ ?_) <;> intro hb <;> (try simp only [ZZ] at hb) <;> (first | omega | skip))
   | (with_reducible first | refine Br.tt rfl ?_ | refine Br.ff rfl ?_ | refine Br.ff (isEmptyCons _ _) ?_)
   | (refine Side.mk ?_ ?_; focus (first | omega | (dsimp only [InR, Int.reduceToNat, IntKind.bits, Int.reducePow]; omega) | exact ⟨bytes_cells bs, by simp, by simp; omega⟩ | exact ⟨by simp [PV.cells], by simp, by simp; omega⟩ | (simp [CC]; done) | (constructor <;> omega)))
   | (refine Br.mk ?_ ?_ <;> intro hb <;> (try simp only [ZZ] at hb) <;> (first | omega | skip))
   | refine Src.whole ⟨rfl, rfl⟩ ?_ | refine FrzV.whole ?_
   | refine CallW.use (utf_Good _) ?_
   | refine CallW.use (utf_size _) ?_
   | (refine Src.whole ⟨rfl, by simp⟩ ?_)) <;> conv => whnf)
  · refine CLe.arr ?_
    rw [show utfEnc r = [] by unfold utfEnc; rw [if_pos hb]]
    simp
  all_goals
    obtain ⟨hr0, hr1⟩ := hgr ‹utfGood r = true›
    obtain ⟨n, rfl⟩ := Int.eq_ofNat_of_zero_le hr0
    have hng : utfGood (n : Int) ≠ false := by simp_all
    refine CLe.arr ?_
    unfold utfEnc
    rw [if_neg hng]
    have q6 : (n : Int) / 2 ^ Int.toNat 6 = ((n / 64 : Nat) : Int) := by show (n : Int) / 64 = _; omega
    have q12 : (n : Int) / 2 ^ Int.toNat 12 = ((n / 4096 : Nat) : Int) := by show (n : Int) / 4096 = _; omega
    have q18 : (n : Int) / 2 ^ Int.toNat 18 = ((n / 262144 : Nat) : Int) := by show (n : Int) / 262144 = _; omega
    have low : ∀ m : Nat, m ≤ 1114111 → iand .i64 (m : Int) 63 = ((m % 64 : Nat) : Int) := by
      intro m hm
      rw [iand63 (by omega) (by omega)]; omega
    have by' : ∀ m : Nat, m ≤ 255 → PV.int .u8 (IntKind.u8.wrap (m : Int)) = byteP (UInt8.ofNat m) := by
      intro m hm
      have := byte_of (x := (m : Int)) (by omega) (by omega)
      simpa using this
    rw [List.map_append, show List.replicate (Int.toNat 0) (PV.int IntKind.u8 0) = [] from rfl, List.nil_append]
    congr 1
  · rw [utfSize_1] at hb
    rw [if_pos hb]
    simp only [List.map_cons, List.map_nil]
    rw [Int.toNat_natCast, by' n (by omega)]
  · rename_i h1
    rw [utfSize_1] at h1
    rw [utfSize_2] at hb
    rw [if_neg h1, if_pos hb.2]
    simp only [List.map_cons, List.map_nil]
    rw [Int.toNat_natCast, q6, low n (by omega), oct_or192 _ (by omega), oct_or128 _ (by omega), by' _ (by omega), by' _ (by omega)]
  · rename_i h1 h2
    rw [utfSize_1] at h1
    rw [utfSize_2] at h2
    rw [utfSize_3] at hb
    rw [if_neg h1, if_neg (by omega), if_pos hb.2]
    simp only [List.map_cons, List.map_nil]
    rw [Int.toNat_natCast, q6, q12, low n (by omega), low (n / 64) (by omega), oct_or224 _ (by omega), oct_or128 _ (by omega), oct_or128 _ (by omega), by' _ (by omega), by' _ (by omega), by' _ (by omega)]
  · rename_i h1 h2
    rw [utfSize_1] at h1
    rw [utfSize_2] at h2
    rw [utfSize_3] at hb
    rw [if_neg h1, if_neg (by omega), if_neg (by omega)]
    simp only [List.map_cons, List.map_nil]
    rw [Int.toNat_natCast, q6, q12, q18, low n (by omega), low (n / 64) (by omega), low (n / 4096) (by omega), oct_or240 _ (by omega), oct_or128 _ (by omega), oct_or128 _ (by omega), oct_or128 _ (by omega), by' _ (by omega), by' _ (by omega), by' _ (by omega), by' _ (by omega)]
theorem valid_loop (s : Str) (hs : s.length ≤ 1073741824) (R : Int × Bool) (K : Post)
    (h0 : R = ((s.length : Int), true) → K (.exit 0) [(0, .p (.str s))] [] [])
    (hr : R.2 = false → K .ret [(2, .p (.int .i64 R.1)), (3, .p (.bool false))] [] []) :
    ∀ (q i : Nat), s.length ≤ i + q → i ≤ s.length → utfScan q (s.drop i) i = R →
      LoopW PP GG 26 0 (loopN F.utf_Valid_c 0) [(0, .p (.str s)), (4, .p (.int .i64 i))] [] [] (PostCl 26 K) := by
  intro q
  induction q with
  | zero =>
    intro i hi hil hR
    rw [utfScan] at hR
    subst hR
    refine LoopW.round (pol := polG) mixP ?_
    conv => whnf
    repeat' ((first
     | ((with_reducible first | refine Br.dec ?_ ?_ | refine Br.ndec ?_ ?_) <;> intro hb <;> (try simp only [ZZ] at hb) <;> (first | omega | skip))
     | (with_reducible first | refine Br.tt rfl ?_ | refine Br.ff rfl ?_ | refine Br.ff (isEmptyCons _ _) ?_)
     | (refine Side.mk ?_ ?_; focus (first | omega | (dsimp only [InR, Int.reduceToNat, IntKind.bits, Int.reducePow]; omega) | (simp [CC]; done) | (constructor <;> omega)))
     | (refine Br.mk ?_ ?_ <;> intro hb <;> (try simp only [ZZ] at hb) <;> (first | omega | skip))
     | refine Src.whole ⟨rfl, rfl⟩ ?_ | refine FrzV.whole ?_) <;> conv => whnf)
    · refine PostCl.of (h0 (by congr 1; omega)) ?_ ?_
      · repeat first | exact trivial | refine ⟨VLe.refl _, ?_⟩
      · repeat first | exact trivial | refine ⟨by decide, ?_⟩
  | succ q ih =>
    intro i hi hil hR
    have hT := utfTake_n (s.drop i)
    have hd : (s.drop i).length ≤ 1073741824 := by simp only [List.length_drop]; omega
    have hdl : (s.drop i).length = s.length - i := List.length_drop
    cases hsd : s.drop i with
    | nil =>
      have : (s.drop i).length = 0 := by rw [hsd]; rfl
      rw [hsd, utfScan] at hR
      subst hR
      refine LoopW.round (pol := polG) mixP ?_
      conv => whnf
      repeat' ((first
       | ((with_reducible first | refine Br.dec ?_ ?_ | refine Br.ndec ?_ ?_) <;> intro hb <;> (try simp only [ZZ] at hb) <;> (first | omega | skip))
       | (with_reducible first | refine Br.tt rfl ?_ | refine Br.ff rfl ?_ | refine Br.ff (isEmptyCons _ _) ?_)
       | (refine Side.mk ?_ ?_; focus (first | omega | (dsimp only [InR, Int.reduceToNat, IntKind.bits, Int.reducePow]; omega) | (simp [CC]; done) | (constructor <;> omega)))
       | (refine Br.mk ?_ ?_ <;> intro hb <;> (try simp only [ZZ] at hb) <;> (first | omega | skip))
       | refine Src.whole ⟨rfl, rfl⟩ ?_ | refine FrzV.whole ?_) <;> conv => whnf)
      · refine PostCl.of (h0 (by congr 1; omega)) ?_ ?_
        · repeat first | exact trivial | refine ⟨VLe.refl _, ?_⟩
        · repeat first | exact trivial | refine ⟨by decide, ?_⟩
    | cons c cs =>
      have hlt : i < s.length := by have : (s.drop i).length = cs.length + 1 := by rw [hsd]; rfl
                                    omega
      rw [hsd, utfScan, ← hsd] at hR
      refine LoopW.round (pol := polG) mixP ?_
      conv => whnf
      repeat' ((first
       | ((with_reducible first | refine Br.dec ?_ ?_ | refine Br.ndec ?_ ?_) <;> intro hb <;> (try simp only [ZZ] at hb) <;> (first | omega | skip))
       | (with_reducible first | refine Br.tt rfl ?_ | refine Br.ff rfl ?_ | refine Br.ff (isEmptyCons _ _) ?_)
       | (refine Side.mk ?_ ?_; focus (first | omega | (dsimp only [InR, Int.reduceToNat, IntKind.bits, Int.reducePow]; omega) | (simp [CC]; done) | (constructor <;> omega)))
       | (refine Br.mk ?_ ?_ <;> intro hb <;> (try simp only [ZZ] at hb) <;> (first | omega | skip))
       | refine Src.whole ⟨rfl, rfl⟩ ?_ | refine FrzV.whole ?_
       | refine CallW.use (utf_Take (s.drop i) hd) ?_) <;> conv => whnf)
      · rw [if_pos hb] at hR
        subst hR
        refine PostCl.of (hr rfl) ?_ ?_
        · repeat first | exact trivial | refine ⟨VLe.refl _, ?_⟩
        · repeat first | exact trivial | refine ⟨by decide, ?_⟩
      · rw [if_neg hb, List.drop_drop] at hR
        obtain ⟨m, hm⟩ : ∃ m : Nat, (utfTake (s.drop i)).2 = m := ⟨(utfTake (s.drop i)).2.toNat, by omega⟩
        rw [hm] at hR ⊢
        refine LoopW.sub (ih (i + m) (by omega) (by omega) (by rw [← hR]; congr 1)) (by repeat first | exact trivial | refine ⟨VLe.refl _, ?_⟩) (by repeat first | exact trivial | refine ⟨by decide, ?_⟩)
theorem utf_Valid (s : Str) (hs : s.length ≤ 1073741824) : AbsCall PP GG F.utf_Valid [.p (.str s)] [] ⟨.ret (.tup [.p (.int .i64 (utfValid s).1), .p (.bool (utfValid s).2)]), [], []⟩ := by
  refine absCall_of (pol := polG) mixP F.utf_Valid_is ?_
  conv => whnf
  refine LoopW.cl ?_
  refine LoopW.sub (valid_loop s hs (utfValid s) _ (fun h => ?_) (fun h => ?_) s.length 0 (by omega) (by omega) rfl) (by repeat first | exact trivial | refine ⟨VLe.refl _, ?_⟩) (by repeat first | exact trivial | refine ⟨by decide, ?_⟩)
  · conv => whnf
    repeat' ((first
     | ((with_reducible first | refine Br.dec ?_ ?_ | refine Br.ndec ?_ ?_) <;> intro hb <;> (try simp only [ZZ] at hb) <;> (first | omega | skip))
     | (with_reducible first | refine Br.tt rfl ?_ | refine Br.ff rfl ?_ | refine Br.ff (isEmptyCons _ _) ?_)
     | (refine Side.mk ?_ ?_; focus (first | omega | (dsimp only [InR, Int.reduceToNat, IntKind.bits, Int.reducePow]; omega) | (simp [CC]; done) | (constructor <;> omega)))
     | (refine Br.mk ?_ ?_ <;> intro hb <;> (try simp only [ZZ] at hb) <;> (first | omega | skip))
     | refine Src.whole ⟨rfl, rfl⟩ ?_ | refine FrzV.whole ?_) <;> conv => whnf)
    exact CLe.eq (by rw [h])
  · conv => whnf
    repeat' ((first
     | ((with_reducible first | refine Br.dec ?_ ?_ | refine Br.ndec ?_ ?_) <;> intro hb <;> (try simp only [ZZ] at hb) <;> (first | omega | skip))
     | (with_reducible first | refine Br.tt rfl ?_ | refine Br.ff rfl ?_ | refine Br.ff (isEmptyCons _ _) ?_)
     | (refine Side.mk ?_ ?_; focus (first | omega | (dsimp only [InR, Int.reduceToNat, IntKind.bits, Int.reducePow]; omega) | (simp [CC]; done) | (constructor <;> omega)))
     | (refine Br.mk ?_ ?_ <;> intro hb <;> (try simp only [ZZ] at hb) <;> (first | omega | skip))
     | refine Src.whole ⟨rfl, rfl⟩ ?_ | refine FrzV.whole ?_) <;> conv => whnf)
    exact CLe.eq (by rw [h])
end Go.Proofs.YtaoejccgdpppgaaGreatDoor
end

section
namespace Go.Am
open Go
def refTake (s : Str) : Int × Int :=
  match s with
  | [] => (0, 0)
  | c :: cs => if (utfBegins c.toNat).1 = 0 ∨ (s.length : Int) < (utfBegins c.toNat).1 then (0, 0) else
    match takeL ((utfBegins c.toNat).1.toNat - 1) cs (utfBegins c.toNat).2 with
    | none => (0, 0)
    | some r => if utfEnc r = s.take (utfBegins c.toNat).1.toNat then (r, (utfBegins c.toNat).1) else (0, 0)
theorem utfEnc_length (r : Int) : ((utfEnc r).length : Int) = if utfGood r = true then utfSize r else 0 := by
  unfold utfEnc utfSize
  cases utfGood r with
  | false => simp
  | true =>
    simp only [Bool.true_eq_false, if_false, if_true]
    repeat' split
    all_goals simp
theorem enc_byte {b : UInt8} {n : Nat} (h : n = b.toNat) : UInt8.ofNat n = b := by subst h; simp
theorem enc_take {c : UInt8} {cs : Str} {r : Int} (h0 : (utfBegins c.toNat).1 ≠ 0) (h1 : ¬ ((c :: cs).length : Int) < (utfBegins c.toNat).1) (h2 : takeL ((utfBegins c.toNat).1.toNat - 1) cs (utfBegins c.toNat).2 = some r)
    (hg : utfGood r = true) (hs : utfSize r = (utfBegins c.toNat).1) : utfEnc r = (c :: cs).take (utfBegins c.toNat).1.toNat := by
  have hgn : ¬ utfGood r = false := by rw [hg]; simp
  have hc := UInt8.toNat_lt c
  have split1 : ∀ (q : Nat) (s : Str) (x : Int), takeL (q + 1) s x = some r → ∃ b t, s = b :: t ∧ 128 ≤ b.toNat ∧ b.toNat < 192 ∧ takeL q t (x * 64 + (b.toNat % 64 : Nat)) = some r := by
    intro q s x h
    cases s with
    | nil => simp [takeL] at h
    | cons b t =>
      rw [takeL] at h
      split at h
      · rename_i hb; exact ⟨b, t, rfl, hb.1, hb.2, h⟩
      · cases h
  have last : ∀ (s : Str) (x : Int), takeL 0 s x = some r → r = x := by
    intro s x h
    rw [takeL] at h
    exact (Option.some.inj h).symm
  unfold utfBegins at h0 h1 h2 hs ⊢
  by_cases b1 : c.toNat < 128
  · simp only [if_pos b1] at h0 h1 h2 hs ⊢
    have := last _ _ h2
    subst this
    unfold utfEnc
    rw [if_neg hgn, if_pos (by omega)]
    simp
  · by_cases b2 : c.toNat < 192
    · simp only [if_neg b1, if_pos b2] at h0
      exact absurd rfl h0
    · by_cases b3 : c.toNat < 224
      · simp only [if_neg b1, if_neg b2, if_pos b3] at h0 h1 h2 hs ⊢
        obtain ⟨b, t, rfl, e1, e2, h2⟩ := split1 0 _ _ h2
        have := last _ _ h2
        rw [utfSize_2] at hs
        unfold utfEnc
        rw [if_neg hgn, if_neg (by omega), if_pos (by omega)]
        show _ = [c, b]
        rw [enc_byte (b := c) (by omega), enc_byte (b := b) (by omega)]
      · by_cases b4 : c.toNat < 240
        · simp only [if_neg b1, if_neg b2, if_neg b3, if_pos b4] at h0 h1 h2 hs ⊢
          obtain ⟨b, t, rfl, e1, e2, h2⟩ := split1 1 _ _ h2
          obtain ⟨d, u, rfl, e3, e4, h2⟩ := split1 0 _ _ h2
          have := last _ _ h2
          rw [utfSize_3] at hs
          unfold utfEnc
          rw [if_neg hgn, if_neg (by omega), if_neg (by omega), if_pos (by omega)]
          show _ = [c, b, d]
          rw [enc_byte (b := c) (by omega), enc_byte (b := b) (by omega), enc_byte (b := d) (by omega)]
        · by_cases b5 : c.toNat < 248
          · simp only [if_neg b1, if_neg b2, if_neg b3, if_neg b4, if_pos b5] at h0 h1 h2 hs ⊢
            obtain ⟨b, t, rfl, e1, e2, h2⟩ := split1 2 _ _ h2
            obtain ⟨d, u, rfl, e3, e4, h2⟩ := split1 1 _ _ h2
            obtain ⟨e, v, rfl, e5, e6, h2⟩ := split1 0 _ _ h2
            have := last _ _ h2
            have hg' : 0 ≤ r ∧ r ≤ 1114111 := by unfold utfGood at hg; rw [decide_eq_true_eq] at hg; omega
            have hs' : 65536 ≤ r := by
              unfold utfSize at hs
              split at hs
              · omega
              · split at hs
                · omega
                · split at hs <;> omega
            unfold utfEnc
            rw [if_neg hgn, if_neg (by omega), if_neg (by omega), if_neg (by omega)]
            show _ = [c, b, d, e]
            rw [enc_byte (b := c) (by omega), enc_byte (b := b) (by omega), enc_byte (b := d) (by omega), enc_byte (b := e) (by omega)]
          · simp only [if_neg b1, if_neg b2, if_neg b3, if_neg b4, if_neg b5] at h0
            exact absurd rfl h0
theorem refTake_eq (s : Str) : refTake s = utfTake s := by
  cases s with
  | nil => rfl
  | cons c cs =>
    unfold refTake utfTake
    simp only []
    split
    · rfl
    · rename_i h
      simp only [not_or] at h
      cases ht : takeL ((utfBegins c.toNat).1.toNat - 1) cs (utfBegins c.toNat).2 with
      | none => rfl
      | some r =>
        simp only []
        by_cases hg : utfGood r = true ∧ utfSize r = (utfBegins c.toNat).1
        · rw [if_pos hg, if_pos (enc_take h.1 h.2 ht hg.1 hg.2)]
        · rw [if_neg hg, if_neg]
          intro he
          refine hg ?_
          have hl := utfEnc_length r
          have hn := utfBegins_n c.toNat
          rw [he, List.length_take] at hl
          have hm : ((min (utfBegins c.toNat).1.toNat (c :: cs).length : Nat) : Int) = (utfBegins c.toNat).1 := by omega
          rw [hm] at hl
          split at hl
          · rename_i hg'; exact ⟨hg', hl.symm⟩
          · exact absurd hl h.1
end Go.Am
namespace Go.Am
def refValid (s : Str) : Int := if (utfValid s).2 = true then -1 else (utfValid s).1
end Go.Am
namespace Go.Am
def strOk (s : Str) : Bool := decide (s.length ≤ 4096) && (utfValid s).2
def stampOk (s : Str) : Bool := decide (1 ≤ s.length ∧ s.length ≤ 64 ∧ ∀ b ∈ s, 32 ≤ b.toNat ∧ b.toNat ≤ 126)
theorem utfScan_nn : ∀ (q : Nat) (s : Str) (i : Int), 0 ≤ i → 0 ≤ (utfScan q s i).1
  | 0, _, _, h => h
  | q + 1, [], _, h => h
  | q + 1, c :: cs, i, h => by
    rw [utfScan]
    split
    · exact h
    · have := utfTake_n (c :: cs)
      exact utfScan_nn q _ _ (by omega)
theorem refValid_neg (s : Str) : decide (refValid s < 0) = (utfValid s).2 := by
  have := utfScan_nn s.length s 0 (by omega)
  unfold refValid
  cases h : (utfValid s).2 with
  | true => simp
  | false =>
    rw [if_neg (by simp)]
    rw [decide_eq_false_iff_not]
    have : 0 ≤ (utfValid s).1 := this
    omega
end Go.Am
end

section
namespace Go.Proofs.YtaoejccgdpppgaaGreatDoor
open Go Go.Am
set_option maxRecDepth 100000
theorem ref1_Good (r : Int) : AbsCall PP GG F.ref1_Good [.p (.int .i64 r)] [] ⟨.ret (.p (.bool (utfGood r))), [], []⟩ := by
  refine absCall_of (pol := polG) mixP F.ref1_Good_is ?_
  conv => whnf
  repeat' ((first
   | ((with_reducible first | refine Br.dec ?_ ?_ | refine Br.ndec ?_ ?_) <;> intro hb <;> (try simp only [ZZ] at hb) <;> (first | omega | skip))
   | (with_reducible first | refine Br.tt rfl ?_ | refine Br.ff rfl ?_ | refine Br.ff (isEmptyCons _ _) ?_)
   | (refine Side.mk ?_ ?_; focus (first | omega | (dsimp only [InR, Int.reduceToNat, IntKind.bits, Int.reducePow]; omega) | (simp [CC]; done) | (constructor <;> omega)))
   | (refine Br.mk ?_ ?_ <;> intro hb <;> (try simp only [ZZ] at hb) <;> (first | omega | skip))
   | refine Src.whole ⟨rfl, rfl⟩ ?_ | refine FrzV.whole ?_) <;> conv => whnf)
  all_goals exact CLe.retP (by simp only [PV.bool.injEq, utfGood]; first | (symm; rw [decide_eq_false_iff_not]; omega) | (symm; rw [decide_eq_true_eq]; omega) | (rw [decide_eq_decide]; omega))
theorem ref1_Put (r : Int) : AbsCall PP GG F.ref1_Put [.p (.int .i64 r)] [] ⟨.ret (.p (.str (utfEnc r))), [], []⟩ := by
  have hgr : utfGood r = true → 0 ≤ r ∧ r ≤ 1114111 := by intro hg; unfold utfGood at hg; rw [decide_eq_true_eq] at hg; omega
  by_cases hg : utfGood r = true
  · obtain ⟨hr0, hr1⟩ := hgr hg
    obtain ⟨n, rfl⟩ := Int.eq_ofNat_of_zero_le hr0
    have by' : ∀ m : Nat, m ≤ 255 → PV.int .u8 (IntKind.u8.wrap (m : Int)) = byteP (UInt8.ofNat m) := by
      intro m hm
      have := byte_of (x := (m : Int)) (by omega) (by omega)
      simpa using this
    have by2 : ∀ a m : Nat, a + m ≤ 255 → PV.int .u8 (IntKind.u8.wrap ((a : Int) + (m : Int))) = byteP (UInt8.ofNat (a + m)) := by
      intro a m hm
      rw [← Int.natCast_add]
      exact by' _ hm
    have dv : ∀ m : Nat, 0 < m → (n : Int).tdiv (m : Int) = ((n / m : Nat) : Int) := fun m hm => by rw [Int.tdiv_eq_ediv_of_nonneg (by omega)]; rfl
    have md : ∀ (a m : Nat), (a : Int).tmod (m : Int) = ((a % m : Nat) : Int) := fun a m => by rw [Int.tmod_eq_emod_of_nonneg (by omega)]; rfl
    have d1 := dv 64 (by omega)
    have d2 := dv 4096 (by omega)
    have d3 := dv 262144 (by omega)
    have m1 := md n 64
    have m2 := md (n / 64) 64
    have m3 := md (n / 4096) 64
    rw [show ((64 : Nat) : Int) = 64 from rfl] at d1 m1 m2 m3
    rw [show ((4096 : Nat) : Int) = 4096 from rfl] at d2
    rw [show ((262144 : Nat) : Int) = 262144 from rfl] at d3
    have hng : ¬ utfGood (n : Int) = false := by rw [hg]; simp
    have e1 : (n : Int) < 128 → [PV.int .u8 (IntKind.u8.wrap (n : Int))] = (utfEnc (n : Int)).map byteP := by
      intro h
      unfold utfEnc
      rw [if_neg hng, if_pos h, Int.toNat_natCast, by' n (by omega)]; rfl
    have e2 : ¬ (n : Int) < 128 → (n : Int) < 2048 → [PV.int .u8 (IntKind.u8.wrap (192 + (n : Int).tdiv 64)), PV.int .u8 (IntKind.u8.wrap (128 + (n : Int).tmod 64))] = (utfEnc (n : Int)).map byteP := by
      intro h h2
      unfold utfEnc
      rw [if_neg hng, if_neg h, if_pos h2, Int.toNat_natCast, d1, m1]
      have a1 : PV.int .u8 (IntKind.u8.wrap (192 + ((n / 64 : Nat) : Int))) = byteP (UInt8.ofNat (192 + n / 64)) := by2 192 (n / 64) (by omega)
      have a2 : PV.int .u8 (IntKind.u8.wrap (128 + ((n % 64 : Nat) : Int))) = byteP (UInt8.ofNat (128 + n % 64)) := by2 128 (n % 64) (by omega)
      rw [a1, a2]; rfl
    have e3 : ¬ (n : Int) < 2048 → (n : Int) < 65536 → [PV.int .u8 (IntKind.u8.wrap (224 + (n : Int).tdiv 4096)), PV.int .u8 (IntKind.u8.wrap (128 + ((n : Int).tdiv 64).tmod 64)), PV.int .u8 (IntKind.u8.wrap (128 + (n : Int).tmod 64))] = (utfEnc (n : Int)).map byteP := by
      intro h h2
      unfold utfEnc
      rw [if_neg hng, if_neg (by omega), if_neg h, if_pos h2, Int.toNat_natCast, d1, d2, m1, m2]
      have a1 : PV.int .u8 (IntKind.u8.wrap (224 + ((n / 4096 : Nat) : Int))) = byteP (UInt8.ofNat (224 + n / 4096)) := by2 224 (n / 4096) (by omega)
      have a2 : PV.int .u8 (IntKind.u8.wrap (128 + ((n / 64 % 64 : Nat) : Int))) = byteP (UInt8.ofNat (128 + n / 64 % 64)) := by2 128 (n / 64 % 64) (by omega)
      have a3 : PV.int .u8 (IntKind.u8.wrap (128 + ((n % 64 : Nat) : Int))) = byteP (UInt8.ofNat (128 + n % 64)) := by2 128 (n % 64) (by omega)
      rw [a1, a2, a3]; rfl
    have e4 : ¬ (n : Int) < 65536 → [PV.int .u8 (IntKind.u8.wrap (240 + (n : Int).tdiv 262144)), PV.int .u8 (IntKind.u8.wrap (128 + ((n : Int).tdiv 4096).tmod 64)), PV.int .u8 (IntKind.u8.wrap (128 + ((n : Int).tdiv 64).tmod 64)), PV.int .u8 (IntKind.u8.wrap (128 + (n : Int).tmod 64))] = (utfEnc (n : Int)).map byteP := by
      intro h
      unfold utfEnc
      rw [if_neg hng, if_neg (by omega), if_neg (by omega), if_neg h, Int.toNat_natCast, d1, d2, d3, m1, m2, m3]
      have a1 : PV.int .u8 (IntKind.u8.wrap (240 + ((n / 262144 : Nat) : Int))) = byteP (UInt8.ofNat (240 + n / 262144)) := by2 240 (n / 262144) (by omega)
      have a2 : PV.int .u8 (IntKind.u8.wrap (128 + ((n / 4096 % 64 : Nat) : Int))) = byteP (UInt8.ofNat (128 + n / 4096 % 64)) := by2 128 (n / 4096 % 64) (by omega)
      have a3 : PV.int .u8 (IntKind.u8.wrap (128 + ((n / 64 % 64 : Nat) : Int))) = byteP (UInt8.ofNat (128 + n / 64 % 64)) := by2 128 (n / 64 % 64) (by omega)
      have a4 : PV.int .u8 (IntKind.u8.wrap (128 + ((n % 64 : Nat) : Int))) = byteP (UInt8.ofNat (128 + n % 64)) := by2 128 (n % 64) (by omega)
      rw [a1, a2, a3, a4]; rfl
    have hsp := ref1_Good (n : Int)
    rw [hg] at hsp
    refine absCall_of (pol := polG) mixP F.ref1_Put_is ?_
    conv => whnf
    repeat' ((first
     | ((with_reducible first | refine Br.dec ?_ ?_ | refine Br.ndec ?_ ?_) <;> intro hb <;> (try simp only [ZZ] at hb) <;> (first | omega | skip))
     | (with_reducible first | refine Br.tt rfl ?_ | refine Br.ff rfl ?_ | refine Br.ff (isEmptyCons _ _) ?_)
     | (refine Side.mk ?_ ?_; focus (first | omega | (dsimp only [InR, Int.reduceToNat, IntKind.bits, Int.reducePow]; omega) | (simp only [d1, d2, d3, m1, m2, m3, InR]; omega) | (simp only [d1, d2, d3, m1, m2, m3]; decide) | (refine ⟨by decide, ?_⟩; simp only [d1, d2, d3, InR]; omega) | (simp [CC]; done) | (constructor <;> omega)))
     | (refine Br.mk ?_ ?_ <;> intro hb <;> (try simp only [ZZ] at hb) <;> (first | omega | skip))
     | refine Src.whole ⟨rfl, rfl⟩ ?_ | refine FrzV.whole ?_
     | refine CallW.use (hsp) ?_
     | (refine Bytes.mk' (s := utfEnc (n : Int)) (e1 (by omega)) ?_)
     | (refine Bytes.mk' (s := utfEnc (n : Int)) (e2 (by omega) (by omega)) ?_)
     | (refine Bytes.mk' (s := utfEnc (n : Int)) (e3 (by omega) (by omega)) ?_)
     | (refine Bytes.mk' (s := utfEnc (n : Int)) (e4 (by omega)) ?_)) <;> conv => whnf)
    all_goals exact CLe.eq rfl
  · have hg' : utfGood r = false := by simpa using hg
    have hsp := ref1_Good r
    rw [hg'] at hsp
    refine absCall_of (pol := polG) mixP F.ref1_Put_is ?_
    conv => whnf
    repeat' ((first
     | ((with_reducible first | refine Br.dec ?_ ?_ | refine Br.ndec ?_ ?_) <;> intro hb <;> (try simp only [ZZ] at hb) <;> (first | omega | skip))
     | (with_reducible first | refine Br.tt rfl ?_ | refine Br.ff rfl ?_ | refine Br.ff (isEmptyCons _ _) ?_)
     | (refine Side.mk ?_ ?_; focus (first | omega | (dsimp only [InR, Int.reduceToNat, IntKind.bits, Int.reducePow]; omega) | (simp [CC]; done) | (constructor <;> omega)))
     | (refine Br.mk ?_ ?_ <;> intro hb <;> (try simp only [ZZ] at hb) <;> (first | omega | skip))
     | refine Src.whole ⟨rfl, rfl⟩ ?_ | refine FrzV.whole ?_
     | refine CallW.use (hsp) ?_) <;> conv => whnf)
    exact CLe.retP (by unfold utfEnc; rw [if_pos hg'])
theorem refTake_loop (s : Str) (n : Nat) (hn : n ≤ 4) (hns : n ≤ s.length) (R : Option Int) (K : Post)
    (h0 : ∀ r, R = some r → 0 ≤ r → K (.exit 1) [(0, .p (.str s)), (5, .p (.int .i64 n)), (6, .p (.int .i64 r))] [] [])
    (hr : R = none → K .ret [(2, .p (.int .i64 0)), (3, .p (.int .i64 0))] [] []) :
    ∀ (q i : Nat) (r : Int), i + q = n → 1 ≤ i → 0 ≤ r → r < takeU q → takeL q (s.drop i) r = R →
      LoopW PP GG 79 0 (loopN F.ref1_Take_c 0) [(0, .p (.str s)), (5, .p (.int .i64 n)), (6, .p (.int .i64 r)), (7, .p (.int .i64 i))] [] [] (PostCl 79 K) := by
  intro q
  induction q with
  | zero =>
    intro i r hi h1 hr0 hr1 hR
    rw [takeL] at hR
    refine LoopW.round (pol := polG) mixP ?_
    conv => whnf
    repeat' ((first
     | ((with_reducible first | refine Br.dec ?_ ?_ | refine Br.ndec ?_ ?_) <;> intro hb <;> (try simp only [ZZ] at hb) <;> (first | omega | skip))
     | (with_reducible first | refine Br.tt rfl ?_ | refine Br.ff rfl ?_ | refine Br.ff (isEmptyCons _ _) ?_)
     | (refine Side.mk ?_ ?_; focus (first | omega | (dsimp only [InR, Int.reduceToNat, IntKind.bits, Int.reducePow]; omega) | (simp [CC]; done) | (constructor <;> omega)))
     | (refine Br.mk ?_ ?_ <;> intro hb <;> (try simp only [ZZ] at hb) <;> (first | omega | skip))
     | refine Src.whole ⟨rfl, rfl⟩ ?_ | refine FrzV.whole ?_) <;> conv => whnf)
    · refine PostCl.of (h0 r hR.symm hr0) ?_ ?_
      · repeat first | exact trivial | refine ⟨VLe.refl _, ?_⟩
      · repeat first | exact trivial | refine ⟨by decide, ?_⟩
  | succ q ih =>
    intro i r hi h1 hr0 hr1 hR
    obtain ⟨b, hb⟩ : ∃ b, s[i]? = some b := ⟨_, List.getElem?_eq_getElem (show i < s.length by omega)⟩
    rw [drop_cons hb, takeL] at hR
    have hbl := UInt8.toNat_lt b
    have hst := takeU_step (q := q) (by omega) hr1 (x := (b.toNat % 64 : Nat)) (by omega)
    have hg : s.getD (Int.toNat ↑i) 0 = b := getD_of (by simpa using hb)
    refine LoopW.round (pol := polG) mixP ?_
    conv => whnf
    repeat' ((first
     | ((with_reducible first | refine Br.dec ?_ ?_ | refine Br.ndec ?_ ?_) <;> intro hb <;> (try simp only [ZZ] at hb) <;> (first | omega | skip))
     | (with_reducible first | refine Br.tt rfl ?_ | refine Br.ff rfl ?_ | refine Br.ff (isEmptyCons _ _) ?_)
     | (refine Side.mk ?_ ?_; focus (first | omega | (dsimp only [InR, Int.reduceToNat, IntKind.bits, Int.reducePow]; omega) | (simp only [hg, InR]; omega) | (simp [CC]; done) | (constructor <;> omega)))
     | (refine Br.mk ?_ ?_ <;> intro hb <;> (try simp only [ZZ] at hb) <;> (first | omega | skip))
     | refine Src.whole ⟨rfl, rfl⟩ ?_ | refine FrzV.whole ?_) <;> conv => whnf)
    · rw [hg] at hb
      rw [if_neg (by omega)] at hR
      refine PostCl.of (hr hR.symm) ?_ ?_
      · repeat first | exact trivial | refine ⟨VLe.refl _, ?_⟩
      · repeat first | exact trivial | refine ⟨by decide, ?_⟩
    · rename_i h1
      rw [hg] at hb h1
      rw [if_neg (by omega)] at hR
      refine PostCl.of (hr hR.symm) ?_ ?_
      · repeat first | exact trivial | refine ⟨VLe.refl _, ?_⟩
      · repeat first | exact trivial | refine ⟨by decide, ?_⟩
    · rename_i h1
      rw [hg] at hb h1 ⊢
      rw [if_pos (by omega)] at hR
      have e : 64 * r + (b.toNat : Int) - 128 = r * 64 + (b.toNat % 64 : Nat) := by omega
      rw [e]
      refine LoopW.sub (ih (i + 1) _ (by omega) (by omega) (by omega) hst.1 hR) (by repeat first | exact trivial | refine ⟨VLe.refl _, ?_⟩) (by repeat first | exact trivial | refine ⟨by decide, ?_⟩)
theorem ref1_Take (s : Str) (hs : s.length ≤ 1073741824) : AbsCall PP GG F.ref1_Take [.p (.str s)] [] ⟨.ret (.tup [.p (.int .i64 (utfTake s).1), .p (.int .i64 (utfTake s).2)]), [], []⟩ := by
  rw [← refTake_eq]
  cases s with
  | nil =>
    refine absCall_of (pol := polG) mixP F.ref1_Take_is ?_
    conv => whnf
    repeat' ((first
     | ((with_reducible first | refine Br.dec ?_ ?_ | refine Br.ndec ?_ ?_) <;> intro hb <;> (try simp only [ZZ] at hb) <;> (first | omega | skip))
     | (with_reducible first | refine Br.tt rfl ?_ | refine Br.ff rfl ?_ | refine Br.ff (isEmptyCons _ _) ?_)
     | (refine Side.mk ?_ ?_; focus (first | omega | (dsimp only [InR, Int.reduceToNat, IntKind.bits, Int.reducePow]; omega) | (simp [CC]; done) | (constructor <;> omega)))
     | (refine Br.mk ?_ ?_ <;> intro hb <;> (try simp only [ZZ] at hb) <;> (first | omega | skip))
     | refine Src.whole ⟨rfl, rfl⟩ ?_ | refine FrzV.whole ?_) <;> conv => whnf)
    exact CLe.eq rfl
  | cons c cs =>
    have hc : c.toNat < 256 := UInt8.toNat_lt c
    have hg0 : (c :: cs).getD (Int.toNat 0) 0 = c := rfl
    have hl : (c :: cs).length = cs.length + 1 := rfl
    have h0 : (utfBegins c.toNat).1 = 0 ∨ ((c :: cs).length : Int) < (utfBegins c.toNat).1 → refTake (c :: cs) = (0, 0) := fun h => by unfold refTake; simp only []; rw [if_pos h]
    have hT0 : ¬ ((utfBegins c.toNat).1 = 0 ∨ ((c :: cs).length : Int) < (utfBegins c.toNat).1) → refTake (c :: cs) = _ := fun h => by unfold refTake; simp only []; rw [if_neg h]
    refine absCall_of (pol := polG) mixP F.ref1_Take_is ?_
    conv => whnf
    repeat' ((first
     | ((with_reducible first | refine Br.dec ?_ ?_ | refine Br.ndec ?_ ?_) <;> intro hb <;> (try simp only [And.intro @hg0 (ZZ)] at hb) <;> (first | omega | skip))
     | (with_reducible first | refine Br.tt rfl ?_ | refine Br.ff rfl ?_ | refine Br.ff (isEmptyCons _ _) ?_)
     | (refine Side.mk ?_ ?_; focus (first | omega | (dsimp only [InR, Int.reduceToNat, IntKind.bits, Int.reducePow]; omega) | (simp only [hg0, InR]; omega) | (simp only [List.length_cons]; omega) | (simp [CC]; done) | (constructor <;> omega)))
     | (refine Br.mk ?_ ?_ <;> intro hb <;> (try simp only [And.intro @hg0 (ZZ)] at hb) <;> (first | omega | skip))
     | refine Src.whole ⟨rfl, rfl⟩ ?_ | refine FrzV.whole ?_) <;> conv => whnf)
    · exact CLe.eq (by rw [h0 (by unfold utfBegins; (repeat' split) <;> first | omega | exact Or.inl rfl | (simp only []; omega))])
    · have hB : utfBegins c.toNat = (4, ((((c :: cs).getD (Int.toNat 0) 0).toNat : Int) - 240)) := by unfold utfBegins; rw [hg0]; (repeat' split) <;> first | omega | rfl | (congr 1; omega)
      have hr0 := utfBegins_r c.toNat
      have hT := hT0 (by rw [hB]; simp only []; omega)
      rw [hB] at hr0 hT
      simp only [] at hr0 hT
      refine LoopW.cl ?_
      refine LoopW.sub (refTake_loop (c :: cs) 4 (by omega) (by omega) (takeL 3 cs ((((c :: cs).getD (Int.toNat 0) 0).toNat : Int) - 240)) _ (fun r' hr' hp' => ?_) (fun hr' => ?_) 3 1 ((((c :: cs).getD (Int.toNat 0) 0).toNat : Int) - 240) (by omega) (by omega) (by omega) (by have := takeU_pos 3 (by omega); omega) rfl) (by repeat first | exact trivial | refine ⟨VLe.refl _, ?_⟩) (by repeat first | exact trivial | refine ⟨by decide, ?_⟩)
      · conv => whnf
        have hT : refTake (c :: cs) = if utfEnc r' = List.take 4 (c :: cs) then (r', 4) else (0, 0) := by rw [hT, show takeL (Int.toNat 4 - 1) cs ((((c :: cs).getD (Int.toNat 0) 0).toNat : Int) - 240) = some r' from hr']; rfl
        repeat' ((first
         | ((with_reducible first | refine Br.dec ?_ ?_ | refine Br.ndec ?_ ?_) <;> intro hb <;> (try simp only [ZZ] at hb) <;> (first | omega | skip))
         | (with_reducible first | refine Br.tt rfl ?_ | refine Br.ff rfl ?_ | refine Br.ff (isEmptyCons _ _) ?_)
         | (refine Side.mk ?_ ?_; focus (first | omega | (dsimp only [InR, Int.reduceToNat, IntKind.bits, Int.reducePow]; omega) | (simp [CC]; done) | (constructor <;> omega)))
         | (refine Br.mk ?_ ?_ <;> intro hb <;> (try simp only [ZZ] at hb) <;> (first | omega | skip))
         | refine Src.whole ⟨rfl, rfl⟩ ?_ | refine FrzV.whole ?_
         | refine CallW.use (ref1_Put _) ?_) <;> conv => whnf)
        · exact CLe.eq (by rw [hT, if_neg (show ¬ utfEnc r' = List.take 4 (c :: cs) from hb)])
        · exact CLe.eq (by rw [hT, if_pos (show utfEnc r' = List.take 4 (c :: cs) from hb)]; rfl)
      · conv => whnf
        exact CLe.eq (by rw [hT, show takeL (Int.toNat 4 - 1) cs ((((c :: cs).getD (Int.toNat 0) 0).toNat : Int) - 240) = none from hr'])
    · exact CLe.eq (by rw [h0 (by unfold utfBegins; (repeat' split) <;> first | omega | exact Or.inl rfl | (simp only []; omega))])
    · exact CLe.eq (by rw [h0 (by unfold utfBegins; (repeat' split) <;> first | omega | exact Or.inl rfl | (simp only []; omega))])
    · have hB : utfBegins c.toNat = (3, ((((c :: cs).getD (Int.toNat 0) 0).toNat : Int) - 224)) := by unfold utfBegins; rw [hg0]; (repeat' split) <;> first | omega | rfl | (congr 1; omega)
      have hr0 := utfBegins_r c.toNat
      have hT := hT0 (by rw [hB]; simp only []; omega)
      rw [hB] at hr0 hT
      simp only [] at hr0 hT
      refine LoopW.cl ?_
      refine LoopW.sub (refTake_loop (c :: cs) 3 (by omega) (by omega) (takeL 2 cs ((((c :: cs).getD (Int.toNat 0) 0).toNat : Int) - 224)) _ (fun r' hr' hp' => ?_) (fun hr' => ?_) 2 1 ((((c :: cs).getD (Int.toNat 0) 0).toNat : Int) - 224) (by omega) (by omega) (by omega) (by have := takeU_pos 2 (by omega); omega) rfl) (by repeat first | exact trivial | refine ⟨VLe.refl _, ?_⟩) (by repeat first | exact trivial | refine ⟨by decide, ?_⟩)
      · conv => whnf
        have hT : refTake (c :: cs) = if utfEnc r' = List.take 3 (c :: cs) then (r', 3) else (0, 0) := by rw [hT, show takeL (Int.toNat 3 - 1) cs ((((c :: cs).getD (Int.toNat 0) 0).toNat : Int) - 224) = some r' from hr']; rfl
        repeat' ((first
         | ((with_reducible first | refine Br.dec ?_ ?_ | refine Br.ndec ?_ ?_) <;> intro hb <;> (try simp only [ZZ] at hb) <;> (first | omega | skip))
         | (with_reducible first | refine Br.tt rfl ?_ | refine Br.ff rfl ?_ | refine Br.ff (isEmptyCons _ _) ?_)
         | (refine Side.mk ?_ ?_; focus (first | omega | (dsimp only [InR, Int.reduceToNat, IntKind.bits, Int.reducePow]; omega) | (simp [CC]; done) | (constructor <;> omega)))
         | (refine Br.mk ?_ ?_ <;> intro hb <;> (try simp only [ZZ] at hb) <;> (first | omega | skip))
         | refine Src.whole ⟨rfl, rfl⟩ ?_ | refine FrzV.whole ?_
         | refine CallW.use (ref1_Put _) ?_) <;> conv => whnf)
        · exact CLe.eq (by rw [hT, if_neg (show ¬ utfEnc r' = List.take 3 (c :: cs) from hb)])
        · exact CLe.eq (by rw [hT, if_pos (show utfEnc r' = List.take 3 (c :: cs) from hb)]; rfl)
      · conv => whnf
        exact CLe.eq (by rw [hT, show takeL (Int.toNat 3 - 1) cs ((((c :: cs).getD (Int.toNat 0) 0).toNat : Int) - 224) = none from hr'])
    · exact CLe.eq (by rw [h0 (by unfold utfBegins; (repeat' split) <;> first | omega | exact Or.inl rfl | (simp only []; omega))])
    · have hB : utfBegins c.toNat = (2, ((((c :: cs).getD (Int.toNat 0) 0).toNat : Int) - 192)) := by unfold utfBegins; rw [hg0]; (repeat' split) <;> first | omega | rfl | (congr 1; omega)
      have hr0 := utfBegins_r c.toNat
      have hT := hT0 (by rw [hB]; simp only []; omega)
      rw [hB] at hr0 hT
      simp only [] at hr0 hT
      refine LoopW.cl ?_
      refine LoopW.sub (refTake_loop (c :: cs) 2 (by omega) (by omega) (takeL 1 cs ((((c :: cs).getD (Int.toNat 0) 0).toNat : Int) - 192)) _ (fun r' hr' hp' => ?_) (fun hr' => ?_) 1 1 ((((c :: cs).getD (Int.toNat 0) 0).toNat : Int) - 192) (by omega) (by omega) (by omega) (by have := takeU_pos 1 (by omega); omega) rfl) (by repeat first | exact trivial | refine ⟨VLe.refl _, ?_⟩) (by repeat first | exact trivial | refine ⟨by decide, ?_⟩)
      · conv => whnf
        have hT : refTake (c :: cs) = if utfEnc r' = List.take 2 (c :: cs) then (r', 2) else (0, 0) := by rw [hT, show takeL (Int.toNat 2 - 1) cs ((((c :: cs).getD (Int.toNat 0) 0).toNat : Int) - 192) = some r' from hr']; rfl
        repeat' ((first
         | ((with_reducible first | refine Br.dec ?_ ?_ | refine Br.ndec ?_ ?_) <;> intro hb <;> (try simp only [ZZ] at hb) <;> (first | omega | skip))
         | (with_reducible first | refine Br.tt rfl ?_ | refine Br.ff rfl ?_ | refine Br.ff (isEmptyCons _ _) ?_)
         | (refine Side.mk ?_ ?_; focus (first | omega | (dsimp only [InR, Int.reduceToNat, IntKind.bits, Int.reducePow]; omega) | (simp [CC]; done) | (constructor <;> omega)))
         | (refine Br.mk ?_ ?_ <;> intro hb <;> (try simp only [ZZ] at hb) <;> (first | omega | skip))
         | refine Src.whole ⟨rfl, rfl⟩ ?_ | refine FrzV.whole ?_
         | refine CallW.use (ref1_Put _) ?_) <;> conv => whnf)
        · exact CLe.eq (by rw [hT, if_neg (show ¬ utfEnc r' = List.take 2 (c :: cs) from hb)])
        · exact CLe.eq (by rw [hT, if_pos (show utfEnc r' = List.take 2 (c :: cs) from hb)]; rfl)
      · conv => whnf
        exact CLe.eq (by rw [hT, show takeL (Int.toNat 2 - 1) cs ((((c :: cs).getD (Int.toNat 0) 0).toNat : Int) - 192) = none from hr'])
    · exact CLe.eq (by rw [h0 (by unfold utfBegins; (repeat' split) <;> first | omega | exact Or.inl rfl | (simp only []; omega))])
    · have hB : utfBegins c.toNat = (1, (((c :: cs).getD (Int.toNat 0) 0).toNat : Int)) := by unfold utfBegins; rw [hg0]; (repeat' split) <;> first | omega | rfl | (congr 1; omega)
      have hr0 := utfBegins_r c.toNat
      have hT := hT0 (by rw [hB]; simp only []; omega)
      rw [hB] at hr0 hT
      simp only [] at hr0 hT
      refine LoopW.cl ?_
      refine LoopW.sub (refTake_loop (c :: cs) 1 (by omega) (by omega) (takeL 0 cs (((c :: cs).getD (Int.toNat 0) 0).toNat : Int)) _ (fun r' hr' hp' => ?_) (fun hr' => ?_) 0 1 (((c :: cs).getD (Int.toNat 0) 0).toNat : Int) (by omega) (by omega) (by omega) (by have := takeU_pos 0 (by omega); omega) rfl) (by repeat first | exact trivial | refine ⟨VLe.refl _, ?_⟩) (by repeat first | exact trivial | refine ⟨by decide, ?_⟩)
      · conv => whnf
        have hT : refTake (c :: cs) = if utfEnc r' = List.take 1 (c :: cs) then (r', 1) else (0, 0) := by rw [hT, show takeL (Int.toNat 1 - 1) cs (((c :: cs).getD (Int.toNat 0) 0).toNat : Int) = some r' from hr']; rfl
        repeat' ((first
         | ((with_reducible first | refine Br.dec ?_ ?_ | refine Br.ndec ?_ ?_) <;> intro hb <;> (try simp only [ZZ] at hb) <;> (first | omega | skip))
         | (with_reducible first | refine Br.tt rfl ?_ | refine Br.ff rfl ?_ | refine Br.ff (isEmptyCons _ _) ?_)
         | (refine Side.mk ?_ ?_; focus (first | omega | (dsimp only [InR, Int.reduceToNat, IntKind.bits, Int.reducePow]; omega) | (simp [CC]; done) | (constructor <;> omega)))
         | (refine Br.mk ?_ ?_ <;> intro hb <;> (try simp only [ZZ] at hb) <;> (first | omega | skip))
         | refine Src.whole ⟨rfl, rfl⟩ ?_ | refine FrzV.whole ?_
         | refine CallW.use (ref1_Put _) ?_) <;> conv => whnf)
        · exact CLe.eq (by rw [hT, if_neg (show ¬ utfEnc r' = List.take 1 (c :: cs) from hb)])
        · exact CLe.eq (by rw [hT, if_pos (show utfEnc r' = List.take 1 (c :: cs) from hb)]; rfl)
      · conv => whnf
        exact CLe.eq (by rw [hT, show takeL (Int.toNat 1 - 1) cs (((c :: cs).getD (Int.toNat 0) 0).toNat : Int) = none from hr'])
theorem refValid_loop (s : Str) (hs : s.length ≤ 1073741824) (R : Int × Bool) (K : Post)
    (h0 : R = ((s.length : Int), true) → K (.exit 0) [(0, .p (.str s))] [] [])
    (hr : R.2 = false → K .ret [(2, .p (.int .i64 R.1))] [] []) :
    ∀ (q i : Nat), s.length ≤ i + q → i ≤ s.length → utfScan q (s.drop i) i = R →
      LoopW PP GG 23 0 (loopN F.ref1_Valid_c 0) [(0, .p (.str s)), (3, .p (.int .i64 i))] [] [] (PostCl 23 K) := by
  intro q
  induction q with
  | zero =>
    intro i hi hil hR
    rw [utfScan] at hR
    subst hR
    refine LoopW.round (pol := polG) mixP ?_
    conv => whnf
    repeat' ((first
     | ((with_reducible first | refine Br.dec ?_ ?_ | refine Br.ndec ?_ ?_) <;> intro hb <;> (try simp only [ZZ] at hb) <;> (first | omega | skip))
     | (with_reducible first | refine Br.tt rfl ?_ | refine Br.ff rfl ?_ | refine Br.ff (isEmptyCons _ _) ?_)
     | (refine Side.mk ?_ ?_; focus (first | omega | (dsimp only [InR, Int.reduceToNat, IntKind.bits, Int.reducePow]; omega) | (simp [CC]; done) | (constructor <;> omega)))
     | (refine Br.mk ?_ ?_ <;> intro hb <;> (try simp only [ZZ] at hb) <;> (first | omega | skip))
     | refine Src.whole ⟨rfl, rfl⟩ ?_ | refine FrzV.whole ?_) <;> conv => whnf)
    · refine PostCl.of (h0 (by congr 1; omega)) ?_ ?_
      · repeat first | exact trivial | refine ⟨VLe.refl _, ?_⟩
      · repeat first | exact trivial | refine ⟨by decide, ?_⟩
  | succ q ih =>
    intro i hi hil hR
    have hT := utfTake_n (s.drop i)
    have hd : (s.drop i).length ≤ 1073741824 := by simp only [List.length_drop]; omega
    have hdl : (s.drop i).length = s.length - i := List.length_drop
    cases hsd : s.drop i with
    | nil =>
      have : (s.drop i).length = 0 := by rw [hsd]; rfl
      rw [hsd, utfScan] at hR
      subst hR
      refine LoopW.round (pol := polG) mixP ?_
      conv => whnf
      repeat' ((first
       | ((with_reducible first | refine Br.dec ?_ ?_ | refine Br.ndec ?_ ?_) <;> intro hb <;> (try simp only [ZZ] at hb) <;> (first | omega | skip))
       | (with_reducible first | refine Br.tt rfl ?_ | refine Br.ff rfl ?_ | refine Br.ff (isEmptyCons _ _) ?_)
       | (refine Side.mk ?_ ?_; focus (first | omega | (dsimp only [InR, Int.reduceToNat, IntKind.bits, Int.reducePow]; omega) | (simp [CC]; done) | (constructor <;> omega)))
       | (refine Br.mk ?_ ?_ <;> intro hb <;> (try simp only [ZZ] at hb) <;> (first | omega | skip))
       | refine Src.whole ⟨rfl, rfl⟩ ?_ | refine FrzV.whole ?_) <;> conv => whnf)
      · refine PostCl.of (h0 (by congr 1; omega)) ?_ ?_
        · repeat first | exact trivial | refine ⟨VLe.refl _, ?_⟩
        · repeat first | exact trivial | refine ⟨by decide, ?_⟩
    | cons c cs =>
      have hlt : i < s.length := by have : (s.drop i).length = cs.length + 1 := by rw [hsd]; rfl
                                    omega
      rw [hsd, utfScan, ← hsd] at hR
      refine LoopW.round (pol := polG) mixP ?_
      conv => whnf
      repeat' ((first
       | ((with_reducible first | refine Br.dec ?_ ?_ | refine Br.ndec ?_ ?_) <;> intro hb <;> (try simp only [ZZ] at hb) <;> (first | omega | skip))
       | (with_reducible first | refine Br.tt rfl ?_ | refine Br.ff rfl ?_ | refine Br.ff (isEmptyCons _ _) ?_)
       | (refine Side.mk ?_ ?_; focus (first | omega | (dsimp only [InR, Int.reduceToNat, IntKind.bits, Int.reducePow]; omega) | (simp [CC]; done) | (constructor <;> omega)))
       | (refine Br.mk ?_ ?_ <;> intro hb <;> (try simp only [ZZ] at hb) <;> (first | omega | skip))
       | refine Src.whole ⟨rfl, rfl⟩ ?_ | refine FrzV.whole ?_
       | refine CallW.use (ref1_Take (s.drop i) hd) ?_) <;> conv => whnf)
      · rw [if_pos hb] at hR
        subst hR
        refine PostCl.of (hr rfl) ?_ ?_
        · repeat first | exact trivial | refine ⟨VLe.refl _, ?_⟩
        · repeat first | exact trivial | refine ⟨by decide, ?_⟩
      · rw [if_neg hb, List.drop_drop] at hR
        obtain ⟨m, hm⟩ : ∃ m : Nat, (utfTake (s.drop i)).2 = m := ⟨(utfTake (s.drop i)).2.toNat, by omega⟩
        rw [hm] at hR ⊢
        refine LoopW.sub (ih (i + m) (by omega) (by omega) (by rw [← hR]; congr 1)) (by repeat first | exact trivial | refine ⟨VLe.refl _, ?_⟩) (by repeat first | exact trivial | refine ⟨by decide, ?_⟩)
theorem ref1_Valid (s : Str) (hs : s.length ≤ 1073741824) : AbsCall PP GG F.ref1_Valid [.p (.str s)] [] ⟨.ret (.p (.int .i64 (refValid s))), [], []⟩ := by
  refine absCall_of (pol := polG) mixP F.ref1_Valid_is ?_
  conv => whnf
  refine LoopW.cl ?_
  refine LoopW.sub (refValid_loop s hs (utfValid s) _ (fun h => ?_) (fun h => ?_) s.length 0 (by omega) (by omega) rfl) (by repeat first | exact trivial | refine ⟨VLe.refl _, ?_⟩) (by repeat first | exact trivial | refine ⟨by decide, ?_⟩)
  · conv => whnf
    exact CLe.eq (by unfold refValid; rw [h]; rfl)
  · conv => whnf
    exact CLe.eq (by unfold refValid; rw [if_neg (by rw [h]; simp)])
end Go.Proofs.YtaoejccgdpppgaaGreatDoor
end

section
namespace Go.Am
mutual
def steep : Tree → Int → Int → Bool × Int
  | .mk _ _ _ l m, d, n => if d < 1 ∨ n < 1 then (true, 0) else match steepL l (d - 1) (n - 1) with
    | (true, _) => (true, 0)
    | (false, n') => steepM m (d - 1) n'
def steepL : List Tree → Int → Int → Bool × Int
  | [], _, n => (false, n)
  | t :: l, d, n => match steep t d n with
    | (true, _) => (true, 0)
    | (false, n') => steepL l d n'
def steepM : List (Str × Tree) → Int → Int → Bool × Int
  | [], _, n => (false, n)
  | p :: m, d, n => match steepP p d n with
    | (true, _) => (true, 0)
    | (false, n') => steepM m d n'
def steepP : Str × Tree → Int → Int → Bool × Int
  | (_, t), d, n => steep t d n
end
theorem steepL_cons (t : Tree) (l : List Tree) (d n : Int) : steepL (t :: l) d n = if (steep t d n).1 = true then (true, 0) else steepL l d (steep t d n).2 := by
  rw [steepL]
  cases h : steep t d n with
  | mk a b => cases a <;> simp
theorem steepM_cons (p : Str × Tree) (m : List (Str × Tree)) (d n : Int) : steepM (p :: m) d n = if (steep p.2 d n).1 = true then (true, 0) else steepM m d (steep p.2 d n).2 := by
  obtain ⟨k, t⟩ := p
  rw [steepM, steepP]
  cases h : steep t d n with
  | mk a b => cases a <;> simp
theorem steep_mk (k n : Int) (s : Str) (l : List Tree) (m : List (Str × Tree)) (d q : Int) : steep (.mk k n s l m) d q = if d < 1 ∨ q < 1 then (true, 0) else if (steepL l (d - 1) (q - 1)).1 = true then (true, 0) else steepM m (d - 1) (steepL l (d - 1) (q - 1)).2 := by
  rw [steep]
  split
  · rfl
  · cases h : steepL l (d - 1) (q - 1) with
    | mk a b => cases a <;> simp
def SteepOk (R : Bool × Int) (n : Int) : Prop := 0 ≤ R.2 ∧ R.2 ≤ n
theorem steepL_ok {l : List Tree} (h : ∀ t ∈ l, ∀ d n : Int, 0 ≤ n → SteepOk (steep t d n) n) : ∀ d n : Int, 0 ≤ n → SteepOk (steepL l d n) n := by
  induction l with
  | nil => intro d n hn; simp [steepL, SteepOk, hn]
  | cons t l ih =>
    intro d n hn
    have h1 := h t (by simp) d n hn
    rw [steepL_cons]
    split
    · exact ⟨by simp, by simpa using hn⟩
    · have h2 := ih (fun x hx => h x (by simp [hx])) d _ h1.1
      exact ⟨h2.1, Int.le_trans h2.2 h1.2⟩
theorem steepM_ok {l : List (Str × Tree)} (h : ∀ t ∈ l, ∀ d n : Int, 0 ≤ n → SteepOk (steep t.2 d n) n) : ∀ d n : Int, 0 ≤ n → SteepOk (steepM l d n) n := by
  induction l with
  | nil => intro d n hn; simp [steepM, SteepOk, hn]
  | cons t l ih =>
    intro d n hn
    have h1 := h t (by simp) d n hn
    rw [steepM_cons]
    split
    · exact ⟨by simp, by simpa using hn⟩
    · have h2 := ih (fun x hx => h x (by simp [hx])) d _ h1.1
      exact ⟨h2.1, Int.le_trans h2.2 h1.2⟩
theorem steep_ok : ∀ (t : Tree) (d n : Int), 0 ≤ n → SteepOk (steep t d n) n := by
  refine Tree.ind ?_
  rintro ⟨k, q, s, l, m⟩ hl hm d n hn
  replace hl : ∀ x ∈ l, ∀ d n : Int, 0 ≤ n → SteepOk (steep x d n) n := hl
  replace hm : ∀ x ∈ m, ∀ d n : Int, 0 ≤ n → SteepOk (steep x.2 d n) n := hm
  rw [steep_mk]
  split
  · exact ⟨by simp, by simpa using hn⟩
  · rename_i hc
    have h1 := steepL_ok hl (d - 1) (n - 1) (by omega)
    split
    · exact ⟨by simp, by simpa using hn⟩
    · have h2 := steepM_ok hm (d - 1) _ h1.1
      exact ⟨h2.1, by have := h2.2; have := h1.2; omega⟩
end Go.Am
end

section
namespace Go.Proofs.YtaoejccgdpppgaaGreatDoor
open Go Go.Am
set_option maxRecDepth 100000
def SteepIs (t : Tree) : Prop := ∀ d n : Int, 0 ≤ d → d ≤ 1000000 → 0 ≤ n → n ≤ 1000000 →
  AbsCall PP GG F.ref1_steep [.p t.enc, .p (.int .i64 d), .p (.int .i64 n)] [] ⟨.ret (.tup [.p (.bool (steep t d n).1), .p (.int .i64 (steep t d n).2)]), [], []⟩
theorem steep_loopL (t : Tree) (d : Int) (hd : 1 ≤ d ∧ d ≤ 1000000) (R : Bool × Int) (K : Post) (hl : ∀ x ∈ t.l, SteepIs x) (hw : t.wt ≤ 4000000)
    (h0 : ∀ n : Int, R = (false, n) → 0 ≤ n → n ≤ 1000000 → K (.exit 0) [(1, .p (.int .i64 d)), (2, .p (.int .i64 n)), (3, .ptr 0 0)] [.var T.api_Value (.p t.enc)] [])
    (hr : R = (true, 0) → K .ret [(6, .p (.bool true)), (7, .p (.int .i64 0))] [.var T.api_Value (.p t.enc)] []) :
    ∀ (q i : Nat) (n : Int), i + q = t.l.length → 0 ≤ n → n ≤ 1000000 → steepL (t.l.drop i) (d - 1) n = R →
      LoopW PP GG 66 0 (loopN F.ref1_steep_c 0) [(1, .p (.int .i64 d)), (2, .p (.int .i64 n)), (3, .ptr 0 0), (8, .p (.int .i64 i))] [.var T.api_Value (.p t.enc)] [] (PostCl 66 K) := by
  rw [Tree.enc_eta t] at h0 hr ⊢
  have hwl := t.wt_ll
  have hlen : (Tree.encL t.l).length = t.l.length := Tree.encL_length _
  intro q
  induction q with
  | zero =>
    intro i n hi h1 h2 hR
    rw [List.drop_eq_nil_of_le (by omega), steepL] at hR
    refine LoopW.round (pol := polG) mixP ?_
    conv => whnf
    repeat' ((first
     | ((with_reducible first | refine Br.dec ?_ ?_ | refine Br.ndec ?_ ?_) <;> intro hb <;> (try simp only [And.intro @hlen (ZZ)] at hb) <;> (first | omega | skip))
     | (with_reducible first | refine Br.tt rfl ?_ | refine Br.ff rfl ?_ | refine Br.ff (isEmptyCons _ _) ?_)
     | (refine Side.mk ?_ ?_; focus (first | omega | (dsimp only [InR, Int.reduceToNat, IntKind.bits, Int.reducePow]; omega) | (simp [CC]; done) | (constructor <;> omega)))
     | (refine Br.mk ?_ ?_ <;> intro hb <;> (try simp only [And.intro @hlen (ZZ)] at hb) <;> (first | omega | skip))
     | refine Src.whole ⟨rfl, rfl⟩ ?_ | refine FrzV.whole ?_) <;> conv => whnf)
    · refine PostCl.of (h0 n hR.symm h1 h2) ?_ ?_
      · repeat first | exact trivial | refine ⟨VLe.refl _, ?_⟩
      · repeat first | exact trivial | refine ⟨by decide, ?_⟩
  | succ q ih =>
    intro i n hi h1 h2 hR
    obtain ⟨x, hx⟩ : ∃ x, t.l[i]? = some x := ⟨_, List.getElem?_eq_getElem (show i < t.l.length by omega)⟩
    rw [drop_cons hx, steepL_cons] at hR
    have hxm : x ∈ t.l := List.mem_of_getElem? hx
    have hok := steep_ok x (d - 1) n h1
    unfold SteepOk at hok
    refine LoopW.round (pol := polG) mixP ?_
    conv => whnf
    repeat' ((first
     | ((with_reducible first | refine Br.dec ?_ ?_ | refine Br.ndec ?_ ?_) <;> intro hb <;> (try simp only [And.intro @hlen (ZZ)] at hb) <;> (first | omega | skip))
     | (with_reducible first | refine Br.tt rfl ?_ | refine Br.ff rfl ?_ | refine Br.ff (isEmptyCons _ _) ?_)
     | (refine Side.mk ?_ ?_; focus (first | omega | (dsimp only [InR, Int.reduceToNat, IntKind.bits, Int.reducePow]; omega) | exact ⟨(Tree.enc_cells x).symm, (Tree.enc_isAgg x).symm⟩ | (simp [CC]; done) | (constructor <;> omega)))
     | (refine Br.mk ?_ ?_ <;> intro hb <;> (try simp only [And.intro @hlen (ZZ)] at hb) <;> (first | omega | skip))
     | refine Src.whole ⟨rfl, rfl⟩ ?_ | refine FrzV.whole ?_
     | refine CallW.use (hl x hxm _ _ (by omega) (by omega) (by omega) (by omega)) ?_
     | (refine ElemZ.tree (by simpa using hx) ?_)) <;> conv => whnf)
    · refine PostCl.of (hr (by rw [← hR, if_pos hb])) ?_ ?_
      · repeat first | exact trivial | refine ⟨VLe.refl _, ?_⟩
      · repeat first | exact trivial | refine ⟨by decide, ?_⟩
    · rw [if_neg (by rw [hb]; simp)] at hR
      refine LoopW.sub (ih (i + 1) _ (by omega) (by omega) (by omega) hR) (by repeat first | exact trivial | refine ⟨VLe.refl _, ?_⟩) (by repeat first | exact trivial | refine ⟨by decide, ?_⟩)
theorem steep_loopM (t : Tree) (d : Int) (hd : 1 ≤ d ∧ d ≤ 1000000) (R : Bool × Int) (K : Post) (hl : ∀ x ∈ t.m, SteepIs x.2) (hw : t.wt ≤ 4000000)
    (h0 : ∀ n : Int, R = (false, n) → K (.exit 2) [(2, .p (.int .i64 n))] [.var T.api_Value (.p t.enc)] [])
    (hr : R = (true, 0) → K .ret [(6, .p (.bool true)), (7, .p (.int .i64 0))] [.var T.api_Value (.p t.enc)] []) :
    ∀ (q i : Nat) (n : Int), i + q = t.m.length → 0 ≤ n → n ≤ 1000000 → steepM (t.m.drop i) (d - 1) n = R →
      LoopW PP GG 66 0 (loopN F.ref1_steep_c 1) [(1, .p (.int .i64 d)), (2, .p (.int .i64 n)), (3, .ptr 0 0), (11, .p (.int .i64 i))] [.var T.api_Value (.p t.enc)] [] (PostCl 66 K) := by
  rw [Tree.enc_eta t] at h0 hr ⊢
  have hwl := t.wt_ml
  have hlen : (Tree.encM t.m).length = t.m.length := Tree.encM_length _
  intro q
  induction q with
  | zero =>
    intro i n hi h1 h2 hR
    rw [List.drop_eq_nil_of_le (by omega), steepM] at hR
    refine LoopW.round (pol := polG) mixP ?_
    conv => whnf
    repeat' ((first
     | ((with_reducible first | refine Br.dec ?_ ?_ | refine Br.ndec ?_ ?_) <;> intro hb <;> (try simp only [And.intro @hlen (ZZ)] at hb) <;> (first | omega | skip))
     | (with_reducible first | refine Br.tt rfl ?_ | refine Br.ff rfl ?_ | refine Br.ff (isEmptyCons _ _) ?_)
     | (refine Side.mk ?_ ?_; focus (first | omega | (dsimp only [InR, Int.reduceToNat, IntKind.bits, Int.reducePow]; omega) | (simp [CC]; done) | (constructor <;> omega)))
     | (refine Br.mk ?_ ?_ <;> intro hb <;> (try simp only [And.intro @hlen (ZZ)] at hb) <;> (first | omega | skip))
     | refine Src.whole ⟨rfl, rfl⟩ ?_ | refine FrzV.whole ?_) <;> conv => whnf)
    · refine PostCl.of (h0 n hR.symm) ?_ ?_
      · repeat first | exact trivial | refine ⟨VLe.refl _, ?_⟩
      · repeat first | exact trivial | refine ⟨by decide, ?_⟩
  | succ q ih =>
    intro i n hi h1 h2 hR
    obtain ⟨x, hx⟩ : ∃ x, t.m[i]? = some x := ⟨_, List.getElem?_eq_getElem (show i < t.m.length by omega)⟩
    rw [drop_cons hx, steepM_cons] at hR
    have hxm : x ∈ t.m := List.mem_of_getElem? hx
    have hok := steep_ok x.2 (d - 1) n h1
    unfold SteepOk at hok
    have hsp := hl x hxm (d - 1) n (by omega) (by omega) (by omega) (by omega)
    obtain ⟨k, y⟩ := x
    rw [Tree.enc_eta y] at hsp
    simp only [] at hok hR
    refine LoopW.round (pol := polG) mixP ?_
    conv => whnf
    repeat' ((first
     | ((with_reducible first | refine Br.dec ?_ ?_ | refine Br.ndec ?_ ?_) <;> intro hb <;> (try simp only [And.intro @hlen (ZZ)] at hb) <;> (first | omega | skip))
     | (with_reducible first | refine Br.tt rfl ?_ | refine Br.ff rfl ?_ | refine Br.ff (isEmptyCons _ _) ?_)
     | (refine Side.mk ?_ ?_; focus (first | omega | (dsimp only [InR, Int.reduceToNat, IntKind.bits, Int.reducePow]; omega) | exact ⟨rfl, rfl⟩ | (simp [CC]; done) | (constructor <;> omega)))
     | (refine Br.mk ?_ ?_ <;> intro hb <;> (try simp only [And.intro @hlen (ZZ)] at hb) <;> (first | omega | skip))
     | refine Src.whole ⟨rfl, rfl⟩ ?_ | refine FrzV.whole ?_
     | refine CallW.use (hsp) ?_
     | (refine ElemZ.pair (p := (k, y)) (by simpa using hx) ?_; (rw [Tree.encP, Tree.enc_eta y]; conv => whnf))) <;> conv => whnf)
    · refine PostCl.of (hr (by rw [← hR, if_pos hb])) ?_ ?_
      · repeat first | exact trivial | refine ⟨VLe.refl _, ?_⟩
      · repeat first | exact trivial | refine ⟨by decide, ?_⟩
    · rw [if_neg (by rw [hb]; simp)] at hR
      refine LoopW.sub (ih (i + 1) _ (by omega) (by omega) (by omega) hR) (by repeat first | exact trivial | refine ⟨VLe.refl _, ?_⟩) (by repeat first | exact trivial | refine ⟨by decide, ?_⟩)
theorem ref1_steep : ∀ t : Tree, t.wt ≤ 4000000 → SteepIs t := by
  refine Tree.indW fun t hw hl hm d n hd hd2 hn hn2 => ?_
  have hs : steep t d n = if d < 1 ∨ n < 1 then (true, 0) else if (steepL t.l (d - 1) (n - 1)).1 = true then (true, 0) else steepM t.m (d - 1) (steepL t.l (d - 1) (n - 1)).2 := by
    cases t with
    | mk k v s l m => exact steep_mk k v s l m d n
  refine absCall_of (pol := polG) mixP F.ref1_steep_is ?_
  conv => whnf
  repeat' ((first
   | ((with_reducible first | refine Br.dec ?_ ?_ | refine Br.ndec ?_ ?_) <;> intro hb <;> (try simp only [ZZ] at hb) <;> (first | omega | skip))
   | (with_reducible first | refine Br.tt rfl ?_ | refine Br.ff rfl ?_ | refine Br.ff (isEmptyCons _ _) ?_)
   | (refine Side.mk ?_ ?_; focus (first | omega | (dsimp only [InR, Int.reduceToNat, IntKind.bits, Int.reducePow]; omega) | (simp [CC]; done) | (constructor <;> omega)))
   | (refine Br.mk ?_ ?_ <;> intro hb <;> (try simp only [ZZ] at hb) <;> (first | omega | skip))
   | refine Src.whole ⟨rfl, rfl⟩ ?_ | refine FrzV.whole ?_) <;> conv => whnf)
  · exact CLe.eq (by rw [hs, if_pos (by omega)])
  · exact CLe.eq (by rw [hs, if_pos (by omega)])
  rw [if_neg (by omega)] at hs
  refine LoopW.cl ?_
  have hokl := steepL_ok (l := t.l) (fun x _ d n h => steep_ok x d n h) (d - 1) (n - 1) (by omega)
  unfold SteepOk at hokl
  refine LoopW.sub (steep_loopL t d (by omega) (steepL t.l (d - 1) (n - 1)) _ (fun x hx => (hl x hx).2) hw (fun q hq hq0 hq1 => ?_) (fun hq => ?_) t.l.length 0 (n - 1) (by omega) (by omega) (by omega) rfl) (by repeat first | exact trivial | refine ⟨VLe.refl _, ?_⟩) (by repeat first | exact trivial | refine ⟨by decide, ?_⟩)
  · conv => whnf
    repeat' ((first
     | ((with_reducible first | refine Br.dec ?_ ?_ | refine Br.ndec ?_ ?_) <;> intro hb <;> (try simp only [ZZ] at hb) <;> (first | omega | skip))
     | (with_reducible first | refine Br.tt rfl ?_ | refine Br.ff rfl ?_ | refine Br.ff (isEmptyCons _ _) ?_)
     | (refine Side.mk ?_ ?_; focus (first | omega | (dsimp only [InR, Int.reduceToNat, IntKind.bits, Int.reducePow]; omega) | (simp [CC]; done) | (constructor <;> omega)))
     | (refine Br.mk ?_ ?_ <;> intro hb <;> (try simp only [ZZ] at hb) <;> (first | omega | skip))
     | refine Src.whole ⟨rfl, rfl⟩ ?_ | refine FrzV.whole ?_) <;> conv => whnf)
    refine LoopW.cl ?_
    refine LoopW.sub (steep_loopM t d (by omega) (steepM t.m (d - 1) q) _ (fun x hx => (hm x hx).2.2) hw (fun r hr => ?_) (fun hr => ?_) t.m.length 0 q (by omega) (by omega) (by omega) rfl) (by repeat first | exact trivial | refine ⟨VLe.refl _, ?_⟩) (by repeat first | exact trivial | refine ⟨by decide, ?_⟩)
    · conv => whnf
      exact CLe.eq (by rw [hs, hq, if_neg (by simp)]; simp only []; rw [hr])
    · conv => whnf
      exact CLe.eq (by rw [hs, hq, if_neg (by simp)]; simp only []; rw [hr])
  · conv => whnf
    exact CLe.eq (by rw [hs, if_pos (by rw [hq])])
theorem ref1_Heavy (t : Tree) (n d : Int) (hw : t.wt ≤ 4000000) (hn : 0 ≤ n ∧ n ≤ 1000000) (hd : 0 ≤ d ∧ d ≤ 1000000) : AbsCall PP GG F.ref1_Heavy [.p t.enc, .p (.int .i64 n), .p (.int .i64 d)] [] ⟨.ret (.p (.bool (steep t d n).1)), [], []⟩ := by
  have hsp := ref1_steep t hw d n (by omega) (by omega) (by omega) (by omega)
  rw [Tree.enc_eta t] at hsp ⊢
  refine absCall_of (pol := polG) mixP F.ref1_Heavy_is ?_
  conv => whnf
  repeat' ((first
   | ((with_reducible first | refine Br.dec ?_ ?_ | refine Br.ndec ?_ ?_) <;> intro hb <;> (try simp only [ZZ] at hb) <;> (first | omega | skip))
   | (with_reducible first | refine Br.tt rfl ?_ | refine Br.ff rfl ?_ | refine Br.ff (isEmptyCons _ _) ?_)
   | (refine Side.mk ?_ ?_; focus (first | omega | (dsimp only [InR, Int.reduceToNat, IntKind.bits, Int.reducePow]; omega) | (simp [CC]; done) | (constructor <;> omega)))
   | (refine Br.mk ?_ ?_ <;> intro hb <;> (try simp only [ZZ] at hb) <;> (first | omega | skip))
   | refine Src.whole ⟨rfl, rfl⟩ ?_ | refine FrzV.whole ?_
   | refine CallW.use (hsp) ?_) <;> conv => whnf)
  exact CLe.eq rfl
theorem ref1_Str (s : Str) (hs : s.length ≤ 1073741824) : AbsCall PP GG F.ref1_Str [.p (.str s)] [] ⟨.ret (.p (.bool (strOk s))), [], []⟩ := by
  refine absCall_of (pol := polG) mixP F.ref1_Str_is ?_
  conv => whnf
  repeat' ((first
   | ((with_reducible first | refine Br.dec ?_ ?_ | refine Br.ndec ?_ ?_) <;> intro hb <;> (try simp only [ZZ] at hb) <;> (first | omega | skip))
   | (with_reducible first | refine Br.tt rfl ?_ | refine Br.ff rfl ?_ | refine Br.ff (isEmptyCons _ _) ?_)
   | (refine Side.mk ?_ ?_; focus (first | omega | (dsimp only [InR, Int.reduceToNat, IntKind.bits, Int.reducePow]; omega) | (simp [CC]; done) | (constructor <;> omega)))
   | (refine Br.mk ?_ ?_ <;> intro hb <;> (try simp only [ZZ] at hb) <;> (first | omega | skip))
   | refine Src.whole ⟨rfl, rfl⟩ ?_ | refine FrzV.whole ?_
   | refine CallW.use (ref1_Valid s hs) ?_) <;> conv => whnf)
  · exact CLe.retP (by unfold strOk; rw [refValid_neg, decide_eq_true (by omega), Bool.true_and])
  · exact CLe.retP (by unfold strOk; rw [decide_eq_false (by omega), Bool.false_and])
theorem stamp_loop (s : Str) (hs : s.length ≤ 64) (K : Post)
    (h0 : (∀ b ∈ s, 32 ≤ b.toNat ∧ b.toNat ≤ 126) → K (.exit 0) [] [] [])
    (hr : ¬ (∀ b ∈ s, 32 ≤ b.toNat ∧ b.toNat ≤ 126) → K .ret [(2, .p (.bool false))] [] []) :
    ∀ (q i : Nat), i + q = s.length → (∀ b ∈ s.take i, 32 ≤ b.toNat ∧ b.toNat ≤ 126) →
      LoopW PP GG 28 0 (loopN F.ref1_Stamp_c 0) [(0, .p (.str s)), (3, .p (.int .i64 i))] [] [] (PostCl 28 K) := by
  intro q
  induction q with
  | zero =>
    intro i hi hR
    rw [List.take_of_length_le (by omega)] at hR
    refine LoopW.round (pol := polG) mixP ?_
    conv => whnf
    repeat' ((first
     | ((with_reducible first | refine Br.dec ?_ ?_ | refine Br.ndec ?_ ?_) <;> intro hb <;> (try simp only [ZZ] at hb) <;> (first | omega | skip))
     | (with_reducible first | refine Br.tt rfl ?_ | refine Br.ff rfl ?_ | refine Br.ff (isEmptyCons _ _) ?_)
     | (refine Side.mk ?_ ?_; focus (first | omega | (dsimp only [InR, Int.reduceToNat, IntKind.bits, Int.reducePow]; omega) | (simp [CC]; done) | (constructor <;> omega)))
     | (refine Br.mk ?_ ?_ <;> intro hb <;> (try simp only [ZZ] at hb) <;> (first | omega | skip))
     | refine Src.whole ⟨rfl, rfl⟩ ?_ | refine FrzV.whole ?_) <;> conv => whnf)
    · refine PostCl.of (h0 hR) ?_ ?_
      · repeat first | exact trivial | refine ⟨VLe.refl _, ?_⟩
      · repeat first | exact trivial | refine ⟨by decide, ?_⟩
  | succ q ih =>
    intro i hi hR
    obtain ⟨b, hb⟩ : ∃ b, s[i]? = some b := ⟨_, List.getElem?_eq_getElem (show i < s.length by omega)⟩
    have hg : s.getD (Int.toNat ↑i) 0 = b := getD_of (by simpa using hb)
    have hbm : b ∈ s := List.mem_of_getElem? hb
    have hbl := UInt8.toNat_lt b
    have ht : s.take (i + 1) = s.take i ++ [b] := by rw [List.take_add_one, hb]; rfl
    refine LoopW.round (pol := polG) mixP ?_
    conv => whnf
    repeat' ((first
     | ((with_reducible first | refine Br.dec ?_ ?_ | refine Br.ndec ?_ ?_) <;> intro hb <;> (try simp only [And.intro @hg (ZZ)] at hb) <;> (first | omega | skip))
     | (with_reducible first | refine Br.tt rfl ?_ | refine Br.ff rfl ?_ | refine Br.ff (isEmptyCons _ _) ?_)
     | (refine Side.mk ?_ ?_; focus (first | omega | (dsimp only [InR, Int.reduceToNat, IntKind.bits, Int.reducePow]; omega) | (simp only [hg, InR]; omega) | (simp [CC]; done) | (constructor <;> omega)))
     | (refine Br.mk ?_ ?_ <;> intro hb <;> (try simp only [And.intro @hg (ZZ)] at hb) <;> (first | omega | skip))
     | refine Src.whole ⟨rfl, rfl⟩ ?_ | refine FrzV.whole ?_) <;> conv => whnf)
    · refine PostCl.of (hr (fun h => by have := h b hbm; omega)) ?_ ?_
      · repeat first | exact trivial | refine ⟨VLe.refl _, ?_⟩
      · repeat first | exact trivial | refine ⟨by decide, ?_⟩
    · refine PostCl.of (hr (fun h => by have := h b hbm; omega)) ?_ ?_
      · repeat first | exact trivial | refine ⟨VLe.refl _, ?_⟩
      · repeat first | exact trivial | refine ⟨by decide, ?_⟩
    · refine LoopW.sub (ih (i + 1) (by omega) (by rw [ht]; intro x hx; exact (List.mem_append.1 hx).elim (hR x) (fun h => by rw [List.mem_singleton] at h; subst h; omega))) (by repeat first | exact trivial | refine ⟨VLe.refl _, ?_⟩) (by repeat first | exact trivial | refine ⟨by decide, ?_⟩)
theorem ref1_Stamp (s : Str) : AbsCall PP GG F.ref1_Stamp [.p (.str s)] [] ⟨.ret (.p (.bool (stampOk s))), [], []⟩ := by
  refine absCall_of (pol := polG) mixP F.ref1_Stamp_is ?_
  conv => whnf
  repeat' ((first
   | ((with_reducible first | refine Br.dec ?_ ?_ | refine Br.ndec ?_ ?_) <;> intro hb <;> (try simp only [ZZ] at hb) <;> (first | omega | skip))
   | (with_reducible first | refine Br.tt rfl ?_ | refine Br.ff rfl ?_ | refine Br.ff (isEmptyCons _ _) ?_)
   | (refine Side.mk ?_ ?_; focus (first | omega | (dsimp only [InR, Int.reduceToNat, IntKind.bits, Int.reducePow]; omega) | (simp [CC]; done) | (constructor <;> omega)))
   | (refine Br.mk ?_ ?_ <;> intro hb <;> (try simp only [ZZ] at hb) <;> (first | omega | skip))
   | refine Src.whole ⟨rfl, rfl⟩ ?_ | refine FrzV.whole ?_) <;> conv => whnf)
  · exact CLe.retP (by unfold stampOk; rw [decide_eq_false (by omega)])
  · exact CLe.retP (by unfold stampOk; rw [decide_eq_false (by omega)])
  refine LoopW.cl ?_
  refine LoopW.sub (stamp_loop s (by omega) _ (fun h => ?_) (fun h => ?_) s.length 0 (by omega) (by simp)) (by repeat first | exact trivial | refine ⟨VLe.refl _, ?_⟩) (by repeat first | exact trivial | refine ⟨by decide, ?_⟩)
  · conv => whnf
    exact CLe.retP (by unfold stampOk; rw [decide_eq_true ⟨by omega, by omega, h⟩])
  · conv => whnf
    exact CLe.retP (by unfold stampOk; rw [decide_eq_false (fun e => h e.2.2)])
end Go.Proofs.YtaoejccgdpppgaaGreatDoor
end

section
namespace Go.Am
open Go
def dig (b : UInt8) : Bool := decide (48 ≤ b.toNat ∧ b.toNat ≤ 57)
def runL : Str → Nat
  | [] => 0
  | b :: s => if dig b = true then runL s + 1 else 0
theorem runL_le : ∀ s : Str, runL s ≤ s.length
  | [] => Nat.le_refl _
  | b :: s => by rw [runL]; split <;> simp [runL_le s]
abbrev Parts := Bool × Str × Str × Str × Bool
def noParts : Parts := (false, [], [], [], false)
def b0 (s : Str) : Nat := (s.getD 0 0).toNat
def partsE (neg : Bool) (w f p d : Str) : Parts := if d.length = 0 ∨ runL d ≠ d.length then noParts else (neg, w, f, p, true)
def partsD (neg : Bool) (w f s : Str) : Parts :=
  if s.length = 0 then (neg, w, f, [], true) else if b0 s ≠ 101 ∧ b0 s ≠ 69 then noParts else
  if 0 < (s.drop 1).length ∧ (b0 (s.drop 1) = 43 ∨ b0 (s.drop 1) = 45) then partsE neg w f (s.drop 1) ((s.drop 1).drop 1) else partsE neg w f (s.drop 1) (s.drop 1)
def partsC (neg : Bool) (w s : Str) : Parts :=
  if 0 < s.length ∧ b0 s = 46 then (if runL (s.drop 1) = 0 then noParts else partsD neg w ((s.drop 1).take (runL (s.drop 1))) ((s.drop 1).drop (runL (s.drop 1)))) else partsD neg w [] s
def partsB (neg : Bool) (s : Str) : Parts := if runL s = 0 ∨ (1 < runL s ∧ b0 (s.take (runL s)) = 48) then noParts else partsC neg (s.take (runL s)) (s.drop (runL s))
def numParts (s : Str) : Parts := if 0 < s.length ∧ b0 s = 45 then partsB true (s.drop 1) else partsB false s
def powL : Str → Int → Option Int
  | [], v => some v
  | b :: s, v => if dig b = true then (if 10 * v + (b.toNat - 48) > 100000 then none else powL s (10 * v + (b.toNat - 48))) else powL s v
def powerL (p : Str) : Int × Bool := match powL p 0 with
  | none => (0, false)
  | some v => if 0 < p.length ∧ b0 p = 45 then (-v, true) else (v, true)
def formL (s : Str) : Bool × Bool := ((numParts s).2.2.2.2, (numParts s).2.2.2.2 && !(powerL (numParts s).2.2.2.1).2)
def numL (s : Str) : Bool := (formL s).1 && !(formL s).2 && decide (s.length ≤ 400)
end Go.Am
namespace Go.Am
theorem CLe.parts {x : Parts} {a e : Bool} {b c d : Str} {H : Heap} {mv : List Nat} (h : x = (a, b, c, d, e)) :
    CLe ⟨.ret (.tup [.p (.bool a), .p (.str b), .p (.str c), .p (.str d), .p (.bool e)]), H, mv⟩ ⟨.ret (.tup [.p (.bool x.1), .p (.str x.2.1), .p (.str x.2.2.1), .p (.str x.2.2.2.1), .p (.bool x.2.2.2.2)]), H, mv⟩ := by subst h; exact CLe.refl _
end Go.Am
namespace Go.Am
theorem take_run (s : Str) : (s.take (runL s)).length = runL s := by rw [List.length_take]; have := runL_le s; omega
end Go.Am
namespace Go.Am
theorem numParts_p (s : Str) : (numParts s).2.2.2.1.length ≤ s.length := by
  have hE : ∀ neg w f p d, (partsE neg w f p d).2.2.2.1.length ≤ p.length := by
    intro neg w f p d; unfold partsE; split <;> simp [noParts]
  have hD : ∀ neg w f (s : Str), (partsD neg w f s).2.2.2.1.length ≤ s.length := by
    intro neg w f s
    unfold partsD
    split
    · simp
    · split
      · simp [noParts]
      · have hl : (s.drop 1).length ≤ s.length := by rw [List.length_drop]; omega
        split
        · exact Nat.le_trans (hE _ _ _ _ _) hl
        · exact Nat.le_trans (hE _ _ _ _ _) hl
  have hC : ∀ neg w (s : Str), (partsC neg w s).2.2.2.1.length ≤ s.length := by
    intro neg w s
    unfold partsC
    split
    · split
      · simp [noParts]
      · exact Nat.le_trans (hD _ _ _ _) (by rw [List.length_drop, List.length_drop]; omega)
    · exact hD _ _ _ _
  have hB : ∀ neg (s : Str), (partsB neg s).2.2.2.1.length ≤ s.length := by
    intro neg s
    unfold partsB
    split
    · simp [noParts]
    · exact Nat.le_trans (hC _ _ _) (by rw [List.length_drop]; omega)
  unfold numParts
  split
  · exact Nat.le_trans (hB _ _) (by rw [List.length_drop]; omega)
  · exact hB _ _
theorem numParts_len (s : Str) (hs : s.length ≤ 1073741824) : (numParts s).2.2.2.1.length ≤ 1073741824 := Nat.le_trans (numParts_p s) hs
end Go.Am
namespace Go.Am
def negL : Str → Int → Option Int
  | [], v => some v
  | b :: s, v => if v < -((9223372036854775808 - ((b.toNat : Int) - 48)) / 10) then none else negL s (10 * v - ((b.toNat : Int) - 48))
def refIntL (s : Str) : Int × Bool :=
  if numL s = false ∨ s = [45, 48] then (0, false) else
  if 0 < (numParts s).2.2.1.length ∨ 0 < (numParts s).2.2.2.1.length then (0, false) else
  match negL (numParts s).2.1 0 with
  | none => (0, false)
  | some v => if (numParts s).1 = true then (v, true) else if v = -9223372036854775808 then (0, false) else (-v, true)
theorem take_dig : ∀ s : Str, ∀ b ∈ s.take (runL s), dig b = true
  | [] => by simp
  | c :: s => by
    intro b hb
    rw [runL] at hb
    split at hb
    · rename_i h
      rw [List.take_succ_cons] at hb
      rcases List.mem_cons.1 hb with rfl | hb
      · exact h
      · exact take_dig s b hb
    · simp at hb
theorem numParts_w (s : Str) : (∀ b ∈ (numParts s).2.1, dig b = true) ∧ (numParts s).2.1.length ≤ s.length := by
  have hE : ∀ neg w f p d, (partsE neg w f p d).2.1 = w ∨ (partsE neg w f p d).2.1 = [] := by
    intro neg w f p d; unfold partsE; split <;> simp [noParts]
  have hD : ∀ neg w f (s : Str), (partsD neg w f s).2.1 = w ∨ (partsD neg w f s).2.1 = [] := by
    intro neg w f s
    unfold partsD
    split
    · simp
    · split
      · simp [noParts]
      · split
        · exact hE _ _ _ _ _
        · exact hE _ _ _ _ _
  have hC : ∀ neg w (s : Str), (partsC neg w s).2.1 = w ∨ (partsC neg w s).2.1 = [] := by
    intro neg w s
    unfold partsC
    split
    · split
      · simp [noParts]
      · exact hD _ _ _ _
    · exact hD _ _ _ _
  have hB : ∀ neg (s : Str), (∀ b ∈ (partsB neg s).2.1, dig b = true) ∧ (partsB neg s).2.1.length ≤ s.length := by
    intro neg s
    unfold partsB
    split
    · simp [noParts]
    · rcases hC neg (s.take (runL s)) (s.drop (runL s)) with h | h
      · rw [h]; exact ⟨take_dig s, by rw [List.length_take]; omega⟩
      · rw [h]; simp
  unfold numParts
  split
  · have := hB true (s.drop 1)
    refine ⟨this.1, Nat.le_trans this.2 (by rw [List.length_drop]; omega)⟩
  · exact hB _ _
theorem tdiv_neg10 (x : Int) (h : x ≤ 0) : x.tdiv 10 = -((-x) / 10) := by
  obtain ⟨n, hn⟩ := Int.eq_ofNat_of_zero_le (show 0 ≤ -x by omega)
  have hx : x = -(n : Int) := by omega
  subst hx
  rw [Int.neg_tdiv, Int.neg_neg, Int.tdiv_eq_ediv_of_nonneg (by omega)]
end Go.Am
end

section
namespace Go.Proofs.YtaoejccgdpppgaaGreatDoor
open Go Go.Am
set_option maxRecDepth 100000
theorem ref1_digit (c : UInt8) : AbsCall PP GG F.ref1_digit [.p (byteP c)] [] ⟨.ret (.p (.bool (dig c))), [], []⟩ := by
  have hc := UInt8.toNat_lt c
  refine absCall_of (pol := polG) mixP F.ref1_digit_is ?_
  conv => whnf
  repeat' ((first
   | ((with_reducible first | refine Br.dec ?_ ?_ | refine Br.ndec ?_ ?_) <;> intro hb <;> (try simp only [ZZ] at hb) <;> (first | omega | skip))
   | (with_reducible first | refine Br.tt rfl ?_ | refine Br.ff rfl ?_ | refine Br.ff (isEmptyCons _ _) ?_)
   | (refine Side.mk ?_ ?_; focus (first | omega | (dsimp only [InR, Int.reduceToNat, IntKind.bits, Int.reducePow]; omega) | (simp [CC]; done) | (constructor <;> omega)))
   | (refine Br.mk ?_ ?_ <;> intro hb <;> (try simp only [ZZ] at hb) <;> (first | omega | skip))
   | refine Src.whole ⟨rfl, rfl⟩ ?_ | refine FrzV.whole ?_) <;> conv => whnf)
  all_goals exact CLe.retP (by simp only [PV.bool.injEq, dig]; first | (symm; rw [decide_eq_false_iff_not]; omega) | (symm; rw [decide_eq_true_eq]; omega) | (rw [decide_eq_decide]; omega))
theorem run_loop (s : Str) (hs : s.length ≤ 1073741824) (K : Post) (h0 : K (.exit 0) [(3, .p (.int .i64 (runL s)))] [] []) :
    ∀ (q i : Nat), i + q = s.length → i + runL (s.drop i) = runL s →
      LoopW PP GG 17 0 (loopN F.ref1_run_c 0) [(0, .p (.str s)), (3, .p (.int .i64 i))] [] [] (PostCl 17 K) := by
  intro q
  induction q with
  | zero =>
    intro i hi hR
    rw [List.drop_eq_nil_of_le (by omega), runL, Nat.add_zero] at hR
    subst hR
    refine LoopW.round (pol := polG) mixP ?_
    conv => whnf
    repeat' ((first
     | ((with_reducible first | refine Br.dec ?_ ?_ | refine Br.ndec ?_ ?_) <;> intro hb <;> (try simp only [ZZ] at hb) <;> (first | omega | skip))
     | (with_reducible first | refine Br.tt rfl ?_ | refine Br.ff rfl ?_ | refine Br.ff (isEmptyCons _ _) ?_)
     | (refine Side.mk ?_ ?_; focus (first | omega | (dsimp only [InR, Int.reduceToNat, IntKind.bits, Int.reducePow]; omega) | (simp [CC]; done) | (constructor <;> omega)))
     | (refine Br.mk ?_ ?_ <;> intro hb <;> (try simp only [ZZ] at hb) <;> (first | omega | skip))
     | refine Src.whole ⟨rfl, rfl⟩ ?_ | refine FrzV.whole ?_
     | refine CallW.use (ref1_digit _) ?_) <;> conv => whnf)
    · refine PostCl.of (h0) ?_ ?_
      · repeat first | exact trivial | refine ⟨VLe.refl _, ?_⟩
      · repeat first | exact trivial | refine ⟨by decide, ?_⟩
  | succ q ih =>
    intro i hi hR
    obtain ⟨b, hb⟩ : ∃ b, s[i]? = some b := ⟨_, List.getElem?_eq_getElem (show i < s.length by omega)⟩
    have hg : s.getD (Int.toNat ↑i) 0 = b := getD_of (by simpa using hb)
    rw [drop_cons hb, runL] at hR
    refine LoopW.round (pol := polG) mixP ?_
    conv => whnf
    repeat' ((first
     | ((with_reducible first | refine Br.dec ?_ ?_ | refine Br.ndec ?_ ?_) <;> intro hb <;> (try simp only [And.intro @hg (ZZ)] at hb) <;> (first | omega | skip))
     | (with_reducible first | refine Br.tt rfl ?_ | refine Br.ff rfl ?_ | refine Br.ff (isEmptyCons _ _) ?_)
     | (refine Side.mk ?_ ?_; focus (first | omega | (dsimp only [InR, Int.reduceToNat, IntKind.bits, Int.reducePow]; omega) | (simp [CC]; done) | (constructor <;> omega)))
     | (refine Br.mk ?_ ?_ <;> intro hb <;> (try simp only [And.intro @hg (ZZ)] at hb) <;> (first | omega | skip))
     | refine Src.whole ⟨rfl, rfl⟩ ?_ | refine FrzV.whole ?_
     | refine CallW.use (ref1_digit _) ?_) <;> conv => whnf)
    · rw [if_pos hb] at hR
      refine LoopW.sub (ih (i + 1) (by omega) (by omega)) (by repeat first | exact trivial | refine ⟨VLe.refl _, ?_⟩) (by repeat first | exact trivial | refine ⟨by decide, ?_⟩)
    · rw [if_neg (by rw [hb]; simp), Nat.add_zero] at hR
      subst hR
      refine PostCl.of (h0) ?_ ?_
      · repeat first | exact trivial | refine ⟨VLe.refl _, ?_⟩
      · repeat first | exact trivial | refine ⟨by decide, ?_⟩
theorem ref1_run (s : Str) (hs : s.length ≤ 1073741824) : AbsCall PP GG F.ref1_run [.p (.str s)] [] ⟨.ret (.p (.int .i64 (runL s))), [], []⟩ := by
  refine absCall_of (pol := polG) mixP F.ref1_run_is ?_
  conv => whnf
  refine LoopW.cl ?_
  refine LoopW.sub (run_loop s hs _ ?_ s.length 0 (by omega) (by simp)) (by repeat first | exact trivial | refine ⟨VLe.refl _, ?_⟩) (by repeat first | exact trivial | refine ⟨by decide, ?_⟩)
  conv => whnf
  exact CLe.eq rfl
theorem parts_24 (neg : Bool) (w f p d : Str) (hd : d.length ≤ 1073741824) (R : Parts) (K : Post) (hR : partsE neg w f p d = R)
    (h0 : K .ret [(2, .p (.bool R.1)), (3, .p (.str R.2.1)), (4, .p (.str R.2.2.1)), (5, .p (.str R.2.2.2.1)), (6, .p (.bool R.2.2.2.2))] [] []) :
    CutW PP GG 106 0 (tailN F.ref1_parts_c 24) [(7, .p (.bool neg)), (9, .p (.str w)), (10, .p (.str f)), (11, .p (.str p)), (12, .p (.str d))] [] [] (PostCl 106 K) := by
  have hr := runL_le d
  unfold partsE at hR
  refine CutW.go (pol := polC []) mixP ?_
  conv => whnf
  repeat' ((first
   | ((with_reducible first | refine Br.dec ?_ ?_ | refine Br.ndec ?_ ?_) <;> intro hb <;> (try simp only [ZZ] at hb) <;> (first | omega | skip))
   | (with_reducible first | refine Br.tt rfl ?_ | refine Br.ff rfl ?_ | refine Br.ff (isEmptyCons _ _) ?_)
   | (refine Side.mk ?_ ?_; focus (first | omega | (dsimp only [InR, Int.reduceToNat, IntKind.bits, Int.reducePow]; omega) | (simp [CC]; done) | (constructor <;> omega)))
   | (refine Br.mk ?_ ?_ <;> intro hb <;> (try simp only [ZZ] at hb) <;> (first | omega | skip))
   | refine Src.whole ⟨rfl, rfl⟩ ?_ | refine FrzV.whole ?_
   | refine CallW.use (ref1_run d hd) ?_) <;> conv => whnf)
  all_goals
    first
    | (rw [if_pos (by omega)] at hR; subst hR; refine PostCl.of (h0) (by repeat first | exact trivial | refine ⟨VLe.refl _, ?_⟩) (by repeat first | exact trivial | refine ⟨by decide, ?_⟩))
    | (rw [if_neg (by omega)] at hR; subst hR; refine PostCl.of (h0) (by repeat first | exact trivial | refine ⟨VLe.refl _, ?_⟩) (by repeat first | exact trivial | refine ⟨by decide, ?_⟩))
theorem parts_16 (neg : Bool) (w f s : Str) (hs : s.length ≤ 1073741824) (R : Parts) (K : Post) (hR : partsD neg w f s = R)
    (h0 : K .ret [(2, .p (.bool R.1)), (3, .p (.str R.2.1)), (4, .p (.str R.2.2.1)), (5, .p (.str R.2.2.2.1)), (6, .p (.bool R.2.2.2.2))] [] []) :
    CutW PP GG 106 0 (tailN F.ref1_parts_c 16) [(0, .p (.str s)), (7, .p (.bool neg)), (9, .p (.str w)), (10, .p (.str f))] [] [] (PostCl 106 K) := by
  have hl1 : (s.drop 1).length = s.length - 1 := List.length_drop
  have hl2 : ((s.drop 1).drop 1).length = s.length - 1 - 1 := by rw [List.length_drop, hl1]
  unfold partsD b0 at hR
  refine CutW.go (pol := polC [24]) mixP ?_
  conv => whnf
  repeat' ((first
   | ((with_reducible first | refine Br.dec ?_ ?_ | refine Br.ndec ?_ ?_) <;> intro hb <;> (try simp only [And.intro NN (And.intro @hl1 (ZZ))] at hb) <;> (first | omega | skip))
   | (with_reducible first | refine Br.tt rfl ?_ | refine Br.ff rfl ?_ | refine Br.ff (isEmptyCons _ _) ?_)
   | (refine Side.mk ?_ ?_; focus (first | omega | (dsimp only [InR, Int.reduceToNat, IntKind.bits, Int.reducePow]; omega) | (simp only [Int.reduceToNat, hl1]; omega) | (simp [CC]; done) | (constructor <;> omega)))
   | (refine Br.mk ?_ ?_ <;> intro hb <;> (try simp only [And.intro NN (And.intro @hl1 (ZZ))] at hb) <;> (first | omega | skip))
   | refine Src.whole ⟨rfl, rfl⟩ ?_ | refine FrzV.whole ?_) <;> conv => whnf)
  all_goals
    first
    | (rw [if_pos (by omega)] at hR; subst hR; refine PostCl.of (h0) (by repeat first | exact trivial | refine ⟨VLe.refl _, ?_⟩) (by repeat first | exact trivial | refine ⟨by decide, ?_⟩))
    | (rw [if_neg (by omega), if_pos (by omega)] at hR; subst hR; refine PostCl.of (h0) (by repeat first | exact trivial | refine ⟨VLe.refl _, ?_⟩) (by repeat first | exact trivial | refine ⟨by decide, ?_⟩))
    | (rw [if_neg (by omega), if_neg (by omega), if_pos (by omega)] at hR; refine CutW.sub (parts_24 neg w f (s.drop 1) ((s.drop 1).drop 1) (by omega) R K hR h0) (by repeat first | exact trivial | refine ⟨VLe.refl _, ?_⟩) (by repeat first | exact trivial | refine ⟨by decide, ?_⟩))
    | (rw [if_neg (by omega), if_neg (by omega), if_neg (by omega)] at hR; refine CutW.sub (parts_24 neg w f (s.drop 1) (s.drop 1) (by omega) R K hR h0) (by repeat first | exact trivial | refine ⟨VLe.refl _, ?_⟩) (by repeat first | exact trivial | refine ⟨by decide, ?_⟩))
theorem parts_10 (neg : Bool) (w s : Str) (hs : s.length ≤ 1073741824) (R : Parts) (K : Post) (hR : partsC neg w s = R)
    (h0 : K .ret [(2, .p (.bool R.1)), (3, .p (.str R.2.1)), (4, .p (.str R.2.2.1)), (5, .p (.str R.2.2.2.1)), (6, .p (.bool R.2.2.2.2))] [] []) :
    CutW PP GG 106 0 (tailN F.ref1_parts_c 9) [(0, .p (.str s)), (7, .p (.bool neg)), (9, .p (.str w))] [] [] (PostCl 106 K) := by
  have hl1 : (s.drop 1).length = s.length - 1 := List.length_drop
  have hr1 := runL_le (s.drop 1)
  have e1 : List.take ((1 + (runL (s.drop 1) : Int)).toNat - 1) (s.drop 1) = List.take (runL (s.drop 1)) (s.drop 1) := by congr 1 <;> omega
  have e2 : List.drop (1 + (runL (s.drop 1) : Int)).toNat s = List.drop (runL (s.drop 1)) (s.drop 1) := by rw [List.drop_drop]; congr 1 <;> omega
  have htk : (List.take ((1 + (runL (s.drop 1) : Int)).toNat - 1) (s.drop 1)).length = runL (s.drop 1) := by rw [e1, take_run]
  have hul : (List.drop (1 + (runL (s.drop 1) : Int)).toNat s).length ≤ 1073741824 := by rw [List.length_drop]; omega
  unfold partsC b0 at hR
  rw [← e1, ← e2] at hR
  refine CutW.go (pol := polC [16]) mixP ?_
  conv => whnf
  repeat' ((first
   | ((with_reducible first | refine Br.dec ?_ ?_ | refine Br.ndec ?_ ?_) <;> intro hb <;> (try simp only [And.intro NN (And.intro @hl1 (And.intro @htk (ZZ)))] at hb) <;> (first | omega | skip))
   | (with_reducible first | refine Br.tt rfl ?_ | refine Br.ff rfl ?_ | refine Br.ff (isEmptyCons _ _) ?_)
   | (refine Side.mk ?_ ?_; focus (first | omega | (dsimp only [InR, Int.reduceToNat, IntKind.bits, Int.reducePow]; omega) | (simp only [Int.reduceToNat, hl1]; omega) | (simp [CC]; done) | (constructor <;> omega)))
   | (refine Br.mk ?_ ?_ <;> intro hb <;> (try simp only [And.intro NN (And.intro @hl1 (And.intro @htk (ZZ)))] at hb) <;> (first | omega | skip))
   | refine Src.whole ⟨rfl, rfl⟩ ?_ | refine FrzV.whole ?_
   | refine CallW.use (ref1_run (s.drop 1) (by omega)) ?_) <;> conv => whnf)
  all_goals
    first
    | (rw [if_pos (by omega), if_pos (by omega)] at hR; subst hR; refine PostCl.of (h0) (by repeat first | exact trivial | refine ⟨VLe.refl _, ?_⟩) (by repeat first | exact trivial | refine ⟨by decide, ?_⟩))
    | (rw [if_pos (by omega), if_neg (by omega)] at hR; refine CutW.sub (parts_16 neg w _ _ hul R K hR h0) (by repeat first | exact trivial | refine ⟨VLe.refl _, ?_⟩) (by repeat first | exact trivial | refine ⟨by decide, ?_⟩))
    | (rw [if_neg (by omega)] at hR; refine CutW.sub (parts_16 neg w [] s (by omega) R K hR h0) (by repeat first | exact trivial | refine ⟨VLe.refl _, ?_⟩) (by repeat first | exact trivial | refine ⟨by decide, ?_⟩))
theorem parts_4 (neg : Bool) (s : Str) (hs : s.length ≤ 1073741824) (R : Parts) (K : Post) (hR : partsB neg s = R)
    (h0 : K .ret [(2, .p (.bool R.1)), (3, .p (.str R.2.1)), (4, .p (.str R.2.2.1)), (5, .p (.str R.2.2.2.1)), (6, .p (.bool R.2.2.2.2))] [] []) :
    CutW PP GG 106 0 (tailN F.ref1_parts_c 4) [(0, .p (.str s)), (7, .p (.bool neg))] [] [] (PostCl 106 K) := by
  have hr := runL_le s
  have hwl : (s.take (runL s)).length = runL s := take_run s
  have hul : (s.drop (runL s)).length = s.length - runL s := List.length_drop
  unfold partsB b0 at hR
  refine CutW.go (pol := polC [9]) mixP ?_
  conv => whnf
  repeat' ((first
   | ((with_reducible first | refine Br.dec ?_ ?_ | refine Br.ndec ?_ ?_) <;> intro hb <;> (try simp only [And.intro NN (And.intro @Int.toNat_natCast (And.intro @hwl (ZZ)))] at hb) <;> (first | omega | skip))
   | (with_reducible first | refine Br.tt rfl ?_ | refine Br.ff rfl ?_ | refine Br.ff (isEmptyCons _ _) ?_)
   | (refine Side.mk ?_ ?_; focus (first | omega | (dsimp only [InR, Int.reduceToNat, IntKind.bits, Int.reducePow]; omega) | (simp only [And.intro NN (And.intro @Int.toNat_natCast hwl)]; omega) | (simp [CC]; done) | (constructor <;> omega)))
   | (refine Br.mk ?_ ?_ <;> intro hb <;> (try simp only [And.intro NN (And.intro @Int.toNat_natCast (And.intro @hwl (ZZ)))] at hb) <;> (first | omega | skip))
   | refine Src.whole ⟨rfl, rfl⟩ ?_ | refine FrzV.whole ?_
   | refine CallW.use (ref1_run s (by omega)) ?_) <;> conv => whnf)
  all_goals
    first
    | (rw [if_pos (by omega)] at hR; subst hR; refine PostCl.of (h0) (by repeat first | exact trivial | refine ⟨VLe.refl _, ?_⟩) (by repeat first | exact trivial | refine ⟨by decide, ?_⟩))
    | (rw [if_neg (by omega)] at hR; refine CutW.sub (parts_10 neg (s.take (runL s)) (s.drop (runL s)) (by omega) R K hR h0) (by repeat first | exact trivial | refine ⟨VLe.refl _, ?_⟩) (by repeat first | exact trivial | refine ⟨by decide, ?_⟩))
theorem ref1_parts (s : Str) (hs : s.length ≤ 1073741824) : AbsCall PP GG F.ref1_parts [.p (.str s)] [] ⟨.ret (.tup [.p (.bool (numParts s).1), .p (.str (numParts s).2.1), .p (.str (numParts s).2.2.1), .p (.str (numParts s).2.2.2.1), .p (.bool (numParts s).2.2.2.2)]), [], []⟩ := by
  have hl1 : (s.drop 1).length = s.length - 1 := List.length_drop
  have hN : numParts s = if 0 < s.length ∧ b0 s = 45 then partsB true (s.drop 1) else partsB false s := rfl
  unfold b0 at hN
  refine absCall_of (pol := polC [4]) mixP F.ref1_parts_is ?_
  conv => whnf
  repeat' ((first
   | ((with_reducible first | refine Br.dec ?_ ?_ | refine Br.ndec ?_ ?_) <;> intro hb <;> (try simp only [And.intro NN (And.intro @hl1 (ZZ))] at hb) <;> (first | omega | skip))
   | (with_reducible first | refine Br.tt rfl ?_ | refine Br.ff rfl ?_ | refine Br.ff (isEmptyCons _ _) ?_)
   | (refine Side.mk ?_ ?_; focus (first | omega | (dsimp only [InR, Int.reduceToNat, IntKind.bits, Int.reducePow]; omega) | (simp only [Int.reduceToNat, hl1]; omega) | (simp [CC]; done) | (constructor <;> omega)))
   | (refine Br.mk ?_ ?_ <;> intro hb <;> (try simp only [And.intro NN (And.intro @hl1 (ZZ))] at hb) <;> (first | omega | skip))
   | refine Src.whole ⟨rfl, rfl⟩ ?_ | refine FrzV.whole ?_) <;> conv => whnf)
  all_goals refine CutW.cl ?_
  · refine CutW.sub (parts_4 (decide (↑(List.getD s (Int.toNat 0) 0).toNat = (45 : Int))) (s.drop 1) (by omega) (numParts s) _ (by rw [hN, if_pos (by omega), decide_eq_true (by simpa using hb)]) ?_) (by repeat first | exact trivial | refine ⟨VLe.refl _, ?_⟩) (by repeat first | exact trivial | refine ⟨by decide, ?_⟩)
    conv => whnf
    exact CLe.eq rfl
  · refine CutW.sub (parts_4 (decide (↑(List.getD s (Int.toNat 0) 0).toNat = (45 : Int))) s (by omega) (numParts s) _ (by rw [hN, if_neg (by omega), decide_eq_false (by simpa using hb)]) ?_) (by repeat first | exact trivial | refine ⟨VLe.refl _, ?_⟩) (by repeat first | exact trivial | refine ⟨by decide, ?_⟩)
    conv => whnf
    exact CLe.eq rfl
  · refine CutW.sub (parts_4 false s (by omega) (numParts s) _ (by rw [hN, if_neg (by omega)]) ?_) (by repeat first | exact trivial | refine ⟨VLe.refl _, ?_⟩) (by repeat first | exact trivial | refine ⟨by decide, ?_⟩)
    conv => whnf
    exact CLe.eq rfl
theorem power_loop (s : Str) (hs : s.length ≤ 1073741824) (R : Option Int) (K : Post)
    (h0 : ∀ v : Int, R = some v → 0 ≤ v → v ≤ 100000 → K (.exit 0) [(0, .p (.str s)), (4, .p (.int .i64 v))] [] [])
    (hr : R = none → K .ret [(2, .p (.int .i64 0)), (3, .p (.bool false))] [] []) :
    ∀ (q i : Nat) (v : Int), i + q = s.length → 0 ≤ v → v ≤ 100000 → powL (s.drop i) v = R →
      LoopW PP GG 36 0 (loopN F.ref1_power_c 0) [(0, .p (.str s)), (4, .p (.int .i64 v)), (5, .p (.int .i64 i))] [] [] (PostCl 36 K) := by
  intro q
  induction q with
  | zero =>
    intro i v hi hv0 hv1 hR
    rw [List.drop_eq_nil_of_le (by omega), powL] at hR
    refine LoopW.round (pol := polG) mixP ?_
    conv => whnf
    repeat' ((first
     | ((with_reducible first | refine Br.dec ?_ ?_ | refine Br.ndec ?_ ?_) <;> intro hb <;> (try simp only [ZZ] at hb) <;> (first | omega | skip))
     | (with_reducible first | refine Br.tt rfl ?_ | refine Br.ff rfl ?_ | refine Br.ff (isEmptyCons _ _) ?_)
     | (refine Side.mk ?_ ?_; focus (first | omega | (dsimp only [InR, Int.reduceToNat, IntKind.bits, Int.reducePow]; omega) | (simp [CC]; done) | (constructor <;> omega)))
     | (refine Br.mk ?_ ?_ <;> intro hb <;> (try simp only [ZZ] at hb) <;> (first | omega | skip))
     | refine Src.whole ⟨rfl, rfl⟩ ?_ | refine FrzV.whole ?_
     | refine CallW.use (ref1_digit _) ?_) <;> conv => whnf)
    · refine PostCl.of (h0 v hR.symm hv0 hv1) ?_ ?_
      · repeat first | exact trivial | refine ⟨VLe.refl _, ?_⟩
      · repeat first | exact trivial | refine ⟨by decide, ?_⟩
  | succ q ih =>
    intro i v hi hv0 hv1 hR
    obtain ⟨b, hb⟩ : ∃ b, s[i]? = some b := ⟨_, List.getElem?_eq_getElem (show i < s.length by omega)⟩
    have hg : s.getD (Int.toNat ↑i) 0 = b := getD_of (by simpa using hb)
    have hdb : dig b = decide (48 ≤ b.toNat ∧ b.toNat ≤ 57) := rfl
    rw [drop_cons hb, powL] at hR
    refine LoopW.round (pol := polG) mixP ?_
    conv => whnf
    repeat' ((first
     | ((with_reducible first | refine Br.dec ?_ ?_ | refine Br.ndec ?_ ?_) <;> intro hb <;> (try simp only [And.intro @hg (ZZ)] at hb) <;> (first | omega | skip))
     | (with_reducible first | refine Br.tt rfl ?_ | refine Br.ff rfl ?_ | refine Br.ff (isEmptyCons _ _) ?_)
     | (refine Side.mk ?_ ?_; focus (first | omega | (dsimp only [InR, Int.reduceToNat, IntKind.bits, Int.reducePow]; omega) | (simp only [hg, InR]; rw [hdb, decide_eq_true_eq] at hb; omega) | (simp [CC]; done) | (constructor <;> omega)))
     | (refine Br.mk ?_ ?_ <;> intro hb <;> (try simp only [And.intro @hg (ZZ)] at hb) <;> (first | omega | skip))
     | refine Src.whole ⟨rfl, rfl⟩ ?_ | refine FrzV.whole ?_
     | refine CallW.use (ref1_digit _) ?_) <;> conv => whnf)
    · rename_i hd
      rw [if_pos hd, if_pos (by omega)] at hR
      refine PostCl.of (hr hR.symm) ?_ ?_
      · repeat first | exact trivial | refine ⟨VLe.refl _, ?_⟩
      · repeat first | exact trivial | refine ⟨by decide, ?_⟩
    · rename_i hd
      rw [if_pos hd, if_neg (by omega)] at hR
      rw [hdb, decide_eq_true_eq] at hd
      rw [hg]
      refine LoopW.sub (ih (i + 1) _ (by omega) (by omega) (by omega) hR) (by repeat first | exact trivial | refine ⟨VLe.refl _, ?_⟩) (by repeat first | exact trivial | refine ⟨by decide, ?_⟩)
    · rw [if_neg (by rw [hb]; simp)] at hR
      refine LoopW.sub (ih (i + 1) _ (by omega) hv0 hv1 hR) (by repeat first | exact trivial | refine ⟨VLe.refl _, ?_⟩) (by repeat first | exact trivial | refine ⟨by decide, ?_⟩)
theorem ref1_power (s : Str) (hs : s.length ≤ 1073741824) : AbsCall PP GG F.ref1_power [.p (.str s)] [] ⟨.ret (.tup [.p (.int .i64 (powerL s).1), .p (.bool (powerL s).2)]), [], []⟩ := by
  refine absCall_of (pol := polG) mixP F.ref1_power_is ?_
  conv => whnf
  refine LoopW.cl ?_
  refine LoopW.sub (power_loop s hs (powL s 0) _ (fun v hv hv0 hv1 => ?_) (fun hv => ?_) s.length 0 0 (by omega) (by omega) (by omega) rfl) (by repeat first | exact trivial | refine ⟨VLe.refl _, ?_⟩) (by repeat first | exact trivial | refine ⟨by decide, ?_⟩)
  · conv => whnf
    have hP : powerL s = if 0 < s.length ∧ b0 s = 45 then (-v, true) else (v, true) := by unfold powerL; rw [hv]
    unfold b0 at hP
    repeat' ((first
     | ((with_reducible first | refine Br.dec ?_ ?_ | refine Br.ndec ?_ ?_) <;> intro hb <;> (try simp only [And.intro NN (ZZ)] at hb) <;> (first | omega | skip))
     | (with_reducible first | refine Br.tt rfl ?_ | refine Br.ff rfl ?_ | refine Br.ff (isEmptyCons _ _) ?_)
     | (refine Side.mk ?_ ?_; focus (first | omega | (dsimp only [InR, Int.reduceToNat, IntKind.bits, Int.reducePow]; omega) | (simp [CC]; done) | (constructor <;> omega)))
     | (refine Br.mk ?_ ?_ <;> intro hb <;> (try simp only [And.intro NN (ZZ)] at hb) <;> (first | omega | skip))
     | refine Src.whole ⟨rfl, rfl⟩ ?_ | refine FrzV.whole ?_) <;> conv => whnf)
    · exact CLe.eq (by rw [hP, if_pos (by omega), InR.wrap (by simp only [InR]; omega), Int.zero_sub])
    · exact CLe.eq (by rw [hP, if_neg (by omega)])
    · exact CLe.eq (by rw [hP, if_neg (by omega)])
  · conv => whnf
    exact CLe.eq (by unfold powerL; rw [hv])
theorem ref1_Form (s : Str) (hs : s.length ≤ 1073741824) : AbsCall PP GG F.ref1_Form [.p (.str s)] [] ⟨.ret (.tup [.p (.bool (formL s).1), .p (.bool (formL s).2)]), [], []⟩ := by
  refine absCall_of (pol := polG) mixP F.ref1_Form_is ?_
  conv => whnf
  repeat' ((first
   | ((with_reducible first | refine Br.dec ?_ ?_ | refine Br.ndec ?_ ?_) <;> intro hb <;> (try simp only [ZZ] at hb) <;> (first | omega | skip))
   | (with_reducible first | refine Br.tt rfl ?_ | refine Br.ff rfl ?_ | refine Br.ff (isEmptyCons _ _) ?_)
   | (refine Side.mk ?_ ?_; focus (first | omega | (dsimp only [InR, Int.reduceToNat, IntKind.bits, Int.reducePow]; omega) | (simp [CC]; done) | (constructor <;> omega)))
   | (refine Br.mk ?_ ?_ <;> intro hb <;> (try simp only [ZZ] at hb) <;> (first | omega | skip))
   | refine Src.whole ⟨rfl, rfl⟩ ?_ | refine FrzV.whole ?_
   | refine CallW.use (ref1_parts s hs) ?_
   | refine CallW.use (ref1_power _ (numParts_len s hs)) ?_) <;> conv => whnf)
  · exact CLe.eq (by unfold formL; rw [hb]; rfl)
  · exact CLe.eq (by unfold formL; rw [hb]; rfl)
theorem ref1_Number (s : Str) (hs : s.length ≤ 1073741824) : AbsCall PP GG F.ref1_Number [.p (.str s)] [] ⟨.ret (.p (.bool (numL s))), [], []⟩ := by
  refine absCall_of (pol := polG) mixP F.ref1_Number_is ?_
  conv => whnf
  repeat' ((first
   | ((with_reducible first | refine Br.dec ?_ ?_ | refine Br.ndec ?_ ?_) <;> intro hb <;> (try simp only [ZZ] at hb) <;> (first | omega | skip))
   | (with_reducible first | refine Br.tt rfl ?_ | refine Br.ff rfl ?_ | refine Br.ff (isEmptyCons _ _) ?_)
   | (refine Side.mk ?_ ?_; focus (first | omega | (dsimp only [InR, Int.reduceToNat, IntKind.bits, Int.reducePow]; omega) | (simp [CC]; done) | (constructor <;> omega)))
   | (refine Br.mk ?_ ?_ <;> intro hb <;> (try simp only [ZZ] at hb) <;> (first | omega | skip))
   | refine Src.whole ⟨rfl, rfl⟩ ?_ | refine FrzV.whole ?_
   | refine CallW.use (ref1_Form s hs) ?_) <;> conv => whnf)
  all_goals exact CLe.retP (by unfold numL; simp [*]; try omega)
theorem int_loop (w : Str) (hw : w.length ≤ 1073741824) (hd : ∀ b ∈ w, dig b = true) (neg : Bool) (R : Option Int) (K : Post)
    (h0 : ∀ v : Int, R = some v → -9223372036854775808 ≤ v → v ≤ 0 → K (.exit 0) [(4, .p (.bool neg)), (9, .p (.int .i64 v))] [] [])
    (hr : R = none → K .ret [(2, .p (.int .i64 0)), (3, .p (.bool false))] [] []) :
    ∀ (q i : Nat) (v : Int), i + q = w.length → -9223372036854775808 ≤ v → v ≤ 0 → negL (w.drop i) v = R →
      LoopW PP GG 59 0 (loopN F.ref1_Int_c 0) [(4, .p (.bool neg)), (5, .p (.str w)), (9, .p (.int .i64 v)), (10, .p (.int .i64 i))] [] [] (PostCl 59 K) := by
  intro q
  induction q with
  | zero =>
    intro i v hi hv0 hv1 hR
    rw [List.drop_eq_nil_of_le (by omega), negL] at hR
    refine LoopW.round (pol := polG) mixP ?_
    conv => whnf
    repeat' ((first
     | ((with_reducible first | refine Br.dec ?_ ?_ | refine Br.ndec ?_ ?_) <;> intro hb <;> (try simp only [ZZ] at hb) <;> (first | omega | skip))
     | (with_reducible first | refine Br.tt rfl ?_ | refine Br.ff rfl ?_ | refine Br.ff (isEmptyCons _ _) ?_)
     | (refine Side.mk ?_ ?_; focus (first | omega | (dsimp only [InR, Int.reduceToNat, IntKind.bits, Int.reducePow]; omega) | (simp [CC]; done) | (constructor <;> omega)))
     | (refine Br.mk ?_ ?_ <;> intro hb <;> (try simp only [ZZ] at hb) <;> (first | omega | skip))
     | refine Src.whole ⟨rfl, rfl⟩ ?_ | refine FrzV.whole ?_) <;> conv => whnf)
    · refine PostCl.of (h0 v hR.symm hv0 hv1) ?_ ?_
      · repeat first | exact trivial | refine ⟨VLe.refl _, ?_⟩
      · repeat first | exact trivial | refine ⟨by decide, ?_⟩
  | succ q ih =>
    intro i v hi hv0 hv1 hR
    obtain ⟨b, hb⟩ : ∃ b, w[i]? = some b := ⟨_, List.getElem?_eq_getElem (show i < w.length by omega)⟩
    have hg : w.getD (Int.toNat ↑i) 0 = b := getD_of (by simpa using hb)
    have hdb := hd b (List.mem_of_getElem? hb)
    unfold dig at hdb
    rw [decide_eq_true_eq] at hdb
    rw [drop_cons hb, negL] at hR
    have htd := tdiv_neg10 (-9223372036854775808 + ((b.toNat : Int) - 48)) (by omega)
    refine LoopW.round (pol := polG) mixP ?_
    conv => whnf
    repeat' ((first
     | ((with_reducible first | refine Br.dec ?_ ?_ | refine Br.ndec ?_ ?_) <;> intro hb <;> (try simp only [And.intro @hg (And.intro @htd (ZZ))] at hb) <;> (first | omega | skip))
     | (with_reducible first | refine Br.tt rfl ?_ | refine Br.ff rfl ?_ | refine Br.ff (isEmptyCons _ _) ?_)
     | (refine Side.mk ?_ ?_; focus (first | omega | (dsimp only [InR, Int.reduceToNat, IntKind.bits, Int.reducePow]; omega) | (simp only [hg, htd, InR]; omega) | (refine ⟨by decide, ?_⟩; simp only [hg, htd, InR]; omega) | (simp [CC]; done) | (constructor <;> omega)))
     | (refine Br.mk ?_ ?_ <;> intro hb <;> (try simp only [And.intro @hg (And.intro @htd (ZZ))] at hb) <;> (first | omega | skip))
     | refine Src.whole ⟨rfl, rfl⟩ ?_ | refine FrzV.whole ?_) <;> conv => whnf)
    · rw [if_pos (by omega)] at hR
      refine PostCl.of (hr hR.symm) ?_ ?_
      · repeat first | exact trivial | refine ⟨VLe.refl _, ?_⟩
      · repeat first | exact trivial | refine ⟨by decide, ?_⟩
    · rw [if_neg (by omega)] at hR
      rw [hg]
      refine LoopW.sub (ih (i + 1) _ (by omega) (by omega) (by omega) hR) (by repeat first | exact trivial | refine ⟨VLe.refl _, ?_⟩) (by repeat first | exact trivial | refine ⟨by decide, ?_⟩)
theorem ref1_Int (s : Str) (hs : s.length ≤ 1073741824) : AbsCall PP GG F.ref1_Int [.p (.str s)] [] ⟨.ret (.tup [.p (.int .i64 (refIntL s).1), .p (.bool (refIntL s).2)]), [], []⟩ := by
  have hI : refIntL s = if numL s = false ∨ s = [45, 48] then (0, false) else
    if 0 < (numParts s).2.2.1.length ∨ 0 < (numParts s).2.2.2.1.length then (0, false) else
    match negL (numParts s).2.1 0 with
    | none => (0, false)
    | some v => if (numParts s).1 = true then (v, true) else if v = -9223372036854775808 then (0, false) else (-v, true) := rfl
  have hp := ref1_parts s hs
  have hwd := numParts_w s
  rcases hP : numParts s with ⟨neg, w, f, p, ok⟩
  rw [hP] at hI hp hwd
  simp only [] at hI hp hwd
  have hn := ref1_Number s hs
  by_cases hN : numL s = false ∨ s = [45, 48]
  · rw [if_pos hN] at hI
    rw [hI]
    refine absCall_of (pol := polG) mixP F.ref1_Int_is ?_
    conv => whnf
    repeat' ((first
     | ((with_reducible first | refine Br.dec ?_ ?_ | refine Br.ndec ?_ ?_) <;> intro hb <;> (try simp only [ZZ] at hb) <;> (first | omega | skip))
     | (with_reducible first | refine Br.tt rfl ?_ | refine Br.ff rfl ?_ | refine Br.ff (isEmptyCons _ _) ?_)
     | (refine Side.mk ?_ ?_; focus (first | omega | (dsimp only [InR, Int.reduceToNat, IntKind.bits, Int.reducePow]; omega) | (simp [CC]; done) | (constructor <;> omega)))
     | (refine Br.mk ?_ ?_ <;> intro hb <;> (try simp only [ZZ] at hb) <;> (first | omega | skip))
     | refine Src.whole ⟨rfl, rfl⟩ ?_ | refine FrzV.whole ?_
     | refine CallW.use (hn) ?_) <;> conv => whnf)
    · exact CLe.eq rfl
    · exact CLe.eq rfl
    · rename_i h2
      exact absurd hN (by rw [h2]; simp; exact hb)
  · rw [if_neg hN] at hI
    simp only [not_or, Bool.not_eq_false] at hN
    rw [hN.1] at hn
    refine absCall_of (pol := polG) mixP F.ref1_Int_is ?_
    conv => whnf
    repeat' ((first
     | ((with_reducible first | refine Br.dec ?_ ?_ | refine Br.ndec ?_ ?_) <;> intro hb <;> (try simp only [ZZ] at hb) <;> (first | omega | skip))
     | (with_reducible first | refine Br.tt rfl ?_ | refine Br.ff rfl ?_ | refine Br.ff (isEmptyCons _ _) ?_)
     | (refine Side.mk ?_ ?_; focus (first | omega | (dsimp only [InR, Int.reduceToNat, IntKind.bits, Int.reducePow]; omega) | (simp [CC]; done) | (constructor <;> omega)))
     | (refine Br.mk ?_ ?_ <;> intro hb <;> (try simp only [ZZ] at hb) <;> (first | omega | skip))
     | refine Src.whole ⟨rfl, rfl⟩ ?_ | refine FrzV.whole ?_
     | refine CallW.use (hn) ?_
     | refine CallW.use (hp) ?_) <;> conv => whnf)
    · exact absurd hb hN.2
    · exact CLe.eq (by rw [hI, if_pos (by omega)])
    · exact CLe.eq (by rw [hI, if_pos (by omega)])
    rw [if_neg (by omega)] at hI
    refine LoopW.cl ?_
    refine LoopW.sub (int_loop w (by omega) hwd.1 neg (negL w 0) _ (fun v hv hv0 hv1 => ?_) (fun hv => ?_) w.length 0 0 (by omega) (by omega) (by omega) rfl) (by repeat first | exact trivial | refine ⟨VLe.refl _, ?_⟩) (by repeat first | exact trivial | refine ⟨by decide, ?_⟩)
    · rw [hv] at hI
      simp only [] at hI
      conv => whnf
      repeat' ((first
       | ((with_reducible first | refine Br.dec ?_ ?_ | refine Br.ndec ?_ ?_) <;> intro hb <;> (try simp only [ZZ] at hb) <;> (first | omega | skip))
       | (with_reducible first | refine Br.tt rfl ?_ | refine Br.ff rfl ?_ | refine Br.ff (isEmptyCons _ _) ?_)
       | (refine Side.mk ?_ ?_; focus (first | omega | (dsimp only [InR, Int.reduceToNat, IntKind.bits, Int.reducePow]; omega) | (simp [CC]; done) | (constructor <;> omega)))
       | (refine Br.mk ?_ ?_ <;> intro hb <;> (try simp only [ZZ] at hb) <;> (first | omega | skip))
       | refine Src.whole ⟨rfl, rfl⟩ ?_ | refine FrzV.whole ?_) <;> conv => whnf)
      · exact CLe.eq (by rw [hI, if_pos hb])
      · rename_i h1
        exact CLe.eq (by rw [hI, if_neg (by rw [h1]; simp), if_pos hb])
      · rename_i h1
        exact CLe.eq (by rw [hI, if_neg (by rw [h1]; simp), if_neg hb, InR.wrap (by simp only [InR]; omega), Int.zero_sub])
    · rw [hv] at hI
      simp only [] at hI
      conv => whnf
      exact CLe.eq (by rw [hI])
end Go.Proofs.YtaoejccgdpppgaaGreatDoor
end

section
namespace Go.Am
open Go
def preB (s : Str) (p : UInt8) : Bool := decide (s.take 1 = [p])
def powD : Str → Int → Option Int
  | [], v => some v
  | b :: s, v => if 100000 < v * 10 + ((b.toNat : Int) - 48) then none else powD s (v * 10 + ((b.toNat : Int) - 48))
def powTail (less : Bool) (d : Str) : Int × Bool := if d.length = 0 ∨ runL d ≠ d.length then (0, false) else match powD d 0 with
  | none => (0, false)
  | some v => if less = true then (-v, true) else (v, true)
def decPow (s : Str) : Int × Bool := if preB s 45 = true then powTail true (s.drop 1) else if preB s 43 = true then powTail false (s.drop 1) else powTail false s
def trimL : Str → Str
  | [] => []
  | b :: s => if b = 48 then trimL s else b :: s
theorem runL_dig : ∀ {s : Str}, runL s = s.length → ∀ b ∈ s, dig b = true
  | [], _, b, hb => by cases hb
  | c :: s, h, b, hb => by
    rw [runL] at h
    split at h
    · rename_i hc
      rcases List.mem_cons.1 hb with rfl | hb
      · exact hc
      · exact runL_dig (by simpa using h) b hb
    · simp at h
end Go.Am
namespace Go.Am
def trimRn : Nat → Str → Str
  | 0, s => s
  | q + 1, s => if 0 < s.length ∧ s.getD (s.length - 1) 0 = 48 then trimRn q (s.take (s.length - 1)) else s
def trimR (s : Str) : Str := trimRn s.length s
theorem trimL_len : ∀ s : Str, (trimL s).length ≤ s.length
  | [] => Nat.le_refl _
  | b :: s => by rw [trimL]; split <;> simp; exact Nat.le_succ_of_le (trimL_len s)
abbrev Dnum := (Bool × Str × Int) × Bool
def noNum : Dnum := ((false, [], 0), false)
def decE (less : Bool) (w p : Str) (e : Int) : Dnum :=
  if (trimL (w ++ p)).length = 0 then ((false, [], 0), true) else ((less, trimR (trimL (w ++ p)), e + (((w.length : Int) - 1) - (((w ++ p).length : Int) - ((trimL (w ++ p)).length : Int)))), true)
def decD (less : Bool) (w p s : Str) : Dnum :=
  if s.length = 0 then decE less w p 0 else if b0 s ≠ 101 ∧ b0 s ≠ 69 then noNum else
  if (decPow (s.drop 1)).2 = false then noNum else decE less w p (decPow (s.drop 1)).1
def decC (less : Bool) (w s : Str) : Dnum :=
  if preB s 46 = true then (if runL (s.drop 1) = 0 then noNum else decD less w ((s.drop 1).take (runL (s.drop 1))) ((s.drop 1).drop (runL (s.drop 1)))) else decD less w [] s
def decB (less : Bool) (s : Str) : Dnum := if runL s = 0 ∨ (1 < runL s ∧ b0 s = 48) then noNum else decC less (s.take (runL s)) (s.drop (runL s))
def decParse (s : Str) : Dnum := if 400 < s.length then noNum else decB (preB s 45) (if preB s 45 = true then s.drop 1 else s)
theorem powD_bound : ∀ (s : Str) (v r : Int), (∀ b ∈ s, dig b = true) → 0 ≤ v → v ≤ 100000 → powD s v = some r → 0 ≤ r ∧ r ≤ 100000
  | [], v, r, _, h0, h1, h => by rw [powD] at h; cases h; exact ⟨h0, h1⟩
  | b :: s, v, r, hd, h0, h1, h => by
    rw [powD] at h
    split at h
    · cases h
    · have hb := hd b (by simp)
      unfold dig at hb
      rw [decide_eq_true_eq] at hb
      exact powD_bound s _ r (fun x hx => hd x (by simp [hx])) (by omega) (by omega) h
end Go.Am
namespace Go.Am
theorem decPow_bound (s : Str) : -100000 ≤ (decPow s).1 ∧ (decPow s).1 ≤ 100000 := by
  have h : ∀ less d, -100000 ≤ (powTail less d).1 ∧ (powTail less d).1 ≤ 100000 := by
    intro less d
    unfold powTail
    split
    · simp
    · rename_i hc
      split
      · simp
      · rename_i v hv
        have := powD_bound d 0 v (runL_dig (by omega)) (by omega) (by omega) hv
        split <;> (simp only []; omega)
  unfold decPow
  split
  · exact h _ _
  · split
    · exact h _ _
    · exact h _ _
end Go.Am
namespace Go.Am
theorem nf {b : Bool} (h : b = true) : ¬ b = false := by rw [h]; simp
theorem nt {b : Bool} (h : b = false) : ¬ b = true := by rw [h]; simp
end Go.Am
namespace Go.Am
def oddB (b : UInt8) : Bool := decide (b.toNat < 32 ∨ 126 < b.toNat)
def findI : Str → Int → Int
  | [], _ => -1
  | b :: s, i => if oddB b = true then i else findI s (i + 1)
theorem findI_neg : ∀ (s : Str) (i : Int), 0 ≤ i → (findI s i < 0 ↔ ∀ b ∈ s, 32 ≤ b.toNat ∧ b.toNat ≤ 126)
  | [], i, _ => by simp [findI]
  | b :: s, i, h => by
    rw [findI]
    split
    · rename_i hb
      unfold oddB at hb
      rw [decide_eq_true_eq] at hb
      refine ⟨fun e => by omega, fun e => by have := e b (by simp); omega⟩
    · rename_i hb
      unfold oddB at hb
      rw [decide_eq_true_eq] at hb
      rw [findI_neg s (i + 1) (by omega)]
      refine ⟨fun e x hx => ?_, fun e x hx => e x (by simp [hx])⟩
      rcases List.mem_cons.1 hx with rfl | hx
      · omega
      · exact e x hx
end Go.Am
end
