/-
Where words end; a text cut into words.
-/
import Derived.Test.YtoinkmogdfjmmaaGreatDoorPG
import Derived.Test.YtoinkmogdfjmmaaGreatDoorPF
import Derived.Test.YtoinkmogdfjmmaaGreatDoorPE
import Derived.Sort.KeysCollected

section
namespace Go.Am
open Go
theorem escAt_bound {t : Str} {a : Nat} {acc : Str} (ha : a < t.length) (h : (escAt t a acc).1 = true) : a < (escAt t a acc).2.1.toNat ∧ (escAt t a acc).2.1.toNat ≤ t.length := by
  obtain ⟨k, x, h1, h2, h3⟩ := escAt_ok ha h
  rw [h1, Int.toNat_natCast]
  omega
theorem unqL_bound : ∀ (q : Nat) (t : Str) (a : Nat) (acc : Str), a ≤ t.length →
    ((unqL q t a acc).2.2 < 0 → (a : Int) < (unqL q t a acc).2.1 ∧ (unqL q t a acc).2.1 ≤ t.length) ∧ (unqL q t a acc).2.2 ≤ t.length
  | 0, t, a, acc, ha => by rw [unqL]; simp only []; omega
  | q + 1, t, a, acc, ha => by
    rw [unqL]
    split
    · simp only []; omega
    · split
      · simp only []; omega
      · split
        · simp only []; omega
        · split
          · split
            · rename_i h
              have hb := escAt_bound (acc := acc) (show a < t.length by omega) h
              have := unqL_bound q t (escAt t a acc).2.1.toNat (escAt t a acc).2.2 hb.2
              refine ⟨fun hh => ?_, this.2⟩
              have := this.1 hh
              omega
            · simp only []; omega
          · split
            · simp only []; omega
            · have hn := utfTake_n (t.drop a)
              rw [List.length_drop] at hn
              have := unqL_bound q t (a + (utfTake (t.drop a)).2.toNat) (acc ++ utfEnc (utfTake (t.drop a)).1) (by omega)
              refine ⟨fun hh => ?_, this.2⟩
              have := this.1 hh
              omega
theorem unquoteL_bound (t : Str) (a : Nat) (ha : a < t.length) :
    ((unquoteL t a).2.2 < 0 → (a : Int) < (unquoteL t a).2.1 ∧ (unquoteL t a).2.1 ≤ t.length) ∧ (unquoteL t a).2.2 ≤ t.length := by
  have hc : clampL t a = a := by unfold clampL; omega
  unfold unquoteL
  rw [hc, Int.toNat_natCast]
  split
  · simp only []; omega
  · have := unqL_bound (t.length + 1) t (a + 1) [] (by omega)
    refine ⟨fun hh => ?_, this.2⟩
    have := this.1 hh
    omega
theorem whileL_pos {s c : Str} (h : 0 < s.length) (hc : c.contains (s.getD 0 0) = true) : 0 < whileL s c := by
  cases s with
  | nil => simp at h
  | cons b s =>
    unfold whileL
    rw [List.takeWhile_cons]
    rw [show (b :: s).getD 0 0 = b from rfl] at hc
    rw [if_pos hc]
    simp
theorem lower_mem (b : UInt8) (h : 97 ≤ (b.toNat : Int) ∧ (b.toNat : Int) ≤ 122) : lowers.contains b = true := by
  have key : ∀ n : Nat, n < 256 → 97 ≤ n ∧ n ≤ 122 → lowers.contains n.toUInt8 = true := by decide +kernel
  have := key b.toNat (UInt8.toNat_lt b) (by omega)
  rwa [show b.toNat.toUInt8 = b by simp] at this
theorem jnumL_le (s : Str) : 0 ≤ jnumL s ∧ jnumL s ≤ 6 := by
  unfold jnumL
  repeat' split
  all_goals omega
theorem wordL_bound (t : Str) (a : Nat) (ha : a < t.length) :
    ((wordL t a).2.2.1 = 0 → (a : Int) < (wordL t a).2.1 ∧ (wordL t a).2.1 ≤ t.length) ∧
    ((wordL t a).2.2.1 ≠ 0 → 0 ≤ (wordL t a).2.2.2 ∧ (wordL t a).2.2.2 ≤ t.length) ∧ 0 ≤ (wordL t a).2.2.1 ∧ (wordL t a).2.2.1 ≤ 6 := by
  have hU := unquoteL_bound t a ha
  have hdl : (t.drop a).length = t.length - a := List.length_drop
  have hl1 := whileL_le (t.drop a) lowers
  have hl2 := whileL_le (t.drop a) numBs
  have hg : (t.drop a).getD 0 0 = t.getD a 0 := by simp [List.getD]
  have hp := fun h => whileL_pos (s := t.drop a) (c := lowers) (by omega) h
  rw [hg] at hp
  have hj := jnumL_le ((t.drop a).take (whileL (t.drop a) numBs))
  unfold wordL
  split
  · simp only []; omega
  · split
    · split
      · simp only []; omega
      · split
        · simp only []; omega
        · have := hU.1 (by omega)
          simp only []; omega
    · split
      · rename_i h
        have := hp (lower_mem _ h)
        split
        · simp only []; omega
        · simp only []; omega
      · split
        · simp only []; omega
        · split
          · simp only []; omega
          · simp only []; omega
def cutL : Nat → Str → Nat → List Wd → List Wd × Int × Int
  | 0, _, _, acc => (acc, 0, 0)
  | q + 1, t, a, acc =>
    if t.length ≤ a then (acc, 0, 0) else
    if (wordL t a).2.2.1 ≠ 0 then ([], (wordL t a).2.2.1, (wordL t a).2.2.2) else
    cutL q t ((wordL t a).2.1.toNat + whileL (t.drop (wordL t a).2.1.toNat) blanksB) (acc ++ [(wordL t a).1])
def cutT (t : Str) : List Wd × Int × Int :=
  if (judgeS t).1 ≠ 0 then ([], judgeS t) else
  if (cutL (t.length + 1) t (whileL t blanksB) []).2.1 ≠ 0 then ([], (cutL (t.length + 1) t (whileL t blanksB) []).2) else
  ((cutL (t.length + 1) t (whileL t blanksB) []).1 ++ [⟨0, [], t.length⟩], 0, 0)
theorem cutL_len : ∀ (q : Nat) (t : Str) (a : Nat) (acc : List Wd), a ≤ t.length → acc.length ≤ a → (cutL q t a acc).1.length ≤ t.length
  | 0, t, a, acc, ha, hl => by rw [cutL]; simp only []; omega
  | q + 1, t, a, acc, ha, hl => by
    rw [cutL]
    split
    · simp only []; omega
    · have hb := wordL_bound t a (by omega)
      split
      · simp only [List.length_nil]; omega
      · have := whileL_le (t.drop (wordL t a).2.1.toNat) blanksB
        rw [List.length_drop] at this
        have := hb.1 (by omega)
        exact cutL_len q t _ _ (by omega) (by rw [List.length_append]; simp only [List.length_cons, List.length_nil]; omega)
theorem Wd.enc_side (w : Wd) : ∀ y : PV, y ∈ [w.enc] → y.cells.length = 3 ∧ ∀ c : PV, c ∈ y.cells → c.leaf = true := by
  intro y hy
  rw [List.mem_singleton] at hy
  subst hy
  refine ⟨rfl, fun c hc => ?_⟩
  simp only [Wd.enc, PV.cells, List.mem_cons, List.mem_nil_iff, or_false] at hc
  rcases hc with rfl | rfl | rfl <;> rfl
end Go.Am
end

section
namespace Go.Proofs.YtoinkmogdfjmmaaGreatDoor
open Go Go.Am Go.RowKit
set_option maxRecDepth 100000
theorem cut_loop (t : Str) (hs : t.length ≤ 1000000) (R : List Wd × Int × Int) (K : Post)
    (h0 : R.2.1 = 0 → R.1 ≠ [] → K (.exit 0) [(0, .p (.str t)), (3, .ptr 0 0), (5, .sl 1 0 (R.1.map Wd.enc).length)] [.var T.api_Fault (.p noFault), .arr T.jlex_Word 3 (R.1.map Wd.enc)] [])
    (hr : R.2.1 ≠ 0 → ∀ o o' : HO, K .ret [(2, .p .nils), (3, .ptr 0 0)] [.var T.api_Fault (.p (faultP t R.2.2 R.2.1)), o, o'] []) :
    ∀ (q a : Nat) (acc : List Wd), t.length < a + q → a ≤ t.length → acc ≠ [] → acc.length ≤ a → cutL q t a acc = R →
      LoopW PP GG 54 0 (loopN F.jlex_Cut_c 0) [(0, .p (.str t)), (3, .ptr 0 0), (5, .sl 1 0 (acc.map Wd.enc).length), (6, .p (.int .i64 a))] [.var T.api_Fault (.p noFault), .arr T.jlex_Word 3 (acc.map Wd.enc)] [] (PostCl 54 K) := by
  intro q
  induction q with
  | zero => intro a acc hq hal; omega
  | succ q ih =>
    intro a acc hq hal hne hacc hR
    have hml : (acc.map Wd.enc).length = acc.length := by simp
    rw [cutL] at hR
    by_cases hl : t.length ≤ a
    · rw [if_pos hl] at hR
      subst hR
      refine LoopW.round (pol := polG) mixP ?_
      conv => whnf
      repeat' ((first
       | ((with_reducible first | refine Br.dec ?_ ?_ | refine Br.ndec ?_ ?_) <;> intro hb <;> (try simp only [ZZ] at hb) <;> (first | omega | contradiction | skip))
       | (with_reducible first | refine Br.tt rfl ?_ | refine Br.ff rfl ?_ | refine Br.ff (isEmptyCons _ _) ?_)
       | (refine Side.mk ?_ ?_; focus (first | omega | (dsimp only [InR, Int.reduceToNat, IntKind.bits, Int.reducePow]; omega) | (simp [CC]; done) | (constructor <;> omega)))
       | with_reducible refine Br.not ?_
       | (with_reducible first | refine Br.tt (by assumption) ?_ | refine Br.ff (by assumption) ?_)
       | (refine Br.mk ?_ ?_ <;> intro hb <;> (try simp only [ZZ] at hb) <;> (first | omega | contradiction | skip))
       | refine Src.whole ⟨rfl, rfl⟩ ?_ | refine FrzV.whole ?_) <;> conv => whnf)
      · refine PostCl.of (h0 rfl hne) ?_ ?_
        · repeat first | exact trivial | refine ⟨VLe.refl _, ?_⟩
        · repeat first | exact trivial | refine ⟨by decide, ?_⟩
    · rw [if_neg hl] at hR
      have hW := jlex_word t a (by omega) hs
      have hb := wordL_bound t a (by omega)
      generalize wordL t a = u at *
      by_cases he : u.2.2.1 = 0
      · rw [if_neg (by omega)] at hR
        obtain ⟨n, hn⟩ := Int.eq_ofNat_of_zero_le (show 0 ≤ u.2.1 by omega)
        have hwl := whileL_le (t.drop n) blanksB
        have hdl : (t.drop n).length = t.length - n := List.length_drop
        have hWh := jlex_while (t.drop n) blanksB (by omega) (by decide) (by decide)
        rw [hn, Int.toNat_natCast] at hR
        rw [hn, he] at hW
        rw [hn] at hb
        refine LoopW.round (pol := polG) mixP ?_
        conv => whnf
        repeat' ((first
         | ((with_reducible first | refine Br.dec ?_ ?_ | refine Br.ndec ?_ ?_) <;> intro hb <;> (try simp only [And.intro @hml (ZZ)] at hb) <;> (first | omega | contradiction | skip))
         | (with_reducible first | refine Br.tt rfl ?_ | refine Br.ff rfl ?_ | refine Br.ff (isEmptyCons _ _) ?_)
         | (refine Side.mk ?_ ?_; focus (first | omega | (dsimp only [InR, Int.reduceToNat, IntKind.bits, Int.reducePow]; omega) | exact Wd.enc_side _ | exact ⟨fun y hy => (Wd.enc_side _ y hy).1, rfl, by show (_ + 1) * 64 ≤ _; omega⟩ | (simp [CC]; done) | (constructor <;> omega)))
         | with_reducible refine Br.not ?_
         | (with_reducible first | refine Br.tt (by assumption) ?_ | refine Br.ff (by assumption) ?_)
         | (refine Br.mk ?_ ?_ <;> intro hb <;> (try simp only [And.intro @hml (ZZ)] at hb) <;> (first | omega | contradiction | skip))
         | refine Src.whole ⟨rfl, rfl⟩ ?_ | refine FrzV.whole ?_
         | refine CallW.use (hW) ?_
         | refine CallW.use (hWh) ?_) <;> conv => whnf)
        rw [show List.map Wd.enc acc ++ [u.1.enc] = (acc ++ [u.1]).map Wd.enc by simp]
        refine LoopW.ren [0, 1] (ih (n + whileL (t.drop n) blanksB) (acc ++ [u.1]) (by omega) (by omega) (by simp) (by rw [List.length_append]; simp only [List.length_cons, List.length_nil]; omega) hR) (by repeat first | exact trivial | refine ⟨⟨rfl, VLe.refl _⟩, ?_⟩) (by repeat first | exact trivial | refine ⟨by decide, ?_⟩) rfl rfl
      · rw [if_pos (by omega)] at hR
        have hF := place_Fault t u.2.2.2 u.2.2.1 (by omega) (by omega)
        subst hR
        refine LoopW.round (pol := polG) mixP ?_
        conv => whnf
        repeat' ((first
         | ((with_reducible first | refine Br.dec ?_ ?_ | refine Br.ndec ?_ ?_) <;> intro hb <;> (try simp only [ZZ] at hb) <;> (first | omega | contradiction | skip))
         | (with_reducible first | refine Br.tt rfl ?_ | refine Br.ff rfl ?_ | refine Br.ff (isEmptyCons _ _) ?_)
         | (refine Side.mk ?_ ?_; focus (first | omega | (dsimp only [InR, Int.reduceToNat, IntKind.bits, Int.reducePow]; omega) | (simp [CC]; done) | (constructor <;> omega)))
         | with_reducible refine Br.not ?_
         | (with_reducible first | refine Br.tt (by assumption) ?_ | refine Br.ff (by assumption) ?_)
         | (refine Br.mk ?_ ?_ <;> intro hb <;> (try simp only [ZZ] at hb) <;> (first | omega | contradiction | skip))
         | refine Src.whole ⟨rfl, rfl⟩ ?_ | refine FrzV.whole ?_
         | refine CallW.use (hW) ?_
         | refine CallW.use (hF) ?_) <;> conv => whnf)
        · refine PostCl.of (hr he _ _) ?_ ?_
          · repeat first | exact trivial | refine ⟨VLe.refl _, ?_⟩
          · repeat first | exact trivial | refine ⟨by decide, ?_⟩
theorem frz_tup2 (n : Nat) (es : List PV) (x : PV) : V.frz n es (.tup [.sl n 0 es.length, .p x]) = .tup [.p (.lst false es), .p x] := by
  simp [V.frz, V.frzL]
theorem cut_first (t : Str) (hs : t.length ≤ 1000000) (R : List Wd × Int × Int) (K : Post)
    (hz : R = ([], 0, 0) → K (.exit 0) [(0, .p (.str t)), (3, .ptr 0 0), (5, .p .nils)] [.var T.api_Fault (.p noFault)] [])
    (h0 : R.2.1 = 0 → R.1 ≠ [] → K (.exit 0) [(0, .p (.str t)), (3, .ptr 0 0), (5, .sl 1 0 (R.1.map Wd.enc).length)] [.var T.api_Fault (.p noFault), .arr T.jlex_Word 3 (R.1.map Wd.enc)] [])
    (hr1 : R.2.1 ≠ 0 → ∀ o : HO, K .ret [(2, .p .nils), (3, .ptr 0 0)] [.var T.api_Fault (.p (faultP t R.2.2 R.2.1)), o] [])
    (hr : R.2.1 ≠ 0 → ∀ o o' : HO, K .ret [(2, .p .nils), (3, .ptr 0 0)] [.var T.api_Fault (.p (faultP t R.2.2 R.2.1)), o, o'] []) (a : Nat) (hal : a ≤ t.length)
    (hR : cutL (t.length + 1) t a [] = R) :
      LoopW PP GG 54 0 (loopN F.jlex_Cut_c 0) [(0, .p (.str t)), (3, .ptr 0 0), (5, .p .nils), (6, .p (.int .i64 a))] [.var T.api_Fault (.p noFault)] [] (PostCl 54 K) := by
  have hlp := cut_loop t hs R K h0 hr
  rw [cutL] at hR
  by_cases hl : t.length ≤ a
  · rw [if_pos hl] at hR
    refine LoopW.round (pol := polG) mixP ?_
    conv => whnf
    repeat' ((first
     | ((with_reducible first | refine Br.dec ?_ ?_ | refine Br.ndec ?_ ?_) <;> intro hb <;> (try simp only [ZZ] at hb) <;> (first | omega | contradiction | skip))
     | (with_reducible first | refine Br.tt rfl ?_ | refine Br.ff rfl ?_ | refine Br.ff (isEmptyCons _ _) ?_)
     | (refine Side.mk ?_ ?_; focus (first | omega | (dsimp only [InR, Int.reduceToNat, IntKind.bits, Int.reducePow]; omega) | (simp [CC]; done) | (constructor <;> omega)))
     | with_reducible refine Br.not ?_
     | (with_reducible first | refine Br.tt (by assumption) ?_ | refine Br.ff (by assumption) ?_)
     | (refine Br.mk ?_ ?_ <;> intro hb <;> (try simp only [ZZ] at hb) <;> (first | omega | contradiction | skip))
     | refine Src.whole ⟨rfl, rfl⟩ ?_ | refine FrzV.whole ?_) <;> conv => whnf)
    · refine PostCl.of (hz hR.symm) ?_ ?_
      · repeat first | exact trivial | refine ⟨VLe.refl _, ?_⟩
      · repeat first | exact trivial | refine ⟨by decide, ?_⟩
  · rw [if_neg hl] at hR
    have hW := jlex_word t a (by omega) hs
    have hb := wordL_bound t a (by omega)
    generalize wordL t a = u at *
    by_cases he : u.2.2.1 = 0
    · rw [if_neg (by omega)] at hR
      obtain ⟨n, hn⟩ := Int.eq_ofNat_of_zero_le (show 0 ≤ u.2.1 by omega)
      have hwl := whileL_le (t.drop n) blanksB
      have hdl : (t.drop n).length = t.length - n := List.length_drop
      have hWh := jlex_while (t.drop n) blanksB (by omega) (by decide) (by decide)
      rw [hn, Int.toNat_natCast] at hR
      rw [hn, he] at hW
      rw [hn] at hb
      refine LoopW.round (pol := polG) mixP ?_
      conv => whnf
      repeat' ((first
       | ((with_reducible first | refine Br.dec ?_ ?_ | refine Br.ndec ?_ ?_) <;> intro hb <;> (try simp only [ZZ] at hb) <;> (first | omega | contradiction | skip))
       | (with_reducible first | refine Br.tt rfl ?_ | refine Br.ff rfl ?_ | refine Br.ff (isEmptyCons _ _) ?_)
       | (refine Side.mk ?_ ?_; focus (first | omega | (dsimp only [InR, Int.reduceToNat, IntKind.bits, Int.reducePow]; omega) | exact Wd.enc_side _ | exact ⟨fun y hy => (Wd.enc_side _ y hy).1, by show 1 * 64 ≤ _; omega⟩ | (simp [CC]; done) | (constructor <;> omega)))
       | with_reducible refine Br.not ?_
       | (with_reducible first | refine Br.tt (by assumption) ?_ | refine Br.ff (by assumption) ?_)
       | (refine Br.mk ?_ ?_ <;> intro hb <;> (try simp only [ZZ] at hb) <;> (first | omega | contradiction | skip))
       | refine Src.whole ⟨rfl, rfl⟩ ?_ | refine FrzV.whole ?_
       | refine CallW.use (hW) ?_
       | refine CallW.use (hWh) ?_) <;> conv => whnf)
      refine LoopW.ren [0, 3] (hlp t.length (n + whileL (t.drop n) blanksB) [u.1] (by omega) (by omega) (List.cons_ne_nil _ _) (by show 1 ≤ _; omega) hR) (by repeat first | exact trivial | refine ⟨⟨rfl, VLe.refl _⟩, ?_⟩) (by repeat first | exact trivial | refine ⟨by decide, ?_⟩) rfl rfl
    · rw [if_pos (by omega)] at hR
      have hF := place_Fault t u.2.2.2 u.2.2.1 (by omega) (by omega)
      subst hR
      refine LoopW.round (pol := polG) mixP ?_
      conv => whnf
      repeat' ((first
       | ((with_reducible first | refine Br.dec ?_ ?_ | refine Br.ndec ?_ ?_) <;> intro hb <;> (try simp only [ZZ] at hb) <;> (first | omega | contradiction | skip))
       | (with_reducible first | refine Br.tt rfl ?_ | refine Br.ff rfl ?_ | refine Br.ff (isEmptyCons _ _) ?_)
       | (refine Side.mk ?_ ?_; focus (first | omega | (dsimp only [InR, Int.reduceToNat, IntKind.bits, Int.reducePow]; omega) | (simp [CC]; done) | (constructor <;> omega)))
       | with_reducible refine Br.not ?_
       | (with_reducible first | refine Br.tt (by assumption) ?_ | refine Br.ff (by assumption) ?_)
       | (refine Br.mk ?_ ?_ <;> intro hb <;> (try simp only [ZZ] at hb) <;> (first | omega | contradiction | skip))
       | refine Src.whole ⟨rfl, rfl⟩ ?_ | refine FrzV.whole ?_
       | refine CallW.use (hW) ?_
       | refine CallW.use (hF) ?_) <;> conv => whnf)
      · refine PostCl.of (hr1 he _) ?_ ?_
        · repeat first | exact trivial | refine ⟨VLe.refl _, ?_⟩
        · repeat first | exact trivial | refine ⟨by decide, ?_⟩
theorem jlex_Cut (t : Str) (hs : t.length ≤ 1000000) : AbsCall PP GG F.jlex_Cut [.p (.str t)] [] ⟨.ret (.tup [.p (.lst false ((cutT t).1.map Wd.enc)), .p (faultE t (cutT t).2)]), [], []⟩ := by
  have hJ := jlex_Judge t (by omega)
  have hWh := jlex_while t blanksB (by omega) (by decide) (by decide)
  have hwl := whileL_le t blanksB
  unfold judgeF at hJ
  unfold cutT
  by_cases hj : (judgeS t).1 = 0
  · rw [if_neg (by omega)]
    unfold faultE at hJ
    rw [if_pos hj] at hJ
    have hlp := cut_first t hs (cutL (t.length + 1) t (whileL t blanksB) [])
    have hlen := cutL_len (t.length + 1) t (whileL t blanksB) [] (by omega) (by simp)
    generalize hR : cutL (t.length + 1) t (whileL t blanksB) [] = R at *
    refine absCall_of (pol := polG) mixP F.jlex_Cut_is ?_
    conv => whnf
    repeat' ((first
     | ((with_reducible first | refine Br.dec ?_ ?_ | refine Br.ndec ?_ ?_) <;> intro hb <;> (try simp only [ZZ] at hb) <;> (first | omega | contradiction | skip))
     | (with_reducible first | refine Br.tt rfl ?_ | refine Br.ff rfl ?_ | refine Br.ff (isEmptyCons _ _) ?_)
     | (refine Side.mk ?_ ?_; focus (first | omega | (dsimp only [InR, Int.reduceToNat, IntKind.bits, Int.reducePow]; omega) | (simp [CC]; done) | (constructor <;> omega)))
     | with_reducible refine Br.not ?_
     | (with_reducible first | refine Br.tt (by assumption) ?_ | refine Br.ff (by assumption) ?_)
     | (refine Br.mk ?_ ?_ <;> intro hb <;> (try simp only [ZZ] at hb) <;> (first | omega | contradiction | skip))
     | refine Src.whole ⟨rfl, rfl⟩ ?_ | refine FrzV.whole ?_
     | refine CallW.use (hJ) ?_
     | refine CallW.use (hWh) ?_) <;> conv => whnf)
    refine LoopW.cl ?_
    refine LoopW.ren [0] (hlp _ (fun h => ?_) (fun h hne => ?_) (fun h o => ?_) (fun h o o' => ?_) (whileL t blanksB) (by omega) hR) (by repeat first | exact trivial | refine ⟨⟨rfl, VLe.refl _⟩, ?_⟩) (by repeat first | exact trivial | refine ⟨by decide, ?_⟩) rfl rfl
    all_goals conv => whnf
    · repeat' ((first
       | ((with_reducible first | refine Br.dec ?_ ?_ | refine Br.ndec ?_ ?_) <;> intro hb <;> (try simp only [ZZ] at hb) <;> (first | omega | contradiction | skip))
       | (with_reducible first | refine Br.tt rfl ?_ | refine Br.ff rfl ?_ | refine Br.ff (isEmptyCons _ _) ?_)
       | (refine Side.mk ?_ ?_; focus (first | omega | (dsimp only [InR, Int.reduceToNat, IntKind.bits, Int.reducePow]; omega) | exact Wd.enc_side ⟨0, [], t.length⟩ | exact ⟨fun y hy => (Wd.enc_side ⟨0, [], t.length⟩ y hy).1, by show 1 * 64 ≤ _; omega⟩ | (simp [CC]; done) | (constructor <;> omega)))
       | with_reducible refine Br.not ?_
       | (with_reducible first | refine Br.tt (by assumption) ?_ | refine Br.ff (by assumption) ?_)
       | (refine Br.mk ?_ ?_ <;> intro hb <;> (try simp only [ZZ] at hb) <;> (first | omega | contradiction | skip))
       | refine Src.whole ⟨rfl, rfl⟩ ?_ | refine FrzV.whole ?_) <;> conv => whnf)
      refine FrzV.mk (.tup [.p (.lst false [(⟨0, [], t.length⟩ : Wd).enc]), .p noFault]) (frz_tup2 2 [(⟨0, [], t.length⟩ : Wd).enc] noFault) ?_
      conv => whnf
      subst h
      rw [if_neg (by simp)]
      exact CLe.eq rfl
    · have hml : (R.1.map Wd.enc).length = R.1.length := by simp
      repeat' ((first
       | ((with_reducible first | refine Br.dec ?_ ?_ | refine Br.ndec ?_ ?_) <;> intro hb <;> (try simp only [ZZ] at hb) <;> (first | omega | contradiction | skip))
       | (with_reducible first | refine Br.tt rfl ?_ | refine Br.ff rfl ?_ | refine Br.ff (isEmptyCons _ _) ?_)
       | (refine Side.mk ?_ ?_; focus (first | omega | (dsimp only [InR, Int.reduceToNat, IntKind.bits, Int.reducePow]; omega) | exact Wd.enc_side ⟨0, [], t.length⟩ | exact ⟨fun y hy => (Wd.enc_side ⟨0, [], t.length⟩ y hy).1, rfl, by show (_ + 1) * 64 ≤ _; rw [hml]; omega⟩ | (simp [CC]; done) | (constructor <;> omega)))
       | with_reducible refine Br.not ?_
       | (with_reducible first | refine Br.tt (by assumption) ?_ | refine Br.ff (by assumption) ?_)
       | (refine Br.mk ?_ ?_ <;> intro hb <;> (try simp only [ZZ] at hb) <;> (first | omega | contradiction | skip))
       | refine Src.whole ⟨rfl, rfl⟩ ?_ | refine FrzV.whole ?_) <;> conv => whnf)
      refine FrzV.mk (.tup [.p (.lst false (R.1.map Wd.enc ++ [(⟨0, [], t.length⟩ : Wd).enc])), .p noFault]) (frz_tup2 1 (R.1.map Wd.enc ++ [(⟨0, [], t.length⟩ : Wd).enc]) noFault) ?_
      conv => whnf
      rw [if_neg (by omega), List.map_append]
      exact CLe.eq rfl
    all_goals
      rw [if_pos h]
      unfold faultE
      rw [if_neg h]
      refine CLe.ret (VLe.tup ?_)
      exact ⟨(PLe.nils false).p, VLe.refl _, trivial⟩
  · rw [if_pos hj]
    unfold faultE
    unfold faultE at hJ
    rw [if_neg hj] at hJ
    rw [if_neg hj]
    refine absCall_of (pol := polG) mixP F.jlex_Cut_is ?_
    conv => whnf
    repeat' ((first
     | ((with_reducible first | refine Br.dec ?_ ?_ | refine Br.ndec ?_ ?_) <;> intro hb <;> (try simp only [ZZ] at hb) <;> (first | omega | contradiction | skip))
     | (with_reducible first | refine Br.tt rfl ?_ | refine Br.ff rfl ?_ | refine Br.ff (isEmptyCons _ _) ?_)
     | (refine Side.mk ?_ ?_; focus (first | omega | (dsimp only [InR, Int.reduceToNat, IntKind.bits, Int.reducePow]; omega) | (simp [CC]; done) | (constructor <;> omega)))
     | with_reducible refine Br.not ?_
     | (with_reducible first | refine Br.tt (by assumption) ?_ | refine Br.ff (by assumption) ?_)
     | (refine Br.mk ?_ ?_ <;> intro hb <;> (try simp only [ZZ] at hb) <;> (first | omega | contradiction | skip))
     | refine Src.whole ⟨rfl, rfl⟩ ?_ | refine FrzV.whole ?_
     | refine CallW.use (hJ) ?_
     | refine CallW.use (hWh) ?_) <;> conv => whnf)
    refine CLe.ret (VLe.tup ?_)
    exact ⟨(PLe.nils false).p, VLe.refl _, trivial⟩
def jrO (ws : List Wd) (i n : Int) : HO := .var T.jread_reader (.p (.agg [.lst false (ws.map Wd.enc), .int .i64 i, .int .i64 n]))
theorem ElemZ.word {ws : List Wd} {i : Nat} {K : PV → Prop} {w : Wd} (h : ws[i]? = some w) (k : K w.enc) : ElemZ (ws.map Wd.enc) i 3 K := ⟨_, by rw [List.getElem?_map, h]; rfl, rfl, k⟩
theorem reader_word (ws : List Wd) (i : Nat) (n : Int) (w : Wd) (h : ws[i]? = some w) (hl : ws.length ≤ 1073741824) : AbsCall PP GG F.jread_reader_word [.ptr 0 0] [jrO ws i n] ⟨.ret (.p w.enc), [jrO ws i n], []⟩ := by
  have hi : i < ws.length := (List.getElem?_eq_some_iff.1 h).1
  have hml : (ws.map Wd.enc).length = ws.length := by simp
  refine absCall_of (pol := polG) mixP F.jread_reader_word_is ?_
  conv => whnf
  repeat' ((first
   | ((with_reducible first | refine Br.dec ?_ ?_ | refine Br.ndec ?_ ?_) <;> intro hb <;> (try simp only [And.intro @hml (ZZ)] at hb) <;> (first | omega | contradiction | skip))
   | (with_reducible first | refine Br.tt rfl ?_ | refine Br.ff rfl ?_ | refine Br.ff (isEmptyCons _ _) ?_)
   | (refine Side.mk ?_ ?_; focus (first | omega | (dsimp only [InR, Int.reduceToNat, IntKind.bits, Int.reducePow]; omega) | exact ⟨rfl, rfl⟩ | (rw [hml]; omega) | (simp [CC]; done) | (constructor <;> omega)))
   | with_reducible refine Br.not ?_
   | (with_reducible first | refine Br.tt (by assumption) ?_ | refine Br.ff (by assumption) ?_)
   | (refine Br.mk ?_ ?_ <;> intro hb <;> (try simp only [And.intro @hml (ZZ)] at hb) <;> (first | omega | contradiction | skip))
   | refine Src.whole ⟨rfl, rfl⟩ ?_ | refine FrzV.whole ?_
   | (refine ElemZ.word (w := w) (by simpa using h) ?_)) <;> conv => whnf)
  exact CLe.eq rfl
theorem reader_is (ws : List Wd) (i : Nat) (n : Int) (w : Wd) (h : ws[i]? = some w) (hl : ws.length ≤ 1073741824) (s : Str) : AbsCall PP GG F.jread_reader_is [.ptr 0 0, .p (.str s)] [jrO ws i n] ⟨.ret (.p (.bool (decide (w.k = 1 ∧ w.s = s)))), [jrO ws i n], []⟩ := by
  have hW := reader_word ws i n w h hl
  obtain ⟨k, ws', a⟩ := w
  refine absCall_of (pol := polG) mixP F.jread_reader_is_is ?_
  conv => whnf
  repeat' ((first
   | ((with_reducible first | refine Br.dec ?_ ?_ | refine Br.ndec ?_ ?_) <;> intro hb <;> (try simp only [ZZ] at hb) <;> (first | omega | contradiction | skip))
   | (with_reducible first | refine Br.tt rfl ?_ | refine Br.ff rfl ?_ | refine Br.ff (isEmptyCons _ _) ?_)
   | (refine Side.mk ?_ ?_; focus (first | omega | (dsimp only [InR, Int.reduceToNat, IntKind.bits, Int.reducePow]; omega) | (simp [CC]; done) | (constructor <;> omega)))
   | with_reducible refine Br.not ?_
   | (with_reducible first | refine Br.tt (by assumption) ?_ | refine Br.ff (by assumption) ?_)
   | (refine Br.mk ?_ ?_ <;> intro hb <;> (try simp only [ZZ] at hb) <;> (first | omega | contradiction | skip))
   | refine Src.whole ⟨rfl, rfl⟩ ?_ | refine FrzV.whole ?_
   | refine CallW.use (hW) ?_) <;> conv => whnf)
  · refine CLe.eq ?_
    simp only [hb, true_and]
    rfl
  · refine CLe.eq ?_
    simp only [hb, false_and, decide_false]
    rfl
theorem reader_take (ws : List Wd) (i : Nat) (n : Int) (w : Wd) (h : ws[i]? = some w) (hl : ws.length ≤ 1073741824) (s : Str) : AbsCall PP GG F.jread_reader_take [.ptr 0 0, .p (.str s)] [jrO ws i n] ⟨.ret (.p (.bool (decide (w.k = 1 ∧ w.s = s)))), [jrO ws (if w.k = 1 ∧ w.s = s then i + 1 else i) n], []⟩ := by
  have hI := reader_is ws i n w h hl s
  have hi : i < ws.length := (List.getElem?_eq_some_iff.1 h).1
  by_cases hq : w.k = 1 ∧ w.s = s
  · rw [if_pos hq]
    rw [decide_eq_true hq] at hI ⊢
    refine absCall_of (pol := polG) mixP F.jread_reader_take_is ?_
    conv => whnf
    repeat' ((first
     | ((with_reducible first | refine Br.dec ?_ ?_ | refine Br.ndec ?_ ?_) <;> intro hb <;> (try simp only [ZZ] at hb) <;> (first | omega | contradiction | skip))
     | (with_reducible first | refine Br.tt rfl ?_ | refine Br.ff rfl ?_ | refine Br.ff (isEmptyCons _ _) ?_)
     | (refine Side.mk ?_ ?_; focus (first | omega | (dsimp only [InR, Int.reduceToNat, IntKind.bits, Int.reducePow]; omega) | (simp [CC]; done) | (constructor <;> omega)))
     | with_reducible refine Br.not ?_
     | (with_reducible first | refine Br.tt (by assumption) ?_ | refine Br.ff (by assumption) ?_)
     | (refine Br.mk ?_ ?_ <;> intro hb <;> (try simp only [ZZ] at hb) <;> (first | omega | contradiction | skip))
     | refine Src.whole ⟨rfl, rfl⟩ ?_ | refine FrzV.whole ?_
     | refine CallW.use (hI) ?_) <;> conv => whnf)
    exact CLe.eq rfl
  · rw [if_neg hq]
    rw [decide_eq_false hq] at hI ⊢
    refine absCall_of (pol := polG) mixP F.jread_reader_take_is ?_
    conv => whnf
    repeat' ((first
     | ((with_reducible first | refine Br.dec ?_ ?_ | refine Br.ndec ?_ ?_) <;> intro hb <;> (try simp only [ZZ] at hb) <;> (first | omega | contradiction | skip))
     | (with_reducible first | refine Br.tt rfl ?_ | refine Br.ff rfl ?_ | refine Br.ff (isEmptyCons _ _) ?_)
     | (refine Side.mk ?_ ?_; focus (first | omega | (dsimp only [InR, Int.reduceToNat, IntKind.bits, Int.reducePow]; omega) | (simp [CC]; done) | (constructor <;> omega)))
     | with_reducible refine Br.not ?_
     | (with_reducible first | refine Br.tt (by assumption) ?_ | refine Br.ff (by assumption) ?_)
     | (refine Br.mk ?_ ?_ <;> intro hb <;> (try simp only [ZZ] at hb) <;> (first | omega | contradiction | skip))
     | refine Src.whole ⟨rfl, rfl⟩ ?_ | refine FrzV.whole ?_
     | refine CallW.use (hI) ?_) <;> conv => whnf)
    exact CLe.eq rfl
def wrongP (e a : Int) : V := .p (.iface T.jread_wrong (.agg [.int .i64 e, .int .i64 a]))
theorem reader_fail (ws : List Wd) (i : Nat) (n e : Int) (w : Wd) (h : ws[i]? = some w) (hl : ws.length ≤ 1073741824) : AbsCall PP GG F.jread_reader_fail [.ptr 0 0, .p (.int .i64 e)] [jrO ws i n] ⟨.pan (wrongP e w.a), [jrO ws i n], []⟩ := by
  have hW := reader_word ws i n w h hl
  obtain ⟨k, s, a⟩ := w
  refine absCall_of (pol := polG) mixP F.jread_reader_fail_is ?_
  conv => whnf
  repeat' ((first
   | ((with_reducible first | refine Br.dec ?_ ?_ | refine Br.ndec ?_ ?_) <;> intro hb <;> (try simp only [ZZ] at hb) <;> (first | omega | contradiction | skip))
   | (with_reducible first | refine Br.tt rfl ?_ | refine Br.ff rfl ?_ | refine Br.ff (isEmptyCons _ _) ?_)
   | (refine Side.mk ?_ ?_; focus (first | omega | (dsimp only [InR, Int.reduceToNat, IntKind.bits, Int.reducePow]; omega) | (simp [CC]; done) | (constructor <;> omega)))
   | with_reducible refine Br.not ?_
   | (with_reducible first | refine Br.tt (by assumption) ?_ | refine Br.ff (by assumption) ?_)
   | (refine Br.mk ?_ ?_ <;> intro hb <;> (try simp only [ZZ] at hb) <;> (first | omega | contradiction | skip))
   | refine Src.whole ⟨rfl, rfl⟩ ?_ | refine FrzV.whole ?_
   | refine CallW.use (hW) ?_) <;> conv => whnf)
  exact CLe.eq rfl
theorem reader_want_ok (ws : List Wd) (i : Nat) (n : Int) (w : Wd) (h : ws[i]? = some w) (hl : ws.length ≤ 1073741824) (s : Str) (hq : w.k = 1 ∧ w.s = s) : AbsCall PP GG F.jread_reader_want [.ptr 0 0, .p (.str s)] [jrO ws i n] ⟨.ret (.tup []), [jrO ws (i + 1) n], []⟩ := by
  have hT := reader_take ws i n w h hl s
  rw [if_pos hq, decide_eq_true hq] at hT
  refine absCall_of (pol := polG) mixP F.jread_reader_want_is ?_
  conv => whnf
  repeat' ((first
   | ((with_reducible first | refine Br.dec ?_ ?_ | refine Br.ndec ?_ ?_) <;> intro hb <;> (try simp only [ZZ] at hb) <;> (first | omega | contradiction | skip))
   | (with_reducible first | refine Br.tt rfl ?_ | refine Br.ff rfl ?_ | refine Br.ff (isEmptyCons _ _) ?_)
   | (refine Side.mk ?_ ?_; focus (first | omega | (dsimp only [InR, Int.reduceToNat, IntKind.bits, Int.reducePow]; omega) | (simp [CC]; done) | (constructor <;> omega)))
   | with_reducible refine Br.not ?_
   | (with_reducible first | refine Br.tt (by assumption) ?_ | refine Br.ff (by assumption) ?_)
   | (refine Br.mk ?_ ?_ <;> intro hb <;> (try simp only [ZZ] at hb) <;> (first | omega | contradiction | skip))
   | refine Src.whole ⟨rfl, rfl⟩ ?_ | refine FrzV.whole ?_
   | refine CallW.use (hT) ?_) <;> conv => whnf)
  exact CLe.eq rfl
theorem reader_want_no (ws : List Wd) (i : Nat) (n : Int) (w : Wd) (h : ws[i]? = some w) (hl : ws.length ≤ 1073741824) (s : Str) (hq : ¬ (w.k = 1 ∧ w.s = s)) : AbsCall PP GG F.jread_reader_want [.ptr 0 0, .p (.str s)] [jrO ws i n] ⟨.pan (wrongP 4 w.a), [jrO ws i n], []⟩ := by
  have hT := reader_take ws i n w h hl s
  rw [if_neg hq, decide_eq_false hq] at hT
  have hF := reader_fail ws i n 4 w h hl
  refine absCall_of (pol := polG) mixP F.jread_reader_want_is ?_
  conv => whnf
  repeat' ((first
   | ((with_reducible first | refine Br.dec ?_ ?_ | refine Br.ndec ?_ ?_) <;> intro hb <;> (try simp only [ZZ] at hb) <;> (first | omega | contradiction | skip))
   | (with_reducible first | refine Br.tt rfl ?_ | refine Br.ff rfl ?_ | refine Br.ff (isEmptyCons _ _) ?_)
   | (refine Side.mk ?_ ?_; focus (first | omega | (dsimp only [InR, Int.reduceToNat, IntKind.bits, Int.reducePow]; omega) | (simp [CC]; done) | (constructor <;> omega)))
   | with_reducible refine Br.not ?_
   | (with_reducible first | refine Br.tt (by assumption) ?_ | refine Br.ff (by assumption) ?_)
   | (refine Br.mk ?_ ?_ <;> intro hb <;> (try simp only [ZZ] at hb) <;> (first | omega | contradiction | skip))
   | refine Src.whole ⟨rfl, rfl⟩ ?_ | refine FrzV.whole ?_
   | refine CallW.use (hT) ?_
   | refine CallW.use (hF) ?_) <;> conv => whnf)
  exact CLe.eq rfl
end Go.Proofs.YtoinkmogdfjmmaaGreatDoor
end

section
namespace Go.Am
open Go
def leqS (a b : Str) : Bool := Op.bytesLess a b || decide (a = b)
def ownBad (k n : Int) (ls ll lm : Nat) : Prop := (k ≠ 1 ∧ k ≠ 2 ∧ n ≠ 0) ∨ (k ≠ 3 ∧ k ≠ 4 ∧ k ≠ 7 ∧ ls ≠ 0) ∨ (k ≠ 5 ∧ ll ≠ 0) ∨ (k ≠ 6 ∧ lm ≠ 0)
instance (k n : Int) (ls ll lm : Nat) : Decidable (ownBad k n ls ll lm) := by unfold ownBad; infer_instance
abbrev RR := Except (Int × Int) (Tree × Nat × Int)
def wdAt (ws : List Wd) (i : Nat) : Wd := (ws[i]?).getD ⟨0, [], 0⟩
def isS (w : Wd) (s : Str) : Bool := decide (w.k = 1 ∧ w.s = s)
def hasK (m : List (Str × Tree)) (k : Str) : Bool := m.any fun p => decide (p.1 = k)
def insK (k : Str) (x : Tree) : List (Str × Tree) → List (Str × Tree)
  | [] => [(k, x)]
  | p :: m => if leqS k p.1 = true then (k, x) :: p :: m else p :: insK k x m
def sortP : List (Str × Tree) → List (Str × Tree)
  | [] => []
  | p :: m => insK p.1 p.2 (sortP m)
def plainW (w : Wd) : Tree :=
  if w.k = 2 then .mk 4 0 w.s [] [] else
  if w.k = 3 then (if (refIntL w.s).2 = true then .mk 2 (refIntL w.s).1 [] [] [] else .mk 3 0 w.s [] []) else
  if w.s = [116, 114, 117, 101] then .mk 1 1 [] [] [] else
  if w.s = [102, 97, 108, 115, 101] then .mk 1 0 [] [] [] else .mk 0 0 [] [] []
mutual
def valR : Nat → List Wd → Int → Nat → Int → RR
  | 0, _, _, _, _ => .error (0, 0)
  | q + 1, ws, d, i, n =>
    if (wdAt ws i).k = 0 ∨ ((wdAt ws i).k = 1 ∧ ¬ (wdAt ws i).s = [123] ∧ ¬ (wdAt ws i).s = [91]) then .error (4, (wdAt ws i).a) else
    if 4096 < n + 1 ∨ 32 < d then .error (2, (wdAt ws i).a) else
    if isS (wdAt ws i) [91] = true then listR q ws d (i + 1) (n + 1) else
    if isS (wdAt ws i) [123] = true then pairsR q ws d (i + 1) (n + 1) else
    .ok (plainW (wdAt ws i), i + 1, n + 1)
def listR : Nat → List Wd → Int → Nat → Int → RR
  | 0, _, _, _, _ => .error (0, 0)
  | q + 1, ws, d, i, n => if isS (wdAt ws i) [93] = true then .ok (.mk 5 0 [] [] [], i + 1, n) else itemsR q ws d i n []
def itemsR : Nat → List Wd → Int → Nat → Int → List Tree → RR
  | 0, _, _, _, _, _ => .error (0, 0)
  | q + 1, ws, d, i, n, acc => match valR q ws (d + 1) i n with
    | .error e => .error e
    | .ok (x, j, m) =>
      if isS (wdAt ws j) [93] = true then .ok (.mk 5 0 [] (acc ++ [x]) [], j + 1, m) else
      if isS (wdAt ws j) [44] = true then itemsR q ws d (j + 1) m (acc ++ [x]) else .error (4, (wdAt ws j).a)
def pairsR : Nat → List Wd → Int → Nat → Int → RR
  | 0, _, _, _, _ => .error (0, 0)
  | q + 1, ws, d, i, n => if isS (wdAt ws i) [125] = true then .ok (.mk 6 0 [] [] [], i + 1, n) else entriesR q ws d i n []
def entriesR : Nat → List Wd → Int → Nat → Int → List (Str × Tree) → RR
  | 0, _, _, _, _, _ => .error (0, 0)
  | q + 1, ws, d, i, n, acc =>
    if ¬ (wdAt ws i).k = 2 then .error (4, (wdAt ws i).a) else
    if hasK acc (wdAt ws i).s = true then .error (5, (wdAt ws i).a) else
    if isS (wdAt ws (i + 1)) [58] = false then .error (4, (wdAt ws (i + 1)).a) else
    match valR q ws (d + 1) (i + 2) n with
    | .error e => .error e
    | .ok (x, j, m) =>
      if isS (wdAt ws j) [125] = true then .ok (.mk 6 0 [] [] (sortP (acc ++ [((wdAt ws i).s, x)])), j + 1, m) else
      if isS (wdAt ws j) [44] = true then entriesR q ws d (j + 1) m (acc ++ [((wdAt ws i).s, x)]) else .error (4, (wdAt ws j).a)
end
structure WsOk (ws : List Wd) : Prop where
  len : ws.length ≤ 65537
  end_ : ∀ i : Nat, i < ws.length → (wdAt ws i).k ≠ 0 → i + 1 < ws.length
  text : ∀ w ∈ ws, w.s.length ≤ 65536 ∧ 0 ≤ w.k ∧ w.k ≤ 4 ∧ (w.k = 4 → w.s = [116, 114, 117, 101] ∨ w.s = [102, 97, 108, 115, 101] ∨ w.s = [110, 117, 108, 108])
  pos : ∀ w ∈ ws, 0 ≤ w.a ∧ w.a ≤ 65536
theorem WsOk.at {ws : List Wd} (h : WsOk ws) {i : Nat} (hi : i < ws.length) : ws[i]? = some (wdAt ws i) ∧ wdAt ws i ∈ ws := by
  have : ws[i]? = some ws[i] := by simp [hi]
  unfold wdAt
  rw [this]
  exact ⟨rfl, List.getElem_mem hi⟩
def okR (ws : List Wd) (i : Nat) (n : Int) : RR → Prop
  | .error _ => True
  | .ok (_, j, m) => i < j ∧ j < ws.length ∧ n ≤ m ∧ m ≤ 4096
theorem isS_k {w : Wd} {s : Str} (h : isS w s = true) : w.k = 1 ∧ w.s = s := of_decide_eq_true h
theorem okR.up {ws : List Wd} {i j : Nat} {n m : Int} {r : RR} (hij : i ≤ j) (hnm : n ≤ m) (hr : okR ws j m r) : okR ws i n r := by
  cases r with
  | error e => trivial
  | ok x => exact ⟨by have := hr.1; omega, hr.2.1, by have := hr.2.2.1; omega, hr.2.2.2⟩
theorem okR_all {ws : List Wd} (h : WsOk ws) : ∀ q : Nat, (∀ d i n, i < ws.length → okR ws i (n + 1) (valR q ws d i n)) ∧ (∀ d i n, i < ws.length → n ≤ 4096 → okR ws i n (listR q ws d i n)) ∧
    (∀ d i n acc, i < ws.length → n ≤ 4096 → okR ws i n (itemsR q ws d i n acc)) ∧ (∀ d i n, i < ws.length → n ≤ 4096 → okR ws i n (pairsR q ws d i n)) ∧ (∀ d i n acc, i < ws.length → n ≤ 4096 → okR ws i n (entriesR q ws d i n acc)) := by
  have nx : ∀ {j : Nat} {s : Str}, j < ws.length → isS (wdAt ws j) s = true → j + 1 < ws.length := fun hj hs => h.end_ _ hj (by rw [(isS_k hs).1]; decide)
  intro q
  induction q with
  | zero => refine ⟨?_, ?_, ?_, ?_, ?_⟩ <;> intros <;> simp [valR, listR, itemsR, pairsR, entriesR, okR]
  | succ q ih =>
    obtain ⟨hv, hl, hi, hp, he⟩ := ih
    refine ⟨?_, ?_, ?_, ?_, ?_⟩
    · intro d i n hin
      rw [valR]
      split
      · trivial
      rename_i h1
      split
      · trivial
      rename_i h1'
      have h2 : i + 1 < ws.length := h.end_ i hin fun e => h1 (.inl e)
      split
      · exact okR.up (by omega) (by omega) (hl _ _ _ h2 (by omega))
      · split
        · exact okR.up (by omega) (by omega) (hp _ _ _ h2 (by omega))
        · exact ⟨by omega, h2, by omega, by omega⟩
    · intro d i n hin hn
      rw [listR]
      split
      · rename_i h1; exact ⟨by omega, nx hin h1, by omega, hn⟩
      · exact hi _ _ _ _ hin hn
    · intro d i n acc hin hn
      rw [itemsR]
      have hv' := hv (d + 1) i n hin
      cases hr : valR q ws (d + 1) i n with
      | error e => trivial
      | ok x =>
        obtain ⟨x, j, m⟩ := x
        rw [hr] at hv'
        obtain ⟨g1, g2, g3, g4⟩ := hv'
        simp only []
        split
        · rename_i h1; exact ⟨by omega, nx g2 h1, by omega, g4⟩
        · split
          · rename_i h1; exact okR.up (by omega) (by omega) (hi _ _ _ _ (nx g2 h1) g4)
          · trivial
    · intro d i n hin hn
      rw [pairsR]
      split
      · rename_i h1; exact ⟨by omega, nx hin h1, by omega, hn⟩
      · exact he _ _ _ _ hin hn
    · intro d i n acc hin hn
      rw [entriesR]
      split
      · trivial
      rename_i h0
      split
      · trivial
      split
      · trivial
      rename_i h3
      have h1 : i + 1 < ws.length := h.end_ i hin (by omega)
      have h3 : isS (wdAt ws (i + 1)) [58] = true := by simpa using h3
      have hv' := hv (d + 1) (i + 2) n (nx h1 h3)
      cases hr : valR q ws (d + 1) (i + 2) n with
      | error e => trivial
      | ok x =>
        obtain ⟨x, j, m⟩ := x
        rw [hr] at hv'
        obtain ⟨g1, g2, g3, g4⟩ := hv'
        simp only []
        split
        · rename_i h1; exact ⟨by omega, nx g2 h1, by omega, g4⟩
        · split
          · rename_i h1; exact okR.up (by omega) (by omega) (he _ _ _ _ (nx g2 h1) g4)
          · trivial
def errR : RR → Prop
  | .error e => (e.1 = 2 ∨ e.1 = 4 ∨ e.1 = 5) ∧ 0 ≤ e.2 ∧ e.2 ≤ 65536
  | .ok _ => True
theorem WsOk.a {ws : List Wd} (h : WsOk ws) (i : Nat) : 0 ≤ (wdAt ws i).a ∧ (wdAt ws i).a ≤ 65536 := by
  unfold wdAt
  cases hi : ws[i]? with
  | none => simp
  | some w => exact h.pos w (List.mem_of_getElem? hi)
theorem errR_all {ws : List Wd} (h : WsOk ws) : ∀ q : Nat, (∀ d i n, i < ws.length → 3 * (ws.length - i) + 1 ≤ q → errR (valR q ws d i n)) ∧ (∀ d i n, i < ws.length → n ≤ 4096 → 3 * (ws.length - i) + 3 ≤ q → errR (listR q ws d i n)) ∧
    (∀ d i n acc, i < ws.length → n ≤ 4096 → 3 * (ws.length - i) + 2 ≤ q → errR (itemsR q ws d i n acc)) ∧ (∀ d i n, i < ws.length → n ≤ 4096 → 3 * (ws.length - i) + 3 ≤ q → errR (pairsR q ws d i n)) ∧
    (∀ d i n acc, i < ws.length → n ≤ 4096 → 3 * (ws.length - i) + 2 ≤ q → errR (entriesR q ws d i n acc)) := by
  have nx : ∀ {j : Nat} {s : Str}, j < ws.length → isS (wdAt ws j) s = true → j + 1 < ws.length := fun hj hs => h.end_ _ hj (by rw [(isS_k hs).1]; decide)
  have e2 : ∀ i, errR (.error (2, (wdAt ws i).a)) := fun i => ⟨.inl rfl, h.a i⟩
  have e4 : ∀ i, errR (.error (4, (wdAt ws i).a)) := fun i => ⟨.inr (.inl rfl), h.a i⟩
  have e5 : ∀ i, errR (.error (5, (wdAt ws i).a)) := fun i => ⟨.inr (.inr rfl), h.a i⟩
  intro q
  induction q with
  | zero => refine ⟨?_, ?_, ?_, ?_, ?_⟩ <;> intros <;> omega
  | succ q ih =>
    obtain ⟨hv, hl, hi, hp, he⟩ := ih
    obtain ⟨kv, _⟩ := okR_all h q
    refine ⟨?_, ?_, ?_, ?_, ?_⟩
    · intro d i n hin hq
      rw [valR]
      split
      · exact e4 i
      rename_i h1
      split
      · exact e2 i
      rename_i h1'
      have h2 : i + 1 < ws.length := h.end_ i hin fun e => h1 (.inl e)
      split
      · exact hl _ _ _ h2 (by omega) (by omega)
      · split
        · exact hp _ _ _ h2 (by omega) (by omega)
        · trivial
    · intro d i n hin hn hq
      rw [listR]
      split
      · trivial
      · exact hi _ _ _ _ hin hn (by omega)
    · intro d i n acc hin hn hq
      rw [itemsR]
      have hv' := hv (d + 1) i n hin (by omega)
      have kv' := kv (d + 1) i n hin
      cases hr : valR q ws (d + 1) i n with
      | error e => rw [hr] at hv'; exact hv'
      | ok x =>
        obtain ⟨x, j, m⟩ := x
        rw [hr] at kv'
        obtain ⟨g1, g2, g3, g4⟩ := kv'
        simp only []
        split
        · trivial
        · split
          · rename_i h1; exact hi _ _ _ _ (nx g2 h1) g4 (by omega)
          · exact e4 j
    · intro d i n hin hn hq
      rw [pairsR]
      split
      · trivial
      · exact he _ _ _ _ hin hn (by omega)
    · intro d i n acc hin hn hq
      rw [entriesR]
      split
      · exact e4 i
      rename_i h0
      split
      · exact e5 i
      split
      · exact e4 (i + 1)
      rename_i h3
      have h1 : i + 1 < ws.length := h.end_ i hin (by omega)
      have h3 : isS (wdAt ws (i + 1)) [58] = true := by simpa using h3
      have hv' := hv (d + 1) (i + 2) n (nx h1 h3) (by omega)
      have kv' := kv (d + 1) (i + 2) n (nx h1 h3)
      cases hr : valR q ws (d + 1) (i + 2) n with
      | error e => rw [hr] at hv'; exact hv'
      | ok x =>
        obtain ⟨x, j, m⟩ := x
        rw [hr] at kv'
        obtain ⟨g1, g2, g3, g4⟩ := kv'
        simp only []
        split
        · trivial
        · split
          · rename_i h1; exact he _ _ _ _ (nx g2 h1) g4 (by omega)
          · exact e4 j
def wholeS (ws : List Wd) : Tree × Int × Int := match valR (3 * ws.length + 1) ws 1 0 0 with
  | .error e => (.mk 0 0 [] [] [], e)
  | .ok (v, j, _) => if (wdAt ws j).k = 0 then (v, 0, 0) else (.mk 0 0 [] [] [], 4, (wdAt ws j).a)
def parseS (t : Str) : Tree × Int × Int := if (cutT t).2.1 = 0 then wholeS (cutT t).1 else (.mk 0 0 [] [] [], (cutT t).2)
theorem wordL_word (t : Str) (a : Nat) (h : (wordL t a).2.2.1 = 0) : (wordL t a).1.s.length ≤ max 4096 t.length ∧ 1 ≤ (wordL t a).1.k ∧ (wordL t a).1.k ≤ 4 ∧
    ((wordL t a).1.k = 4 → (wordL t a).1.s = [116, 114, 117, 101] ∨ (wordL t a).1.s = [102, 97, 108, 115, 101] ∨ (wordL t a).1.s = [110, 117, 108, 108]) := by
  have hd : (t.drop a).length ≤ t.length := by rw [List.length_drop]; omega
  have ht : ∀ n : Nat, ((t.drop a).take n).length ≤ t.length := fun n => by rw [List.length_take]; omega
  unfold wordL at h ⊢
  split
  · rename_i h1
    have := ht 1
    exact ⟨by show ((t.drop a).take 1).length ≤ _; omega, by show (1 : Int) ≤ 1; decide, by show (1 : Int) ≤ 4; decide, fun e => absurd e (by show ¬ (1 : Int) = 4; decide)⟩
  rename_i h1
  rw [if_neg h1] at h
  split
  · rename_i h2
    rw [if_pos h2] at h
    split
    · rename_i h3; rw [if_pos h3] at h; simp at h
    rename_i h3
    rw [if_neg h3] at h
    split
    · rename_i h4; rw [if_pos h4] at h; simp at h
    rename_i h4
    exact ⟨by show (unquoteL t a).1.length ≤ _; omega, by show (1 : Int) ≤ 2; decide, by show (2 : Int) ≤ 4; decide, fun e => absurd e (by show ¬ (2 : Int) = 4; decide)⟩
  rename_i h2
  rw [if_neg h2] at h
  split
  · rename_i h3
    rw [if_pos h3] at h
    split
    · rename_i h4; rw [if_pos h4] at h; simp at h
    rename_i h4
    refine ⟨by have := ht (whileL (t.drop a) lowers); show ((t.drop a).take _).length ≤ _; omega, by show (1 : Int) ≤ 4; decide, by show (4 : Int) ≤ 4; decide, fun _ => ?_⟩
    show (t.drop a).take _ = _ ∨ (t.drop a).take _ = _ ∨ (t.drop a).take _ = _
    by_cases g1 : (t.drop a).take (whileL (t.drop a) lowers) = [116, 114, 117, 101]
    · exact .inl g1
    · by_cases g2 : (t.drop a).take (whileL (t.drop a) lowers) = [102, 97, 108, 115, 101]
      · exact .inr (.inl g2)
      · by_cases g3 : (t.drop a).take (whileL (t.drop a) lowers) = [110, 117, 108, 108]
        · exact .inr (.inr g3)
        · exact absurd ⟨g1, g2, g3⟩ h4
  rename_i h3
  rw [if_neg h3] at h
  split
  · rename_i h4; rw [if_pos h4] at h; simp at h
  rename_i h4
  rw [if_neg h4] at h
  split
  · rename_i h5; rw [if_pos h5] at h; exact absurd h h5
  have := ht (whileL (t.drop a) numBs)
  exact ⟨by show ((t.drop a).take _).length ≤ _; omega, by show (1 : Int) ≤ 3; decide, by show (3 : Int) ≤ 4; decide, fun e => absurd e (by show ¬ (3 : Int) = 4; decide)⟩
theorem wordL_a (t : Str) (a : Nat) : (wordL t a).1.a = a ∨ (wordL t a).1.a = 0 := by
  unfold wordL
  repeat' split
  all_goals first
    | exact .inl rfl
    | exact .inr rfl
theorem cutL_pos : ∀ (q : Nat) (t : Str) (a : Nat) (acc : List Wd), (∀ w ∈ acc, 0 ≤ w.a ∧ w.a ≤ t.length) → ∀ w ∈ (cutL q t a acc).1, 0 ≤ w.a ∧ w.a ≤ t.length
  | 0, t, a, acc, h => by rw [cutL]; exact h
  | q + 1, t, a, acc, h => by
    rw [cutL]
    split
    · exact h
    rename_i hl
    split
    · simp
    · refine cutL_pos q t _ _ fun w hw' => ?_
      rcases List.mem_append.1 hw' with hw' | hw'
      · exact h w hw'
      · have := wordL_a t a
        rw [List.mem_singleton.1 hw']
        omega
theorem cutL_words : ∀ (q : Nat) (t : Str) (a : Nat) (acc : List Wd), t.length ≤ 65536 →
    (∀ w ∈ acc, w.s.length ≤ 65536 ∧ 1 ≤ w.k ∧ w.k ≤ 4 ∧ (w.k = 4 → w.s = [116, 114, 117, 101] ∨ w.s = [102, 97, 108, 115, 101] ∨ w.s = [110, 117, 108, 108])) →
    ∀ w ∈ (cutL q t a acc).1, w.s.length ≤ 65536 ∧ 1 ≤ w.k ∧ w.k ≤ 4 ∧ (w.k = 4 → w.s = [116, 114, 117, 101] ∨ w.s = [102, 97, 108, 115, 101] ∨ w.s = [110, 117, 108, 108])
  | 0, t, a, acc, _, h => by rw [cutL]; exact h
  | q + 1, t, a, acc, ht, h => by
    rw [cutL]
    split
    · exact h
    split
    · simp
    rename_i hw
    refine cutL_words q t _ _ ht fun w hw' => ?_
    rcases List.mem_append.1 hw' with hw' | hw'
    · exact h w hw'
    · have := wordL_word t a (by simpa using hw)
      rw [List.mem_singleton.1 hw']
      exact ⟨by omega, this.2⟩
theorem cutT_ok (t : Str) (h : (cutT t).2.1 = 0) : WsOk (cutT t).1 := by
  unfold cutT at h ⊢
  split
  · rename_i h1; rw [if_pos h1] at h; exact absurd h h1
  rename_i h1
  rw [if_neg h1] at h
  split
  · rename_i h2; rw [if_pos h2] at h; exact absurd h h2
  have hl : t.length ≤ 65536 := by
    unfold judgeS at h1
    split at h1
    · simp at h1
    · omega
  have hw := whileL_le t blanksB
  have h3 := cutL_words (t.length + 1) t (whileL t blanksB) [] hl (by simp)
  have h5 := cutL_pos (t.length + 1) t (whileL t blanksB) [] (by simp)
  have h4 := cutL_len (t.length + 1) t (whileL t blanksB) [] hw (by simp)
  generalize (cutL (t.length + 1) t (whileL t blanksB) []).1 = l at h3 h4 h5 ⊢
  refine ⟨by simp; omega, fun i hi hk => ?_, fun w hw => ?_, fun w hw => ?_⟩
  · rw [List.length_append, List.length_singleton] at hi ⊢
    by_cases e : i = l.length
    · subst e
      refine absurd ?_ hk
      simp [wdAt]
    · omega
  · rcases List.mem_append.1 hw with hw | hw
    · have := h3 w hw
      exact ⟨this.1, by omega, this.2.2⟩
    · rw [List.mem_singleton.1 hw]
      exact ⟨by simp, by show (0 : Int) ≤ 0; decide, by show (0 : Int) ≤ 4; decide, fun e => absurd e (by show ¬ (0 : Int) = 4; decide)⟩
  · rcases List.mem_append.1 hw with hw | hw
    · have := h5 w hw
      omega
    · rw [List.mem_singleton.1 hw]
      exact ⟨by show (0 : Int) ≤ t.length; omega, by show (t.length : Int) ≤ 65536; omega⟩
theorem cutT_pos (t : Str) (h : (cutT t).2.1 = 0) : 0 < (cutT t).1.length := by
  unfold cutT at h ⊢
  split
  · rename_i h1; rw [if_pos h1] at h; exact absurd h h1
  rename_i h1
  rw [if_neg h1] at h
  split
  · rename_i h2; rw [if_pos h2] at h; exact absurd h h2
  simp
end Go.Am
end

section
namespace Go.Proofs.YtoinkmogdfjmmaaGreatDoor
open Go Go.Am Go.RowKit
set_option maxRecDepth 100000
theorem HLe.dead1 (o : HO) : HLe [o] [.dead] := ⟨fun n B L w _ => by
    rcases n with _ | n
    · exact .dead
    · exact .dead, fun n h => by
    rcases n with _ | n
    · exact h.elim
    · exact h.elim, rfl⟩
theorem CLe.dead {v : V} {o : HO} : CLe ⟨.pan v, [o], []⟩ ⟨.pan v, [.dead], []⟩ := ⟨OutLe.refl _, HLe.dead1 o, fun _ h => h⟩
theorem reader_failD (ws : List Wd) (i : Nat) (n e : Int) (w : Wd) (h : ws[i]? = some w) (hl : ws.length ≤ 1073741824) : AbsCall PP GG F.jread_reader_fail [.ptr 0 0, .p (.int .i64 e)] [jrO ws i n] ⟨.pan (wrongP e w.a), [.dead], []⟩ :=
  (reader_fail ws i n e w h hl).le CLe.dead
theorem reader_wantD (ws : List Wd) (i : Nat) (n : Int) (w : Wd) (h : ws[i]? = some w) (hl : ws.length ≤ 1073741824) (s : Str) (hq : ¬ (w.k = 1 ∧ w.s = s)) : AbsCall PP GG F.jread_reader_want [.ptr 0 0, .p (.str s)] [jrO ws i n] ⟨.pan (wrongP 4 w.a), [.dead], []⟩ :=
  (reader_want_no ws i n w h hl s hq).le CLe.dead
def resR (ws : List Wd) : RR → CR
  | .ok (t, j, m) => ⟨.ret (.p t.enc), [jrO ws j m], []⟩
  | .error (e, a) => ⟨.pan (wrongP e a), [.dead], []⟩
def ValAt (ws : List Wd) (q : Nat) : Prop := ∀ (d : Int) (i : Nat) (n : Int), i < ws.length → 3 * (ws.length - i) + 1 ≤ q → 0 ≤ d → d ≤ 33 → 0 ≤ n → n ≤ 4096 →
  AbsCall PP GG F.jread_reader_value [.ptr 0 0, .p (.int .i64 d)] [jrO ws i n] (resR ws (valR q ws d i n))
def ListAt (ws : List Wd) (q : Nat) : Prop := ∀ (d : Int) (i : Nat) (n : Int), i < ws.length → 3 * (ws.length - i) + 3 ≤ q → 0 ≤ d → d ≤ 32 → 0 ≤ n → n ≤ 4096 →
  AbsCall PP GG F.jread_reader_list [.ptr 0 0, .p (.int .i64 d)] [jrO ws i n] (resR ws (listR q ws d i n))
def PairsAt (ws : List Wd) (q : Nat) : Prop := ∀ (d : Int) (i : Nat) (n : Int), i < ws.length → 3 * (ws.length - i) + 3 ≤ q → 0 ≤ d → d ≤ 32 → 0 ≤ n → n ≤ 4096 →
  AbsCall PP GG F.jread_reader_pairs [.ptr 0 0, .p (.int .i64 d)] [jrO ws i n] (resR ws (pairsR q ws d i n))
theorem tree_nils (k n : Int) (s : Str) : VLe (.p (.agg [.int .i64 k, .int .i64 n, .str s, .nils, .nils])) (.p (Tree.mk k n s [] []).enc) :=
  (PLe.agg (show LeL [.int .i64 k, .int .i64 n, .str s, .nils, .nils] [.int .i64 k, .int .i64 n, .str s, .lst false [], .lst false []] from ⟨PLe.refl _, PLe.refl _, PLe.refl _, PLe.nils false, PLe.nils false, trivial⟩)).p
theorem isS_no {w : Wd} (x : Str) (h : ¬ w.k = 1) : isS w x = false := decide_eq_false fun e => h e.1
theorem value_end (ws : List Wd) (hl : ws.length ≤ 1073741824) (d : Int) (hd0 : 0 ≤ d) (hd1 : d ≤ 33) (i : Nat) (hi : i ≤ 1073741824) (n : Int) (hn0 : 0 ≤ n) (hn1 : n ≤ 4096) (a : Int) (s : Str) (hat : ws[i]? = some ⟨0, s, a⟩) : AbsCall PP GG F.jread_reader_value [.ptr 0 0, .p (.int .i64 d)] [jrO ws i n] ⟨.pan (wrongP 4 a), [.dead], []⟩ := by
  have hW := reader_word ws i n _ hat hl
  have hF1 := reader_failD ws i n 4 _ hat hl
  refine absCall_of (pol := polG) mixP F.jread_reader_value_is ?_
  conv => whnf
  repeat' ((first
   | ((with_reducible first | refine Br.dec ?_ ?_ | refine Br.ndec ?_ ?_) <;> intro hb <;> (try simp only [ZZ] at hb) <;> (first | omega | contradiction | skip))
   | (with_reducible first | refine Br.tt rfl ?_ | refine Br.ff rfl ?_ | refine Br.ff (isEmptyCons _ _) ?_)
   | (refine Side.mk ?_ ?_; focus (first | omega | (dsimp only [InR, Int.reduceToNat, IntKind.bits, Int.reducePow]; omega) | (simp [CC]; done) | (constructor <;> omega)))
   | with_reducible refine Br.not ?_
   | (with_reducible first | refine Br.tt (by assumption) ?_ | refine Br.ff (by assumption) ?_)
   | (refine Br.mk ?_ ?_ <;> intro hb <;> (try simp only [ZZ] at hb) <;> (first | omega | contradiction | skip))
   | refine Src.whole ⟨rfl, rfl⟩ ?_ | refine FrzV.whole ?_
   | refine CallW.use (hW) ?_
   | refine CallW.use (hF1) ?_) <;> conv => whnf)
  exact CLe.eq rfl
theorem value_sign (ws : List Wd) (hl : ws.length ≤ 1073741824) (d : Int) (hd0 : 0 ≤ d) (hd1 : d ≤ 33) (i : Nat) (hi : i ≤ 1073741824) (n : Int) (hn0 : 0 ≤ n) (hn1 : n ≤ 4096) (a : Int) (s : Str) (h1 : ¬ s = [123]) (h2 : ¬ s = [91]) (hat : ws[i]? = some ⟨1, s, a⟩) : AbsCall PP GG F.jread_reader_value [.ptr 0 0, .p (.int .i64 d)] [jrO ws i n] ⟨.pan (wrongP 4 a), [.dead], []⟩ := by
  have hW := reader_word ws i n _ hat hl
  have hF1 := reader_failD ws i n 4 _ hat hl
  have hI1 := reader_is ws i n _ hat hl [123]
  have hI2 := reader_is ws i n _ hat hl [91]
  rw [decide_eq_false (by simp [h1])] at hI1
  rw [decide_eq_false (by simp [h2])] at hI2
  refine absCall_of (pol := polG) mixP F.jread_reader_value_is ?_
  conv => whnf
  repeat' ((first
   | ((with_reducible first | refine Br.dec ?_ ?_ | refine Br.ndec ?_ ?_) <;> intro hb <;> (try simp only [ZZ] at hb) <;> (first | omega | contradiction | skip))
   | (with_reducible first | refine Br.tt rfl ?_ | refine Br.ff rfl ?_ | refine Br.ff (isEmptyCons _ _) ?_)
   | (refine Side.mk ?_ ?_; focus (first | omega | (dsimp only [InR, Int.reduceToNat, IntKind.bits, Int.reducePow]; omega) | (simp [CC]; done) | (constructor <;> omega)))
   | with_reducible refine Br.not ?_
   | (with_reducible first | refine Br.tt (by assumption) ?_ | refine Br.ff (by assumption) ?_)
   | (refine Br.mk ?_ ?_ <;> intro hb <;> (try simp only [ZZ] at hb) <;> (first | omega | contradiction | skip))
   | refine Src.whole ⟨rfl, rfl⟩ ?_ | refine FrzV.whole ?_
   | refine CallW.use (hW) ?_
   | refine CallW.use (hI1) ?_
   | refine CallW.use (hI2) ?_
   | refine CallW.use (hF1) ?_) <;> conv => whnf)
  exact CLe.eq rfl
theorem value_lim1 (ws : List Wd) (hl : ws.length ≤ 1073741824) (d : Int) (hd0 : 0 ≤ d) (hd1 : d ≤ 33) (i : Nat) (hi : i ≤ 1073741824) (n : Int) (hn0 : 0 ≤ n) (hn1 : n ≤ 4096) (a : Int) (hat : ws[i]? = some ⟨1, [123], a⟩) (hlim : 4096 < n + 1 ∨ 32 < d) : AbsCall PP GG F.jread_reader_value [.ptr 0 0, .p (.int .i64 d)] [jrO ws i n] ⟨.pan (wrongP 2 a), [.dead], []⟩ := by
  have hW := reader_word ws i n _ hat hl
  have hF2 := reader_failD ws i (n + 1) 2 _ hat hl
  have hI1 := reader_is ws i n _ hat hl [123]
  rw [decide_eq_true ⟨rfl, rfl⟩] at hI1
  refine absCall_of (pol := polG) mixP F.jread_reader_value_is ?_
  conv => whnf
  repeat' ((first
   | ((with_reducible first | refine Br.dec ?_ ?_ | refine Br.ndec ?_ ?_) <;> intro hb <;> (try simp only [ZZ] at hb) <;> (first | omega | contradiction | skip))
   | (with_reducible first | refine Br.tt rfl ?_ | refine Br.ff rfl ?_ | refine Br.ff (isEmptyCons _ _) ?_)
   | (refine Side.mk ?_ ?_; focus (first | omega | (dsimp only [InR, Int.reduceToNat, IntKind.bits, Int.reducePow]; omega) | (simp [CC]; done) | (constructor <;> omega)))
   | with_reducible refine Br.not ?_
   | (with_reducible first | refine Br.tt (by assumption) ?_ | refine Br.ff (by assumption) ?_)
   | (refine Br.mk ?_ ?_ <;> intro hb <;> (try simp only [ZZ] at hb) <;> (first | omega | contradiction | skip))
   | refine Src.whole ⟨rfl, rfl⟩ ?_ | refine FrzV.whole ?_
   | refine CallW.use (hW) ?_
   | refine CallW.use (hI1) ?_
   | refine CallW.use (hF2) ?_) <;> conv => whnf)
  all_goals exact CLe.eq rfl
theorem value_lim2 (ws : List Wd) (hl : ws.length ≤ 1073741824) (d : Int) (hd0 : 0 ≤ d) (hd1 : d ≤ 33) (i : Nat) (hi : i ≤ 1073741824) (n : Int) (hn0 : 0 ≤ n) (hn1 : n ≤ 4096) (a : Int) (hat : ws[i]? = some ⟨1, [91], a⟩) (hlim : 4096 < n + 1 ∨ 32 < d) : AbsCall PP GG F.jread_reader_value [.ptr 0 0, .p (.int .i64 d)] [jrO ws i n] ⟨.pan (wrongP 2 a), [.dead], []⟩ := by
  have hW := reader_word ws i n _ hat hl
  have hF2 := reader_failD ws i (n + 1) 2 _ hat hl
  have hI1 := reader_is ws i n _ hat hl [123]
  have hI2 := reader_is ws i n _ hat hl [91]
  rw [decide_eq_false (by simp)] at hI1
  rw [decide_eq_true ⟨rfl, rfl⟩] at hI2
  refine absCall_of (pol := polG) mixP F.jread_reader_value_is ?_
  conv => whnf
  repeat' ((first
   | ((with_reducible first | refine Br.dec ?_ ?_ | refine Br.ndec ?_ ?_) <;> intro hb <;> (try simp only [ZZ] at hb) <;> (first | omega | contradiction | skip))
   | (with_reducible first | refine Br.tt rfl ?_ | refine Br.ff rfl ?_ | refine Br.ff (isEmptyCons _ _) ?_)
   | (refine Side.mk ?_ ?_; focus (first | omega | (dsimp only [InR, Int.reduceToNat, IntKind.bits, Int.reducePow]; omega) | (simp [CC]; done) | (constructor <;> omega)))
   | with_reducible refine Br.not ?_
   | (with_reducible first | refine Br.tt (by assumption) ?_ | refine Br.ff (by assumption) ?_)
   | (refine Br.mk ?_ ?_ <;> intro hb <;> (try simp only [ZZ] at hb) <;> (first | omega | contradiction | skip))
   | refine Src.whole ⟨rfl, rfl⟩ ?_ | refine FrzV.whole ?_
   | refine CallW.use (hW) ?_
   | refine CallW.use (hI1) ?_
   | refine CallW.use (hI2) ?_
   | refine CallW.use (hF2) ?_) <;> conv => whnf)
  all_goals exact CLe.eq rfl
theorem value_lim3 (ws : List Wd) (hl : ws.length ≤ 1073741824) (d : Int) (hd0 : 0 ≤ d) (hd1 : d ≤ 33) (i : Nat) (hi : i ≤ 1073741824) (n : Int) (hn0 : 0 ≤ n) (hn1 : n ≤ 4096) (a : Int) (k : Int) (s : Str) (hk : k = 2 ∨ k = 3 ∨ k = 4) (hat : ws[i]? = some ⟨k, s, a⟩) (hlim : 4096 < n + 1 ∨ 32 < d) : AbsCall PP GG F.jread_reader_value [.ptr 0 0, .p (.int .i64 d)] [jrO ws i n] ⟨.pan (wrongP 2 a), [.dead], []⟩ := by
  have hW := reader_word ws i n _ hat hl
  have hF2 := reader_failD ws i (n + 1) 2 _ hat hl
  have hk0 : ¬ k = 0 := by omega
  have hk1 : ¬ k = 1 := by omega
  refine absCall_of (pol := polG) mixP F.jread_reader_value_is ?_
  conv => whnf
  repeat' ((first
   | ((with_reducible first | refine Br.dec ?_ ?_ | refine Br.ndec ?_ ?_) <;> intro hb <;> (try simp only [ZZ] at hb) <;> (first | omega | contradiction | skip))
   | (with_reducible first | refine Br.tt rfl ?_ | refine Br.ff rfl ?_ | refine Br.ff (isEmptyCons _ _) ?_)
   | (refine Side.mk ?_ ?_; focus (first | omega | (dsimp only [InR, Int.reduceToNat, IntKind.bits, Int.reducePow]; omega) | (simp [CC]; done) | (constructor <;> omega)))
   | with_reducible refine Br.not ?_
   | (with_reducible first | refine Br.tt (by assumption) ?_ | refine Br.ff (by assumption) ?_)
   | (refine Br.mk ?_ ?_ <;> intro hb <;> (try simp only [ZZ] at hb) <;> (first | omega | contradiction | skip))
   | refine Src.whole ⟨rfl, rfl⟩ ?_ | refine FrzV.whole ?_
   | refine CallW.use (hW) ?_
   | refine CallW.use (hF2) ?_) <;> conv => whnf)
  all_goals exact CLe.eq rfl
theorem value_map (ws : List Wd) (hl : ws.length ≤ 1073741824) (d : Int) (hd0 : 0 ≤ d) (hd1 : d ≤ 33) (i : Nat) (hi : i ≤ 1073741824) (n : Int) (hn0 : 0 ≤ n) (hn1 : n ≤ 4096) (a : Int) (hlim1 : n + 1 ≤ 4096) (hlim2 : d ≤ 32) (hat : ws[i]? = some ⟨1, [123], a⟩) (R : RR) (hP : AbsCall PP GG F.jread_reader_pairs [.ptr 0 0, .p (.int .i64 d)] [jrO ws (i + 1 : Nat) (n + 1)] (resR ws R)) : AbsCall PP GG F.jread_reader_value [.ptr 0 0, .p (.int .i64 d)] [jrO ws i n] (resR ws R) := by
  have hW := reader_word ws i n _ hat hl
  have hI1 := reader_is ws i n _ hat hl [123]
  rw [decide_eq_true ⟨rfl, rfl⟩] at hI1
  rcases R with ⟨e, a⟩ | ⟨⟨x1, x2, x3, x4, x5⟩, j, m⟩
  · refine absCall_of (pol := polG) mixP F.jread_reader_value_is ?_
    conv => whnf
    repeat' ((first
     | ((with_reducible first | refine Br.dec ?_ ?_ | refine Br.ndec ?_ ?_) <;> intro hb <;> (try simp only [ZZ] at hb) <;> (first | omega | contradiction | skip))
     | (with_reducible first | refine Br.tt rfl ?_ | refine Br.ff rfl ?_ | refine Br.ff (isEmptyCons _ _) ?_)
     | (refine Side.mk ?_ ?_; focus (first | omega | (dsimp only [InR, Int.reduceToNat, IntKind.bits, Int.reducePow]; omega) | (simp [CC]; done) | (constructor <;> omega)))
     | with_reducible refine Br.not ?_
     | (with_reducible first | refine Br.tt (by assumption) ?_ | refine Br.ff (by assumption) ?_)
     | (refine Br.mk ?_ ?_ <;> intro hb <;> (try simp only [ZZ] at hb) <;> (first | omega | contradiction | skip))
     | refine Src.whole ⟨rfl, rfl⟩ ?_ | refine FrzV.whole ?_
     | refine CallW.use (hW) ?_
     | refine CallW.use (hI1) ?_
     | refine CallW.use (hP) ?_) <;> conv => whnf)
    all_goals exact CLe.eq rfl
  · refine absCall_of (pol := polG) mixP F.jread_reader_value_is ?_
    conv => whnf
    repeat' ((first
     | ((with_reducible first | refine Br.dec ?_ ?_ | refine Br.ndec ?_ ?_) <;> intro hb <;> (try simp only [ZZ] at hb) <;> (first | omega | contradiction | skip))
     | (with_reducible first | refine Br.tt rfl ?_ | refine Br.ff rfl ?_ | refine Br.ff (isEmptyCons _ _) ?_)
     | (refine Side.mk ?_ ?_; focus (first | omega | (dsimp only [InR, Int.reduceToNat, IntKind.bits, Int.reducePow]; omega) | (simp [CC]; done) | (constructor <;> omega)))
     | with_reducible refine Br.not ?_
     | (with_reducible first | refine Br.tt (by assumption) ?_ | refine Br.ff (by assumption) ?_)
     | (refine Br.mk ?_ ?_ <;> intro hb <;> (try simp only [ZZ] at hb) <;> (first | omega | contradiction | skip))
     | refine Src.whole ⟨rfl, rfl⟩ ?_ | refine FrzV.whole ?_
     | refine CallW.use (hW) ?_
     | refine CallW.use (hI1) ?_
     | refine CallW.use (hP) ?_) <;> conv => whnf)
    all_goals exact CLe.eq rfl
theorem value_list (ws : List Wd) (hl : ws.length ≤ 1073741824) (d : Int) (hd0 : 0 ≤ d) (hd1 : d ≤ 33) (i : Nat) (hi : i ≤ 1073741824) (n : Int) (hn0 : 0 ≤ n) (hn1 : n ≤ 4096) (a : Int) (hlim1 : n + 1 ≤ 4096) (hlim2 : d ≤ 32) (hat : ws[i]? = some ⟨1, [91], a⟩) (R : RR) (hP : AbsCall PP GG F.jread_reader_list [.ptr 0 0, .p (.int .i64 d)] [jrO ws (i + 1 : Nat) (n + 1)] (resR ws R)) : AbsCall PP GG F.jread_reader_value [.ptr 0 0, .p (.int .i64 d)] [jrO ws i n] (resR ws R) := by
  have hW := reader_word ws i n _ hat hl
  have hI1 := reader_is ws i n _ hat hl [123]
  have hI2 := reader_is ws i n _ hat hl [91]
  rw [decide_eq_false (by simp)] at hI1
  rw [decide_eq_true ⟨rfl, rfl⟩] at hI2
  rcases R with ⟨e, a⟩ | ⟨⟨x1, x2, x3, x4, x5⟩, j, m⟩
  · refine absCall_of (pol := polG) mixP F.jread_reader_value_is ?_
    conv => whnf
    repeat' ((first
     | ((with_reducible first | refine Br.dec ?_ ?_ | refine Br.ndec ?_ ?_) <;> intro hb <;> (try simp only [ZZ] at hb) <;> (first | omega | contradiction | skip))
     | (with_reducible first | refine Br.tt rfl ?_ | refine Br.ff rfl ?_ | refine Br.ff (isEmptyCons _ _) ?_)
     | (refine Side.mk ?_ ?_; focus (first | omega | (dsimp only [InR, Int.reduceToNat, IntKind.bits, Int.reducePow]; omega) | (simp [CC]; done) | (constructor <;> omega)))
     | with_reducible refine Br.not ?_
     | (with_reducible first | refine Br.tt (by assumption) ?_ | refine Br.ff (by assumption) ?_)
     | (refine Br.mk ?_ ?_ <;> intro hb <;> (try simp only [ZZ] at hb) <;> (first | omega | contradiction | skip))
     | refine Src.whole ⟨rfl, rfl⟩ ?_ | refine FrzV.whole ?_
     | refine CallW.use (hW) ?_
     | refine CallW.use (hI1) ?_
     | refine CallW.use (hI2) ?_
     | refine CallW.use (hP) ?_) <;> conv => whnf)
    all_goals exact CLe.eq rfl
  · refine absCall_of (pol := polG) mixP F.jread_reader_value_is ?_
    conv => whnf
    repeat' ((first
     | ((with_reducible first | refine Br.dec ?_ ?_ | refine Br.ndec ?_ ?_) <;> intro hb <;> (try simp only [ZZ] at hb) <;> (first | omega | contradiction | skip))
     | (with_reducible first | refine Br.tt rfl ?_ | refine Br.ff rfl ?_ | refine Br.ff (isEmptyCons _ _) ?_)
     | (refine Side.mk ?_ ?_; focus (first | omega | (dsimp only [InR, Int.reduceToNat, IntKind.bits, Int.reducePow]; omega) | (simp [CC]; done) | (constructor <;> omega)))
     | with_reducible refine Br.not ?_
     | (with_reducible first | refine Br.tt (by assumption) ?_ | refine Br.ff (by assumption) ?_)
     | (refine Br.mk ?_ ?_ <;> intro hb <;> (try simp only [ZZ] at hb) <;> (first | omega | contradiction | skip))
     | refine Src.whole ⟨rfl, rfl⟩ ?_ | refine FrzV.whole ?_
     | refine CallW.use (hW) ?_
     | refine CallW.use (hI1) ?_
     | refine CallW.use (hI2) ?_
     | refine CallW.use (hP) ?_) <;> conv => whnf)
    all_goals exact CLe.eq rfl
theorem value_str (ws : List Wd) (hl : ws.length ≤ 1073741824) (d : Int) (hd0 : 0 ≤ d) (hd1 : d ≤ 33) (i : Nat) (hi : i ≤ 1073741824) (n : Int) (hn0 : 0 ≤ n) (hn1 : n ≤ 4096) (a : Int) (hlim1 : n + 1 ≤ 4096) (hlim2 : d ≤ 32) (s : Str) (hat : ws[i]? = some ⟨2, s, a⟩) : AbsCall PP GG F.jread_reader_value [.ptr 0 0, .p (.int .i64 d)] [jrO ws i n] ⟨.ret (.p (Tree.mk 4 0 s [] []).enc), [jrO ws (i + 1 : Nat) (n + 1)], []⟩ := by
  have hW := reader_word ws i n _ hat hl
  refine absCall_of (pol := polG) mixP F.jread_reader_value_is ?_
  conv => whnf
  repeat' ((first
   | ((with_reducible first | refine Br.dec ?_ ?_ | refine Br.ndec ?_ ?_) <;> intro hb <;> (try simp only [ZZ] at hb) <;> (first | omega | contradiction | skip))
   | (with_reducible first | refine Br.tt rfl ?_ | refine Br.ff rfl ?_ | refine Br.ff (isEmptyCons _ _) ?_)
   | (refine Side.mk ?_ ?_; focus (first | omega | (dsimp only [InR, Int.reduceToNat, IntKind.bits, Int.reducePow]; omega) | (simp [CC]; done) | (constructor <;> omega)))
   | with_reducible refine Br.not ?_
   | (with_reducible first | refine Br.tt (by assumption) ?_ | refine Br.ff (by assumption) ?_)
   | (refine Br.mk ?_ ?_ <;> intro hb <;> (try simp only [ZZ] at hb) <;> (first | omega | contradiction | skip))
   | refine Src.whole ⟨rfl, rfl⟩ ?_ | refine FrzV.whole ?_
   | refine CallW.use (hW) ?_) <;> conv => whnf)
  exact CLe.ret (tree_nils 4 0 s)
theorem value_num (ws : List Wd) (hl : ws.length ≤ 1073741824) (d : Int) (hd0 : 0 ≤ d) (hd1 : d ≤ 33) (i : Nat) (hi : i ≤ 1073741824) (n : Int) (hn0 : 0 ≤ n) (hn1 : n ≤ 4096) (a : Int) (hlim1 : n + 1 ≤ 4096) (hlim2 : d ≤ 32) (s : Str) (hs : s.length ≤ 1073741824) (hat : ws[i]? = some ⟨3, s, a⟩) : AbsCall PP GG F.jread_reader_value [.ptr 0 0, .p (.int .i64 d)] [jrO ws i n]
    ⟨.ret (.p (if (refIntL s).2 = true then Tree.mk 2 (refIntL s).1 [] [] [] else Tree.mk 3 0 s [] []).enc), [jrO ws (i + 1 : Nat) (n + 1)], []⟩ := by
  have hW := reader_word ws i n _ hat hl
  have hI := dec_Int s hs
  generalize refIntL s = u at hI ⊢
  obtain ⟨u, b⟩ := u
  dsimp only [] at hI ⊢
  cases b with
  | true =>
    rw [if_pos rfl]
    refine absCall_of (pol := polG) mixP F.jread_reader_value_is ?_
    conv => whnf
    repeat' ((first
     | ((with_reducible first | refine Br.dec ?_ ?_ | refine Br.ndec ?_ ?_) <;> intro hb <;> (try simp only [ZZ] at hb) <;> (first | omega | contradiction | skip))
     | (with_reducible first | refine Br.tt rfl ?_ | refine Br.ff rfl ?_ | refine Br.ff (isEmptyCons _ _) ?_)
     | (refine Side.mk ?_ ?_; focus (first | omega | (dsimp only [InR, Int.reduceToNat, IntKind.bits, Int.reducePow]; omega) | (simp [CC]; done) | (constructor <;> omega)))
     | with_reducible refine Br.not ?_
     | (with_reducible first | refine Br.tt (by assumption) ?_ | refine Br.ff (by assumption) ?_)
     | (refine Br.mk ?_ ?_ <;> intro hb <;> (try simp only [ZZ] at hb) <;> (first | omega | contradiction | skip))
     | refine Src.whole ⟨rfl, rfl⟩ ?_ | refine FrzV.whole ?_
     | refine CallW.use (hW) ?_
     | refine CallW.use (hI) ?_) <;> conv => whnf)
    exact CLe.ret (tree_nils 2 u [])
  | false =>
    rw [if_neg (by decide)]
    refine absCall_of (pol := polG) mixP F.jread_reader_value_is ?_
    conv => whnf
    repeat' ((first
     | ((with_reducible first | refine Br.dec ?_ ?_ | refine Br.ndec ?_ ?_) <;> intro hb <;> (try simp only [ZZ] at hb) <;> (first | omega | contradiction | skip))
     | (with_reducible first | refine Br.tt rfl ?_ | refine Br.ff rfl ?_ | refine Br.ff (isEmptyCons _ _) ?_)
     | (refine Side.mk ?_ ?_; focus (first | omega | (dsimp only [InR, Int.reduceToNat, IntKind.bits, Int.reducePow]; omega) | (simp [CC]; done) | (constructor <;> omega)))
     | with_reducible refine Br.not ?_
     | (with_reducible first | refine Br.tt (by assumption) ?_ | refine Br.ff (by assumption) ?_)
     | (refine Br.mk ?_ ?_ <;> intro hb <;> (try simp only [ZZ] at hb) <;> (first | omega | contradiction | skip))
     | refine Src.whole ⟨rfl, rfl⟩ ?_ | refine FrzV.whole ?_
     | refine CallW.use (hW) ?_
     | refine CallW.use (hI) ?_) <;> conv => whnf)
    exact CLe.ret (tree_nils 3 0 s)
theorem value_true (ws : List Wd) (hl : ws.length ≤ 1073741824) (d : Int) (hd0 : 0 ≤ d) (hd1 : d ≤ 33) (i : Nat) (hi : i ≤ 1073741824) (n : Int) (hn0 : 0 ≤ n) (hn1 : n ≤ 4096) (a : Int) (hlim1 : n + 1 ≤ 4096) (hlim2 : d ≤ 32) (hat : ws[i]? = some ⟨4, [116, 114, 117, 101], a⟩) : AbsCall PP GG F.jread_reader_value [.ptr 0 0, .p (.int .i64 d)] [jrO ws i n] ⟨.ret (.p (Tree.mk 1 1 [] [] []).enc), [jrO ws (i + 1 : Nat) (n + 1)], []⟩ := by
  have hW := reader_word ws i n _ hat hl
  refine absCall_of (pol := polG) mixP F.jread_reader_value_is ?_
  conv => whnf
  repeat' ((first
   | ((with_reducible first | refine Br.dec ?_ ?_ | refine Br.ndec ?_ ?_) <;> intro hb <;> (try simp only [ZZ] at hb) <;> (first | omega | contradiction | skip))
   | (with_reducible first | refine Br.tt rfl ?_ | refine Br.ff rfl ?_ | refine Br.ff (isEmptyCons _ _) ?_)
   | (refine Side.mk ?_ ?_; focus (first | omega | (dsimp only [InR, Int.reduceToNat, IntKind.bits, Int.reducePow]; omega) | (simp [CC]; done) | (constructor <;> omega)))
   | with_reducible refine Br.not ?_
   | (with_reducible first | refine Br.tt (by assumption) ?_ | refine Br.ff (by assumption) ?_)
   | (refine Br.mk ?_ ?_ <;> intro hb <;> (try simp only [ZZ] at hb) <;> (first | omega | contradiction | skip))
   | refine Src.whole ⟨rfl, rfl⟩ ?_ | refine FrzV.whole ?_
   | refine CallW.use (hW) ?_) <;> conv => whnf)
  exact CLe.ret (tree_nils 1 1 [])
theorem value_false (ws : List Wd) (hl : ws.length ≤ 1073741824) (d : Int) (hd0 : 0 ≤ d) (hd1 : d ≤ 33) (i : Nat) (hi : i ≤ 1073741824) (n : Int) (hn0 : 0 ≤ n) (hn1 : n ≤ 4096) (a : Int) (hlim1 : n + 1 ≤ 4096) (hlim2 : d ≤ 32) (hat : ws[i]? = some ⟨4, [102, 97, 108, 115, 101], a⟩) : AbsCall PP GG F.jread_reader_value [.ptr 0 0, .p (.int .i64 d)] [jrO ws i n] ⟨.ret (.p (Tree.mk 1 0 [] [] []).enc), [jrO ws (i + 1 : Nat) (n + 1)], []⟩ := by
  have hW := reader_word ws i n _ hat hl
  refine absCall_of (pol := polG) mixP F.jread_reader_value_is ?_
  conv => whnf
  repeat' ((first
   | ((with_reducible first | refine Br.dec ?_ ?_ | refine Br.ndec ?_ ?_) <;> intro hb <;> (try simp only [ZZ] at hb) <;> (first | omega | contradiction | skip))
   | (with_reducible first | refine Br.tt rfl ?_ | refine Br.ff rfl ?_ | refine Br.ff (isEmptyCons _ _) ?_)
   | (refine Side.mk ?_ ?_; focus (first | omega | (dsimp only [InR, Int.reduceToNat, IntKind.bits, Int.reducePow]; omega) | (simp [CC]; done) | (constructor <;> omega)))
   | with_reducible refine Br.not ?_
   | (with_reducible first | refine Br.tt (by assumption) ?_ | refine Br.ff (by assumption) ?_)
   | (refine Br.mk ?_ ?_ <;> intro hb <;> (try simp only [ZZ] at hb) <;> (first | omega | contradiction | skip))
   | refine Src.whole ⟨rfl, rfl⟩ ?_ | refine FrzV.whole ?_
   | refine CallW.use (hW) ?_) <;> conv => whnf)
  exact CLe.ret (tree_nils 1 0 [])
theorem value_null (ws : List Wd) (hl : ws.length ≤ 1073741824) (d : Int) (hd0 : 0 ≤ d) (hd1 : d ≤ 33) (i : Nat) (hi : i ≤ 1073741824) (n : Int) (hn0 : 0 ≤ n) (hn1 : n ≤ 4096) (a : Int) (hlim1 : n + 1 ≤ 4096) (hlim2 : d ≤ 32) (hat : ws[i]? = some ⟨4, [110, 117, 108, 108], a⟩) : AbsCall PP GG F.jread_reader_value [.ptr 0 0, .p (.int .i64 d)] [jrO ws i n] ⟨.ret (.p (Tree.mk 0 0 [] [] []).enc), [jrO ws (i + 1 : Nat) (n + 1)], []⟩ := by
  have hW := reader_word ws i n _ hat hl
  refine absCall_of (pol := polG) mixP F.jread_reader_value_is ?_
  conv => whnf
  repeat' ((first
   | ((with_reducible first | refine Br.dec ?_ ?_ | refine Br.ndec ?_ ?_) <;> intro hb <;> (try simp only [ZZ] at hb) <;> (first | omega | contradiction | skip))
   | (with_reducible first | refine Br.tt rfl ?_ | refine Br.ff rfl ?_ | refine Br.ff (isEmptyCons _ _) ?_)
   | (refine Side.mk ?_ ?_; focus (first | omega | (dsimp only [InR, Int.reduceToNat, IntKind.bits, Int.reducePow]; omega) | (simp [CC]; done) | (constructor <;> omega)))
   | with_reducible refine Br.not ?_
   | (with_reducible first | refine Br.tt (by assumption) ?_ | refine Br.ff (by assumption) ?_)
   | (refine Br.mk ?_ ?_ <;> intro hb <;> (try simp only [ZZ] at hb) <;> (first | omega | contradiction | skip))
   | refine Src.whole ⟨rfl, rfl⟩ ?_ | refine FrzV.whole ?_
   | refine CallW.use (hW) ?_) <;> conv => whnf)
  exact CLe.ret (tree_nils 0 0 [])
theorem reader_value_step (ws : List Wd) (hw : WsOk ws) (q : Nat) (hL : ListAt ws q) (hP : PairsAt ws q) : ValAt ws (q + 1) := by
  intro d i n hi hq h0 h1 h2 h3
  obtain ⟨hat, hmem⟩ := hw.at hi
  have hlen := hw.len
  have htx := hw.text _ hmem
  have hend := hw.end_ i hi
  have hL := fun h => hL d (i + 1) (n + 1) h (by omega) h0
  have hP := fun h => hP d (i + 1) (n + 1) h (by omega) h0
  rw [valR]
  generalize hwd : wdAt ws i = w at *
  obtain ⟨k, s, a⟩ := w
  have hl : ws.length ≤ 1073741824 := by omega
  have hi' : i ≤ 1073741824 := by omega
  by_cases hbad : k = 0 ∨ (k = 1 ∧ ¬ s = [123] ∧ ¬ s = [91])
  · rw [if_pos hbad]
    rcases hbad with hk | ⟨hk, ha, hb⟩
    · subst hk
      exact value_end ws hl d h0 h1 i hi' n h2 h3 a s hat
    · subst hk
      exact value_sign ws hl d h0 h1 i hi' n h2 h3 a s ha hb hat
  rw [if_neg hbad]
  have hk0 : ¬ k = 0 := fun e => hbad (.inl e)
  have htx' : 0 ≤ k ∧ k ≤ 4 := ⟨htx.2.1, htx.2.2.1⟩
  have hkind : (k = 1 ∧ s = [123]) ∨ (k = 1 ∧ s = [91]) ∨ k = 2 ∨ k = 3 ∨ k = 4 := by
    by_cases g1 : k = 1
    · by_cases g2 : s = [123]
      · exact .inl ⟨g1, g2⟩
      · by_cases g3 : s = [91]
        · exact .inr (.inl ⟨g1, g3⟩)
        · exact absurd (.inr ⟨g1, g2, g3⟩) hbad
    · omega
  clear hbad
  have hi1 := hend hk0
  by_cases hlim : 4096 < n + 1 ∨ 32 < d
  · rw [if_pos hlim]
    rcases hkind with ⟨hk, hs⟩ | ⟨hk, hs⟩ | hk
    · subst hk; subst hs
      exact value_lim1 ws hl d h0 h1 i hi' n h2 h3 a hat hlim
    · subst hk; subst hs
      exact value_lim2 ws hl d h0 h1 i hi' n h2 h3 a hat hlim
    · exact value_lim3 ws hl d h0 h1 i hi' n h2 h3 a k s hk hat hlim
  rw [if_neg hlim]
  have hlim1 : n + 1 ≤ 4096 := by omega
  have hlim2 : d ≤ 32 := by omega
  have hL := hL hi1 (by omega) (by omega) (by omega)
  have hP := hP hi1 (by omega) (by omega) (by omega)
  rcases hkind with ⟨hk, hs⟩ | ⟨hk, hs⟩ | hk | hk | hk
  · subst hk; subst hs
    rw [show isS ⟨1, [123], a⟩ [91] = false from rfl, show isS ⟨1, [123], a⟩ [123] = true from rfl, if_neg (by decide), if_pos rfl]
    exact value_map ws hl d h0 h1 i hi' n h2 h3 a hlim1 hlim2 hat _ hP
  · subst hk; subst hs
    rw [show isS ⟨1, [91], a⟩ [91] = true from rfl, if_pos rfl]
    exact value_list ws hl d h0 h1 i hi' n h2 h3 a hlim1 hlim2 hat _ hL
  all_goals
    subst hk
    rw [isS_no (w := ⟨_, s, a⟩) [91] (by simp), isS_no (w := ⟨_, s, a⟩) [123] (by simp), if_neg (by decide), if_neg (by decide)]
  · exact value_str ws hl d h0 h1 i hi' n h2 h3 a hlim1 hlim2 s hat
  · have := value_num ws hl d h0 h1 i hi' n h2 h3 a hlim1 hlim2 s (by have := htx.1; simp only [] at this; omega) hat
    exact this
  · rcases htx.2.2.2 rfl with hs | hs | hs
    · simp only [] at hs; subst hs; exact value_true ws hl d h0 h1 i hi' n h2 h3 a hlim1 hlim2 hat
    · simp only [] at hs; subst hs; exact value_false ws hl d h0 h1 i hi' n h2 h3 a hlim1 hlim2 hat
    · simp only [] at hs; subst hs; exact value_null ws hl d h0 h1 i hi' n h2 h3 a hlim1 hlim2 hat
theorem take_yes {ws : List Wd} {j : Nat} {n : Int} {s : Str} (hat : ws[j]? = some (wdAt ws j)) (hl : ws.length ≤ 1073741824) (h : isS (wdAt ws j) s = true) :
    AbsCall PP GG F.jread_reader_take [.ptr 0 0, .p (.str s)] [jrO ws j n] ⟨.ret (.p (.bool true)), [jrO ws (j + 1 : Nat) n], []⟩ := by
  have := reader_take ws j n (wdAt ws j) hat hl s
  rw [if_pos (isS_k h), decide_eq_true (isS_k h)] at this
  exact this
theorem take_no {ws : List Wd} {j : Nat} {n : Int} {s : Str} (hat : ws[j]? = some (wdAt ws j)) (hl : ws.length ≤ 1073741824) (h : isS (wdAt ws j) s = false) :
    AbsCall PP GG F.jread_reader_take [.ptr 0 0, .p (.str s)] [jrO ws j n] ⟨.ret (.p (.bool false)), [jrO ws j n], []⟩ := by
  have := reader_take ws j n (wdAt ws j) hat hl s
  have hn := of_decide_eq_false h
  rw [if_neg hn, decide_eq_false hn] at this
  exact this
theorem want_yes {ws : List Wd} {j : Nat} {n : Int} {s : Str} (hat : ws[j]? = some (wdAt ws j)) (hl : ws.length ≤ 1073741824) (h : isS (wdAt ws j) s = true) :
    AbsCall PP GG F.jread_reader_want [.ptr 0 0, .p (.str s)] [jrO ws j n] ⟨.ret (.tup []), [jrO ws (j + 1 : Nat) n], []⟩ := reader_want_ok ws j n (wdAt ws j) hat hl s (isS_k h)
theorem want_no {ws : List Wd} {j : Nat} {n : Int} {s : Str} (hat : ws[j]? = some (wdAt ws j)) (hl : ws.length ≤ 1073741824) (h : isS (wdAt ws j) s = false) :
    AbsCall PP GG F.jread_reader_want [.ptr 0 0, .p (.str s)] [jrO ws j n] ⟨.pan (wrongP 4 (wdAt ws j).a), [.dead], []⟩ := reader_wantD ws j n (wdAt ws j) hat hl s (of_decide_eq_false h)
theorem tree_side (x : Tree) : ∀ y : PV, y ∈ [x.enc] → y.cells.length = 5 ∧ ∀ c : PV, c ∈ y.cells → c.leaf = true := by
  intro y hy
  rw [List.mem_singleton.1 hy]
  exact ⟨Tree.enc_cells x, Tree.enc_leaf x⟩
theorem tree_side1 (x : Tree) : ∀ y : PV, y ∈ [x.enc] → y.cells.length = 5 := fun y hy => (tree_side x y hy).1
def zO : HO := .var T.api_Value (.p (.agg [.int .i64 0, .int .i64 0, .str [], .nils, .nils]))
def lsV (m : Nat) : V := .agg [.p (.int .i64 5), .p (.int .i64 0), .p (.str []), .sl 3 0 m, .p .nils]
theorem lsV_frz (l : List Tree) : V.frz 3 (Tree.encL l) (lsV (Tree.encL l).length) = .p (.agg [.int .i64 5, .int .i64 0, .str [], .lst false (Tree.encL l), .nils]) := by
  simp [lsV, V.frz, V.frzL, V.mk, allP, PV.leaf]
def lsV1 : V := .agg [.p (.int .i64 5), .p (.int .i64 0), .p (.str []), .sl 4 0 1, .p .nils]
theorem lsV1_frz (x : Tree) : V.frz 4 [x.enc] lsV1 = .p (.agg [.int .i64 5, .int .i64 0, .str [], .lst false [x.enc], .nils]) := by
  simp [lsV1, V.frz, V.frzL, V.mk, allP, PV.leaf]
theorem tree_ls (l : List Tree) : VLe (.p (.agg [.int .i64 5, .int .i64 0, .str [], .lst false (Tree.encL l), .nils])) (.p (Tree.mk 5 0 [] l []).enc) :=
  (PLe.agg (show LeL [.int .i64 5, .int .i64 0, .str [], .lst false (Tree.encL l), .nils] [.int .i64 5, .int .i64 0, .str [], .lst false (Tree.encL l), .lst false []] from ⟨PLe.refl _, PLe.refl _, PLe.refl _, PLe.refl _, PLe.nils false, trivial⟩)).p
theorem items_loop (ws : List Wd) (hw : WsOk ws) (Q : Nat) (hv : ∀ q, q < Q → ValAt ws q) (d : Int) (hd0 : 0 ≤ d) (hd : d ≤ 32) (R : RR) (K : Post)
    (h0 : ∀ (l : List Tree) (j : Nat) (m : Int), R = .ok (.mk 5 0 [] l [], j, m) → ∀ es : List PV, K .ret [(4, .ptr 1 0)] [jrO ws j m, .var T.api_Value (lsV (Tree.encL l).length), .var T.api_Value (lsV (Tree.encL l).length), .arr T.api_Value 5 (Tree.encL l), .arr T.api_Value 5 es] [])
    (hp : ∀ e a : Int, R = .error (e, a) → ∀ H : Heap, K (.pan (wrongP e a)) [] (.dead :: H) []) :
    ∀ (q : Nat) (i : Nat) (n : Int) (acc : List Tree), q ≤ Q → i < ws.length → 3 * (ws.length - i) + 2 ≤ q → 0 ≤ n → n ≤ 4096 → acc ≠ [] → acc.length ≤ n → itemsR q ws d i n acc = R →
      LoopW PP GG 24 1 (loopN F.jread_reader_list_c 0) [(0, .ptr 0 0), (1, .p (.int .i64 d)), (4, .ptr 1 0), (5, .ptr 2 0)] [jrO ws i n, zO, .var T.api_Value (lsV (Tree.encL acc).length), .arr T.api_Value 5 (Tree.encL acc)] [] (PostCl 24 K) := by
  intro q
  induction q with
  | zero => intro i n acc hq hi hf; omega
  | succ q ih =>
    intro i n acc hq hi hf hn0 hn1 hne hacc hR
    have hml : (Tree.encL acc).length = acc.length := Tree.encL_length acc
    have hV := hv q (by omega) (d + 1) i n hi (by omega) (by omega) (by omega) hn0 hn1
    have hok := (okR_all hw q).1 (d + 1) i n hi
    have hws := hw.len
    have hl : ws.length ≤ 1073741824 := by omega
    rw [itemsR] at hR
    cases hr : valR q ws (d + 1) i n with
    | error e =>
      rw [hr] at hV hR
      obtain ⟨e, a⟩ := e
      refine LoopW.round (pol := polG) mixP ?_
      conv => whnf
      repeat' ((first
       | ((with_reducible first | refine Br.dec ?_ ?_ | refine Br.ndec ?_ ?_) <;> intro hb <;> (try simp only [ZZ] at hb) <;> (first | omega | contradiction | skip))
       | (with_reducible first | refine Br.tt rfl ?_ | refine Br.ff rfl ?_ | refine Br.ff (isEmptyCons _ _) ?_)
       | (refine Side.mk ?_ ?_; focus (first | omega | (dsimp only [InR, Int.reduceToNat, IntKind.bits, Int.reducePow]; omega) | (simp [CC]; done) | (constructor <;> omega)))
       | with_reducible refine Br.not ?_
       | (with_reducible first | refine Br.tt (by assumption) ?_ | refine Br.ff (by assumption) ?_)
       | (refine Br.mk ?_ ?_ <;> intro hb <;> (try simp only [ZZ] at hb) <;> (first | omega | contradiction | skip))
       | refine Src.whole ⟨rfl, rfl⟩ ?_ | refine FrzV.whole ?_
       | refine CallW.use (hV) ?_) <;> conv => whnf)
      · refine PostCl.of (hp e a hR.symm _) ?_ ?_
        · repeat first | exact trivial | refine ⟨VLe.refl _, ?_⟩
        · repeat first | exact trivial | refine ⟨by decide, ?_⟩
    | ok x =>
      obtain ⟨x, j, m⟩ := x
      rw [hr] at hV hR hok
      obtain ⟨g1, g2, g3, g4⟩ := hok
      have hat := (hw.at g2).1
      have hend := hw.end_ j g2
      dsimp only [] at hR
      cases h93 : isS (wdAt ws j) [93] with
      | true =>
        rw [if_pos h93] at hR
        have hT := take_yes (n := m) hat hl h93
        refine LoopW.round (pol := polG) mixP ?_
        conv => whnf
        repeat' ((first
         | ((with_reducible first | refine Br.dec ?_ ?_ | refine Br.ndec ?_ ?_) <;> intro hb <;> (try simp only [And.intro @hml (ZZ)] at hb) <;> (first | omega | contradiction | skip))
         | (with_reducible first | refine Br.tt rfl ?_ | refine Br.ff rfl ?_ | refine Br.ff (isEmptyCons _ _) ?_)
         | (refine Side.mk ?_ ?_; focus (first | omega | (dsimp only [InR, Int.reduceToNat, IntKind.bits, Int.reducePow]; omega) | exact tree_side _ | exact ⟨tree_side1 _, rfl, by show (_ + 1) * 160 ≤ _; omega⟩ | (simp [CC]; done) | (constructor <;> omega)))
         | with_reducible refine Br.not ?_
         | (with_reducible first | refine Br.tt (by assumption) ?_ | refine Br.ff (by assumption) ?_)
         | (refine Br.mk ?_ ?_ <;> intro hb <;> (try simp only [And.intro @hml (ZZ)] at hb) <;> (first | omega | contradiction | skip))
         | refine Src.whole ⟨rfl, rfl⟩ ?_ | refine FrzV.whole ?_
         | refine CallW.use (hV) ?_
         | refine CallW.use (hT) ?_) <;> conv => whnf)
        rw [show Tree.encL acc ++ [x.enc] = Tree.encL (acc ++ [x]) by simp [Tree.encL_eq]]
        · refine PostCl.of (h0 _ (j + 1) m hR.symm _) ?_ ?_
          · repeat first | exact trivial | refine ⟨VLe.refl _, ?_⟩
          · repeat first | exact trivial | refine ⟨by decide, ?_⟩
      | false =>
        rw [if_neg (by rw [h93]; decide)] at hR
        have hT := take_no (n := m) hat hl h93
        cases h44 : isS (wdAt ws j) [44] with
        | true =>
          rw [if_pos h44] at hR
          have hW := want_yes (n := m) hat hl h44
          refine LoopW.round (pol := polG) mixP ?_
          conv => whnf
          repeat' ((first
           | ((with_reducible first | refine Br.dec ?_ ?_ | refine Br.ndec ?_ ?_) <;> intro hb <;> (try simp only [And.intro @hml (ZZ)] at hb) <;> (first | omega | contradiction | skip))
           | (with_reducible first | refine Br.tt rfl ?_ | refine Br.ff rfl ?_ | refine Br.ff (isEmptyCons _ _) ?_)
           | (refine Side.mk ?_ ?_; focus (first | omega | (dsimp only [InR, Int.reduceToNat, IntKind.bits, Int.reducePow]; omega) | exact tree_side _ | exact ⟨tree_side1 _, rfl, by show (_ + 1) * 160 ≤ _; omega⟩ | (simp [CC]; done) | (constructor <;> omega)))
           | with_reducible refine Br.not ?_
           | (with_reducible first | refine Br.tt (by assumption) ?_ | refine Br.ff (by assumption) ?_)
           | (refine Br.mk ?_ ?_ <;> intro hb <;> (try simp only [And.intro @hml (ZZ)] at hb) <;> (first | omega | contradiction | skip))
           | refine Src.whole ⟨rfl, rfl⟩ ?_ | refine FrzV.whole ?_
           | refine CallW.use (hV) ?_
           | refine CallW.use (hT) ?_
           | refine CallW.use (hW) ?_) <;> conv => whnf)
          rw [show Tree.encL acc ++ [x.enc] = Tree.encL (acc ++ [x]) by simp [Tree.encL_eq]]
          refine LoopW.ren [0, 1, 2, 3] (ih (j + 1) m (acc ++ [x]) (by omega) (hend (by rw [(isS_k h44).1]; decide)) (by omega) (by omega) g4 (by simp) (by rw [List.length_append, List.length_singleton]; omega) hR) (by repeat first | exact trivial | refine ⟨⟨rfl, VLe.refl _⟩, ?_⟩) (by repeat first | exact trivial | refine ⟨by decide, ?_⟩) rfl rfl
        | false =>
          rw [if_neg (by rw [h44]; decide)] at hR
          have hW := want_no (n := m) hat hl h44
          refine LoopW.round (pol := polG) mixP ?_
          conv => whnf
          repeat' ((first
           | ((with_reducible first | refine Br.dec ?_ ?_ | refine Br.ndec ?_ ?_) <;> intro hb <;> (try simp only [And.intro @hml (ZZ)] at hb) <;> (first | omega | contradiction | skip))
           | (with_reducible first | refine Br.tt rfl ?_ | refine Br.ff rfl ?_ | refine Br.ff (isEmptyCons _ _) ?_)
           | (refine Side.mk ?_ ?_; focus (first | omega | (dsimp only [InR, Int.reduceToNat, IntKind.bits, Int.reducePow]; omega) | exact tree_side _ | exact ⟨tree_side1 _, rfl, by show (_ + 1) * 160 ≤ _; omega⟩ | (simp [CC]; done) | (constructor <;> omega)))
           | with_reducible refine Br.not ?_
           | (with_reducible first | refine Br.tt (by assumption) ?_ | refine Br.ff (by assumption) ?_)
           | (refine Br.mk ?_ ?_ <;> intro hb <;> (try simp only [And.intro @hml (ZZ)] at hb) <;> (first | omega | contradiction | skip))
           | refine Src.whole ⟨rfl, rfl⟩ ?_ | refine FrzV.whole ?_
           | refine CallW.use (hV) ?_
           | refine CallW.use (hT) ?_
           | refine CallW.use (hW) ?_) <;> conv => whnf)
          · refine PostCl.of (hp _ _ hR.symm _) ?_ ?_
            · repeat first | exact trivial | refine ⟨VLe.refl _, ?_⟩
            · repeat first | exact trivial | refine ⟨by decide, ?_⟩
theorem items_first (ws : List Wd) (hw : WsOk ws) (Q : Nat) (hv : ∀ q, q < Q → ValAt ws q) (d : Int) (hd0 : 0 ≤ d) (hd : d ≤ 32) (R : RR) (K : Post)
    (h0 : ∀ (l : List Tree) (j : Nat) (m : Int), R = .ok (.mk 5 0 [] l [], j, m) → ∀ es : List PV, K .ret [(4, .ptr 1 0)] [jrO ws j m, .var T.api_Value (lsV (Tree.encL l).length), .var T.api_Value (lsV (Tree.encL l).length), .arr T.api_Value 5 (Tree.encL l), .arr T.api_Value 5 es] [])
    (h1 : ∀ (x : Tree) (j : Nat) (m : Int), R = .ok (.mk 5 0 [] [x] [], j, m) → ∀ es : List PV, K .ret [(4, .ptr 1 0)] [jrO ws j m, .var T.api_Value lsV1, .var T.api_Value lsV1, .arr T.api_Value 5 es, .arr T.api_Value 5 [x.enc]] [])
    (hp : ∀ e a : Int, R = .error (e, a) → ∀ H : Heap, K (.pan (wrongP e a)) [] (.dead :: H) [])
    (q : Nat) (i : Nat) (n : Int) (hq : q + 1 ≤ Q) (hi : i < ws.length) (hf : 3 * (ws.length - i) + 2 ≤ q + 1) (hn0 : 0 ≤ n) (hn1 : n ≤ 4096) (hR : itemsR (q + 1) ws d i n [] = R) :
      LoopW PP GG 24 1 (loopN F.jread_reader_list_c 0) [(0, .ptr 0 0), (1, .p (.int .i64 d)), (4, .ptr 1 0), (5, .ptr 2 0)] [jrO ws i n, zO, .var T.api_Value (.p (.agg [.int .i64 5, .int .i64 0, .str [], .nils, .nils]))] [] (PostCl 24 K) := by
  have ih := items_loop ws hw Q hv d hd0 hd R K h0 hp q
  have hV := hv q (by omega) (d + 1) i n hi (by omega) (by omega) (by omega) hn0 hn1
  have hok := (okR_all hw q).1 (d + 1) i n hi
  have hws := hw.len
  have hl : ws.length ≤ 1073741824 := by omega
  rw [itemsR] at hR
  cases hr : valR q ws (d + 1) i n with
  | error e =>
    rw [hr] at hV hR
    obtain ⟨e, a⟩ := e
    refine LoopW.round (pol := polG) mixP ?_
    conv => whnf
    repeat' ((first
     | ((with_reducible first | refine Br.dec ?_ ?_ | refine Br.ndec ?_ ?_) <;> intro hb <;> (try simp only [ZZ] at hb) <;> (first | omega | contradiction | skip))
     | (with_reducible first | refine Br.tt rfl ?_ | refine Br.ff rfl ?_ | refine Br.ff (isEmptyCons _ _) ?_)
     | (refine Side.mk ?_ ?_; focus (first | omega | (dsimp only [InR, Int.reduceToNat, IntKind.bits, Int.reducePow]; omega) | (simp [CC]; done) | (constructor <;> omega)))
     | with_reducible refine Br.not ?_
     | (with_reducible first | refine Br.tt (by assumption) ?_ | refine Br.ff (by assumption) ?_)
     | (refine Br.mk ?_ ?_ <;> intro hb <;> (try simp only [ZZ] at hb) <;> (first | omega | contradiction | skip))
     | refine Src.whole ⟨rfl, rfl⟩ ?_ | refine FrzV.whole ?_
     | refine CallW.use (hV) ?_) <;> conv => whnf)
    · refine PostCl.of (hp e a hR.symm _) ?_ ?_
      · repeat first | exact trivial | refine ⟨VLe.refl _, ?_⟩
      · repeat first | exact trivial | refine ⟨by decide, ?_⟩
  | ok x =>
    obtain ⟨x, j, m⟩ := x
    rw [hr] at hV hR hok
    obtain ⟨g1, g2, g3, g4⟩ := hok
    have hat := (hw.at g2).1
    have hend := hw.end_ j g2
    dsimp only [] at hR
    cases h93 : isS (wdAt ws j) [93] with
    | true =>
      rw [if_pos h93] at hR
      have hT := take_yes (n := m) hat hl h93
      refine LoopW.round (pol := polG) mixP ?_
      conv => whnf
      repeat' ((first
       | ((with_reducible first | refine Br.dec ?_ ?_ | refine Br.ndec ?_ ?_) <;> intro hb <;> (try simp only [ZZ] at hb) <;> (first | omega | contradiction | skip))
       | (with_reducible first | refine Br.tt rfl ?_ | refine Br.ff rfl ?_ | refine Br.ff (isEmptyCons _ _) ?_)
       | (refine Side.mk ?_ ?_; focus (first | omega | (dsimp only [InR, Int.reduceToNat, IntKind.bits, Int.reducePow]; omega) | exact tree_side _ | exact ⟨tree_side1 _, by show 1 * 160 ≤ _; omega⟩ | (simp [CC]; done) | (constructor <;> omega)))
       | with_reducible refine Br.not ?_
       | (with_reducible first | refine Br.tt (by assumption) ?_ | refine Br.ff (by assumption) ?_)
       | (refine Br.mk ?_ ?_ <;> intro hb <;> (try simp only [ZZ] at hb) <;> (first | omega | contradiction | skip))
       | refine Src.whole ⟨rfl, rfl⟩ ?_ | refine FrzV.whole ?_
       | refine CallW.use (hV) ?_
       | refine CallW.use (hT) ?_) <;> conv => whnf)
      · refine PostCl.of (h1 _ (j + 1) m hR.symm _) ?_ ?_
        · repeat first | exact trivial | refine ⟨VLe.refl _, ?_⟩
        · repeat first | exact trivial | refine ⟨by decide, ?_⟩
    | false =>
      rw [if_neg (by rw [h93]; decide)] at hR
      have hT := take_no (n := m) hat hl h93
      cases h44 : isS (wdAt ws j) [44] with
      | true =>
        rw [if_pos h44] at hR
        have hW := want_yes (n := m) hat hl h44
        refine LoopW.round (pol := polG) mixP ?_
        conv => whnf
        repeat' ((first
         | ((with_reducible first | refine Br.dec ?_ ?_ | refine Br.ndec ?_ ?_) <;> intro hb <;> (try simp only [ZZ] at hb) <;> (first | omega | contradiction | skip))
         | (with_reducible first | refine Br.tt rfl ?_ | refine Br.ff rfl ?_ | refine Br.ff (isEmptyCons _ _) ?_)
         | (refine Side.mk ?_ ?_; focus (first | omega | (dsimp only [InR, Int.reduceToNat, IntKind.bits, Int.reducePow]; omega) | exact tree_side _ | exact ⟨tree_side1 _, by show 1 * 160 ≤ _; omega⟩ | (simp [CC]; done) | (constructor <;> omega)))
         | with_reducible refine Br.not ?_
         | (with_reducible first | refine Br.tt (by assumption) ?_ | refine Br.ff (by assumption) ?_)
         | (refine Br.mk ?_ ?_ <;> intro hb <;> (try simp only [ZZ] at hb) <;> (first | omega | contradiction | skip))
         | refine Src.whole ⟨rfl, rfl⟩ ?_ | refine FrzV.whole ?_
         | refine CallW.use (hV) ?_
         | refine CallW.use (hT) ?_
         | refine CallW.use (hW) ?_) <;> conv => whnf)
        refine LoopW.ren [0, 1, 2, 4] (ih (j + 1) m [x] (by omega) (hend (by rw [(isS_k h44).1]; decide)) (by omega) (by omega) g4 (by simp) (by rw [List.length_singleton]; omega) hR) (by repeat first | exact trivial | refine ⟨⟨rfl, VLe.refl _⟩, ?_⟩) (by repeat first | exact trivial | refine ⟨by decide, ?_⟩) rfl rfl
      | false =>
        rw [if_neg (by rw [h44]; decide)] at hR
        have hW := want_no (n := m) hat hl h44
        refine LoopW.round (pol := polG) mixP ?_
        conv => whnf
        repeat' ((first
         | ((with_reducible first | refine Br.dec ?_ ?_ | refine Br.ndec ?_ ?_) <;> intro hb <;> (try simp only [ZZ] at hb) <;> (first | omega | contradiction | skip))
         | (with_reducible first | refine Br.tt rfl ?_ | refine Br.ff rfl ?_ | refine Br.ff (isEmptyCons _ _) ?_)
         | (refine Side.mk ?_ ?_; focus (first | omega | (dsimp only [InR, Int.reduceToNat, IntKind.bits, Int.reducePow]; omega) | exact tree_side _ | exact ⟨tree_side1 _, by show 1 * 160 ≤ _; omega⟩ | (simp [CC]; done) | (constructor <;> omega)))
         | with_reducible refine Br.not ?_
         | (with_reducible first | refine Br.tt (by assumption) ?_ | refine Br.ff (by assumption) ?_)
         | (refine Br.mk ?_ ?_ <;> intro hb <;> (try simp only [ZZ] at hb) <;> (first | omega | contradiction | skip))
         | refine Src.whole ⟨rfl, rfl⟩ ?_ | refine FrzV.whole ?_
         | refine CallW.use (hV) ?_
         | refine CallW.use (hT) ?_
         | refine CallW.use (hW) ?_) <;> conv => whnf)
        · refine PostCl.of (hp _ _ hR.symm _) ?_ ?_
          · repeat first | exact trivial | refine ⟨VLe.refl _, ?_⟩
          · repeat first | exact trivial | refine ⟨by decide, ?_⟩
theorem reader_list_step (ws : List Wd) (hw : WsOk ws) (q : Nat) (hv : ∀ p, p < q + 1 → ValAt ws p) : ListAt ws (q + 1) := by
  intro d i n hi hq h0 h1 h2 h3
  have hat := (hw.at hi).1
  have hws := hw.len
  have hl : ws.length ≤ 1073741824 := by omega
  have hend := hw.end_ i hi
  rw [listR]
  cases h93 : isS (wdAt ws i) [93] with
  | true =>
    rw [if_pos rfl]
    have hT := take_yes (n := n) hat hl h93
    refine absCall_of (pol := polG) mixP F.jread_reader_list_is ?_
    conv => whnf
    repeat' ((first
     | ((with_reducible first | refine Br.dec ?_ ?_ | refine Br.ndec ?_ ?_) <;> intro hb <;> (try simp only [ZZ] at hb) <;> (first | omega | contradiction | skip))
     | (with_reducible first | refine Br.tt rfl ?_ | refine Br.ff rfl ?_ | refine Br.ff (isEmptyCons _ _) ?_)
     | (refine Side.mk ?_ ?_; focus (first | omega | (dsimp only [InR, Int.reduceToNat, IntKind.bits, Int.reducePow]; omega) | (simp [CC]; done) | (constructor <;> omega)))
     | with_reducible refine Br.not ?_
     | (with_reducible first | refine Br.tt (by assumption) ?_ | refine Br.ff (by assumption) ?_)
     | (refine Br.mk ?_ ?_ <;> intro hb <;> (try simp only [ZZ] at hb) <;> (first | omega | contradiction | skip))
     | refine Src.whole ⟨rfl, rfl⟩ ?_ | refine FrzV.whole ?_
     | refine CallW.use (hT) ?_) <;> conv => whnf)
    exact CLe.ret (tree_nils 5 0 [])
  | false =>
    rw [if_neg (by decide)]
    have hT := take_no (n := n) hat hl h93
    obtain ⟨p, rfl⟩ : ∃ p, q = p + 1 := ⟨q - 1, by omega⟩
    have hlp := items_first ws hw (p + 1) (fun r hr => hv r (by omega)) d h0 h1 (itemsR (p + 1) ws d i n [])
    have hok := (okR_all hw (p + 1)).2.2.1 d i n [] hi h3
    generalize hR : itemsR (p + 1) ws d i n [] = R at *
    refine absCall_of (pol := polG) mixP F.jread_reader_list_is ?_
    conv => whnf
    repeat' ((first
     | ((with_reducible first | refine Br.dec ?_ ?_ | refine Br.ndec ?_ ?_) <;> intro hb <;> (try simp only [ZZ] at hb) <;> (first | omega | contradiction | skip))
     | (with_reducible first | refine Br.tt rfl ?_ | refine Br.ff rfl ?_ | refine Br.ff (isEmptyCons _ _) ?_)
     | (refine Side.mk ?_ ?_; focus (first | omega | (dsimp only [InR, Int.reduceToNat, IntKind.bits, Int.reducePow]; omega) | (simp [CC]; done) | (constructor <;> omega)))
     | with_reducible refine Br.not ?_
     | (with_reducible first | refine Br.tt (by assumption) ?_ | refine Br.ff (by assumption) ?_)
     | (refine Br.mk ?_ ?_ <;> intro hb <;> (try simp only [ZZ] at hb) <;> (first | omega | contradiction | skip))
     | refine Src.whole ⟨rfl, rfl⟩ ?_ | refine FrzV.whole ?_
     | refine CallW.use (hT) ?_) <;> conv => whnf)
    refine LoopW.cl ?_
    refine LoopW.ren [0, 1, 2] (hlp _ (fun l j m h es => ?_) (fun x j m h es => ?_) (fun e a h H => ?_) p i n (Nat.le_refl _) hi (by omega) h2 h3 hR) (by repeat first | exact trivial | refine ⟨⟨rfl, VLe.refl _⟩, ?_⟩) (by repeat first | exact trivial | refine ⟨by decide, ?_⟩) rfl rfl
    all_goals conv => whnf
    · subst h
      refine FrzV.mk (.p (.agg [.int .i64 5, .int .i64 0, .str [], .lst false (Tree.encL l), .nils])) (lsV_frz l) ?_
      conv => whnf
      refine FrzO.mk (.var T.api_Value (.p (.agg [.int .i64 5, .int .i64 0, .str [], .lst false (Tree.encL l), .nils]))) (congrArg (HO.var T.api_Value) (lsV_frz l)) ?_
      conv => whnf
      refine FrzO.mk (.var T.api_Value (.p (.agg [.int .i64 5, .int .i64 0, .str [], .lst false (Tree.encL l), .nils]))) (congrArg (HO.var T.api_Value) (lsV_frz l)) ?_
      conv => whnf
      exact CLe.ret (tree_ls l)
    · subst h
      refine FrzV.mk (.p (.agg [.int .i64 5, .int .i64 0, .str [], .lst false [x.enc], .nils])) (lsV1_frz x) ?_
      conv => whnf
      refine FrzO.mk (.var T.api_Value (.p (.agg [.int .i64 5, .int .i64 0, .str [], .lst false ([x.enc]), .nils]))) (congrArg (HO.var T.api_Value) (lsV1_frz x)) ?_
      conv => whnf
      refine FrzO.mk (.var T.api_Value (.p (.agg [.int .i64 5, .int .i64 0, .str [], .lst false ([x.enc]), .nils]))) (congrArg (HO.var T.api_Value) (lsV1_frz x)) ?_
      conv => whnf
      exact CLe.ret (tree_ls [x])
    · subst h
      exact CLe.refl _
end Go.Proofs.YtoinkmogdfjmmaaGreatDoor
end

section
namespace Go.Am
open Go
def deeper (d : Int) : Int := if 0 ≤ d then d + 1 else -1
def colonL (d : Int) : Str := if 0 ≤ d then [58, 32] else [58]
mutual
def printT : Tree → Int → Str
  | .mk k n s l m, d => if k = 0 then [110, 117, 108, 108] else if k = 1 then (if n = 1 then [116, 114, 117, 101] else [102, 97, 108, 115, 101]) else
    if k = 2 then Lib.itoa n else if k = 3 then s else if k = 4 ∨ k = 7 then quoteS s else
    if k = 6 then (if m.length = 0 then [123, 125] else 123 :: (printM true m (deeper d) ++ (lineL d ++ [125])))
    else (if l.length = 0 then [91, 93] else 91 :: (printL true l (deeper d) ++ (lineL d ++ [93])))
def printL : Bool → List Tree → Int → Str
  | _, [], _ => []
  | f, t :: l, d => (if f = true then [] else [44]) ++ (lineL d ++ (printT t d ++ printL false l d))
def printM : Bool → List (Str × Tree) → Int → Str
  | _, [], _ => []
  | f, p :: m, d => (if f = true then [] else [44]) ++ (lineL d ++ (printP p d ++ printM false m d))
def printP : Str × Tree → Int → Str
  | (k, t), d => quoteS k ++ (colonL d ++ printT t d)
end
theorem printT_eq (t : Tree) (d : Int) : printT t d = if t.kind = 0 then [110, 117, 108, 108] else if t.kind = 1 then (if t.n = 1 then [116, 114, 117, 101] else [102, 97, 108, 115, 101]) else
    if t.kind = 2 then Lib.itoa t.n else if t.kind = 3 then t.s else if t.kind = 4 ∨ t.kind = 7 then quoteS t.s else
    if t.kind = 6 then (if t.m.length = 0 then [123, 125] else 123 :: (printM true t.m (deeper d) ++ (lineL d ++ [125])))
    else (if t.l.length = 0 then [91, 93] else 91 :: (printL true t.l (deeper d) ++ (lineL d ++ [93]))) := by cases t; rw [printT]; rfl
end Go.Am
namespace Go.Am
end Go.Am
namespace Go.Am
end Go.Am
namespace Go.Am
def Ge (n : Nat) (s : Str) : Prop := ∀ b ∈ s, n ≤ b.toNat
theorem Ge.app {n : Nat} {s r : Str} (h1 : Ge n s) (h2 : Ge n r) : Ge n (s ++ r) := fun b hb => (List.mem_append.1 hb).elim (h1 b) (h2 b)
theorem Ge.cons {n : Nat} {c : UInt8} {s : Str} (h1 : n ≤ c.toNat) (h2 : Ge n s) : Ge n (c :: s) := fun b hb => (List.mem_cons.1 hb).elim (fun e => by rw [e]; exact h1) (h2 b)
theorem Ge.nil {n : Nat} : Ge n [] := fun b hb => by cases hb
def NoB (s : Str) : Prop := ∀ b ∈ s, b.toNat ≠ 32
theorem NoB.l {s r : Str} (h : NoB (s ++ r)) : NoB s := fun b hb => h b (List.mem_append_left _ hb)
theorem NoB.r {s r : Str} (h : NoB (s ++ r)) : NoB r := fun b hb => h b (List.mem_append_right _ hb)
theorem NoB.t {c : UInt8} {s : Str} (h : NoB (c :: s)) : NoB s := fun b hb => h b (List.mem_cons_of_mem _ hb)
end Go.Am
end

section
namespace Go.Am
end Go.Am
end

section
namespace Go.Am
open Go
def q1 (c : UInt8) : Str := quoteU [c] 1
def numCh (b : UInt8) : Bool := decide ((48 ≤ b.toNat ∧ b.toNat ≤ 57) ∨ b.toNat = 43 ∨ b.toNat = 45 ∨ b.toNat = 46 ∨ b.toNat = 101 ∨ b.toNat = 69)
def Nc (s : Str) : Prop := ∀ b ∈ s, numCh b = true
theorem Nc.app {s r : Str} (h1 : Nc s) (h2 : Nc r) : Nc (s ++ r) := fun b hb => (List.mem_append.1 hb).elim (h1 b) (h2 b)
theorem Nc.cons {c : UInt8} {s : Str} (h1 : numCh c = true) (h2 : Nc s) : Nc (c :: s) := fun b hb => (List.mem_cons.1 hb).elim (fun e => by rw [e]; exact h1) (h2 b)
theorem Nc.nil : Nc [] := fun b hb => by cases hb
theorem nc_dig {s : Str} (h : ∀ b ∈ s, dig b = true) : Nc s := fun b hb => by
  have := h b hb
  unfold dig at this
  rw [decide_eq_true_eq] at this
  unfold numCh
  rw [decide_eq_true_eq]
  exact .inl this
theorem nc_run {s : Str} (h : Nc (s.drop (runL s))) : Nc s := by
  have := Nc.app (nc_dig (take_dig s)) h
  rwa [List.take_append_drop] at this
theorem nc_cons {s : Str} (h1 : b0 s = 43 ∨ b0 s = 45 ∨ b0 s = 46 ∨ b0 s = 101 ∨ b0 s = 69) (h : Nc (s.drop 1)) : Nc s := by
  cases s with
  | nil => exact Nc.nil
  | cons c s => exact Nc.cons (by unfold numCh; rw [decide_eq_true_eq]; exact .inr (by simpa [b0] using h1)) (by simpa using h)
theorem nc_E {neg : Bool} {w f p d : Str} (h : (partsE neg w f p d).2.2.2.2 = true) : Nc d := by
  unfold partsE at h
  split at h
  · cases h
  · rename_i hc
    exact nc_dig (runL_dig (by omega))
theorem nc_D {neg : Bool} {w f s : Str} (h : (partsD neg w f s).2.2.2.2 = true) : Nc s := by
  unfold partsD at h
  split at h
  · rename_i h0
    obtain rfl := List.eq_nil_of_length_eq_zero h0
    exact Nc.nil
  · split at h
    · cases h
    · refine nc_cons (by omega) ?_
      split at h
      · exact nc_cons (by omega) (nc_E h)
      · exact nc_E h
theorem nc_C {neg : Bool} {w s : Str} (h : (partsC neg w s).2.2.2.2 = true) : Nc s := by
  unfold partsC at h
  split at h
  · split at h
    · cases h
    · exact nc_cons (by omega) (nc_run (nc_D h))
  · exact nc_D h
theorem nc_B {neg : Bool} {s : Str} (h : (partsB neg s).2.2.2.2 = true) : Nc s := by
  unfold partsB at h
  split at h
  · cases h
  · exact nc_run (nc_C h)
theorem nc_num {s : Str} (h : numL s = true) : Nc s := by
  rw [numL_eq] at h
  unfold okP at h
  simp only [Bool.and_eq_true, decide_eq_true_eq] at h
  have h := h.1.1
  unfold numParts at h
  split at h
  · exact nc_cons (by omega) (nc_B h)
  · exact nc_B h
def TailR (R : Str) : Prop := R = [] ∨ ∃ a y, R = a :: y ∧ (a = 10 ∨ a = 44 ∨ a = 93 ∨ a = 125)
theorem tail_while {s R : Str} (hs : Nc s) (hR : TailR R) : (s ++ R).takeWhile numCh = s := by
  rw [List.takeWhile_append_of_pos hs]
  rcases hR with rfl | ⟨a, y, rfl, h⟩
  · simp
  · rw [List.takeWhile_cons, if_neg, List.append_nil]
    rcases h with rfl | rfl | rfl | rfl <;> decide
theorem Tree.ext' {t u : Tree} (h1 : t.kind = u.kind) (h2 : t.n = u.n) (h3 : t.s = u.s) (h4 : t.l = u.l) (h5 : t.m = u.m) : t = u := by rw [t.eta, u.eta, h1, h2, h3, h4, h5]
theorem p0 {t : Tree} (hk : t.kind = 0) (d : Int) : printT t d = [110, 117, 108, 108] := by rw [printT_eq, if_pos hk]
def Tok (u : Str) (k : Int) (s : Str) (v : Str) : Prop := ∀ (t : Str) (a : Nat), a < t.length → t.drop a = u → ∃ b : Nat, wordL t a = (⟨k, s, a⟩, (b : Int), 0, 0) ∧ a < b ∧ b ≤ t.length ∧ t.drop b = v
theorem getD_drop (t : Str) (a : Nat) : t.getD a 0 = (t.drop a).getD 0 0 := by simp [List.getD, List.getElem?_drop]
theorem sign_iff : ∀ n : Nat, n < 256 → (0 ≤ firstIdx ⟨signs.toArray⟩ n.toUInt8 ↔ signs.contains n.toUInt8 = true) := by decide +kernel
theorem sign_b (c : UInt8) : 0 ≤ firstIdx ⟨signs.toArray⟩ c ↔ signs.contains c = true := by
  have := sign_iff c.toNat (UInt8.toNat_lt c)
  rwa [show c.toNat.toUInt8 = c by simp] at this
theorem drop_lt {t u v : Str} {a : Nat} (ha : a ≤ t.length) (h : t.drop a = u ++ v) : a + u.length ≤ t.length ∧ t.drop (a + u.length) = v := by
  have hl := congrArg List.length h
  rw [List.length_drop, List.length_append] at hl
  refine ⟨by omega, ?_⟩
  rw [← List.drop_drop, h, List.drop_left]
theorem tok_sign (c : UInt8) (v : Str) (hc : signs.contains c = true) : Tok (c :: v) 1 [c] v := by
  intro t a ha h
  have hg : t.getD a 0 = c := by rw [getD_drop, h]; rfl
  obtain ⟨h1, h2⟩ := drop_lt (u := [c]) (v := v) (by omega) h
  refine ⟨a + 1, ?_, by omega, h1, h2⟩
  unfold wordL
  rw [if_pos (by rw [hg]; exact (sign_b c).2 hc), h]
  rfl
theorem takeL_app : ∀ (q : Nat) (s R : Str) (r x : Int), takeL q s r = some x → takeL q (s ++ R) r = some x
  | 0, _, _, _, _, h => h
  | q + 1, [], _, _, _, h => by simp [takeL] at h
  | q + 1, b :: s, R, r, x, h => by
    rw [takeL] at h
    rw [List.cons_append, takeL]
    split at h
    · rename_i hc; rw [if_pos hc]; exact takeL_app q s R _ x h
    · cases h
theorem utfTake_app {s : Str} (R : Str) (h : (utfTake s).2 ≠ 0) : utfTake (s ++ R) = utfTake s := by
  cases s with
  | nil => exact absurd rfl h
  | cons c cs =>
    unfold utfTake at h ⊢
    simp only [List.cons_append] at h ⊢
    split at h
    · exact absurd rfl h
    · rename_i h1
      rw [if_neg (by simp only [List.length_cons, List.length_append] at h1 ⊢; omega), if_neg h1]
      split at h
      · exact absurd rfl h
      · rename_i r h2
        rw [takeL_app _ _ R _ _ h2]
theorem small_good : ∀ k : Nat, k < 128 → utfGood (k : Int) = true ∧ utfEnc (k : Int) = [UInt8.ofNat k] := by decide +kernel
theorem num_first {s : Str} (h : numL s = true) : ∃ c y, s = c :: y ∧ (c = 45 ∨ dig c = true) := by
  have hp : (numParts s).2.2.2.2 = true := by
    unfold numL formL at h
    simp only [Bool.and_eq_true] at h
    exact h.1.1
  cases s with
  | nil => simp [numParts, partsB, runL, noParts] at hp
  | cons c y =>
    refine ⟨c, y, rfl, ?_⟩
    unfold numParts at hp
    split at hp
    · rename_i h1
      left
      have : c.toNat = 45 := h1.2
      exact UInt8.toNat_inj.1 (by rw [this]; decide)
    · right
      unfold partsB at hp
      split at hp
      · simp [noParts] at hp
      · rename_i h2
        cases hd : dig c with
        | true => rfl
        | false => exact absurd (.inl (by rw [runL, if_neg (by rw [hd]; decide)])) h2
theorem numBs_iff : ∀ n : Nat, n < 256 → numBs.contains n.toUInt8 = numCh n.toUInt8 := by decide +kernel
theorem numBs_eq (b : UInt8) : numBs.contains b = numCh b := by
  have := numBs_iff b.toNat (UInt8.toNat_lt b)
  rwa [show b.toNat.toUInt8 = b by simp] at this
theorem while_num {s R : Str} (hs : Nc s) (hR : TailR R) : whileL (s ++ R) numBs = s.length := by
  unfold whileL
  rw [show (fun b => numBs.contains b) = numCh from funext numBs_eq, tail_while hs hR]
theorem tok_num (s R : Str) (hs : numL s = true) (hR : TailR R) : Tok (s ++ R) 3 s R := by
  intro t a ha h
  obtain ⟨c, y, e, hc⟩ := num_first hs
  have hg : t.getD a 0 = c := by rw [getD_drop, h, e]; rfl
  have hw := while_num (nc_num hs) hR
  obtain ⟨e3, e4⟩ := drop_lt (by omega) h
  have hpos : 0 < s.length := by rw [e]; simp
  have hl : s.length ≤ 400 := (numL_asc hs).1
  have hj : jnumL s = 0 := by unfold jnumL; rw [if_neg (by omega), if_pos hs]
  have hcn : c.toNat = 45 ∨ (48 ≤ c.toNat ∧ c.toNat ≤ 57) := by
    rcases hc with rfl | hc
    · left; rfl
    · right; unfold dig at hc; exact of_decide_eq_true hc
  refine ⟨a + s.length, ?_, by omega, e3, e4⟩
  have hns : ¬ 0 ≤ firstIdx ⟨signs.toArray⟩ c := by
    have key : ∀ n : Nat, n < 256 → (n = 45 ∨ (48 ≤ n ∧ n ≤ 57)) → signs.contains n.toUInt8 = false := by decide +kernel
    have := key c.toNat (UInt8.toNat_lt c) hcn
    rw [show c.toNat.toUInt8 = c by simp] at this
    rw [sign_b, this]; decide
  unfold wordL
  rw [if_neg (by rw [hg]; exact hns), if_neg (by rw [hg]; omega), if_neg (by rw [hg]; omega), h, hw, List.take_left, if_neg (by omega), hj, if_neg (by simp)]
  rfl
theorem take_low {c : UInt8} (hc : c.toNat < 128) (R : Str) : utfTake (c :: R) = ((c.toNat : Int), 1) := by
  have h2 : utfBegins c.toNat = (1, (c.toNat : Int)) := by unfold utfBegins; rw [if_pos hc]
  have h3 := (small_good c.toNat hc).1
  have h4 : utfSize (c.toNat : Int) = 1 := by unfold utfSize; rw [if_pos (by omega)]
  unfold utfTake
  simp only [h2, List.length_cons]
  rw [if_neg (by omega)]
  simp only [show Int.toNat 1 - 1 = 0 from rfl, takeL]
  rw [if_pos ⟨h3, h4⟩]
theorem scan_asc : ∀ (q : Nat) (s : Str) (p : Int), (∀ b ∈ s, b.toNat < 128) → (utfScan q s p).2 = true
  | 0, _, _, _ => rfl
  | q + 1, [], _, _ => rfl
  | q + 1, c :: cs, p, h => by
    unfold utfScan
    simp only []
    rw [take_low (h c (by simp)) cs, if_neg (by simp)]
    exact scan_asc q _ _ fun b hb => h b (by
      have : b ∈ cs := by simpa using hb
      simp [this])
def skipB (u : Str) : Str := u.dropWhile (blanksB.contains ·)
theorem skip_drop (u : Str) : u.drop (whileL u blanksB) = skipB u := by
  unfold skipB whileL
  induction u with
  | nil => rfl
  | cons b u ih =>
    rw [List.takeWhile_cons, List.dropWhile_cons]
    split
    · simpa using ih
    · rfl
theorem skip_ne {c : UInt8} (X : Str) (h : blanksB.contains c = false) : skipB (c :: X) = c :: X := by
  unfold skipB
  rw [List.dropWhile_cons, if_neg (by rw [h]; decide)]
inductive Lexes : Str → List (Int × Str) → Prop
  | nil : Lexes [] []
  | cons {u v : Str} {k : Int} {s : Str} {ws : List (Int × Str)} (h : Tok u k s v) (hne : u ≠ []) (r : Lexes (skipB v) ws) : Lexes u ((k, s) :: ws)
def kp (w : Wd) : Int × Str := (w.k, w.s)
theorem cutL_lexes {u : Str} {ws : List (Int × Str)} (h : Lexes u ws) : ∀ (q : Nat) (t : Str) (a : Nat) (acc : List Wd), t.drop a = u → a ≤ t.length → t.length < q + a → ∃ l, cutL q t a acc = (acc ++ l, 0, 0) ∧ l.map kp = ws := by
  induction h with
  | nil =>
    intro q t a acc h ha hq
    obtain ⟨q, rfl⟩ : ∃ p, q = p + 1 := ⟨q - 1, by omega⟩
    have hl := congrArg List.length h
    rw [List.length_drop] at hl
    simp only [List.length_nil] at hl
    rw [cutL, if_pos (by omega)]
    exact ⟨[], by simp, rfl⟩
  | @cons u v k s ws ht hne r ih =>
    intro q t a acc h ha hq
    obtain ⟨q, rfl⟩ : ∃ p, q = p + 1 := ⟨q - 1, by
      have hl := congrArg List.length h
      have : 0 < u.length := List.length_pos_iff.2 hne
      rw [List.length_drop] at hl
      omega⟩
    have hlt : a < t.length := by
      have hl := congrArg List.length h
      have : 0 < u.length := List.length_pos_iff.2 hne
      rw [List.length_drop] at hl
      omega
    obtain ⟨b, h1, h2, h3, h4⟩ := ht t a hlt h
    have hw := whileL_le (t.drop b) blanksB
    rw [List.length_drop] at hw
    obtain ⟨l, e1, e2⟩ := ih q t (b + whileL (t.drop b) blanksB) (acc ++ [⟨k, s, a⟩]) (by rw [← List.drop_drop, skip_drop, h4]) (by omega) (by omega)
    refine ⟨⟨k, s, a⟩ :: l, ?_, by simp [kp, e2]⟩
    rw [cutL, if_neg (by omega), h1]
    simp only [ne_eq, not_true_eq_false, if_false, Int.toNat_natCast]
    rw [e1]
    simp
theorem Lexes.sign (c : UInt8) {X : Str} {ws : List (Int × Str)} (h : signs.contains c = true) (r : Lexes (skipB X) ws) : Lexes (c :: X) ((1, [c]) :: ws) :=
  .cons (tok_sign c X h) (by simp) r
theorem bless_iff : ∀ (x y : Str), Op.bytesLess x y = true ↔ x < y
  | x, [] => by cases x <;> simp [Op.bytesLess]
  | [], b :: y => by simp [Op.bytesLess]
  | a :: x, b :: y => by
    have ih := bless_iff x y
    rw [List.cons_lt_cons_iff, Op.bytesLess, Bool.or_eq_true, Bool.and_eq_true, decide_eq_true_eq, beq_iff_eq, ih]
theorem leqS_iff (x y : Str) : leqS x y = true ↔ x ≤ y := by
  unfold leqS
  rw [Bool.or_eq_true, bless_iff, decide_eq_true_eq]
  constructor
  · rintro (h | rfl)
    · exact List.le_of_lt h
    · exact List.le_refl _
  · intro h
    by_cases e : x = y
    · exact .inr e
    · left
      by_cases hl : x < y
      · exact hl
      · exact absurd (List.le_antisymm h (List.not_lt.1 hl)) e
end Go.Am
end

section
namespace Go.Am
open Go Go.Maps Go.WideAt Go.MapKept Go.WideShapes
open Go.WideElems (Fit rd rg)
theorem keyOf_string {P : Program} {K : TypeId} (hK : P.underlying K = some .string) {s : ByteArray} (h : s.size ≤ maxLen) : keyOf P K (.string s) = some (.string s.data.toList) := by
  simp [keyOf, hK, mapKey, h]
section
variable {P : Program} {B : Nat → Prop} {L : Loc} {w : World}
theorem own_of_mp {K : TypeId} {n : Nat} {ss : List (List UInt8)} {vs : MV} (hK : P.underlying K = some .string) (h : HRel B L w n (.mp (ss.map .str) vs)) (hnd : ss.Nodup) (hlen : ss.length ≤ maxLen) (hstr : ∀ s ∈ ss, s.length ≤ maxLen) :
    ∃ D0 : DataW Unit, w.ownsMap P K (fun _ => some (.nil, [])) (L.blk n) ss.length D0 ∧ Maps.size D0 = ss.length ∧ (strKeys D0).Perm ss := by
  cases h with
  | mp _ _ ms clock hw hl hlv hk hv hn =>
    rw [List.length_map] at hl
    have hkey : ∀ (i : Nat) (e : MapEntry), ms[i]? = some e → ∃ s, ss[i]? = some s ∧ e.key = .string ⟨s.toArray⟩ ∧ e.born < clock := by
      intro i e he
      have hi : i < ms.size := (Array.getElem?_eq_some_iff.1 he).1
      have hs : ss[i]? = some ss[i] := by simp [show i < ss.length by omega]
      have := hk i (.str ss[i]) e (by rw [List.getElem?_map, hs]; rfl) he
      refine ⟨ss[i], hs, ?_, this.2⟩
      have h1 := this.1
      generalize e.key = kv at h1
      cases h1
      rfl
    have hkeys : ms.toList.map (·.key) = ss.map fun s => Value.string ⟨s.toArray⟩ := by
      apply List.ext_getElem?
      intro i
      rw [List.getElem?_map, List.getElem?_map]
      cases he : ms[i]? with
      | none =>
        have : ss[i]? = none := by
          rw [List.getElem?_eq_none_iff, hl]
          simpa using he
        simp [he, this]
      | some e =>
        obtain ⟨s, h1, h2, _⟩ := hkey i e he
        simp [he, h1, h2]
    have hrd : ∀ e ∈ ms.toList, ∃ s ∈ ss, e.key = .string ⟨s.toArray⟩ ∧ rd P K (fun _ => some ((.nil : DataW Unit), [])) e = some (.string s, .nil) := by
      intro e he
      obtain ⟨i, hi, rfl⟩ := List.getElem_of_mem he
      obtain ⟨s, h1, h2, _⟩ := hkey i ms.toList[i] (by rw [← Array.getElem?_toList, List.getElem?_eq_getElem hi])
      have hm := List.mem_of_getElem? h1
      refine ⟨s, hm, h2, ?_⟩
      have hko := keyOf_string hK (s := ⟨s.toArray⟩) (by simpa [ByteArray.size] using hstr s hm)
      unfold rd
      rw [h2, hko]
      rfl
    have hrg : ms.toList.map (rg P K fun _ => some ((.nil : DataW Unit), [])) = ss.map fun s => (Lit.string s, DataW.nil) := by
      apply List.ext_getElem?
      intro i
      rw [List.getElem?_map, List.getElem?_map]
      cases he : ms[i]? with
      | none =>
        have : ss[i]? = none := by
          rw [List.getElem?_eq_none_iff, hl]
          simpa using he
        simp [he, this]
      | some e =>
        obtain ⟨s, h1, h2, _⟩ := hkey i e he
        have hm := List.mem_of_getElem? h1
        have hko := keyOf_string hK (s := ⟨s.toArray⟩) (by simpa [ByteArray.size] using hstr s hm)
        have hr : rd P K (fun _ => some ((.nil : DataW Unit), [])) e = some (.string s, .nil) := by simp [rd, h2, hko]
        simp [he, h1, rg, hr]
    refine ⟨_, ⟨ms, clock, hw, ⟨by omega, ⟨?_, ?_, ?_⟩, ?_⟩, by omega, rfl⟩, ?_, ?_⟩
    · intro e he
      obtain ⟨i, hi, rfl⟩ := List.getElem_of_mem he
      obtain ⟨_, _, _, h3⟩ := hkey i ms.toList[i] (by rw [← Array.getElem?_toList, List.getElem?_eq_getElem hi])
      exact h3
    · refine List.pairwise_iff_getElem.2 fun i j hi hj hij e => ?_
      rw [List.length_map] at hi hj
      simp only [List.getElem_map] at e
      have := hn i j ms.toList[i] ms.toList[j] (by rw [← Array.getElem?_toList, List.getElem?_eq_getElem hi]) (by rw [← Array.getElem?_toList, List.getElem?_eq_getElem hj]) e
      omega
    · rw [hkeys]
      refine List.pairwise_map.2 (List.Pairwise.imp ?_ hnd)
      intro a b hab e
      injection e with e
      injection e with e
      exact hab (by simpa using congrArg Array.toList e)
    · intro e he
      obtain ⟨s, _, _, h⟩ := hrd e he
      exact ⟨_, h⟩
    · rw [size_eq, length_sorted, hrg, List.length_map]
    · rw [hrg]
      show ((List.foldr DataW.insert [] (ss.map fun s => (Lit.string s, DataW.nil))).map fun p => strOf p.1).Perm ss
      have := (sorted_perm (ss.map fun s => (Lit.string s, (DataW.nil : DataW Unit)))).map fun p => strOf p.1
      rw [List.map_map] at this
      simpa [Function.comp_def, strOf] using this
end
end Go.Am
end

section
namespace Go.Am
open Go
theorem insK_perm (k : Str) (x : Tree) : ∀ m : List (Str × Tree), (insK k x m).Perm ((k, x) :: m)
  | [] => List.Perm.refl _
  | p :: m => by
    rw [insK]
    split
    · exact List.Perm.refl _
    · exact ((insK_perm k x m).cons p).trans (List.Perm.swap _ _ _)
theorem sortP_perm : ∀ m : List (Str × Tree), (sortP m).Perm m
  | [] => List.Perm.refl _
  | p :: m => by
    rw [sortP]
    exact (insK_perm _ _ _).trans ((sortP_perm m).cons p)
theorem insK_pw (k : Str) (x : Tree) : ∀ {m : List (Str × Tree)}, m.Pairwise (fun p q => p.1 ≤ q.1) → (insK k x m).Pairwise (fun p q => p.1 ≤ q.1)
  | [], _ => by simp [insK]
  | p :: m, h => by
    obtain ⟨h1, h2⟩ := List.pairwise_cons.1 h
    rw [insK]
    split
    · rename_i hl
      have hl := (leqS_iff _ _).1 hl
      refine List.pairwise_cons.2 ⟨fun q hq => ?_, h⟩
      rcases List.mem_cons.1 hq with rfl | hq
      · exact hl
      · exact List.le_trans hl (h1 q hq)
    · rename_i hl
      have hl : p.1 ≤ k := by
        rw [leqS_iff] at hl
        rcases List.le_total k p.1 with h | h
        · exact absurd h hl
        · exact h
      refine List.pairwise_cons.2 ⟨fun q hq => ?_, insK_pw k x h2⟩
      rcases List.mem_cons.1 ((insK_perm k x m).mem_iff.1 hq) with rfl | hq
      · exact hl
      · exact h1 q hq
theorem sortP_pw : ∀ m : List (Str × Tree), (sortP m).Pairwise (fun p q => p.1 ≤ q.1)
  | [] => List.Pairwise.nil
  | p :: m => insK_pw _ _ (sortP_pw m)
theorem sortP_len (m : List (Str × Tree)) : (sortP m).length = m.length := (sortP_perm m).length_eq
theorem sorted_keys_eq {m : List (Str × Tree)} {ss : List Str} (h : ss.Perm (m.map (·.1))) : ss.mergeSort (fun x y => decide (x ≤ y)) = (sortP m).map (·.1) := by
  have tr : ∀ a b c : List UInt8, decide (a ≤ b) = true → decide (b ≤ c) = true → decide (a ≤ c) = true := fun a b c h1 h2 => by simp only [decide_eq_true_eq] at *; exact List.le_trans h1 h2
  have htot : ∀ a b : List UInt8, (decide (a ≤ b) || decide (b ≤ a)) = true := fun a b => by simp only [Bool.or_eq_true, decide_eq_true_eq]; exact List.le_total a b
  refine List.Perm.eq_of_pairwise (le := fun a b => a ≤ b) (fun a b _ _ h1 h2 => List.le_antisymm h1 h2) ?_ ?_ ?_
  · exact (List.pairwise_mergeSort tr htot ss).imp fun h => by simpa using h
  · exact List.pairwise_map.2 (sortP_pw m)
  · exact ((List.mergeSort_perm ss _).trans h).trans ((sortP_perm m).map _).symm
theorem keyAt_map {ss : List Str} {k : Str} : ∀ {i : Nat}, ss.Nodup → ss[i]? = some k → keyAt (.str k) (ss.map .str) = some i := by
  intro i hnd hi
  unfold keyAt
  have hlt := (List.getElem?_eq_some_iff.1 hi).1
  refine List.findIdx?_eq_some_iff_getElem.2 ⟨by simpa using hlt, ?_, fun j hj => ?_⟩
  · simp [keyB, (List.getElem?_eq_some_iff.1 hi).2]
  · have : ss[j] ≠ k := by
      rw [← (List.getElem?_eq_some_iff.1 hi).2]
      exact List.pairwise_iff_getElem.1 hnd j i (by omega) hlt hj
    simp [keyB, Ne.symm this]
theorem keyAt_none {ss : List Str} {k : Str} (h : ¬ k ∈ ss) : keyAt (.str k) (ss.map .str) = none := by
  unfold keyAt
  rw [List.findIdx?_eq_none_iff]
  intro x hx
  obtain ⟨s, hs, rfl⟩ := List.mem_map.1 hx
  simp only [keyB, decide_eq_false_iff_not]
  exact fun e => h (e ▸ hs)
theorem hasK_mem (m : List (Str × Tree)) (k : Str) : hasK m k = true ↔ k ∈ m.map (·.1) := by
  unfold hasK
  rw [List.any_eq_true, List.mem_map]
  simp
end Go.Am
end
