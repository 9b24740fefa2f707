/-
The walk through the cutting of texts into words, II.
-/
import Derived.Test.YtoinkmogdfjmmaaGreatDoorPH
import Derived.Test.YtoinkmogdfjmmaaGreatDoorPF
import Derived.Test.YtoinkmogdfjmmaaGreatDoorPG

section
namespace Go.Proofs.YtoinkmogdfjmmaaGreatDoor
open Go Go.Am Go.RowKit
set_option maxRecDepth 100000
theorem cut_loop (t : Str) (hs : t.length ≤ 1000000) (R : List Wd × Int × Int) (K : Post)
    (h0 : R.2.1 = 0 → R.1 ≠ [] → K (.exit 0) [(0, .p (.str t)), (3, .ptr 0 0), (5, .sl 1 0 (R.1.map Wd.enc).length)] [.var T.api_Fault (.p noFault), .arr T.jlex_Word 3 (R.1.map Wd.enc)] [])
    (hr : R.2.1 ≠ 0 → ∀ o o' : HO, K .ret [(2, .p .nils), (3, .ptr 0 0)] [.var T.api_Fault (.p (faultP t R.2.2 R.2.1)), o, o'] []) :
    ∀ (q a : Nat) (acc : List Wd), t.length < a + q → a ≤ t.length → acc ≠ [] → acc.length ≤ a → cutL q t a acc = R →
      LoopW PP GG 54 0 (loopN F.jlex_Cut_c 0) [(0, .p (.str t)), (3, .ptr 0 0), (5, .sl 1 0 (acc.map Wd.enc).length), (6, .p (.int .i64 a))] [.var T.api_Fault (.p noFault), .arr T.jlex_Word 3 (acc.map Wd.enc)] [] (PostCl 54 K) := by
  intro q
  induction q with
  | zero => intro a acc hq hal; omega
  | succ q ih =>
    intro a acc hq hal hne hacc hR
    have hml : (acc.map Wd.enc).length = acc.length := by simp
    rw [cutL] at hR
    by_cases hl : t.length ≤ a
    · rw [if_pos hl] at hR
      subst hR
      refine LoopW.round (pol := polG) mixP ?_
      conv => whnf
      repeat' ((first
       | ((with_reducible first | refine Br.dec ?_ ?_ | refine Br.ndec ?_ ?_) <;> intro hb <;> (try simp only [ZZ] at hb) <;> (first | omega | contradiction | skip))
       | (with_reducible first | refine Br.tt rfl ?_ | refine Br.ff rfl ?_ | refine Br.ff (isEmptyCons _ _) ?_)
       | ((with_reducible first | refine Side.mk ?_ ?_ | refine WrapW.mk ?_ ?_); focus (first | omega | (dsimp only [InR, Int.reduceToNat, IntKind.bits, Int.reducePow]; omega) | (simp [CC]; done) | (constructor <;> omega)))
       | with_reducible refine Br.not ?_
       | (with_reducible first | refine Br.tt (by assumption) ?_ | refine Br.ff (by assumption) ?_)
       | (refine Br.mk ?_ ?_ <;> intro hb <;> (try simp only [ZZ] at hb) <;> (first | omega | contradiction | skip))
       | refine Src.whole ⟨rfl, rfl⟩ ?_ | refine FrzV.whole ?_) <;> conv => whnf)
      · refine PostCl.of (h0 rfl hne) ?_ ?_
        · repeat first | exact trivial | refine ⟨VLe.refl _, ?_⟩
        · repeat first | exact trivial | refine ⟨by decide, ?_⟩
    · rw [if_neg hl] at hR
      have hW := jlex_word t a (by omega) hs
      have hb := wordL_bound t a (by omega)
      generalize wordL t a = u at *
      by_cases he : u.2.2.1 = 0
      · rw [if_neg (by omega)] at hR
        obtain ⟨n, hn⟩ := Int.eq_ofNat_of_zero_le (show 0 ≤ u.2.1 by omega)
        have hwl := whileL_le (t.drop n) blanksB
        have hdl : (t.drop n).length = t.length - n := List.length_drop
        have hWh := jlex_while (t.drop n) blanksB (by omega) (by decide) (by decide)
        rw [hn, Int.toNat_natCast] at hR
        rw [hn, he] at hW
        rw [hn] at hb
        refine LoopW.round (pol := polG) mixP ?_
        conv => whnf
        repeat' ((first
         | ((with_reducible first | refine Br.dec ?_ ?_ | refine Br.ndec ?_ ?_) <;> intro hb <;> (try simp only [And.intro @hml (ZZ)] at hb) <;> (first | omega | contradiction | skip))
         | (with_reducible first | refine Br.tt rfl ?_ | refine Br.ff rfl ?_ | refine Br.ff (isEmptyCons _ _) ?_)
         | ((with_reducible first | refine Side.mk ?_ ?_ | refine WrapW.mk ?_ ?_); focus (first | omega | (dsimp only [InR, Int.reduceToNat, IntKind.bits, Int.reducePow]; omega) | exact Wd.enc_side _ | exact ⟨fun y hy => (Wd.enc_side _ y hy).1, rfl, by show (_ + 1) * 64 ≤ _; omega⟩ | (simp [CC]; done) | (constructor <;> omega)))
         | with_reducible refine Br.not ?_
         | (with_reducible first | refine Br.tt (by assumption) ?_ | refine Br.ff (by assumption) ?_)
         | (refine Br.mk ?_ ?_ <;> intro hb <;> (try simp only [And.intro @hml (ZZ)] at hb) <;> (first | omega | contradiction | skip))
         | refine Src.whole ⟨rfl, rfl⟩ ?_ | refine FrzV.whole ?_
         | refine CallW.use (hW) ?_
         | refine CallW.use (hWh) ?_) <;> conv => whnf)
        rw [show List.map Wd.enc acc ++ [u.1.enc] = (acc ++ [u.1]).map Wd.enc by simp]
        refine LoopW.ren [0, 1] (ih (n + whileL (t.drop n) blanksB) (acc ++ [u.1]) (by omega) (by omega) (by simp) (by rw [List.length_append]; simp only [List.length_cons, List.length_nil]; omega) hR) (by repeat first | exact trivial | refine ⟨⟨rfl, VLe.refl _⟩, ?_⟩) (by repeat first | exact trivial | refine ⟨by decide, ?_⟩) rfl rfl
      · rw [if_pos (by omega)] at hR
        have hF := place_Fault t u.2.2.2 u.2.2.1 (by omega) (by omega)
        subst hR
        refine LoopW.round (pol := polG) mixP ?_
        conv => whnf
        repeat' ((first
         | ((with_reducible first | refine Br.dec ?_ ?_ | refine Br.ndec ?_ ?_) <;> intro hb <;> (try simp only [ZZ] at hb) <;> (first | omega | contradiction | skip))
         | (with_reducible first | refine Br.tt rfl ?_ | refine Br.ff rfl ?_ | refine Br.ff (isEmptyCons _ _) ?_)
         | ((with_reducible first | refine Side.mk ?_ ?_ | refine WrapW.mk ?_ ?_); focus (first | omega | (dsimp only [InR, Int.reduceToNat, IntKind.bits, Int.reducePow]; omega) | (simp [CC]; done) | (constructor <;> omega)))
         | with_reducible refine Br.not ?_
         | (with_reducible first | refine Br.tt (by assumption) ?_ | refine Br.ff (by assumption) ?_)
         | (refine Br.mk ?_ ?_ <;> intro hb <;> (try simp only [ZZ] at hb) <;> (first | omega | contradiction | skip))
         | refine Src.whole ⟨rfl, rfl⟩ ?_ | refine FrzV.whole ?_
         | refine CallW.use (hW) ?_
         | refine CallW.use (hF) ?_) <;> conv => whnf)
        · refine PostCl.of (hr he _ _) ?_ ?_
          · repeat first | exact trivial | refine ⟨VLe.refl _, ?_⟩
          · repeat first | exact trivial | refine ⟨by decide, ?_⟩
theorem frz_tup2 (n : Nat) (es : List PV) (x : PV) : V.frz n es (.tup [.sl n 0 es.length, .p x]) = .tup [.p (.lst false es), .p x] := by
  simp [V.frz, V.frzL]
theorem cut_first (t : Str) (hs : t.length ≤ 1000000) (R : List Wd × Int × Int) (K : Post)
    (hz : R = ([], 0, 0) → K (.exit 0) [(0, .p (.str t)), (3, .ptr 0 0), (5, .p .nils)] [.var T.api_Fault (.p noFault)] [])
    (h0 : R.2.1 = 0 → R.1 ≠ [] → K (.exit 0) [(0, .p (.str t)), (3, .ptr 0 0), (5, .sl 1 0 (R.1.map Wd.enc).length)] [.var T.api_Fault (.p noFault), .arr T.jlex_Word 3 (R.1.map Wd.enc)] [])
    (hr1 : R.2.1 ≠ 0 → ∀ o : HO, K .ret [(2, .p .nils), (3, .ptr 0 0)] [.var T.api_Fault (.p (faultP t R.2.2 R.2.1)), o] [])
    (hr : R.2.1 ≠ 0 → ∀ o o' : HO, K .ret [(2, .p .nils), (3, .ptr 0 0)] [.var T.api_Fault (.p (faultP t R.2.2 R.2.1)), o, o'] []) (a : Nat) (hal : a ≤ t.length)
    (hR : cutL (t.length + 1) t a [] = R) :
      LoopW PP GG 54 0 (loopN F.jlex_Cut_c 0) [(0, .p (.str t)), (3, .ptr 0 0), (5, .p .nils), (6, .p (.int .i64 a))] [.var T.api_Fault (.p noFault)] [] (PostCl 54 K) := by
  have hlp := cut_loop t hs R K h0 hr
  rw [cutL] at hR
  by_cases hl : t.length ≤ a
  · rw [if_pos hl] at hR
    refine LoopW.round (pol := polG) mixP ?_
    conv => whnf
    repeat' ((first
     | ((with_reducible first | refine Br.dec ?_ ?_ | refine Br.ndec ?_ ?_) <;> intro hb <;> (try simp only [ZZ] at hb) <;> (first | omega | contradiction | skip))
     | (with_reducible first | refine Br.tt rfl ?_ | refine Br.ff rfl ?_ | refine Br.ff (isEmptyCons _ _) ?_)
     | ((with_reducible first | refine Side.mk ?_ ?_ | refine WrapW.mk ?_ ?_); focus (first | omega | (dsimp only [InR, Int.reduceToNat, IntKind.bits, Int.reducePow]; omega) | (simp [CC]; done) | (constructor <;> omega)))
     | with_reducible refine Br.not ?_
     | (with_reducible first | refine Br.tt (by assumption) ?_ | refine Br.ff (by assumption) ?_)
     | (refine Br.mk ?_ ?_ <;> intro hb <;> (try simp only [ZZ] at hb) <;> (first | omega | contradiction | skip))
     | refine Src.whole ⟨rfl, rfl⟩ ?_ | refine FrzV.whole ?_) <;> conv => whnf)
    · refine PostCl.of (hz hR.symm) ?_ ?_
      · repeat first | exact trivial | refine ⟨VLe.refl _, ?_⟩
      · repeat first | exact trivial | refine ⟨by decide, ?_⟩
  · rw [if_neg hl] at hR
    have hW := jlex_word t a (by omega) hs
    have hb := wordL_bound t a (by omega)
    generalize wordL t a = u at *
    by_cases he : u.2.2.1 = 0
    · rw [if_neg (by omega)] at hR
      obtain ⟨n, hn⟩ := Int.eq_ofNat_of_zero_le (show 0 ≤ u.2.1 by omega)
      have hwl := whileL_le (t.drop n) blanksB
      have hdl : (t.drop n).length = t.length - n := List.length_drop
      have hWh := jlex_while (t.drop n) blanksB (by omega) (by decide) (by decide)
      rw [hn, Int.toNat_natCast] at hR
      rw [hn, he] at hW
      rw [hn] at hb
      refine LoopW.round (pol := polG) mixP ?_
      conv => whnf
      repeat' ((first
       | ((with_reducible first | refine Br.dec ?_ ?_ | refine Br.ndec ?_ ?_) <;> intro hb <;> (try simp only [ZZ] at hb) <;> (first | omega | contradiction | skip))
       | (with_reducible first | refine Br.tt rfl ?_ | refine Br.ff rfl ?_ | refine Br.ff (isEmptyCons _ _) ?_)
       | ((with_reducible first | refine Side.mk ?_ ?_ | refine WrapW.mk ?_ ?_); focus (first | omega | (dsimp only [InR, Int.reduceToNat, IntKind.bits, Int.reducePow]; omega) | exact Wd.enc_side _ | exact ⟨fun y hy => (Wd.enc_side _ y hy).1, by show 1 * 64 ≤ _; omega⟩ | (simp [CC]; done) | (constructor <;> omega)))
       | with_reducible refine Br.not ?_
       | (with_reducible first | refine Br.tt (by assumption) ?_ | refine Br.ff (by assumption) ?_)
       | (refine Br.mk ?_ ?_ <;> intro hb <;> (try simp only [ZZ] at hb) <;> (first | omega | contradiction | skip))
       | refine Src.whole ⟨rfl, rfl⟩ ?_ | refine FrzV.whole ?_
       | refine CallW.use (hW) ?_
       | refine CallW.use (hWh) ?_) <;> conv => whnf)
      refine LoopW.ren [0, 3] (hlp t.length (n + whileL (t.drop n) blanksB) [u.1] (by omega) (by omega) (List.cons_ne_nil _ _) (by show 1 ≤ _; omega) hR) (by repeat first | exact trivial | refine ⟨⟨rfl, VLe.refl _⟩, ?_⟩) (by repeat first | exact trivial | refine ⟨by decide, ?_⟩) rfl rfl
    · rw [if_pos (by omega)] at hR
      have hF := place_Fault t u.2.2.2 u.2.2.1 (by omega) (by omega)
      subst hR
      refine LoopW.round (pol := polG) mixP ?_
      conv => whnf
      repeat' ((first
       | ((with_reducible first | refine Br.dec ?_ ?_ | refine Br.ndec ?_ ?_) <;> intro hb <;> (try simp only [ZZ] at hb) <;> (first | omega | contradiction | skip))
       | (with_reducible first | refine Br.tt rfl ?_ | refine Br.ff rfl ?_ | refine Br.ff (isEmptyCons _ _) ?_)
       | ((with_reducible first | refine Side.mk ?_ ?_ | refine WrapW.mk ?_ ?_); focus (first | omega | (dsimp only [InR, Int.reduceToNat, IntKind.bits, Int.reducePow]; omega) | (simp [CC]; done) | (constructor <;> omega)))
       | with_reducible refine Br.not ?_
       | (with_reducible first | refine Br.tt (by assumption) ?_ | refine Br.ff (by assumption) ?_)
       | (refine Br.mk ?_ ?_ <;> intro hb <;> (try simp only [ZZ] at hb) <;> (first | omega | contradiction | skip))
       | refine Src.whole ⟨rfl, rfl⟩ ?_ | refine FrzV.whole ?_
       | refine CallW.use (hW) ?_
       | refine CallW.use (hF) ?_) <;> conv => whnf)
      · refine PostCl.of (hr1 he _) ?_ ?_
        · repeat first | exact trivial | refine ⟨VLe.refl _, ?_⟩
        · repeat first | exact trivial | refine ⟨by decide, ?_⟩
theorem jlex_Cut (t : Str) (hs : t.length ≤ 1000000) : AbsCall PP GG F.jlex_Cut [.p (.str t)] [] ⟨.ret (.tup [.p (.lst false ((cutT t).1.map Wd.enc)), .p (faultE t (cutT t).2)]), [], []⟩ := by
  have hJ := jlex_Judge t (by omega)
  have hWh := jlex_while t blanksB (by omega) (by decide) (by decide)
  have hwl := whileL_le t blanksB
  unfold judgeF at hJ
  unfold cutT
  by_cases hj : (judgeS t).1 = 0
  · rw [if_neg (by omega)]
    unfold faultE at hJ
    rw [if_pos hj] at hJ
    have hlp := cut_first t hs (cutL (t.length + 1) t (whileL t blanksB) [])
    have hlen := cutL_len (t.length + 1) t (whileL t blanksB) [] (by omega) (by simp)
    generalize hR : cutL (t.length + 1) t (whileL t blanksB) [] = R at *
    refine absCall_of (pol := polG) mixP F.jlex_Cut_is ?_
    conv => whnf
    repeat' ((first
     | ((with_reducible first | refine Br.dec ?_ ?_ | refine Br.ndec ?_ ?_) <;> intro hb <;> (try simp only [ZZ] at hb) <;> (first | omega | contradiction | skip))
     | (with_reducible first | refine Br.tt rfl ?_ | refine Br.ff rfl ?_ | refine Br.ff (isEmptyCons _ _) ?_)
     | ((with_reducible first | refine Side.mk ?_ ?_ | refine WrapW.mk ?_ ?_); focus (first | omega | (dsimp only [InR, Int.reduceToNat, IntKind.bits, Int.reducePow]; omega) | (simp [CC]; done) | (constructor <;> omega)))
     | with_reducible refine Br.not ?_
     | (with_reducible first | refine Br.tt (by assumption) ?_ | refine Br.ff (by assumption) ?_)
     | (refine Br.mk ?_ ?_ <;> intro hb <;> (try simp only [ZZ] at hb) <;> (first | omega | contradiction | skip))
     | refine Src.whole ⟨rfl, rfl⟩ ?_ | refine FrzV.whole ?_
     | refine CallW.use (hJ) ?_
     | refine CallW.use (hWh) ?_) <;> conv => whnf)
    refine LoopW.cl ?_
    refine LoopW.ren [0] (hlp _ (fun h => ?_) (fun h hne => ?_) (fun h o => ?_) (fun h o o' => ?_) (whileL t blanksB) (by omega) hR) (by repeat first | exact trivial | refine ⟨⟨rfl, VLe.refl _⟩, ?_⟩) (by repeat first | exact trivial | refine ⟨by decide, ?_⟩) rfl rfl
    all_goals conv => whnf
    · repeat' ((first
       | ((with_reducible first | refine Br.dec ?_ ?_ | refine Br.ndec ?_ ?_) <;> intro hb <;> (try simp only [ZZ] at hb) <;> (first | omega | contradiction | skip))
       | (with_reducible first | refine Br.tt rfl ?_ | refine Br.ff rfl ?_ | refine Br.ff (isEmptyCons _ _) ?_)
       | ((with_reducible first | refine Side.mk ?_ ?_ | refine WrapW.mk ?_ ?_); focus (first | omega | (dsimp only [InR, Int.reduceToNat, IntKind.bits, Int.reducePow]; omega) | exact Wd.enc_side ⟨0, [], t.length⟩ | exact ⟨fun y hy => (Wd.enc_side ⟨0, [], t.length⟩ y hy).1, by show 1 * 64 ≤ _; omega⟩ | (simp [CC]; done) | (constructor <;> omega)))
       | with_reducible refine Br.not ?_
       | (with_reducible first | refine Br.tt (by assumption) ?_ | refine Br.ff (by assumption) ?_)
       | (refine Br.mk ?_ ?_ <;> intro hb <;> (try simp only [ZZ] at hb) <;> (first | omega | contradiction | skip))
       | refine Src.whole ⟨rfl, rfl⟩ ?_ | refine FrzV.whole ?_) <;> conv => whnf)
      refine FrzV.mk (.tup [.p (.lst false [(⟨0, [], t.length⟩ : Wd).enc]), .p noFault]) (frz_tup2 2 [(⟨0, [], t.length⟩ : Wd).enc] noFault) ?_
      conv => whnf
      subst h
      rw [if_neg (by simp)]
      exact CLe.eq rfl
    · have hml : (R.1.map Wd.enc).length = R.1.length := by simp
      repeat' ((first
       | ((with_reducible first | refine Br.dec ?_ ?_ | refine Br.ndec ?_ ?_) <;> intro hb <;> (try simp only [ZZ] at hb) <;> (first | omega | contradiction | skip))
       | (with_reducible first | refine Br.tt rfl ?_ | refine Br.ff rfl ?_ | refine Br.ff (isEmptyCons _ _) ?_)
       | ((with_reducible first | refine Side.mk ?_ ?_ | refine WrapW.mk ?_ ?_); focus (first | omega | (dsimp only [InR, Int.reduceToNat, IntKind.bits, Int.reducePow]; omega) | exact Wd.enc_side ⟨0, [], t.length⟩ | exact ⟨fun y hy => (Wd.enc_side ⟨0, [], t.length⟩ y hy).1, rfl, by show (_ + 1) * 64 ≤ _; rw [hml]; omega⟩ | (simp [CC]; done) | (constructor <;> omega)))
       | with_reducible refine Br.not ?_
       | (with_reducible first | refine Br.tt (by assumption) ?_ | refine Br.ff (by assumption) ?_)
       | (refine Br.mk ?_ ?_ <;> intro hb <;> (try simp only [ZZ] at hb) <;> (first | omega | contradiction | skip))
       | refine Src.whole ⟨rfl, rfl⟩ ?_ | refine FrzV.whole ?_) <;> conv => whnf)
      refine FrzV.mk (.tup [.p (.lst false (R.1.map Wd.enc ++ [(⟨0, [], t.length⟩ : Wd).enc])), .p noFault]) (frz_tup2 1 (R.1.map Wd.enc ++ [(⟨0, [], t.length⟩ : Wd).enc]) noFault) ?_
      conv => whnf
      rw [if_neg (by omega), List.map_append]
      exact CLe.eq rfl
    all_goals
      rw [if_pos h]
      unfold faultE
      rw [if_neg h]
      refine CLe.ret (VLe.tup ?_)
      exact ⟨(PLe.nils false).p, VLe.refl _, trivial⟩
  · rw [if_pos hj]
    unfold faultE
    unfold faultE at hJ
    rw [if_neg hj] at hJ
    rw [if_neg hj]
    refine absCall_of (pol := polG) mixP F.jlex_Cut_is ?_
    conv => whnf
    repeat' ((first
     | ((with_reducible first | refine Br.dec ?_ ?_ | refine Br.ndec ?_ ?_) <;> intro hb <;> (try simp only [ZZ] at hb) <;> (first | omega | contradiction | skip))
     | (with_reducible first | refine Br.tt rfl ?_ | refine Br.ff rfl ?_ | refine Br.ff (isEmptyCons _ _) ?_)
     | ((with_reducible first | refine Side.mk ?_ ?_ | refine WrapW.mk ?_ ?_); focus (first | omega | (dsimp only [InR, Int.reduceToNat, IntKind.bits, Int.reducePow]; omega) | (simp [CC]; done) | (constructor <;> omega)))
     | with_reducible refine Br.not ?_
     | (with_reducible first | refine Br.tt (by assumption) ?_ | refine Br.ff (by assumption) ?_)
     | (refine Br.mk ?_ ?_ <;> intro hb <;> (try simp only [ZZ] at hb) <;> (first | omega | contradiction | skip))
     | refine Src.whole ⟨rfl, rfl⟩ ?_ | refine FrzV.whole ?_
     | refine CallW.use (hJ) ?_
     | refine CallW.use (hWh) ?_) <;> conv => whnf)
    refine CLe.ret (VLe.tup ?_)
    exact ⟨(PLe.nils false).p, VLe.refl _, trivial⟩
def jrO (ws : List Wd) (i n : Int) : HO := .var T.jread_reader (.p (.agg [.lst false (ws.map Wd.enc), .int .i64 i, .int .i64 n]))
theorem ElemZ.word {ws : List Wd} {i : Nat} {K : PV → Prop} {w : Wd} (h : ws[i]? = some w) (k : K w.enc) : ElemZ (ws.map Wd.enc) i 3 K := ⟨_, by rw [List.getElem?_map, h]; rfl, rfl, k⟩
theorem reader_word (ws : List Wd) (i : Nat) (n : Int) (w : Wd) (h : ws[i]? = some w) (hl : ws.length ≤ 1073741824) : AbsCall PP GG F.jread_reader_word [.ptr 0 0] [jrO ws i n] ⟨.ret (.p w.enc), [jrO ws i n], []⟩ := by
  have hi : i < ws.length := (List.getElem?_eq_some_iff.1 h).1
  have hml : (ws.map Wd.enc).length = ws.length := by simp
  refine absCall_of (pol := polG) mixP F.jread_reader_word_is ?_
  conv => whnf
  repeat' ((first
   | ((with_reducible first | refine Br.dec ?_ ?_ | refine Br.ndec ?_ ?_) <;> intro hb <;> (try simp only [And.intro @hml (ZZ)] at hb) <;> (first | omega | contradiction | skip))
   | (with_reducible first | refine Br.tt rfl ?_ | refine Br.ff rfl ?_ | refine Br.ff (isEmptyCons _ _) ?_)
   | ((with_reducible first | refine Side.mk ?_ ?_ | refine WrapW.mk ?_ ?_); focus (first | omega | (dsimp only [InR, Int.reduceToNat, IntKind.bits, Int.reducePow]; omega) | exact ⟨rfl, rfl⟩ | (rw [hml]; omega) | (simp [CC]; done) | (constructor <;> omega)))
   | with_reducible refine Br.not ?_
   | (with_reducible first | refine Br.tt (by assumption) ?_ | refine Br.ff (by assumption) ?_)
   | (refine Br.mk ?_ ?_ <;> intro hb <;> (try simp only [And.intro @hml (ZZ)] at hb) <;> (first | omega | contradiction | skip))
   | refine Src.whole ⟨rfl, rfl⟩ ?_ | refine FrzV.whole ?_
   | (refine ElemZ.word (w := w) (by simpa using h) ?_)) <;> conv => whnf)
  exact CLe.eq rfl
theorem reader_is (ws : List Wd) (i : Nat) (n : Int) (w : Wd) (h : ws[i]? = some w) (hl : ws.length ≤ 1073741824) (s : Str) : AbsCall PP GG F.jread_reader_is [.ptr 0 0, .p (.str s)] [jrO ws i n] ⟨.ret (.p (.bool (decide (w.k = 1 ∧ w.s = s)))), [jrO ws i n], []⟩ := by
  have hW := reader_word ws i n w h hl
  obtain ⟨k, ws', a⟩ := w
  refine absCall_of (pol := polG) mixP F.jread_reader_is_is ?_
  conv => whnf
  repeat' ((first
   | ((with_reducible first | refine Br.dec ?_ ?_ | refine Br.ndec ?_ ?_) <;> intro hb <;> (try simp only [ZZ] at hb) <;> (first | omega | contradiction | skip))
   | (with_reducible first | refine Br.tt rfl ?_ | refine Br.ff rfl ?_ | refine Br.ff (isEmptyCons _ _) ?_)
   | ((with_reducible first | refine Side.mk ?_ ?_ | refine WrapW.mk ?_ ?_); focus (first | omega | (dsimp only [InR, Int.reduceToNat, IntKind.bits, Int.reducePow]; omega) | (simp [CC]; done) | (constructor <;> omega)))
   | with_reducible refine Br.not ?_
   | (with_reducible first | refine Br.tt (by assumption) ?_ | refine Br.ff (by assumption) ?_)
   | (refine Br.mk ?_ ?_ <;> intro hb <;> (try simp only [ZZ] at hb) <;> (first | omega | contradiction | skip))
   | refine Src.whole ⟨rfl, rfl⟩ ?_ | refine FrzV.whole ?_
   | refine CallW.use (hW) ?_) <;> conv => whnf)
  · refine CLe.eq ?_
    simp only [hb, true_and]
    rfl
  · refine CLe.eq ?_
    simp only [hb, false_and, decide_false]
    rfl
theorem reader_take (ws : List Wd) (i : Nat) (n : Int) (w : Wd) (h : ws[i]? = some w) (hl : ws.length ≤ 1073741824) (s : Str) : AbsCall PP GG F.jread_reader_take [.ptr 0 0, .p (.str s)] [jrO ws i n] ⟨.ret (.p (.bool (decide (w.k = 1 ∧ w.s = s)))), [jrO ws (if w.k = 1 ∧ w.s = s then i + 1 else i) n], []⟩ := by
  have hI := reader_is ws i n w h hl s
  have hi : i < ws.length := (List.getElem?_eq_some_iff.1 h).1
  by_cases hq : w.k = 1 ∧ w.s = s
  · rw [if_pos hq]
    rw [decide_eq_true hq] at hI ⊢
    refine absCall_of (pol := polG) mixP F.jread_reader_take_is ?_
    conv => whnf
    repeat' ((first
     | ((with_reducible first | refine Br.dec ?_ ?_ | refine Br.ndec ?_ ?_) <;> intro hb <;> (try simp only [ZZ] at hb) <;> (first | omega | contradiction | skip))
     | (with_reducible first | refine Br.tt rfl ?_ | refine Br.ff rfl ?_ | refine Br.ff (isEmptyCons _ _) ?_)
     | ((with_reducible first | refine Side.mk ?_ ?_ | refine WrapW.mk ?_ ?_); focus (first | omega | (dsimp only [InR, Int.reduceToNat, IntKind.bits, Int.reducePow]; omega) | (simp [CC]; done) | (constructor <;> omega)))
     | with_reducible refine Br.not ?_
     | (with_reducible first | refine Br.tt (by assumption) ?_ | refine Br.ff (by assumption) ?_)
     | (refine Br.mk ?_ ?_ <;> intro hb <;> (try simp only [ZZ] at hb) <;> (first | omega | contradiction | skip))
     | refine Src.whole ⟨rfl, rfl⟩ ?_ | refine FrzV.whole ?_
     | refine CallW.use (hI) ?_) <;> conv => whnf)
    exact CLe.eq rfl
  · rw [if_neg hq]
    rw [decide_eq_false hq] at hI ⊢
    refine absCall_of (pol := polG) mixP F.jread_reader_take_is ?_
    conv => whnf
    repeat' ((first
     | ((with_reducible first | refine Br.dec ?_ ?_ | refine Br.ndec ?_ ?_) <;> intro hb <;> (try simp only [ZZ] at hb) <;> (first | omega | contradiction | skip))
     | (with_reducible first | refine Br.tt rfl ?_ | refine Br.ff rfl ?_ | refine Br.ff (isEmptyCons _ _) ?_)
     | ((with_reducible first | refine Side.mk ?_ ?_ | refine WrapW.mk ?_ ?_); focus (first | omega | (dsimp only [InR, Int.reduceToNat, IntKind.bits, Int.reducePow]; omega) | (simp [CC]; done) | (constructor <;> omega)))
     | with_reducible refine Br.not ?_
     | (with_reducible first | refine Br.tt (by assumption) ?_ | refine Br.ff (by assumption) ?_)
     | (refine Br.mk ?_ ?_ <;> intro hb <;> (try simp only [ZZ] at hb) <;> (first | omega | contradiction | skip))
     | refine Src.whole ⟨rfl, rfl⟩ ?_ | refine FrzV.whole ?_
     | refine CallW.use (hI) ?_) <;> conv => whnf)
    exact CLe.eq rfl
def wrongP (e a : Int) : V := .p (.iface T.jread_wrong (.agg [.int .i64 e, .int .i64 a]))
theorem reader_fail (ws : List Wd) (i : Nat) (n e : Int) (w : Wd) (h : ws[i]? = some w) (hl : ws.length ≤ 1073741824) : AbsCall PP GG F.jread_reader_fail [.ptr 0 0, .p (.int .i64 e)] [jrO ws i n] ⟨.pan (wrongP e w.a), [jrO ws i n], []⟩ := by
  have hW := reader_word ws i n w h hl
  obtain ⟨k, s, a⟩ := w
  refine absCall_of (pol := polG) mixP F.jread_reader_fail_is ?_
  conv => whnf
  repeat' ((first
   | ((with_reducible first | refine Br.dec ?_ ?_ | refine Br.ndec ?_ ?_) <;> intro hb <;> (try simp only [ZZ] at hb) <;> (first | omega | contradiction | skip))
   | (with_reducible first | refine Br.tt rfl ?_ | refine Br.ff rfl ?_ | refine Br.ff (isEmptyCons _ _) ?_)
   | ((with_reducible first | refine Side.mk ?_ ?_ | refine WrapW.mk ?_ ?_); focus (first | omega | (dsimp only [InR, Int.reduceToNat, IntKind.bits, Int.reducePow]; omega) | (simp [CC]; done) | (constructor <;> omega)))
   | with_reducible refine Br.not ?_
   | (with_reducible first | refine Br.tt (by assumption) ?_ | refine Br.ff (by assumption) ?_)
   | (refine Br.mk ?_ ?_ <;> intro hb <;> (try simp only [ZZ] at hb) <;> (first | omega | contradiction | skip))
   | refine Src.whole ⟨rfl, rfl⟩ ?_ | refine FrzV.whole ?_
   | refine CallW.use (hW) ?_) <;> conv => whnf)
  exact CLe.eq rfl
theorem reader_want_ok (ws : List Wd) (i : Nat) (n : Int) (w : Wd) (h : ws[i]? = some w) (hl : ws.length ≤ 1073741824) (s : Str) (hq : w.k = 1 ∧ w.s = s) : AbsCall PP GG F.jread_reader_want [.ptr 0 0, .p (.str s)] [jrO ws i n] ⟨.ret (.tup []), [jrO ws (i + 1) n], []⟩ := by
  have hT := reader_take ws i n w h hl s
  rw [if_pos hq, decide_eq_true hq] at hT
  refine absCall_of (pol := polG) mixP F.jread_reader_want_is ?_
  conv => whnf
  repeat' ((first
   | ((with_reducible first | refine Br.dec ?_ ?_ | refine Br.ndec ?_ ?_) <;> intro hb <;> (try simp only [ZZ] at hb) <;> (first | omega | contradiction | skip))
   | (with_reducible first | refine Br.tt rfl ?_ | refine Br.ff rfl ?_ | refine Br.ff (isEmptyCons _ _) ?_)
   | ((with_reducible first | refine Side.mk ?_ ?_ | refine WrapW.mk ?_ ?_); focus (first | omega | (dsimp only [InR, Int.reduceToNat, IntKind.bits, Int.reducePow]; omega) | (simp [CC]; done) | (constructor <;> omega)))
   | with_reducible refine Br.not ?_
   | (with_reducible first | refine Br.tt (by assumption) ?_ | refine Br.ff (by assumption) ?_)
   | (refine Br.mk ?_ ?_ <;> intro hb <;> (try simp only [ZZ] at hb) <;> (first | omega | contradiction | skip))
   | refine Src.whole ⟨rfl, rfl⟩ ?_ | refine FrzV.whole ?_
   | refine CallW.use (hT) ?_) <;> conv => whnf)
  exact CLe.eq rfl
theorem reader_want_no (ws : List Wd) (i : Nat) (n : Int) (w : Wd) (h : ws[i]? = some w) (hl : ws.length ≤ 1073741824) (s : Str) (hq : ¬ (w.k = 1 ∧ w.s = s)) : AbsCall PP GG F.jread_reader_want [.ptr 0 0, .p (.str s)] [jrO ws i n] ⟨.pan (wrongP 4 w.a), [jrO ws i n], []⟩ := by
  have hT := reader_take ws i n w h hl s
  rw [if_neg hq, decide_eq_false hq] at hT
  have hF := reader_fail ws i n 4 w h hl
  refine absCall_of (pol := polG) mixP F.jread_reader_want_is ?_
  conv => whnf
  repeat' ((first
   | ((with_reducible first | refine Br.dec ?_ ?_ | refine Br.ndec ?_ ?_) <;> intro hb <;> (try simp only [ZZ] at hb) <;> (first | omega | contradiction | skip))
   | (with_reducible first | refine Br.tt rfl ?_ | refine Br.ff rfl ?_ | refine Br.ff (isEmptyCons _ _) ?_)
   | ((with_reducible first | refine Side.mk ?_ ?_ | refine WrapW.mk ?_ ?_); focus (first | omega | (dsimp only [InR, Int.reduceToNat, IntKind.bits, Int.reducePow]; omega) | (simp [CC]; done) | (constructor <;> omega)))
   | with_reducible refine Br.not ?_
   | (with_reducible first | refine Br.tt (by assumption) ?_ | refine Br.ff (by assumption) ?_)
   | (refine Br.mk ?_ ?_ <;> intro hb <;> (try simp only [ZZ] at hb) <;> (first | omega | contradiction | skip))
   | refine Src.whole ⟨rfl, rfl⟩ ?_ | refine FrzV.whole ?_
   | refine CallW.use (hT) ?_
   | refine CallW.use (hF) ?_) <;> conv => whnf)
  exact CLe.eq rfl
end Go.Proofs.YtoinkmogdfjmmaaGreatDoor
end

section
namespace Go.Am
open Go
def leqS (a b : Str) : Bool := Op.bytesLess a b || decide (a = b)
def ownBad (k n : Int) (ls ll lm : Nat) : Prop := (k ≠ 1 ∧ k ≠ 2 ∧ n ≠ 0) ∨ (k ≠ 3 ∧ k ≠ 4 ∧ k ≠ 7 ∧ ls ≠ 0) ∨ (k ≠ 5 ∧ ll ≠ 0) ∨ (k ≠ 6 ∧ lm ≠ 0)
instance (k n : Int) (ls ll lm : Nat) : Decidable (ownBad k n ls ll lm) := by unfold ownBad; infer_instance
def nodeOk (k n : Int) (s : Str) : Bool :=
  if k = 0 ∨ k = 2 then true else if k = 1 then decide (n = 0 ∨ n = 1) else if k = 3 then numL s && !(refIntL s).2 else if k = 4 then strOk s else if k = 7 then stampOk s else decide (k = 5 ∨ k = 6)
mutual
def plainT : Tree → Bool
  | .mk k n s l m => if ownBad k n s.length l.length m.length then false else nodeOk k n s && (plainL l && plainM none m)
def plainL : List Tree → Bool
  | [] => true
  | t :: l => plainT t && plainL l
def plainM : Option Str → List (Str × Tree) → Bool
  | _, [] => true
  | o, p :: m => plainP o p && plainM (some p.1) m
def plainP : Option Str → Str × Tree → Bool
  | o, (k, t) => strOk k && (!(match o with | none => false | some p => leqS k p) && plainT t)
end
theorem plainT_eq (t : Tree) : plainT t = if ownBad t.kind t.n t.s.length t.l.length t.m.length then false else nodeOk t.kind t.n t.s && (plainL t.l && plainM none t.m) := by cases t; rw [plainT]; rfl
abbrev RR := Except (Int × Int) (Tree × Nat × Int)
def wdAt (ws : List Wd) (i : Nat) : Wd := (ws[i]?).getD ⟨0, [], 0⟩
def isS (w : Wd) (s : Str) : Bool := decide (w.k = 1 ∧ w.s = s)
def hasK (m : List (Str × Tree)) (k : Str) : Bool := m.any fun p => decide (p.1 = k)
def insK (k : Str) (x : Tree) : List (Str × Tree) → List (Str × Tree)
  | [] => [(k, x)]
  | p :: m => if leqS k p.1 = true then (k, x) :: p :: m else p :: insK k x m
def sortP : List (Str × Tree) → List (Str × Tree)
  | [] => []
  | p :: m => insK p.1 p.2 (sortP m)
def plainW (w : Wd) : Tree :=
  if w.k = 2 then .mk 4 0 w.s [] [] else
  if w.k = 3 then (if (refIntL w.s).2 = true then .mk 2 (refIntL w.s).1 [] [] [] else .mk 3 0 w.s [] []) else
  if w.s = [116, 114, 117, 101] then .mk 1 1 [] [] [] else
  if w.s = [102, 97, 108, 115, 101] then .mk 1 0 [] [] [] else .mk 0 0 [] [] []
mutual
def valR : Nat → List Wd → Int → Nat → Int → RR
  | 0, _, _, _, _ => .error (0, 0)
  | q + 1, ws, d, i, n =>
    if (wdAt ws i).k = 0 ∨ ((wdAt ws i).k = 1 ∧ ¬ (wdAt ws i).s = [123] ∧ ¬ (wdAt ws i).s = [91]) then .error (4, (wdAt ws i).a) else
    if 4096 < n + 1 ∨ 32 < d then .error (2, (wdAt ws i).a) else
    if isS (wdAt ws i) [91] = true then listR q ws d (i + 1) (n + 1) else
    if isS (wdAt ws i) [123] = true then pairsR q ws d (i + 1) (n + 1) else
    .ok (plainW (wdAt ws i), i + 1, n + 1)
def listR : Nat → List Wd → Int → Nat → Int → RR
  | 0, _, _, _, _ => .error (0, 0)
  | q + 1, ws, d, i, n => if isS (wdAt ws i) [93] = true then .ok (.mk 5 0 [] [] [], i + 1, n) else itemsR q ws d i n []
def itemsR : Nat → List Wd → Int → Nat → Int → List Tree → RR
  | 0, _, _, _, _, _ => .error (0, 0)
  | q + 1, ws, d, i, n, acc => match valR q ws (d + 1) i n with
    | .error e => .error e
    | .ok (x, j, m) =>
      if isS (wdAt ws j) [93] = true then .ok (.mk 5 0 [] (acc ++ [x]) [], j + 1, m) else
      if isS (wdAt ws j) [44] = true then itemsR q ws d (j + 1) m (acc ++ [x]) else .error (4, (wdAt ws j).a)
def pairsR : Nat → List Wd → Int → Nat → Int → RR
  | 0, _, _, _, _ => .error (0, 0)
  | q + 1, ws, d, i, n => if isS (wdAt ws i) [125] = true then .ok (.mk 6 0 [] [] [], i + 1, n) else entriesR q ws d i n []
def entriesR : Nat → List Wd → Int → Nat → Int → List (Str × Tree) → RR
  | 0, _, _, _, _, _ => .error (0, 0)
  | q + 1, ws, d, i, n, acc =>
    if ¬ (wdAt ws i).k = 2 then .error (4, (wdAt ws i).a) else
    if hasK acc (wdAt ws i).s = true then .error (5, (wdAt ws i).a) else
    if isS (wdAt ws (i + 1)) [58] = false then .error (4, (wdAt ws (i + 1)).a) else
    match valR q ws (d + 1) (i + 2) n with
    | .error e => .error e
    | .ok (x, j, m) =>
      if isS (wdAt ws j) [125] = true then .ok (.mk 6 0 [] [] (sortP (acc ++ [((wdAt ws i).s, x)])), j + 1, m) else
      if isS (wdAt ws j) [44] = true then entriesR q ws d (j + 1) m (acc ++ [((wdAt ws i).s, x)]) else .error (4, (wdAt ws j).a)
end
structure WsOk (ws : List Wd) : Prop where
  len : ws.length ≤ 65537
  end_ : ∀ i : Nat, i < ws.length → (wdAt ws i).k ≠ 0 → i + 1 < ws.length
  text : ∀ w ∈ ws, w.s.length ≤ 65536 ∧ 0 ≤ w.k ∧ w.k ≤ 4 ∧ (w.k = 4 → w.s = [116, 114, 117, 101] ∨ w.s = [102, 97, 108, 115, 101] ∨ w.s = [110, 117, 108, 108])
  pos : ∀ w ∈ ws, 0 ≤ w.a ∧ w.a ≤ 65536
theorem WsOk.at {ws : List Wd} (h : WsOk ws) {i : Nat} (hi : i < ws.length) : ws[i]? = some (wdAt ws i) ∧ wdAt ws i ∈ ws := by
  have : ws[i]? = some ws[i] := by simp [hi]
  unfold wdAt
  rw [this]
  exact ⟨rfl, List.getElem_mem hi⟩
def okR (ws : List Wd) (i : Nat) (n : Int) : RR → Prop
  | .error _ => True
  | .ok (_, j, m) => i < j ∧ j < ws.length ∧ n ≤ m ∧ m ≤ 4096
theorem isS_k {w : Wd} {s : Str} (h : isS w s = true) : w.k = 1 ∧ w.s = s := of_decide_eq_true h
theorem okR.up {ws : List Wd} {i j : Nat} {n m : Int} {r : RR} (hij : i ≤ j) (hnm : n ≤ m) (hr : okR ws j m r) : okR ws i n r := by
  cases r with
  | error e => trivial
  | ok x => exact ⟨by have := hr.1; omega, hr.2.1, by have := hr.2.2.1; omega, hr.2.2.2⟩
theorem okR_all {ws : List Wd} (h : WsOk ws) : ∀ q : Nat, (∀ d i n, i < ws.length → okR ws i (n + 1) (valR q ws d i n)) ∧ (∀ d i n, i < ws.length → n ≤ 4096 → okR ws i n (listR q ws d i n)) ∧
    (∀ d i n acc, i < ws.length → n ≤ 4096 → okR ws i n (itemsR q ws d i n acc)) ∧ (∀ d i n, i < ws.length → n ≤ 4096 → okR ws i n (pairsR q ws d i n)) ∧ (∀ d i n acc, i < ws.length → n ≤ 4096 → okR ws i n (entriesR q ws d i n acc)) := by
  have nx : ∀ {j : Nat} {s : Str}, j < ws.length → isS (wdAt ws j) s = true → j + 1 < ws.length := fun hj hs => h.end_ _ hj (by rw [(isS_k hs).1]; decide)
  intro q
  induction q with
  | zero => refine ⟨?_, ?_, ?_, ?_, ?_⟩ <;> intros <;> simp [valR, listR, itemsR, pairsR, entriesR, okR]
  | succ q ih =>
    obtain ⟨hv, hl, hi, hp, he⟩ := ih
    refine ⟨?_, ?_, ?_, ?_, ?_⟩
    · intro d i n hin
      rw [valR]
      split
      · trivial
      rename_i h1
      split
      · trivial
      rename_i h1'
      have h2 : i + 1 < ws.length := h.end_ i hin fun e => h1 (.inl e)
      split
      · exact okR.up (by omega) (by omega) (hl _ _ _ h2 (by omega))
      · split
        · exact okR.up (by omega) (by omega) (hp _ _ _ h2 (by omega))
        · exact ⟨by omega, h2, by omega, by omega⟩
    · intro d i n hin hn
      rw [listR]
      split
      · rename_i h1; exact ⟨by omega, nx hin h1, by omega, hn⟩
      · exact hi _ _ _ _ hin hn
    · intro d i n acc hin hn
      rw [itemsR]
      have hv' := hv (d + 1) i n hin
      cases hr : valR q ws (d + 1) i n with
      | error e => trivial
      | ok x =>
        obtain ⟨x, j, m⟩ := x
        rw [hr] at hv'
        obtain ⟨g1, g2, g3, g4⟩ := hv'
        simp only []
        split
        · rename_i h1; exact ⟨by omega, nx g2 h1, by omega, g4⟩
        · split
          · rename_i h1; exact okR.up (by omega) (by omega) (hi _ _ _ _ (nx g2 h1) g4)
          · trivial
    · intro d i n hin hn
      rw [pairsR]
      split
      · rename_i h1; exact ⟨by omega, nx hin h1, by omega, hn⟩
      · exact he _ _ _ _ hin hn
    · intro d i n acc hin hn
      rw [entriesR]
      split
      · trivial
      rename_i h0
      split
      · trivial
      split
      · trivial
      rename_i h3
      have h1 : i + 1 < ws.length := h.end_ i hin (by omega)
      have h3 : isS (wdAt ws (i + 1)) [58] = true := by simpa using h3
      have hv' := hv (d + 1) (i + 2) n (nx h1 h3)
      cases hr : valR q ws (d + 1) (i + 2) n with
      | error e => trivial
      | ok x =>
        obtain ⟨x, j, m⟩ := x
        rw [hr] at hv'
        obtain ⟨g1, g2, g3, g4⟩ := hv'
        simp only []
        split
        · rename_i h1; exact ⟨by omega, nx g2 h1, by omega, g4⟩
        · split
          · rename_i h1; exact okR.up (by omega) (by omega) (he _ _ _ _ (nx g2 h1) g4)
          · trivial
def errR : RR → Prop
  | .error e => (e.1 = 2 ∨ e.1 = 4 ∨ e.1 = 5) ∧ 0 ≤ e.2 ∧ e.2 ≤ 65536
  | .ok _ => True
theorem WsOk.a {ws : List Wd} (h : WsOk ws) (i : Nat) : 0 ≤ (wdAt ws i).a ∧ (wdAt ws i).a ≤ 65536 := by
  unfold wdAt
  cases hi : ws[i]? with
  | none => simp
  | some w => exact h.pos w (List.mem_of_getElem? hi)
theorem errR_all {ws : List Wd} (h : WsOk ws) : ∀ q : Nat, (∀ d i n, i < ws.length → 3 * (ws.length - i) + 1 ≤ q → errR (valR q ws d i n)) ∧ (∀ d i n, i < ws.length → n ≤ 4096 → 3 * (ws.length - i) + 3 ≤ q → errR (listR q ws d i n)) ∧
    (∀ d i n acc, i < ws.length → n ≤ 4096 → 3 * (ws.length - i) + 2 ≤ q → errR (itemsR q ws d i n acc)) ∧ (∀ d i n, i < ws.length → n ≤ 4096 → 3 * (ws.length - i) + 3 ≤ q → errR (pairsR q ws d i n)) ∧
    (∀ d i n acc, i < ws.length → n ≤ 4096 → 3 * (ws.length - i) + 2 ≤ q → errR (entriesR q ws d i n acc)) := by
  have nx : ∀ {j : Nat} {s : Str}, j < ws.length → isS (wdAt ws j) s = true → j + 1 < ws.length := fun hj hs => h.end_ _ hj (by rw [(isS_k hs).1]; decide)
  have e2 : ∀ i, errR (.error (2, (wdAt ws i).a)) := fun i => ⟨.inl rfl, h.a i⟩
  have e4 : ∀ i, errR (.error (4, (wdAt ws i).a)) := fun i => ⟨.inr (.inl rfl), h.a i⟩
  have e5 : ∀ i, errR (.error (5, (wdAt ws i).a)) := fun i => ⟨.inr (.inr rfl), h.a i⟩
  intro q
  induction q with
  | zero => refine ⟨?_, ?_, ?_, ?_, ?_⟩ <;> intros <;> omega
  | succ q ih =>
    obtain ⟨hv, hl, hi, hp, he⟩ := ih
    obtain ⟨kv, _⟩ := okR_all h q
    refine ⟨?_, ?_, ?_, ?_, ?_⟩
    · intro d i n hin hq
      rw [valR]
      split
      · exact e4 i
      rename_i h1
      split
      · exact e2 i
      rename_i h1'
      have h2 : i + 1 < ws.length := h.end_ i hin fun e => h1 (.inl e)
      split
      · exact hl _ _ _ h2 (by omega) (by omega)
      · split
        · exact hp _ _ _ h2 (by omega) (by omega)
        · trivial
    · intro d i n hin hn hq
      rw [listR]
      split
      · trivial
      · exact hi _ _ _ _ hin hn (by omega)
    · intro d i n acc hin hn hq
      rw [itemsR]
      have hv' := hv (d + 1) i n hin (by omega)
      have kv' := kv (d + 1) i n hin
      cases hr : valR q ws (d + 1) i n with
      | error e => rw [hr] at hv'; exact hv'
      | ok x =>
        obtain ⟨x, j, m⟩ := x
        rw [hr] at kv'
        obtain ⟨g1, g2, g3, g4⟩ := kv'
        simp only []
        split
        · trivial
        · split
          · rename_i h1; exact hi _ _ _ _ (nx g2 h1) g4 (by omega)
          · exact e4 j
    · intro d i n hin hn hq
      rw [pairsR]
      split
      · trivial
      · exact he _ _ _ _ hin hn (by omega)
    · intro d i n acc hin hn hq
      rw [entriesR]
      split
      · exact e4 i
      rename_i h0
      split
      · exact e5 i
      split
      · exact e4 (i + 1)
      rename_i h3
      have h1 : i + 1 < ws.length := h.end_ i hin (by omega)
      have h3 : isS (wdAt ws (i + 1)) [58] = true := by simpa using h3
      have hv' := hv (d + 1) (i + 2) n (nx h1 h3) (by omega)
      have kv' := kv (d + 1) (i + 2) n (nx h1 h3)
      cases hr : valR q ws (d + 1) (i + 2) n with
      | error e => rw [hr] at hv'; exact hv'
      | ok x =>
        obtain ⟨x, j, m⟩ := x
        rw [hr] at kv'
        obtain ⟨g1, g2, g3, g4⟩ := kv'
        simp only []
        split
        · trivial
        · split
          · rename_i h1; exact he _ _ _ _ (nx g2 h1) g4 (by omega)
          · exact e4 j
def wholeS (ws : List Wd) : Tree × Int × Int := match valR (3 * ws.length + 1) ws 1 0 0 with
  | .error e => (.mk 0 0 [] [] [], e)
  | .ok (v, j, _) => if (wdAt ws j).k = 0 then (v, 0, 0) else (.mk 0 0 [] [] [], 4, (wdAt ws j).a)
def parseS (t : Str) : Tree × Int × Int := if (cutT t).2.1 = 0 then wholeS (cutT t).1 else (.mk 0 0 [] [] [], (cutT t).2)
theorem wordL_word (t : Str) (a : Nat) (h : (wordL t a).2.2.1 = 0) : (wordL t a).1.s.length ≤ max 4096 t.length ∧ 1 ≤ (wordL t a).1.k ∧ (wordL t a).1.k ≤ 4 ∧
    ((wordL t a).1.k = 4 → (wordL t a).1.s = [116, 114, 117, 101] ∨ (wordL t a).1.s = [102, 97, 108, 115, 101] ∨ (wordL t a).1.s = [110, 117, 108, 108]) := by
  have hd : (t.drop a).length ≤ t.length := by rw [List.length_drop]; omega
  have ht : ∀ n : Nat, ((t.drop a).take n).length ≤ t.length := fun n => by rw [List.length_take]; omega
  unfold wordL at h ⊢
  split
  · rename_i h1
    have := ht 1
    exact ⟨by show ((t.drop a).take 1).length ≤ _; omega, by show (1 : Int) ≤ 1; decide, by show (1 : Int) ≤ 4; decide, fun e => absurd e (by show ¬ (1 : Int) = 4; decide)⟩
  rename_i h1
  rw [if_neg h1] at h
  split
  · rename_i h2
    rw [if_pos h2] at h
    split
    · rename_i h3; rw [if_pos h3] at h; simp at h
    rename_i h3
    rw [if_neg h3] at h
    split
    · rename_i h4; rw [if_pos h4] at h; simp at h
    rename_i h4
    exact ⟨by show (unquoteL t a).1.length ≤ _; omega, by show (1 : Int) ≤ 2; decide, by show (2 : Int) ≤ 4; decide, fun e => absurd e (by show ¬ (2 : Int) = 4; decide)⟩
  rename_i h2
  rw [if_neg h2] at h
  split
  · rename_i h3
    rw [if_pos h3] at h
    split
    · rename_i h4; rw [if_pos h4] at h; simp at h
    rename_i h4
    refine ⟨by have := ht (whileL (t.drop a) lowers); show ((t.drop a).take _).length ≤ _; omega, by show (1 : Int) ≤ 4; decide, by show (4 : Int) ≤ 4; decide, fun _ => ?_⟩
    show (t.drop a).take _ = _ ∨ (t.drop a).take _ = _ ∨ (t.drop a).take _ = _
    by_cases g1 : (t.drop a).take (whileL (t.drop a) lowers) = [116, 114, 117, 101]
    · exact .inl g1
    · by_cases g2 : (t.drop a).take (whileL (t.drop a) lowers) = [102, 97, 108, 115, 101]
      · exact .inr (.inl g2)
      · by_cases g3 : (t.drop a).take (whileL (t.drop a) lowers) = [110, 117, 108, 108]
        · exact .inr (.inr g3)
        · exact absurd ⟨g1, g2, g3⟩ h4
  rename_i h3
  rw [if_neg h3] at h
  split
  · rename_i h4; rw [if_pos h4] at h; simp at h
  rename_i h4
  rw [if_neg h4] at h
  split
  · rename_i h5; rw [if_pos h5] at h; exact absurd h h5
  have := ht (whileL (t.drop a) numBs)
  exact ⟨by show ((t.drop a).take _).length ≤ _; omega, by show (1 : Int) ≤ 3; decide, by show (3 : Int) ≤ 4; decide, fun e => absurd e (by show ¬ (3 : Int) = 4; decide)⟩
theorem wordL_a (t : Str) (a : Nat) : (wordL t a).1.a = a ∨ (wordL t a).1.a = 0 := by
  unfold wordL
  repeat' split
  all_goals first
    | exact .inl rfl
    | exact .inr rfl
theorem cutL_pos : ∀ (q : Nat) (t : Str) (a : Nat) (acc : List Wd), (∀ w ∈ acc, 0 ≤ w.a ∧ w.a ≤ t.length) → ∀ w ∈ (cutL q t a acc).1, 0 ≤ w.a ∧ w.a ≤ t.length
  | 0, t, a, acc, h => by rw [cutL]; exact h
  | q + 1, t, a, acc, h => by
    rw [cutL]
    split
    · exact h
    rename_i hl
    split
    · simp
    · refine cutL_pos q t _ _ fun w hw' => ?_
      rcases List.mem_append.1 hw' with hw' | hw'
      · exact h w hw'
      · have := wordL_a t a
        rw [List.mem_singleton.1 hw']
        omega
theorem cutL_words : ∀ (q : Nat) (t : Str) (a : Nat) (acc : List Wd), t.length ≤ 65536 →
    (∀ w ∈ acc, w.s.length ≤ 65536 ∧ 1 ≤ w.k ∧ w.k ≤ 4 ∧ (w.k = 4 → w.s = [116, 114, 117, 101] ∨ w.s = [102, 97, 108, 115, 101] ∨ w.s = [110, 117, 108, 108])) →
    ∀ w ∈ (cutL q t a acc).1, w.s.length ≤ 65536 ∧ 1 ≤ w.k ∧ w.k ≤ 4 ∧ (w.k = 4 → w.s = [116, 114, 117, 101] ∨ w.s = [102, 97, 108, 115, 101] ∨ w.s = [110, 117, 108, 108])
  | 0, t, a, acc, _, h => by rw [cutL]; exact h
  | q + 1, t, a, acc, ht, h => by
    rw [cutL]
    split
    · exact h
    split
    · simp
    rename_i hw
    refine cutL_words q t _ _ ht fun w hw' => ?_
    rcases List.mem_append.1 hw' with hw' | hw'
    · exact h w hw'
    · have := wordL_word t a (by simpa using hw)
      rw [List.mem_singleton.1 hw']
      exact ⟨by omega, this.2⟩
theorem cutT_ok (t : Str) (h : (cutT t).2.1 = 0) : WsOk (cutT t).1 := by
  unfold cutT at h ⊢
  split
  · rename_i h1; rw [if_pos h1] at h; exact absurd h h1
  rename_i h1
  rw [if_neg h1] at h
  split
  · rename_i h2; rw [if_pos h2] at h; exact absurd h h2
  have hl : t.length ≤ 65536 := by
    unfold judgeS at h1
    split at h1
    · simp at h1
    · omega
  have hw := whileL_le t blanksB
  have h3 := cutL_words (t.length + 1) t (whileL t blanksB) [] hl (by simp)
  have h5 := cutL_pos (t.length + 1) t (whileL t blanksB) [] (by simp)
  have h4 := cutL_len (t.length + 1) t (whileL t blanksB) [] hw (by simp)
  generalize (cutL (t.length + 1) t (whileL t blanksB) []).1 = l at h3 h4 h5 ⊢
  refine ⟨by simp; omega, fun i hi hk => ?_, fun w hw => ?_, fun w hw => ?_⟩
  · rw [List.length_append, List.length_singleton] at hi ⊢
    by_cases e : i = l.length
    · subst e
      refine absurd ?_ hk
      simp [wdAt]
    · omega
  · rcases List.mem_append.1 hw with hw | hw
    · have := h3 w hw
      exact ⟨this.1, by omega, this.2.2⟩
    · rw [List.mem_singleton.1 hw]
      exact ⟨by simp, by show (0 : Int) ≤ 0; decide, by show (0 : Int) ≤ 4; decide, fun e => absurd e (by show ¬ (0 : Int) = 4; decide)⟩
  · rcases List.mem_append.1 hw with hw | hw
    · have := h5 w hw
      omega
    · rw [List.mem_singleton.1 hw]
      exact ⟨by show (0 : Int) ≤ t.length; omega, by show (t.length : Int) ≤ 65536; omega⟩
theorem cutT_pos (t : Str) (h : (cutT t).2.1 = 0) : 0 < (cutT t).1.length := by
  unfold cutT at h ⊢
  split
  · rename_i h1; rw [if_pos h1] at h; exact absurd h h1
  rename_i h1
  rw [if_neg h1] at h
  split
  · rename_i h2; rw [if_pos h2] at h; exact absurd h h2
  simp
end Go.Am
end

section
namespace Go.Proofs.YtoinkmogdfjmmaaGreatDoor
open Go Go.Am Go.RowKit
set_option maxRecDepth 100000
theorem HLe.dead1 (o : HO) : HLe [o] [.dead] := ⟨fun n B L w _ => by
    rcases n with _ | n
    · exact .dead
    · exact .dead, fun n h => by
    rcases n with _ | n
    · exact h.elim
    · exact h.elim, rfl⟩
theorem CLe.dead {v : V} {o : HO} : CLe ⟨.pan v, [o], []⟩ ⟨.pan v, [.dead], []⟩ := ⟨OutLe.refl _, HLe.dead1 o, fun _ h => h⟩
theorem reader_failD (ws : List Wd) (i : Nat) (n e : Int) (w : Wd) (h : ws[i]? = some w) (hl : ws.length ≤ 1073741824) : AbsCall PP GG F.jread_reader_fail [.ptr 0 0, .p (.int .i64 e)] [jrO ws i n] ⟨.pan (wrongP e w.a), [.dead], []⟩ :=
  (reader_fail ws i n e w h hl).le CLe.dead
theorem reader_wantD (ws : List Wd) (i : Nat) (n : Int) (w : Wd) (h : ws[i]? = some w) (hl : ws.length ≤ 1073741824) (s : Str) (hq : ¬ (w.k = 1 ∧ w.s = s)) : AbsCall PP GG F.jread_reader_want [.ptr 0 0, .p (.str s)] [jrO ws i n] ⟨.pan (wrongP 4 w.a), [.dead], []⟩ :=
  (reader_want_no ws i n w h hl s hq).le CLe.dead
def resR (ws : List Wd) : RR → CR
  | .ok (t, j, m) => ⟨.ret (.p t.enc), [jrO ws j m], []⟩
  | .error (e, a) => ⟨.pan (wrongP e a), [.dead], []⟩
def ValAt (ws : List Wd) (q : Nat) : Prop := ∀ (d : Int) (i : Nat) (n : Int), i < ws.length → 3 * (ws.length - i) + 1 ≤ q → 0 ≤ d → d ≤ 33 → 0 ≤ n → n ≤ 4096 →
  AbsCall PP GG F.jread_reader_value [.ptr 0 0, .p (.int .i64 d)] [jrO ws i n] (resR ws (valR q ws d i n))
def ListAt (ws : List Wd) (q : Nat) : Prop := ∀ (d : Int) (i : Nat) (n : Int), i < ws.length → 3 * (ws.length - i) + 3 ≤ q → 0 ≤ d → d ≤ 32 → 0 ≤ n → n ≤ 4096 →
  AbsCall PP GG F.jread_reader_list [.ptr 0 0, .p (.int .i64 d)] [jrO ws i n] (resR ws (listR q ws d i n))
def PairsAt (ws : List Wd) (q : Nat) : Prop := ∀ (d : Int) (i : Nat) (n : Int), i < ws.length → 3 * (ws.length - i) + 3 ≤ q → 0 ≤ d → d ≤ 32 → 0 ≤ n → n ≤ 4096 →
  AbsCall PP GG F.jread_reader_pairs [.ptr 0 0, .p (.int .i64 d)] [jrO ws i n] (resR ws (pairsR q ws d i n))
theorem tree_nils (k n : Int) (s : Str) : VLe (.p (.agg [.int .i64 k, .int .i64 n, .str s, .nils, .nils])) (.p (Tree.mk k n s [] []).enc) :=
  (PLe.agg (show LeL [.int .i64 k, .int .i64 n, .str s, .nils, .nils] [.int .i64 k, .int .i64 n, .str s, .lst false [], .lst false []] from ⟨PLe.refl _, PLe.refl _, PLe.refl _, PLe.nils false, PLe.nils false, trivial⟩)).p
theorem isS_no {w : Wd} (x : Str) (h : ¬ w.k = 1) : isS w x = false := decide_eq_false fun e => h e.1
theorem value_end (ws : List Wd) (hl : ws.length ≤ 1073741824) (d : Int) (hd0 : 0 ≤ d) (hd1 : d ≤ 33) (i : Nat) (hi : i ≤ 1073741824) (n : Int) (hn0 : 0 ≤ n) (hn1 : n ≤ 4096) (a : Int) (s : Str) (hat : ws[i]? = some ⟨0, s, a⟩) : AbsCall PP GG F.jread_reader_value [.ptr 0 0, .p (.int .i64 d)] [jrO ws i n] ⟨.pan (wrongP 4 a), [.dead], []⟩ := by
  have hW := reader_word ws i n _ hat hl
  have hF1 := reader_failD ws i n 4 _ hat hl
  refine absCall_of (pol := polG) mixP F.jread_reader_value_is ?_
  conv => whnf
  repeat' ((first
   | ((with_reducible first | refine Br.dec ?_ ?_ | refine Br.ndec ?_ ?_) <;> intro hb <;> (try simp only [ZZ] at hb) <;> (first | omega | contradiction | skip))
   | (with_reducible first | refine Br.tt rfl ?_ | refine Br.ff rfl ?_ | refine Br.ff (isEmptyCons _ _) ?_)
   | ((with_reducible first | refine Side.mk ?_ ?_ | refine WrapW.mk ?_ ?_); focus (first | omega | (dsimp only [InR, Int.reduceToNat, IntKind.bits, Int.reducePow]; omega) | (simp [CC]; done) | (constructor <;> omega)))
   | with_reducible refine Br.not ?_
   | (with_reducible first | refine Br.tt (by assumption) ?_ | refine Br.ff (by assumption) ?_)
   | (refine Br.mk ?_ ?_ <;> intro hb <;> (try simp only [ZZ] at hb) <;> (first | omega | contradiction | skip))
   | refine Src.whole ⟨rfl, rfl⟩ ?_ | refine FrzV.whole ?_
   | refine CallW.use (hW) ?_
   | refine CallW.use (hF1) ?_) <;> conv => whnf)
  exact CLe.eq rfl
theorem value_sign (ws : List Wd) (hl : ws.length ≤ 1073741824) (d : Int) (hd0 : 0 ≤ d) (hd1 : d ≤ 33) (i : Nat) (hi : i ≤ 1073741824) (n : Int) (hn0 : 0 ≤ n) (hn1 : n ≤ 4096) (a : Int) (s : Str) (h1 : ¬ s = [123]) (h2 : ¬ s = [91]) (hat : ws[i]? = some ⟨1, s, a⟩) : AbsCall PP GG F.jread_reader_value [.ptr 0 0, .p (.int .i64 d)] [jrO ws i n] ⟨.pan (wrongP 4 a), [.dead], []⟩ := by
  have hW := reader_word ws i n _ hat hl
  have hF1 := reader_failD ws i n 4 _ hat hl
  have hI1 := reader_is ws i n _ hat hl [123]
  have hI2 := reader_is ws i n _ hat hl [91]
  rw [decide_eq_false (by simp [h1])] at hI1
  rw [decide_eq_false (by simp [h2])] at hI2
  refine absCall_of (pol := polG) mixP F.jread_reader_value_is ?_
  conv => whnf
  repeat' ((first
   | ((with_reducible first | refine Br.dec ?_ ?_ | refine Br.ndec ?_ ?_) <;> intro hb <;> (try simp only [ZZ] at hb) <;> (first | omega | contradiction | skip))
   | (with_reducible first | refine Br.tt rfl ?_ | refine Br.ff rfl ?_ | refine Br.ff (isEmptyCons _ _) ?_)
   | ((with_reducible first | refine Side.mk ?_ ?_ | refine WrapW.mk ?_ ?_); focus (first | omega | (dsimp only [InR, Int.reduceToNat, IntKind.bits, Int.reducePow]; omega) | (simp [CC]; done) | (constructor <;> omega)))
   | with_reducible refine Br.not ?_
   | (with_reducible first | refine Br.tt (by assumption) ?_ | refine Br.ff (by assumption) ?_)
   | (refine Br.mk ?_ ?_ <;> intro hb <;> (try simp only [ZZ] at hb) <;> (first | omega | contradiction | skip))
   | refine Src.whole ⟨rfl, rfl⟩ ?_ | refine FrzV.whole ?_
   | refine CallW.use (hW) ?_
   | refine CallW.use (hI1) ?_
   | refine CallW.use (hI2) ?_
   | refine CallW.use (hF1) ?_) <;> conv => whnf)
  exact CLe.eq rfl
theorem value_lim1 (ws : List Wd) (hl : ws.length ≤ 1073741824) (d : Int) (hd0 : 0 ≤ d) (hd1 : d ≤ 33) (i : Nat) (hi : i ≤ 1073741824) (n : Int) (hn0 : 0 ≤ n) (hn1 : n ≤ 4096) (a : Int) (hat : ws[i]? = some ⟨1, [123], a⟩) (hlim : 4096 < n + 1 ∨ 32 < d) : AbsCall PP GG F.jread_reader_value [.ptr 0 0, .p (.int .i64 d)] [jrO ws i n] ⟨.pan (wrongP 2 a), [.dead], []⟩ := by
  have hW := reader_word ws i n _ hat hl
  have hF2 := reader_failD ws i (n + 1) 2 _ hat hl
  have hI1 := reader_is ws i n _ hat hl [123]
  rw [decide_eq_true ⟨rfl, rfl⟩] at hI1
  refine absCall_of (pol := polG) mixP F.jread_reader_value_is ?_
  conv => whnf
  repeat' ((first
   | ((with_reducible first | refine Br.dec ?_ ?_ | refine Br.ndec ?_ ?_) <;> intro hb <;> (try simp only [ZZ] at hb) <;> (first | omega | contradiction | skip))
   | (with_reducible first | refine Br.tt rfl ?_ | refine Br.ff rfl ?_ | refine Br.ff (isEmptyCons _ _) ?_)
   | ((with_reducible first | refine Side.mk ?_ ?_ | refine WrapW.mk ?_ ?_); focus (first | omega | (dsimp only [InR, Int.reduceToNat, IntKind.bits, Int.reducePow]; omega) | (simp [CC]; done) | (constructor <;> omega)))
   | with_reducible refine Br.not ?_
   | (with_reducible first | refine Br.tt (by assumption) ?_ | refine Br.ff (by assumption) ?_)
   | (refine Br.mk ?_ ?_ <;> intro hb <;> (try simp only [ZZ] at hb) <;> (first | omega | contradiction | skip))
   | refine Src.whole ⟨rfl, rfl⟩ ?_ | refine FrzV.whole ?_
   | refine CallW.use (hW) ?_
   | refine CallW.use (hI1) ?_
   | refine CallW.use (hF2) ?_) <;> conv => whnf)
  all_goals exact CLe.eq rfl
theorem value_lim2 (ws : List Wd) (hl : ws.length ≤ 1073741824) (d : Int) (hd0 : 0 ≤ d) (hd1 : d ≤ 33) (i : Nat) (hi : i ≤ 1073741824) (n : Int) (hn0 : 0 ≤ n) (hn1 : n ≤ 4096) (a : Int) (hat : ws[i]? = some ⟨1, [91], a⟩) (hlim : 4096 < n + 1 ∨ 32 < d) : AbsCall PP GG F.jread_reader_value [.ptr 0 0, .p (.int .i64 d)] [jrO ws i n] ⟨.pan (wrongP 2 a), [.dead], []⟩ := by
  have hW := reader_word ws i n _ hat hl
  have hF2 := reader_failD ws i (n + 1) 2 _ hat hl
  have hI1 := reader_is ws i n _ hat hl [123]
  have hI2 := reader_is ws i n _ hat hl [91]
  rw [decide_eq_false (by simp)] at hI1
  rw [decide_eq_true ⟨rfl, rfl⟩] at hI2
  refine absCall_of (pol := polG) mixP F.jread_reader_value_is ?_
  conv => whnf
  repeat' ((first
   | ((with_reducible first | refine Br.dec ?_ ?_ | refine Br.ndec ?_ ?_) <;> intro hb <;> (try simp only [ZZ] at hb) <;> (first | omega | contradiction | skip))
   | (with_reducible first | refine Br.tt rfl ?_ | refine Br.ff rfl ?_ | refine Br.ff (isEmptyCons _ _) ?_)
   | ((with_reducible first | refine Side.mk ?_ ?_ | refine WrapW.mk ?_ ?_); focus (first | omega | (dsimp only [InR, Int.reduceToNat, IntKind.bits, Int.reducePow]; omega) | (simp [CC]; done) | (constructor <;> omega)))
   | with_reducible refine Br.not ?_
   | (with_reducible first | refine Br.tt (by assumption) ?_ | refine Br.ff (by assumption) ?_)
   | (refine Br.mk ?_ ?_ <;> intro hb <;> (try simp only [ZZ] at hb) <;> (first | omega | contradiction | skip))
   | refine Src.whole ⟨rfl, rfl⟩ ?_ | refine FrzV.whole ?_
   | refine CallW.use (hW) ?_
   | refine CallW.use (hI1) ?_
   | refine CallW.use (hI2) ?_
   | refine CallW.use (hF2) ?_) <;> conv => whnf)
  all_goals exact CLe.eq rfl
theorem value_lim3 (ws : List Wd) (hl : ws.length ≤ 1073741824) (d : Int) (hd0 : 0 ≤ d) (hd1 : d ≤ 33) (i : Nat) (hi : i ≤ 1073741824) (n : Int) (hn0 : 0 ≤ n) (hn1 : n ≤ 4096) (a : Int) (k : Int) (s : Str) (hk : k = 2 ∨ k = 3 ∨ k = 4) (hat : ws[i]? = some ⟨k, s, a⟩) (hlim : 4096 < n + 1 ∨ 32 < d) : AbsCall PP GG F.jread_reader_value [.ptr 0 0, .p (.int .i64 d)] [jrO ws i n] ⟨.pan (wrongP 2 a), [.dead], []⟩ := by
  have hW := reader_word ws i n _ hat hl
  have hF2 := reader_failD ws i (n + 1) 2 _ hat hl
  have hk0 : ¬ k = 0 := by omega
  have hk1 : ¬ k = 1 := by omega
  refine absCall_of (pol := polG) mixP F.jread_reader_value_is ?_
  conv => whnf
  repeat' ((first
   | ((with_reducible first | refine Br.dec ?_ ?_ | refine Br.ndec ?_ ?_) <;> intro hb <;> (try simp only [ZZ] at hb) <;> (first | omega | contradiction | skip))
   | (with_reducible first | refine Br.tt rfl ?_ | refine Br.ff rfl ?_ | refine Br.ff (isEmptyCons _ _) ?_)
   | ((with_reducible first | refine Side.mk ?_ ?_ | refine WrapW.mk ?_ ?_); focus (first | omega | (dsimp only [InR, Int.reduceToNat, IntKind.bits, Int.reducePow]; omega) | (simp [CC]; done) | (constructor <;> omega)))
   | with_reducible refine Br.not ?_
   | (with_reducible first | refine Br.tt (by assumption) ?_ | refine Br.ff (by assumption) ?_)
   | (refine Br.mk ?_ ?_ <;> intro hb <;> (try simp only [ZZ] at hb) <;> (first | omega | contradiction | skip))
   | refine Src.whole ⟨rfl, rfl⟩ ?_ | refine FrzV.whole ?_
   | refine CallW.use (hW) ?_
   | refine CallW.use (hF2) ?_) <;> conv => whnf)
  all_goals exact CLe.eq rfl
theorem value_map (ws : List Wd) (hl : ws.length ≤ 1073741824) (d : Int) (hd0 : 0 ≤ d) (hd1 : d ≤ 33) (i : Nat) (hi : i ≤ 1073741824) (n : Int) (hn0 : 0 ≤ n) (hn1 : n ≤ 4096) (a : Int) (hlim1 : n + 1 ≤ 4096) (hlim2 : d ≤ 32) (hat : ws[i]? = some ⟨1, [123], a⟩) (R : RR) (hP : AbsCall PP GG F.jread_reader_pairs [.ptr 0 0, .p (.int .i64 d)] [jrO ws (i + 1 : Nat) (n + 1)] (resR ws R)) : AbsCall PP GG F.jread_reader_value [.ptr 0 0, .p (.int .i64 d)] [jrO ws i n] (resR ws R) := by
  have hW := reader_word ws i n _ hat hl
  have hI1 := reader_is ws i n _ hat hl [123]
  rw [decide_eq_true ⟨rfl, rfl⟩] at hI1
  rcases R with ⟨e, a⟩ | ⟨⟨x1, x2, x3, x4, x5⟩, j, m⟩
  · refine absCall_of (pol := polG) mixP F.jread_reader_value_is ?_
    conv => whnf
    repeat' ((first
     | ((with_reducible first | refine Br.dec ?_ ?_ | refine Br.ndec ?_ ?_) <;> intro hb <;> (try simp only [ZZ] at hb) <;> (first | omega | contradiction | skip))
     | (with_reducible first | refine Br.tt rfl ?_ | refine Br.ff rfl ?_ | refine Br.ff (isEmptyCons _ _) ?_)
     | ((with_reducible first | refine Side.mk ?_ ?_ | refine WrapW.mk ?_ ?_); focus (first | omega | (dsimp only [InR, Int.reduceToNat, IntKind.bits, Int.reducePow]; omega) | (simp [CC]; done) | (constructor <;> omega)))
     | with_reducible refine Br.not ?_
     | (with_reducible first | refine Br.tt (by assumption) ?_ | refine Br.ff (by assumption) ?_)
     | (refine Br.mk ?_ ?_ <;> intro hb <;> (try simp only [ZZ] at hb) <;> (first | omega | contradiction | skip))
     | refine Src.whole ⟨rfl, rfl⟩ ?_ | refine FrzV.whole ?_
     | refine CallW.use (hW) ?_
     | refine CallW.use (hI1) ?_
     | refine CallW.use (hP) ?_) <;> conv => whnf)
    all_goals exact CLe.eq rfl
  · refine absCall_of (pol := polG) mixP F.jread_reader_value_is ?_
    conv => whnf
    repeat' ((first
     | ((with_reducible first | refine Br.dec ?_ ?_ | refine Br.ndec ?_ ?_) <;> intro hb <;> (try simp only [ZZ] at hb) <;> (first | omega | contradiction | skip))
     | (with_reducible first | refine Br.tt rfl ?_ | refine Br.ff rfl ?_ | refine Br.ff (isEmptyCons _ _) ?_)
     | ((with_reducible first | refine Side.mk ?_ ?_ | refine WrapW.mk ?_ ?_); focus (first | omega | (dsimp only [InR, Int.reduceToNat, IntKind.bits, Int.reducePow]; omega) | (simp [CC]; done) | (constructor <;> omega)))
     | with_reducible refine Br.not ?_
     | (with_reducible first | refine Br.tt (by assumption) ?_ | refine Br.ff (by assumption) ?_)
     | (refine Br.mk ?_ ?_ <;> intro hb <;> (try simp only [ZZ] at hb) <;> (first | omega | contradiction | skip))
     | refine Src.whole ⟨rfl, rfl⟩ ?_ | refine FrzV.whole ?_
     | refine CallW.use (hW) ?_
     | refine CallW.use (hI1) ?_
     | refine CallW.use (hP) ?_) <;> conv => whnf)
    all_goals exact CLe.eq rfl
theorem value_list (ws : List Wd) (hl : ws.length ≤ 1073741824) (d : Int) (hd0 : 0 ≤ d) (hd1 : d ≤ 33) (i : Nat) (hi : i ≤ 1073741824) (n : Int) (hn0 : 0 ≤ n) (hn1 : n ≤ 4096) (a : Int) (hlim1 : n + 1 ≤ 4096) (hlim2 : d ≤ 32) (hat : ws[i]? = some ⟨1, [91], a⟩) (R : RR) (hP : AbsCall PP GG F.jread_reader_list [.ptr 0 0, .p (.int .i64 d)] [jrO ws (i + 1 : Nat) (n + 1)] (resR ws R)) : AbsCall PP GG F.jread_reader_value [.ptr 0 0, .p (.int .i64 d)] [jrO ws i n] (resR ws R) := by
  have hW := reader_word ws i n _ hat hl
  have hI1 := reader_is ws i n _ hat hl [123]
  have hI2 := reader_is ws i n _ hat hl [91]
  rw [decide_eq_false (by simp)] at hI1
  rw [decide_eq_true ⟨rfl, rfl⟩] at hI2
  rcases R with ⟨e, a⟩ | ⟨⟨x1, x2, x3, x4, x5⟩, j, m⟩
  · refine absCall_of (pol := polG) mixP F.jread_reader_value_is ?_
    conv => whnf
    repeat' ((first
     | ((with_reducible first | refine Br.dec ?_ ?_ | refine Br.ndec ?_ ?_) <;> intro hb <;> (try simp only [ZZ] at hb) <;> (first | omega | contradiction | skip))
     | (with_reducible first | refine Br.tt rfl ?_ | refine Br.ff rfl ?_ | refine Br.ff (isEmptyCons _ _) ?_)
     | ((with_reducible first | refine Side.mk ?_ ?_ | refine WrapW.mk ?_ ?_); focus (first | omega | (dsimp only [InR, Int.reduceToNat, IntKind.bits, Int.reducePow]; omega) | (simp [CC]; done) | (constructor <;> omega)))
     | with_reducible refine Br.not ?_
     | (with_reducible first | refine Br.tt (by assumption) ?_ | refine Br.ff (by assumption) ?_)
     | (refine Br.mk ?_ ?_ <;> intro hb <;> (try simp only [ZZ] at hb) <;> (first | omega | contradiction | skip))
     | refine Src.whole ⟨rfl, rfl⟩ ?_ | refine FrzV.whole ?_
     | refine CallW.use (hW) ?_
     | refine CallW.use (hI1) ?_
     | refine CallW.use (hI2) ?_
     | refine CallW.use (hP) ?_) <;> conv => whnf)
    all_goals exact CLe.eq rfl
  · refine absCall_of (pol := polG) mixP F.jread_reader_value_is ?_
    conv => whnf
    repeat' ((first
     | ((with_reducible first | refine Br.dec ?_ ?_ | refine Br.ndec ?_ ?_) <;> intro hb <;> (try simp only [ZZ] at hb) <;> (first | omega | contradiction | skip))
     | (with_reducible first | refine Br.tt rfl ?_ | refine Br.ff rfl ?_ | refine Br.ff (isEmptyCons _ _) ?_)
     | ((with_reducible first | refine Side.mk ?_ ?_ | refine WrapW.mk ?_ ?_); focus (first | omega | (dsimp only [InR, Int.reduceToNat, IntKind.bits, Int.reducePow]; omega) | (simp [CC]; done) | (constructor <;> omega)))
     | with_reducible refine Br.not ?_
     | (with_reducible first | refine Br.tt (by assumption) ?_ | refine Br.ff (by assumption) ?_)
     | (refine Br.mk ?_ ?_ <;> intro hb <;> (try simp only [ZZ] at hb) <;> (first | omega | contradiction | skip))
     | refine Src.whole ⟨rfl, rfl⟩ ?_ | refine FrzV.whole ?_
     | refine CallW.use (hW) ?_
     | refine CallW.use (hI1) ?_
     | refine CallW.use (hI2) ?_
     | refine CallW.use (hP) ?_) <;> conv => whnf)
    all_goals exact CLe.eq rfl
theorem value_str (ws : List Wd) (hl : ws.length ≤ 1073741824) (d : Int) (hd0 : 0 ≤ d) (hd1 : d ≤ 33) (i : Nat) (hi : i ≤ 1073741824) (n : Int) (hn0 : 0 ≤ n) (hn1 : n ≤ 4096) (a : Int) (hlim1 : n + 1 ≤ 4096) (hlim2 : d ≤ 32) (s : Str) (hat : ws[i]? = some ⟨2, s, a⟩) : AbsCall PP GG F.jread_reader_value [.ptr 0 0, .p (.int .i64 d)] [jrO ws i n] ⟨.ret (.p (Tree.mk 4 0 s [] []).enc), [jrO ws (i + 1 : Nat) (n + 1)], []⟩ := by
  have hW := reader_word ws i n _ hat hl
  refine absCall_of (pol := polG) mixP F.jread_reader_value_is ?_
  conv => whnf
  repeat' ((first
   | ((with_reducible first | refine Br.dec ?_ ?_ | refine Br.ndec ?_ ?_) <;> intro hb <;> (try simp only [ZZ] at hb) <;> (first | omega | contradiction | skip))
   | (with_reducible first | refine Br.tt rfl ?_ | refine Br.ff rfl ?_ | refine Br.ff (isEmptyCons _ _) ?_)
   | ((with_reducible first | refine Side.mk ?_ ?_ | refine WrapW.mk ?_ ?_); focus (first | omega | (dsimp only [InR, Int.reduceToNat, IntKind.bits, Int.reducePow]; omega) | (simp [CC]; done) | (constructor <;> omega)))
   | with_reducible refine Br.not ?_
   | (with_reducible first | refine Br.tt (by assumption) ?_ | refine Br.ff (by assumption) ?_)
   | (refine Br.mk ?_ ?_ <;> intro hb <;> (try simp only [ZZ] at hb) <;> (first | omega | contradiction | skip))
   | refine Src.whole ⟨rfl, rfl⟩ ?_ | refine FrzV.whole ?_
   | refine CallW.use (hW) ?_) <;> conv => whnf)
  exact CLe.ret (tree_nils 4 0 s)
theorem value_num (ws : List Wd) (hl : ws.length ≤ 1073741824) (d : Int) (hd0 : 0 ≤ d) (hd1 : d ≤ 33) (i : Nat) (hi : i ≤ 1073741824) (n : Int) (hn0 : 0 ≤ n) (hn1 : n ≤ 4096) (a : Int) (hlim1 : n + 1 ≤ 4096) (hlim2 : d ≤ 32) (s : Str) (hs : s.length ≤ 1073741824) (hat : ws[i]? = some ⟨3, s, a⟩) : AbsCall PP GG F.jread_reader_value [.ptr 0 0, .p (.int .i64 d)] [jrO ws i n]
    ⟨.ret (.p (if (refIntL s).2 = true then Tree.mk 2 (refIntL s).1 [] [] [] else Tree.mk 3 0 s [] []).enc), [jrO ws (i + 1 : Nat) (n + 1)], []⟩ := by
  have hW := reader_word ws i n _ hat hl
  have hI := dec_Int s hs
  generalize refIntL s = u at hI ⊢
  obtain ⟨u, b⟩ := u
  dsimp only [] at hI ⊢
  cases b with
  | true =>
    rw [if_pos rfl]
    refine absCall_of (pol := polG) mixP F.jread_reader_value_is ?_
    conv => whnf
    repeat' ((first
     | ((with_reducible first | refine Br.dec ?_ ?_ | refine Br.ndec ?_ ?_) <;> intro hb <;> (try simp only [ZZ] at hb) <;> (first | omega | contradiction | skip))
     | (with_reducible first | refine Br.tt rfl ?_ | refine Br.ff rfl ?_ | refine Br.ff (isEmptyCons _ _) ?_)
     | ((with_reducible first | refine Side.mk ?_ ?_ | refine WrapW.mk ?_ ?_); focus (first | omega | (dsimp only [InR, Int.reduceToNat, IntKind.bits, Int.reducePow]; omega) | (simp [CC]; done) | (constructor <;> omega)))
     | with_reducible refine Br.not ?_
     | (with_reducible first | refine Br.tt (by assumption) ?_ | refine Br.ff (by assumption) ?_)
     | (refine Br.mk ?_ ?_ <;> intro hb <;> (try simp only [ZZ] at hb) <;> (first | omega | contradiction | skip))
     | refine Src.whole ⟨rfl, rfl⟩ ?_ | refine FrzV.whole ?_
     | refine CallW.use (hW) ?_
     | refine CallW.use (hI) ?_) <;> conv => whnf)
    exact CLe.ret (tree_nils 2 u [])
  | false =>
    rw [if_neg (by decide)]
    refine absCall_of (pol := polG) mixP F.jread_reader_value_is ?_
    conv => whnf
    repeat' ((first
     | ((with_reducible first | refine Br.dec ?_ ?_ | refine Br.ndec ?_ ?_) <;> intro hb <;> (try simp only [ZZ] at hb) <;> (first | omega | contradiction | skip))
     | (with_reducible first | refine Br.tt rfl ?_ | refine Br.ff rfl ?_ | refine Br.ff (isEmptyCons _ _) ?_)
     | ((with_reducible first | refine Side.mk ?_ ?_ | refine WrapW.mk ?_ ?_); focus (first | omega | (dsimp only [InR, Int.reduceToNat, IntKind.bits, Int.reducePow]; omega) | (simp [CC]; done) | (constructor <;> omega)))
     | with_reducible refine Br.not ?_
     | (with_reducible first | refine Br.tt (by assumption) ?_ | refine Br.ff (by assumption) ?_)
     | (refine Br.mk ?_ ?_ <;> intro hb <;> (try simp only [ZZ] at hb) <;> (first | omega | contradiction | skip))
     | refine Src.whole ⟨rfl, rfl⟩ ?_ | refine FrzV.whole ?_
     | refine CallW.use (hW) ?_
     | refine CallW.use (hI) ?_) <;> conv => whnf)
    exact CLe.ret (tree_nils 3 0 s)
theorem value_true (ws : List Wd) (hl : ws.length ≤ 1073741824) (d : Int) (hd0 : 0 ≤ d) (hd1 : d ≤ 33) (i : Nat) (hi : i ≤ 1073741824) (n : Int) (hn0 : 0 ≤ n) (hn1 : n ≤ 4096) (a : Int) (hlim1 : n + 1 ≤ 4096) (hlim2 : d ≤ 32) (hat : ws[i]? = some ⟨4, [116, 114, 117, 101], a⟩) : AbsCall PP GG F.jread_reader_value [.ptr 0 0, .p (.int .i64 d)] [jrO ws i n] ⟨.ret (.p (Tree.mk 1 1 [] [] []).enc), [jrO ws (i + 1 : Nat) (n + 1)], []⟩ := by
  have hW := reader_word ws i n _ hat hl
  refine absCall_of (pol := polG) mixP F.jread_reader_value_is ?_
  conv => whnf
  repeat' ((first
   | ((with_reducible first | refine Br.dec ?_ ?_ | refine Br.ndec ?_ ?_) <;> intro hb <;> (try simp only [ZZ] at hb) <;> (first | omega | contradiction | skip))
   | (with_reducible first | refine Br.tt rfl ?_ | refine Br.ff rfl ?_ | refine Br.ff (isEmptyCons _ _) ?_)
   | ((with_reducible first | refine Side.mk ?_ ?_ | refine WrapW.mk ?_ ?_); focus (first | omega | (dsimp only [InR, Int.reduceToNat, IntKind.bits, Int.reducePow]; omega) | (simp [CC]; done) | (constructor <;> omega)))
   | with_reducible refine Br.not ?_
   | (with_reducible first | refine Br.tt (by assumption) ?_ | refine Br.ff (by assumption) ?_)
   | (refine Br.mk ?_ ?_ <;> intro hb <;> (try simp only [ZZ] at hb) <;> (first | omega | contradiction | skip))
   | refine Src.whole ⟨rfl, rfl⟩ ?_ | refine FrzV.whole ?_
   | refine CallW.use (hW) ?_) <;> conv => whnf)
  exact CLe.ret (tree_nils 1 1 [])
theorem value_false (ws : List Wd) (hl : ws.length ≤ 1073741824) (d : Int) (hd0 : 0 ≤ d) (hd1 : d ≤ 33) (i : Nat) (hi : i ≤ 1073741824) (n : Int) (hn0 : 0 ≤ n) (hn1 : n ≤ 4096) (a : Int) (hlim1 : n + 1 ≤ 4096) (hlim2 : d ≤ 32) (hat : ws[i]? = some ⟨4, [102, 97, 108, 115, 101], a⟩) : AbsCall PP GG F.jread_reader_value [.ptr 0 0, .p (.int .i64 d)] [jrO ws i n] ⟨.ret (.p (Tree.mk 1 0 [] [] []).enc), [jrO ws (i + 1 : Nat) (n + 1)], []⟩ := by
  have hW := reader_word ws i n _ hat hl
  refine absCall_of (pol := polG) mixP F.jread_reader_value_is ?_
  conv => whnf
  repeat' ((first
   | ((with_reducible first | refine Br.dec ?_ ?_ | refine Br.ndec ?_ ?_) <;> intro hb <;> (try simp only [ZZ] at hb) <;> (first | omega | contradiction | skip))
   | (with_reducible first | refine Br.tt rfl ?_ | refine Br.ff rfl ?_ | refine Br.ff (isEmptyCons _ _) ?_)
   | ((with_reducible first | refine Side.mk ?_ ?_ | refine WrapW.mk ?_ ?_); focus (first | omega | (dsimp only [InR, Int.reduceToNat, IntKind.bits, Int.reducePow]; omega) | (simp [CC]; done) | (constructor <;> omega)))
   | with_reducible refine Br.not ?_
   | (with_reducible first | refine Br.tt (by assumption) ?_ | refine Br.ff (by assumption) ?_)
   | (refine Br.mk ?_ ?_ <;> intro hb <;> (try simp only [ZZ] at hb) <;> (first | omega | contradiction | skip))
   | refine Src.whole ⟨rfl, rfl⟩ ?_ | refine FrzV.whole ?_
   | refine CallW.use (hW) ?_) <;> conv => whnf)
  exact CLe.ret (tree_nils 1 0 [])
theorem value_null (ws : List Wd) (hl : ws.length ≤ 1073741824) (d : Int) (hd0 : 0 ≤ d) (hd1 : d ≤ 33) (i : Nat) (hi : i ≤ 1073741824) (n : Int) (hn0 : 0 ≤ n) (hn1 : n ≤ 4096) (a : Int) (hlim1 : n + 1 ≤ 4096) (hlim2 : d ≤ 32) (hat : ws[i]? = some ⟨4, [110, 117, 108, 108], a⟩) : AbsCall PP GG F.jread_reader_value [.ptr 0 0, .p (.int .i64 d)] [jrO ws i n] ⟨.ret (.p (Tree.mk 0 0 [] [] []).enc), [jrO ws (i + 1 : Nat) (n + 1)], []⟩ := by
  have hW := reader_word ws i n _ hat hl
  refine absCall_of (pol := polG) mixP F.jread_reader_value_is ?_
  conv => whnf
  repeat' ((first
   | ((with_reducible first | refine Br.dec ?_ ?_ | refine Br.ndec ?_ ?_) <;> intro hb <;> (try simp only [ZZ] at hb) <;> (first | omega | contradiction | skip))
   | (with_reducible first | refine Br.tt rfl ?_ | refine Br.ff rfl ?_ | refine Br.ff (isEmptyCons _ _) ?_)
   | ((with_reducible first | refine Side.mk ?_ ?_ | refine WrapW.mk ?_ ?_); focus (first | omega | (dsimp only [InR, Int.reduceToNat, IntKind.bits, Int.reducePow]; omega) | (simp [CC]; done) | (constructor <;> omega)))
   | with_reducible refine Br.not ?_
   | (with_reducible first | refine Br.tt (by assumption) ?_ | refine Br.ff (by assumption) ?_)
   | (refine Br.mk ?_ ?_ <;> intro hb <;> (try simp only [ZZ] at hb) <;> (first | omega | contradiction | skip))
   | refine Src.whole ⟨rfl, rfl⟩ ?_ | refine FrzV.whole ?_
   | refine CallW.use (hW) ?_) <;> conv => whnf)
  exact CLe.ret (tree_nils 0 0 [])
theorem reader_value_step (ws : List Wd) (hw : WsOk ws) (q : Nat) (hL : ListAt ws q) (hP : PairsAt ws q) : ValAt ws (q + 1) := by
  intro d i n hi hq h0 h1 h2 h3
  obtain ⟨hat, hmem⟩ := hw.at hi
  have hlen := hw.len
  have htx := hw.text _ hmem
  have hend := hw.end_ i hi
  have hL := fun h => hL d (i + 1) (n + 1) h (by omega) h0
  have hP := fun h => hP d (i + 1) (n + 1) h (by omega) h0
  rw [valR]
  generalize hwd : wdAt ws i = w at *
  obtain ⟨k, s, a⟩ := w
  have hl : ws.length ≤ 1073741824 := by omega
  have hi' : i ≤ 1073741824 := by omega
  by_cases hbad : k = 0 ∨ (k = 1 ∧ ¬ s = [123] ∧ ¬ s = [91])
  · rw [if_pos hbad]
    rcases hbad with hk | ⟨hk, ha, hb⟩
    · subst hk
      exact value_end ws hl d h0 h1 i hi' n h2 h3 a s hat
    · subst hk
      exact value_sign ws hl d h0 h1 i hi' n h2 h3 a s ha hb hat
  rw [if_neg hbad]
  have hk0 : ¬ k = 0 := fun e => hbad (.inl e)
  have htx' : 0 ≤ k ∧ k ≤ 4 := ⟨htx.2.1, htx.2.2.1⟩
  have hkind : (k = 1 ∧ s = [123]) ∨ (k = 1 ∧ s = [91]) ∨ k = 2 ∨ k = 3 ∨ k = 4 := by
    by_cases g1 : k = 1
    · by_cases g2 : s = [123]
      · exact .inl ⟨g1, g2⟩
      · by_cases g3 : s = [91]
        · exact .inr (.inl ⟨g1, g3⟩)
        · exact absurd (.inr ⟨g1, g2, g3⟩) hbad
    · omega
  clear hbad
  have hi1 := hend hk0
  by_cases hlim : 4096 < n + 1 ∨ 32 < d
  · rw [if_pos hlim]
    rcases hkind with ⟨hk, hs⟩ | ⟨hk, hs⟩ | hk
    · subst hk; subst hs
      exact value_lim1 ws hl d h0 h1 i hi' n h2 h3 a hat hlim
    · subst hk; subst hs
      exact value_lim2 ws hl d h0 h1 i hi' n h2 h3 a hat hlim
    · exact value_lim3 ws hl d h0 h1 i hi' n h2 h3 a k s hk hat hlim
  rw [if_neg hlim]
  have hlim1 : n + 1 ≤ 4096 := by omega
  have hlim2 : d ≤ 32 := by omega
  have hL := hL hi1 (by omega) (by omega) (by omega)
  have hP := hP hi1 (by omega) (by omega) (by omega)
  rcases hkind with ⟨hk, hs⟩ | ⟨hk, hs⟩ | hk | hk | hk
  · subst hk; subst hs
    rw [show isS ⟨1, [123], a⟩ [91] = false from rfl, show isS ⟨1, [123], a⟩ [123] = true from rfl, if_neg (by decide), if_pos rfl]
    exact value_map ws hl d h0 h1 i hi' n h2 h3 a hlim1 hlim2 hat _ hP
  · subst hk; subst hs
    rw [show isS ⟨1, [91], a⟩ [91] = true from rfl, if_pos rfl]
    exact value_list ws hl d h0 h1 i hi' n h2 h3 a hlim1 hlim2 hat _ hL
  all_goals
    subst hk
    rw [isS_no (w := ⟨_, s, a⟩) [91] (by simp), isS_no (w := ⟨_, s, a⟩) [123] (by simp), if_neg (by decide), if_neg (by decide)]
  · exact value_str ws hl d h0 h1 i hi' n h2 h3 a hlim1 hlim2 s hat
  · have := value_num ws hl d h0 h1 i hi' n h2 h3 a hlim1 hlim2 s (by have := htx.1; simp only [] at this; omega) hat
    exact this
  · rcases htx.2.2.2 rfl with hs | hs | hs
    · simp only [] at hs; subst hs; exact value_true ws hl d h0 h1 i hi' n h2 h3 a hlim1 hlim2 hat
    · simp only [] at hs; subst hs; exact value_false ws hl d h0 h1 i hi' n h2 h3 a hlim1 hlim2 hat
    · simp only [] at hs; subst hs; exact value_null ws hl d h0 h1 i hi' n h2 h3 a hlim1 hlim2 hat
theorem take_yes {ws : List Wd} {j : Nat} {n : Int} {s : Str} (hat : ws[j]? = some (wdAt ws j)) (hl : ws.length ≤ 1073741824) (h : isS (wdAt ws j) s = true) :
    AbsCall PP GG F.jread_reader_take [.ptr 0 0, .p (.str s)] [jrO ws j n] ⟨.ret (.p (.bool true)), [jrO ws (j + 1 : Nat) n], []⟩ := by
  have := reader_take ws j n (wdAt ws j) hat hl s
  rw [if_pos (isS_k h), decide_eq_true (isS_k h)] at this
  exact this
theorem take_no {ws : List Wd} {j : Nat} {n : Int} {s : Str} (hat : ws[j]? = some (wdAt ws j)) (hl : ws.length ≤ 1073741824) (h : isS (wdAt ws j) s = false) :
    AbsCall PP GG F.jread_reader_take [.ptr 0 0, .p (.str s)] [jrO ws j n] ⟨.ret (.p (.bool false)), [jrO ws j n], []⟩ := by
  have := reader_take ws j n (wdAt ws j) hat hl s
  have hn := of_decide_eq_false h
  rw [if_neg hn, decide_eq_false hn] at this
  exact this
theorem want_yes {ws : List Wd} {j : Nat} {n : Int} {s : Str} (hat : ws[j]? = some (wdAt ws j)) (hl : ws.length ≤ 1073741824) (h : isS (wdAt ws j) s = true) :
    AbsCall PP GG F.jread_reader_want [.ptr 0 0, .p (.str s)] [jrO ws j n] ⟨.ret (.tup []), [jrO ws (j + 1 : Nat) n], []⟩ := reader_want_ok ws j n (wdAt ws j) hat hl s (isS_k h)
theorem want_no {ws : List Wd} {j : Nat} {n : Int} {s : Str} (hat : ws[j]? = some (wdAt ws j)) (hl : ws.length ≤ 1073741824) (h : isS (wdAt ws j) s = false) :
    AbsCall PP GG F.jread_reader_want [.ptr 0 0, .p (.str s)] [jrO ws j n] ⟨.pan (wrongP 4 (wdAt ws j).a), [.dead], []⟩ := reader_wantD ws j n (wdAt ws j) hat hl s (of_decide_eq_false h)
theorem tree_side (x : Tree) : ∀ y : PV, y ∈ [x.enc] → y.cells.length = 5 ∧ ∀ c : PV, c ∈ y.cells → c.leaf = true := by
  intro y hy
  rw [List.mem_singleton.1 hy]
  exact ⟨Tree.enc_cells x, Tree.enc_leaf x⟩
theorem tree_side1 (x : Tree) : ∀ y : PV, y ∈ [x.enc] → y.cells.length = 5 := fun y hy => (tree_side x y hy).1
def zO : HO := .var T.api_Value (.p (.agg [.int .i64 0, .int .i64 0, .str [], .nils, .nils]))
def lsV (m : Nat) : V := .agg [.p (.int .i64 5), .p (.int .i64 0), .p (.str []), .sl 3 0 m, .p .nils]
theorem lsV_frz (l : List Tree) : V.frz 3 (Tree.encL l) (lsV (Tree.encL l).length) = .p (.agg [.int .i64 5, .int .i64 0, .str [], .lst false (Tree.encL l), .nils]) := by
  simp [lsV, V.frz, V.frzL, V.mk, allP, PV.leaf]
def lsV1 : V := .agg [.p (.int .i64 5), .p (.int .i64 0), .p (.str []), .sl 4 0 1, .p .nils]
theorem lsV1_frz (x : Tree) : V.frz 4 [x.enc] lsV1 = .p (.agg [.int .i64 5, .int .i64 0, .str [], .lst false [x.enc], .nils]) := by
  simp [lsV1, V.frz, V.frzL, V.mk, allP, PV.leaf]
theorem tree_ls (l : List Tree) : VLe (.p (.agg [.int .i64 5, .int .i64 0, .str [], .lst false (Tree.encL l), .nils])) (.p (Tree.mk 5 0 [] l []).enc) :=
  (PLe.agg (show LeL [.int .i64 5, .int .i64 0, .str [], .lst false (Tree.encL l), .nils] [.int .i64 5, .int .i64 0, .str [], .lst false (Tree.encL l), .lst false []] from ⟨PLe.refl _, PLe.refl _, PLe.refl _, PLe.refl _, PLe.nils false, trivial⟩)).p
theorem items_loop (ws : List Wd) (hw : WsOk ws) (Q : Nat) (hv : ∀ q, q < Q → ValAt ws q) (d : Int) (hd0 : 0 ≤ d) (hd : d ≤ 32) (R : RR) (K : Post)
    (h0 : ∀ (l : List Tree) (j : Nat) (m : Int), R = .ok (.mk 5 0 [] l [], j, m) → ∀ es : List PV, K .ret [(4, .ptr 1 0)] [jrO ws j m, .var T.api_Value (lsV (Tree.encL l).length), .var T.api_Value (lsV (Tree.encL l).length), .arr T.api_Value 5 (Tree.encL l), .arr T.api_Value 5 es] [])
    (hp : ∀ e a : Int, R = .error (e, a) → ∀ H : Heap, K (.pan (wrongP e a)) [] (.dead :: H) []) :
    ∀ (q : Nat) (i : Nat) (n : Int) (acc : List Tree), q ≤ Q → i < ws.length → 3 * (ws.length - i) + 2 ≤ q → 0 ≤ n → n ≤ 4096 → acc ≠ [] → acc.length ≤ n → itemsR q ws d i n acc = R →
      LoopW PP GG 24 1 (loopN F.jread_reader_list_c 0) [(0, .ptr 0 0), (1, .p (.int .i64 d)), (4, .ptr 1 0), (5, .ptr 2 0)] [jrO ws i n, zO, .var T.api_Value (lsV (Tree.encL acc).length), .arr T.api_Value 5 (Tree.encL acc)] [] (PostCl 24 K) := by
  intro q
  induction q with
  | zero => intro i n acc hq hi hf; omega
  | succ q ih =>
    intro i n acc hq hi hf hn0 hn1 hne hacc hR
    have hml : (Tree.encL acc).length = acc.length := Tree.encL_length acc
    have hV := hv q (by omega) (d + 1) i n hi (by omega) (by omega) (by omega) hn0 hn1
    have hok := (okR_all hw q).1 (d + 1) i n hi
    have hws := hw.len
    have hl : ws.length ≤ 1073741824 := by omega
    rw [itemsR] at hR
    cases hr : valR q ws (d + 1) i n with
    | error e =>
      rw [hr] at hV hR
      obtain ⟨e, a⟩ := e
      refine LoopW.round (pol := polG) mixP ?_
      conv => whnf
      repeat' ((first
       | ((with_reducible first | refine Br.dec ?_ ?_ | refine Br.ndec ?_ ?_) <;> intro hb <;> (try simp only [ZZ] at hb) <;> (first | omega | contradiction | skip))
       | (with_reducible first | refine Br.tt rfl ?_ | refine Br.ff rfl ?_ | refine Br.ff (isEmptyCons _ _) ?_)
       | ((with_reducible first | refine Side.mk ?_ ?_ | refine WrapW.mk ?_ ?_); focus (first | omega | (dsimp only [InR, Int.reduceToNat, IntKind.bits, Int.reducePow]; omega) | (simp [CC]; done) | (constructor <;> omega)))
       | with_reducible refine Br.not ?_
       | (with_reducible first | refine Br.tt (by assumption) ?_ | refine Br.ff (by assumption) ?_)
       | (refine Br.mk ?_ ?_ <;> intro hb <;> (try simp only [ZZ] at hb) <;> (first | omega | contradiction | skip))
       | refine Src.whole ⟨rfl, rfl⟩ ?_ | refine FrzV.whole ?_
       | refine CallW.use (hV) ?_) <;> conv => whnf)
      · refine PostCl.of (hp e a hR.symm _) ?_ ?_
        · repeat first | exact trivial | refine ⟨VLe.refl _, ?_⟩
        · repeat first | exact trivial | refine ⟨by decide, ?_⟩
    | ok x =>
      obtain ⟨x, j, m⟩ := x
      rw [hr] at hV hR hok
      obtain ⟨g1, g2, g3, g4⟩ := hok
      have hat := (hw.at g2).1
      have hend := hw.end_ j g2
      dsimp only [] at hR
      cases h93 : isS (wdAt ws j) [93] with
      | true =>
        rw [if_pos h93] at hR
        have hT := take_yes (n := m) hat hl h93
        refine LoopW.round (pol := polG) mixP ?_
        conv => whnf
        repeat' ((first
         | ((with_reducible first | refine Br.dec ?_ ?_ | refine Br.ndec ?_ ?_) <;> intro hb <;> (try simp only [And.intro @hml (ZZ)] at hb) <;> (first | omega | contradiction | skip))
         | (with_reducible first | refine Br.tt rfl ?_ | refine Br.ff rfl ?_ | refine Br.ff (isEmptyCons _ _) ?_)
         | ((with_reducible first | refine Side.mk ?_ ?_ | refine WrapW.mk ?_ ?_); focus (first | omega | (dsimp only [InR, Int.reduceToNat, IntKind.bits, Int.reducePow]; omega) | exact tree_side _ | exact ⟨tree_side1 _, rfl, by show (_ + 1) * 160 ≤ _; omega⟩ | (simp [CC]; done) | (constructor <;> omega)))
         | with_reducible refine Br.not ?_
         | (with_reducible first | refine Br.tt (by assumption) ?_ | refine Br.ff (by assumption) ?_)
         | (refine Br.mk ?_ ?_ <;> intro hb <;> (try simp only [And.intro @hml (ZZ)] at hb) <;> (first | omega | contradiction | skip))
         | refine Src.whole ⟨rfl, rfl⟩ ?_ | refine FrzV.whole ?_
         | refine CallW.use (hV) ?_
         | refine CallW.use (hT) ?_) <;> conv => whnf)
        rw [show Tree.encL acc ++ [x.enc] = Tree.encL (acc ++ [x]) by simp [Tree.encL_eq]]
        · refine PostCl.of (h0 _ (j + 1) m hR.symm _) ?_ ?_
          · repeat first | exact trivial | refine ⟨VLe.refl _, ?_⟩
          · repeat first | exact trivial | refine ⟨by decide, ?_⟩
      | false =>
        rw [if_neg (by rw [h93]; decide)] at hR
        have hT := take_no (n := m) hat hl h93
        cases h44 : isS (wdAt ws j) [44] with
        | true =>
          rw [if_pos h44] at hR
          have hW := want_yes (n := m) hat hl h44
          refine LoopW.round (pol := polG) mixP ?_
          conv => whnf
          repeat' ((first
           | ((with_reducible first | refine Br.dec ?_ ?_ | refine Br.ndec ?_ ?_) <;> intro hb <;> (try simp only [And.intro @hml (ZZ)] at hb) <;> (first | omega | contradiction | skip))
           | (with_reducible first | refine Br.tt rfl ?_ | refine Br.ff rfl ?_ | refine Br.ff (isEmptyCons _ _) ?_)
           | ((with_reducible first | refine Side.mk ?_ ?_ | refine WrapW.mk ?_ ?_); focus (first | omega | (dsimp only [InR, Int.reduceToNat, IntKind.bits, Int.reducePow]; omega) | exact tree_side _ | exact ⟨tree_side1 _, rfl, by show (_ + 1) * 160 ≤ _; omega⟩ | (simp [CC]; done) | (constructor <;> omega)))
           | with_reducible refine Br.not ?_
           | (with_reducible first | refine Br.tt (by assumption) ?_ | refine Br.ff (by assumption) ?_)
           | (refine Br.mk ?_ ?_ <;> intro hb <;> (try simp only [And.intro @hml (ZZ)] at hb) <;> (first | omega | contradiction | skip))
           | refine Src.whole ⟨rfl, rfl⟩ ?_ | refine FrzV.whole ?_
           | refine CallW.use (hV) ?_
           | refine CallW.use (hT) ?_
           | refine CallW.use (hW) ?_) <;> conv => whnf)
          rw [show Tree.encL acc ++ [x.enc] = Tree.encL (acc ++ [x]) by simp [Tree.encL_eq]]
          refine LoopW.ren [0, 1, 2, 3] (ih (j + 1) m (acc ++ [x]) (by omega) (hend (by rw [(isS_k h44).1]; decide)) (by omega) (by omega) g4 (by simp) (by rw [List.length_append, List.length_singleton]; omega) hR) (by repeat first | exact trivial | refine ⟨⟨rfl, VLe.refl _⟩, ?_⟩) (by repeat first | exact trivial | refine ⟨by decide, ?_⟩) rfl rfl
        | false =>
          rw [if_neg (by rw [h44]; decide)] at hR
          have hW := want_no (n := m) hat hl h44
          refine LoopW.round (pol := polG) mixP ?_
          conv => whnf
          repeat' ((first
           | ((with_reducible first | refine Br.dec ?_ ?_ | refine Br.ndec ?_ ?_) <;> intro hb <;> (try simp only [And.intro @hml (ZZ)] at hb) <;> (first | omega | contradiction | skip))
           | (with_reducible first | refine Br.tt rfl ?_ | refine Br.ff rfl ?_ | refine Br.ff (isEmptyCons _ _) ?_)
           | ((with_reducible first | refine Side.mk ?_ ?_ | refine WrapW.mk ?_ ?_); focus (first | omega | (dsimp only [InR, Int.reduceToNat, IntKind.bits, Int.reducePow]; omega) | exact tree_side _ | exact ⟨tree_side1 _, rfl, by show (_ + 1) * 160 ≤ _; omega⟩ | (simp [CC]; done) | (constructor <;> omega)))
           | with_reducible refine Br.not ?_
           | (with_reducible first | refine Br.tt (by assumption) ?_ | refine Br.ff (by assumption) ?_)
           | (refine Br.mk ?_ ?_ <;> intro hb <;> (try simp only [And.intro @hml (ZZ)] at hb) <;> (first | omega | contradiction | skip))
           | refine Src.whole ⟨rfl, rfl⟩ ?_ | refine FrzV.whole ?_
           | refine CallW.use (hV) ?_
           | refine CallW.use (hT) ?_
           | refine CallW.use (hW) ?_) <;> conv => whnf)
          · refine PostCl.of (hp _ _ hR.symm _) ?_ ?_
            · repeat first | exact trivial | refine ⟨VLe.refl _, ?_⟩
            · repeat first | exact trivial | refine ⟨by decide, ?_⟩
theorem items_first (ws : List Wd) (hw : WsOk ws) (Q : Nat) (hv : ∀ q, q < Q → ValAt ws q) (d : Int) (hd0 : 0 ≤ d) (hd : d ≤ 32) (R : RR) (K : Post)
    (h0 : ∀ (l : List Tree) (j : Nat) (m : Int), R = .ok (.mk 5 0 [] l [], j, m) → ∀ es : List PV, K .ret [(4, .ptr 1 0)] [jrO ws j m, .var T.api_Value (lsV (Tree.encL l).length), .var T.api_Value (lsV (Tree.encL l).length), .arr T.api_Value 5 (Tree.encL l), .arr T.api_Value 5 es] [])
    (h1 : ∀ (x : Tree) (j : Nat) (m : Int), R = .ok (.mk 5 0 [] [x] [], j, m) → ∀ es : List PV, K .ret [(4, .ptr 1 0)] [jrO ws j m, .var T.api_Value lsV1, .var T.api_Value lsV1, .arr T.api_Value 5 es, .arr T.api_Value 5 [x.enc]] [])
    (hp : ∀ e a : Int, R = .error (e, a) → ∀ H : Heap, K (.pan (wrongP e a)) [] (.dead :: H) [])
    (q : Nat) (i : Nat) (n : Int) (hq : q + 1 ≤ Q) (hi : i < ws.length) (hf : 3 * (ws.length - i) + 2 ≤ q + 1) (hn0 : 0 ≤ n) (hn1 : n ≤ 4096) (hR : itemsR (q + 1) ws d i n [] = R) :
      LoopW PP GG 24 1 (loopN F.jread_reader_list_c 0) [(0, .ptr 0 0), (1, .p (.int .i64 d)), (4, .ptr 1 0), (5, .ptr 2 0)] [jrO ws i n, zO, .var T.api_Value (.p (.agg [.int .i64 5, .int .i64 0, .str [], .nils, .nils]))] [] (PostCl 24 K) := by
  have ih := items_loop ws hw Q hv d hd0 hd R K h0 hp q
  have hV := hv q (by omega) (d + 1) i n hi (by omega) (by omega) (by omega) hn0 hn1
  have hok := (okR_all hw q).1 (d + 1) i n hi
  have hws := hw.len
  have hl : ws.length ≤ 1073741824 := by omega
  rw [itemsR] at hR
  cases hr : valR q ws (d + 1) i n with
  | error e =>
    rw [hr] at hV hR
    obtain ⟨e, a⟩ := e
    refine LoopW.round (pol := polG) mixP ?_
    conv => whnf
    repeat' ((first
     | ((with_reducible first | refine Br.dec ?_ ?_ | refine Br.ndec ?_ ?_) <;> intro hb <;> (try simp only [ZZ] at hb) <;> (first | omega | contradiction | skip))
     | (with_reducible first | refine Br.tt rfl ?_ | refine Br.ff rfl ?_ | refine Br.ff (isEmptyCons _ _) ?_)
     | ((with_reducible first | refine Side.mk ?_ ?_ | refine WrapW.mk ?_ ?_); focus (first | omega | (dsimp only [InR, Int.reduceToNat, IntKind.bits, Int.reducePow]; omega) | (simp [CC]; done) | (constructor <;> omega)))
     | with_reducible refine Br.not ?_
     | (with_reducible first | refine Br.tt (by assumption) ?_ | refine Br.ff (by assumption) ?_)
     | (refine Br.mk ?_ ?_ <;> intro hb <;> (try simp only [ZZ] at hb) <;> (first | omega | contradiction | skip))
     | refine Src.whole ⟨rfl, rfl⟩ ?_ | refine FrzV.whole ?_
     | refine CallW.use (hV) ?_) <;> conv => whnf)
    · refine PostCl.of (hp e a hR.symm _) ?_ ?_
      · repeat first | exact trivial | refine ⟨VLe.refl _, ?_⟩
      · repeat first | exact trivial | refine ⟨by decide, ?_⟩
  | ok x =>
    obtain ⟨x, j, m⟩ := x
    rw [hr] at hV hR hok
    obtain ⟨g1, g2, g3, g4⟩ := hok
    have hat := (hw.at g2).1
    have hend := hw.end_ j g2
    dsimp only [] at hR
    cases h93 : isS (wdAt ws j) [93] with
    | true =>
      rw [if_pos h93] at hR
      have hT := take_yes (n := m) hat hl h93
      refine LoopW.round (pol := polG) mixP ?_
      conv => whnf
      repeat' ((first
       | ((with_reducible first | refine Br.dec ?_ ?_ | refine Br.ndec ?_ ?_) <;> intro hb <;> (try simp only [ZZ] at hb) <;> (first | omega | contradiction | skip))
       | (with_reducible first | refine Br.tt rfl ?_ | refine Br.ff rfl ?_ | refine Br.ff (isEmptyCons _ _) ?_)
       | ((with_reducible first | refine Side.mk ?_ ?_ | refine WrapW.mk ?_ ?_); focus (first | omega | (dsimp only [InR, Int.reduceToNat, IntKind.bits, Int.reducePow]; omega) | exact tree_side _ | exact ⟨tree_side1 _, by show 1 * 160 ≤ _; omega⟩ | (simp [CC]; done) | (constructor <;> omega)))
       | with_reducible refine Br.not ?_
       | (with_reducible first | refine Br.tt (by assumption) ?_ | refine Br.ff (by assumption) ?_)
       | (refine Br.mk ?_ ?_ <;> intro hb <;> (try simp only [ZZ] at hb) <;> (first | omega | contradiction | skip))
       | refine Src.whole ⟨rfl, rfl⟩ ?_ | refine FrzV.whole ?_
       | refine CallW.use (hV) ?_
       | refine CallW.use (hT) ?_) <;> conv => whnf)
      · refine PostCl.of (h1 _ (j + 1) m hR.symm _) ?_ ?_
        · repeat first | exact trivial | refine ⟨VLe.refl _, ?_⟩
        · repeat first | exact trivial | refine ⟨by decide, ?_⟩
    | false =>
      rw [if_neg (by rw [h93]; decide)] at hR
      have hT := take_no (n := m) hat hl h93
      cases h44 : isS (wdAt ws j) [44] with
      | true =>
        rw [if_pos h44] at hR
        have hW := want_yes (n := m) hat hl h44
        refine LoopW.round (pol := polG) mixP ?_
        conv => whnf
        repeat' ((first
         | ((with_reducible first | refine Br.dec ?_ ?_ | refine Br.ndec ?_ ?_) <;> intro hb <;> (try simp only [ZZ] at hb) <;> (first | omega | contradiction | skip))
         | (with_reducible first | refine Br.tt rfl ?_ | refine Br.ff rfl ?_ | refine Br.ff (isEmptyCons _ _) ?_)
         | ((with_reducible first | refine Side.mk ?_ ?_ | refine WrapW.mk ?_ ?_); focus (first | omega | (dsimp only [InR, Int.reduceToNat, IntKind.bits, Int.reducePow]; omega) | exact tree_side _ | exact ⟨tree_side1 _, by show 1 * 160 ≤ _; omega⟩ | (simp [CC]; done) | (constructor <;> omega)))
         | with_reducible refine Br.not ?_
         | (with_reducible first | refine Br.tt (by assumption) ?_ | refine Br.ff (by assumption) ?_)
         | (refine Br.mk ?_ ?_ <;> intro hb <;> (try simp only [ZZ] at hb) <;> (first | omega | contradiction | skip))
         | refine Src.whole ⟨rfl, rfl⟩ ?_ | refine FrzV.whole ?_
         | refine CallW.use (hV) ?_
         | refine CallW.use (hT) ?_
         | refine CallW.use (hW) ?_) <;> conv => whnf)
        refine LoopW.ren [0, 1, 2, 4] (ih (j + 1) m [x] (by omega) (hend (by rw [(isS_k h44).1]; decide)) (by omega) (by omega) g4 (by simp) (by rw [List.length_singleton]; omega) hR) (by repeat first | exact trivial | refine ⟨⟨rfl, VLe.refl _⟩, ?_⟩) (by repeat first | exact trivial | refine ⟨by decide, ?_⟩) rfl rfl
      | false =>
        rw [if_neg (by rw [h44]; decide)] at hR
        have hW := want_no (n := m) hat hl h44
        refine LoopW.round (pol := polG) mixP ?_
        conv => whnf
        repeat' ((first
         | ((with_reducible first | refine Br.dec ?_ ?_ | refine Br.ndec ?_ ?_) <;> intro hb <;> (try simp only [ZZ] at hb) <;> (first | omega | contradiction | skip))
         | (with_reducible first | refine Br.tt rfl ?_ | refine Br.ff rfl ?_ | refine Br.ff (isEmptyCons _ _) ?_)
         | ((with_reducible first | refine Side.mk ?_ ?_ | refine WrapW.mk ?_ ?_); focus (first | omega | (dsimp only [InR, Int.reduceToNat, IntKind.bits, Int.reducePow]; omega) | exact tree_side _ | exact ⟨tree_side1 _, by show 1 * 160 ≤ _; omega⟩ | (simp [CC]; done) | (constructor <;> omega)))
         | with_reducible refine Br.not ?_
         | (with_reducible first | refine Br.tt (by assumption) ?_ | refine Br.ff (by assumption) ?_)
         | (refine Br.mk ?_ ?_ <;> intro hb <;> (try simp only [ZZ] at hb) <;> (first | omega | contradiction | skip))
         | refine Src.whole ⟨rfl, rfl⟩ ?_ | refine FrzV.whole ?_
         | refine CallW.use (hV) ?_
         | refine CallW.use (hT) ?_
         | refine CallW.use (hW) ?_) <;> conv => whnf)
        · refine PostCl.of (hp _ _ hR.symm _) ?_ ?_
          · repeat first | exact trivial | refine ⟨VLe.refl _, ?_⟩
          · repeat first | exact trivial | refine ⟨by decide, ?_⟩
theorem reader_list_step (ws : List Wd) (hw : WsOk ws) (q : Nat) (hv : ∀ p, p < q + 1 → ValAt ws p) : ListAt ws (q + 1) := by
  intro d i n hi hq h0 h1 h2 h3
  have hat := (hw.at hi).1
  have hws := hw.len
  have hl : ws.length ≤ 1073741824 := by omega
  have hend := hw.end_ i hi
  rw [listR]
  cases h93 : isS (wdAt ws i) [93] with
  | true =>
    rw [if_pos rfl]
    have hT := take_yes (n := n) hat hl h93
    refine absCall_of (pol := polG) mixP F.jread_reader_list_is ?_
    conv => whnf
    repeat' ((first
     | ((with_reducible first | refine Br.dec ?_ ?_ | refine Br.ndec ?_ ?_) <;> intro hb <;> (try simp only [ZZ] at hb) <;> (first | omega | contradiction | skip))
     | (with_reducible first | refine Br.tt rfl ?_ | refine Br.ff rfl ?_ | refine Br.ff (isEmptyCons _ _) ?_)
     | ((with_reducible first | refine Side.mk ?_ ?_ | refine WrapW.mk ?_ ?_); focus (first | omega | (dsimp only [InR, Int.reduceToNat, IntKind.bits, Int.reducePow]; omega) | (simp [CC]; done) | (constructor <;> omega)))
     | with_reducible refine Br.not ?_
     | (with_reducible first | refine Br.tt (by assumption) ?_ | refine Br.ff (by assumption) ?_)
     | (refine Br.mk ?_ ?_ <;> intro hb <;> (try simp only [ZZ] at hb) <;> (first | omega | contradiction | skip))
     | refine Src.whole ⟨rfl, rfl⟩ ?_ | refine FrzV.whole ?_
     | refine CallW.use (hT) ?_) <;> conv => whnf)
    exact CLe.ret (tree_nils 5 0 [])
  | false =>
    rw [if_neg (by decide)]
    have hT := take_no (n := n) hat hl h93
    obtain ⟨p, rfl⟩ : ∃ p, q = p + 1 := ⟨q - 1, by omega⟩
    have hlp := items_first ws hw (p + 1) (fun r hr => hv r (by omega)) d h0 h1 (itemsR (p + 1) ws d i n [])
    have hok := (okR_all hw (p + 1)).2.2.1 d i n [] hi h3
    generalize hR : itemsR (p + 1) ws d i n [] = R at *
    refine absCall_of (pol := polG) mixP F.jread_reader_list_is ?_
    conv => whnf
    repeat' ((first
     | ((with_reducible first | refine Br.dec ?_ ?_ | refine Br.ndec ?_ ?_) <;> intro hb <;> (try simp only [ZZ] at hb) <;> (first | omega | contradiction | skip))
     | (with_reducible first | refine Br.tt rfl ?_ | refine Br.ff rfl ?_ | refine Br.ff (isEmptyCons _ _) ?_)
     | ((with_reducible first | refine Side.mk ?_ ?_ | refine WrapW.mk ?_ ?_); focus (first | omega | (dsimp only [InR, Int.reduceToNat, IntKind.bits, Int.reducePow]; omega) | (simp [CC]; done) | (constructor <;> omega)))
     | with_reducible refine Br.not ?_
     | (with_reducible first | refine Br.tt (by assumption) ?_ | refine Br.ff (by assumption) ?_)
     | (refine Br.mk ?_ ?_ <;> intro hb <;> (try simp only [ZZ] at hb) <;> (first | omega | contradiction | skip))
     | refine Src.whole ⟨rfl, rfl⟩ ?_ | refine FrzV.whole ?_
     | refine CallW.use (hT) ?_) <;> conv => whnf)
    refine LoopW.cl ?_
    refine LoopW.ren [0, 1, 2] (hlp _ (fun l j m h es => ?_) (fun x j m h es => ?_) (fun e a h H => ?_) p i n (Nat.le_refl _) hi (by omega) h2 h3 hR) (by repeat first | exact trivial | refine ⟨⟨rfl, VLe.refl _⟩, ?_⟩) (by repeat first | exact trivial | refine ⟨by decide, ?_⟩) rfl rfl
    all_goals conv => whnf
    · subst h
      refine FrzV.mk (.p (.agg [.int .i64 5, .int .i64 0, .str [], .lst false (Tree.encL l), .nils])) (lsV_frz l) ?_
      conv => whnf
      refine FrzO.mk (.var T.api_Value (.p (.agg [.int .i64 5, .int .i64 0, .str [], .lst false (Tree.encL l), .nils]))) (congrArg (HO.var T.api_Value) (lsV_frz l)) ?_
      conv => whnf
      refine FrzO.mk (.var T.api_Value (.p (.agg [.int .i64 5, .int .i64 0, .str [], .lst false (Tree.encL l), .nils]))) (congrArg (HO.var T.api_Value) (lsV_frz l)) ?_
      conv => whnf
      exact CLe.ret (tree_ls l)
    · subst h
      refine FrzV.mk (.p (.agg [.int .i64 5, .int .i64 0, .str [], .lst false [x.enc], .nils])) (lsV1_frz x) ?_
      conv => whnf
      refine FrzO.mk (.var T.api_Value (.p (.agg [.int .i64 5, .int .i64 0, .str [], .lst false ([x.enc]), .nils]))) (congrArg (HO.var T.api_Value) (lsV1_frz x)) ?_
      conv => whnf
      refine FrzO.mk (.var T.api_Value (.p (.agg [.int .i64 5, .int .i64 0, .str [], .lst false ([x.enc]), .nils]))) (congrArg (HO.var T.api_Value) (lsV1_frz x)) ?_
      conv => whnf
      exact CLe.ret (tree_ls [x])
    · subst h
      exact CLe.refl _
end Go.Proofs.YtoinkmogdfjmmaaGreatDoor
end

section
namespace Go.Am
open Go
theorem utfTake_enc (s : Str) (h : (utfTake s).2 ≠ 0) : utfEnc (utfTake s).1 = s.take (utfTake s).2.toNat := by
  cases s with
  | nil => exact absurd rfl h
  | cons c cs =>
    unfold utfTake at h ⊢
    simp only [] at h ⊢
    split
    · rename_i h1; rw [if_pos h1] at h; exact absurd rfl h
    · rename_i h1
      rw [if_neg h1] at h
      split
      · rename_i h2; rw [h2] at h; exact absurd rfl h
      · rename_i r h2
        rw [h2] at h
        simp only [] at h
        split
        · rename_i h3
          simp only [not_or] at h1
          exact enc_take h1.1 h1.2 h2 h3.1 h3.2
        · rename_i h3; rw [if_neg h3] at h; exact absurd rfl h
def deeper (d : Int) : Int := if 0 ≤ d then d + 1 else -1
def colonL (d : Int) : Str := if 0 ≤ d then [58, 32] else [58]
mutual
def printT : Tree → Int → Str
  | .mk k n s l m, d => if k = 0 then [110, 117, 108, 108] else if k = 1 then (if n = 1 then [116, 114, 117, 101] else [102, 97, 108, 115, 101]) else
    if k = 2 then Lib.itoa n else if k = 3 then s else if k = 4 ∨ k = 7 then quoteS s else
    if k = 6 then (if m.length = 0 then [123, 125] else 123 :: (printM true m (deeper d) ++ (lineL d ++ [125])))
    else (if l.length = 0 then [91, 93] else 91 :: (printL true l (deeper d) ++ (lineL d ++ [93])))
def printL : Bool → List Tree → Int → Str
  | _, [], _ => []
  | f, t :: l, d => (if f = true then [] else [44]) ++ (lineL d ++ (printT t d ++ printL false l d))
def printM : Bool → List (Str × Tree) → Int → Str
  | _, [], _ => []
  | f, p :: m, d => (if f = true then [] else [44]) ++ (lineL d ++ (printP p d ++ printM false m d))
def printP : Str × Tree → Int → Str
  | (k, t), d => quoteS k ++ (colonL d ++ printT t d)
end
theorem printT_eq (t : Tree) (d : Int) : printT t d = if t.kind = 0 then [110, 117, 108, 108] else if t.kind = 1 then (if t.n = 1 then [116, 114, 117, 101] else [102, 97, 108, 115, 101]) else
    if t.kind = 2 then Lib.itoa t.n else if t.kind = 3 then t.s else if t.kind = 4 ∨ t.kind = 7 then quoteS t.s else
    if t.kind = 6 then (if t.m.length = 0 then [123, 125] else 123 :: (printM true t.m (deeper d) ++ (lineL d ++ [125])))
    else (if t.l.length = 0 then [91, 93] else 91 :: (printL true t.l (deeper d) ++ (lineL d ++ [93]))) := by cases t; rw [printT]; rfl
theorem quoteL_len : ∀ (q : Nat) (s : Str), (quoteL q s).length ≤ 10 * s.length
  | 0, s => by simp [quoteL]
  | q + 1, [] => by simp [quoteL]
  | q + 1, c :: cs => by
    rw [quoteL, List.length_append]
    have h1 := quoteL_len q ((c :: cs).drop (stepN (c :: cs)))
    have h2 := quoteU_len ((c :: cs).take (stepN (c :: cs))) (utfTake (c :: cs)).2
    have h3 := stepN_pos (c :: cs)
    have h4 := stepN_le c cs
    rw [List.length_drop] at h1
    rw [List.length_take] at h2
    omega
theorem quoteS_len (s : Str) : (quoteS s).length ≤ 2 + 10 * s.length := by
  unfold quoteS
  have := quoteL_len s.length s
  simp only [List.length_append, List.length_cons, List.length_nil]
  omega
theorem lineL_len (d : Int) (h : d ≤ 8000000) : (lineL d).length ≤ 16000001 := by
  unfold lineL
  split
  · simp
  · rw [List.length_cons, repeat_len]; omega
end Go.Am
namespace Go.Am
theorem encP_flat (k : Str) (y : Tree) : Tree.encP (k, y) = .agg [.str k, .int .i64 y.kind, .int .i64 y.n, .str y.s, .lst false (Tree.encL y.l), .lst false (Tree.encM y.m)] := by
  rw [Tree.encP, Tree.enc_eta y]; rfl
theorem ElemZ.pairE {m : List (Str × Tree)} {i : Nat} {K : PV → Prop} {k : Str} {y : Tree} (h : m[i]? = some (k, y))
    (q : K (.agg [.str k, .int .i64 y.kind, .int .i64 y.n, .str y.s, .lst false (Tree.encL y.l), .lst false (Tree.encM y.m)])) : ElemZ (Tree.encM m) i 6 K := ElemZ.pair h (by rw [encP_flat]; exact q)
end Go.Am
namespace Go.Am
mutual
def okT : Tree → Bool
  | .mk _ n _ l m => decide (-9223372036854775808 ≤ n ∧ n ≤ 9223372036854775807) && (okL l && okM m)
def okL : List Tree → Bool
  | [] => true
  | t :: l => okT t && okL l
def okM : List (Str × Tree) → Bool
  | [] => true
  | p :: m => okQ p && okM m
def okQ : Str × Tree → Bool
  | (_, t) => okT t
end
def goodT (t : Tree) : Bool := plainT t && okT t
theorem okT_eq (t : Tree) : okT t = (decide (-9223372036854775808 ≤ t.n ∧ t.n ≤ 9223372036854775807) && (okL t.l && okM t.m)) := by cases t; rw [okT]; rfl
theorem okL_mem : ∀ {l : List Tree}, okL l = true → ∀ x ∈ l, okT x = true
  | [], _, x, hx => by cases hx
  | t :: l, h, x, hx => by
    rw [okL, Bool.and_eq_true] at h
    rcases List.mem_cons.1 hx with rfl | hx
    · exact h.1
    · exact okL_mem h.2 x hx
theorem okM_mem : ∀ {l : List (Str × Tree)}, okM l = true → ∀ x ∈ l, okT x.2 = true
  | [], _, x, hx => by cases hx
  | (k, t) :: l, h, x, hx => by
    rw [okM, okQ, Bool.and_eq_true] at h
    rcases List.mem_cons.1 hx with rfl | hx
    · exact h.1
    · exact okM_mem h.2 x hx
theorem plainL_mem : ∀ {l : List Tree}, plainL l = true → ∀ x ∈ l, plainT x = true
  | [], _, x, hx => by cases hx
  | t :: l, h, x, hx => by
    rw [plainL, Bool.and_eq_true] at h
    rcases List.mem_cons.1 hx with rfl | hx
    · exact h.1
    · exact plainL_mem h.2 x hx
theorem plainM_mem : ∀ {l : List (Str × Tree)} {o : Option Str}, plainM o l = true → ∀ x ∈ l, strOk x.1 = true ∧ plainT x.2 = true
  | [], _, _, x, hx => by cases hx
  | (k, t) :: l, o, h, x, hx => by
    simp only [plainM, plainP, Bool.and_eq_true] at h
    rcases List.mem_cons.1 hx with rfl | hx
    · exact ⟨h.1.1, h.1.2.2⟩
    · exact plainM_mem h.2 x hx
theorem goodT_spec {t : Tree} (h : goodT t = true) : ¬ ownBad t.kind t.n t.s.length t.l.length t.m.length ∧ nodeOk t.kind t.n t.s = true ∧ (-9223372036854775808 ≤ t.n ∧ t.n ≤ 9223372036854775807) ∧
    (∀ x ∈ t.l, goodT x = true) ∧ (∀ x ∈ t.m, strOk x.1 = true ∧ goodT x.2 = true) := by
  unfold goodT at h
  rw [Bool.and_eq_true, plainT_eq, okT_eq, Bool.and_eq_true, Bool.and_eq_true, decide_eq_true_eq] at h
  obtain ⟨h1, h2, h3, h4⟩ := h
  split at h1
  · cases h1
  · rename_i hb
    rw [Bool.and_eq_true, Bool.and_eq_true] at h1
    refine ⟨hb, h1.1, h2, fun x hx => ?_, fun x hx => ?_⟩
    · unfold goodT; rw [plainL_mem h1.2.1 x hx, okL_mem h3 x hx]; rfl
    · have := plainM_mem h1.2.2 x hx
      refine ⟨this.1, ?_⟩
      unfold goodT; rw [this.2, okM_mem h4 x hx]; rfl
theorem strOk_len {s : Str} (h : strOk s = true) : s.length ≤ 4096 := by unfold strOk at h; rw [Bool.and_eq_true, decide_eq_true_eq] at h; exact h.1
theorem stampOk_len {s : Str} (h : stampOk s = true) : s.length ≤ 64 := by unfold stampOk at h; rw [decide_eq_true_eq] at h; exact h.2.1
theorem printT_len : ∀ t : Tree, t.wt ≤ 4000000 → ∀ d : Int, -1 ≤ d → goodT t = true → d + t.wt ≤ 8000000 → (printT t d).length + 20000000 ≤ t.wt * 60000000 := by
  refine Tree.indW fun t hw hl hm d hd0 hg hd => ?_
  obtain ⟨hb, hn, hr, hgl, hgm⟩ := goodT_spec hg
  have hwp := t.wt_pos
  have hdd : deeper d ≤ d + 1 ∧ -1 ≤ deeper d := by unfold deeper; split <;> omega
  have hcol : (colonL (deeper d)).length ≤ 2 := by unfold colonL; split <;> simp
  have hL : ∀ (l : List Tree) (f : Bool), (∀ x ∈ l, x ∈ t.l) → (printL f l (deeper d)).length ≤ Tree.wtL l * 60000000 := by
    intro l
    induction l with
    | nil => intro f _; simp [printL]
    | cons x l ih =>
      intro f hx
      have hxm := hx x (by simp)
      have hxw := Tree.wt_l hxm
      have h1 := (hl x hxm).2 (deeper d) hdd.2 (hgl x hxm) (by omega)
      have h2 := ih false (fun y hy => hx y (by simp [hy]))
      have h3 := lineL_len (deeper d) (by have := Tree.wt_pos x; omega)
      have h4 : (if f = true then ([] : Str) else [44]).length ≤ 1 := by split <;> simp
      rw [printL, Tree.wtL]
      simp only [List.length_append]
      omega
  have hM : ∀ (l : List (Str × Tree)) (f : Bool), (∀ x ∈ l, x ∈ t.m) → (printM f l (deeper d)).length ≤ Tree.wtM l * 60000000 := by
    intro l
    induction l with
    | nil => intro f _; simp [printM]
    | cons x l ih =>
      intro f hx
      have hxm := hx x (by simp)
      have hxw := Tree.wt_m hxm
      have h1 := (hm x hxm).2.2 (deeper d) hdd.2 (hgm x hxm).2 (by omega)
      have h2 := ih false (fun y hy => hx y (by simp [hy]))
      have h3 := lineL_len (deeper d) (by have := Tree.wt_pos x.2; omega)
      have h4 : (if f = true then ([] : Str) else [44]).length ≤ 1 := by split <;> simp
      obtain ⟨k, y⟩ := x
      have h5 := quoteS_len k
      rw [printM, printP, Tree.wtM, Tree.wtP]
      simp only [List.length_append] at h1 ⊢
      omega
  have hq := quoteS_len t.s
  have hli := lineL_len d (by omega)
  have hLl := hL t.l true (fun _ h => h)
  have hMm := hM t.m true (fun _ h => h)
  have hit := Lib.itoa_length_le t.n hr.1 hr.2
  have hwe := t.wt_eq
  rw [printT_eq]
  repeat' split
  all_goals (try simp only [List.length_cons, List.length_nil, List.length_append])
  all_goals omega
end Go.Am
namespace Go.Am
theorem itoa_ne (n : Int) : Lib.itoa n ≠ [] := by
  intro h
  by_cases h0 : 0 ≤ n
  · obtain ⟨u, rfl⟩ := Int.eq_ofNat_of_zero_le h0
    by_cases hu : u < 10
    · rw [itoa_small hu] at h; cases h
    · rw [itoa_big hu] at h; simp at h
  · obtain ⟨u, hu⟩ := Int.eq_ofNat_of_zero_le (show 0 ≤ -n by omega)
    rw [show n = -(u : Int) by omega, Lib.itoa_neg u (by omega)] at h
    cases h
theorem numL_ne {s : Str} (h : numL s = true) : s ≠ [] := by
  rintro rfl
  revert h
  decide
theorem printT_ne {t : Tree} (hg : goodT t = true) (d : Int) : printT t d ≠ [] := by
  obtain ⟨hb, hn, hr, hgl, hgm⟩ := goodT_spec hg
  rw [printT_eq]
  unfold nodeOk at hn
  have hq : quoteS t.s ≠ [] := by simp [quoteS]
  repeat' split
  all_goals first | (exact itoa_ne _) | (exact hq) | (simp; done) | skip
  rename_i h3
  rw [if_neg (by omega), if_neg (by omega), if_pos h3, Bool.and_eq_true] at hn
  exact numL_ne hn.1
def Ge (n : Nat) (s : Str) : Prop := ∀ b ∈ s, n ≤ b.toNat
theorem Ge.app {n : Nat} {s r : Str} (h1 : Ge n s) (h2 : Ge n r) : Ge n (s ++ r) := fun b hb => (List.mem_append.1 hb).elim (h1 b) (h2 b)
theorem Ge.cons {n : Nat} {c : UInt8} {s : Str} (h1 : n ≤ c.toNat) (h2 : Ge n s) : Ge n (c :: s) := fun b hb => (List.mem_cons.1 hb).elim (fun e => by rw [e]; exact h1) (h2 b)
theorem Ge.nil {n : Nat} : Ge n [] := fun b hb => by cases hb
def NoB (s : Str) : Prop := ∀ b ∈ s, b.toNat ≠ 32
theorem NoB.l {s r : Str} (h : NoB (s ++ r)) : NoB s := fun b hb => h b (List.mem_append_left _ hb)
theorem NoB.r {s r : Str} (h : NoB (s ++ r)) : NoB r := fun b hb => h b (List.mem_append_right _ hb)
theorem NoB.t {c : UInt8} {s : Str} (h : NoB (c :: s)) : NoB s := fun b hb => h b (List.mem_cons_of_mem _ hb)
end Go.Am
end

section
namespace Go.Am
end Go.Am
end

section
namespace Go.Am
open Go
def q1 (c : UInt8) : Str := quoteU [c] 1
theorem q1_head : ∀ k : Nat, k < 128 → ∃ a y, q1 (UInt8.ofNat k) = a :: y ∧ a ≠ 34 ∧ a.toNat < 128 := by
  have h : ∀ k : Nat, k < 128 → (match q1 (UInt8.ofNat k) with | a :: _ => decide (a ≠ 34 ∧ a.toNat < 128) | [] => false) = true := by decide +kernel
  intro k hk
  have := h k hk
  split at this
  · rename_i a y e
    rw [decide_eq_true_eq] at this
    exact ⟨a, y, e, this.1, this.2⟩
  · cases this
theorem take_len (c : UInt8) (cs : Str) (h : (utfTake (c :: cs)).2 ≠ 0) : (utfTake (c :: cs)).2 = (utfBegins c.toNat).1 := by
  unfold utfTake at h ⊢
  simp only [] at h ⊢
  split
  · rename_i h1; rw [if_pos h1] at h; exact absurd rfl h
  · rename_i h1
    rw [if_neg h1] at h
    split
    · rename_i h2; rw [h2] at h; exact absurd rfl h
    · rename_i r h2
      rw [h2] at h
      simp only [] at h
      split
      · rfl
      · rename_i h3; rw [if_neg h3] at h; exact absurd rfl h
def unitL (s : Str) : Str := quoteU (s.take (stepN s)) (utfTake s).2
theorem unit_form (c : UInt8) (cs : Str) (h : (utfTake (c :: cs)).2 ≠ 0) :
    (c.toNat < 128 ∧ (c :: cs).take (stepN (c :: cs)) = [c] ∧ unitL (c :: cs) = q1 c) ∨
    (128 ≤ c.toNat ∧ unitL (c :: cs) = (c :: cs).take (stepN (c :: cs)) ∧ ((c :: cs).take (stepN (c :: cs))).length = (utfBegins c.toNat).1.toNat ∧ 1 ≤ (utfBegins c.toNat).1) := by
  have hn := utfTake_n (c :: cs)
  have hk := take_len c cs h
  have hs : stepN (c :: cs) = (utfTake (c :: cs)).2.toNat := by unfold stepN; omega
  by_cases hc : c.toNat < 128
  · refine .inl ⟨hc, ?_, ?_⟩
    · have : (utfBegins c.toNat).1 = 1 := by unfold utfBegins; rw [if_pos hc]
      rw [hs, hk, this]; rfl
    · have : (utfBegins c.toNat).1 = 1 := by unfold utfBegins; rw [if_pos hc]
      unfold unitL
      rw [hs, hk, this]; rfl
  · refine .inr ⟨by omega, ?_, ?_, by omega⟩
    · unfold unitL
      have hb : b0 ((c :: cs).take (stepN (c :: cs))) = c.toNat := by
        rw [hs]
        obtain ⟨k, hk2⟩ : ∃ k, (utfTake (c :: cs)).2.toNat = k + 1 := ⟨(utfTake (c :: cs)).2.toNat - 1, by omega⟩
        rw [hk2]; rfl
      unfold quoteU
      rw [if_neg h, hb]
      repeat (rw [if_neg (by omega)])
    · rw [List.length_take, hs, hk]
      have : (utfTake (c :: cs)).2 ≤ (c :: cs).length := by omega
      omega
theorem u8_of (c : UInt8) : UInt8.ofNat c.toNat = c := by simp
theorem unit_head (c : UInt8) (cs : Str) (h : (utfTake (c :: cs)).2 ≠ 0) : ∃ a y, unitL (c :: cs) = a :: y ∧ a ≠ 34 ∧ (a.toNat < 128 ↔ c.toNat < 128) := by
  rcases unit_form c cs h with ⟨h1, _, h3⟩ | ⟨h1, h2, h3, h4⟩
  · obtain ⟨a, y, e, h5, h6⟩ := q1_head c.toNat h1
    rw [u8_of] at e
    exact ⟨a, y, by rw [h3, e], h5, by omega⟩
  · obtain ⟨k, hk⟩ : ∃ k, stepN (c :: cs) = k + 1 := ⟨stepN (c :: cs) - 1, by have := stepN_pos (c :: cs); omega⟩
    refine ⟨c, cs.take k, by rw [h2, hk]; rfl, ?_, Iff.rfl⟩
    rintro rfl
    exact absurd h1 (by decide)
theorem scan_at (q : Nat) : ∀ (s : Str) (p r : Int), (utfScan q s p).2 = (utfScan q s r).2 := by
  induction q with
  | zero => intro s p r; rfl
  | succ q ih =>
    intro s p r
    cases s with
    | nil => rfl
    | cons c cs =>
      unfold utfScan
      simp only []
      split
      · rfl
      · exact ih _ _ _
theorem scan_cons {q : Nat} {c : UInt8} {cs : Str} {p : Int} (h : (utfScan (q + 1) (c :: cs) p).2 = true) : (utfTake (c :: cs)).2 ≠ 0 ∧ (utfScan q ((c :: cs).drop (stepN (c :: cs))) 0).2 = true := by
  unfold utfScan at h
  simp only [] at h
  split at h
  · cases h
  · rename_i h0
    refine ⟨h0, ?_⟩
    have hn := utfTake_n (c :: cs)
    have hs : stepN (c :: cs) = (utfTake (c :: cs)).2.toNat := by unfold stepN; omega
    rw [hs, scan_at q _ 0]
    exact h
def numCh (b : UInt8) : Bool := decide ((48 ≤ b.toNat ∧ b.toNat ≤ 57) ∨ b.toNat = 43 ∨ b.toNat = 45 ∨ b.toNat = 46 ∨ b.toNat = 101 ∨ b.toNat = 69)
def Nc (s : Str) : Prop := ∀ b ∈ s, numCh b = true
theorem Nc.app {s r : Str} (h1 : Nc s) (h2 : Nc r) : Nc (s ++ r) := fun b hb => (List.mem_append.1 hb).elim (h1 b) (h2 b)
theorem Nc.cons {c : UInt8} {s : Str} (h1 : numCh c = true) (h2 : Nc s) : Nc (c :: s) := fun b hb => (List.mem_cons.1 hb).elim (fun e => by rw [e]; exact h1) (h2 b)
theorem Nc.nil : Nc [] := fun b hb => by cases hb
theorem nc_dig {s : Str} (h : ∀ b ∈ s, dig b = true) : Nc s := fun b hb => by
  have := h b hb
  unfold dig at this
  rw [decide_eq_true_eq] at this
  unfold numCh
  rw [decide_eq_true_eq]
  exact .inl this
theorem nc_run {s : Str} (h : Nc (s.drop (runL s))) : Nc s := by
  have := Nc.app (nc_dig (take_dig s)) h
  rwa [List.take_append_drop] at this
theorem nc_cons {s : Str} (h1 : b0 s = 43 ∨ b0 s = 45 ∨ b0 s = 46 ∨ b0 s = 101 ∨ b0 s = 69) (h : Nc (s.drop 1)) : Nc s := by
  cases s with
  | nil => exact Nc.nil
  | cons c s => exact Nc.cons (by unfold numCh; rw [decide_eq_true_eq]; exact .inr (by simpa [b0] using h1)) (by simpa using h)
theorem nc_E {neg : Bool} {w f p d : Str} (h : (partsE neg w f p d).2.2.2.2 = true) : Nc d := by
  unfold partsE at h
  split at h
  · cases h
  · rename_i hc
    exact nc_dig (runL_dig (by omega))
theorem nc_D {neg : Bool} {w f s : Str} (h : (partsD neg w f s).2.2.2.2 = true) : Nc s := by
  unfold partsD at h
  split at h
  · rename_i h0
    obtain rfl := List.eq_nil_of_length_eq_zero h0
    exact Nc.nil
  · split at h
    · cases h
    · refine nc_cons (by omega) ?_
      split at h
      · exact nc_cons (by omega) (nc_E h)
      · exact nc_E h
theorem nc_C {neg : Bool} {w s : Str} (h : (partsC neg w s).2.2.2.2 = true) : Nc s := by
  unfold partsC at h
  split at h
  · split at h
    · cases h
    · exact nc_cons (by omega) (nc_run (nc_D h))
  · exact nc_D h
theorem nc_B {neg : Bool} {s : Str} (h : (partsB neg s).2.2.2.2 = true) : Nc s := by
  unfold partsB at h
  split at h
  · cases h
  · exact nc_run (nc_C h)
theorem nc_num {s : Str} (h : numL s = true) : Nc s := by
  rw [numL_eq] at h
  unfold okP at h
  simp only [Bool.and_eq_true, decide_eq_true_eq] at h
  have h := h.1.1
  unfold numParts at h
  split at h
  · exact nc_cons (by omega) (nc_B h)
  · exact nc_B h
theorem dig_u8 {m : Nat} (h : m < 10) : dig (UInt8.ofNat (48 + m)) = true := by
  unfold dig
  rw [UInt8.toNat_ofNat', Nat.mod_eq_of_lt (by omega), decide_eq_true_eq]
  omega
theorem digits_dig : ∀ n : Nat, ∀ b ∈ Lib.decDigits n, dig b = true := by
  intro n
  induction n using Nat.strongRecOn with
  | ind n ih =>
    intro b hb
    rw [Lib.decDigits] at hb
    split at hb
    · rename_i h
      rw [List.mem_singleton] at hb
      subst hb
      exact dig_u8 h
    · rcases List.mem_append.1 hb with hb | hb
      · exact ih _ (by omega) b hb
      · rw [List.mem_singleton] at hb
        subst hb
        exact dig_u8 (by omega)
theorem nc_itoa (z : Int) : Nc (Lib.itoa z) := by
  by_cases h : 0 ≤ z
  · obtain ⟨u, rfl⟩ := Int.eq_ofNat_of_zero_le h
    rw [Lib.itoa_nonneg]
    exact nc_dig (digits_dig u)
  · obtain ⟨u, hu⟩ := Int.eq_ofNat_of_zero_le (show 0 ≤ -z by omega)
    rw [show z = -(u : Int) by omega, Lib.itoa_neg u (by omega)]
    exact Nc.cons (by decide) (nc_dig (digits_dig u))
theorem valN_app : ∀ (s r : Str) (a : Nat), valN (s ++ r) a = valN r (valN s a)
  | [], r, a => rfl
  | b :: s, r, a => by rw [List.cons_append, valN, valN, valN_app s r]
theorem valN_digits : ∀ n : Nat, valN (Lib.decDigits n) 0 = n := by
  intro n
  induction n using Nat.strongRecOn with
  | ind n ih =>
    rw [Lib.decDigits]
    split
    · rename_i h
      rw [valN, valN, UInt8.toNat_ofNat', Nat.mod_eq_of_lt (by omega)]
      omega
    · rename_i h
      rw [valN_app, ih _ (by omega), valN, valN, UInt8.toNat_ofNat', Nat.mod_eq_of_lt (by omega)]
      omega
theorem digits_ne (n : Nat) : Lib.decDigits n ≠ [] := by rw [Lib.decDigits]; split <;> simp
theorem parse_digits {u : Nat} (h : u ≤ 2 ^ 63) : Lib.parseUintB 64 (Lib.decDigits u) = .ok u := by
  unfold Lib.parseUintB
  rw [if_neg (digits_ne u), parseU_val rfl _ 0 (digits_dig u) (by omega), valN_digits, if_pos (by omega)]
theorem parse_itoa {z : Int} (h0 : -9223372036854775808 ≤ z) (h1 : z ≤ 9223372036854775807) : Lib.parseIntB 64 (Lib.itoa z) = .ok z := by
  by_cases h : 0 ≤ z
  · obtain ⟨u, rfl⟩ := Int.eq_ofNat_of_zero_le h
    rw [Lib.itoa_nonneg]
    have hp := parse_digits (u := u) (by omega)
    have hd := digits_dig u
    generalize Lib.decDigits u = s at *
    cases s with
    | nil => simp [Lib.parseUintB] at hp
    | cons c s =>
      have hdc := hd c (by simp)
      unfold dig at hdc
      rw [decide_eq_true_eq] at hdc
      rw [Lib.parseIntB_plain 64 c s (by omega) (by omega), hp]
      simp only [Lib.signlessC]
      rw [if_neg (by omega)]
  · obtain ⟨u, hu⟩ := Int.eq_ofNat_of_zero_le (show 0 ≤ -z by omega)
    rw [show z = -(u : Int) by omega, Lib.itoa_neg u (by omega), Lib.parseIntB_minus, parse_digits (by omega)]
    simp only [Lib.signedC]
    rw [if_neg (by omega)]
theorem refInt_itoa {z : Int} (hz : -9223372036854775808 ≤ z ∧ z ≤ 9223372036854775807) (hn : numL (Lib.itoa z) = true) : (refIntL (Lib.itoa z)).2 = true := by
  rw [← decIntL_eq]
  unfold decIntL
  have hp := parse_itoa hz.1 hz.2
  rw [if_neg, hp]
  simp only [not_or]
  refine ⟨by simp [hn], ?_, ?_⟩
  · intro hc
    obtain ⟨b, hb, hb2⟩ := (containsAny_iff _ _).1 hc
    by_cases h : 0 ≤ z
    · obtain ⟨u, rfl⟩ := Int.eq_ofNat_of_zero_le h
      rw [Lib.itoa_nonneg] at hb
      exact dig_dotE (digits_dig u b hb) hb2
    · obtain ⟨u, hu⟩ := Int.eq_ofNat_of_zero_le (show 0 ≤ -z by omega)
      rw [show z = -(u : Int) by omega, Lib.itoa_neg u (by omega)] at hb
      rcases List.mem_cons.1 hb with rfl | hb
      · revert hb2; decide
      · exact dig_dotE (digits_dig u b hb) hb2
  · intro h
    rw [h] at hp
    have h0 : z = 0 := by
      have h2 : Lib.parseIntB 64 [45, 48] = .ok 0 := by decide
      rw [h2] at hp
      injection hp with hp
      exact hp.symm
    subst h0
    have h3 := itoa_small (u := 0) (by omega)
    rw [show ((0 : Nat) : Int) = 0 from rfl, h] at h3
    revert h3; decide
def TailR (R : Str) : Prop := R = [] ∨ ∃ a y, R = a :: y ∧ (a = 10 ∨ a = 44 ∨ a = 93 ∨ a = 125)
theorem tail_while {s R : Str} (hs : Nc s) (hR : TailR R) : (s ++ R).takeWhile numCh = s := by
  rw [List.takeWhile_append_of_pos hs]
  rcases hR with rfl | ⟨a, y, rfl, h⟩
  · simp
  · rw [List.takeWhile_cons, if_neg, List.append_nil]
    rcases h with rfl | rfl | rfl | rfl <;> decide
theorem own_fields {t : Tree} (h : ¬ ownBad t.kind t.n t.s.length t.l.length t.m.length) :
    (t.kind ≠ 1 → t.kind ≠ 2 → t.n = 0) ∧ (t.kind ≠ 3 → t.kind ≠ 4 → t.kind ≠ 7 → t.s = []) ∧ (t.kind ≠ 5 → t.l = []) ∧ (t.kind ≠ 6 → t.m = []) := by
  unfold ownBad at h
  refine ⟨fun h1 h2 => by omega, fun h1 h2 h3 => List.eq_nil_of_length_eq_zero (by omega), fun h1 => List.eq_nil_of_length_eq_zero (by omega), fun h1 => List.eq_nil_of_length_eq_zero (by omega)⟩
theorem Tree.ext' {t u : Tree} (h1 : t.kind = u.kind) (h2 : t.n = u.n) (h3 : t.s = u.s) (h4 : t.l = u.l) (h5 : t.m = u.m) : t = u := by rw [t.eta, u.eta, h1, h2, h3, h4, h5]
theorem p0 {t : Tree} (hk : t.kind = 0) (d : Int) : printT t d = [110, 117, 108, 108] := by rw [printT_eq, if_pos hk]
theorem p1 {t : Tree} (hk : t.kind = 1) (d : Int) : printT t d = if t.n = 1 then [116, 114, 117, 101] else [102, 97, 108, 115, 101] := by rw [printT_eq, if_neg (by omega), if_pos hk]
theorem p2 {t : Tree} (hk : t.kind = 2) (d : Int) : printT t d = Lib.itoa t.n := by rw [printT_eq, if_neg (by omega), if_neg (by omega), if_pos hk]
theorem line_head (d : Int) (z : UInt8) (R : Str) : (lineL d ++ z :: R = z :: R) ∨ ∃ y, lineL d ++ z :: R = 10 :: y := by
  unfold lineL
  split
  · exact .inl rfl
  · exact .inr ⟨_, rfl⟩
theorem tail_L (d' d : Int) (z : UInt8) (hz : z = 93 ∨ z = 125) (R : Str) : ∀ l : List Tree, TailR (printL false l d' ++ (lineL d ++ z :: R))
  | [] => by
    rw [printL, List.nil_append]
    rcases line_head d z R with h | ⟨y, h⟩
    · rw [h]; exact .inr ⟨z, R, rfl, by rcases hz with rfl | rfl <;> decide⟩
    · rw [h]; exact .inr ⟨10, y, rfl, by decide⟩
  | x :: l => by rw [printL, if_neg (by simp)]; exact .inr ⟨44, _, rfl, by decide⟩
theorem tail_M (d' d : Int) (z : UInt8) (hz : z = 93 ∨ z = 125) (R : Str) : ∀ l : List (Str × Tree), TailR (printM false l d' ++ (lineL d ++ z :: R))
  | [] => by
    rw [printM, List.nil_append]
    rcases line_head d z R with h | ⟨y, h⟩
    · rw [h]; exact .inr ⟨z, R, rfl, by rcases hz with rfl | rfl <;> decide⟩
    · rw [h]; exact .inr ⟨10, y, rfl, by decide⟩
  | x :: l => by rw [printM, if_neg (by simp)]; exact .inr ⟨44, _, rfl, by decide⟩
end Go.Am
end
