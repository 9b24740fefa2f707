/-
The walk through the reader of JSON: values, by what lists and maps answer.
-/
import Derived.Test.YtoinkmogdfjmmaaGreatDoorPH
import Derived.Test.YtoinkmogdfjmmaaGreatDoorPF
import Derived.Test.YtoinkmogdfjmmaaGreatDoorPG

section
namespace Go.Proofs.YtoinkmogdfjmmaaGreatDoor
open Go Go.Am Go.RowKit
set_option maxRecDepth 100000
theorem HLe.dead1 (o : HO) : HLe [o] [.dead] := ⟨fun n B L w _ => by
    rcases n with _ | n
    · exact .dead
    · exact .dead, fun n h => by
    rcases n with _ | n
    · exact h.elim
    · exact h.elim, rfl⟩
theorem CLe.dead {v : V} {o : HO} : CLe ⟨.pan v, [o], []⟩ ⟨.pan v, [.dead], []⟩ := ⟨OutLe.refl _, HLe.dead1 o, fun _ h => h⟩
theorem reader_failD (ws : List Wd) (i : Nat) (n e : Int) (w : Wd) (h : ws[i]? = some w) (hl : ws.length ≤ 1073741824) : AbsCall PP GG F.jread_reader_fail [.ptr 0 0, .p (.int .i64 e)] [jrO ws i n] ⟨.pan (wrongP e w.a), [.dead], []⟩ :=
  (reader_fail ws i n e w h hl).le CLe.dead
theorem reader_wantD (ws : List Wd) (i : Nat) (n : Int) (w : Wd) (h : ws[i]? = some w) (hl : ws.length ≤ 1073741824) (s : Str) (hq : ¬ (w.k = 1 ∧ w.s = s)) : AbsCall PP GG F.jread_reader_want [.ptr 0 0, .p (.str s)] [jrO ws i n] ⟨.pan (wrongP 4 w.a), [.dead], []⟩ :=
  (reader_want_no ws i n w h hl s hq).le CLe.dead
def resR (ws : List Wd) : RR → CR
  | .ok (t, j, m) => ⟨.ret (.p t.enc), [jrO ws j m], []⟩
  | .error (e, a) => ⟨.pan (wrongP e a), [.dead], []⟩
def ValAt (ws : List Wd) (q : Nat) : Prop := ∀ (d : Int) (i : Nat) (n : Int), i < ws.length → 3 * (ws.length - i) + 1 ≤ q → 0 ≤ d → d ≤ 33 → 0 ≤ n → n ≤ 4096 →
  AbsCall PP GG F.jread_reader_value [.ptr 0 0, .p (.int .i64 d)] [jrO ws i n] (resR ws (valR q ws d i n))
def ListAt (ws : List Wd) (q : Nat) : Prop := ∀ (d : Int) (i : Nat) (n : Int), i < ws.length → 3 * (ws.length - i) + 3 ≤ q → 0 ≤ d → d ≤ 32 → 0 ≤ n → n ≤ 4096 →
  AbsCall PP GG F.jread_reader_list [.ptr 0 0, .p (.int .i64 d)] [jrO ws i n] (resR ws (listR q ws d i n))
def PairsAt (ws : List Wd) (q : Nat) : Prop := ∀ (d : Int) (i : Nat) (n : Int), i < ws.length → 3 * (ws.length - i) + 3 ≤ q → 0 ≤ d → d ≤ 32 → 0 ≤ n → n ≤ 4096 →
  AbsCall PP GG F.jread_reader_pairs [.ptr 0 0, .p (.int .i64 d)] [jrO ws i n] (resR ws (pairsR q ws d i n))
theorem tree_nils (k n : Int) (s : Str) : VLe (.p (.agg [.int .i64 k, .int .i64 n, .str s, .nils, .nils])) (.p (Tree.mk k n s [] []).enc) :=
  (PLe.agg (show LeL [.int .i64 k, .int .i64 n, .str s, .nils, .nils] [.int .i64 k, .int .i64 n, .str s, .lst false [], .lst false []] from ⟨PLe.refl _, PLe.refl _, PLe.refl _, PLe.nils false, PLe.nils false, trivial⟩)).p
theorem isS_no {w : Wd} (x : Str) (h : ¬ w.k = 1) : isS w x = false := decide_eq_false fun e => h e.1
theorem value_end (ws : List Wd) (hl : ws.length ≤ 1073741824) (d : Int) (hd0 : 0 ≤ d) (hd1 : d ≤ 33) (i : Nat) (hi : i ≤ 1073741824) (n : Int) (hn0 : 0 ≤ n) (hn1 : n ≤ 4096) (a : Int) (s : Str) (hat : ws[i]? = some ⟨0, s, a⟩) : AbsCall PP GG F.jread_reader_value [.ptr 0 0, .p (.int .i64 d)] [jrO ws i n] ⟨.pan (wrongP 4 a), [.dead], []⟩ := by
  have hW := reader_word ws i n _ hat hl
  have hF1 := reader_failD ws i n 4 _ hat hl
  refine absCall_of (pol := polG) mixP F.jread_reader_value_is ?_
  conv => whnf
  repeat' ((first
   | ((with_reducible first | refine Br.dec ?_ ?_ | refine Br.ndec ?_ ?_) <;> intro hb <;> (try simp only [ZZ] at hb) <;> (first | omega | contradiction | skip))
   | (with_reducible first | refine Br.tt rfl ?_ | refine Br.ff rfl ?_ | refine Br.ff (isEmptyCons _ _) ?_)
   | ((with_reducible first | refine Side.mk ?_ ?_ | refine WrapW.mk ?_ ?_); focus (first | omega | (dsimp only [InR, Int.reduceToNat, IntKind.bits, Int.reducePow]; omega) | (simp [CC]; done) | (constructor <;> omega)))
   | with_reducible refine Br.not ?_
   | (with_reducible first | refine Br.tt (by assumption) ?_ | refine Br.ff (by assumption) ?_)
   | (refine Br.mk ?_ ?_ <;> intro hb <;> (try simp only [ZZ] at hb) <;> (first | omega | contradiction | skip))
   | refine Src.whole ⟨rfl, rfl⟩ ?_ | refine FrzV.whole ?_
   | refine CallW.use (hW) ?_
   | refine CallW.use (hF1) ?_) <;> conv => whnf)
  exact CLe.eq rfl
theorem value_sign (ws : List Wd) (hl : ws.length ≤ 1073741824) (d : Int) (hd0 : 0 ≤ d) (hd1 : d ≤ 33) (i : Nat) (hi : i ≤ 1073741824) (n : Int) (hn0 : 0 ≤ n) (hn1 : n ≤ 4096) (a : Int) (s : Str) (h1 : ¬ s = [123]) (h2 : ¬ s = [91]) (hat : ws[i]? = some ⟨1, s, a⟩) : AbsCall PP GG F.jread_reader_value [.ptr 0 0, .p (.int .i64 d)] [jrO ws i n] ⟨.pan (wrongP 4 a), [.dead], []⟩ := by
  have hW := reader_word ws i n _ hat hl
  have hF1 := reader_failD ws i n 4 _ hat hl
  have hI1 := reader_is ws i n _ hat hl [123]
  have hI2 := reader_is ws i n _ hat hl [91]
  rw [decide_eq_false (by simp [h1])] at hI1
  rw [decide_eq_false (by simp [h2])] at hI2
  refine absCall_of (pol := polG) mixP F.jread_reader_value_is ?_
  conv => whnf
  repeat' ((first
   | ((with_reducible first | refine Br.dec ?_ ?_ | refine Br.ndec ?_ ?_) <;> intro hb <;> (try simp only [ZZ] at hb) <;> (first | omega | contradiction | skip))
   | (with_reducible first | refine Br.tt rfl ?_ | refine Br.ff rfl ?_ | refine Br.ff (isEmptyCons _ _) ?_)
   | ((with_reducible first | refine Side.mk ?_ ?_ | refine WrapW.mk ?_ ?_); focus (first | omega | (dsimp only [InR, Int.reduceToNat, IntKind.bits, Int.reducePow]; omega) | (simp [CC]; done) | (constructor <;> omega)))
   | with_reducible refine Br.not ?_
   | (with_reducible first | refine Br.tt (by assumption) ?_ | refine Br.ff (by assumption) ?_)
   | (refine Br.mk ?_ ?_ <;> intro hb <;> (try simp only [ZZ] at hb) <;> (first | omega | contradiction | skip))
   | refine Src.whole ⟨rfl, rfl⟩ ?_ | refine FrzV.whole ?_
   | refine CallW.use (hW) ?_
   | refine CallW.use (hI1) ?_
   | refine CallW.use (hI2) ?_
   | refine CallW.use (hF1) ?_) <;> conv => whnf)
  exact CLe.eq rfl
theorem value_lim1 (ws : List Wd) (hl : ws.length ≤ 1073741824) (d : Int) (hd0 : 0 ≤ d) (hd1 : d ≤ 33) (i : Nat) (hi : i ≤ 1073741824) (n : Int) (hn0 : 0 ≤ n) (hn1 : n ≤ 4096) (a : Int) (hat : ws[i]? = some ⟨1, [123], a⟩) (hlim : 4096 < n + 1 ∨ 32 < d) : AbsCall PP GG F.jread_reader_value [.ptr 0 0, .p (.int .i64 d)] [jrO ws i n] ⟨.pan (wrongP 2 a), [.dead], []⟩ := by
  have hW := reader_word ws i n _ hat hl
  have hF2 := reader_failD ws i (n + 1) 2 _ hat hl
  have hI1 := reader_is ws i n _ hat hl [123]
  rw [decide_eq_true ⟨rfl, rfl⟩] at hI1
  refine absCall_of (pol := polG) mixP F.jread_reader_value_is ?_
  conv => whnf
  repeat' ((first
   | ((with_reducible first | refine Br.dec ?_ ?_ | refine Br.ndec ?_ ?_) <;> intro hb <;> (try simp only [ZZ] at hb) <;> (first | omega | contradiction | skip))
   | (with_reducible first | refine Br.tt rfl ?_ | refine Br.ff rfl ?_ | refine Br.ff (isEmptyCons _ _) ?_)
   | ((with_reducible first | refine Side.mk ?_ ?_ | refine WrapW.mk ?_ ?_); focus (first | omega | (dsimp only [InR, Int.reduceToNat, IntKind.bits, Int.reducePow]; omega) | (simp [CC]; done) | (constructor <;> omega)))
   | with_reducible refine Br.not ?_
   | (with_reducible first | refine Br.tt (by assumption) ?_ | refine Br.ff (by assumption) ?_)
   | (refine Br.mk ?_ ?_ <;> intro hb <;> (try simp only [ZZ] at hb) <;> (first | omega | contradiction | skip))
   | refine Src.whole ⟨rfl, rfl⟩ ?_ | refine FrzV.whole ?_
   | refine CallW.use (hW) ?_
   | refine CallW.use (hI1) ?_
   | refine CallW.use (hF2) ?_) <;> conv => whnf)
  all_goals exact CLe.eq rfl
theorem value_lim2 (ws : List Wd) (hl : ws.length ≤ 1073741824) (d : Int) (hd0 : 0 ≤ d) (hd1 : d ≤ 33) (i : Nat) (hi : i ≤ 1073741824) (n : Int) (hn0 : 0 ≤ n) (hn1 : n ≤ 4096) (a : Int) (hat : ws[i]? = some ⟨1, [91], a⟩) (hlim : 4096 < n + 1 ∨ 32 < d) : AbsCall PP GG F.jread_reader_value [.ptr 0 0, .p (.int .i64 d)] [jrO ws i n] ⟨.pan (wrongP 2 a), [.dead], []⟩ := by
  have hW := reader_word ws i n _ hat hl
  have hF2 := reader_failD ws i (n + 1) 2 _ hat hl
  have hI1 := reader_is ws i n _ hat hl [123]
  have hI2 := reader_is ws i n _ hat hl [91]
  rw [decide_eq_false (by simp)] at hI1
  rw [decide_eq_true ⟨rfl, rfl⟩] at hI2
  refine absCall_of (pol := polG) mixP F.jread_reader_value_is ?_
  conv => whnf
  repeat' ((first
   | ((with_reducible first | refine Br.dec ?_ ?_ | refine Br.ndec ?_ ?_) <;> intro hb <;> (try simp only [ZZ] at hb) <;> (first | omega | contradiction | skip))
   | (with_reducible first | refine Br.tt rfl ?_ | refine Br.ff rfl ?_ | refine Br.ff (isEmptyCons _ _) ?_)
   | ((with_reducible first | refine Side.mk ?_ ?_ | refine WrapW.mk ?_ ?_); focus (first | omega | (dsimp only [InR, Int.reduceToNat, IntKind.bits, Int.reducePow]; omega) | (simp [CC]; done) | (constructor <;> omega)))
   | with_reducible refine Br.not ?_
   | (with_reducible first | refine Br.tt (by assumption) ?_ | refine Br.ff (by assumption) ?_)
   | (refine Br.mk ?_ ?_ <;> intro hb <;> (try simp only [ZZ] at hb) <;> (first | omega | contradiction | skip))
   | refine Src.whole ⟨rfl, rfl⟩ ?_ | refine FrzV.whole ?_
   | refine CallW.use (hW) ?_
   | refine CallW.use (hI1) ?_
   | refine CallW.use (hI2) ?_
   | refine CallW.use (hF2) ?_) <;> conv => whnf)
  all_goals exact CLe.eq rfl
theorem value_lim3 (ws : List Wd) (hl : ws.length ≤ 1073741824) (d : Int) (hd0 : 0 ≤ d) (hd1 : d ≤ 33) (i : Nat) (hi : i ≤ 1073741824) (n : Int) (hn0 : 0 ≤ n) (hn1 : n ≤ 4096) (a : Int) (k : Int) (s : Str) (hk : k = 2 ∨ k = 3 ∨ k = 4) (hat : ws[i]? = some ⟨k, s, a⟩) (hlim : 4096 < n + 1 ∨ 32 < d) : AbsCall PP GG F.jread_reader_value [.ptr 0 0, .p (.int .i64 d)] [jrO ws i n] ⟨.pan (wrongP 2 a), [.dead], []⟩ := by
  have hW := reader_word ws i n _ hat hl
  have hF2 := reader_failD ws i (n + 1) 2 _ hat hl
  have hk0 : ¬ k = 0 := by omega
  have hk1 : ¬ k = 1 := by omega
  refine absCall_of (pol := polG) mixP F.jread_reader_value_is ?_
  conv => whnf
  repeat' ((first
   | ((with_reducible first | refine Br.dec ?_ ?_ | refine Br.ndec ?_ ?_) <;> intro hb <;> (try simp only [ZZ] at hb) <;> (first | omega | contradiction | skip))
   | (with_reducible first | refine Br.tt rfl ?_ | refine Br.ff rfl ?_ | refine Br.ff (isEmptyCons _ _) ?_)
   | ((with_reducible first | refine Side.mk ?_ ?_ | refine WrapW.mk ?_ ?_); focus (first | omega | (dsimp only [InR, Int.reduceToNat, IntKind.bits, Int.reducePow]; omega) | (simp [CC]; done) | (constructor <;> omega)))
   | with_reducible refine Br.not ?_
   | (with_reducible first | refine Br.tt (by assumption) ?_ | refine Br.ff (by assumption) ?_)
   | (refine Br.mk ?_ ?_ <;> intro hb <;> (try simp only [ZZ] at hb) <;> (first | omega | contradiction | skip))
   | refine Src.whole ⟨rfl, rfl⟩ ?_ | refine FrzV.whole ?_
   | refine CallW.use (hW) ?_
   | refine CallW.use (hF2) ?_) <;> conv => whnf)
  all_goals exact CLe.eq rfl
theorem value_map (ws : List Wd) (hl : ws.length ≤ 1073741824) (d : Int) (hd0 : 0 ≤ d) (hd1 : d ≤ 33) (i : Nat) (hi : i ≤ 1073741824) (n : Int) (hn0 : 0 ≤ n) (hn1 : n ≤ 4096) (a : Int) (hlim1 : n + 1 ≤ 4096) (hlim2 : d ≤ 32) (hat : ws[i]? = some ⟨1, [123], a⟩) (R : RR) (hP : AbsCall PP GG F.jread_reader_pairs [.ptr 0 0, .p (.int .i64 d)] [jrO ws (i + 1 : Nat) (n + 1)] (resR ws R)) : AbsCall PP GG F.jread_reader_value [.ptr 0 0, .p (.int .i64 d)] [jrO ws i n] (resR ws R) := by
  have hW := reader_word ws i n _ hat hl
  have hI1 := reader_is ws i n _ hat hl [123]
  rw [decide_eq_true ⟨rfl, rfl⟩] at hI1
  rcases R with ⟨e, a⟩ | ⟨⟨x1, x2, x3, x4, x5⟩, j, m⟩
  · refine absCall_of (pol := polG) mixP F.jread_reader_value_is ?_
    conv => whnf
    repeat' ((first
     | ((with_reducible first | refine Br.dec ?_ ?_ | refine Br.ndec ?_ ?_) <;> intro hb <;> (try simp only [ZZ] at hb) <;> (first | omega | contradiction | skip))
     | (with_reducible first | refine Br.tt rfl ?_ | refine Br.ff rfl ?_ | refine Br.ff (isEmptyCons _ _) ?_)
     | ((with_reducible first | refine Side.mk ?_ ?_ | refine WrapW.mk ?_ ?_); focus (first | omega | (dsimp only [InR, Int.reduceToNat, IntKind.bits, Int.reducePow]; omega) | (simp [CC]; done) | (constructor <;> omega)))
     | with_reducible refine Br.not ?_
     | (with_reducible first | refine Br.tt (by assumption) ?_ | refine Br.ff (by assumption) ?_)
     | (refine Br.mk ?_ ?_ <;> intro hb <;> (try simp only [ZZ] at hb) <;> (first | omega | contradiction | skip))
     | refine Src.whole ⟨rfl, rfl⟩ ?_ | refine FrzV.whole ?_
     | refine CallW.use (hW) ?_
     | refine CallW.use (hI1) ?_
     | refine CallW.use (hP) ?_) <;> conv => whnf)
    all_goals exact CLe.eq rfl
  · refine absCall_of (pol := polG) mixP F.jread_reader_value_is ?_
    conv => whnf
    repeat' ((first
     | ((with_reducible first | refine Br.dec ?_ ?_ | refine Br.ndec ?_ ?_) <;> intro hb <;> (try simp only [ZZ] at hb) <;> (first | omega | contradiction | skip))
     | (with_reducible first | refine Br.tt rfl ?_ | refine Br.ff rfl ?_ | refine Br.ff (isEmptyCons _ _) ?_)
     | ((with_reducible first | refine Side.mk ?_ ?_ | refine WrapW.mk ?_ ?_); focus (first | omega | (dsimp only [InR, Int.reduceToNat, IntKind.bits, Int.reducePow]; omega) | (simp [CC]; done) | (constructor <;> omega)))
     | with_reducible refine Br.not ?_
     | (with_reducible first | refine Br.tt (by assumption) ?_ | refine Br.ff (by assumption) ?_)
     | (refine Br.mk ?_ ?_ <;> intro hb <;> (try simp only [ZZ] at hb) <;> (first | omega | contradiction | skip))
     | refine Src.whole ⟨rfl, rfl⟩ ?_ | refine FrzV.whole ?_
     | refine CallW.use (hW) ?_
     | refine CallW.use (hI1) ?_
     | refine CallW.use (hP) ?_) <;> conv => whnf)
    all_goals exact CLe.eq rfl
theorem value_list (ws : List Wd) (hl : ws.length ≤ 1073741824) (d : Int) (hd0 : 0 ≤ d) (hd1 : d ≤ 33) (i : Nat) (hi : i ≤ 1073741824) (n : Int) (hn0 : 0 ≤ n) (hn1 : n ≤ 4096) (a : Int) (hlim1 : n + 1 ≤ 4096) (hlim2 : d ≤ 32) (hat : ws[i]? = some ⟨1, [91], a⟩) (R : RR) (hP : AbsCall PP GG F.jread_reader_list [.ptr 0 0, .p (.int .i64 d)] [jrO ws (i + 1 : Nat) (n + 1)] (resR ws R)) : AbsCall PP GG F.jread_reader_value [.ptr 0 0, .p (.int .i64 d)] [jrO ws i n] (resR ws R) := by
  have hW := reader_word ws i n _ hat hl
  have hI1 := reader_is ws i n _ hat hl [123]
  have hI2 := reader_is ws i n _ hat hl [91]
  rw [decide_eq_false (by simp)] at hI1
  rw [decide_eq_true ⟨rfl, rfl⟩] at hI2
  rcases R with ⟨e, a⟩ | ⟨⟨x1, x2, x3, x4, x5⟩, j, m⟩
  · refine absCall_of (pol := polG) mixP F.jread_reader_value_is ?_
    conv => whnf
    repeat' ((first
     | ((with_reducible first | refine Br.dec ?_ ?_ | refine Br.ndec ?_ ?_) <;> intro hb <;> (try simp only [ZZ] at hb) <;> (first | omega | contradiction | skip))
     | (with_reducible first | refine Br.tt rfl ?_ | refine Br.ff rfl ?_ | refine Br.ff (isEmptyCons _ _) ?_)
     | ((with_reducible first | refine Side.mk ?_ ?_ | refine WrapW.mk ?_ ?_); focus (first | omega | (dsimp only [InR, Int.reduceToNat, IntKind.bits, Int.reducePow]; omega) | (simp [CC]; done) | (constructor <;> omega)))
     | with_reducible refine Br.not ?_
     | (with_reducible first | refine Br.tt (by assumption) ?_ | refine Br.ff (by assumption) ?_)
     | (refine Br.mk ?_ ?_ <;> intro hb <;> (try simp only [ZZ] at hb) <;> (first | omega | contradiction | skip))
     | refine Src.whole ⟨rfl, rfl⟩ ?_ | refine FrzV.whole ?_
     | refine CallW.use (hW) ?_
     | refine CallW.use (hI1) ?_
     | refine CallW.use (hI2) ?_
     | refine CallW.use (hP) ?_) <;> conv => whnf)
    all_goals exact CLe.eq rfl
  · refine absCall_of (pol := polG) mixP F.jread_reader_value_is ?_
    conv => whnf
    repeat' ((first
     | ((with_reducible first | refine Br.dec ?_ ?_ | refine Br.ndec ?_ ?_) <;> intro hb <;> (try simp only [ZZ] at hb) <;> (first | omega | contradiction | skip))
     | (with_reducible first | refine Br.tt rfl ?_ | refine Br.ff rfl ?_ | refine Br.ff (isEmptyCons _ _) ?_)
     | ((with_reducible first | refine Side.mk ?_ ?_ | refine WrapW.mk ?_ ?_); focus (first | omega | (dsimp only [InR, Int.reduceToNat, IntKind.bits, Int.reducePow]; omega) | (simp [CC]; done) | (constructor <;> omega)))
     | with_reducible refine Br.not ?_
     | (with_reducible first | refine Br.tt (by assumption) ?_ | refine Br.ff (by assumption) ?_)
     | (refine Br.mk ?_ ?_ <;> intro hb <;> (try simp only [ZZ] at hb) <;> (first | omega | contradiction | skip))
     | refine Src.whole ⟨rfl, rfl⟩ ?_ | refine FrzV.whole ?_
     | refine CallW.use (hW) ?_
     | refine CallW.use (hI1) ?_
     | refine CallW.use (hI2) ?_
     | refine CallW.use (hP) ?_) <;> conv => whnf)
    all_goals exact CLe.eq rfl
theorem value_str (ws : List Wd) (hl : ws.length ≤ 1073741824) (d : Int) (hd0 : 0 ≤ d) (hd1 : d ≤ 33) (i : Nat) (hi : i ≤ 1073741824) (n : Int) (hn0 : 0 ≤ n) (hn1 : n ≤ 4096) (a : Int) (hlim1 : n + 1 ≤ 4096) (hlim2 : d ≤ 32) (s : Str) (hat : ws[i]? = some ⟨2, s, a⟩) : AbsCall PP GG F.jread_reader_value [.ptr 0 0, .p (.int .i64 d)] [jrO ws i n] ⟨.ret (.p (Tree.mk 4 0 s [] []).enc), [jrO ws (i + 1 : Nat) (n + 1)], []⟩ := by
  have hW := reader_word ws i n _ hat hl
  refine absCall_of (pol := polG) mixP F.jread_reader_value_is ?_
  conv => whnf
  repeat' ((first
   | ((with_reducible first | refine Br.dec ?_ ?_ | refine Br.ndec ?_ ?_) <;> intro hb <;> (try simp only [ZZ] at hb) <;> (first | omega | contradiction | skip))
   | (with_reducible first | refine Br.tt rfl ?_ | refine Br.ff rfl ?_ | refine Br.ff (isEmptyCons _ _) ?_)
   | ((with_reducible first | refine Side.mk ?_ ?_ | refine WrapW.mk ?_ ?_); focus (first | omega | (dsimp only [InR, Int.reduceToNat, IntKind.bits, Int.reducePow]; omega) | (simp [CC]; done) | (constructor <;> omega)))
   | with_reducible refine Br.not ?_
   | (with_reducible first | refine Br.tt (by assumption) ?_ | refine Br.ff (by assumption) ?_)
   | (refine Br.mk ?_ ?_ <;> intro hb <;> (try simp only [ZZ] at hb) <;> (first | omega | contradiction | skip))
   | refine Src.whole ⟨rfl, rfl⟩ ?_ | refine FrzV.whole ?_
   | refine CallW.use (hW) ?_) <;> conv => whnf)
  exact CLe.ret (tree_nils 4 0 s)
theorem value_num (ws : List Wd) (hl : ws.length ≤ 1073741824) (d : Int) (hd0 : 0 ≤ d) (hd1 : d ≤ 33) (i : Nat) (hi : i ≤ 1073741824) (n : Int) (hn0 : 0 ≤ n) (hn1 : n ≤ 4096) (a : Int) (hlim1 : n + 1 ≤ 4096) (hlim2 : d ≤ 32) (s : Str) (hs : s.length ≤ 1073741824) (hat : ws[i]? = some ⟨3, s, a⟩) : AbsCall PP GG F.jread_reader_value [.ptr 0 0, .p (.int .i64 d)] [jrO ws i n]
    ⟨.ret (.p (if (refIntL s).2 = true then Tree.mk 2 (refIntL s).1 [] [] [] else Tree.mk 3 0 s [] []).enc), [jrO ws (i + 1 : Nat) (n + 1)], []⟩ := by
  have hW := reader_word ws i n _ hat hl
  have hI := dec_Int s hs
  generalize refIntL s = u at hI ⊢
  obtain ⟨u, b⟩ := u
  dsimp only [] at hI ⊢
  cases b with
  | true =>
    rw [if_pos rfl]
    refine absCall_of (pol := polG) mixP F.jread_reader_value_is ?_
    conv => whnf
    repeat' ((first
     | ((with_reducible first | refine Br.dec ?_ ?_ | refine Br.ndec ?_ ?_) <;> intro hb <;> (try simp only [ZZ] at hb) <;> (first | omega | contradiction | skip))
     | (with_reducible first | refine Br.tt rfl ?_ | refine Br.ff rfl ?_ | refine Br.ff (isEmptyCons _ _) ?_)
     | ((with_reducible first | refine Side.mk ?_ ?_ | refine WrapW.mk ?_ ?_); focus (first | omega | (dsimp only [InR, Int.reduceToNat, IntKind.bits, Int.reducePow]; omega) | (simp [CC]; done) | (constructor <;> omega)))
     | with_reducible refine Br.not ?_
     | (with_reducible first | refine Br.tt (by assumption) ?_ | refine Br.ff (by assumption) ?_)
     | (refine Br.mk ?_ ?_ <;> intro hb <;> (try simp only [ZZ] at hb) <;> (first | omega | contradiction | skip))
     | refine Src.whole ⟨rfl, rfl⟩ ?_ | refine FrzV.whole ?_
     | refine CallW.use (hW) ?_
     | refine CallW.use (hI) ?_) <;> conv => whnf)
    exact CLe.ret (tree_nils 2 u [])
  | false =>
    rw [if_neg (by decide)]
    refine absCall_of (pol := polG) mixP F.jread_reader_value_is ?_
    conv => whnf
    repeat' ((first
     | ((with_reducible first | refine Br.dec ?_ ?_ | refine Br.ndec ?_ ?_) <;> intro hb <;> (try simp only [ZZ] at hb) <;> (first | omega | contradiction | skip))
     | (with_reducible first | refine Br.tt rfl ?_ | refine Br.ff rfl ?_ | refine Br.ff (isEmptyCons _ _) ?_)
     | ((with_reducible first | refine Side.mk ?_ ?_ | refine WrapW.mk ?_ ?_); focus (first | omega | (dsimp only [InR, Int.reduceToNat, IntKind.bits, Int.reducePow]; omega) | (simp [CC]; done) | (constructor <;> omega)))
     | with_reducible refine Br.not ?_
     | (with_reducible first | refine Br.tt (by assumption) ?_ | refine Br.ff (by assumption) ?_)
     | (refine Br.mk ?_ ?_ <;> intro hb <;> (try simp only [ZZ] at hb) <;> (first | omega | contradiction | skip))
     | refine Src.whole ⟨rfl, rfl⟩ ?_ | refine FrzV.whole ?_
     | refine CallW.use (hW) ?_
     | refine CallW.use (hI) ?_) <;> conv => whnf)
    exact CLe.ret (tree_nils 3 0 s)
theorem value_true (ws : List Wd) (hl : ws.length ≤ 1073741824) (d : Int) (hd0 : 0 ≤ d) (hd1 : d ≤ 33) (i : Nat) (hi : i ≤ 1073741824) (n : Int) (hn0 : 0 ≤ n) (hn1 : n ≤ 4096) (a : Int) (hlim1 : n + 1 ≤ 4096) (hlim2 : d ≤ 32) (hat : ws[i]? = some ⟨4, [116, 114, 117, 101], a⟩) : AbsCall PP GG F.jread_reader_value [.ptr 0 0, .p (.int .i64 d)] [jrO ws i n] ⟨.ret (.p (Tree.mk 1 1 [] [] []).enc), [jrO ws (i + 1 : Nat) (n + 1)], []⟩ := by
  have hW := reader_word ws i n _ hat hl
  refine absCall_of (pol := polG) mixP F.jread_reader_value_is ?_
  conv => whnf
  repeat' ((first
   | ((with_reducible first | refine Br.dec ?_ ?_ | refine Br.ndec ?_ ?_) <;> intro hb <;> (try simp only [ZZ] at hb) <;> (first | omega | contradiction | skip))
   | (with_reducible first | refine Br.tt rfl ?_ | refine Br.ff rfl ?_ | refine Br.ff (isEmptyCons _ _) ?_)
   | ((with_reducible first | refine Side.mk ?_ ?_ | refine WrapW.mk ?_ ?_); focus (first | omega | (dsimp only [InR, Int.reduceToNat, IntKind.bits, Int.reducePow]; omega) | (simp [CC]; done) | (constructor <;> omega)))
   | with_reducible refine Br.not ?_
   | (with_reducible first | refine Br.tt (by assumption) ?_ | refine Br.ff (by assumption) ?_)
   | (refine Br.mk ?_ ?_ <;> intro hb <;> (try simp only [ZZ] at hb) <;> (first | omega | contradiction | skip))
   | refine Src.whole ⟨rfl, rfl⟩ ?_ | refine FrzV.whole ?_
   | refine CallW.use (hW) ?_) <;> conv => whnf)
  exact CLe.ret (tree_nils 1 1 [])
theorem value_false (ws : List Wd) (hl : ws.length ≤ 1073741824) (d : Int) (hd0 : 0 ≤ d) (hd1 : d ≤ 33) (i : Nat) (hi : i ≤ 1073741824) (n : Int) (hn0 : 0 ≤ n) (hn1 : n ≤ 4096) (a : Int) (hlim1 : n + 1 ≤ 4096) (hlim2 : d ≤ 32) (hat : ws[i]? = some ⟨4, [102, 97, 108, 115, 101], a⟩) : AbsCall PP GG F.jread_reader_value [.ptr 0 0, .p (.int .i64 d)] [jrO ws i n] ⟨.ret (.p (Tree.mk 1 0 [] [] []).enc), [jrO ws (i + 1 : Nat) (n + 1)], []⟩ := by
  have hW := reader_word ws i n _ hat hl
  refine absCall_of (pol := polG) mixP F.jread_reader_value_is ?_
  conv => whnf
  repeat' ((first
   | ((with_reducible first | refine Br.dec ?_ ?_ | refine Br.ndec ?_ ?_) <;> intro hb <;> (try simp only [ZZ] at hb) <;> (first | omega | contradiction | skip))
   | (with_reducible first | refine Br.tt rfl ?_ | refine Br.ff rfl ?_ | refine Br.ff (isEmptyCons _ _) ?_)
   | ((with_reducible first | refine Side.mk ?_ ?_ | refine WrapW.mk ?_ ?_); focus (first | omega | (dsimp only [InR, Int.reduceToNat, IntKind.bits, Int.reducePow]; omega) | (simp [CC]; done) | (constructor <;> omega)))
   | with_reducible refine Br.not ?_
   | (with_reducible first | refine Br.tt (by assumption) ?_ | refine Br.ff (by assumption) ?_)
   | (refine Br.mk ?_ ?_ <;> intro hb <;> (try simp only [ZZ] at hb) <;> (first | omega | contradiction | skip))
   | refine Src.whole ⟨rfl, rfl⟩ ?_ | refine FrzV.whole ?_
   | refine CallW.use (hW) ?_) <;> conv => whnf)
  exact CLe.ret (tree_nils 1 0 [])
theorem value_null (ws : List Wd) (hl : ws.length ≤ 1073741824) (d : Int) (hd0 : 0 ≤ d) (hd1 : d ≤ 33) (i : Nat) (hi : i ≤ 1073741824) (n : Int) (hn0 : 0 ≤ n) (hn1 : n ≤ 4096) (a : Int) (hlim1 : n + 1 ≤ 4096) (hlim2 : d ≤ 32) (hat : ws[i]? = some ⟨4, [110, 117, 108, 108], a⟩) : AbsCall PP GG F.jread_reader_value [.ptr 0 0, .p (.int .i64 d)] [jrO ws i n] ⟨.ret (.p (Tree.mk 0 0 [] [] []).enc), [jrO ws (i + 1 : Nat) (n + 1)], []⟩ := by
  have hW := reader_word ws i n _ hat hl
  refine absCall_of (pol := polG) mixP F.jread_reader_value_is ?_
  conv => whnf
  repeat' ((first
   | ((with_reducible first | refine Br.dec ?_ ?_ | refine Br.ndec ?_ ?_) <;> intro hb <;> (try simp only [ZZ] at hb) <;> (first | omega | contradiction | skip))
   | (with_reducible first | refine Br.tt rfl ?_ | refine Br.ff rfl ?_ | refine Br.ff (isEmptyCons _ _) ?_)
   | ((with_reducible first | refine Side.mk ?_ ?_ | refine WrapW.mk ?_ ?_); focus (first | omega | (dsimp only [InR, Int.reduceToNat, IntKind.bits, Int.reducePow]; omega) | (simp [CC]; done) | (constructor <;> omega)))
   | with_reducible refine Br.not ?_
   | (with_reducible first | refine Br.tt (by assumption) ?_ | refine Br.ff (by assumption) ?_)
   | (refine Br.mk ?_ ?_ <;> intro hb <;> (try simp only [ZZ] at hb) <;> (first | omega | contradiction | skip))
   | refine Src.whole ⟨rfl, rfl⟩ ?_ | refine FrzV.whole ?_
   | refine CallW.use (hW) ?_) <;> conv => whnf)
  exact CLe.ret (tree_nils 0 0 [])
theorem reader_value_step (ws : List Wd) (hw : WsOk ws) (q : Nat) (hL : ListAt ws q) (hP : PairsAt ws q) : ValAt ws (q + 1) := by
  intro d i n hi hq h0 h1 h2 h3
  obtain ⟨hat, hmem⟩ := hw.at hi
  have hlen := hw.len
  have htx := hw.text _ hmem
  have hend := hw.end_ i hi
  have hL := fun h => hL d (i + 1) (n + 1) h (by omega) h0
  have hP := fun h => hP d (i + 1) (n + 1) h (by omega) h0
  rw [valR]
  generalize hwd : wdAt ws i = w at *
  obtain ⟨k, s, a⟩ := w
  have hl : ws.length ≤ 1073741824 := by omega
  have hi' : i ≤ 1073741824 := by omega
  by_cases hbad : k = 0 ∨ (k = 1 ∧ ¬ s = [123] ∧ ¬ s = [91])
  · rw [if_pos hbad]
    rcases hbad with hk | ⟨hk, ha, hb⟩
    · subst hk
      exact value_end ws hl d h0 h1 i hi' n h2 h3 a s hat
    · subst hk
      exact value_sign ws hl d h0 h1 i hi' n h2 h3 a s ha hb hat
  rw [if_neg hbad]
  have hk0 : ¬ k = 0 := fun e => hbad (.inl e)
  have htx' : 0 ≤ k ∧ k ≤ 4 := ⟨htx.2.1, htx.2.2.1⟩
  have hkind : (k = 1 ∧ s = [123]) ∨ (k = 1 ∧ s = [91]) ∨ k = 2 ∨ k = 3 ∨ k = 4 := by
    by_cases g1 : k = 1
    · by_cases g2 : s = [123]
      · exact .inl ⟨g1, g2⟩
      · by_cases g3 : s = [91]
        · exact .inr (.inl ⟨g1, g3⟩)
        · exact absurd (.inr ⟨g1, g2, g3⟩) hbad
    · omega
  clear hbad
  have hi1 := hend hk0
  by_cases hlim : 4096 < n + 1 ∨ 32 < d
  · rw [if_pos hlim]
    rcases hkind with ⟨hk, hs⟩ | ⟨hk, hs⟩ | hk
    · subst hk; subst hs
      exact value_lim1 ws hl d h0 h1 i hi' n h2 h3 a hat hlim
    · subst hk; subst hs
      exact value_lim2 ws hl d h0 h1 i hi' n h2 h3 a hat hlim
    · exact value_lim3 ws hl d h0 h1 i hi' n h2 h3 a k s hk hat hlim
  rw [if_neg hlim]
  have hlim1 : n + 1 ≤ 4096 := by omega
  have hlim2 : d ≤ 32 := by omega
  have hL := hL hi1 (by omega) (by omega) (by omega)
  have hP := hP hi1 (by omega) (by omega) (by omega)
  rcases hkind with ⟨hk, hs⟩ | ⟨hk, hs⟩ | hk | hk | hk
  · subst hk; subst hs
    rw [show isS ⟨1, [123], a⟩ [91] = false from rfl, show isS ⟨1, [123], a⟩ [123] = true from rfl, if_neg (by decide), if_pos rfl]
    exact value_map ws hl d h0 h1 i hi' n h2 h3 a hlim1 hlim2 hat _ hP
  · subst hk; subst hs
    rw [show isS ⟨1, [91], a⟩ [91] = true from rfl, if_pos rfl]
    exact value_list ws hl d h0 h1 i hi' n h2 h3 a hlim1 hlim2 hat _ hL
  all_goals
    subst hk
    rw [isS_no (w := ⟨_, s, a⟩) [91] (by simp), isS_no (w := ⟨_, s, a⟩) [123] (by simp), if_neg (by decide), if_neg (by decide)]
  · exact value_str ws hl d h0 h1 i hi' n h2 h3 a hlim1 hlim2 s hat
  · have := value_num ws hl d h0 h1 i hi' n h2 h3 a hlim1 hlim2 s (by have := htx.1; simp only [] at this; omega) hat
    exact this
  · rcases htx.2.2.2 rfl with hs | hs | hs
    · simp only [] at hs; subst hs; exact value_true ws hl d h0 h1 i hi' n h2 h3 a hlim1 hlim2 hat
    · simp only [] at hs; subst hs; exact value_false ws hl d h0 h1 i hi' n h2 h3 a hlim1 hlim2 hat
    · simp only [] at hs; subst hs; exact value_null ws hl d h0 h1 i hi' n h2 h3 a hlim1 hlim2 hat
theorem take_yes {ws : List Wd} {j : Nat} {n : Int} {s : Str} (hat : ws[j]? = some (wdAt ws j)) (hl : ws.length ≤ 1073741824) (h : isS (wdAt ws j) s = true) :
    AbsCall PP GG F.jread_reader_take [.ptr 0 0, .p (.str s)] [jrO ws j n] ⟨.ret (.p (.bool true)), [jrO ws (j + 1 : Nat) n], []⟩ := by
  have := reader_take ws j n (wdAt ws j) hat hl s
  rw [if_pos (isS_k h), decide_eq_true (isS_k h)] at this
  exact this
theorem take_no {ws : List Wd} {j : Nat} {n : Int} {s : Str} (hat : ws[j]? = some (wdAt ws j)) (hl : ws.length ≤ 1073741824) (h : isS (wdAt ws j) s = false) :
    AbsCall PP GG F.jread_reader_take [.ptr 0 0, .p (.str s)] [jrO ws j n] ⟨.ret (.p (.bool false)), [jrO ws j n], []⟩ := by
  have := reader_take ws j n (wdAt ws j) hat hl s
  have hn := of_decide_eq_false h
  rw [if_neg hn, decide_eq_false hn] at this
  exact this
theorem want_yes {ws : List Wd} {j : Nat} {n : Int} {s : Str} (hat : ws[j]? = some (wdAt ws j)) (hl : ws.length ≤ 1073741824) (h : isS (wdAt ws j) s = true) :
    AbsCall PP GG F.jread_reader_want [.ptr 0 0, .p (.str s)] [jrO ws j n] ⟨.ret (.tup []), [jrO ws (j + 1 : Nat) n], []⟩ := reader_want_ok ws j n (wdAt ws j) hat hl s (isS_k h)
theorem want_no {ws : List Wd} {j : Nat} {n : Int} {s : Str} (hat : ws[j]? = some (wdAt ws j)) (hl : ws.length ≤ 1073741824) (h : isS (wdAt ws j) s = false) :
    AbsCall PP GG F.jread_reader_want [.ptr 0 0, .p (.str s)] [jrO ws j n] ⟨.pan (wrongP 4 (wdAt ws j).a), [.dead], []⟩ := reader_wantD ws j n (wdAt ws j) hat hl s (of_decide_eq_false h)
theorem tree_side (x : Tree) : ∀ y : PV, y ∈ [x.enc] → y.cells.length = 5 ∧ ∀ c : PV, c ∈ y.cells → c.leaf = true := by
  intro y hy
  rw [List.mem_singleton.1 hy]
  exact ⟨Tree.enc_cells x, Tree.enc_leaf x⟩
theorem tree_side1 (x : Tree) : ∀ y : PV, y ∈ [x.enc] → y.cells.length = 5 := fun y hy => (tree_side x y hy).1
def zO : HO := .var T.api_Value (.p (.agg [.int .i64 0, .int .i64 0, .str [], .nils, .nils]))
def lsV (m : Nat) : V := .agg [.p (.int .i64 5), .p (.int .i64 0), .p (.str []), .sl 3 0 m, .p .nils]
theorem lsV_frz (l : List Tree) : V.frz 3 (Tree.encL l) (lsV (Tree.encL l).length) = .p (.agg [.int .i64 5, .int .i64 0, .str [], .lst false (Tree.encL l), .nils]) := by
  simp [lsV, V.frz, V.frzL, V.mk, allP, PV.leaf]
def lsV1 : V := .agg [.p (.int .i64 5), .p (.int .i64 0), .p (.str []), .sl 4 0 1, .p .nils]
theorem lsV1_frz (x : Tree) : V.frz 4 [x.enc] lsV1 = .p (.agg [.int .i64 5, .int .i64 0, .str [], .lst false [x.enc], .nils]) := by
  simp [lsV1, V.frz, V.frzL, V.mk, allP, PV.leaf]
theorem tree_ls (l : List Tree) : VLe (.p (.agg [.int .i64 5, .int .i64 0, .str [], .lst false (Tree.encL l), .nils])) (.p (Tree.mk 5 0 [] l []).enc) :=
  (PLe.agg (show LeL [.int .i64 5, .int .i64 0, .str [], .lst false (Tree.encL l), .nils] [.int .i64 5, .int .i64 0, .str [], .lst false (Tree.encL l), .lst false []] from ⟨PLe.refl _, PLe.refl _, PLe.refl _, PLe.refl _, PLe.nils false, trivial⟩)).p
theorem items_loop (ws : List Wd) (hw : WsOk ws) (Q : Nat) (hv : ∀ q, q < Q → ValAt ws q) (d : Int) (hd0 : 0 ≤ d) (hd : d ≤ 32) (R : RR) (K : Post)
    (h0 : ∀ (l : List Tree) (j : Nat) (m : Int), R = .ok (.mk 5 0 [] l [], j, m) → ∀ es : List PV, K .ret [(4, .ptr 1 0)] [jrO ws j m, .var T.api_Value (lsV (Tree.encL l).length), .var T.api_Value (lsV (Tree.encL l).length), .arr T.api_Value 5 (Tree.encL l), .arr T.api_Value 5 es] [])
    (hp : ∀ e a : Int, R = .error (e, a) → ∀ H : Heap, K (.pan (wrongP e a)) [] (.dead :: H) []) :
    ∀ (q : Nat) (i : Nat) (n : Int) (acc : List Tree), q ≤ Q → i < ws.length → 3 * (ws.length - i) + 2 ≤ q → 0 ≤ n → n ≤ 4096 → acc ≠ [] → acc.length ≤ n → itemsR q ws d i n acc = R →
      LoopW PP GG 24 1 (loopN F.jread_reader_list_c 0) [(0, .ptr 0 0), (1, .p (.int .i64 d)), (4, .ptr 1 0), (5, .ptr 2 0)] [jrO ws i n, zO, .var T.api_Value (lsV (Tree.encL acc).length), .arr T.api_Value 5 (Tree.encL acc)] [] (PostCl 24 K) := by
  intro q
  induction q with
  | zero => intro i n acc hq hi hf; omega
  | succ q ih =>
    intro i n acc hq hi hf hn0 hn1 hne hacc hR
    have hml : (Tree.encL acc).length = acc.length := Tree.encL_length acc
    have hV := hv q (by omega) (d + 1) i n hi (by omega) (by omega) (by omega) hn0 hn1
    have hok := (okR_all hw q).1 (d + 1) i n hi
    have hws := hw.len
    have hl : ws.length ≤ 1073741824 := by omega
    rw [itemsR] at hR
    cases hr : valR q ws (d + 1) i n with
    | error e =>
      rw [hr] at hV hR
      obtain ⟨e, a⟩ := e
      refine LoopW.round (pol := polG) mixP ?_
      conv => whnf
      repeat' ((first
       | ((with_reducible first | refine Br.dec ?_ ?_ | refine Br.ndec ?_ ?_) <;> intro hb <;> (try simp only [ZZ] at hb) <;> (first | omega | contradiction | skip))
       | (with_reducible first | refine Br.tt rfl ?_ | refine Br.ff rfl ?_ | refine Br.ff (isEmptyCons _ _) ?_)
       | ((with_reducible first | refine Side.mk ?_ ?_ | refine WrapW.mk ?_ ?_); focus (first | omega | (dsimp only [InR, Int.reduceToNat, IntKind.bits, Int.reducePow]; omega) | (simp [CC]; done) | (constructor <;> omega)))
       | with_reducible refine Br.not ?_
       | (with_reducible first | refine Br.tt (by assumption) ?_ | refine Br.ff (by assumption) ?_)
       | (refine Br.mk ?_ ?_ <;> intro hb <;> (try simp only [ZZ] at hb) <;> (first | omega | contradiction | skip))
       | refine Src.whole ⟨rfl, rfl⟩ ?_ | refine FrzV.whole ?_
       | refine CallW.use (hV) ?_) <;> conv => whnf)
      · refine PostCl.of (hp e a hR.symm _) ?_ ?_
        · repeat first | exact trivial | refine ⟨VLe.refl _, ?_⟩
        · repeat first | exact trivial | refine ⟨by decide, ?_⟩
    | ok x =>
      obtain ⟨x, j, m⟩ := x
      rw [hr] at hV hR hok
      obtain ⟨g1, g2, g3, g4⟩ := hok
      have hat := (hw.at g2).1
      have hend := hw.end_ j g2
      dsimp only [] at hR
      cases h93 : isS (wdAt ws j) [93] with
      | true =>
        rw [if_pos h93] at hR
        have hT := take_yes (n := m) hat hl h93
        refine LoopW.round (pol := polG) mixP ?_
        conv => whnf
        repeat' ((first
         | ((with_reducible first | refine Br.dec ?_ ?_ | refine Br.ndec ?_ ?_) <;> intro hb <;> (try simp only [And.intro @hml (ZZ)] at hb) <;> (first | omega | contradiction | skip))
         | (with_reducible first | refine Br.tt rfl ?_ | refine Br.ff rfl ?_ | refine Br.ff (isEmptyCons _ _) ?_)
         | ((with_reducible first | refine Side.mk ?_ ?_ | refine WrapW.mk ?_ ?_); focus (first | omega | (dsimp only [InR, Int.reduceToNat, IntKind.bits, Int.reducePow]; omega) | exact tree_side _ | exact ⟨tree_side1 _, rfl, by show (_ + 1) * 160 ≤ _; omega⟩ | (simp [CC]; done) | (constructor <;> omega)))
         | with_reducible refine Br.not ?_
         | (with_reducible first | refine Br.tt (by assumption) ?_ | refine Br.ff (by assumption) ?_)
         | (refine Br.mk ?_ ?_ <;> intro hb <;> (try simp only [And.intro @hml (ZZ)] at hb) <;> (first | omega | contradiction | skip))
         | refine Src.whole ⟨rfl, rfl⟩ ?_ | refine FrzV.whole ?_
         | refine CallW.use (hV) ?_
         | refine CallW.use (hT) ?_) <;> conv => whnf)
        rw [show Tree.encL acc ++ [x.enc] = Tree.encL (acc ++ [x]) by simp [Tree.encL_eq]]
        · refine PostCl.of (h0 _ (j + 1) m hR.symm _) ?_ ?_
          · repeat first | exact trivial | refine ⟨VLe.refl _, ?_⟩
          · repeat first | exact trivial | refine ⟨by decide, ?_⟩
      | false =>
        rw [if_neg (by rw [h93]; decide)] at hR
        have hT := take_no (n := m) hat hl h93
        cases h44 : isS (wdAt ws j) [44] with
        | true =>
          rw [if_pos h44] at hR
          have hW := want_yes (n := m) hat hl h44
          refine LoopW.round (pol := polG) mixP ?_
          conv => whnf
          repeat' ((first
           | ((with_reducible first | refine Br.dec ?_ ?_ | refine Br.ndec ?_ ?_) <;> intro hb <;> (try simp only [And.intro @hml (ZZ)] at hb) <;> (first | omega | contradiction | skip))
           | (with_reducible first | refine Br.tt rfl ?_ | refine Br.ff rfl ?_ | refine Br.ff (isEmptyCons _ _) ?_)
           | ((with_reducible first | refine Side.mk ?_ ?_ | refine WrapW.mk ?_ ?_); focus (first | omega | (dsimp only [InR, Int.reduceToNat, IntKind.bits, Int.reducePow]; omega) | exact tree_side _ | exact ⟨tree_side1 _, rfl, by show (_ + 1) * 160 ≤ _; omega⟩ | (simp [CC]; done) | (constructor <;> omega)))
           | with_reducible refine Br.not ?_
           | (with_reducible first | refine Br.tt (by assumption) ?_ | refine Br.ff (by assumption) ?_)
           | (refine Br.mk ?_ ?_ <;> intro hb <;> (try simp only [And.intro @hml (ZZ)] at hb) <;> (first | omega | contradiction | skip))
           | refine Src.whole ⟨rfl, rfl⟩ ?_ | refine FrzV.whole ?_
           | refine CallW.use (hV) ?_
           | refine CallW.use (hT) ?_
           | refine CallW.use (hW) ?_) <;> conv => whnf)
          rw [show Tree.encL acc ++ [x.enc] = Tree.encL (acc ++ [x]) by simp [Tree.encL_eq]]
          refine LoopW.ren [0, 1, 2, 3] (ih (j + 1) m (acc ++ [x]) (by omega) (hend (by rw [(isS_k h44).1]; decide)) (by omega) (by omega) g4 (by simp) (by rw [List.length_append, List.length_singleton]; omega) hR) (by repeat first | exact trivial | refine ⟨⟨rfl, VLe.refl _⟩, ?_⟩) (by repeat first | exact trivial | refine ⟨by decide, ?_⟩) rfl rfl
        | false =>
          rw [if_neg (by rw [h44]; decide)] at hR
          have hW := want_no (n := m) hat hl h44
          refine LoopW.round (pol := polG) mixP ?_
          conv => whnf
          repeat' ((first
           | ((with_reducible first | refine Br.dec ?_ ?_ | refine Br.ndec ?_ ?_) <;> intro hb <;> (try simp only [And.intro @hml (ZZ)] at hb) <;> (first | omega | contradiction | skip))
           | (with_reducible first | refine Br.tt rfl ?_ | refine Br.ff rfl ?_ | refine Br.ff (isEmptyCons _ _) ?_)
           | ((with_reducible first | refine Side.mk ?_ ?_ | refine WrapW.mk ?_ ?_); focus (first | omega | (dsimp only [InR, Int.reduceToNat, IntKind.bits, Int.reducePow]; omega) | exact tree_side _ | exact ⟨tree_side1 _, rfl, by show (_ + 1) * 160 ≤ _; omega⟩ | (simp [CC]; done) | (constructor <;> omega)))
           | with_reducible refine Br.not ?_
           | (with_reducible first | refine Br.tt (by assumption) ?_ | refine Br.ff (by assumption) ?_)
           | (refine Br.mk ?_ ?_ <;> intro hb <;> (try simp only [And.intro @hml (ZZ)] at hb) <;> (first | omega | contradiction | skip))
           | refine Src.whole ⟨rfl, rfl⟩ ?_ | refine FrzV.whole ?_
           | refine CallW.use (hV) ?_
           | refine CallW.use (hT) ?_
           | refine CallW.use (hW) ?_) <;> conv => whnf)
          · refine PostCl.of (hp _ _ hR.symm _) ?_ ?_
            · repeat first | exact trivial | refine ⟨VLe.refl _, ?_⟩
            · repeat first | exact trivial | refine ⟨by decide, ?_⟩
theorem items_first (ws : List Wd) (hw : WsOk ws) (Q : Nat) (hv : ∀ q, q < Q → ValAt ws q) (d : Int) (hd0 : 0 ≤ d) (hd : d ≤ 32) (R : RR) (K : Post)
    (h0 : ∀ (l : List Tree) (j : Nat) (m : Int), R = .ok (.mk 5 0 [] l [], j, m) → ∀ es : List PV, K .ret [(4, .ptr 1 0)] [jrO ws j m, .var T.api_Value (lsV (Tree.encL l).length), .var T.api_Value (lsV (Tree.encL l).length), .arr T.api_Value 5 (Tree.encL l), .arr T.api_Value 5 es] [])
    (h1 : ∀ (x : Tree) (j : Nat) (m : Int), R = .ok (.mk 5 0 [] [x] [], j, m) → ∀ es : List PV, K .ret [(4, .ptr 1 0)] [jrO ws j m, .var T.api_Value lsV1, .var T.api_Value lsV1, .arr T.api_Value 5 es, .arr T.api_Value 5 [x.enc]] [])
    (hp : ∀ e a : Int, R = .error (e, a) → ∀ H : Heap, K (.pan (wrongP e a)) [] (.dead :: H) [])
    (q : Nat) (i : Nat) (n : Int) (hq : q + 1 ≤ Q) (hi : i < ws.length) (hf : 3 * (ws.length - i) + 2 ≤ q + 1) (hn0 : 0 ≤ n) (hn1 : n ≤ 4096) (hR : itemsR (q + 1) ws d i n [] = R) :
      LoopW PP GG 24 1 (loopN F.jread_reader_list_c 0) [(0, .ptr 0 0), (1, .p (.int .i64 d)), (4, .ptr 1 0), (5, .ptr 2 0)] [jrO ws i n, zO, .var T.api_Value (.p (.agg [.int .i64 5, .int .i64 0, .str [], .nils, .nils]))] [] (PostCl 24 K) := by
  have ih := items_loop ws hw Q hv d hd0 hd R K h0 hp q
  have hV := hv q (by omega) (d + 1) i n hi (by omega) (by omega) (by omega) hn0 hn1
  have hok := (okR_all hw q).1 (d + 1) i n hi
  have hws := hw.len
  have hl : ws.length ≤ 1073741824 := by omega
  rw [itemsR] at hR
  cases hr : valR q ws (d + 1) i n with
  | error e =>
    rw [hr] at hV hR
    obtain ⟨e, a⟩ := e
    refine LoopW.round (pol := polG) mixP ?_
    conv => whnf
    repeat' ((first
     | ((with_reducible first | refine Br.dec ?_ ?_ | refine Br.ndec ?_ ?_) <;> intro hb <;> (try simp only [ZZ] at hb) <;> (first | omega | contradiction | skip))
     | (with_reducible first | refine Br.tt rfl ?_ | refine Br.ff rfl ?_ | refine Br.ff (isEmptyCons _ _) ?_)
     | ((with_reducible first | refine Side.mk ?_ ?_ | refine WrapW.mk ?_ ?_); focus (first | omega | (dsimp only [InR, Int.reduceToNat, IntKind.bits, Int.reducePow]; omega) | (simp [CC]; done) | (constructor <;> omega)))
     | with_reducible refine Br.not ?_
     | (with_reducible first | refine Br.tt (by assumption) ?_ | refine Br.ff (by assumption) ?_)
     | (refine Br.mk ?_ ?_ <;> intro hb <;> (try simp only [ZZ] at hb) <;> (first | omega | contradiction | skip))
     | refine Src.whole ⟨rfl, rfl⟩ ?_ | refine FrzV.whole ?_
     | refine CallW.use (hV) ?_) <;> conv => whnf)
    · refine PostCl.of (hp e a hR.symm _) ?_ ?_
      · repeat first | exact trivial | refine ⟨VLe.refl _, ?_⟩
      · repeat first | exact trivial | refine ⟨by decide, ?_⟩
  | ok x =>
    obtain ⟨x, j, m⟩ := x
    rw [hr] at hV hR hok
    obtain ⟨g1, g2, g3, g4⟩ := hok
    have hat := (hw.at g2).1
    have hend := hw.end_ j g2
    dsimp only [] at hR
    cases h93 : isS (wdAt ws j) [93] with
    | true =>
      rw [if_pos h93] at hR
      have hT := take_yes (n := m) hat hl h93
      refine LoopW.round (pol := polG) mixP ?_
      conv => whnf
      repeat' ((first
       | ((with_reducible first | refine Br.dec ?_ ?_ | refine Br.ndec ?_ ?_) <;> intro hb <;> (try simp only [ZZ] at hb) <;> (first | omega | contradiction | skip))
       | (with_reducible first | refine Br.tt rfl ?_ | refine Br.ff rfl ?_ | refine Br.ff (isEmptyCons _ _) ?_)
       | ((with_reducible first | refine Side.mk ?_ ?_ | refine WrapW.mk ?_ ?_); focus (first | omega | (dsimp only [InR, Int.reduceToNat, IntKind.bits, Int.reducePow]; omega) | exact tree_side _ | exact ⟨tree_side1 _, by show 1 * 160 ≤ _; omega⟩ | (simp [CC]; done) | (constructor <;> omega)))
       | with_reducible refine Br.not ?_
       | (with_reducible first | refine Br.tt (by assumption) ?_ | refine Br.ff (by assumption) ?_)
       | (refine Br.mk ?_ ?_ <;> intro hb <;> (try simp only [ZZ] at hb) <;> (first | omega | contradiction | skip))
       | refine Src.whole ⟨rfl, rfl⟩ ?_ | refine FrzV.whole ?_
       | refine CallW.use (hV) ?_
       | refine CallW.use (hT) ?_) <;> conv => whnf)
      · refine PostCl.of (h1 _ (j + 1) m hR.symm _) ?_ ?_
        · repeat first | exact trivial | refine ⟨VLe.refl _, ?_⟩
        · repeat first | exact trivial | refine ⟨by decide, ?_⟩
    | false =>
      rw [if_neg (by rw [h93]; decide)] at hR
      have hT := take_no (n := m) hat hl h93
      cases h44 : isS (wdAt ws j) [44] with
      | true =>
        rw [if_pos h44] at hR
        have hW := want_yes (n := m) hat hl h44
        refine LoopW.round (pol := polG) mixP ?_
        conv => whnf
        repeat' ((first
         | ((with_reducible first | refine Br.dec ?_ ?_ | refine Br.ndec ?_ ?_) <;> intro hb <;> (try simp only [ZZ] at hb) <;> (first | omega | contradiction | skip))
         | (with_reducible first | refine Br.tt rfl ?_ | refine Br.ff rfl ?_ | refine Br.ff (isEmptyCons _ _) ?_)
         | ((with_reducible first | refine Side.mk ?_ ?_ | refine WrapW.mk ?_ ?_); focus (first | omega | (dsimp only [InR, Int.reduceToNat, IntKind.bits, Int.reducePow]; omega) | exact tree_side _ | exact ⟨tree_side1 _, by show 1 * 160 ≤ _; omega⟩ | (simp [CC]; done) | (constructor <;> omega)))
         | with_reducible refine Br.not ?_
         | (with_reducible first | refine Br.tt (by assumption) ?_ | refine Br.ff (by assumption) ?_)
         | (refine Br.mk ?_ ?_ <;> intro hb <;> (try simp only [ZZ] at hb) <;> (first | omega | contradiction | skip))
         | refine Src.whole ⟨rfl, rfl⟩ ?_ | refine FrzV.whole ?_
         | refine CallW.use (hV) ?_
         | refine CallW.use (hT) ?_
         | refine CallW.use (hW) ?_) <;> conv => whnf)
        refine LoopW.ren [0, 1, 2, 4] (ih (j + 1) m [x] (by omega) (hend (by rw [(isS_k h44).1]; decide)) (by omega) (by omega) g4 (by simp) (by rw [List.length_singleton]; omega) hR) (by repeat first | exact trivial | refine ⟨⟨rfl, VLe.refl _⟩, ?_⟩) (by repeat first | exact trivial | refine ⟨by decide, ?_⟩) rfl rfl
      | false =>
        rw [if_neg (by rw [h44]; decide)] at hR
        have hW := want_no (n := m) hat hl h44
        refine LoopW.round (pol := polG) mixP ?_
        conv => whnf
        repeat' ((first
         | ((with_reducible first | refine Br.dec ?_ ?_ | refine Br.ndec ?_ ?_) <;> intro hb <;> (try simp only [ZZ] at hb) <;> (first | omega | contradiction | skip))
         | (with_reducible first | refine Br.tt rfl ?_ | refine Br.ff rfl ?_ | refine Br.ff (isEmptyCons _ _) ?_)
         | ((with_reducible first | refine Side.mk ?_ ?_ | refine WrapW.mk ?_ ?_); focus (first | omega | (dsimp only [InR, Int.reduceToNat, IntKind.bits, Int.reducePow]; omega) | exact tree_side _ | exact ⟨tree_side1 _, by show 1 * 160 ≤ _; omega⟩ | (simp [CC]; done) | (constructor <;> omega)))
         | with_reducible refine Br.not ?_
         | (with_reducible first | refine Br.tt (by assumption) ?_ | refine Br.ff (by assumption) ?_)
         | (refine Br.mk ?_ ?_ <;> intro hb <;> (try simp only [ZZ] at hb) <;> (first | omega | contradiction | skip))
         | refine Src.whole ⟨rfl, rfl⟩ ?_ | refine FrzV.whole ?_
         | refine CallW.use (hV) ?_
         | refine CallW.use (hT) ?_
         | refine CallW.use (hW) ?_) <;> conv => whnf)
        · refine PostCl.of (hp _ _ hR.symm _) ?_ ?_
          · repeat first | exact trivial | refine ⟨VLe.refl _, ?_⟩
          · repeat first | exact trivial | refine ⟨by decide, ?_⟩
theorem reader_list_step (ws : List Wd) (hw : WsOk ws) (q : Nat) (hv : ∀ p, p < q + 1 → ValAt ws p) : ListAt ws (q + 1) := by
  intro d i n hi hq h0 h1 h2 h3
  have hat := (hw.at hi).1
  have hws := hw.len
  have hl : ws.length ≤ 1073741824 := by omega
  have hend := hw.end_ i hi
  rw [listR]
  cases h93 : isS (wdAt ws i) [93] with
  | true =>
    rw [if_pos rfl]
    have hT := take_yes (n := n) hat hl h93
    refine absCall_of (pol := polG) mixP F.jread_reader_list_is ?_
    conv => whnf
    repeat' ((first
     | ((with_reducible first | refine Br.dec ?_ ?_ | refine Br.ndec ?_ ?_) <;> intro hb <;> (try simp only [ZZ] at hb) <;> (first | omega | contradiction | skip))
     | (with_reducible first | refine Br.tt rfl ?_ | refine Br.ff rfl ?_ | refine Br.ff (isEmptyCons _ _) ?_)
     | ((with_reducible first | refine Side.mk ?_ ?_ | refine WrapW.mk ?_ ?_); focus (first | omega | (dsimp only [InR, Int.reduceToNat, IntKind.bits, Int.reducePow]; omega) | (simp [CC]; done) | (constructor <;> omega)))
     | with_reducible refine Br.not ?_
     | (with_reducible first | refine Br.tt (by assumption) ?_ | refine Br.ff (by assumption) ?_)
     | (refine Br.mk ?_ ?_ <;> intro hb <;> (try simp only [ZZ] at hb) <;> (first | omega | contradiction | skip))
     | refine Src.whole ⟨rfl, rfl⟩ ?_ | refine FrzV.whole ?_
     | refine CallW.use (hT) ?_) <;> conv => whnf)
    exact CLe.ret (tree_nils 5 0 [])
  | false =>
    rw [if_neg (by decide)]
    have hT := take_no (n := n) hat hl h93
    obtain ⟨p, rfl⟩ : ∃ p, q = p + 1 := ⟨q - 1, by omega⟩
    have hlp := items_first ws hw (p + 1) (fun r hr => hv r (by omega)) d h0 h1 (itemsR (p + 1) ws d i n [])
    have hok := (okR_all hw (p + 1)).2.2.1 d i n [] hi h3
    generalize hR : itemsR (p + 1) ws d i n [] = R at *
    refine absCall_of (pol := polG) mixP F.jread_reader_list_is ?_
    conv => whnf
    repeat' ((first
     | ((with_reducible first | refine Br.dec ?_ ?_ | refine Br.ndec ?_ ?_) <;> intro hb <;> (try simp only [ZZ] at hb) <;> (first | omega | contradiction | skip))
     | (with_reducible first | refine Br.tt rfl ?_ | refine Br.ff rfl ?_ | refine Br.ff (isEmptyCons _ _) ?_)
     | ((with_reducible first | refine Side.mk ?_ ?_ | refine WrapW.mk ?_ ?_); focus (first | omega | (dsimp only [InR, Int.reduceToNat, IntKind.bits, Int.reducePow]; omega) | (simp [CC]; done) | (constructor <;> omega)))
     | with_reducible refine Br.not ?_
     | (with_reducible first | refine Br.tt (by assumption) ?_ | refine Br.ff (by assumption) ?_)
     | (refine Br.mk ?_ ?_ <;> intro hb <;> (try simp only [ZZ] at hb) <;> (first | omega | contradiction | skip))
     | refine Src.whole ⟨rfl, rfl⟩ ?_ | refine FrzV.whole ?_
     | refine CallW.use (hT) ?_) <;> conv => whnf)
    refine LoopW.cl ?_
    refine LoopW.ren [0, 1, 2] (hlp _ (fun l j m h es => ?_) (fun x j m h es => ?_) (fun e a h H => ?_) p i n (Nat.le_refl _) hi (by omega) h2 h3 hR) (by repeat first | exact trivial | refine ⟨⟨rfl, VLe.refl _⟩, ?_⟩) (by repeat first | exact trivial | refine ⟨by decide, ?_⟩) rfl rfl
    all_goals conv => whnf
    · subst h
      refine FrzV.mk (.p (.agg [.int .i64 5, .int .i64 0, .str [], .lst false (Tree.encL l), .nils])) (lsV_frz l) ?_
      conv => whnf
      refine FrzO.mk (.var T.api_Value (.p (.agg [.int .i64 5, .int .i64 0, .str [], .lst false (Tree.encL l), .nils]))) (congrArg (HO.var T.api_Value) (lsV_frz l)) ?_
      conv => whnf
      refine FrzO.mk (.var T.api_Value (.p (.agg [.int .i64 5, .int .i64 0, .str [], .lst false (Tree.encL l), .nils]))) (congrArg (HO.var T.api_Value) (lsV_frz l)) ?_
      conv => whnf
      exact CLe.ret (tree_ls l)
    · subst h
      refine FrzV.mk (.p (.agg [.int .i64 5, .int .i64 0, .str [], .lst false [x.enc], .nils])) (lsV1_frz x) ?_
      conv => whnf
      refine FrzO.mk (.var T.api_Value (.p (.agg [.int .i64 5, .int .i64 0, .str [], .lst false ([x.enc]), .nils]))) (congrArg (HO.var T.api_Value) (lsV1_frz x)) ?_
      conv => whnf
      refine FrzO.mk (.var T.api_Value (.p (.agg [.int .i64 5, .int .i64 0, .str [], .lst false ([x.enc]), .nils]))) (congrArg (HO.var T.api_Value) (lsV1_frz x)) ?_
      conv => whnf
      exact CLe.ret (tree_ls [x])
    · subst h
      exact CLe.refl _
end Go.Proofs.YtoinkmogdfjmmaaGreatDoor
end

section
namespace Go.Am
open Go
theorem utfTake_enc (s : Str) (h : (utfTake s).2 ≠ 0) : utfEnc (utfTake s).1 = s.take (utfTake s).2.toNat := by
  cases s with
  | nil => exact absurd rfl h
  | cons c cs =>
    unfold utfTake at h ⊢
    simp only [] at h ⊢
    split
    · rename_i h1; rw [if_pos h1] at h; exact absurd rfl h
    · rename_i h1
      rw [if_neg h1] at h
      split
      · rename_i h2; rw [h2] at h; exact absurd rfl h
      · rename_i r h2
        rw [h2] at h
        simp only [] at h
        split
        · rename_i h3
          simp only [not_or] at h1
          exact enc_take h1.1 h1.2 h2 h3.1 h3.2
        · rename_i h3; rw [if_neg h3] at h; exact absurd rfl h
def deeper (d : Int) : Int := if 0 ≤ d then d + 1 else -1
def colonL (d : Int) : Str := if 0 ≤ d then [58, 32] else [58]
mutual
def printT : Tree → Int → Str
  | .mk k n s l m, d => if k = 0 then [110, 117, 108, 108] else if k = 1 then (if n = 1 then [116, 114, 117, 101] else [102, 97, 108, 115, 101]) else
    if k = 2 then Lib.itoa n else if k = 3 then s else if k = 4 ∨ k = 7 then quoteS s else
    if k = 6 then (if m.length = 0 then [123, 125] else 123 :: (printM true m (deeper d) ++ (lineL d ++ [125])))
    else (if l.length = 0 then [91, 93] else 91 :: (printL true l (deeper d) ++ (lineL d ++ [93])))
def printL : Bool → List Tree → Int → Str
  | _, [], _ => []
  | f, t :: l, d => (if f = true then [] else [44]) ++ (lineL d ++ (printT t d ++ printL false l d))
def printM : Bool → List (Str × Tree) → Int → Str
  | _, [], _ => []
  | f, p :: m, d => (if f = true then [] else [44]) ++ (lineL d ++ (printP p d ++ printM false m d))
def printP : Str × Tree → Int → Str
  | (k, t), d => quoteS k ++ (colonL d ++ printT t d)
end
theorem printT_eq (t : Tree) (d : Int) : printT t d = if t.kind = 0 then [110, 117, 108, 108] else if t.kind = 1 then (if t.n = 1 then [116, 114, 117, 101] else [102, 97, 108, 115, 101]) else
    if t.kind = 2 then Lib.itoa t.n else if t.kind = 3 then t.s else if t.kind = 4 ∨ t.kind = 7 then quoteS t.s else
    if t.kind = 6 then (if t.m.length = 0 then [123, 125] else 123 :: (printM true t.m (deeper d) ++ (lineL d ++ [125])))
    else (if t.l.length = 0 then [91, 93] else 91 :: (printL true t.l (deeper d) ++ (lineL d ++ [93]))) := by cases t; rw [printT]; rfl
theorem quoteL_len : ∀ (q : Nat) (s : Str), (quoteL q s).length ≤ 10 * s.length
  | 0, s => by simp [quoteL]
  | q + 1, [] => by simp [quoteL]
  | q + 1, c :: cs => by
    rw [quoteL, List.length_append]
    have h1 := quoteL_len q ((c :: cs).drop (stepN (c :: cs)))
    have h2 := quoteU_len ((c :: cs).take (stepN (c :: cs))) (utfTake (c :: cs)).2
    have h3 := stepN_pos (c :: cs)
    have h4 := stepN_le c cs
    rw [List.length_drop] at h1
    rw [List.length_take] at h2
    omega
theorem quoteS_len (s : Str) : (quoteS s).length ≤ 2 + 10 * s.length := by
  unfold quoteS
  have := quoteL_len s.length s
  simp only [List.length_append, List.length_cons, List.length_nil]
  omega
end Go.Am
namespace Go.Am
theorem encP_flat (k : Str) (y : Tree) : Tree.encP (k, y) = .agg [.str k, .int .i64 y.kind, .int .i64 y.n, .str y.s, .lst false (Tree.encL y.l), .lst false (Tree.encM y.m)] := by
  rw [Tree.encP, Tree.enc_eta y]; rfl
theorem ElemZ.pairE {m : List (Str × Tree)} {i : Nat} {K : PV → Prop} {k : Str} {y : Tree} (h : m[i]? = some (k, y))
    (q : K (.agg [.str k, .int .i64 y.kind, .int .i64 y.n, .str y.s, .lst false (Tree.encL y.l), .lst false (Tree.encM y.m)])) : ElemZ (Tree.encM m) i 6 K := ElemZ.pair h (by rw [encP_flat]; exact q)
end Go.Am
namespace Go.Am
mutual
def okT : Tree → Bool
  | .mk _ n _ l m => decide (-9223372036854775808 ≤ n ∧ n ≤ 9223372036854775807) && (okL l && okM m)
def okL : List Tree → Bool
  | [] => true
  | t :: l => okT t && okL l
def okM : List (Str × Tree) → Bool
  | [] => true
  | p :: m => okQ p && okM m
def okQ : Str × Tree → Bool
  | (_, t) => okT t
end
def goodT (t : Tree) : Bool := plainT t && okT t
theorem okT_eq (t : Tree) : okT t = (decide (-9223372036854775808 ≤ t.n ∧ t.n ≤ 9223372036854775807) && (okL t.l && okM t.m)) := by cases t; rw [okT]; rfl
theorem okL_mem : ∀ {l : List Tree}, okL l = true → ∀ x ∈ l, okT x = true
  | [], _, x, hx => by cases hx
  | t :: l, h, x, hx => by
    rw [okL, Bool.and_eq_true] at h
    rcases List.mem_cons.1 hx with rfl | hx
    · exact h.1
    · exact okL_mem h.2 x hx
theorem okM_mem : ∀ {l : List (Str × Tree)}, okM l = true → ∀ x ∈ l, okT x.2 = true
  | [], _, x, hx => by cases hx
  | (k, t) :: l, h, x, hx => by
    rw [okM, okQ, Bool.and_eq_true] at h
    rcases List.mem_cons.1 hx with rfl | hx
    · exact h.1
    · exact okM_mem h.2 x hx
theorem plainL_mem : ∀ {l : List Tree}, plainL l = true → ∀ x ∈ l, plainT x = true
  | [], _, x, hx => by cases hx
  | t :: l, h, x, hx => by
    rw [plainL, Bool.and_eq_true] at h
    rcases List.mem_cons.1 hx with rfl | hx
    · exact h.1
    · exact plainL_mem h.2 x hx
theorem plainM_mem : ∀ {l : List (Str × Tree)} {o : Option Str}, plainM o l = true → ∀ x ∈ l, strOk x.1 = true ∧ plainT x.2 = true
  | [], _, _, x, hx => by cases hx
  | (k, t) :: l, o, h, x, hx => by
    simp only [plainM, plainP, Bool.and_eq_true] at h
    rcases List.mem_cons.1 hx with rfl | hx
    · exact ⟨h.1.1, h.1.2.2⟩
    · exact plainM_mem h.2 x hx
theorem goodT_spec {t : Tree} (h : goodT t = true) : ¬ ownBad t.kind t.n t.s.length t.l.length t.m.length ∧ nodeOk t.kind t.n t.s = true ∧ (-9223372036854775808 ≤ t.n ∧ t.n ≤ 9223372036854775807) ∧
    (∀ x ∈ t.l, goodT x = true) ∧ (∀ x ∈ t.m, strOk x.1 = true ∧ goodT x.2 = true) := by
  unfold goodT at h
  rw [Bool.and_eq_true, plainT_eq, okT_eq, Bool.and_eq_true, Bool.and_eq_true, decide_eq_true_eq] at h
  obtain ⟨h1, h2, h3, h4⟩ := h
  split at h1
  · cases h1
  · rename_i hb
    rw [Bool.and_eq_true, Bool.and_eq_true] at h1
    refine ⟨hb, h1.1, h2, fun x hx => ?_, fun x hx => ?_⟩
    · unfold goodT; rw [plainL_mem h1.2.1 x hx, okL_mem h3 x hx]; rfl
    · have := plainM_mem h1.2.2 x hx
      refine ⟨this.1, ?_⟩
      unfold goodT; rw [this.2, okM_mem h4 x hx]; rfl
theorem strOk_len {s : Str} (h : strOk s = true) : s.length ≤ 4096 := by unfold strOk at h; rw [Bool.and_eq_true, decide_eq_true_eq] at h; exact h.1
theorem stampOk_len {s : Str} (h : stampOk s = true) : s.length ≤ 64 := by unfold stampOk at h; rw [decide_eq_true_eq] at h; exact h.2.1
end Go.Am
namespace Go.Am
theorem itoa_ne (n : Int) : Lib.itoa n ≠ [] := by
  intro h
  by_cases h0 : 0 ≤ n
  · obtain ⟨u, rfl⟩ := Int.eq_ofNat_of_zero_le h0
    by_cases hu : u < 10
    · rw [itoa_small hu] at h; cases h
    · rw [itoa_big hu] at h; simp at h
  · obtain ⟨u, hu⟩ := Int.eq_ofNat_of_zero_le (show 0 ≤ -n by omega)
    rw [show n = -(u : Int) by omega, Lib.itoa_neg u (by omega)] at h
    cases h
theorem numL_ne {s : Str} (h : numL s = true) : s ≠ [] := by
  rintro rfl
  revert h
  decide
def Ge (n : Nat) (s : Str) : Prop := ∀ b ∈ s, n ≤ b.toNat
theorem Ge.app {n : Nat} {s r : Str} (h1 : Ge n s) (h2 : Ge n r) : Ge n (s ++ r) := fun b hb => (List.mem_append.1 hb).elim (h1 b) (h2 b)
theorem Ge.cons {n : Nat} {c : UInt8} {s : Str} (h1 : n ≤ c.toNat) (h2 : Ge n s) : Ge n (c :: s) := fun b hb => (List.mem_cons.1 hb).elim (fun e => by rw [e]; exact h1) (h2 b)
theorem Ge.nil {n : Nat} : Ge n [] := fun b hb => by cases hb
def NoB (s : Str) : Prop := ∀ b ∈ s, b.toNat ≠ 32
theorem NoB.l {s r : Str} (h : NoB (s ++ r)) : NoB s := fun b hb => h b (List.mem_append_left _ hb)
theorem NoB.r {s r : Str} (h : NoB (s ++ r)) : NoB r := fun b hb => h b (List.mem_append_right _ hb)
theorem NoB.t {c : UInt8} {s : Str} (h : NoB (c :: s)) : NoB s := fun b hb => h b (List.mem_cons_of_mem _ hb)
end Go.Am
end

section
namespace Go.Am
end Go.Am
end

section
namespace Go.Am
open Go
def q1 (c : UInt8) : Str := quoteU [c] 1
theorem q1_head : ∀ k : Nat, k < 128 → ∃ a y, q1 (UInt8.ofNat k) = a :: y ∧ a ≠ 34 ∧ a.toNat < 128 := by
  have h : ∀ k : Nat, k < 128 → (match q1 (UInt8.ofNat k) with | a :: _ => decide (a ≠ 34 ∧ a.toNat < 128) | [] => false) = true := by decide +kernel
  intro k hk
  have := h k hk
  split at this
  · rename_i a y e
    rw [decide_eq_true_eq] at this
    exact ⟨a, y, e, this.1, this.2⟩
  · cases this
theorem take_len (c : UInt8) (cs : Str) (h : (utfTake (c :: cs)).2 ≠ 0) : (utfTake (c :: cs)).2 = (utfBegins c.toNat).1 := by
  unfold utfTake at h ⊢
  simp only [] at h ⊢
  split
  · rename_i h1; rw [if_pos h1] at h; exact absurd rfl h
  · rename_i h1
    rw [if_neg h1] at h
    split
    · rename_i h2; rw [h2] at h; exact absurd rfl h
    · rename_i r h2
      rw [h2] at h
      simp only [] at h
      split
      · rfl
      · rename_i h3; rw [if_neg h3] at h; exact absurd rfl h
def unitL (s : Str) : Str := quoteU (s.take (stepN s)) (utfTake s).2
theorem unit_form (c : UInt8) (cs : Str) (h : (utfTake (c :: cs)).2 ≠ 0) :
    (c.toNat < 128 ∧ (c :: cs).take (stepN (c :: cs)) = [c] ∧ unitL (c :: cs) = q1 c) ∨
    (128 ≤ c.toNat ∧ unitL (c :: cs) = (c :: cs).take (stepN (c :: cs)) ∧ ((c :: cs).take (stepN (c :: cs))).length = (utfBegins c.toNat).1.toNat ∧ 1 ≤ (utfBegins c.toNat).1) := by
  have hn := utfTake_n (c :: cs)
  have hk := take_len c cs h
  have hs : stepN (c :: cs) = (utfTake (c :: cs)).2.toNat := by unfold stepN; omega
  by_cases hc : c.toNat < 128
  · refine .inl ⟨hc, ?_, ?_⟩
    · have : (utfBegins c.toNat).1 = 1 := by unfold utfBegins; rw [if_pos hc]
      rw [hs, hk, this]; rfl
    · have : (utfBegins c.toNat).1 = 1 := by unfold utfBegins; rw [if_pos hc]
      unfold unitL
      rw [hs, hk, this]; rfl
  · refine .inr ⟨by omega, ?_, ?_, by omega⟩
    · unfold unitL
      have hb : b0 ((c :: cs).take (stepN (c :: cs))) = c.toNat := by
        rw [hs]
        obtain ⟨k, hk2⟩ : ∃ k, (utfTake (c :: cs)).2.toNat = k + 1 := ⟨(utfTake (c :: cs)).2.toNat - 1, by omega⟩
        rw [hk2]; rfl
      unfold quoteU
      rw [if_neg h, hb]
      repeat (rw [if_neg (by omega)])
    · rw [List.length_take, hs, hk]
      have : (utfTake (c :: cs)).2 ≤ (c :: cs).length := by omega
      omega
theorem u8_of (c : UInt8) : UInt8.ofNat c.toNat = c := by simp
theorem unit_head (c : UInt8) (cs : Str) (h : (utfTake (c :: cs)).2 ≠ 0) : ∃ a y, unitL (c :: cs) = a :: y ∧ a ≠ 34 ∧ (a.toNat < 128 ↔ c.toNat < 128) := by
  rcases unit_form c cs h with ⟨h1, _, h3⟩ | ⟨h1, h2, h3, h4⟩
  · obtain ⟨a, y, e, h5, h6⟩ := q1_head c.toNat h1
    rw [u8_of] at e
    exact ⟨a, y, by rw [h3, e], h5, by omega⟩
  · obtain ⟨k, hk⟩ : ∃ k, stepN (c :: cs) = k + 1 := ⟨stepN (c :: cs) - 1, by have := stepN_pos (c :: cs); omega⟩
    refine ⟨c, cs.take k, by rw [h2, hk]; rfl, ?_, Iff.rfl⟩
    rintro rfl
    exact absurd h1 (by decide)
theorem scan_at (q : Nat) : ∀ (s : Str) (p r : Int), (utfScan q s p).2 = (utfScan q s r).2 := by
  induction q with
  | zero => intro s p r; rfl
  | succ q ih =>
    intro s p r
    cases s with
    | nil => rfl
    | cons c cs =>
      unfold utfScan
      simp only []
      split
      · rfl
      · exact ih _ _ _
theorem scan_cons {q : Nat} {c : UInt8} {cs : Str} {p : Int} (h : (utfScan (q + 1) (c :: cs) p).2 = true) : (utfTake (c :: cs)).2 ≠ 0 ∧ (utfScan q ((c :: cs).drop (stepN (c :: cs))) 0).2 = true := by
  unfold utfScan at h
  simp only [] at h
  split at h
  · cases h
  · rename_i h0
    refine ⟨h0, ?_⟩
    have hn := utfTake_n (c :: cs)
    have hs : stepN (c :: cs) = (utfTake (c :: cs)).2.toNat := by unfold stepN; omega
    rw [hs, scan_at q _ 0]
    exact h
def numCh (b : UInt8) : Bool := decide ((48 ≤ b.toNat ∧ b.toNat ≤ 57) ∨ b.toNat = 43 ∨ b.toNat = 45 ∨ b.toNat = 46 ∨ b.toNat = 101 ∨ b.toNat = 69)
def Nc (s : Str) : Prop := ∀ b ∈ s, numCh b = true
theorem Nc.app {s r : Str} (h1 : Nc s) (h2 : Nc r) : Nc (s ++ r) := fun b hb => (List.mem_append.1 hb).elim (h1 b) (h2 b)
theorem Nc.cons {c : UInt8} {s : Str} (h1 : numCh c = true) (h2 : Nc s) : Nc (c :: s) := fun b hb => (List.mem_cons.1 hb).elim (fun e => by rw [e]; exact h1) (h2 b)
theorem Nc.nil : Nc [] := fun b hb => by cases hb
theorem nc_dig {s : Str} (h : ∀ b ∈ s, dig b = true) : Nc s := fun b hb => by
  have := h b hb
  unfold dig at this
  rw [decide_eq_true_eq] at this
  unfold numCh
  rw [decide_eq_true_eq]
  exact .inl this
theorem nc_run {s : Str} (h : Nc (s.drop (runL s))) : Nc s := by
  have := Nc.app (nc_dig (take_dig s)) h
  rwa [List.take_append_drop] at this
theorem nc_cons {s : Str} (h1 : b0 s = 43 ∨ b0 s = 45 ∨ b0 s = 46 ∨ b0 s = 101 ∨ b0 s = 69) (h : Nc (s.drop 1)) : Nc s := by
  cases s with
  | nil => exact Nc.nil
  | cons c s => exact Nc.cons (by unfold numCh; rw [decide_eq_true_eq]; exact .inr (by simpa [b0] using h1)) (by simpa using h)
theorem nc_E {neg : Bool} {w f p d : Str} (h : (partsE neg w f p d).2.2.2.2 = true) : Nc d := by
  unfold partsE at h
  split at h
  · cases h
  · rename_i hc
    exact nc_dig (runL_dig (by omega))
theorem nc_D {neg : Bool} {w f s : Str} (h : (partsD neg w f s).2.2.2.2 = true) : Nc s := by
  unfold partsD at h
  split at h
  · rename_i h0
    obtain rfl := List.eq_nil_of_length_eq_zero h0
    exact Nc.nil
  · split at h
    · cases h
    · refine nc_cons (by omega) ?_
      split at h
      · exact nc_cons (by omega) (nc_E h)
      · exact nc_E h
theorem nc_C {neg : Bool} {w s : Str} (h : (partsC neg w s).2.2.2.2 = true) : Nc s := by
  unfold partsC at h
  split at h
  · split at h
    · cases h
    · exact nc_cons (by omega) (nc_run (nc_D h))
  · exact nc_D h
theorem nc_B {neg : Bool} {s : Str} (h : (partsB neg s).2.2.2.2 = true) : Nc s := by
  unfold partsB at h
  split at h
  · cases h
  · exact nc_run (nc_C h)
theorem nc_num {s : Str} (h : numL s = true) : Nc s := by
  rw [numL_eq] at h
  unfold okP at h
  simp only [Bool.and_eq_true, decide_eq_true_eq] at h
  have h := h.1.1
  unfold numParts at h
  split at h
  · exact nc_cons (by omega) (nc_B h)
  · exact nc_B h
theorem dig_u8 {m : Nat} (h : m < 10) : dig (UInt8.ofNat (48 + m)) = true := by
  unfold dig
  rw [UInt8.toNat_ofNat', Nat.mod_eq_of_lt (by omega), decide_eq_true_eq]
  omega
theorem digits_dig : ∀ n : Nat, ∀ b ∈ Lib.decDigits n, dig b = true := by
  intro n
  induction n using Nat.strongRecOn with
  | ind n ih =>
    intro b hb
    rw [Lib.decDigits] at hb
    split at hb
    · rename_i h
      rw [List.mem_singleton] at hb
      subst hb
      exact dig_u8 h
    · rcases List.mem_append.1 hb with hb | hb
      · exact ih _ (by omega) b hb
      · rw [List.mem_singleton] at hb
        subst hb
        exact dig_u8 (by omega)
theorem nc_itoa (z : Int) : Nc (Lib.itoa z) := by
  by_cases h : 0 ≤ z
  · obtain ⟨u, rfl⟩ := Int.eq_ofNat_of_zero_le h
    rw [Lib.itoa_nonneg]
    exact nc_dig (digits_dig u)
  · obtain ⟨u, hu⟩ := Int.eq_ofNat_of_zero_le (show 0 ≤ -z by omega)
    rw [show z = -(u : Int) by omega, Lib.itoa_neg u (by omega)]
    exact Nc.cons (by decide) (nc_dig (digits_dig u))
theorem valN_app : ∀ (s r : Str) (a : Nat), valN (s ++ r) a = valN r (valN s a)
  | [], r, a => rfl
  | b :: s, r, a => by rw [List.cons_append, valN, valN, valN_app s r]
theorem valN_digits : ∀ n : Nat, valN (Lib.decDigits n) 0 = n := by
  intro n
  induction n using Nat.strongRecOn with
  | ind n ih =>
    rw [Lib.decDigits]
    split
    · rename_i h
      rw [valN, valN, UInt8.toNat_ofNat', Nat.mod_eq_of_lt (by omega)]
      omega
    · rename_i h
      rw [valN_app, ih _ (by omega), valN, valN, UInt8.toNat_ofNat', Nat.mod_eq_of_lt (by omega)]
      omega
theorem digits_ne (n : Nat) : Lib.decDigits n ≠ [] := by rw [Lib.decDigits]; split <;> simp
theorem parse_digits {u : Nat} (h : u ≤ 2 ^ 63) : Lib.parseUintB 64 (Lib.decDigits u) = .ok u := by
  unfold Lib.parseUintB
  rw [if_neg (digits_ne u), parseU_val rfl _ 0 (digits_dig u) (by omega), valN_digits, if_pos (by omega)]
theorem parse_itoa {z : Int} (h0 : -9223372036854775808 ≤ z) (h1 : z ≤ 9223372036854775807) : Lib.parseIntB 64 (Lib.itoa z) = .ok z := by
  by_cases h : 0 ≤ z
  · obtain ⟨u, rfl⟩ := Int.eq_ofNat_of_zero_le h
    rw [Lib.itoa_nonneg]
    have hp := parse_digits (u := u) (by omega)
    have hd := digits_dig u
    generalize Lib.decDigits u = s at *
    cases s with
    | nil => simp [Lib.parseUintB] at hp
    | cons c s =>
      have hdc := hd c (by simp)
      unfold dig at hdc
      rw [decide_eq_true_eq] at hdc
      rw [Lib.parseIntB_plain 64 c s (by omega) (by omega), hp]
      simp only [Lib.signlessC]
      rw [if_neg (by omega)]
  · obtain ⟨u, hu⟩ := Int.eq_ofNat_of_zero_le (show 0 ≤ -z by omega)
    rw [show z = -(u : Int) by omega, Lib.itoa_neg u (by omega), Lib.parseIntB_minus, parse_digits (by omega)]
    simp only [Lib.signedC]
    rw [if_neg (by omega)]
theorem refInt_itoa {z : Int} (hz : -9223372036854775808 ≤ z ∧ z ≤ 9223372036854775807) (hn : numL (Lib.itoa z) = true) : (refIntL (Lib.itoa z)).2 = true := by
  rw [← decIntL_eq]
  unfold decIntL
  have hp := parse_itoa hz.1 hz.2
  rw [if_neg, hp]
  simp only [not_or]
  refine ⟨by simp [hn], ?_, ?_⟩
  · intro hc
    obtain ⟨b, hb, hb2⟩ := (containsAny_iff _ _).1 hc
    by_cases h : 0 ≤ z
    · obtain ⟨u, rfl⟩ := Int.eq_ofNat_of_zero_le h
      rw [Lib.itoa_nonneg] at hb
      exact dig_dotE (digits_dig u b hb) hb2
    · obtain ⟨u, hu⟩ := Int.eq_ofNat_of_zero_le (show 0 ≤ -z by omega)
      rw [show z = -(u : Int) by omega, Lib.itoa_neg u (by omega)] at hb
      rcases List.mem_cons.1 hb with rfl | hb
      · revert hb2; decide
      · exact dig_dotE (digits_dig u b hb) hb2
  · intro h
    rw [h] at hp
    have h0 : z = 0 := by
      have h2 : Lib.parseIntB 64 [45, 48] = .ok 0 := by decide
      rw [h2] at hp
      injection hp with hp
      exact hp.symm
    subst h0
    have h3 := itoa_small (u := 0) (by omega)
    rw [show ((0 : Nat) : Int) = 0 from rfl, h] at h3
    revert h3; decide
def TailR (R : Str) : Prop := R = [] ∨ ∃ a y, R = a :: y ∧ (a = 10 ∨ a = 44 ∨ a = 93 ∨ a = 125)
theorem tail_while {s R : Str} (hs : Nc s) (hR : TailR R) : (s ++ R).takeWhile numCh = s := by
  rw [List.takeWhile_append_of_pos hs]
  rcases hR with rfl | ⟨a, y, rfl, h⟩
  · simp
  · rw [List.takeWhile_cons, if_neg, List.append_nil]
    rcases h with rfl | rfl | rfl | rfl <;> decide
theorem own_fields {t : Tree} (h : ¬ ownBad t.kind t.n t.s.length t.l.length t.m.length) :
    (t.kind ≠ 1 → t.kind ≠ 2 → t.n = 0) ∧ (t.kind ≠ 3 → t.kind ≠ 4 → t.kind ≠ 7 → t.s = []) ∧ (t.kind ≠ 5 → t.l = []) ∧ (t.kind ≠ 6 → t.m = []) := by
  unfold ownBad at h
  refine ⟨fun h1 h2 => by omega, fun h1 h2 h3 => List.eq_nil_of_length_eq_zero (by omega), fun h1 => List.eq_nil_of_length_eq_zero (by omega), fun h1 => List.eq_nil_of_length_eq_zero (by omega)⟩
theorem Tree.ext' {t u : Tree} (h1 : t.kind = u.kind) (h2 : t.n = u.n) (h3 : t.s = u.s) (h4 : t.l = u.l) (h5 : t.m = u.m) : t = u := by rw [t.eta, u.eta, h1, h2, h3, h4, h5]
theorem p0 {t : Tree} (hk : t.kind = 0) (d : Int) : printT t d = [110, 117, 108, 108] := by rw [printT_eq, if_pos hk]
theorem p1 {t : Tree} (hk : t.kind = 1) (d : Int) : printT t d = if t.n = 1 then [116, 114, 117, 101] else [102, 97, 108, 115, 101] := by rw [printT_eq, if_neg (by omega), if_pos hk]
theorem p2 {t : Tree} (hk : t.kind = 2) (d : Int) : printT t d = Lib.itoa t.n := by rw [printT_eq, if_neg (by omega), if_neg (by omega), if_pos hk]
theorem line_head (d : Int) (z : UInt8) (R : Str) : (lineL d ++ z :: R = z :: R) ∨ ∃ y, lineL d ++ z :: R = 10 :: y := by
  unfold lineL
  split
  · exact .inl rfl
  · exact .inr ⟨_, rfl⟩
theorem tail_L (d' d : Int) (z : UInt8) (hz : z = 93 ∨ z = 125) (R : Str) : ∀ l : List Tree, TailR (printL false l d' ++ (lineL d ++ z :: R))
  | [] => by
    rw [printL, List.nil_append]
    rcases line_head d z R with h | ⟨y, h⟩
    · rw [h]; exact .inr ⟨z, R, rfl, by rcases hz with rfl | rfl <;> decide⟩
    · rw [h]; exact .inr ⟨10, y, rfl, by decide⟩
  | x :: l => by rw [printL, if_neg (by simp)]; exact .inr ⟨44, _, rfl, by decide⟩
theorem tail_M (d' d : Int) (z : UInt8) (hz : z = 93 ∨ z = 125) (R : Str) : ∀ l : List (Str × Tree), TailR (printM false l d' ++ (lineL d ++ z :: R))
  | [] => by
    rw [printM, List.nil_append]
    rcases line_head d z R with h | ⟨y, h⟩
    · rw [h]; exact .inr ⟨z, R, rfl, by rcases hz with rfl | rfl <;> decide⟩
    · rw [h]; exact .inr ⟨10, y, rfl, by decide⟩
  | x :: l => by rw [printM, if_neg (by simp)]; exact .inr ⟨44, _, rfl, by decide⟩
def Tok (u : Str) (k : Int) (s : Str) (v : Str) : Prop := ∀ (t : Str) (a : Nat), a < t.length → t.drop a = u → ∃ b : Nat, wordL t a = (⟨k, s, a⟩, (b : Int), 0, 0) ∧ a < b ∧ b ≤ t.length ∧ t.drop b = v
theorem getD_drop (t : Str) (a : Nat) : t.getD a 0 = (t.drop a).getD 0 0 := by simp [List.getD, List.getElem?_drop]
theorem sign_iff : ∀ n : Nat, n < 256 → (0 ≤ firstIdx ⟨signs.toArray⟩ n.toUInt8 ↔ signs.contains n.toUInt8 = true) := by decide +kernel
theorem sign_b (c : UInt8) : 0 ≤ firstIdx ⟨signs.toArray⟩ c ↔ signs.contains c = true := by
  have := sign_iff c.toNat (UInt8.toNat_lt c)
  rwa [show c.toNat.toUInt8 = c by simp] at this
theorem drop_lt {t u v : Str} {a : Nat} (ha : a ≤ t.length) (h : t.drop a = u ++ v) : a + u.length ≤ t.length ∧ t.drop (a + u.length) = v := by
  have hl := congrArg List.length h
  rw [List.length_drop, List.length_append] at hl
  refine ⟨by omega, ?_⟩
  rw [← List.drop_drop, h, List.drop_left]
theorem tok_sign (c : UInt8) (v : Str) (hc : signs.contains c = true) : Tok (c :: v) 1 [c] v := by
  intro t a ha h
  have hg : t.getD a 0 = c := by rw [getD_drop, h]; rfl
  obtain ⟨h1, h2⟩ := drop_lt (u := [c]) (v := v) (by omega) h
  refine ⟨a + 1, ?_, by omega, h1, h2⟩
  unfold wordL
  rw [if_pos (by rw [hg]; exact (sign_b c).2 hc), h]
  rfl
theorem takeL_app : ∀ (q : Nat) (s R : Str) (r x : Int), takeL q s r = some x → takeL q (s ++ R) r = some x
  | 0, _, _, _, _, h => h
  | q + 1, [], _, _, _, h => by simp [takeL] at h
  | q + 1, b :: s, R, r, x, h => by
    rw [takeL] at h
    rw [List.cons_append, takeL]
    split at h
    · rename_i hc; rw [if_pos hc]; exact takeL_app q s R _ x h
    · cases h
theorem utfTake_app {s : Str} (R : Str) (h : (utfTake s).2 ≠ 0) : utfTake (s ++ R) = utfTake s := by
  cases s with
  | nil => exact absurd rfl h
  | cons c cs =>
    unfold utfTake at h ⊢
    simp only [List.cons_append] at h ⊢
    split at h
    · exact absurd rfl h
    · rename_i h1
      rw [if_neg (by simp only [List.length_cons, List.length_append] at h1 ⊢; omega), if_neg h1]
      split at h
      · exact absurd rfl h
      · rename_i r h2
        rw [takeL_app _ _ R _ _ h2]
theorem hex_ok : ∀ k : Nat, k < 32 → hexL (hex2 k) = ((k : Int), true) ∧ (hex2 k).length = 4 := by decide +kernel
theorem small_good : ∀ k : Nat, k < 128 → utfGood (k : Int) = true ∧ utfEnc (k : Int) = [UInt8.ofNat k] := by decide +kernel
theorem unq_quote : ∀ (q : Nat) (s R : Str) (Q : Nat) (t : Str) (a : Nat) (acc : Str), s.length ≤ q → (utfScan q s 0).2 = true → a ≤ t.length → t.drop a = quoteL q s ++ 34 :: R → t.length < Q + a →
    unqL Q t a acc = (acc ++ s, ((a + (quoteL q s).length + 1 : Nat) : Int), -1) := by
  intro q
  induction q with
  | zero =>
    intro s R Q t a acc hs _ ha h hQ
    obtain rfl : s = [] := List.eq_nil_of_length_eq_zero (by omega)
    have hl := congrArg List.length h
    simp [quoteL] at h hl
    obtain ⟨Q, rfl⟩ : ∃ q, Q = q + 1 := ⟨Q - 1, by omega⟩
    rw [unqL, if_neg (by omega), if_pos (by rw [getD_drop, h]; rfl)]
    simp [quoteL]
  | succ q ih =>
    intro s R Q t a acc hs hv ha h hQ
    cases s with
    | nil =>
      have hl := congrArg List.length h
      simp [quoteL] at h hl
      obtain ⟨Q, rfl⟩ : ∃ q, Q = q + 1 := ⟨Q - 1, by omega⟩
      rw [unqL, if_neg (by omega), if_pos (by rw [getD_drop, h]; rfl)]
      simp [quoteL]
    | cons c cs =>
      obtain ⟨h0, hv'⟩ := scan_cons hv
      have hst := stepN_pos (c :: cs)
      have hle := stepN_le c cs
      have hn := utfTake_n (c :: cs)
      have hsn : stepN (c :: cs) = (utfTake (c :: cs)).2.toNat := by unfold stepN; omega
      have henc := utfTake_enc _ h0
      have e0 : quoteL (q + 1) (c :: cs) = unitL (c :: cs) ++ quoteL q ((c :: cs).drop (stepN (c :: cs))) := rfl
      rw [e0, List.append_assoc] at h
      rw [e0]
      have hl := congrArg List.length h
      rw [List.length_drop] at hl
      simp only [List.length_append, List.length_cons] at hl
      obtain ⟨Q, rfl⟩ : ∃ q, Q = q + 1 := ⟨Q - 1, by omega⟩
      obtain ⟨d1, d2⟩ := drop_lt ha h
      have hrest : ((c :: cs).drop (stepN (c :: cs))).length ≤ q := by rw [List.length_drop]; simp only [List.length_cons] at hs hle ⊢; omega
      have hupos : 1 ≤ (unitL (c :: cs)).length := by
        obtain ⟨x, y, e1, _⟩ := unit_head c cs h0
        rw [e1]
        simp
      have fin : ∀ acc', acc' = acc ++ (c :: cs).take (stepN (c :: cs)) → unqL Q t (a + (unitL (c :: cs)).length) acc' = (acc ++ c :: cs, ((a + (unitL (c :: cs) ++ quoteL q ((c :: cs).drop (stepN (c :: cs)))).length + 1 : Nat) : Int), -1) := by
        intro acc' e
        rw [ih _ R Q t _ acc' hrest hv' d1 d2 (by omega)]
        rw [e, List.append_assoc, List.take_append_drop, List.length_append, Nat.add_assoc a]
      have hund := unit_head c cs h0
      rcases unit_form c cs h0 with ⟨hc, htk, hun⟩ | ⟨hc, hun, hlen, hb⟩
      · -- a small letter
        rw [htk] at fin
        rw [hun] at h d1 d2 hl fin
        have hcu := u8_of c
        have hsmall := small_good c.toNat hc
        rw [hcu] at hsmall
        -- escapes of one
        have esc1 : ∀ y : UInt8, q1 c = [92, y] → shortL y = some (c.toNat : Int) → unqL (Q + 1) t a acc = (acc ++ c :: cs, ((a + (q1 c ++ quoteL q ((c :: cs).drop (stepN (c :: cs)))).length + 1 : Nat) : Int), -1) := by
          intro y hy hsh
          rw [hy] at h hl fin
          have hg : t.getD a 0 = 92 := by rw [getD_drop, h]; rfl
          have hg1 : t.getD (a + 1) 0 = y := by rw [getD_drop, ← List.drop_drop, h]; rfl
          simp only [List.length_cons, List.length_nil] at hl
          have hesc : escAt t a acc = (true, (a : Int) + 2, acc ++ [c]) := by
            rw [escAt_short (by omega) (by rw [hg1]; exact hsh)]
            unfold putR
            rw [if_pos hsmall.1, hsmall.2]
          rw [unqL, if_neg (by omega), if_neg (by rw [hg]; decide), if_neg (by rw [hg]; decide), if_pos (by rw [hg]; decide), hesc, if_pos rfl]
          show unqL Q t ((a : Int) + 2).toNat _ = _
          rw [show ((a : Int) + 2).toNat = a + [92, y].length by simp; omega, hy]
          exact fin _ rfl
        have key : ∀ k : Nat, k < 128 → (∃ y : UInt8, q1 (UInt8.ofNat k) = [92, y] ∧ shortL y = some (k : Int)) ∨ (k < 32 ∧ q1 (UInt8.ofNat k) = 92 :: 117 :: hex2 k) ∨ (32 ≤ k ∧ k ≠ 34 ∧ k ≠ 92 ∧ q1 (UInt8.ofNat k) = [UInt8.ofNat k]) := by
          intro k hk
          by_cases k1 : k = 34; · subst k1; exact .inl ⟨34, by decide, by decide⟩
          by_cases k2 : k = 92; · subst k2; exact .inl ⟨92, by decide, by decide⟩
          by_cases k3 : k = 8; · subst k3; exact .inl ⟨98, by decide, by decide⟩
          by_cases k4 : k = 9; · subst k4; exact .inl ⟨116, by decide, by decide⟩
          by_cases k5 : k = 10; · subst k5; exact .inl ⟨110, by decide, by decide⟩
          by_cases k6 : k = 12; · subst k6; exact .inl ⟨102, by decide, by decide⟩
          by_cases k7 : k = 13; · subst k7; exact .inl ⟨114, by decide, by decide⟩
          have hb : b0 [UInt8.ofNat k] = k := by
            show (UInt8.ofNat k).toNat = k
            rw [UInt8.toNat_ofNat']; omega
          by_cases k8 : k < 32
          · refine .inr (.inl ⟨k8, ?_⟩)
            unfold q1 quoteU
            rw [hb, if_neg (by decide), if_neg (by omega), if_neg (by omega), if_neg (by omega), if_neg (by omega), if_neg (by omega), if_neg (by omega), if_pos k8]
          · refine .inr (.inr ⟨by omega, k1, k2, ?_⟩)
            unfold q1 quoteU
            rw [hb, if_neg (by decide), if_neg (by omega), if_neg (by omega), if_neg (by omega), if_neg (by omega), if_neg (by omega), if_neg (by omega), if_neg k8]
        rw [hun]
        rcases key c.toNat hc with ⟨y, hy, hsh⟩ | ⟨hk, hy⟩ | ⟨hk, hk1, hk2, hy⟩
        · rw [hcu] at hy; exact esc1 y hy hsh
        · rw [hcu] at hy
          obtain ⟨hx, hxl⟩ := hex_ok c.toNat hk
          rw [hy] at h hl fin
          have hg : t.getD a 0 = 92 := by rw [getD_drop, h]; rfl
          have hg1 : t.getD (a + 1) 0 = 117 := by rw [getD_drop, ← List.drop_drop, h]; rfl
          simp only [List.length_cons, hxl] at hl
          have hd4 : (t.drop (a + 2)).take 4 = hex2 c.toNat := by
            rw [← List.drop_drop, h]
            show (hex2 c.toNat ++ _).take 4 = _
            rw [← hxl, List.take_left]
          have hdig : digL t (a + 2) 4 = ((c.toNat : Int), true) := by
            unfold digL
            rw [if_neg (by omega), hd4, hx]
          have hesc : escAt t a acc = (true, (a : Int) + 6, acc ++ [c]) := by
            rw [escAt_u (by omega) (by rw [hg1]; decide), hg1, hdig, if_neg (by simp), if_pos (.inl (by show (c.toNat : Int) < 55296; omega))]
            show putR a acc (c.toNat : Int) 6 = _
            unfold putR
            rw [if_pos hsmall.1, hsmall.2]
          rw [unqL, if_neg (by omega), if_neg (by rw [hg]; decide), if_neg (by rw [hg]; decide), if_pos (by rw [hg]; decide), hesc, if_pos rfl]
          show unqL Q t ((a : Int) + 6).toNat _ = _
          rw [show ((a : Int) + 6).toNat = a + (92 :: 117 :: hex2 c.toNat).length by simp only [List.length_cons, hxl]; omega, hy]
          exact fin _ rfl
        · rw [hcu] at hy
          rw [hy] at h hl fin
          have hg : t.getD a 0 = c := by rw [getD_drop, h]; rfl
          simp only [List.length_cons, List.length_nil] at hl
          have hlow : ∀ k : Nat, k < 128 → ∀ R : Str, utfTake (UInt8.ofNat k :: R) = ((k : Int), 1) := by
            intro k hk R
            have e1 : (UInt8.ofNat k).toNat = k := by rw [UInt8.toNat_ofNat']; omega
            have h2 : utfBegins k = (1, (k : Int)) := by unfold utfBegins; rw [if_pos hk]
            have h3 := (small_good k hk).1
            have h4 : utfSize (k : Int) = 1 := by unfold utfSize; rw [if_pos (by omega)]
            unfold utfTake
            simp only [e1, h2, List.length_cons]
            rw [if_neg (by omega)]
            simp only [show Int.toNat 1 - 1 = 0 from rfl, takeL]
            rw [if_pos ⟨h3, h4⟩]
          have hT : utfTake (t.drop a) = ((c.toNat : Int), 1) := by
            rw [h]
            have := hlow c.toNat hc (quoteL q ((c :: cs).drop (stepN (c :: cs))) ++ 34 :: R)
            rwa [hcu] at this
          rw [unqL, if_neg (by omega), if_neg (by rw [hg]; omega), if_neg (by rw [hg]; omega), if_neg (by rw [hg]; omega), hT, if_neg (by simp)]
          show unqL Q t (a + (1 : Int).toNat) (acc ++ utfEnc (c.toNat : Int)) = _
          rw [hsmall.2, hy]
          exact fin _ rfl
      · -- a great letter
        have hun' : unitL (c :: cs) = (c :: cs).take (stepN (c :: cs)) := hun
        rw [hun'] at h d1 d2 hl fin
        rw [hun']
        have hpre : utfTake ((c :: cs).take (stepN (c :: cs))) = utfTake (c :: cs) := utfTake_pre c cs
        have hT : utfTake (t.drop a) = utfTake (c :: cs) := by
          rw [h, utfTake_app _ (by rw [hpre]; exact h0), hpre]
        obtain ⟨m, hm⟩ : ∃ m, stepN (c :: cs) = m + 1 := ⟨stepN (c :: cs) - 1, by omega⟩
        have hg : t.getD a 0 = c := by rw [getD_drop, h, hm]; rfl
        have hlt : ((c :: cs).take (stepN (c :: cs))).length = stepN (c :: cs) := by rw [List.length_take]; omega
        rw [unqL, if_neg (by omega), if_neg (by rw [hg]; omega), if_neg (by rw [hg]; omega), if_neg (by rw [hg]; omega), hT, if_neg h0, henc, ← hsn]
        have := fin _ rfl
        rw [hlt] at this
        exact this
theorem tok_str (s R : Str) (hs : strOk s = true) : Tok (quoteS s ++ R) 2 s R := by
  intro t a ha h
  have hl := strOk_len hs
  have hv : (utfScan s.length s 0).2 = true := by
    unfold strOk at hs
    rw [Bool.and_eq_true] at hs
    exact hs.2
  have hq : quoteS s ++ R = [34] ++ (quoteL s.length s ++ 34 :: R) := by simp [quoteS]
  obtain ⟨e1, e2⟩ := drop_lt (by omega) (h.trans hq)
  have hg : t.getD a 0 = 34 := by rw [getD_drop, h]; rfl
  have hu := unq_quote s.length s R (t.length + 1) t (a + 1) [] (Nat.le_refl _) hv e1 e2 (by omega)
  have hlen : (quoteS s).length = (quoteL s.length s).length + 2 := by simp [quoteS]
  obtain ⟨e3, e4⟩ := drop_lt (by omega) h
  have hun : unquoteL t a = (s, ((a + (quoteS s).length : Nat) : Int), -1) := by
    unfold unquoteL
    have hc : clampL t (a : Int) = a := by unfold clampL; omega
    rw [hc, Int.toNat_natCast, if_neg, hu, hlen]
    · simp; omega
    · rintro (h1 | h1)
      · omega
      · rw [h] at h1
        simp [preB, quoteS] at h1
  refine ⟨a + (quoteS s).length, ?_, by omega, e3, e4⟩
  unfold wordL
  rw [if_neg (by rw [hg, sign_b]; decide), if_pos (by rw [hg]; decide), hun, if_neg (by simp), if_neg (by simp only []; omega)]
theorem num_first {s : Str} (h : numL s = true) : ∃ c y, s = c :: y ∧ (c = 45 ∨ dig c = true) := by
  have hp : (numParts s).2.2.2.2 = true := by
    unfold numL formL at h
    simp only [Bool.and_eq_true] at h
    exact h.1.1
  cases s with
  | nil => simp [numParts, partsB, runL, noParts] at hp
  | cons c y =>
    refine ⟨c, y, rfl, ?_⟩
    unfold numParts at hp
    split at hp
    · rename_i h1
      left
      have : c.toNat = 45 := h1.2
      exact UInt8.toNat_inj.1 (by rw [this]; decide)
    · right
      unfold partsB at hp
      split at hp
      · simp [noParts] at hp
      · rename_i h2
        cases hd : dig c with
        | true => rfl
        | false => exact absurd (.inl (by rw [runL, if_neg (by rw [hd]; decide)])) h2
theorem numBs_iff : ∀ n : Nat, n < 256 → numBs.contains n.toUInt8 = numCh n.toUInt8 := by decide +kernel
theorem numBs_eq (b : UInt8) : numBs.contains b = numCh b := by
  have := numBs_iff b.toNat (UInt8.toNat_lt b)
  rwa [show b.toNat.toUInt8 = b by simp] at this
theorem while_num {s R : Str} (hs : Nc s) (hR : TailR R) : whileL (s ++ R) numBs = s.length := by
  unfold whileL
  rw [show (fun b => numBs.contains b) = numCh from funext numBs_eq, tail_while hs hR]
theorem tok_num (s R : Str) (hs : numL s = true) (hR : TailR R) : Tok (s ++ R) 3 s R := by
  intro t a ha h
  obtain ⟨c, y, e, hc⟩ := num_first hs
  have hg : t.getD a 0 = c := by rw [getD_drop, h, e]; rfl
  have hw := while_num (nc_num hs) hR
  obtain ⟨e3, e4⟩ := drop_lt (by omega) h
  have hpos : 0 < s.length := by rw [e]; simp
  have hl : s.length ≤ 400 := (numL_asc hs).1
  have hj : jnumL s = 0 := by unfold jnumL; rw [if_neg (by omega), if_pos hs]
  have hcn : c.toNat = 45 ∨ (48 ≤ c.toNat ∧ c.toNat ≤ 57) := by
    rcases hc with rfl | hc
    · left; rfl
    · right; unfold dig at hc; exact of_decide_eq_true hc
  refine ⟨a + s.length, ?_, by omega, e3, e4⟩
  have hns : ¬ 0 ≤ firstIdx ⟨signs.toArray⟩ c := by
    have key : ∀ n : Nat, n < 256 → (n = 45 ∨ (48 ≤ n ∧ n ≤ 57)) → signs.contains n.toUInt8 = false := by decide +kernel
    have := key c.toNat (UInt8.toNat_lt c) hcn
    rw [show c.toNat.toUInt8 = c by simp] at this
    rw [sign_b, this]; decide
  unfold wordL
  rw [if_neg (by rw [hg]; exact hns), if_neg (by rw [hg]; omega), if_neg (by rw [hg]; omega), h, hw, List.take_left, if_neg (by omega), hj, if_neg (by simp)]
  rfl
theorem tok_word (s R : Str) (hs : s = [110, 117, 108, 108] ∨ s = [116, 114, 117, 101] ∨ s = [102, 97, 108, 115, 101]) (hR : TailR R) : Tok (s ++ R) 4 s R := by
  intro t a ha h
  have hall : ∀ b ∈ s, lowers.contains b = true := by rcases hs with rfl | rfl | rfl <;> decide
  have hw : whileL (s ++ R) lowers = s.length := by
    unfold whileL
    rw [List.takeWhile_append_of_pos hall]
    rcases hR with hR | ⟨z, y, hR, hz⟩
    · rw [hR]; simp
    · rw [hR, List.takeWhile_cons, if_neg, List.append_nil]
      rcases hz with rfl | rfl | rfl | rfl <;> decide
  obtain ⟨e3, e4⟩ := drop_lt (by omega) h
  obtain ⟨c, y, e, hc⟩ : ∃ c y, s = c :: y ∧ (c = 110 ∨ c = 116 ∨ c = 102) := by rcases hs with rfl | rfl | rfl <;> exact ⟨_, _, rfl, by decide⟩
  have hg : t.getD a 0 = c := by rw [getD_drop, h, e]; rfl
  have hpos : 0 < s.length := by rw [e]; simp
  refine ⟨a + s.length, ?_, by omega, e3, e4⟩
  unfold wordL
  rw [if_neg (by rw [hg, sign_b]; rcases hc with rfl | rfl | rfl <;> decide), if_neg (by rw [hg]; rcases hc with rfl | rfl | rfl <;> decide), if_pos (by rw [hg]; rcases hc with rfl | rfl | rfl <;> decide), h, hw, List.take_left, if_neg]
  · rfl
  · rintro ⟨h1, h2, h3⟩
    rcases hs with h | h | h
    · exact h3 h
    · exact h1 h
    · exact h2 h
theorem take_low {c : UInt8} (hc : c.toNat < 128) (R : Str) : utfTake (c :: R) = ((c.toNat : Int), 1) := by
  have h2 : utfBegins c.toNat = (1, (c.toNat : Int)) := by unfold utfBegins; rw [if_pos hc]
  have h3 := (small_good c.toNat hc).1
  have h4 : utfSize (c.toNat : Int) = 1 := by unfold utfSize; rw [if_pos (by omega)]
  unfold utfTake
  simp only [h2, List.length_cons]
  rw [if_neg (by omega)]
  simp only [show Int.toNat 1 - 1 = 0 from rfl, takeL]
  rw [if_pos ⟨h3, h4⟩]
theorem scan_asc : ∀ (q : Nat) (s : Str) (p : Int), (∀ b ∈ s, b.toNat < 128) → (utfScan q s p).2 = true
  | 0, _, _, _ => rfl
  | q + 1, [], _, _ => rfl
  | q + 1, c :: cs, p, h => by
    unfold utfScan
    simp only []
    rw [take_low (h c (by simp)) cs, if_neg (by simp)]
    exact scan_asc q _ _ fun b hb => h b (by
      have : b ∈ cs := by simpa using hb
      simp [this])
theorem stamp_str {s : Str} (h : stampOk s = true) : strOk s = true := by
  unfold stampOk at h
  have h := of_decide_eq_true h
  unfold strOk
  rw [Bool.and_eq_true, decide_eq_true_eq]
  exact ⟨by omega, scan_asc _ _ _ fun b hb => by have := h.2.2 b hb; omega⟩
def skipB (u : Str) : Str := u.dropWhile (blanksB.contains ·)
theorem skip_drop (u : Str) : u.drop (whileL u blanksB) = skipB u := by
  unfold skipB whileL
  induction u with
  | nil => rfl
  | cons b u ih =>
    rw [List.takeWhile_cons, List.dropWhile_cons]
    split
    · simpa using ih
    · rfl
theorem skip_line (d : Int) (X : Str) : skipB (lineL d ++ X) = skipB X := by
  have hrep : ∀ n : Nat, skipB (Lib.repeatL [32, 32] n ++ X) = skipB X := by
    intro n
    induction n with
    | zero => rfl
    | succ n ih =>
      show skipB ((32 : UInt8) :: 32 :: (Lib.repeatL [32, 32] n ++ X)) = _
      unfold skipB at ih ⊢
      rw [List.dropWhile_cons, if_pos (by decide), List.dropWhile_cons, if_pos (by decide)]
      exact ih
  unfold lineL
  split
  · rfl
  · have := hrep d.toNat
    unfold skipB at this ⊢
    rw [List.cons_append, List.dropWhile_cons, if_pos (by decide)]
    exact this
theorem skip_ne {c : UInt8} (X : Str) (h : blanksB.contains c = false) : skipB (c :: X) = c :: X := by
  unfold skipB
  rw [List.dropWhile_cons, if_neg (by rw [h]; decide)]
inductive LexTo (W : Str) : Str → List (Int × Str) → Prop
  | nil : LexTo W W []
  | cons {u v : Str} {k : Int} {s : Str} {ws : List (Int × Str)} (h : Tok u k s v) (hne : u ≠ []) (r : LexTo W (skipB v) ws) : LexTo W u ((k, s) :: ws)
abbrev Lexes : Str → List (Int × Str) → Prop := LexTo []
def kp (w : Wd) : Int × Str := (w.k, w.s)
theorem cutL_to {W u : Str} {ws : List (Int × Str)} (h : LexTo W u ws) : ∀ (q : Nat) (t : Str) (a : Nat) (acc : List Wd), t.drop a = u → a ≤ t.length → t.length < q + a →
    ∃ l b p, cutL q t a acc = cutL p t b (acc ++ l) ∧ l.map kp = ws ∧ t.drop b = W ∧ b ≤ t.length ∧ a ≤ b ∧ t.length < p + b := by
  induction h with
  | nil =>
    intro q t a acc h ha hq
    exact ⟨[], a, q, by simp, rfl, h, ha, Nat.le_refl _, hq⟩
  | @cons u v k s ws ht hne r ih =>
    intro q t a acc h ha hq
    obtain ⟨q, rfl⟩ : ∃ p, q = p + 1 := ⟨q - 1, by
      have hl := congrArg List.length h
      have : 0 < u.length := List.length_pos_iff.2 hne
      rw [List.length_drop] at hl
      omega⟩
    have hlt : a < t.length := by
      have hl := congrArg List.length h
      have : 0 < u.length := List.length_pos_iff.2 hne
      rw [List.length_drop] at hl
      omega
    obtain ⟨b, h1, h2, h3, h4⟩ := ht t a hlt h
    have hw := whileL_le (t.drop b) blanksB
    rw [List.length_drop] at hw
    obtain ⟨l, c, p, e1, e2, e3, e4, e5, e6⟩ := ih q t (b + whileL (t.drop b) blanksB) (acc ++ [⟨k, s, a⟩]) (by rw [← List.drop_drop, skip_drop, h4]) (by omega) (by omega)
    refine ⟨⟨k, s, a⟩ :: l, c, p, ?_, by simp [kp, e2], e3, e4, by omega, e6⟩
    rw [cutL, if_neg (by omega), h1]
    simp only [ne_eq, not_true_eq_false, if_false, Int.toNat_natCast]
    rw [e1]
    simp
theorem cutL_lexes {u : Str} {ws : List (Int × Str)} (h : Lexes u ws) (q : Nat) (t : Str) (a : Nat) (acc : List Wd) (h0 : t.drop a = u) (ha : a ≤ t.length) (hq : t.length < q + a) : ∃ l, cutL q t a acc = (acc ++ l, 0, 0) ∧ l.map kp = ws := by
  obtain ⟨l, b, p, e1, e2, e3, e4, e5, e6⟩ := cutL_to h q t a acc h0 ha hq
  obtain ⟨p, rfl⟩ : ∃ r, p = r + 1 := ⟨p - 1, by omega⟩
  have hl := congrArg List.length e3
  rw [List.length_drop] at hl
  simp only [List.length_nil] at hl
  exact ⟨l, by rw [e1, cutL, if_pos (by omega)], e2⟩
mutual
def wordsT : Tree → List (Int × Str)
  | .mk k n s l m => if k = 0 then [(4, [110, 117, 108, 108])] else if k = 1 then [(4, if n = 1 then [116, 114, 117, 101] else [102, 97, 108, 115, 101])] else
    if k = 2 then [(3, Lib.itoa n)] else if k = 3 then [(3, s)] else if k = 4 ∨ k = 7 then [(2, s)] else
    if k = 6 then (1, [123]) :: (wordsM true m ++ [(1, [125])]) else (1, [91]) :: (wordsL true l ++ [(1, [93])])
def wordsL : Bool → List Tree → List (Int × Str)
  | _, [] => []
  | f, t :: l => (if f = true then [] else [(1, [44])]) ++ (wordsT t ++ wordsL false l)
def wordsM : Bool → List (Str × Tree) → List (Int × Str)
  | _, [] => []
  | f, p :: m => (if f = true then [] else [(1, [44])]) ++ (wordsP p ++ wordsM false m)
def wordsP : Str × Tree → List (Int × Str)
  | (k, t) => (2, k) :: (1, [58]) :: wordsT t
end
theorem wordsT_eq (t : Tree) : wordsT t = if t.kind = 0 then [(4, [110, 117, 108, 108])] else if t.kind = 1 then [(4, if t.n = 1 then [116, 114, 117, 101] else [102, 97, 108, 115, 101])] else
    if t.kind = 2 then [(3, Lib.itoa t.n)] else if t.kind = 3 then [(3, t.s)] else if t.kind = 4 ∨ t.kind = 7 then [(2, t.s)] else
    if t.kind = 6 then (1, [123]) :: (wordsM true t.m ++ [(1, [125])]) else (1, [91]) :: (wordsL true t.l ++ [(1, [93])]) := by cases t; rw [wordsT]; rfl
theorem digits_head : ∀ n : Nat, n ≠ 0 → ∃ c y, Lib.decDigits n = c :: y ∧ c ≠ 48 := by
  intro n
  induction n using Nat.strongRecOn with
  | ind n ih =>
    intro h
    rw [Lib.decDigits]
    split
    · rename_i h1
      refine ⟨_, _, rfl, ?_⟩
      intro e
      have := congrArg UInt8.toNat e
      rw [UInt8.toNat_ofNat'] at this
      simp at this
      omega
    · obtain ⟨c, y, e, hc⟩ := ih (n / 10) (by omega) (by omega)
      rw [e]
      exact ⟨c, _, rfl, hc⟩
theorem run_dig {s : Str} (h : ∀ b ∈ s, dig b = true) : runL s = s.length := by
  induction s with
  | nil => rfl
  | cons b s ih => rw [runL, if_pos (h b (by simp)), ih fun x hx => h x (by simp [hx]), List.length_cons]
theorem digits_len : ∀ (k n : Nat), n < 10 ^ k → 0 < k → (Lib.decDigits n).length ≤ k
  | 0, _, _, h => by omega
  | k + 1, n, h, _ => by
    rw [Lib.decDigits]
    split
    · simp
    · rename_i h1
      rw [List.length_append]
      have := digits_len k (n / 10) (by rw [Nat.pow_succ] at h; omega) (by
        rcases k with _ | k
        · simp at h; omega
        · omega)
      simpa using this
theorem partsB_digits (neg : Bool) (n : Nat) : partsB neg (Lib.decDigits n) = (neg, Lib.decDigits n, [], [], true) := by
  have hr := run_dig (digits_dig n)
  unfold partsB
  rw [hr, if_neg, List.take_length, List.drop_length]
  · unfold partsC partsD
    simp
  · rintro (h | ⟨h1, h2⟩)
    · exact digits_ne n (List.eq_nil_of_length_eq_zero h)
    · rw [List.take_length] at h2
      by_cases h0 : n = 0
      · subst h0; rw [Lib.decDigits, dif_pos (by omega)] at h1; simp at h1
      · obtain ⟨c, y, e, hc⟩ := digits_head n h0
        rw [e] at h2
        exact hc (UInt8.toNat_inj.1 (by rw [show c.toNat = 48 from h2]; decide))
theorem numL_of {s : Str} {neg : Bool} {w : Str} (h : numParts s = (neg, w, [], [], true)) (hl : s.length ≤ 400) : numL s = true := by
  unfold numL formL
  rw [h]
  simp [powerL, powL, hl]
theorem numL_itoa {z : Int} (h0 : -9223372036854775808 ≤ z) (h1 : z ≤ 9223372036854775807) : numL (Lib.itoa z) = true := by
  by_cases h : 0 ≤ z
  · obtain ⟨u, rfl⟩ := Int.eq_ofNat_of_zero_le h
    rw [Lib.itoa_nonneg]
    refine numL_of (neg := false) (w := Lib.decDigits u) ?_ (Nat.le_trans (digits_len 19 u (by omega) (by omega)) (by omega))
    unfold numParts
    rw [if_neg, partsB_digits]
    rintro ⟨h2, h3⟩
    cases he : Lib.decDigits u with
    | nil => exact digits_ne u he
    | cons c y =>
      have hd := digits_dig u c (by rw [he]; simp)
      rw [he] at h3
      unfold dig at hd
      have := of_decide_eq_true hd
      have h4 : c.toNat = 45 := h3
      omega
  · obtain ⟨u, hu⟩ := Int.eq_ofNat_of_zero_le (show 0 ≤ -z by omega)
    rw [show z = -(u : Int) by omega, Lib.itoa_neg u (by omega)]
    refine numL_of (neg := true) (w := Lib.decDigits u) ?_ ?_
    · unfold numParts
      rw [if_pos ⟨by simp, rfl⟩]
      exact partsB_digits true u
    · have := digits_len 19 u (by omega) (by omega)
      simp only [List.length_cons]
      omega
def LexAt (t : Tree) : Prop := ∀ (W : Str) (d : Int) (R : Str) (ws : List (Int × Str)), goodT t = true → TailR R → LexTo W (skipB R) ws → LexTo W (printT t d ++ R) (wordsT t ++ ws)
theorem skip_sign (c : UInt8) (X : Str) (h : signs.contains c = true) : skipB (c :: X) = c :: X := by
  refine skip_ne X ?_
  have key : ∀ n : Nat, n < 256 → signs.contains n.toUInt8 = true → blanksB.contains n.toUInt8 = false := by decide +kernel
  have := key c.toNat (UInt8.toNat_lt c)
  rw [show c.toNat.toUInt8 = c by simp] at this
  exact this h
theorem LexTo.sign {W : Str} (c : UInt8) {X : Str} {ws : List (Int × Str)} (h : signs.contains c = true) (r : LexTo W (skipB X) ws) : LexTo W (c :: X) ((1, [c]) :: ws) :=
  .cons (tok_sign c X h) (by simp) r
theorem print_skip {t : Tree} (hg : goodT t = true) (d : Int) (X : Str) : skipB (printT t d ++ X) = printT t d ++ X := by
  obtain ⟨h1, h2, _⟩ := goodT_spec hg
  have key : ∀ {Y : Str}, (∃ a y, Y = a :: y ∧ blanksB.contains a = false) → skipB (Y ++ X) = Y ++ X := by
    rintro Y ⟨a, y, rfl, h⟩
    exact skip_ne _ h
  have hnum : ∀ {Y : Str}, numL Y = true → ∃ a y, Y = a :: y ∧ blanksB.contains a = false := by
    intro Y hY
    obtain ⟨c, y, e, hc⟩ := num_first hY
    refine ⟨c, y, e, ?_⟩
    rcases hc with rfl | hc
    · decide
    · have key : ∀ n : Nat, n < 256 → dig n.toUInt8 = true → blanksB.contains n.toUInt8 = false := by decide +kernel
      have := key c.toNat (UInt8.toNat_lt c)
      rw [show c.toNat.toUInt8 = c by simp] at this
      exact this hc
  refine key ?_
  rw [printT_eq]
  split
  · exact ⟨_, _, rfl, by decide⟩
  split
  · split <;> exact ⟨_, _, rfl, by decide⟩
  split
  · rename_i hk
    obtain ⟨_, _, hr, _⟩ := goodT_spec hg
    exact hnum (numL_itoa hr.1 hr.2)
  split
  · rename_i hk
    rw [hk] at h2
    refine hnum ?_
    unfold nodeOk at h2
    rw [if_neg (by omega), if_neg (by omega), if_pos rfl, Bool.and_eq_true] at h2
    exact h2.1
  split
  · exact ⟨_, _, rfl, by decide⟩
  split
  · split <;> exact ⟨_, _, rfl, by decide⟩
  · split <;> exact ⟨_, _, rfl, by decide⟩
theorem lexL {W : Str} (d' d : Int) (R : Str) (ws : List (Int × Str)) (hws : LexTo W (skipB R) ws) : ∀ (l : List Tree) (f : Bool), (∀ x ∈ l, LexAt x ∧ goodT x = true) →
    LexTo W (skipB (printL f l d' ++ (lineL d ++ 93 :: R))) (wordsL f l ++ (1, [93]) :: ws)
  | [], f, _ => by
    show LexTo W (skipB (lineL d ++ 93 :: R)) ((1, [93]) :: ws)
    rw [skip_line, skip_sign 93 R (by decide)]
    exact .sign 93 (by decide) hws
  | x :: l, f, h => by
    obtain ⟨hx, hg⟩ := h x (by simp)
    have ih := lexL d' d R ws hws l false fun y hy => h y (by simp [hy])
    have h1 := hx W d' (printL false l d' ++ (lineL d ++ 93 :: R)) _ hg (tail_L d' d 93 (.inl rfl) R l) ih
    rw [printL, wordsL]
    cases f with
    | true =>
      rw [if_pos rfl, if_pos rfl, List.nil_append, List.nil_append, List.append_assoc, skip_line, List.append_assoc, print_skip hg, List.append_assoc]
      exact h1
    | false =>
      rw [if_neg (by decide), if_neg (by decide)]
      show LexTo W (skipB (44 :: (lineL d' ++ (printT x d' ++ printL false l d') ++ (lineL d ++ 93 :: R)))) ((1, [44]) :: (wordsT x ++ wordsL false l ++ (1, [93]) :: ws))
      rw [skip_sign 44 _ (by decide)]
      refine .sign 44 (by decide) ?_
      rw [List.append_assoc, skip_line, List.append_assoc, print_skip hg, List.append_assoc]
      exact h1
theorem lexM {W : Str} (d' d : Int) (R : Str) (ws : List (Int × Str)) (hws : LexTo W (skipB R) ws) : ∀ (l : List (Str × Tree)) (f : Bool), (∀ x ∈ l, LexAt x.2 ∧ strOk x.1 = true ∧ goodT x.2 = true) →
    LexTo W (skipB (printM f l d' ++ (lineL d ++ 125 :: R))) (wordsM f l ++ (1, [125]) :: ws)
  | [], f, _ => by
    show LexTo W (skipB (lineL d ++ 125 :: R)) ((1, [125]) :: ws)
    rw [skip_line, skip_sign 125 R (by decide)]
    exact .sign 125 (by decide) hws
  | (k, x) :: l, f, h => by
    obtain ⟨hx, hk, hg⟩ := h (k, x) (by simp)
    have ih := lexM d' d R ws hws l false fun y hy => h y (by simp [hy])
    have h1 := hx W d' (printM false l d' ++ (lineL d ++ 125 :: R)) _ hg (tail_M d' d 125 (.inr rfl) R l) ih
    have h2 : LexTo W (quoteS k ++ (colonL d' ++ (printT x d' ++ (printM false l d' ++ (lineL d ++ 125 :: R))))) ((2, k) :: (1, [58]) :: (wordsT x ++ (wordsM false l ++ (1, [125]) :: ws))) := by
      refine .cons (tok_str k _ hk) (by simp [quoteS]) ?_
      have hc : skipB (colonL d' ++ (printT x d' ++ (printM false l d' ++ (lineL d ++ 125 :: R)))) = colonL d' ++ (printT x d' ++ (printM false l d' ++ (lineL d ++ 125 :: R))) := by
        unfold colonL; split <;> exact skip_sign 58 _ (by decide)
      rw [hc]
      unfold colonL
      split
      · refine .sign 58 (by decide) ?_
        show LexTo W (skipB (32 :: (printT x d' ++ _))) _
        have : ∀ Y, skipB (32 :: Y) = skipB Y := fun Y => by unfold skipB; rw [List.dropWhile_cons, if_pos (by decide)]
        rw [this, print_skip hg]
        exact h1
      · refine .sign 58 (by decide) ?_
        show LexTo W (skipB (printT x d' ++ _)) _
        rw [print_skip hg]
        exact h1
    have hq : ∀ Y, skipB (quoteS k ++ Y) = quoteS k ++ Y := fun Y => by unfold quoteS; exact skip_ne _ (by decide)
    rw [printM, wordsM, printP, wordsP]
    cases f with
    | true =>
      rw [if_pos rfl, if_pos rfl, List.nil_append, List.nil_append, List.append_assoc, skip_line]
      simp only [List.append_assoc, List.cons_append] at h2 ⊢
      rw [hq]
      exact h2
    | false =>
      rw [if_neg (by decide), if_neg (by decide)]
      simp only [List.append_assoc, List.cons_append, List.nil_append] at h2 ⊢
      rw [skip_sign 44 _ (by decide)]
      refine .sign 44 (by decide) ?_
      rw [skip_line, hq]
      exact h2
theorem lex_box {t : Tree} (hk : t.kind = 5 ∨ t.kind = 6) (hl : ∀ x ∈ t.l, LexAt x) (hm : ∀ x ∈ t.m, LexAt x.2) (hg : goodT t = true) {W : Str} (d : Int) {R : Str} {ws : List (Int × Str)} (hws : LexTo W (skipB R) ws) : LexTo W (printT t d ++ R) (wordsT t ++ ws) := by
  obtain ⟨h1, h2, hr, gl, gm⟩ := goodT_spec hg
  rw [printT_eq, wordsT_eq]
  split
  · omega
  split
  · omega
  split
  · omega
  split
  · omega
  split
  · omega
  split
  · split
    · rename_i h0
      have : t.m = [] := List.eq_nil_of_length_eq_zero h0
      rw [this]
      refine .sign 123 (by decide) ?_
      show LexTo W (skipB (125 :: R)) _
      rw [skip_sign 125 R (by decide)]
      exact .sign 125 (by decide) hws
    · have := lexM (deeper d) d R ws hws t.m true fun x hx => ⟨hm x hx, gm x hx⟩
      simp only [List.cons_append, List.append_assoc, List.nil_append] at this ⊢
      exact .sign 123 (by decide) this
  · split
    · rename_i h0
      have : t.l = [] := List.eq_nil_of_length_eq_zero h0
      rw [this]
      refine .sign 91 (by decide) ?_
      show LexTo W (skipB (93 :: R)) _
      rw [skip_sign 93 R (by decide)]
      exact .sign 93 (by decide) hws
    · have := lexL (deeper d) d R ws hws t.l true fun x hx => ⟨hl x hx, gl x hx⟩
      simp only [List.cons_append, List.append_assoc, List.nil_append] at this ⊢
      exact .sign 91 (by decide) this
theorem lex_tree : ∀ t : Tree, LexAt t := by
  refine Tree.ind fun t hl hm W d R ws hg hR hws => ?_
  by_cases hbox : t.kind = 5 ∨ t.kind = 6
  · exact lex_box hbox hl hm hg d hws
  obtain ⟨h1, h2, hr, gl, gm⟩ := goodT_spec hg
  rw [printT_eq, wordsT_eq]
  split
  · exact .cons (tok_word _ R (.inl rfl) hR) (by simp) hws
  split
  · split
    · exact .cons (tok_word _ R (.inr (.inl rfl)) hR) (by simp) hws
    · exact .cons (tok_word _ R (.inr (.inr rfl)) hR) (by simp) hws
  split
  · have hn := numL_itoa hr.1 hr.2
    refine .cons (tok_num _ R hn hR) ?_ hws
    have := itoa_ne t.n
    simp [this]
  split
  · rename_i hk
    rw [hk] at h2
    unfold nodeOk at h2
    rw [if_neg (by omega), if_neg (by omega), if_pos rfl, Bool.and_eq_true] at h2
    refine .cons (tok_num _ R h2.1 hR) ?_ hws
    have := numL_ne h2.1
    simp [this]
  split
  · rename_i hk
    refine .cons (tok_str _ R ?_) (by simp [quoteS]) hws
    rcases hk with hk | hk
    · rw [hk] at h2
      unfold nodeOk at h2
      rwa [if_neg (by omega), if_neg (by omega), if_neg (by omega), if_pos rfl] at h2
    · rw [hk] at h2
      unfold nodeOk at h2
      rw [if_neg (by omega), if_neg (by omega), if_neg (by omega), if_neg (by omega), if_pos rfl] at h2
      exact stamp_str h2
  split
  · omega
  · unfold nodeOk at h2
    rw [if_neg (by omega), if_neg (by omega), if_neg (by omega), if_neg (by omega), if_neg (by omega), decide_eq_true_eq] at h2
    omega
theorem bless_iff : ∀ (x y : Str), Op.bytesLess x y = true ↔ x < y
  | x, [] => by cases x <;> simp [Op.bytesLess]
  | [], b :: y => by simp [Op.bytesLess]
  | a :: x, b :: y => by
    have ih := bless_iff x y
    rw [List.cons_lt_cons_iff, Op.bytesLess, Bool.or_eq_true, Bool.and_eq_true, decide_eq_true_eq, beq_iff_eq, ih]
theorem leqS_iff (x y : Str) : leqS x y = true ↔ x ≤ y := by
  unfold leqS
  rw [Bool.or_eq_true, bless_iff, decide_eq_true_eq]
  constructor
  · rintro (h | rfl)
    · exact List.le_of_lt h
    · exact List.le_refl _
  · intro h
    by_cases e : x = y
    · exact .inr e
    · left
      by_cases hl : x < y
      · exact hl
      · exact absurd (List.le_antisymm h (List.not_lt.1 hl)) e
def Up (m : List (Str × Tree)) : Prop := m.Pairwise fun p q => p.1 < q.1
theorem sortP_up {m : List (Str × Tree)} (h : Up m) : sortP m = m := by
  induction m with
  | nil => rfl
  | cons p m ih =>
    obtain ⟨h1, h2⟩ := List.pairwise_cons.1 h
    rw [sortP, ih h2]
    cases m with
    | nil => rfl
    | cons q m => rw [insK, if_pos ((leqS_iff _ _).2 (List.le_of_lt (h1 q (by simp))))]
theorem plainM_up : ∀ (m : List (Str × Tree)) (o : Option Str), plainM o m = true → Up m ∧ (∀ p ∈ m, ∀ k, o = some k → k < p.1)
  | [], o, _ => ⟨List.Pairwise.nil, by simp⟩
  | (k, t) :: m, o, h => by
    simp only [plainM, plainP, Bool.and_eq_true] at h
    obtain ⟨h1, h2⟩ := plainM_up m (some k) h.2
    have h3 : ∀ j, o = some j → j < k := by
      intro j hj
      subst hj
      have h3 := h.1.2.1
      simp only [Bool.not_eq_true', ← Bool.not_eq_true, leqS_iff] at h3
      exact List.not_le.1 h3
    refine ⟨List.pairwise_cons.2 ⟨fun p hp => h2 p hp k rfl, h1⟩, fun p hp j hj => ?_⟩
    rcases List.mem_cons.1 hp with rfl | hp
    · exact h3 j hj
    · exact List.lt_trans (h3 j hj) (h2 p hp k rfl)
mutual
def unst : Tree → Tree
  | .mk k n s l m => .mk (if k = 7 then 4 else k) n s (unstL l) (unstM m)
def unstL : List Tree → List Tree
  | [] => []
  | t :: l => unst t :: unstL l
def unstM : List (Str × Tree) → List (Str × Tree)
  | [] => []
  | p :: m => unstP p :: unstM m
def unstP : Str × Tree → Str × Tree
  | (k, t) => (k, unst t)
end
theorem unst_eq (t : Tree) : unst t = .mk (if t.kind = 7 then 4 else t.kind) t.n t.s (unstL t.l) (unstM t.m) := by cases t; rw [unst]; rfl
theorem unstM_keys : ∀ m : List (Str × Tree), (unstM m).map (·.1) = m.map (·.1)
  | [] => rfl
  | (k, t) :: m => by rw [unstM, unstP, List.map_cons, List.map_cons, unstM_keys m]
theorem unstM_up {m : List (Str × Tree)} (h : Up m) : Up (unstM m) := by
  have e := unstM_keys m
  unfold Up at h ⊢
  have h' : (m.map (·.1)).Pairwise (· < ·) := List.pairwise_map.2 h
  rw [← e] at h'
  exact List.pairwise_map.1 h'
theorem wd_cons {ws : List Wd} {i : Nat} {k : Int} {s : Str} {r : List (Int × Str)} (h : (ws.drop i).map kp = (k, s) :: r) : (wdAt ws i).k = k ∧ (wdAt ws i).s = s ∧ (ws.drop (i + 1)).map kp = r := by
  cases hd : ws.drop i with
  | nil => rw [hd] at h; simp at h
  | cons w l =>
    rw [hd, List.map_cons] at h
    injection h with h1 h2
    have h3 : ws[i]? = some w := by
      have := congrArg (·[0]?) hd
      simpa using this
    have h4 : ws.drop (i + 1) = l := by rw [← List.drop_drop, hd]; rfl
    unfold wdAt
    rw [h3, h4]
    unfold kp at h1
    injection h1 with h5 h6
    exact ⟨h5, h6, h2⟩
theorem wd_app {ws : List Wd} : ∀ {u r : List (Int × Str)} {i : Nat}, (ws.drop i).map kp = u ++ r → (ws.drop (i + u.length)).map kp = r
  | [], r, i, h => h
  | (k, s) :: u, r, i, h => by
    have := wd_app (u := u) (wd_cons h).2.2
    rw [show i + ((k, s) :: u).length = i + 1 + u.length by simp; omega]
    exact this
theorem isS_at {ws : List Wd} {i : Nat} {k : Int} {s : Str} {r : List (Int × Str)} (h : (ws.drop i).map kp = (k, s) :: r) (x : Str) : isS (wdAt ws i) x = decide (k = 1 ∧ s = x) := by
  obtain ⟨h1, h2, _⟩ := wd_cons h
  unfold isS
  rw [h1, h2]
theorem words_head {t : Tree} : ∃ k s r, wordsT t = (k, s) :: r ∧ ¬ k = 0 ∧ (k = 1 → s = [123] ∨ s = [91]) := by
  rw [wordsT_eq]
  repeat' split
  all_goals refine ⟨_, _, _, rfl, by decide, fun h => ?_⟩
  all_goals first
    | exact absurd h (by decide)
    | exact .inl rfl
    | exact .inr rfl
def ReadAt (t : Tree) : Prop := ∀ (q : Nat) (ws : List Wd) (d : Int) (i : Nat) (n : Int) (rest : List (Int × Str)), goodT t = true → (ws.drop i).map kp = wordsT t ++ rest → 3 * (wordsT t).length ≤ q →
  n + t.nodes ≤ 4096 → d + t.depth ≤ 33 → valR q ws d i n = .ok (unst t, i + (wordsT t).length, n + t.nodes)
theorem read_items (ws : List Wd) (d : Int) (rest : List (Int × Str)) : ∀ (l : List Tree) (x : Tree) (acc : List Tree) (q i : Nat) (n : Int), (∀ y ∈ x :: l, ReadAt y ∧ goodT y = true ∧ d + 1 + y.depth ≤ 33) →
    (ws.drop i).map kp = wordsT x ++ (wordsL false l ++ (1, [93]) :: rest) → 3 * ((wordsT x).length + (wordsL false l).length) + 1 ≤ q → n + x.nodes + Tree.nodesL l ≤ 4096 →
    itemsR q ws d i n acc = .ok (.mk 5 0 [] (acc ++ unst x :: unstL l) [], i + (wordsT x).length + (wordsL false l).length + 1, n + x.nodes + Tree.nodesL l)
  | [], x, acc, q, i, n, hy, h, hq, hn => by
    obtain ⟨h1, h2, h3⟩ := hy x (by simp)
    obtain ⟨q, rfl⟩ : ∃ p, q = p + 1 := ⟨q - 1, by omega⟩
    simp only [wordsL, List.nil_append, List.length_nil, Tree.nodesL] at h hq hn ⊢
    rw [itemsR, h1 q ws (d + 1) i n _ h2 h (by omega) (by omega) h3]
    have hz := wd_app h
    simp only []
    rw [isS_at hz, if_pos (by decide)]
    simp [unstL]
  | y :: l, x, acc, q, i, n, hy, h, hq, hn => by
    obtain ⟨h1, h2, h3⟩ := hy x (by simp)
    obtain ⟨q, rfl⟩ : ∃ p, q = p + 1 := ⟨q - 1, by omega⟩
    rw [wordsL, if_neg (by decide)] at h hq ⊢
    simp only [List.append_assoc, List.cons_append, List.nil_append, List.length_append, List.length_cons, List.length_nil, Tree.nodesL] at h hq hn ⊢
    rw [itemsR, h1 q ws (d + 1) i n _ h2 h (by omega) (by omega) h3]
    have hz := wd_app h
    have hc := (wd_cons hz).2.2
    simp only []
    rw [isS_at hz, if_neg (by decide), isS_at hz, if_pos (by decide)]
    rw [read_items ws d rest l y (acc ++ [unst x]) q _ _ (fun z hz => hy z (by simp at hz ⊢; exact .inr hz)) hc (by omega) (by omega)]
    refine congrArg Except.ok (Prod.ext ?_ (Prod.ext ?_ ?_))
    · simp [unstL]
    · simp only []; omega
    · simp only []; omega
theorem hasK_no {acc : List (Str × Tree)} {k : Str} (h : ∀ p ∈ acc, p.1 ≠ k) : hasK acc k = false := by
  unfold hasK
  rw [List.any_eq_false]
  intro p hp
  simpa using h p hp
theorem read_entries (ws : List Wd) (d : Int) (rest : List (Int × Str)) : ∀ (m : List (Str × Tree)) (k : Str) (x : Tree) (acc : List (Str × Tree)) (q i : Nat) (n : Int), (∀ y ∈ (k, x) :: m, ReadAt y.2 ∧ goodT y.2 = true ∧ d + 1 + y.2.depth ≤ 33) →
    Up (acc ++ (k, x) :: m) → (ws.drop i).map kp = (2, k) :: (1, [58]) :: (wordsT x ++ (wordsM false m ++ (1, [125]) :: rest)) → 3 * ((wordsT x).length + (wordsM false m).length + 2) + 1 ≤ q → n + x.nodes + Tree.nodesM m ≤ 4096 →
    ∀ acc' : List (Str × Tree), acc'.map (·.1) = acc.map (·.1) →
    entriesR q ws d i n acc' = .ok (.mk 6 0 [] [] (sortP (acc' ++ (k, unst x) :: unstM m)), i + 2 + (wordsT x).length + (wordsM false m).length + 1, n + x.nodes + Tree.nodesM m)
  | [], k, x, acc, q, i, n, hy, hup, h, hq, hn, acc', he => by
    obtain ⟨h1, h2, h3⟩ : ReadAt x ∧ goodT x = true ∧ d + 1 + x.depth ≤ 33 := hy (k, x) (by simp)
    obtain ⟨q, rfl⟩ : ∃ p, q = p + 1 := ⟨q - 1, by omega⟩
    simp only [wordsM, List.nil_append, List.length_nil, Tree.nodesM] at h hq hn ⊢
    obtain ⟨w1, w2, w3⟩ := wd_cons h
    have w4 := (wd_cons w3).2.2
    have hno : hasK acc' k = false := hasK_no fun p hp => by
      have : p.1 ∈ acc.map (·.1) := he ▸ List.mem_map_of_mem hp
      obtain ⟨p', hp', e⟩ := List.mem_map.1 this
      rw [← e]
      have := (List.pairwise_append.1 hup).2.2 p' hp' (k, x) (by simp)
      exact fun e => absurd this (by rw [e]; exact List.lt_irrefl _)
    rw [entriesR, w1, if_neg (by decide), w2, hno, if_neg (by decide), isS_at w3, if_neg (by decide), h1 q ws (d + 1) (i + 2) n _ h2 w4 (by omega) (by omega) h3]
    have hz := wd_app w4
    simp only []
    rw [show i + 2 + (wordsT x).length = i + 1 + 1 + (wordsT x).length by omega, isS_at hz, if_pos (by decide)]
    simp [unstM]
  | (k', y) :: m, k, x, acc, q, i, n, hy, hup, h, hq, hn, acc', he => by
    obtain ⟨h1, h2, h3⟩ : ReadAt x ∧ goodT x = true ∧ d + 1 + x.depth ≤ 33 := hy (k, x) (by simp)
    obtain ⟨q, rfl⟩ : ∃ p, q = p + 1 := ⟨q - 1, by omega⟩
    rw [wordsM, if_neg (by decide), wordsP] at h hq ⊢
    simp only [List.append_assoc, List.cons_append, List.nil_append, List.length_append, List.length_cons, List.length_nil, Tree.nodesM, Tree.nodesP] at h hq hn ⊢
    obtain ⟨w1, w2, w3⟩ := wd_cons h
    have w4 := (wd_cons w3).2.2
    have hno : hasK acc' k = false := hasK_no fun p hp => by
      have : p.1 ∈ acc.map (·.1) := he ▸ List.mem_map_of_mem hp
      obtain ⟨p', hp', e⟩ := List.mem_map.1 this
      rw [← e]
      have := (List.pairwise_append.1 hup).2.2 p' hp' (k, x) (by simp)
      exact fun e => absurd this (by rw [e]; exact List.lt_irrefl _)
    rw [entriesR, w1, if_neg (by decide), w2, hno, if_neg (by decide), isS_at w3, if_neg (by decide), h1 q ws (d + 1) (i + 2) n _ h2 w4 (by omega) (by omega) h3]
    have hz := wd_app w4
    have hc := (wd_cons hz).2.2
    simp only []
    rw [show i + 2 + (wordsT x).length = i + 1 + 1 + (wordsT x).length by omega, isS_at hz, if_neg (by decide), isS_at hz, if_pos (by decide)]
    rw [read_entries ws d rest m k' y (acc ++ [(k, x)]) q _ _ (fun z hz => hy z (by simp at hz ⊢; exact .inr hz)) (by simpa using hup) hc (by omega) (by omega) (acc' ++ [(k, unst x)]) (by simp [he])]
    refine congrArg Except.ok (Prod.ext ?_ (Prod.ext ?_ ?_))
    · simp [unstM, unstP]
    · simp only []; omega
    · simp only []; omega
theorem depthL_mem {l : List Tree} {t : Tree} (h : t ∈ l) : t.depth ≤ Tree.depthL l := by
  induction l with
  | nil => simp at h
  | cons x l ih =>
    rw [Tree.depthL]
    rcases List.mem_cons.1 h with rfl | h
    · omega
    · have := ih h; omega
theorem depthM_mem {l : List (Str × Tree)} {t : Str × Tree} (h : t ∈ l) : t.2.depth ≤ Tree.depthM l := by
  induction l with
  | nil => simp at h
  | cons x l ih =>
    rw [Tree.depthM]
    rcases List.mem_cons.1 h with rfl | h
    · obtain ⟨k, t⟩ := t; rw [Tree.depthP]; simp only []; omega
    · have := ih h; omega
theorem nodes_eq (t : Tree) : t.nodes = 1 + Tree.nodesL t.l + Tree.nodesM t.m := by cases t; rw [Tree.nodes]; rfl
theorem depth_eq (t : Tree) : t.depth = 1 + max (Tree.depthL t.l) (Tree.depthM t.m) := by cases t; rw [Tree.depth]; rfl
theorem goodT_up {t : Tree} (h : goodT t = true) : Up t.m := by
  unfold goodT at h
  rw [Bool.and_eq_true, plainT_eq] at h
  have h1 := h.1
  split at h1
  · cases h1
  · rw [Bool.and_eq_true, Bool.and_eq_true] at h1
    exact (plainM_up t.m none h1.2.2).1
theorem read_tree : ∀ t : Tree, ReadAt t := by
  refine Tree.ind fun t hl hm q ws d i n rest hg h hq hn hd => ?_
  obtain ⟨h1, h2, hr, gl, gm⟩ := goodT_spec hg
  obtain ⟨fn, fs, fl, fm⟩ := own_fields h1
  have hup := goodT_up hg
  rw [nodes_eq] at hn ⊢
  rw [depth_eq] at hd
  rw [wordsT_eq] at h hq ⊢
  rw [unst_eq]
  -- a value of one word
  have one : ∀ (k : Int) (s : Str), (ws.drop i).map kp = (k, s) :: rest → ¬ k = 0 → ¬ k = 1 → 1 ≤ q → t.l = [] → t.m = [] → plainW ⟨k, s, (wdAt ws i).a⟩ = .mk (if t.kind = 7 then 4 else t.kind) t.n t.s (unstL t.l) (unstM t.m) →
      valR q ws d i n = .ok (.mk (if t.kind = 7 then 4 else t.kind) t.n t.s (unstL t.l) (unstM t.m), i + 1, n + ((1 + Tree.nodesL t.l + Tree.nodesM t.m : Nat) : Int)) := by
    intro k s h hk0 hk1 hq e1 e2 e3
    obtain ⟨q, rfl⟩ : ∃ p, q = p + 1 := ⟨q - 1, by omega⟩
    obtain ⟨w1, w2, _⟩ := wd_cons h
    have hw : wdAt ws i = ⟨k, s, (wdAt ws i).a⟩ := by
      generalize wdAt ws i = w at w1 w2 ⊢
      obtain ⟨k', s', a'⟩ := w
      simp only [] at w1 w2
      rw [w1, w2]
    rw [valR, w1, w2, if_neg (by omega), if_neg (by omega), isS_at h, if_neg (by simp [hk1]), isS_at h, if_neg (by simp [hk1]), hw, e3]
    rw [e1, e2]
    simp [Tree.nodesL, Tree.nodesM]
  have lm : t.kind ≠ 5 → t.kind ≠ 6 → t.l = [] ∧ t.m = [] := fun h5 h6 => ⟨fl h5, fm h6⟩
  split at h
  · rename_i hk
    rw [if_pos hk] at hq ⊢
    refine one _ _ h (by decide) (by decide) (by simp at hq; omega) (lm (by omega) (by omega)).1 (lm (by omega) (by omega)).2 ?_
    rw [(lm (by omega) (by omega)).1, (lm (by omega) (by omega)).2, fn (by omega) (by omega), fs (by omega) (by omega) (by omega), hk]
    rfl
  rename_i k0
  rw [if_neg k0] at hq ⊢
  split at h
  · rename_i hk
    rw [if_pos hk] at hq ⊢
    have hz : t.n = 0 ∨ t.n = 1 := by
      rw [hk] at h2
      unfold nodeOk at h2
      rw [if_neg (by omega), if_pos rfl, decide_eq_true_eq] at h2
      exact h2
    refine one _ _ h (by decide) (by decide) (by simp at hq; omega) (lm (by omega) (by omega)).1 (lm (by omega) (by omega)).2 ?_
    rw [(lm (by omega) (by omega)).1, (lm (by omega) (by omega)).2, fs (by omega) (by omega) (by omega), hk]
    rcases hz with hz | hz <;> rw [hz] <;> rfl
  rename_i k1
  rw [if_neg k1] at hq ⊢
  split at h
  · rename_i hk
    rw [if_pos hk] at hq ⊢
    have hnum := numL_itoa hr.1 hr.2
    have hri : refIntL (Lib.itoa t.n) = (t.n, true) := by
      have h3 := refInt_itoa hr hnum
      have h4 := decIntL_eq (Lib.itoa t.n)
      have hp := parse_itoa hr.1 hr.2
      unfold decIntL at h4
      split at h4
      · rw [← h4] at h3; cases h3
      · rw [hp] at h4; exact h4.symm
    refine one _ _ h (by decide) (by decide) (by simp at hq; omega) (lm (by omega) (by omega)).1 (lm (by omega) (by omega)).2 ?_
    rw [(lm (by omega) (by omega)).1, (lm (by omega) (by omega)).2, fs (by omega) (by omega) (by omega), hk]
    unfold plainW
    rw [if_neg (by show ¬ (3 : Int) = 2; decide), if_pos rfl, hri, if_pos rfl]
    rfl
  rename_i k2
  rw [if_neg k2] at hq ⊢
  split at h
  · rename_i hk
    rw [if_pos hk] at hq ⊢
    rw [hk] at h2
    unfold nodeOk at h2
    rw [if_neg (by omega), if_neg (by omega), if_pos rfl, Bool.and_eq_true] at h2
    have h3 : (refIntL t.s).2 = false := by simpa using h2.2
    refine one _ _ h (by decide) (by decide) (by simp at hq; omega) (lm (by omega) (by omega)).1 (lm (by omega) (by omega)).2 ?_
    rw [(lm (by omega) (by omega)).1, (lm (by omega) (by omega)).2, fn (by omega) (by omega), hk]
    unfold plainW
    rw [if_neg (by show ¬ (3 : Int) = 2; decide), if_pos rfl, if_neg (by show ¬ (refIntL t.s).2 = true; rw [h3]; decide)]
    rfl
  rename_i k3
  rw [if_neg k3] at hq ⊢
  split at h
  · rename_i hk
    rw [if_pos hk] at hq ⊢
    refine one _ _ h (by decide) (by decide) (by simp at hq; omega) (lm (by omega) (by omega)).1 (lm (by omega) (by omega)).2 ?_
    rw [(lm (by omega) (by omega)).1, (lm (by omega) (by omega)).2, fn (by omega) (by omega)]
    unfold plainW
    rw [if_pos rfl]
    rcases hk with hk | hk <;> rw [hk] <;> rfl
  rename_i k4
  rw [if_neg k4] at hq ⊢
  have hnode : t.kind = 5 ∨ t.kind = 6 := by
    unfold nodeOk at h2
    rw [if_neg (by omega), if_neg (by omega), if_neg (by omega), if_neg (by omega), if_neg (by omega), decide_eq_true_eq] at h2
    exact h2
  split at h
  · rename_i hk
    rw [if_pos hk] at hq ⊢
    rw [List.cons_append, List.append_assoc] at h
    simp only [List.length_cons, List.length_append, List.length_nil] at hq ⊢
    obtain ⟨q, rfl⟩ : ∃ p, q = p + 3 := ⟨q - 3, by omega⟩
    obtain ⟨w1, w2, w3⟩ := wd_cons h
    rw [valR, w1, w2, if_neg (by decide), if_neg (by omega), isS_at h, if_neg (by decide), isS_at h, if_pos (by decide), pairsR, fl (by omega), fs (by omega) (by omega) (by omega), fn (by omega) (by omega), hk]
    cases hm' : t.m with
    | nil =>
      rw [hm'] at w3
      rw [isS_at w3, if_pos (by decide)]
      simp [wordsM, unstL, unstM, Tree.nodesL, Tree.nodesM]
    | cons p m =>
      obtain ⟨k, x⟩ := p
      rw [hm'] at w3 hn hq hd hup
      rw [wordsM, if_pos rfl, wordsP] at w3 hq
      simp only [List.nil_append, List.append_assoc, List.cons_append, List.length_cons, List.length_append, Tree.nodesM, Tree.nodesP] at w3 hq hn
      rw [isS_at w3, if_neg (by simp)]
      have := read_entries ws d rest m k x [] (q + 1) (i + 1) (n + 1) (fun y hy => ⟨hm y (hm' ▸ hy), (gm y (hm' ▸ hy)).2, by have := depthM_mem hy; omega⟩) hup w3 (by omega) (by rw [fl (by omega)] at hn; simp only [Tree.nodesL] at hn; omega) [] rfl
      have hs : sortP ((k, unst x) :: unstM m) = (k, unst x) :: unstM m := sortP_up (unstM_up hup)
      rw [this, List.nil_append, hs]
      refine congrArg Except.ok (Prod.ext ?_ (Prod.ext ?_ ?_))
      · simp [unstM, unstP, unstL]
      · simp only [wordsM, wordsP, if_true, List.nil_append, List.length_append, List.length_cons]; omega
      · simp only [Tree.nodesL, Tree.nodesM, Tree.nodesP]; omega
  · rename_i hk
    rw [if_neg hk] at hq ⊢
    have hk5 : t.kind = 5 := by omega
    rw [List.cons_append, List.append_assoc] at h
    simp only [List.length_cons, List.length_append, List.length_nil] at hq ⊢
    obtain ⟨q, rfl⟩ : ∃ p, q = p + 3 := ⟨q - 3, by omega⟩
    obtain ⟨w1, w2, w3⟩ := wd_cons h
    rw [valR, w1, w2, if_neg (by decide), if_neg (by omega), isS_at h, if_pos (by decide), listR, fm (by omega), fs (by omega) (by omega) (by omega), fn (by omega) (by omega), hk5]
    cases hl' : t.l with
    | nil =>
      rw [hl'] at w3
      rw [isS_at w3, if_pos (by decide)]
      simp [wordsL, unstL, unstM, Tree.nodesL, Tree.nodesM]
    | cons x l =>
      rw [hl'] at w3 hn hq hd
      rw [wordsL, if_pos rfl] at w3 hq
      simp only [List.nil_append, List.append_assoc, List.length_append, Tree.nodesL] at w3 hq hn
      obtain ⟨k, s, r, e, _, hs⟩ := words_head (t := x)
      rw [isS_at (by rw [w3, e]; rfl), if_neg (by
        rw [decide_eq_true_eq]
        rintro ⟨a, b⟩
        rcases hs a with h | h <;> rw [h] at b <;> exact absurd b (by decide))]
      have := read_items ws d rest l x [] (q + 1) (i + 1) (n + 1) (fun y hy => ⟨hl y (hl' ▸ hy), gl y (hl' ▸ hy), by have := depthL_mem hy; omega⟩) w3 (by omega) (by rw [fm (by omega)] at hn; simp only [Tree.nodesM] at hn; omega)
      rw [this, List.nil_append]
      refine congrArg Except.ok (Prod.ext ?_ (Prod.ext ?_ ?_))
      · simp [unstL, unstM]
      · simp only [wordsL, if_true, List.nil_append, List.length_append]; omega
      · simp only [Tree.nodesL, Tree.nodesM]; omega
end Go.Am
end
