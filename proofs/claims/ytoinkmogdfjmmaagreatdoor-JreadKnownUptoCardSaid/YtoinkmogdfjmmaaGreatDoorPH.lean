/-
What was cut from a text are words that the reader may go through.
-/
import Derived.Test.YtoinkmogdfjmmaaGreatDoorPG
import Derived.Test.YtoinkmogdfjmmaaGreatDoorPF
import Derived.Test.YtoinkmogdfjmmaaGreatDoorPE
import Derived.Sort.KeysCollected
import Derived.Shelf.SlIter.Nil
import Derived.Shelf.SortM.Plain
import Derived.Shelf.SortM.SortNone
import Derived.Test.YtoinkmogdfjmmaaGreatDoorProg
import Derived.Recover

section
namespace Go.Am
open Go
theorem wordL_word (t : Str) (a : Nat) (h : (wordL t a).2.2.1 = 0) : (wordL t a).1.s.length ≤ max 4096 t.length ∧ 1 ≤ (wordL t a).1.k ∧ (wordL t a).1.k ≤ 4 ∧
    ((wordL t a).1.k = 4 → (wordL t a).1.s = [116, 114, 117, 101] ∨ (wordL t a).1.s = [102, 97, 108, 115, 101] ∨ (wordL t a).1.s = [110, 117, 108, 108]) := by
  have hd : (t.drop a).length ≤ t.length := by rw [List.length_drop]; omega
  have ht : ∀ n : Nat, ((t.drop a).take n).length ≤ t.length := fun n => by rw [List.length_take]; omega
  unfold wordL at h ⊢
  split
  · rename_i h1
    have := ht 1
    exact ⟨by show ((t.drop a).take 1).length ≤ _; omega, by show (1 : Int) ≤ 1; decide, by show (1 : Int) ≤ 4; decide, fun e => absurd e (by show ¬ (1 : Int) = 4; decide)⟩
  rename_i h1
  rw [if_neg h1] at h
  split
  · rename_i h2
    rw [if_pos h2] at h
    split
    · rename_i h3; rw [if_pos h3] at h; simp at h
    rename_i h3
    rw [if_neg h3] at h
    split
    · rename_i h4; rw [if_pos h4] at h; simp at h
    rename_i h4
    exact ⟨by show (unquoteL t a).1.length ≤ _; omega, by show (1 : Int) ≤ 2; decide, by show (2 : Int) ≤ 4; decide, fun e => absurd e (by show ¬ (2 : Int) = 4; decide)⟩
  rename_i h2
  rw [if_neg h2] at h
  split
  · rename_i h3
    rw [if_pos h3] at h
    split
    · rename_i h4; rw [if_pos h4] at h; simp at h
    rename_i h4
    refine ⟨by have := ht (whileL (t.drop a) lowers); show ((t.drop a).take _).length ≤ _; omega, by show (1 : Int) ≤ 4; decide, by show (4 : Int) ≤ 4; decide, fun _ => ?_⟩
    show (t.drop a).take _ = _ ∨ (t.drop a).take _ = _ ∨ (t.drop a).take _ = _
    by_cases g1 : (t.drop a).take (whileL (t.drop a) lowers) = [116, 114, 117, 101]
    · exact .inl g1
    · by_cases g2 : (t.drop a).take (whileL (t.drop a) lowers) = [102, 97, 108, 115, 101]
      · exact .inr (.inl g2)
      · by_cases g3 : (t.drop a).take (whileL (t.drop a) lowers) = [110, 117, 108, 108]
        · exact .inr (.inr g3)
        · exact absurd ⟨g1, g2, g3⟩ h4
  rename_i h3
  rw [if_neg h3] at h
  split
  · rename_i h4; rw [if_pos h4] at h; simp at h
  rename_i h4
  rw [if_neg h4] at h
  split
  · rename_i h5; rw [if_pos h5] at h; exact absurd h h5
  have := ht (whileL (t.drop a) numBs)
  exact ⟨by show ((t.drop a).take _).length ≤ _; omega, by show (1 : Int) ≤ 3; decide, by show (3 : Int) ≤ 4; decide, fun e => absurd e (by show ¬ (3 : Int) = 4; decide)⟩
theorem wordL_a (t : Str) (a : Nat) : (wordL t a).1.a = a ∨ (wordL t a).1.a = 0 := by
  unfold wordL
  repeat' split
  all_goals first
    | exact .inl rfl
    | exact .inr rfl
theorem cutL_pos : ∀ (q : Nat) (t : Str) (a : Nat) (acc : List Wd), (∀ w ∈ acc, 0 ≤ w.a ∧ w.a ≤ t.length) → ∀ w ∈ (cutL q t a acc).1, 0 ≤ w.a ∧ w.a ≤ t.length
  | 0, t, a, acc, h => by rw [cutL]; exact h
  | q + 1, t, a, acc, h => by
    rw [cutL]
    split
    · exact h
    rename_i hl
    split
    · simp
    · refine cutL_pos q t _ _ fun w hw' => ?_
      rcases List.mem_append.1 hw' with hw' | hw'
      · exact h w hw'
      · have := wordL_a t a
        rw [List.mem_singleton.1 hw']
        omega
theorem cutL_words : ∀ (q : Nat) (t : Str) (a : Nat) (acc : List Wd), t.length ≤ 65536 →
    (∀ w ∈ acc, w.s.length ≤ 65536 ∧ 1 ≤ w.k ∧ w.k ≤ 4 ∧ (w.k = 4 → w.s = [116, 114, 117, 101] ∨ w.s = [102, 97, 108, 115, 101] ∨ w.s = [110, 117, 108, 108])) →
    ∀ w ∈ (cutL q t a acc).1, w.s.length ≤ 65536 ∧ 1 ≤ w.k ∧ w.k ≤ 4 ∧ (w.k = 4 → w.s = [116, 114, 117, 101] ∨ w.s = [102, 97, 108, 115, 101] ∨ w.s = [110, 117, 108, 108])
  | 0, t, a, acc, _, h => by rw [cutL]; exact h
  | q + 1, t, a, acc, ht, h => by
    rw [cutL]
    split
    · exact h
    split
    · simp
    rename_i hw
    refine cutL_words q t _ _ ht fun w hw' => ?_
    rcases List.mem_append.1 hw' with hw' | hw'
    · exact h w hw'
    · have := wordL_word t a (by simpa using hw)
      rw [List.mem_singleton.1 hw']
      exact ⟨by omega, this.2⟩
theorem cutT_ok (t : Str) (h : (cutT t).2.1 = 0) : WsOk (cutT t).1 := by
  unfold cutT at h ⊢
  split
  · rename_i h1; rw [if_pos h1] at h; exact absurd h h1
  rename_i h1
  rw [if_neg h1] at h
  split
  · rename_i h2; rw [if_pos h2] at h; exact absurd h h2
  have hl : t.length ≤ 65536 := by
    unfold judgeS at h1
    split at h1
    · simp at h1
    · omega
  have hw := whileL_le t blanksB
  have h3 := cutL_words (t.length + 1) t (whileL t blanksB) [] hl (by simp)
  have h5 := cutL_pos (t.length + 1) t (whileL t blanksB) [] (by simp)
  have h4 := cutL_len (t.length + 1) t (whileL t blanksB) [] hw (by simp)
  generalize (cutL (t.length + 1) t (whileL t blanksB) []).1 = l at h3 h4 h5 ⊢
  refine ⟨by simp; omega, fun i hi hk => ?_, fun w hw => ?_, fun w hw => ?_⟩
  · rw [List.length_append, List.length_singleton] at hi ⊢
    by_cases e : i = l.length
    · subst e
      refine absurd ?_ hk
      simp [wdAt]
    · omega
  · rcases List.mem_append.1 hw with hw | hw
    · have := h3 w hw
      exact ⟨this.1, by omega, this.2.2⟩
    · rw [List.mem_singleton.1 hw]
      exact ⟨by simp, by show (0 : Int) ≤ 0; decide, by show (0 : Int) ≤ 4; decide, fun e => absurd e (by show ¬ (0 : Int) = 4; decide)⟩
  · rcases List.mem_append.1 hw with hw | hw
    · have := h5 w hw
      omega
    · rw [List.mem_singleton.1 hw]
      exact ⟨by show (0 : Int) ≤ t.length; omega, by show (t.length : Int) ≤ 65536; omega⟩
theorem cutT_pos (t : Str) (h : (cutT t).2.1 = 0) : 0 < (cutT t).1.length := by
  unfold cutT at h ⊢
  split
  · rename_i h1; rw [if_pos h1] at h; exact absurd h h1
  rename_i h1
  rw [if_neg h1] at h
  split
  · rename_i h2; rw [if_pos h2] at h; exact absurd h h2
  simp
end Go.Am
end

section
namespace Go.Proofs.YtoinkmogdfjmmaaGreatDoor
open Go Go.Am Go.RowKit
set_option maxRecDepth 100000
theorem HLe.dead1 (o : HO) : HLe [o] [.dead] := ⟨fun n B L w _ => by
    rcases n with _ | n
    · exact .dead
    · exact .dead, fun n h => by
    rcases n with _ | n
    · exact h.elim
    · exact h.elim, rfl⟩
theorem CLe.dead {v : V} {o : HO} : CLe ⟨.pan v, [o], []⟩ ⟨.pan v, [.dead], []⟩ := ⟨OutLe.refl _, HLe.dead1 o, fun _ h => h⟩
theorem reader_failD (ws : List Wd) (i : Nat) (n e : Int) (w : Wd) (h : ws[i]? = some w) (hl : ws.length ≤ 1073741824) : AbsCall PP GG F.jread_reader_fail [.ptr 0 0, .p (.int .i64 e)] [jrO ws i n] ⟨.pan (wrongP e w.a), [.dead], []⟩ :=
  (reader_fail ws i n e w h hl).le CLe.dead
theorem reader_wantD (ws : List Wd) (i : Nat) (n : Int) (w : Wd) (h : ws[i]? = some w) (hl : ws.length ≤ 1073741824) (s : Str) (hq : ¬ (w.k = 1 ∧ w.s = s)) : AbsCall PP GG F.jread_reader_want [.ptr 0 0, .p (.str s)] [jrO ws i n] ⟨.pan (wrongP 4 w.a), [.dead], []⟩ :=
  (reader_want_no ws i n w h hl s hq).le CLe.dead
def resR (ws : List Wd) : RR → CR
  | .ok (t, j, m) => ⟨.ret (.p t.enc), [jrO ws j m], []⟩
  | .error (e, a) => ⟨.pan (wrongP e a), [.dead], []⟩
def ValAt (ws : List Wd) (q : Nat) : Prop := ∀ (d : Int) (i : Nat) (n : Int), i < ws.length → 3 * (ws.length - i) + 1 ≤ q → 0 ≤ d → d ≤ 33 → 0 ≤ n → n ≤ 4096 →
  AbsCall PP GG F.jread_reader_value [.ptr 0 0, .p (.int .i64 d)] [jrO ws i n] (resR ws (valR q ws d i n))
def ListAt (ws : List Wd) (q : Nat) : Prop := ∀ (d : Int) (i : Nat) (n : Int), i < ws.length → 3 * (ws.length - i) + 3 ≤ q → 0 ≤ d → d ≤ 32 → 0 ≤ n → n ≤ 4096 →
  AbsCall PP GG F.jread_reader_list [.ptr 0 0, .p (.int .i64 d)] [jrO ws i n] (resR ws (listR q ws d i n))
def PairsAt (ws : List Wd) (q : Nat) : Prop := ∀ (d : Int) (i : Nat) (n : Int), i < ws.length → 3 * (ws.length - i) + 3 ≤ q → 0 ≤ d → d ≤ 32 → 0 ≤ n → n ≤ 4096 →
  AbsCall PP GG F.jread_reader_pairs [.ptr 0 0, .p (.int .i64 d)] [jrO ws i n] (resR ws (pairsR q ws d i n))
theorem tree_nils (k n : Int) (s : Str) : VLe (.p (.agg [.int .i64 k, .int .i64 n, .str s, .nils, .nils])) (.p (Tree.mk k n s [] []).enc) :=
  (PLe.agg (show LeL [.int .i64 k, .int .i64 n, .str s, .nils, .nils] [.int .i64 k, .int .i64 n, .str s, .lst false [], .lst false []] from ⟨PLe.refl _, PLe.refl _, PLe.refl _, PLe.nils false, PLe.nils false, trivial⟩)).p
theorem isS_no {w : Wd} (x : Str) (h : ¬ w.k = 1) : isS w x = false := decide_eq_false fun e => h e.1
theorem value_end (ws : List Wd) (hl : ws.length ≤ 1073741824) (d : Int) (hd0 : 0 ≤ d) (hd1 : d ≤ 33) (i : Nat) (hi : i ≤ 1073741824) (n : Int) (hn0 : 0 ≤ n) (hn1 : n ≤ 4096) (a : Int) (s : Str) (hat : ws[i]? = some ⟨0, s, a⟩) : AbsCall PP GG F.jread_reader_value [.ptr 0 0, .p (.int .i64 d)] [jrO ws i n] ⟨.pan (wrongP 4 a), [.dead], []⟩ := by
  have hW := reader_word ws i n _ hat hl
  have hF1 := reader_failD ws i n 4 _ hat hl
  refine absCall_of (pol := polG) mixP F.jread_reader_value_is ?_
  conv => whnf
  repeat' ((first
   | ((with_reducible first | refine Br.dec ?_ ?_ | refine Br.ndec ?_ ?_) <;> intro hb <;> (try simp only [ZZ] at hb) <;> (first | omega | contradiction | skip))
   | (with_reducible first | refine Br.tt rfl ?_ | refine Br.ff rfl ?_ | refine Br.ff (isEmptyCons _ _) ?_)
   | (refine Side.mk ?_ ?_; focus (first | omega | (dsimp only [InR, Int.reduceToNat, IntKind.bits, Int.reducePow]; omega) | (simp [CC]; done) | (constructor <;> omega)))
   | with_reducible refine Br.not ?_
   | (with_reducible first | refine Br.tt (by assumption) ?_ | refine Br.ff (by assumption) ?_)
   | (refine Br.mk ?_ ?_ <;> intro hb <;> (try simp only [ZZ] at hb) <;> (first | omega | contradiction | skip))
   | refine Src.whole ⟨rfl, rfl⟩ ?_ | refine FrzV.whole ?_
   | refine CallW.use (hW) ?_
   | refine CallW.use (hF1) ?_) <;> conv => whnf)
  exact CLe.eq rfl
theorem value_sign (ws : List Wd) (hl : ws.length ≤ 1073741824) (d : Int) (hd0 : 0 ≤ d) (hd1 : d ≤ 33) (i : Nat) (hi : i ≤ 1073741824) (n : Int) (hn0 : 0 ≤ n) (hn1 : n ≤ 4096) (a : Int) (s : Str) (h1 : ¬ s = [123]) (h2 : ¬ s = [91]) (hat : ws[i]? = some ⟨1, s, a⟩) : AbsCall PP GG F.jread_reader_value [.ptr 0 0, .p (.int .i64 d)] [jrO ws i n] ⟨.pan (wrongP 4 a), [.dead], []⟩ := by
  have hW := reader_word ws i n _ hat hl
  have hF1 := reader_failD ws i n 4 _ hat hl
  have hI1 := reader_is ws i n _ hat hl [123]
  have hI2 := reader_is ws i n _ hat hl [91]
  rw [decide_eq_false (by simp [h1])] at hI1
  rw [decide_eq_false (by simp [h2])] at hI2
  refine absCall_of (pol := polG) mixP F.jread_reader_value_is ?_
  conv => whnf
  repeat' ((first
   | ((with_reducible first | refine Br.dec ?_ ?_ | refine Br.ndec ?_ ?_) <;> intro hb <;> (try simp only [ZZ] at hb) <;> (first | omega | contradiction | skip))
   | (with_reducible first | refine Br.tt rfl ?_ | refine Br.ff rfl ?_ | refine Br.ff (isEmptyCons _ _) ?_)
   | (refine Side.mk ?_ ?_; focus (first | omega | (dsimp only [InR, Int.reduceToNat, IntKind.bits, Int.reducePow]; omega) | (simp [CC]; done) | (constructor <;> omega)))
   | with_reducible refine Br.not ?_
   | (with_reducible first | refine Br.tt (by assumption) ?_ | refine Br.ff (by assumption) ?_)
   | (refine Br.mk ?_ ?_ <;> intro hb <;> (try simp only [ZZ] at hb) <;> (first | omega | contradiction | skip))
   | refine Src.whole ⟨rfl, rfl⟩ ?_ | refine FrzV.whole ?_
   | refine CallW.use (hW) ?_
   | refine CallW.use (hI1) ?_
   | refine CallW.use (hI2) ?_
   | refine CallW.use (hF1) ?_) <;> conv => whnf)
  exact CLe.eq rfl
theorem value_lim1 (ws : List Wd) (hl : ws.length ≤ 1073741824) (d : Int) (hd0 : 0 ≤ d) (hd1 : d ≤ 33) (i : Nat) (hi : i ≤ 1073741824) (n : Int) (hn0 : 0 ≤ n) (hn1 : n ≤ 4096) (a : Int) (hat : ws[i]? = some ⟨1, [123], a⟩) (hlim : 4096 < n + 1 ∨ 32 < d) : AbsCall PP GG F.jread_reader_value [.ptr 0 0, .p (.int .i64 d)] [jrO ws i n] ⟨.pan (wrongP 2 a), [.dead], []⟩ := by
  have hW := reader_word ws i n _ hat hl
  have hF2 := reader_failD ws i (n + 1) 2 _ hat hl
  have hI1 := reader_is ws i n _ hat hl [123]
  rw [decide_eq_true ⟨rfl, rfl⟩] at hI1
  refine absCall_of (pol := polG) mixP F.jread_reader_value_is ?_
  conv => whnf
  repeat' ((first
   | ((with_reducible first | refine Br.dec ?_ ?_ | refine Br.ndec ?_ ?_) <;> intro hb <;> (try simp only [ZZ] at hb) <;> (first | omega | contradiction | skip))
   | (with_reducible first | refine Br.tt rfl ?_ | refine Br.ff rfl ?_ | refine Br.ff (isEmptyCons _ _) ?_)
   | (refine Side.mk ?_ ?_; focus (first | omega | (dsimp only [InR, Int.reduceToNat, IntKind.bits, Int.reducePow]; omega) | (simp [CC]; done) | (constructor <;> omega)))
   | with_reducible refine Br.not ?_
   | (with_reducible first | refine Br.tt (by assumption) ?_ | refine Br.ff (by assumption) ?_)
   | (refine Br.mk ?_ ?_ <;> intro hb <;> (try simp only [ZZ] at hb) <;> (first | omega | contradiction | skip))
   | refine Src.whole ⟨rfl, rfl⟩ ?_ | refine FrzV.whole ?_
   | refine CallW.use (hW) ?_
   | refine CallW.use (hI1) ?_
   | refine CallW.use (hF2) ?_) <;> conv => whnf)
  all_goals exact CLe.eq rfl
theorem value_lim2 (ws : List Wd) (hl : ws.length ≤ 1073741824) (d : Int) (hd0 : 0 ≤ d) (hd1 : d ≤ 33) (i : Nat) (hi : i ≤ 1073741824) (n : Int) (hn0 : 0 ≤ n) (hn1 : n ≤ 4096) (a : Int) (hat : ws[i]? = some ⟨1, [91], a⟩) (hlim : 4096 < n + 1 ∨ 32 < d) : AbsCall PP GG F.jread_reader_value [.ptr 0 0, .p (.int .i64 d)] [jrO ws i n] ⟨.pan (wrongP 2 a), [.dead], []⟩ := by
  have hW := reader_word ws i n _ hat hl
  have hF2 := reader_failD ws i (n + 1) 2 _ hat hl
  have hI1 := reader_is ws i n _ hat hl [123]
  have hI2 := reader_is ws i n _ hat hl [91]
  rw [decide_eq_false (by simp)] at hI1
  rw [decide_eq_true ⟨rfl, rfl⟩] at hI2
  refine absCall_of (pol := polG) mixP F.jread_reader_value_is ?_
  conv => whnf
  repeat' ((first
   | ((with_reducible first | refine Br.dec ?_ ?_ | refine Br.ndec ?_ ?_) <;> intro hb <;> (try simp only [ZZ] at hb) <;> (first | omega | contradiction | skip))
   | (with_reducible first | refine Br.tt rfl ?_ | refine Br.ff rfl ?_ | refine Br.ff (isEmptyCons _ _) ?_)
   | (refine Side.mk ?_ ?_; focus (first | omega | (dsimp only [InR, Int.reduceToNat, IntKind.bits, Int.reducePow]; omega) | (simp [CC]; done) | (constructor <;> omega)))
   | with_reducible refine Br.not ?_
   | (with_reducible first | refine Br.tt (by assumption) ?_ | refine Br.ff (by assumption) ?_)
   | (refine Br.mk ?_ ?_ <;> intro hb <;> (try simp only [ZZ] at hb) <;> (first | omega | contradiction | skip))
   | refine Src.whole ⟨rfl, rfl⟩ ?_ | refine FrzV.whole ?_
   | refine CallW.use (hW) ?_
   | refine CallW.use (hI1) ?_
   | refine CallW.use (hI2) ?_
   | refine CallW.use (hF2) ?_) <;> conv => whnf)
  all_goals exact CLe.eq rfl
theorem value_lim3 (ws : List Wd) (hl : ws.length ≤ 1073741824) (d : Int) (hd0 : 0 ≤ d) (hd1 : d ≤ 33) (i : Nat) (hi : i ≤ 1073741824) (n : Int) (hn0 : 0 ≤ n) (hn1 : n ≤ 4096) (a : Int) (k : Int) (s : Str) (hk : k = 2 ∨ k = 3 ∨ k = 4) (hat : ws[i]? = some ⟨k, s, a⟩) (hlim : 4096 < n + 1 ∨ 32 < d) : AbsCall PP GG F.jread_reader_value [.ptr 0 0, .p (.int .i64 d)] [jrO ws i n] ⟨.pan (wrongP 2 a), [.dead], []⟩ := by
  have hW := reader_word ws i n _ hat hl
  have hF2 := reader_failD ws i (n + 1) 2 _ hat hl
  have hk0 : ¬ k = 0 := by omega
  have hk1 : ¬ k = 1 := by omega
  refine absCall_of (pol := polG) mixP F.jread_reader_value_is ?_
  conv => whnf
  repeat' ((first
   | ((with_reducible first | refine Br.dec ?_ ?_ | refine Br.ndec ?_ ?_) <;> intro hb <;> (try simp only [ZZ] at hb) <;> (first | omega | contradiction | skip))
   | (with_reducible first | refine Br.tt rfl ?_ | refine Br.ff rfl ?_ | refine Br.ff (isEmptyCons _ _) ?_)
   | (refine Side.mk ?_ ?_; focus (first | omega | (dsimp only [InR, Int.reduceToNat, IntKind.bits, Int.reducePow]; omega) | (simp [CC]; done) | (constructor <;> omega)))
   | with_reducible refine Br.not ?_
   | (with_reducible first | refine Br.tt (by assumption) ?_ | refine Br.ff (by assumption) ?_)
   | (refine Br.mk ?_ ?_ <;> intro hb <;> (try simp only [ZZ] at hb) <;> (first | omega | contradiction | skip))
   | refine Src.whole ⟨rfl, rfl⟩ ?_ | refine FrzV.whole ?_
   | refine CallW.use (hW) ?_
   | refine CallW.use (hF2) ?_) <;> conv => whnf)
  all_goals exact CLe.eq rfl
theorem value_map (ws : List Wd) (hl : ws.length ≤ 1073741824) (d : Int) (hd0 : 0 ≤ d) (hd1 : d ≤ 33) (i : Nat) (hi : i ≤ 1073741824) (n : Int) (hn0 : 0 ≤ n) (hn1 : n ≤ 4096) (a : Int) (hlim1 : n + 1 ≤ 4096) (hlim2 : d ≤ 32) (hat : ws[i]? = some ⟨1, [123], a⟩) (R : RR) (hP : AbsCall PP GG F.jread_reader_pairs [.ptr 0 0, .p (.int .i64 d)] [jrO ws (i + 1 : Nat) (n + 1)] (resR ws R)) : AbsCall PP GG F.jread_reader_value [.ptr 0 0, .p (.int .i64 d)] [jrO ws i n] (resR ws R) := by
  have hW := reader_word ws i n _ hat hl
  have hI1 := reader_is ws i n _ hat hl [123]
  rw [decide_eq_true ⟨rfl, rfl⟩] at hI1
  rcases R with ⟨e, a⟩ | ⟨⟨x1, x2, x3, x4, x5⟩, j, m⟩
  · refine absCall_of (pol := polG) mixP F.jread_reader_value_is ?_
    conv => whnf
    repeat' ((first
     | ((with_reducible first | refine Br.dec ?_ ?_ | refine Br.ndec ?_ ?_) <;> intro hb <;> (try simp only [ZZ] at hb) <;> (first | omega | contradiction | skip))
     | (with_reducible first | refine Br.tt rfl ?_ | refine Br.ff rfl ?_ | refine Br.ff (isEmptyCons _ _) ?_)
     | (refine Side.mk ?_ ?_; focus (first | omega | (dsimp only [InR, Int.reduceToNat, IntKind.bits, Int.reducePow]; omega) | (simp [CC]; done) | (constructor <;> omega)))
     | with_reducible refine Br.not ?_
     | (with_reducible first | refine Br.tt (by assumption) ?_ | refine Br.ff (by assumption) ?_)
     | (refine Br.mk ?_ ?_ <;> intro hb <;> (try simp only [ZZ] at hb) <;> (first | omega | contradiction | skip))
     | refine Src.whole ⟨rfl, rfl⟩ ?_ | refine FrzV.whole ?_
     | refine CallW.use (hW) ?_
     | refine CallW.use (hI1) ?_
     | refine CallW.use (hP) ?_) <;> conv => whnf)
    all_goals exact CLe.eq rfl
  · refine absCall_of (pol := polG) mixP F.jread_reader_value_is ?_
    conv => whnf
    repeat' ((first
     | ((with_reducible first | refine Br.dec ?_ ?_ | refine Br.ndec ?_ ?_) <;> intro hb <;> (try simp only [ZZ] at hb) <;> (first | omega | contradiction | skip))
     | (with_reducible first | refine Br.tt rfl ?_ | refine Br.ff rfl ?_ | refine Br.ff (isEmptyCons _ _) ?_)
     | (refine Side.mk ?_ ?_; focus (first | omega | (dsimp only [InR, Int.reduceToNat, IntKind.bits, Int.reducePow]; omega) | (simp [CC]; done) | (constructor <;> omega)))
     | with_reducible refine Br.not ?_
     | (with_reducible first | refine Br.tt (by assumption) ?_ | refine Br.ff (by assumption) ?_)
     | (refine Br.mk ?_ ?_ <;> intro hb <;> (try simp only [ZZ] at hb) <;> (first | omega | contradiction | skip))
     | refine Src.whole ⟨rfl, rfl⟩ ?_ | refine FrzV.whole ?_
     | refine CallW.use (hW) ?_
     | refine CallW.use (hI1) ?_
     | refine CallW.use (hP) ?_) <;> conv => whnf)
    all_goals exact CLe.eq rfl
theorem value_list (ws : List Wd) (hl : ws.length ≤ 1073741824) (d : Int) (hd0 : 0 ≤ d) (hd1 : d ≤ 33) (i : Nat) (hi : i ≤ 1073741824) (n : Int) (hn0 : 0 ≤ n) (hn1 : n ≤ 4096) (a : Int) (hlim1 : n + 1 ≤ 4096) (hlim2 : d ≤ 32) (hat : ws[i]? = some ⟨1, [91], a⟩) (R : RR) (hP : AbsCall PP GG F.jread_reader_list [.ptr 0 0, .p (.int .i64 d)] [jrO ws (i + 1 : Nat) (n + 1)] (resR ws R)) : AbsCall PP GG F.jread_reader_value [.ptr 0 0, .p (.int .i64 d)] [jrO ws i n] (resR ws R) := by
  have hW := reader_word ws i n _ hat hl
  have hI1 := reader_is ws i n _ hat hl [123]
  have hI2 := reader_is ws i n _ hat hl [91]
  rw [decide_eq_false (by simp)] at hI1
  rw [decide_eq_true ⟨rfl, rfl⟩] at hI2
  rcases R with ⟨e, a⟩ | ⟨⟨x1, x2, x3, x4, x5⟩, j, m⟩
  · refine absCall_of (pol := polG) mixP F.jread_reader_value_is ?_
    conv => whnf
    repeat' ((first
     | ((with_reducible first | refine Br.dec ?_ ?_ | refine Br.ndec ?_ ?_) <;> intro hb <;> (try simp only [ZZ] at hb) <;> (first | omega | contradiction | skip))
     | (with_reducible first | refine Br.tt rfl ?_ | refine Br.ff rfl ?_ | refine Br.ff (isEmptyCons _ _) ?_)
     | (refine Side.mk ?_ ?_; focus (first | omega | (dsimp only [InR, Int.reduceToNat, IntKind.bits, Int.reducePow]; omega) | (simp [CC]; done) | (constructor <;> omega)))
     | with_reducible refine Br.not ?_
     | (with_reducible first | refine Br.tt (by assumption) ?_ | refine Br.ff (by assumption) ?_)
     | (refine Br.mk ?_ ?_ <;> intro hb <;> (try simp only [ZZ] at hb) <;> (first | omega | contradiction | skip))
     | refine Src.whole ⟨rfl, rfl⟩ ?_ | refine FrzV.whole ?_
     | refine CallW.use (hW) ?_
     | refine CallW.use (hI1) ?_
     | refine CallW.use (hI2) ?_
     | refine CallW.use (hP) ?_) <;> conv => whnf)
    all_goals exact CLe.eq rfl
  · refine absCall_of (pol := polG) mixP F.jread_reader_value_is ?_
    conv => whnf
    repeat' ((first
     | ((with_reducible first | refine Br.dec ?_ ?_ | refine Br.ndec ?_ ?_) <;> intro hb <;> (try simp only [ZZ] at hb) <;> (first | omega | contradiction | skip))
     | (with_reducible first | refine Br.tt rfl ?_ | refine Br.ff rfl ?_ | refine Br.ff (isEmptyCons _ _) ?_)
     | (refine Side.mk ?_ ?_; focus (first | omega | (dsimp only [InR, Int.reduceToNat, IntKind.bits, Int.reducePow]; omega) | (simp [CC]; done) | (constructor <;> omega)))
     | with_reducible refine Br.not ?_
     | (with_reducible first | refine Br.tt (by assumption) ?_ | refine Br.ff (by assumption) ?_)
     | (refine Br.mk ?_ ?_ <;> intro hb <;> (try simp only [ZZ] at hb) <;> (first | omega | contradiction | skip))
     | refine Src.whole ⟨rfl, rfl⟩ ?_ | refine FrzV.whole ?_
     | refine CallW.use (hW) ?_
     | refine CallW.use (hI1) ?_
     | refine CallW.use (hI2) ?_
     | refine CallW.use (hP) ?_) <;> conv => whnf)
    all_goals exact CLe.eq rfl
theorem value_str (ws : List Wd) (hl : ws.length ≤ 1073741824) (d : Int) (hd0 : 0 ≤ d) (hd1 : d ≤ 33) (i : Nat) (hi : i ≤ 1073741824) (n : Int) (hn0 : 0 ≤ n) (hn1 : n ≤ 4096) (a : Int) (hlim1 : n + 1 ≤ 4096) (hlim2 : d ≤ 32) (s : Str) (hat : ws[i]? = some ⟨2, s, a⟩) : AbsCall PP GG F.jread_reader_value [.ptr 0 0, .p (.int .i64 d)] [jrO ws i n] ⟨.ret (.p (Tree.mk 4 0 s [] []).enc), [jrO ws (i + 1 : Nat) (n + 1)], []⟩ := by
  have hW := reader_word ws i n _ hat hl
  refine absCall_of (pol := polG) mixP F.jread_reader_value_is ?_
  conv => whnf
  repeat' ((first
   | ((with_reducible first | refine Br.dec ?_ ?_ | refine Br.ndec ?_ ?_) <;> intro hb <;> (try simp only [ZZ] at hb) <;> (first | omega | contradiction | skip))
   | (with_reducible first | refine Br.tt rfl ?_ | refine Br.ff rfl ?_ | refine Br.ff (isEmptyCons _ _) ?_)
   | (refine Side.mk ?_ ?_; focus (first | omega | (dsimp only [InR, Int.reduceToNat, IntKind.bits, Int.reducePow]; omega) | (simp [CC]; done) | (constructor <;> omega)))
   | with_reducible refine Br.not ?_
   | (with_reducible first | refine Br.tt (by assumption) ?_ | refine Br.ff (by assumption) ?_)
   | (refine Br.mk ?_ ?_ <;> intro hb <;> (try simp only [ZZ] at hb) <;> (first | omega | contradiction | skip))
   | refine Src.whole ⟨rfl, rfl⟩ ?_ | refine FrzV.whole ?_
   | refine CallW.use (hW) ?_) <;> conv => whnf)
  exact CLe.ret (tree_nils 4 0 s)
theorem value_num (ws : List Wd) (hl : ws.length ≤ 1073741824) (d : Int) (hd0 : 0 ≤ d) (hd1 : d ≤ 33) (i : Nat) (hi : i ≤ 1073741824) (n : Int) (hn0 : 0 ≤ n) (hn1 : n ≤ 4096) (a : Int) (hlim1 : n + 1 ≤ 4096) (hlim2 : d ≤ 32) (s : Str) (hs : s.length ≤ 1073741824) (hat : ws[i]? = some ⟨3, s, a⟩) : AbsCall PP GG F.jread_reader_value [.ptr 0 0, .p (.int .i64 d)] [jrO ws i n]
    ⟨.ret (.p (if (refIntL s).2 = true then Tree.mk 2 (refIntL s).1 [] [] [] else Tree.mk 3 0 s [] []).enc), [jrO ws (i + 1 : Nat) (n + 1)], []⟩ := by
  have hW := reader_word ws i n _ hat hl
  have hI := dec_Int s hs
  generalize refIntL s = u at hI ⊢
  obtain ⟨u, b⟩ := u
  dsimp only [] at hI ⊢
  cases b with
  | true =>
    rw [if_pos rfl]
    refine absCall_of (pol := polG) mixP F.jread_reader_value_is ?_
    conv => whnf
    repeat' ((first
     | ((with_reducible first | refine Br.dec ?_ ?_ | refine Br.ndec ?_ ?_) <;> intro hb <;> (try simp only [ZZ] at hb) <;> (first | omega | contradiction | skip))
     | (with_reducible first | refine Br.tt rfl ?_ | refine Br.ff rfl ?_ | refine Br.ff (isEmptyCons _ _) ?_)
     | (refine Side.mk ?_ ?_; focus (first | omega | (dsimp only [InR, Int.reduceToNat, IntKind.bits, Int.reducePow]; omega) | (simp [CC]; done) | (constructor <;> omega)))
     | with_reducible refine Br.not ?_
     | (with_reducible first | refine Br.tt (by assumption) ?_ | refine Br.ff (by assumption) ?_)
     | (refine Br.mk ?_ ?_ <;> intro hb <;> (try simp only [ZZ] at hb) <;> (first | omega | contradiction | skip))
     | refine Src.whole ⟨rfl, rfl⟩ ?_ | refine FrzV.whole ?_
     | refine CallW.use (hW) ?_
     | refine CallW.use (hI) ?_) <;> conv => whnf)
    exact CLe.ret (tree_nils 2 u [])
  | false =>
    rw [if_neg (by decide)]
    refine absCall_of (pol := polG) mixP F.jread_reader_value_is ?_
    conv => whnf
    repeat' ((first
     | ((with_reducible first | refine Br.dec ?_ ?_ | refine Br.ndec ?_ ?_) <;> intro hb <;> (try simp only [ZZ] at hb) <;> (first | omega | contradiction | skip))
     | (with_reducible first | refine Br.tt rfl ?_ | refine Br.ff rfl ?_ | refine Br.ff (isEmptyCons _ _) ?_)
     | (refine Side.mk ?_ ?_; focus (first | omega | (dsimp only [InR, Int.reduceToNat, IntKind.bits, Int.reducePow]; omega) | (simp [CC]; done) | (constructor <;> omega)))
     | with_reducible refine Br.not ?_
     | (with_reducible first | refine Br.tt (by assumption) ?_ | refine Br.ff (by assumption) ?_)
     | (refine Br.mk ?_ ?_ <;> intro hb <;> (try simp only [ZZ] at hb) <;> (first | omega | contradiction | skip))
     | refine Src.whole ⟨rfl, rfl⟩ ?_ | refine FrzV.whole ?_
     | refine CallW.use (hW) ?_
     | refine CallW.use (hI) ?_) <;> conv => whnf)
    exact CLe.ret (tree_nils 3 0 s)
theorem value_true (ws : List Wd) (hl : ws.length ≤ 1073741824) (d : Int) (hd0 : 0 ≤ d) (hd1 : d ≤ 33) (i : Nat) (hi : i ≤ 1073741824) (n : Int) (hn0 : 0 ≤ n) (hn1 : n ≤ 4096) (a : Int) (hlim1 : n + 1 ≤ 4096) (hlim2 : d ≤ 32) (hat : ws[i]? = some ⟨4, [116, 114, 117, 101], a⟩) : AbsCall PP GG F.jread_reader_value [.ptr 0 0, .p (.int .i64 d)] [jrO ws i n] ⟨.ret (.p (Tree.mk 1 1 [] [] []).enc), [jrO ws (i + 1 : Nat) (n + 1)], []⟩ := by
  have hW := reader_word ws i n _ hat hl
  refine absCall_of (pol := polG) mixP F.jread_reader_value_is ?_
  conv => whnf
  repeat' ((first
   | ((with_reducible first | refine Br.dec ?_ ?_ | refine Br.ndec ?_ ?_) <;> intro hb <;> (try simp only [ZZ] at hb) <;> (first | omega | contradiction | skip))
   | (with_reducible first | refine Br.tt rfl ?_ | refine Br.ff rfl ?_ | refine Br.ff (isEmptyCons _ _) ?_)
   | (refine Side.mk ?_ ?_; focus (first | omega | (dsimp only [InR, Int.reduceToNat, IntKind.bits, Int.reducePow]; omega) | (simp [CC]; done) | (constructor <;> omega)))
   | with_reducible refine Br.not ?_
   | (with_reducible first | refine Br.tt (by assumption) ?_ | refine Br.ff (by assumption) ?_)
   | (refine Br.mk ?_ ?_ <;> intro hb <;> (try simp only [ZZ] at hb) <;> (first | omega | contradiction | skip))
   | refine Src.whole ⟨rfl, rfl⟩ ?_ | refine FrzV.whole ?_
   | refine CallW.use (hW) ?_) <;> conv => whnf)
  exact CLe.ret (tree_nils 1 1 [])
theorem value_false (ws : List Wd) (hl : ws.length ≤ 1073741824) (d : Int) (hd0 : 0 ≤ d) (hd1 : d ≤ 33) (i : Nat) (hi : i ≤ 1073741824) (n : Int) (hn0 : 0 ≤ n) (hn1 : n ≤ 4096) (a : Int) (hlim1 : n + 1 ≤ 4096) (hlim2 : d ≤ 32) (hat : ws[i]? = some ⟨4, [102, 97, 108, 115, 101], a⟩) : AbsCall PP GG F.jread_reader_value [.ptr 0 0, .p (.int .i64 d)] [jrO ws i n] ⟨.ret (.p (Tree.mk 1 0 [] [] []).enc), [jrO ws (i + 1 : Nat) (n + 1)], []⟩ := by
  have hW := reader_word ws i n _ hat hl
  refine absCall_of (pol := polG) mixP F.jread_reader_value_is ?_
  conv => whnf
  repeat' ((first
   | ((with_reducible first | refine Br.dec ?_ ?_ | refine Br.ndec ?_ ?_) <;> intro hb <;> (try simp only [ZZ] at hb) <;> (first | omega | contradiction | skip))
   | (with_reducible first | refine Br.tt rfl ?_ | refine Br.ff rfl ?_ | refine Br.ff (isEmptyCons _ _) ?_)
   | (refine Side.mk ?_ ?_; focus (first | omega | (dsimp only [InR, Int.reduceToNat, IntKind.bits, Int.reducePow]; omega) | (simp [CC]; done) | (constructor <;> omega)))
   | with_reducible refine Br.not ?_
   | (with_reducible first | refine Br.tt (by assumption) ?_ | refine Br.ff (by assumption) ?_)
   | (refine Br.mk ?_ ?_ <;> intro hb <;> (try simp only [ZZ] at hb) <;> (first | omega | contradiction | skip))
   | refine Src.whole ⟨rfl, rfl⟩ ?_ | refine FrzV.whole ?_
   | refine CallW.use (hW) ?_) <;> conv => whnf)
  exact CLe.ret (tree_nils 1 0 [])
theorem value_null (ws : List Wd) (hl : ws.length ≤ 1073741824) (d : Int) (hd0 : 0 ≤ d) (hd1 : d ≤ 33) (i : Nat) (hi : i ≤ 1073741824) (n : Int) (hn0 : 0 ≤ n) (hn1 : n ≤ 4096) (a : Int) (hlim1 : n + 1 ≤ 4096) (hlim2 : d ≤ 32) (hat : ws[i]? = some ⟨4, [110, 117, 108, 108], a⟩) : AbsCall PP GG F.jread_reader_value [.ptr 0 0, .p (.int .i64 d)] [jrO ws i n] ⟨.ret (.p (Tree.mk 0 0 [] [] []).enc), [jrO ws (i + 1 : Nat) (n + 1)], []⟩ := by
  have hW := reader_word ws i n _ hat hl
  refine absCall_of (pol := polG) mixP F.jread_reader_value_is ?_
  conv => whnf
  repeat' ((first
   | ((with_reducible first | refine Br.dec ?_ ?_ | refine Br.ndec ?_ ?_) <;> intro hb <;> (try simp only [ZZ] at hb) <;> (first | omega | contradiction | skip))
   | (with_reducible first | refine Br.tt rfl ?_ | refine Br.ff rfl ?_ | refine Br.ff (isEmptyCons _ _) ?_)
   | (refine Side.mk ?_ ?_; focus (first | omega | (dsimp only [InR, Int.reduceToNat, IntKind.bits, Int.reducePow]; omega) | (simp [CC]; done) | (constructor <;> omega)))
   | with_reducible refine Br.not ?_
   | (with_reducible first | refine Br.tt (by assumption) ?_ | refine Br.ff (by assumption) ?_)
   | (refine Br.mk ?_ ?_ <;> intro hb <;> (try simp only [ZZ] at hb) <;> (first | omega | contradiction | skip))
   | refine Src.whole ⟨rfl, rfl⟩ ?_ | refine FrzV.whole ?_
   | refine CallW.use (hW) ?_) <;> conv => whnf)
  exact CLe.ret (tree_nils 0 0 [])
theorem reader_value_step (ws : List Wd) (hw : WsOk ws) (q : Nat) (hL : ListAt ws q) (hP : PairsAt ws q) : ValAt ws (q + 1) := by
  intro d i n hi hq h0 h1 h2 h3
  obtain ⟨hat, hmem⟩ := hw.at hi
  have hlen := hw.len
  have htx := hw.text _ hmem
  have hend := hw.end_ i hi
  have hL := fun h => hL d (i + 1) (n + 1) h (by omega) h0
  have hP := fun h => hP d (i + 1) (n + 1) h (by omega) h0
  rw [valR]
  generalize hwd : wdAt ws i = w at *
  obtain ⟨k, s, a⟩ := w
  have hl : ws.length ≤ 1073741824 := by omega
  have hi' : i ≤ 1073741824 := by omega
  by_cases hbad : k = 0 ∨ (k = 1 ∧ ¬ s = [123] ∧ ¬ s = [91])
  · rw [if_pos hbad]
    rcases hbad with hk | ⟨hk, ha, hb⟩
    · subst hk
      exact value_end ws hl d h0 h1 i hi' n h2 h3 a s hat
    · subst hk
      exact value_sign ws hl d h0 h1 i hi' n h2 h3 a s ha hb hat
  rw [if_neg hbad]
  have hk0 : ¬ k = 0 := fun e => hbad (.inl e)
  have htx' : 0 ≤ k ∧ k ≤ 4 := ⟨htx.2.1, htx.2.2.1⟩
  have hkind : (k = 1 ∧ s = [123]) ∨ (k = 1 ∧ s = [91]) ∨ k = 2 ∨ k = 3 ∨ k = 4 := by
    by_cases g1 : k = 1
    · by_cases g2 : s = [123]
      · exact .inl ⟨g1, g2⟩
      · by_cases g3 : s = [91]
        · exact .inr (.inl ⟨g1, g3⟩)
        · exact absurd (.inr ⟨g1, g2, g3⟩) hbad
    · omega
  clear hbad
  have hi1 := hend hk0
  by_cases hlim : 4096 < n + 1 ∨ 32 < d
  · rw [if_pos hlim]
    rcases hkind with ⟨hk, hs⟩ | ⟨hk, hs⟩ | hk
    · subst hk; subst hs
      exact value_lim1 ws hl d h0 h1 i hi' n h2 h3 a hat hlim
    · subst hk; subst hs
      exact value_lim2 ws hl d h0 h1 i hi' n h2 h3 a hat hlim
    · exact value_lim3 ws hl d h0 h1 i hi' n h2 h3 a k s hk hat hlim
  rw [if_neg hlim]
  have hlim1 : n + 1 ≤ 4096 := by omega
  have hlim2 : d ≤ 32 := by omega
  have hL := hL hi1 (by omega) (by omega) (by omega)
  have hP := hP hi1 (by omega) (by omega) (by omega)
  rcases hkind with ⟨hk, hs⟩ | ⟨hk, hs⟩ | hk | hk | hk
  · subst hk; subst hs
    rw [show isS ⟨1, [123], a⟩ [91] = false from rfl, show isS ⟨1, [123], a⟩ [123] = true from rfl, if_neg (by decide), if_pos rfl]
    exact value_map ws hl d h0 h1 i hi' n h2 h3 a hlim1 hlim2 hat _ hP
  · subst hk; subst hs
    rw [show isS ⟨1, [91], a⟩ [91] = true from rfl, if_pos rfl]
    exact value_list ws hl d h0 h1 i hi' n h2 h3 a hlim1 hlim2 hat _ hL
  all_goals
    subst hk
    rw [isS_no (w := ⟨_, s, a⟩) [91] (by simp), isS_no (w := ⟨_, s, a⟩) [123] (by simp), if_neg (by decide), if_neg (by decide)]
  · exact value_str ws hl d h0 h1 i hi' n h2 h3 a hlim1 hlim2 s hat
  · have := value_num ws hl d h0 h1 i hi' n h2 h3 a hlim1 hlim2 s (by have := htx.1; simp only [] at this; omega) hat
    exact this
  · rcases htx.2.2.2 rfl with hs | hs | hs
    · simp only [] at hs; subst hs; exact value_true ws hl d h0 h1 i hi' n h2 h3 a hlim1 hlim2 hat
    · simp only [] at hs; subst hs; exact value_false ws hl d h0 h1 i hi' n h2 h3 a hlim1 hlim2 hat
    · simp only [] at hs; subst hs; exact value_null ws hl d h0 h1 i hi' n h2 h3 a hlim1 hlim2 hat
theorem take_yes {ws : List Wd} {j : Nat} {n : Int} {s : Str} (hat : ws[j]? = some (wdAt ws j)) (hl : ws.length ≤ 1073741824) (h : isS (wdAt ws j) s = true) :
    AbsCall PP GG F.jread_reader_take [.ptr 0 0, .p (.str s)] [jrO ws j n] ⟨.ret (.p (.bool true)), [jrO ws (j + 1 : Nat) n], []⟩ := by
  have := reader_take ws j n (wdAt ws j) hat hl s
  rw [if_pos (isS_k h), decide_eq_true (isS_k h)] at this
  exact this
theorem take_no {ws : List Wd} {j : Nat} {n : Int} {s : Str} (hat : ws[j]? = some (wdAt ws j)) (hl : ws.length ≤ 1073741824) (h : isS (wdAt ws j) s = false) :
    AbsCall PP GG F.jread_reader_take [.ptr 0 0, .p (.str s)] [jrO ws j n] ⟨.ret (.p (.bool false)), [jrO ws j n], []⟩ := by
  have := reader_take ws j n (wdAt ws j) hat hl s
  have hn := of_decide_eq_false h
  rw [if_neg hn, decide_eq_false hn] at this
  exact this
theorem want_yes {ws : List Wd} {j : Nat} {n : Int} {s : Str} (hat : ws[j]? = some (wdAt ws j)) (hl : ws.length ≤ 1073741824) (h : isS (wdAt ws j) s = true) :
    AbsCall PP GG F.jread_reader_want [.ptr 0 0, .p (.str s)] [jrO ws j n] ⟨.ret (.tup []), [jrO ws (j + 1 : Nat) n], []⟩ := reader_want_ok ws j n (wdAt ws j) hat hl s (isS_k h)
theorem want_no {ws : List Wd} {j : Nat} {n : Int} {s : Str} (hat : ws[j]? = some (wdAt ws j)) (hl : ws.length ≤ 1073741824) (h : isS (wdAt ws j) s = false) :
    AbsCall PP GG F.jread_reader_want [.ptr 0 0, .p (.str s)] [jrO ws j n] ⟨.pan (wrongP 4 (wdAt ws j).a), [.dead], []⟩ := reader_wantD ws j n (wdAt ws j) hat hl s (of_decide_eq_false h)
theorem tree_side (x : Tree) : ∀ y : PV, y ∈ [x.enc] → y.cells.length = 5 ∧ ∀ c : PV, c ∈ y.cells → c.leaf = true := by
  intro y hy
  rw [List.mem_singleton.1 hy]
  exact ⟨Tree.enc_cells x, Tree.enc_leaf x⟩
theorem tree_side1 (x : Tree) : ∀ y : PV, y ∈ [x.enc] → y.cells.length = 5 := fun y hy => (tree_side x y hy).1
def zO : HO := .var T.api_Value (.p (.agg [.int .i64 0, .int .i64 0, .str [], .nils, .nils]))
def lsV (m : Nat) : V := .agg [.p (.int .i64 5), .p (.int .i64 0), .p (.str []), .sl 3 0 m, .p .nils]
theorem lsV_frz (l : List Tree) : V.frz 3 (Tree.encL l) (lsV (Tree.encL l).length) = .p (.agg [.int .i64 5, .int .i64 0, .str [], .lst false (Tree.encL l), .nils]) := by
  simp [lsV, V.frz, V.frzL, V.mk, allP, PV.leaf]
def lsV1 : V := .agg [.p (.int .i64 5), .p (.int .i64 0), .p (.str []), .sl 4 0 1, .p .nils]
theorem lsV1_frz (x : Tree) : V.frz 4 [x.enc] lsV1 = .p (.agg [.int .i64 5, .int .i64 0, .str [], .lst false [x.enc], .nils]) := by
  simp [lsV1, V.frz, V.frzL, V.mk, allP, PV.leaf]
theorem tree_ls (l : List Tree) : VLe (.p (.agg [.int .i64 5, .int .i64 0, .str [], .lst false (Tree.encL l), .nils])) (.p (Tree.mk 5 0 [] l []).enc) :=
  (PLe.agg (show LeL [.int .i64 5, .int .i64 0, .str [], .lst false (Tree.encL l), .nils] [.int .i64 5, .int .i64 0, .str [], .lst false (Tree.encL l), .lst false []] from ⟨PLe.refl _, PLe.refl _, PLe.refl _, PLe.refl _, PLe.nils false, trivial⟩)).p
theorem items_loop (ws : List Wd) (hw : WsOk ws) (Q : Nat) (hv : ∀ q, q < Q → ValAt ws q) (d : Int) (hd0 : 0 ≤ d) (hd : d ≤ 32) (R : RR) (K : Post)
    (h0 : ∀ (l : List Tree) (j : Nat) (m : Int), R = .ok (.mk 5 0 [] l [], j, m) → ∀ es : List PV, K .ret [(4, .ptr 1 0)] [jrO ws j m, .var T.api_Value (lsV (Tree.encL l).length), .var T.api_Value (lsV (Tree.encL l).length), .arr T.api_Value 5 (Tree.encL l), .arr T.api_Value 5 es] [])
    (hp : ∀ e a : Int, R = .error (e, a) → ∀ H : Heap, K (.pan (wrongP e a)) [] (.dead :: H) []) :
    ∀ (q : Nat) (i : Nat) (n : Int) (acc : List Tree), q ≤ Q → i < ws.length → 3 * (ws.length - i) + 2 ≤ q → 0 ≤ n → n ≤ 4096 → acc ≠ [] → acc.length ≤ n → itemsR q ws d i n acc = R →
      LoopW PP GG 24 1 (loopN F.jread_reader_list_c 0) [(0, .ptr 0 0), (1, .p (.int .i64 d)), (4, .ptr 1 0), (5, .ptr 2 0)] [jrO ws i n, zO, .var T.api_Value (lsV (Tree.encL acc).length), .arr T.api_Value 5 (Tree.encL acc)] [] (PostCl 24 K) := by
  intro q
  induction q with
  | zero => intro i n acc hq hi hf; omega
  | succ q ih =>
    intro i n acc hq hi hf hn0 hn1 hne hacc hR
    have hml : (Tree.encL acc).length = acc.length := Tree.encL_length acc
    have hV := hv q (by omega) (d + 1) i n hi (by omega) (by omega) (by omega) hn0 hn1
    have hok := (okR_all hw q).1 (d + 1) i n hi
    have hws := hw.len
    have hl : ws.length ≤ 1073741824 := by omega
    rw [itemsR] at hR
    cases hr : valR q ws (d + 1) i n with
    | error e =>
      rw [hr] at hV hR
      obtain ⟨e, a⟩ := e
      refine LoopW.round (pol := polG) mixP ?_
      conv => whnf
      repeat' ((first
       | ((with_reducible first | refine Br.dec ?_ ?_ | refine Br.ndec ?_ ?_) <;> intro hb <;> (try simp only [ZZ] at hb) <;> (first | omega | contradiction | skip))
       | (with_reducible first | refine Br.tt rfl ?_ | refine Br.ff rfl ?_ | refine Br.ff (isEmptyCons _ _) ?_)
       | (refine Side.mk ?_ ?_; focus (first | omega | (dsimp only [InR, Int.reduceToNat, IntKind.bits, Int.reducePow]; omega) | (simp [CC]; done) | (constructor <;> omega)))
       | with_reducible refine Br.not ?_
       | (with_reducible first | refine Br.tt (by assumption) ?_ | refine Br.ff (by assumption) ?_)
       | (refine Br.mk ?_ ?_ <;> intro hb <;> (try simp only [ZZ] at hb) <;> (first | omega | contradiction | skip))
       | refine Src.whole ⟨rfl, rfl⟩ ?_ | refine FrzV.whole ?_
       | refine CallW.use (hV) ?_) <;> conv => whnf)
      · refine PostCl.of (hp e a hR.symm _) ?_ ?_
        · repeat first | exact trivial | refine ⟨VLe.refl _, ?_⟩
        · repeat first | exact trivial | refine ⟨by decide, ?_⟩
    | ok x =>
      obtain ⟨x, j, m⟩ := x
      rw [hr] at hV hR hok
      obtain ⟨g1, g2, g3, g4⟩ := hok
      have hat := (hw.at g2).1
      have hend := hw.end_ j g2
      dsimp only [] at hR
      cases h93 : isS (wdAt ws j) [93] with
      | true =>
        rw [if_pos h93] at hR
        have hT := take_yes (n := m) hat hl h93
        refine LoopW.round (pol := polG) mixP ?_
        conv => whnf
        repeat' ((first
         | ((with_reducible first | refine Br.dec ?_ ?_ | refine Br.ndec ?_ ?_) <;> intro hb <;> (try simp only [And.intro @hml (ZZ)] at hb) <;> (first | omega | contradiction | skip))
         | (with_reducible first | refine Br.tt rfl ?_ | refine Br.ff rfl ?_ | refine Br.ff (isEmptyCons _ _) ?_)
         | (refine Side.mk ?_ ?_; focus (first | omega | (dsimp only [InR, Int.reduceToNat, IntKind.bits, Int.reducePow]; omega) | exact tree_side _ | exact ⟨tree_side1 _, rfl, by show (_ + 1) * 160 ≤ _; omega⟩ | (simp [CC]; done) | (constructor <;> omega)))
         | with_reducible refine Br.not ?_
         | (with_reducible first | refine Br.tt (by assumption) ?_ | refine Br.ff (by assumption) ?_)
         | (refine Br.mk ?_ ?_ <;> intro hb <;> (try simp only [And.intro @hml (ZZ)] at hb) <;> (first | omega | contradiction | skip))
         | refine Src.whole ⟨rfl, rfl⟩ ?_ | refine FrzV.whole ?_
         | refine CallW.use (hV) ?_
         | refine CallW.use (hT) ?_) <;> conv => whnf)
        rw [show Tree.encL acc ++ [x.enc] = Tree.encL (acc ++ [x]) by simp [Tree.encL_eq]]
        · refine PostCl.of (h0 _ (j + 1) m hR.symm _) ?_ ?_
          · repeat first | exact trivial | refine ⟨VLe.refl _, ?_⟩
          · repeat first | exact trivial | refine ⟨by decide, ?_⟩
      | false =>
        rw [if_neg (by rw [h93]; decide)] at hR
        have hT := take_no (n := m) hat hl h93
        cases h44 : isS (wdAt ws j) [44] with
        | true =>
          rw [if_pos h44] at hR
          have hW := want_yes (n := m) hat hl h44
          refine LoopW.round (pol := polG) mixP ?_
          conv => whnf
          repeat' ((first
           | ((with_reducible first | refine Br.dec ?_ ?_ | refine Br.ndec ?_ ?_) <;> intro hb <;> (try simp only [And.intro @hml (ZZ)] at hb) <;> (first | omega | contradiction | skip))
           | (with_reducible first | refine Br.tt rfl ?_ | refine Br.ff rfl ?_ | refine Br.ff (isEmptyCons _ _) ?_)
           | (refine Side.mk ?_ ?_; focus (first | omega | (dsimp only [InR, Int.reduceToNat, IntKind.bits, Int.reducePow]; omega) | exact tree_side _ | exact ⟨tree_side1 _, rfl, by show (_ + 1) * 160 ≤ _; omega⟩ | (simp [CC]; done) | (constructor <;> omega)))
           | with_reducible refine Br.not ?_
           | (with_reducible first | refine Br.tt (by assumption) ?_ | refine Br.ff (by assumption) ?_)
           | (refine Br.mk ?_ ?_ <;> intro hb <;> (try simp only [And.intro @hml (ZZ)] at hb) <;> (first | omega | contradiction | skip))
           | refine Src.whole ⟨rfl, rfl⟩ ?_ | refine FrzV.whole ?_
           | refine CallW.use (hV) ?_
           | refine CallW.use (hT) ?_
           | refine CallW.use (hW) ?_) <;> conv => whnf)
          rw [show Tree.encL acc ++ [x.enc] = Tree.encL (acc ++ [x]) by simp [Tree.encL_eq]]
          refine LoopW.ren [0, 1, 2, 3] (ih (j + 1) m (acc ++ [x]) (by omega) (hend (by rw [(isS_k h44).1]; decide)) (by omega) (by omega) g4 (by simp) (by rw [List.length_append, List.length_singleton]; omega) hR) (by repeat first | exact trivial | refine ⟨⟨rfl, VLe.refl _⟩, ?_⟩) (by repeat first | exact trivial | refine ⟨by decide, ?_⟩) rfl rfl
        | false =>
          rw [if_neg (by rw [h44]; decide)] at hR
          have hW := want_no (n := m) hat hl h44
          refine LoopW.round (pol := polG) mixP ?_
          conv => whnf
          repeat' ((first
           | ((with_reducible first | refine Br.dec ?_ ?_ | refine Br.ndec ?_ ?_) <;> intro hb <;> (try simp only [And.intro @hml (ZZ)] at hb) <;> (first | omega | contradiction | skip))
           | (with_reducible first | refine Br.tt rfl ?_ | refine Br.ff rfl ?_ | refine Br.ff (isEmptyCons _ _) ?_)
           | (refine Side.mk ?_ ?_; focus (first | omega | (dsimp only [InR, Int.reduceToNat, IntKind.bits, Int.reducePow]; omega) | exact tree_side _ | exact ⟨tree_side1 _, rfl, by show (_ + 1) * 160 ≤ _; omega⟩ | (simp [CC]; done) | (constructor <;> omega)))
           | with_reducible refine Br.not ?_
           | (with_reducible first | refine Br.tt (by assumption) ?_ | refine Br.ff (by assumption) ?_)
           | (refine Br.mk ?_ ?_ <;> intro hb <;> (try simp only [And.intro @hml (ZZ)] at hb) <;> (first | omega | contradiction | skip))
           | refine Src.whole ⟨rfl, rfl⟩ ?_ | refine FrzV.whole ?_
           | refine CallW.use (hV) ?_
           | refine CallW.use (hT) ?_
           | refine CallW.use (hW) ?_) <;> conv => whnf)
          · refine PostCl.of (hp _ _ hR.symm _) ?_ ?_
            · repeat first | exact trivial | refine ⟨VLe.refl _, ?_⟩
            · repeat first | exact trivial | refine ⟨by decide, ?_⟩
theorem items_first (ws : List Wd) (hw : WsOk ws) (Q : Nat) (hv : ∀ q, q < Q → ValAt ws q) (d : Int) (hd0 : 0 ≤ d) (hd : d ≤ 32) (R : RR) (K : Post)
    (h0 : ∀ (l : List Tree) (j : Nat) (m : Int), R = .ok (.mk 5 0 [] l [], j, m) → ∀ es : List PV, K .ret [(4, .ptr 1 0)] [jrO ws j m, .var T.api_Value (lsV (Tree.encL l).length), .var T.api_Value (lsV (Tree.encL l).length), .arr T.api_Value 5 (Tree.encL l), .arr T.api_Value 5 es] [])
    (h1 : ∀ (x : Tree) (j : Nat) (m : Int), R = .ok (.mk 5 0 [] [x] [], j, m) → ∀ es : List PV, K .ret [(4, .ptr 1 0)] [jrO ws j m, .var T.api_Value lsV1, .var T.api_Value lsV1, .arr T.api_Value 5 es, .arr T.api_Value 5 [x.enc]] [])
    (hp : ∀ e a : Int, R = .error (e, a) → ∀ H : Heap, K (.pan (wrongP e a)) [] (.dead :: H) [])
    (q : Nat) (i : Nat) (n : Int) (hq : q + 1 ≤ Q) (hi : i < ws.length) (hf : 3 * (ws.length - i) + 2 ≤ q + 1) (hn0 : 0 ≤ n) (hn1 : n ≤ 4096) (hR : itemsR (q + 1) ws d i n [] = R) :
      LoopW PP GG 24 1 (loopN F.jread_reader_list_c 0) [(0, .ptr 0 0), (1, .p (.int .i64 d)), (4, .ptr 1 0), (5, .ptr 2 0)] [jrO ws i n, zO, .var T.api_Value (.p (.agg [.int .i64 5, .int .i64 0, .str [], .nils, .nils]))] [] (PostCl 24 K) := by
  have ih := items_loop ws hw Q hv d hd0 hd R K h0 hp q
  have hV := hv q (by omega) (d + 1) i n hi (by omega) (by omega) (by omega) hn0 hn1
  have hok := (okR_all hw q).1 (d + 1) i n hi
  have hws := hw.len
  have hl : ws.length ≤ 1073741824 := by omega
  rw [itemsR] at hR
  cases hr : valR q ws (d + 1) i n with
  | error e =>
    rw [hr] at hV hR
    obtain ⟨e, a⟩ := e
    refine LoopW.round (pol := polG) mixP ?_
    conv => whnf
    repeat' ((first
     | ((with_reducible first | refine Br.dec ?_ ?_ | refine Br.ndec ?_ ?_) <;> intro hb <;> (try simp only [ZZ] at hb) <;> (first | omega | contradiction | skip))
     | (with_reducible first | refine Br.tt rfl ?_ | refine Br.ff rfl ?_ | refine Br.ff (isEmptyCons _ _) ?_)
     | (refine Side.mk ?_ ?_; focus (first | omega | (dsimp only [InR, Int.reduceToNat, IntKind.bits, Int.reducePow]; omega) | (simp [CC]; done) | (constructor <;> omega)))
     | with_reducible refine Br.not ?_
     | (with_reducible first | refine Br.tt (by assumption) ?_ | refine Br.ff (by assumption) ?_)
     | (refine Br.mk ?_ ?_ <;> intro hb <;> (try simp only [ZZ] at hb) <;> (first | omega | contradiction | skip))
     | refine Src.whole ⟨rfl, rfl⟩ ?_ | refine FrzV.whole ?_
     | refine CallW.use (hV) ?_) <;> conv => whnf)
    · refine PostCl.of (hp e a hR.symm _) ?_ ?_
      · repeat first | exact trivial | refine ⟨VLe.refl _, ?_⟩
      · repeat first | exact trivial | refine ⟨by decide, ?_⟩
  | ok x =>
    obtain ⟨x, j, m⟩ := x
    rw [hr] at hV hR hok
    obtain ⟨g1, g2, g3, g4⟩ := hok
    have hat := (hw.at g2).1
    have hend := hw.end_ j g2
    dsimp only [] at hR
    cases h93 : isS (wdAt ws j) [93] with
    | true =>
      rw [if_pos h93] at hR
      have hT := take_yes (n := m) hat hl h93
      refine LoopW.round (pol := polG) mixP ?_
      conv => whnf
      repeat' ((first
       | ((with_reducible first | refine Br.dec ?_ ?_ | refine Br.ndec ?_ ?_) <;> intro hb <;> (try simp only [ZZ] at hb) <;> (first | omega | contradiction | skip))
       | (with_reducible first | refine Br.tt rfl ?_ | refine Br.ff rfl ?_ | refine Br.ff (isEmptyCons _ _) ?_)
       | (refine Side.mk ?_ ?_; focus (first | omega | (dsimp only [InR, Int.reduceToNat, IntKind.bits, Int.reducePow]; omega) | exact tree_side _ | exact ⟨tree_side1 _, by show 1 * 160 ≤ _; omega⟩ | (simp [CC]; done) | (constructor <;> omega)))
       | with_reducible refine Br.not ?_
       | (with_reducible first | refine Br.tt (by assumption) ?_ | refine Br.ff (by assumption) ?_)
       | (refine Br.mk ?_ ?_ <;> intro hb <;> (try simp only [ZZ] at hb) <;> (first | omega | contradiction | skip))
       | refine Src.whole ⟨rfl, rfl⟩ ?_ | refine FrzV.whole ?_
       | refine CallW.use (hV) ?_
       | refine CallW.use (hT) ?_) <;> conv => whnf)
      · refine PostCl.of (h1 _ (j + 1) m hR.symm _) ?_ ?_
        · repeat first | exact trivial | refine ⟨VLe.refl _, ?_⟩
        · repeat first | exact trivial | refine ⟨by decide, ?_⟩
    | false =>
      rw [if_neg (by rw [h93]; decide)] at hR
      have hT := take_no (n := m) hat hl h93
      cases h44 : isS (wdAt ws j) [44] with
      | true =>
        rw [if_pos h44] at hR
        have hW := want_yes (n := m) hat hl h44
        refine LoopW.round (pol := polG) mixP ?_
        conv => whnf
        repeat' ((first
         | ((with_reducible first | refine Br.dec ?_ ?_ | refine Br.ndec ?_ ?_) <;> intro hb <;> (try simp only [ZZ] at hb) <;> (first | omega | contradiction | skip))
         | (with_reducible first | refine Br.tt rfl ?_ | refine Br.ff rfl ?_ | refine Br.ff (isEmptyCons _ _) ?_)
         | (refine Side.mk ?_ ?_; focus (first | omega | (dsimp only [InR, Int.reduceToNat, IntKind.bits, Int.reducePow]; omega) | exact tree_side _ | exact ⟨tree_side1 _, by show 1 * 160 ≤ _; omega⟩ | (simp [CC]; done) | (constructor <;> omega)))
         | with_reducible refine Br.not ?_
         | (with_reducible first | refine Br.tt (by assumption) ?_ | refine Br.ff (by assumption) ?_)
         | (refine Br.mk ?_ ?_ <;> intro hb <;> (try simp only [ZZ] at hb) <;> (first | omega | contradiction | skip))
         | refine Src.whole ⟨rfl, rfl⟩ ?_ | refine FrzV.whole ?_
         | refine CallW.use (hV) ?_
         | refine CallW.use (hT) ?_
         | refine CallW.use (hW) ?_) <;> conv => whnf)
        refine LoopW.ren [0, 1, 2, 4] (ih (j + 1) m [x] (by omega) (hend (by rw [(isS_k h44).1]; decide)) (by omega) (by omega) g4 (by simp) (by rw [List.length_singleton]; omega) hR) (by repeat first | exact trivial | refine ⟨⟨rfl, VLe.refl _⟩, ?_⟩) (by repeat first | exact trivial | refine ⟨by decide, ?_⟩) rfl rfl
      | false =>
        rw [if_neg (by rw [h44]; decide)] at hR
        have hW := want_no (n := m) hat hl h44
        refine LoopW.round (pol := polG) mixP ?_
        conv => whnf
        repeat' ((first
         | ((with_reducible first | refine Br.dec ?_ ?_ | refine Br.ndec ?_ ?_) <;> intro hb <;> (try simp only [ZZ] at hb) <;> (first | omega | contradiction | skip))
         | (with_reducible first | refine Br.tt rfl ?_ | refine Br.ff rfl ?_ | refine Br.ff (isEmptyCons _ _) ?_)
         | (refine Side.mk ?_ ?_; focus (first | omega | (dsimp only [InR, Int.reduceToNat, IntKind.bits, Int.reducePow]; omega) | exact tree_side _ | exact ⟨tree_side1 _, by show 1 * 160 ≤ _; omega⟩ | (simp [CC]; done) | (constructor <;> omega)))
         | with_reducible refine Br.not ?_
         | (with_reducible first | refine Br.tt (by assumption) ?_ | refine Br.ff (by assumption) ?_)
         | (refine Br.mk ?_ ?_ <;> intro hb <;> (try simp only [ZZ] at hb) <;> (first | omega | contradiction | skip))
         | refine Src.whole ⟨rfl, rfl⟩ ?_ | refine FrzV.whole ?_
         | refine CallW.use (hV) ?_
         | refine CallW.use (hT) ?_
         | refine CallW.use (hW) ?_) <;> conv => whnf)
        · refine PostCl.of (hp _ _ hR.symm _) ?_ ?_
          · repeat first | exact trivial | refine ⟨VLe.refl _, ?_⟩
          · repeat first | exact trivial | refine ⟨by decide, ?_⟩
theorem reader_list_step (ws : List Wd) (hw : WsOk ws) (q : Nat) (hv : ∀ p, p < q + 1 → ValAt ws p) : ListAt ws (q + 1) := by
  intro d i n hi hq h0 h1 h2 h3
  have hat := (hw.at hi).1
  have hws := hw.len
  have hl : ws.length ≤ 1073741824 := by omega
  have hend := hw.end_ i hi
  rw [listR]
  cases h93 : isS (wdAt ws i) [93] with
  | true =>
    rw [if_pos rfl]
    have hT := take_yes (n := n) hat hl h93
    refine absCall_of (pol := polG) mixP F.jread_reader_list_is ?_
    conv => whnf
    repeat' ((first
     | ((with_reducible first | refine Br.dec ?_ ?_ | refine Br.ndec ?_ ?_) <;> intro hb <;> (try simp only [ZZ] at hb) <;> (first | omega | contradiction | skip))
     | (with_reducible first | refine Br.tt rfl ?_ | refine Br.ff rfl ?_ | refine Br.ff (isEmptyCons _ _) ?_)
     | (refine Side.mk ?_ ?_; focus (first | omega | (dsimp only [InR, Int.reduceToNat, IntKind.bits, Int.reducePow]; omega) | (simp [CC]; done) | (constructor <;> omega)))
     | with_reducible refine Br.not ?_
     | (with_reducible first | refine Br.tt (by assumption) ?_ | refine Br.ff (by assumption) ?_)
     | (refine Br.mk ?_ ?_ <;> intro hb <;> (try simp only [ZZ] at hb) <;> (first | omega | contradiction | skip))
     | refine Src.whole ⟨rfl, rfl⟩ ?_ | refine FrzV.whole ?_
     | refine CallW.use (hT) ?_) <;> conv => whnf)
    exact CLe.ret (tree_nils 5 0 [])
  | false =>
    rw [if_neg (by decide)]
    have hT := take_no (n := n) hat hl h93
    obtain ⟨p, rfl⟩ : ∃ p, q = p + 1 := ⟨q - 1, by omega⟩
    have hlp := items_first ws hw (p + 1) (fun r hr => hv r (by omega)) d h0 h1 (itemsR (p + 1) ws d i n [])
    have hok := (okR_all hw (p + 1)).2.2.1 d i n [] hi h3
    generalize hR : itemsR (p + 1) ws d i n [] = R at *
    refine absCall_of (pol := polG) mixP F.jread_reader_list_is ?_
    conv => whnf
    repeat' ((first
     | ((with_reducible first | refine Br.dec ?_ ?_ | refine Br.ndec ?_ ?_) <;> intro hb <;> (try simp only [ZZ] at hb) <;> (first | omega | contradiction | skip))
     | (with_reducible first | refine Br.tt rfl ?_ | refine Br.ff rfl ?_ | refine Br.ff (isEmptyCons _ _) ?_)
     | (refine Side.mk ?_ ?_; focus (first | omega | (dsimp only [InR, Int.reduceToNat, IntKind.bits, Int.reducePow]; omega) | (simp [CC]; done) | (constructor <;> omega)))
     | with_reducible refine Br.not ?_
     | (with_reducible first | refine Br.tt (by assumption) ?_ | refine Br.ff (by assumption) ?_)
     | (refine Br.mk ?_ ?_ <;> intro hb <;> (try simp only [ZZ] at hb) <;> (first | omega | contradiction | skip))
     | refine Src.whole ⟨rfl, rfl⟩ ?_ | refine FrzV.whole ?_
     | refine CallW.use (hT) ?_) <;> conv => whnf)
    refine LoopW.cl ?_
    refine LoopW.ren [0, 1, 2] (hlp _ (fun l j m h es => ?_) (fun x j m h es => ?_) (fun e a h H => ?_) p i n (Nat.le_refl _) hi (by omega) h2 h3 hR) (by repeat first | exact trivial | refine ⟨⟨rfl, VLe.refl _⟩, ?_⟩) (by repeat first | exact trivial | refine ⟨by decide, ?_⟩) rfl rfl
    all_goals conv => whnf
    · subst h
      refine FrzV.mk (.p (.agg [.int .i64 5, .int .i64 0, .str [], .lst false (Tree.encL l), .nils])) (lsV_frz l) ?_
      conv => whnf
      refine FrzO.mk (.var T.api_Value (.p (.agg [.int .i64 5, .int .i64 0, .str [], .lst false (Tree.encL l), .nils]))) (congrArg (HO.var T.api_Value) (lsV_frz l)) ?_
      conv => whnf
      refine FrzO.mk (.var T.api_Value (.p (.agg [.int .i64 5, .int .i64 0, .str [], .lst false (Tree.encL l), .nils]))) (congrArg (HO.var T.api_Value) (lsV_frz l)) ?_
      conv => whnf
      exact CLe.ret (tree_ls l)
    · subst h
      refine FrzV.mk (.p (.agg [.int .i64 5, .int .i64 0, .str [], .lst false [x.enc], .nils])) (lsV1_frz x) ?_
      conv => whnf
      refine FrzO.mk (.var T.api_Value (.p (.agg [.int .i64 5, .int .i64 0, .str [], .lst false ([x.enc]), .nils]))) (congrArg (HO.var T.api_Value) (lsV1_frz x)) ?_
      conv => whnf
      refine FrzO.mk (.var T.api_Value (.p (.agg [.int .i64 5, .int .i64 0, .str [], .lst false ([x.enc]), .nils]))) (congrArg (HO.var T.api_Value) (lsV1_frz x)) ?_
      conv => whnf
      exact CLe.ret (tree_ls [x])
    · subst h
      exact CLe.refl _
end Go.Proofs.YtoinkmogdfjmmaaGreatDoor
end

section
namespace Go.Am
open Go
end Go.Am
namespace Go.Am
end Go.Am
namespace Go.Am
end Go.Am
namespace Go.Am
def Ge (n : Nat) (s : Str) : Prop := ∀ b ∈ s, n ≤ b.toNat
theorem Ge.app {n : Nat} {s r : Str} (h1 : Ge n s) (h2 : Ge n r) : Ge n (s ++ r) := fun b hb => (List.mem_append.1 hb).elim (h1 b) (h2 b)
theorem Ge.cons {n : Nat} {c : UInt8} {s : Str} (h1 : n ≤ c.toNat) (h2 : Ge n s) : Ge n (c :: s) := fun b hb => (List.mem_cons.1 hb).elim (fun e => by rw [e]; exact h1) (h2 b)
theorem Ge.nil {n : Nat} : Ge n [] := fun b hb => by cases hb
def NoB (s : Str) : Prop := ∀ b ∈ s, b.toNat ≠ 32
theorem NoB.l {s r : Str} (h : NoB (s ++ r)) : NoB s := fun b hb => h b (List.mem_append_left _ hb)
theorem NoB.r {s r : Str} (h : NoB (s ++ r)) : NoB r := fun b hb => h b (List.mem_append_right _ hb)
theorem NoB.t {c : UInt8} {s : Str} (h : NoB (c :: s)) : NoB s := fun b hb => h b (List.mem_cons_of_mem _ hb)
end Go.Am
end

section
namespace Go.Am
end Go.Am
end

section
namespace Go.Am
open Go
def q1 (c : UInt8) : Str := quoteU [c] 1
def numCh (b : UInt8) : Bool := decide ((48 ≤ b.toNat ∧ b.toNat ≤ 57) ∨ b.toNat = 43 ∨ b.toNat = 45 ∨ b.toNat = 46 ∨ b.toNat = 101 ∨ b.toNat = 69)
def Nc (s : Str) : Prop := ∀ b ∈ s, numCh b = true
theorem Nc.app {s r : Str} (h1 : Nc s) (h2 : Nc r) : Nc (s ++ r) := fun b hb => (List.mem_append.1 hb).elim (h1 b) (h2 b)
theorem Nc.cons {c : UInt8} {s : Str} (h1 : numCh c = true) (h2 : Nc s) : Nc (c :: s) := fun b hb => (List.mem_cons.1 hb).elim (fun e => by rw [e]; exact h1) (h2 b)
theorem Nc.nil : Nc [] := fun b hb => by cases hb
theorem Tree.ext' {t u : Tree} (h1 : t.kind = u.kind) (h2 : t.n = u.n) (h3 : t.s = u.s) (h4 : t.l = u.l) (h5 : t.m = u.m) : t = u := by rw [t.eta, u.eta, h1, h2, h3, h4, h5]
def Tok (u : Str) (k : Int) (s : Str) (v : Str) : Prop := ∀ (t : Str) (a : Nat), a < t.length → t.drop a = u → ∃ b : Nat, wordL t a = (⟨k, s, a⟩, (b : Int), 0, 0) ∧ a < b ∧ b ≤ t.length ∧ t.drop b = v
theorem getD_drop (t : Str) (a : Nat) : t.getD a 0 = (t.drop a).getD 0 0 := by simp [List.getD, List.getElem?_drop]
theorem sign_iff : ∀ n : Nat, n < 256 → (0 ≤ firstIdx ⟨signs.toArray⟩ n.toUInt8 ↔ signs.contains n.toUInt8 = true) := by decide +kernel
theorem sign_b (c : UInt8) : 0 ≤ firstIdx ⟨signs.toArray⟩ c ↔ signs.contains c = true := by
  have := sign_iff c.toNat (UInt8.toNat_lt c)
  rwa [show c.toNat.toUInt8 = c by simp] at this
theorem drop_lt {t u v : Str} {a : Nat} (ha : a ≤ t.length) (h : t.drop a = u ++ v) : a + u.length ≤ t.length ∧ t.drop (a + u.length) = v := by
  have hl := congrArg List.length h
  rw [List.length_drop, List.length_append] at hl
  refine ⟨by omega, ?_⟩
  rw [← List.drop_drop, h, List.drop_left]
theorem tok_sign (c : UInt8) (v : Str) (hc : signs.contains c = true) : Tok (c :: v) 1 [c] v := by
  intro t a ha h
  have hg : t.getD a 0 = c := by rw [getD_drop, h]; rfl
  obtain ⟨h1, h2⟩ := drop_lt (u := [c]) (v := v) (by omega) h
  refine ⟨a + 1, ?_, by omega, h1, h2⟩
  unfold wordL
  rw [if_pos (by rw [hg]; exact (sign_b c).2 hc), h]
  rfl
theorem takeL_app : ∀ (q : Nat) (s R : Str) (r x : Int), takeL q s r = some x → takeL q (s ++ R) r = some x
  | 0, _, _, _, _, h => h
  | q + 1, [], _, _, _, h => by simp [takeL] at h
  | q + 1, b :: s, R, r, x, h => by
    rw [takeL] at h
    rw [List.cons_append, takeL]
    split at h
    · rename_i hc; rw [if_pos hc]; exact takeL_app q s R _ x h
    · cases h
theorem utfTake_app {s : Str} (R : Str) (h : (utfTake s).2 ≠ 0) : utfTake (s ++ R) = utfTake s := by
  cases s with
  | nil => exact absurd rfl h
  | cons c cs =>
    unfold utfTake at h ⊢
    simp only [List.cons_append] at h ⊢
    split at h
    · exact absurd rfl h
    · rename_i h1
      rw [if_neg (by simp only [List.length_cons, List.length_append] at h1 ⊢; omega), if_neg h1]
      split at h
      · exact absurd rfl h
      · rename_i r h2
        rw [takeL_app _ _ R _ _ h2]
def skipB (u : Str) : Str := u.dropWhile (blanksB.contains ·)
inductive Lexes : Str → List (Int × Str) → Prop
  | nil : Lexes [] []
  | cons {u v : Str} {k : Int} {s : Str} {ws : List (Int × Str)} (h : Tok u k s v) (hne : u ≠ []) (r : Lexes (skipB v) ws) : Lexes u ((k, s) :: ws)
def kp (w : Wd) : Int × Str := (w.k, w.s)
theorem Lexes.sign (c : UInt8) {X : Str} {ws : List (Int × Str)} (h : signs.contains c = true) (r : Lexes (skipB X) ws) : Lexes (c :: X) ((1, [c]) :: ws) :=
  .cons (tok_sign c X h) (by simp) r
theorem bless_iff : ∀ (x y : Str), Op.bytesLess x y = true ↔ x < y
  | x, [] => by cases x <;> simp [Op.bytesLess]
  | [], b :: y => by simp [Op.bytesLess]
  | a :: x, b :: y => by
    have ih := bless_iff x y
    rw [List.cons_lt_cons_iff, Op.bytesLess, Bool.or_eq_true, Bool.and_eq_true, decide_eq_true_eq, beq_iff_eq, ih]
theorem leqS_iff (x y : Str) : leqS x y = true ↔ x ≤ y := by
  unfold leqS
  rw [Bool.or_eq_true, bless_iff, decide_eq_true_eq]
  constructor
  · rintro (h | rfl)
    · exact List.le_of_lt h
    · exact List.le_refl _
  · intro h
    by_cases e : x = y
    · exact .inr e
    · left
      by_cases hl : x < y
      · exact hl
      · exact absurd (List.le_antisymm h (List.not_lt.1 hl)) e
end Go.Am
end

section
namespace Go.Am
open Go Go.Maps Go.WideAt Go.MapKept Go.WideShapes
open Go.WideElems (Fit rd rg)
theorem keyOf_string {P : Program} {K : TypeId} (hK : P.underlying K = some .string) {s : ByteArray} (h : s.size ≤ maxLen) : keyOf P K (.string s) = some (.string s.data.toList) := by
  simp [keyOf, hK, mapKey, h]
section
variable {P : Program} {B : Nat → Prop} {L : Loc} {w : World}
theorem own_of_mp {K : TypeId} {n : Nat} {ss : List (List UInt8)} {vs : MV} (hK : P.underlying K = some .string) (h : HRel B L w n (.mp (ss.map .str) vs)) (hnd : ss.Nodup) (hlen : ss.length ≤ maxLen) (hstr : ∀ s ∈ ss, s.length ≤ maxLen) :
    ∃ D0 : DataW Unit, w.ownsMap P K (fun _ => some (.nil, [])) (L.blk n) ss.length D0 ∧ Maps.size D0 = ss.length ∧ (strKeys D0).Perm ss := by
  cases h with
  | mp _ _ ms clock hw hl hlv hk hv hn =>
    rw [List.length_map] at hl
    have hkey : ∀ (i : Nat) (e : MapEntry), ms[i]? = some e → ∃ s, ss[i]? = some s ∧ e.key = .string ⟨s.toArray⟩ ∧ e.born < clock := by
      intro i e he
      have hi : i < ms.size := (Array.getElem?_eq_some_iff.1 he).1
      have hs : ss[i]? = some ss[i] := by simp [show i < ss.length by omega]
      have := hk i (.str ss[i]) e (by rw [List.getElem?_map, hs]; rfl) he
      refine ⟨ss[i], hs, ?_, this.2⟩
      have h1 := this.1
      generalize e.key = kv at h1
      cases h1
      rfl
    have hkeys : ms.toList.map (·.key) = ss.map fun s => Value.string ⟨s.toArray⟩ := by
      apply List.ext_getElem?
      intro i
      rw [List.getElem?_map, List.getElem?_map]
      cases he : ms[i]? with
      | none =>
        have : ss[i]? = none := by
          rw [List.getElem?_eq_none_iff, hl]
          simpa using he
        simp [he, this]
      | some e =>
        obtain ⟨s, h1, h2, _⟩ := hkey i e he
        simp [he, h1, h2]
    have hrd : ∀ e ∈ ms.toList, ∃ s ∈ ss, e.key = .string ⟨s.toArray⟩ ∧ rd P K (fun _ => some ((.nil : DataW Unit), [])) e = some (.string s, .nil) := by
      intro e he
      obtain ⟨i, hi, rfl⟩ := List.getElem_of_mem he
      obtain ⟨s, h1, h2, _⟩ := hkey i ms.toList[i] (by rw [← Array.getElem?_toList, List.getElem?_eq_getElem hi])
      have hm := List.mem_of_getElem? h1
      refine ⟨s, hm, h2, ?_⟩
      have hko := keyOf_string hK (s := ⟨s.toArray⟩) (by simpa [ByteArray.size] using hstr s hm)
      unfold rd
      rw [h2, hko]
      rfl
    have hrg : ms.toList.map (rg P K fun _ => some ((.nil : DataW Unit), [])) = ss.map fun s => (Lit.string s, DataW.nil) := by
      apply List.ext_getElem?
      intro i
      rw [List.getElem?_map, List.getElem?_map]
      cases he : ms[i]? with
      | none =>
        have : ss[i]? = none := by
          rw [List.getElem?_eq_none_iff, hl]
          simpa using he
        simp [he, this]
      | some e =>
        obtain ⟨s, h1, h2, _⟩ := hkey i e he
        have hm := List.mem_of_getElem? h1
        have hko := keyOf_string hK (s := ⟨s.toArray⟩) (by simpa [ByteArray.size] using hstr s hm)
        have hr : rd P K (fun _ => some ((.nil : DataW Unit), [])) e = some (.string s, .nil) := by simp [rd, h2, hko]
        simp [he, h1, rg, hr]
    refine ⟨_, ⟨ms, clock, hw, ⟨by omega, ⟨?_, ?_, ?_⟩, ?_⟩, by omega, rfl⟩, ?_, ?_⟩
    · intro e he
      obtain ⟨i, hi, rfl⟩ := List.getElem_of_mem he
      obtain ⟨_, _, _, h3⟩ := hkey i ms.toList[i] (by rw [← Array.getElem?_toList, List.getElem?_eq_getElem hi])
      exact h3
    · refine List.pairwise_iff_getElem.2 fun i j hi hj hij e => ?_
      rw [List.length_map] at hi hj
      simp only [List.getElem_map] at e
      have := hn i j ms.toList[i] ms.toList[j] (by rw [← Array.getElem?_toList, List.getElem?_eq_getElem hi]) (by rw [← Array.getElem?_toList, List.getElem?_eq_getElem hj]) e
      omega
    · rw [hkeys]
      refine List.pairwise_map.2 (List.Pairwise.imp ?_ hnd)
      intro a b hab e
      injection e with e
      injection e with e
      exact hab (by simpa using congrArg Array.toList e)
    · intro e he
      obtain ⟨s, _, _, h⟩ := hrd e he
      exact ⟨_, h⟩
    · rw [size_eq, length_sorted, hrg, List.length_map]
    · rw [hrg]
      show ((List.foldr DataW.insert [] (ss.map fun s => (Lit.string s, DataW.nil))).map fun p => strOf p.1).Perm ss
      have := (sorted_perm (ss.map fun s => (Lit.string s, (DataW.nil : DataW Unit)))).map fun p => strOf p.1
      rw [List.map_map] at this
      simpa [Function.comp_def, strOf] using this
end
end Go.Am
end

section
namespace Go.Am
open Go
theorem insK_perm (k : Str) (x : Tree) : ∀ m : List (Str × Tree), (insK k x m).Perm ((k, x) :: m)
  | [] => List.Perm.refl _
  | p :: m => by
    rw [insK]
    split
    · exact List.Perm.refl _
    · exact ((insK_perm k x m).cons p).trans (List.Perm.swap _ _ _)
theorem sortP_perm : ∀ m : List (Str × Tree), (sortP m).Perm m
  | [] => List.Perm.refl _
  | p :: m => by
    rw [sortP]
    exact (insK_perm _ _ _).trans ((sortP_perm m).cons p)
theorem insK_pw (k : Str) (x : Tree) : ∀ {m : List (Str × Tree)}, m.Pairwise (fun p q => p.1 ≤ q.1) → (insK k x m).Pairwise (fun p q => p.1 ≤ q.1)
  | [], _ => by simp [insK]
  | p :: m, h => by
    obtain ⟨h1, h2⟩ := List.pairwise_cons.1 h
    rw [insK]
    split
    · rename_i hl
      have hl := (leqS_iff _ _).1 hl
      refine List.pairwise_cons.2 ⟨fun q hq => ?_, h⟩
      rcases List.mem_cons.1 hq with rfl | hq
      · exact hl
      · exact List.le_trans hl (h1 q hq)
    · rename_i hl
      have hl : p.1 ≤ k := by
        rw [leqS_iff] at hl
        rcases List.le_total k p.1 with h | h
        · exact absurd h hl
        · exact h
      refine List.pairwise_cons.2 ⟨fun q hq => ?_, insK_pw k x h2⟩
      rcases List.mem_cons.1 ((insK_perm k x m).mem_iff.1 hq) with rfl | hq
      · exact hl
      · exact h1 q hq
theorem sortP_pw : ∀ m : List (Str × Tree), (sortP m).Pairwise (fun p q => p.1 ≤ q.1)
  | [] => List.Pairwise.nil
  | p :: m => insK_pw _ _ (sortP_pw m)
theorem sortP_len (m : List (Str × Tree)) : (sortP m).length = m.length := (sortP_perm m).length_eq
theorem sorted_keys_eq {m : List (Str × Tree)} {ss : List Str} (h : ss.Perm (m.map (·.1))) : ss.mergeSort (fun x y => decide (x ≤ y)) = (sortP m).map (·.1) := by
  have tr : ∀ a b c : List UInt8, decide (a ≤ b) = true → decide (b ≤ c) = true → decide (a ≤ c) = true := fun a b c h1 h2 => by simp only [decide_eq_true_eq] at *; exact List.le_trans h1 h2
  have htot : ∀ a b : List UInt8, (decide (a ≤ b) || decide (b ≤ a)) = true := fun a b => by simp only [Bool.or_eq_true, decide_eq_true_eq]; exact List.le_total a b
  refine List.Perm.eq_of_pairwise (le := fun a b => a ≤ b) (fun a b _ _ h1 h2 => List.le_antisymm h1 h2) ?_ ?_ ?_
  · exact (List.pairwise_mergeSort tr htot ss).imp fun h => by simpa using h
  · exact List.pairwise_map.2 (sortP_pw m)
  · exact ((List.mergeSort_perm ss _).trans h).trans ((sortP_perm m).map _).symm
theorem keyAt_map {ss : List Str} {k : Str} : ∀ {i : Nat}, ss.Nodup → ss[i]? = some k → keyAt (.str k) (ss.map .str) = some i := by
  intro i hnd hi
  unfold keyAt
  have hlt := (List.getElem?_eq_some_iff.1 hi).1
  refine List.findIdx?_eq_some_iff_getElem.2 ⟨by simpa using hlt, ?_, fun j hj => ?_⟩
  · simp [keyB, (List.getElem?_eq_some_iff.1 hi).2]
  · have : ss[j] ≠ k := by
      rw [← (List.getElem?_eq_some_iff.1 hi).2]
      exact List.pairwise_iff_getElem.1 hnd j i (by omega) hlt hj
    simp [keyB, Ne.symm this]
theorem keyAt_none {ss : List Str} {k : Str} (h : ¬ k ∈ ss) : keyAt (.str k) (ss.map .str) = none := by
  unfold keyAt
  rw [List.findIdx?_eq_none_iff]
  intro x hx
  obtain ⟨s, hs, rfl⟩ := List.mem_map.1 hx
  simp only [keyB, decide_eq_false_iff_not]
  exact fun e => h (e ▸ hs)
theorem hasK_mem (m : List (Str × Tree)) (k : Str) : hasK m k = true ↔ k ∈ m.map (·.1) := by
  unfold hasK
  rw [List.any_eq_true, List.mem_map]
  simp
end Go.Am
end

section
namespace Go.Proofs
open Go.RowKit Go.Maps Go.Sort Go.Shelf
def Tryz.keys129_ren : Go.Shelf.Ren := ⟨fun | 7 => 127 | 10 => 147 | n => n, fun | 23 => 131 | 26 => 9 | 3 => 27 | 28 => 155 | 0 => 0 | 27 => 154 | 33 => 33 | 4 => 4 | n => n, fun | n => n⟩
theorem Tryz.keys129 : Go.Proofs.SlLaysZ.n7 Tryz.prog Tryz.keys129_ren := {
  mixed := by kernel_rfl
  f7 := ⟨Tryz.f127.name, by decide, Tryz.func127.trans (congrArg some (by kernel_rfl))⟩
  f10 := ⟨Tryz.f147.name, by decide, Tryz.func147.trans (congrArg some (by kernel_rfl))⟩
  t0 := Tryz.underlying0
  a0 := Tryz.isAgg0
  z0 := Tryz.sizeOf0
  v0 := Tryz.zeroValue0
  t4 := Tryz.underlying4
  a4 := Tryz.isAgg4
  z4 := Tryz.sizeOf4
  v4 := Tryz.zeroValue4
  t23 := Tryz.underlying131
  a23 := Tryz.isAgg131
  z23 := Tryz.sizeOf131
  v23 := Tryz.zeroValue131
  t26 := Tryz.underlying9
  a26 := Tryz.isAgg9
  z26 := Tryz.sizeOf9
  v26 := Tryz.zeroValue9
  t27 := Tryz.underlying154
  a27 := Tryz.isAgg154
  z27 := Tryz.sizeOf154
  v27 := Tryz.zeroValue154
  t28 := Tryz.underlying155
  a28 := Tryz.isAgg155
  z28 := Tryz.sizeOf155
  v28 := Tryz.zeroValue155
  t33 := Tryz.underlying33
  a33 := Tryz.isAgg33
  z33 := Tryz.sizeOf33
  v33 := Tryz.zeroValue33 }
def Tryz.sorted128_ren : Go.Shelf.Ren := ⟨fun | 6 => 126 | 8 => 145 | 9 => 146 | 11 => 162 | 13 => 164 | 12 => 163 | 23 => 177 | 24 => 178 | 14 => 168 | 15 => 169 | 16 => 170 | 17 => 171 | 18 => 172 | 19 => 173 | 20 => 174 | 21 => 175 | 22 => 176 | 25 => 181 | 26 => 182 | 27 => 183 | 28 => 184 | 29 => 185 | 30 => 186 | 31 => 191 | n => n, fun | 26 => 9 | 28 => 155 | 24 => 37 | 0 => 0 | 3 => 3 | 37 => 112 | 48 => 183 | 50 => 163 | 4 => 4 | 40 => 192 | 39 => 191 | 45 => 102 | 5 => 5 | 9 => 9 | 51 => 200 | 55 => 204 | 57 => 210 | 58 => 93 | 33 => 33 | n => n, fun | n => n⟩
theorem Tryz.sorted128 : Go.Proofs.SlLaysZ.n6 Tryz.prog Tryz.sorted128_ren := {
  mixed := by kernel_rfl
  f6 := ⟨Tryz.f126.name, by decide, Tryz.func126.trans (congrArg some (by kernel_rfl))⟩
  f8 := ⟨Tryz.f145.name, by decide, Tryz.func145.trans (congrArg some (by kernel_rfl))⟩
  f11 := ⟨Tryz.f162.name, by decide, Tryz.func162.trans (congrArg some (by kernel_rfl))⟩
  t0 := Tryz.underlying0
  a0 := Tryz.isAgg0
  z0 := Tryz.sizeOf0
  v0 := Tryz.zeroValue0
  t24 := Tryz.underlying37
  a24 := Tryz.isAgg37
  z24 := Tryz.sizeOf37
  v24 := Tryz.zeroValue37
  t26 := Tryz.underlying9
  a26 := Tryz.isAgg9
  z26 := Tryz.sizeOf9
  v26 := Tryz.zeroValue9
  t28 := Tryz.underlying155
  a28 := Tryz.isAgg155
  z28 := Tryz.sizeOf155
  v28 := Tryz.zeroValue155
  i26 := by kernel_rfl }
def Tryz.sort155_ren : Go.Shelf.Ren := ⟨fun | 6 => 146 | 8 => 164 | 9 => 163 | 19 => 177 | 20 => 178 | 21 => 168 | 22 => 169 | 23 => 170 | 24 => 171 | 25 => 172 | 26 => 173 | 27 => 174 | 28 => 175 | 29 => 176 | 36 => 181 | 31 => 182 | 32 => 183 | 37 => 184 | 38 => 185 | 39 => 186 | 41 => 191 | n => n, fun | 27 => 37 | 29 => 9 | 3 => 3 | 32 => 112 | 26 => 37 | 0 => 0 | 44 => 183 | 46 => 163 | 4 => 4 | 36 => 192 | 35 => 191 | 41 => 102 | 5 => 5 | 9 => 9 | 53 => 200 | 57 => 204 | 63 => 210 | 64 => 93 | n => n, fun | n => n⟩
theorem Tryz.sort155 : Go.Proofs.SlLaysM.n6 Tryz.prog Tryz.sort155_ren := {
  mixed := by kernel_rfl
  f6 := ⟨Tryz.f146.name, by decide, Tryz.func146.trans (congrArg some (by kernel_rfl))⟩
  f8 := Tryz.func164.trans (congrArg some (by kernel_rfl))
  f9 := ⟨Tryz.f163.name, by decide, Tryz.func163.trans (congrArg some (by kernel_rfl))⟩
  f19 := Tryz.func177.trans (congrArg some (by kernel_rfl))
  f20 := Tryz.func178.trans (congrArg some (by kernel_rfl))
  f21 := ⟨Tryz.f168.name, by decide, Tryz.func168.trans (congrArg some (by kernel_rfl))⟩
  f22 := ⟨Tryz.f169.name, by decide, Tryz.func169.trans (congrArg some (by kernel_rfl))⟩
  f23 := ⟨Tryz.f170.name, by decide, Tryz.func170.trans (congrArg some (by kernel_rfl))⟩
  f24 := ⟨Tryz.f171.name, by decide, Tryz.func171.trans (congrArg some (by kernel_rfl))⟩
  f25 := ⟨Tryz.f172.name, by decide, Tryz.func172.trans (congrArg some (by kernel_rfl))⟩
  f26 := ⟨Tryz.f173.name, by decide, Tryz.func173.trans (congrArg some (by kernel_rfl))⟩
  f27 := ⟨Tryz.f174.name, by decide, Tryz.func174.trans (congrArg some (by kernel_rfl))⟩
  f28 := ⟨Tryz.f175.name, by decide, Tryz.func175.trans (congrArg some (by kernel_rfl))⟩
  f29 := ⟨Tryz.f176.name, by decide, Tryz.func176.trans (congrArg some (by kernel_rfl))⟩
  f31 := Tryz.func182.trans (congrArg some (by kernel_rfl))
  f32 := Tryz.func183.trans (congrArg some (by kernel_rfl))
  f36 := ⟨Tryz.f181.name, by decide, Tryz.func181.trans (congrArg some (by kernel_rfl))⟩
  f37 := ⟨Tryz.f184.name, by decide, Tryz.func184.trans (congrArg some (by kernel_rfl))⟩
  f38 := ⟨Tryz.f185.name, by decide, Tryz.func185.trans (congrArg some (by kernel_rfl))⟩
  f39 := ⟨Tryz.f186.name, by decide, Tryz.func186.trans (congrArg some (by kernel_rfl))⟩
  f41 := ⟨Tryz.f191.name, by decide, Tryz.func191.trans (congrArg some (by kernel_rfl))⟩
  t0 := Tryz.underlying0
  a0 := Tryz.isAgg0
  z0 := Tryz.sizeOf0
  v0 := Tryz.zeroValue0
  t3 := Tryz.underlying3
  a3 := Tryz.isAgg3
  z3 := Tryz.sizeOf3
  v3 := Tryz.zeroValue3
  t4 := Tryz.underlying4
  a4 := Tryz.isAgg4
  z4 := Tryz.sizeOf4
  v4 := Tryz.zeroValue4
  t5 := Tryz.underlying5
  a5 := Tryz.isAgg5
  z5 := Tryz.sizeOf5
  v5 := Tryz.zeroValue5
  t9 := Tryz.underlying9
  a9 := Tryz.isAgg9
  z9 := Tryz.sizeOf9
  v9 := Tryz.zeroValue9
  t26 := Tryz.underlying37
  a26 := Tryz.isAgg37
  z26 := Tryz.sizeOf37
  v26 := Tryz.zeroValue37
  t27 := Tryz.underlying37
  a27 := Tryz.isAgg37
  z27 := Tryz.sizeOf37
  v27 := Tryz.zeroValue37
  t29 := Tryz.underlying9
  a29 := Tryz.isAgg9
  z29 := Tryz.sizeOf9
  v29 := Tryz.zeroValue9
  t32 := Tryz.underlying112
  a32 := Tryz.isAgg112
  z32 := Tryz.sizeOf112
  v32 := Tryz.zeroValue112
  t35 := Tryz.underlying191
  a35 := Tryz.isAgg191
  z35 := Tryz.sizeOf191
  v35 := Tryz.zeroValue191
  t36 := Tryz.underlying192
  a36 := Tryz.isAgg192
  z36 := Tryz.sizeOf192
  v36 := Tryz.zeroValue192
  t41 := Tryz.underlying102
  a41 := Tryz.isAgg102
  z41 := Tryz.sizeOf102
  v41 := Tryz.zeroValue102
  t44 := Tryz.underlying183
  a44 := Tryz.isAgg183
  z44 := Tryz.sizeOf183
  v44 := Tryz.zeroValue183
  t46 := Tryz.underlying163
  a46 := Tryz.isAgg163
  z46 := Tryz.sizeOf163
  v46 := Tryz.zeroValue163
  t53 := Tryz.underlying200
  a53 := Tryz.isAgg200
  z53 := Tryz.sizeOf200
  v53 := Tryz.zeroValue200
  t57 := Tryz.underlying204
  a57 := Tryz.isAgg204
  z57 := Tryz.sizeOf204
  v57 := Tryz.zeroValue204
  t63 := Tryz.underlying210
  a63 := Tryz.isAgg210
  z63 := Tryz.sizeOf210
  v63 := Tryz.zeroValue210
  t64 := Tryz.underlying93
  a64 := Tryz.isAgg93
  z64 := Tryz.sizeOf93
  v64 := Tryz.zeroValue93 }
theorem Tryz.sorts128 (m : Nat) : AnyZ.SortsIn Tryz.prog Tryz.sorted128_ren Fence.wide m :=
  ⟨fun blk off cap ss W hH hblk hsz => callsIn_wide.2 (AnyM.slices_Sort_string Tryz.sort155 blk off cap ss W hH hblk hsz),
   fun p cap W => callsIn_wide.2 (AnyM.slices_Sort_string_none Tryz.sort155 p cap W)⟩
theorem Tryz.sorted_keys {H : Type} (Bm b nn : Nat) (D0 : DataW H) (R : Value → Option (DataW H × List MemPlace)) (w : World) (hBm : Bm < w.heap.size) (hm : w.cell? ⟨Bm, 0, none⟩ = some (.map (some b)))
    (hown : w.ownsMap Tryz.prog 9 R b nn D0) (hmax : Maps.size D0 ≤ maxLen) (hbytes : Maps.size D0 * 16 ≤ 140737488355328) :
    Calls Tryz.prog 126 #[.func (.func 147) #[] #[.pointer (some ⟨Bm, 0, none⟩)]] w fun e w' => ∃ (v : Value) (ss : List (List UInt8)), e = .returned v ∧ ss.Perm (strKeys D0) ∧
      w'.ownsRow w.heap.size 9 1 v ss.length ((ss.mergeSort (fun x y => decide (x ≤ y))).map encStr) ∧ (v = .slice none 0 0 ↔ ss = []) ∧ Below w.heap.size w w' := by
  have hseq : SeqGives Fence.wide 2 Tryz.prog 147 #[.pointer (some ⟨Bm, 0, none⟩)] encStr (fun ss => ss.Perm (strKeys D0)) (Maps.size D0) w :=
    AnyZ.keys_gives (ρ := Tryz.keys129_ren) { Tryz.keys129 with } Fence.wide _ trivial rfl (by omega) Bm b nn D0 _ hBm hm hown
  exact (callsIn_wide (n := 5)).1 (AnyZ.sorted_in Tryz.sorted128 Fence.wide 5 trivial trivial trivial trivial rfl (by omega) (Tryz.sorts128 _) (enters_of Tryz.func146 (by kernel_rfl) rfl) 147 #[.pointer (some ⟨Bm, 0, none⟩)] trivial (enters_of Tryz.func147 (by kernel_rfl) rfl) _ _ hmax hbytes _ hseq)
end Go.Proofs
end

section
namespace Go.Proofs.YtoinkmogdfjmmaaGreatDoor
open Go Go.Am Go.RowKit
set_option maxRecDepth 100000
def mpO (m : List (Str × Tree)) : HO := .mp ((m.map (·.1)).map .str) (.pure (m.map fun p => p.2.enc))
theorem maps_Keys (ks : List PV) (l : List PV) : AbsCall PP GG F.maps_Keys_map_string_api_Value_string_api_Value [.mapr 0] [.mp ks (.pure l)] ⟨.ret (.func (.func F.maps_Keys_map_string_api_Value_string_api_Value_1) [.ptr 1 0]), [.mp ks (.pure l), .var T.map_string_api_Value (.mapr 0)], []⟩ := by
  refine absCall_of (pol := polG) mixP F.maps_Keys_map_string_api_Value_string_api_Value_is ?_
  conv => whnf
  exact CLe.refl _
theorem key_str : PP.underlying T.string = some .string := by kernel_rfl
theorem row_strs {B : Nat → Prop} {w : World} {base : Nat} {v : Value} {n : Nat} {ss : List Str} (hB : ∀ b, B b → b < base) (h : w.ownsRow base T.string 1 v n (ss.map Go.Proofs.encStr)) : PRel B w (.lst false (ss.map .str)) v := by
  obtain ⟨h1, h2⟩ := h
  rw [List.length_map] at h1
  rcases h2 with ⟨rfl, h3⟩ | ⟨g, cap, cur, rfl, hg, hw, hn, hc, hz, ht⟩
  · obtain rfl : ss = [] := List.eq_nil_of_length_eq_zero (by omega)
    exact .lst0 false none 0 (fun h => by cases h)
  · have hn' : n = (ss.map PV.str).length := by rw [List.length_map]; omega
    subst hn'
    have hfl := flat_strs ss
    have hgt : g < w.heap.size := (Array.getElem?_eq_some_iff.1 hw).1
    refine .lst false (ss.map .str) g 0 cap 1 (fun k => cur.getD k undef) (fun hb => by have := hB g hb; omega) hgt (Nat.le_refl _) ?_ ?_ hn (fun h => by cases h) ?_ ?_
    · intro x hx; obtain ⟨s, _, rfl⟩ := List.mem_map.1 hx; rfl
    · rw [hfl]; intro x hx; obtain ⟨s, _, rfl⟩ := List.mem_map.1 hx; rfl
    · intro k hk
      rw [hfl] at hk
      have hlt : k < cur.size := by omega
      simp [World.cell?, hw, hlt]
    · intro k x hx
      rw [hfl, List.getElem?_map] at hx
      obtain ⟨s, hs, rfl⟩ := Option.map_eq_some_iff.1 hx
      have hk : k < ss.length := (List.getElem?_eq_some_iff.1 hs).1
      have := congrArg (·[k]?) ht
      simp only [List.getElem?_map, hs, Option.map_some] at this
      rw [List.getElem?_take, if_pos (by rw [List.length_map]; omega), Array.getElem?_toList] at this
      have hlt : k < cur.size := by rw [List.length_map] at hn; omega
      rw [show cur.getD k undef = Go.Proofs.encStr s by simp [Array.getD, hlt] at this ⊢; exact this]
      exact .str s
theorem slices_Sorted (m : List (Str × Tree)) (hnd : (m.map (·.1)).Nodup) (hlen : m.length ≤ 1048576) (hstr : ∀ p ∈ m, p.1.length ≤ 1048576) :
    AbsCall PP GG F.slices_Sorted_string [.func (.func F.maps_Keys_map_string_api_Value_string_api_Value_1) [.ptr 0 0]] [.var T.map_string_api_Value (.mapr 1), mpO m] ⟨.ret (.p (.lst false (((sortP m).map (·.1)).map .str))), [.var T.map_string_api_Value (.mapr 1), mpO m], []⟩ := by
  refine absBelow fun B L w vs hst ha hg => ?_
  obtain ⟨v, rfl, hv⟩ := vrel1 ha
  have hr0 := hst.rel 0
  have hr1 := hst.rel 1
  have ho0 := hst.own 0 trivial
  obtain ⟨D0, hown, hsz, hperm⟩ := own_of_mp (P := PP) (K := T.string) key_str (show HRel B L w 1 (.mp ((m.map (·.1)).map .str) (.pure (m.map fun p => p.2.enc))) from hr1) hnd (by rw [List.length_map]; exact Nat.le_trans hlen (by decide)) (by
    intro s hs
    obtain ⟨p, hp, rfl⟩ := List.mem_map.1 hs
    exact Nat.le_trans (hstr p hp) (by decide))
  rw [List.length_map] at hsz
  have hcell : w.cell? ⟨L.blk 0, 0, none⟩ = some (.map (some (L.blk 1))) := by
    cases (show HRel B L w 0 (.var T.map_string_api_Value (.mapr 1)) from hr0) with
    | var _ c t fr hw hfr hl h =>
      have hc : c.size = 1 := hl.symm
      have h0 := h 0 (.mapr 1) c[0] rfl (by simp [hc])
      generalize hx : c[0] = x at h0
      cases h0
      simp [World.cell?, hw, hc, hx]
  have hv' : v = .func (.func F.maps_Keys_map_string_api_Value_string_api_Value_1) #[] #[.pointer (some ⟨L.blk 0, 0, none⟩)] := by
    cases hv with
    | func f l c hl h =>
      rcases c with _ | ⟨a, _ | ⟨b, c⟩⟩
      · simp at hl
      · have := h 0 _ a rfl rfl
        cases this
        rfl
      · simp at hl
  subst hv'
  refine CallTo.of_calls Tryz.func126 (by kernel_rfl) rfl ((Tryz.sorted_keys (L.blk 0) (L.blk 1) _ D0 _ w ho0.2 hcell hown (by rw [hsz]; exact Nat.le_trans hlen (by decide)) (by rw [hsz]; omega)).mono ?_)
  rintro e w' ⟨x, ss, rfl, hp, hrow, _, hb⟩
  refine ⟨hb, x, rfl, .p _ _ ?_⟩
  rw [sorted_keys_eq (hp.trans hperm)] at hrow
  exact row_strs (base := w.heap.size) hst.bnd hrow
theorem keys_ok (k : Str) (ss : List Str) : keysOk PP T.string (.str k) (ss.map .str) := by
  have h : ∀ s : Str, keyIs PP T.string (.str s) = true := fun s => by simp only [keyIs, key_str]
  refine ⟨h k, List.all_eq_true.2 fun x hx => ?_⟩
  obtain ⟨s, _, rfl⟩ := List.mem_map.1 hx
  exact h s
theorem get_mp {m : List (Str × Tree)} (hnd : (m.map (·.1)).Nodup) {p : Str × Tree} (hp : p ∈ m) : getM (.str p.1) ((m.map (·.1)).map .str) (.pure (m.map fun p => p.2.enc)) = some (.p p.2.enc) := by
  obtain ⟨i, hi⟩ := List.getElem?_of_mem hp
  unfold getM
  rw [keyAt_map (i := i) hnd (by rw [List.getElem?_map, hi]; rfl)]
  simp only [MV.toL, Option.bind_some, List.getElem?_map, hi]
  rfl
def mpV (n m : Nat) : V := .agg [.p (.int .i64 6), .p (.int .i64 0), .p (.str []), .p .nils, .sl n 0 m]
theorem mpV_frz (n : Nat) (m : List (Str × Tree)) : V.frz n (Tree.encM m) (mpV n (Tree.encM m).length) = .p (.agg [.int .i64 6, .int .i64 0, .str [], .nils, .lst false (Tree.encM m)]) := by
  simp [mpV, V.frz, V.frzL, V.mk, allP, PV.leaf]
theorem tree_mp (m : List (Str × Tree)) : VLe (.p (.agg [.int .i64 6, .int .i64 0, .str [], .nils, .lst false (Tree.encM m)])) (.p (Tree.mk 6 0 [] [] m).enc) :=
  (PLe.agg (show LeL [.int .i64 6, .int .i64 0, .str [], .nils, .lst false (Tree.encM m)] [.int .i64 6, .int .i64 0, .str [], .lst false [], .lst false (Tree.encM m)] from ⟨PLe.refl _, PLe.refl _, PLe.refl _, PLe.nils false, PLe.refl _, trivial⟩)).p
theorem pair_side (p : Str × Tree) : ∀ y : PV, y ∈ [Tree.encP p] → y.cells.length = 6 ∧ ∀ c : PV, c ∈ y.cells → c.leaf = true := by
  intro y hy
  rw [List.mem_singleton.1 hy]
  exact ⟨Tree.encP_cells p, Tree.encP_leaf p⟩
theorem pair_side1 (p : Str × Tree) : ∀ y : PV, y ∈ [Tree.encP p] → y.cells.length = 6 := fun y hy => (pair_side p y hy).1
theorem made_loop (m : List (Str × Tree)) (hnd : (m.map (·.1)).Nodup) (hlen : m.length ≤ 1048576) (K : Post)
    (h0 : K (.exit 0) [(2, .ptr 1 0), (3, .ptr 2 0)] [mpO m, zO, .var T.api_Value (mpV 3 (Tree.encM (sortP m)).length), .arr T.api_Pair 6 (Tree.encM (sortP m))] []) :
    ∀ (r i : Nat), i + r = (sortP m).length → LoopW PP GG 27 1 (loopN F.jread_made_c 0) [(0, .mapr 0), (2, .ptr 1 0), (3, .ptr 2 0), (9, .p (.lst false (((sortP m).map (·.1)).map .str))), (10, .p (.int .i64 (sortP m).length)), (11, .p (.int .i64 i))]
      [mpO m, zO, .var T.api_Value (mpV 3 (Tree.encM ((sortP m).take i)).length), .arr T.api_Pair 6 (Tree.encM ((sortP m).take i))] [] (PostCl 27 K) := by
  have hsl := sortP_len m
  intro r
  induction r with
  | zero =>
    intro i hi
    obtain rfl : i = (sortP m).length := by omega
    rw [List.take_length]
    refine LoopW.round (pol := polG) mixP ?_
    conv => whnf
    repeat' ((first
     | ((with_reducible first | refine Br.dec ?_ ?_ | refine Br.ndec ?_ ?_) <;> intro hb <;> (try simp only [ZZ] at hb) <;> (first | omega | contradiction | skip))
     | (with_reducible first | refine Br.tt rfl ?_ | refine Br.ff rfl ?_ | refine Br.ff (isEmptyCons _ _) ?_)
     | (refine Side.mk ?_ ?_; focus (first | omega | (dsimp only [InR, Int.reduceToNat, IntKind.bits, Int.reducePow]; omega) | (simp [CC]; done) | (constructor <;> omega)))
     | with_reducible refine Br.not ?_
     | (with_reducible first | refine Br.tt (by assumption) ?_ | refine Br.ff (by assumption) ?_)
     | (refine Br.mk ?_ ?_ <;> intro hb <;> (try simp only [ZZ] at hb) <;> (first | omega | contradiction | skip))
     | refine Src.whole ⟨rfl, rfl⟩ ?_ | refine FrzV.whole ?_) <;> conv => whnf)
    · refine PostCl.of (h0) ?_ ?_
      · repeat first | exact trivial | refine ⟨VLe.refl _, ?_⟩
      · repeat first | exact trivial | refine ⟨by decide, ?_⟩
  | succ r ih =>
    intro i hi
    have hil : i < (sortP m).length := by omega
    have hml : (Tree.encM ((sortP m).take i)).length = i := by rw [Tree.encM_length, List.length_take]; omega
    obtain ⟨k, t, hp⟩ : ∃ k t, (sortP m)[i]? = some (k, t) := ⟨(sortP m)[i].1, (sortP m)[i].2, by simp [hil]⟩
    have hpm : (k, t) ∈ m := (sortP_perm m).mem_iff.1 (List.mem_of_getElem? hp)
    have hg := get_mp hnd hpm
    have hks := keys_ok k (m.map (·.1))
    have hkl : (((sortP m).map (·.1)).map PV.str)[i]? = some (.str k) := by rw [List.getElem?_map, List.getElem?_map, hp]; rfl
    have htk : (sortP m).take (i + 1) = (sortP m).take i ++ [(k, t)] := by rw [List.take_add_one, hp]; rfl
    have ih := ih (i + 1) (by omega)
    rw [htk] at ih
    obtain ⟨a, b, c, d, e⟩ := t
    refine LoopW.round (pol := polG) mixP ?_
    conv => whnf
    repeat' ((first
     | ((with_reducible first | refine Br.dec ?_ ?_ | refine Br.ndec ?_ ?_) <;> intro hb <;> (try simp only [And.intro @hml (ZZ)] at hb) <;> (first | omega | contradiction | skip))
     | (with_reducible first | refine Br.tt rfl ?_ | refine Br.ff rfl ?_ | refine Br.ff (isEmptyCons _ _) ?_)
     | (refine Side.mk ?_ ?_; focus (first | omega | (dsimp only [InR, Int.reduceToNat, IntKind.bits, Int.reducePow]; omega) | exact ⟨rfl, rfl⟩ | exact pair_side (k, .mk a b c d e) | exact ⟨pair_side1 (k, .mk a b c d e), rfl, by show (_ + 1) * 192 ≤ _; omega⟩ | (simp [CC]; done) | (constructor <;> omega)))
     | with_reducible refine Br.not ?_
     | (with_reducible first | refine Br.tt (by assumption) ?_ | refine Br.ff (by assumption) ?_)
     | (refine Br.mk ?_ ?_ <;> intro hb <;> (try simp only [And.intro @hml (ZZ)] at hb) <;> (first | omega | contradiction | skip))
     | refine Src.whole ⟨rfl, rfl⟩ ?_ | refine FrzV.whole ?_
     | ((refine ElemZ.mk (.str k) (by simpa using hkl) rfl ?_; conv => whnf))
     | ((refine MapG.mk _ hks hg ?_; conv => whnf))) <;> conv => whnf)
    rw [Tree.encM_append] at ih
    refine LoopW.ren [0, 1, 2, 3] (ih) (by repeat first | exact trivial | refine ⟨⟨rfl, VLe.refl _⟩, ?_⟩) (by repeat first | exact trivial | refine ⟨by decide, ?_⟩) rfl rfl
theorem made_first (m : List (Str × Tree)) (hnd : (m.map (·.1)).Nodup) (hlen : m.length ≤ 1048576) (K : Post) (o : HO)
    (hz : sortP m = [] → K (.exit 0) [(2, .ptr 1 0), (3, .ptr 2 0)] [mpO m, zO, .var T.api_Value (.p (.agg [.int .i64 6, .int .i64 0, .str [], .nils, .nils]))] [])
    (h0 : K (.exit 0) [(2, .ptr 1 0), (3, .ptr 2 0)] [mpO m, zO, .var T.api_Value (mpV 3 (Tree.encM (sortP m)).length), .arr T.api_Pair 6 (Tree.encM (sortP m))] []) :
    LoopW PP GG 27 1 (loopN F.jread_made_c 0) [(0, .mapr 0), (2, .ptr 1 0), (3, .ptr 2 0), (9, .p (.lst false (((sortP m).map (·.1)).map .str))), (10, .p (.int .i64 (sortP m).length)), (11, .p (.int .i64 0))]
      [mpO m, zO, .var T.api_Value (.p (.agg [.int .i64 6, .int .i64 0, .str [], .nils, .nils]))] [] (PostCl 27 K) := by
  have hsl := sortP_len m
  have hlp := made_loop m hnd hlen K h0
  cases hs : sortP m with
  | nil =>
    refine LoopW.round (pol := polG) mixP ?_
    conv => whnf
    repeat' ((first
     | ((with_reducible first | refine Br.dec ?_ ?_ | refine Br.ndec ?_ ?_) <;> intro hb <;> (try simp only [ZZ] at hb) <;> (first | omega | contradiction | skip))
     | (with_reducible first | refine Br.tt rfl ?_ | refine Br.ff rfl ?_ | refine Br.ff (isEmptyCons _ _) ?_)
     | (refine Side.mk ?_ ?_; focus (first | omega | (dsimp only [InR, Int.reduceToNat, IntKind.bits, Int.reducePow]; omega) | (simp [CC]; done) | (constructor <;> omega)))
     | with_reducible refine Br.not ?_
     | (with_reducible first | refine Br.tt (by assumption) ?_ | refine Br.ff (by assumption) ?_)
     | (refine Br.mk ?_ ?_ <;> intro hb <;> (try simp only [ZZ] at hb) <;> (first | omega | contradiction | skip))
     | refine Src.whole ⟨rfl, rfl⟩ ?_ | refine FrzV.whole ?_) <;> conv => whnf)
    · refine PostCl.of (hz hs) ?_ ?_
      · repeat first | exact trivial | refine ⟨VLe.refl _, ?_⟩
      · repeat first | exact trivial | refine ⟨by decide, ?_⟩
  | cons p l =>
    obtain ⟨k, t⟩ := p
    have hp : (sortP m)[0]? = some (k, t) := by rw [hs]; rfl
    have hpm : (k, t) ∈ m := (sortP_perm m).mem_iff.1 (List.mem_of_getElem? hp)
    have hg := get_mp hnd hpm
    have hks := keys_ok k (m.map (·.1))
    have hlp := hlp l.length 1 (by rw [hs, List.length_cons]; omega)
    rw [hs] at hlp
    have hll : ((k, t) :: l).length = l.length + 1 := rfl
    obtain ⟨a, b, c, d, e⟩ := t
    refine LoopW.round (pol := polG) mixP ?_
    conv => whnf
    repeat' ((first
     | ((with_reducible first | refine Br.dec ?_ ?_ | refine Br.ndec ?_ ?_) <;> intro hb <;> (try simp only [And.intro @hll (ZZ)] at hb) <;> (first | omega | contradiction | skip))
     | (with_reducible first | refine Br.tt rfl ?_ | refine Br.ff rfl ?_ | refine Br.ff (isEmptyCons _ _) ?_)
     | (refine Side.mk ?_ ?_; focus (first | omega | (dsimp only [InR, Int.reduceToNat, IntKind.bits, Int.reducePow]; omega) | exact ⟨rfl, rfl⟩ | exact pair_side (k, .mk a b c d e) | exact ⟨pair_side1 (k, .mk a b c d e), by show 1 * 192 ≤ _; omega⟩ | (simp [CC]; done) | (constructor <;> omega)))
     | with_reducible refine Br.not ?_
     | (with_reducible first | refine Br.tt (by assumption) ?_ | refine Br.ff (by assumption) ?_)
     | (refine Br.mk ?_ ?_ <;> intro hb <;> (try simp only [And.intro @hll (ZZ)] at hb) <;> (first | omega | contradiction | skip))
     | refine Src.whole ⟨rfl, rfl⟩ ?_ | refine FrzV.whole ?_
     | ((refine ElemZ.mk (.str k) rfl rfl ?_; conv => whnf))
     | ((refine MapG.mk _ hks hg ?_; conv => whnf))) <;> conv => whnf)
    refine LoopW.ren [0, 1, 2, 4] (hlp) (by repeat first | exact trivial | refine ⟨⟨rfl, VLe.refl _⟩, ?_⟩) (by repeat first | exact trivial | refine ⟨by decide, ?_⟩) rfl rfl
theorem jread_made (m : List (Str × Tree)) (hnd : (m.map (·.1)).Nodup) (hlen : m.length ≤ 1048576) (hstr : ∀ p ∈ m, p.1.length ≤ 1048576) :
    AbsCall PP GG F.jread_made [.mapr 0] [mpO m] ⟨.ret (.p (Tree.mk 6 0 [] [] (sortP m)).enc), [mpO m], []⟩ := by
  have hK := maps_Keys ((m.map (·.1)).map .str) (m.map fun p => p.2.enc)
  have hS := slices_Sorted m hnd hlen hstr
  have hsl := sortP_len m
  have hml : (((sortP m).map (·.1)).map PV.str).length = (sortP m).length := by simp
  refine absCall_of (pol := polG) mixP F.jread_made_is ?_
  conv => whnf
  repeat' ((first
   | ((with_reducible first | refine Br.dec ?_ ?_ | refine Br.ndec ?_ ?_) <;> intro hb <;> (try simp only [And.intro @hml (ZZ)] at hb) <;> (first | omega | contradiction | skip))
   | (with_reducible first | refine Br.tt rfl ?_ | refine Br.ff rfl ?_ | refine Br.ff (isEmptyCons _ _) ?_)
   | (refine Side.mk ?_ ?_; focus (first | omega | (dsimp only [InR, Int.reduceToNat, IntKind.bits, Int.reducePow]; omega) | (simp [CC]; done) | (constructor <;> omega)))
   | with_reducible refine Br.not ?_
   | (with_reducible first | refine Br.tt (by assumption) ?_ | refine Br.ff (by assumption) ?_)
   | (refine Br.mk ?_ ?_ <;> intro hb <;> (try simp only [And.intro @hml (ZZ)] at hb) <;> (first | omega | contradiction | skip))
   | refine Src.whole ⟨rfl, rfl⟩ ?_ | refine FrzV.whole ?_
   | refine CallW.use (hK) ?_
   | refine CallW.use (hS) ?_) <;> conv => whnf)
  rw [hml]
  refine LoopW.cl ?_
  refine LoopW.ren [0, 1, 2] (made_first m hnd hlen _ (.dead) (fun h => ?_) ?_) (by repeat first | exact trivial | refine ⟨⟨rfl, VLe.refl _⟩, ?_⟩) (by repeat first | exact trivial | refine ⟨by decide, ?_⟩) rfl rfl
  all_goals conv => whnf
  · rw [h]
    exact CLe.ret (tree_nils 6 0 [])
  · refine FrzV.mk _ (mpV_frz 3 (sortP m)) ?_
    conv => whnf
    refine FrzO.mk _ (congrArg (HO.var T.api_Value) (mpV_frz 3 (sortP m))) ?_
    conv => whnf
    refine FrzO.mk _ (congrArg (HO.var T.api_Value) (mpV_frz 3 (sortP m))) ?_
    conv => whnf
    exact CLe.ret (tree_mp (sortP m))
theorem put_mk {acc : List (Str × Tree)} {k : Str} (h : ¬ k ∈ acc.map (·.1)) (x : Tree) : putMK (.str k) ((acc.map (·.1)).map .str) = ((acc ++ [(k, x)]).map (·.1)).map .str := by
  unfold putMK
  rw [keyAt_none h]
  simp
theorem put_mv {acc : List (Str × Tree)} {k : Str} (h : ¬ k ∈ acc.map (·.1)) (x : Tree) : putMV (.str k) ((acc.map (·.1)).map .str) (.pure (acc.map fun p => p.2.enc)) (.p x.enc) = .pure ((acc ++ [(k, x)]).map fun p => p.2.enc) := by
  unfold putMV
  rw [keyAt_none h]
  simp
theorem get_none {acc : List (Str × Tree)} {k : Str} (h : ¬ k ∈ acc.map (·.1)) (vs : MV) : getM (.str k) ((acc.map (·.1)).map .str) vs = none := by
  unfold getM
  rw [keyAt_none h]
  rfl
theorem entries_loop (ws : List Wd) (hw : WsOk ws) (Q : Nat) (hv : ∀ q, q < Q → ValAt ws q) (d : Int) (hd0 : 0 ≤ d) (hd : d ≤ 32) (R : RR) (K : Post)
    (h0 : ∀ (t : Tree) (j : Nat) (m : Int), R = .ok (t, j, m) → ∀ H : Heap, K .ret [(4, .ptr 1 0)] (jrO ws j m :: .var T.api_Value (.p t.enc) :: H) [])
    (hp : ∀ e a : Int, R = .error (e, a) → ∀ H : Heap, K (.pan (wrongP e a)) [] (.dead :: H) []) :
    ∀ (q : Nat) (i : Nat) (n : Int) (acc : List (Str × Tree)), q ≤ Q → i < ws.length → 3 * (ws.length - i) + 2 ≤ q → 0 ≤ n → n ≤ 4096 → acc.length ≤ n → (acc.map (·.1)).Nodup → (∀ p ∈ acc, p.1.length ≤ 65536) → entriesR q ws d i n acc = R →
      LoopW PP GG 53 1 (loopN F.jread_reader_pairs_c 0) [(0, .ptr 0 0), (1, .p (.int .i64 d)), (4, .ptr 1 0), (5, .mapr 2)] [jrO ws i n, zO, mpO acc] [] (PostCl 53 K) := by
  intro q
  induction q with
  | zero => intro i n acc hq hi hf; omega
  | succ q ih =>
    intro i n acc hq hi hf hn0 hn1 hacc hnd hstr hR
    obtain ⟨hat, hmem⟩ := hw.at hi
    have hend := hw.end_ i hi
    have hws := hw.len
    have hl : ws.length ≤ 1073741824 := by omega
    have htx := (hw.text _ hmem).1
    have hW0 := reader_word ws i n _ hat hl
    rw [entriesR] at hR
    have hF4 := reader_failD ws i n 4 _ hat hl
    have hF5 := reader_failD ws i n 5 _ hat hl
    by_cases hk : (wdAt ws i).k = 2
    · rw [if_neg (by simp [hk])] at hR
      have hi1 := hend (by rw [hk]; decide)
      have hat1 := (hw.at hi1).1
      have hks := keys_ok (wdAt ws i).s (acc.map (·.1))
      generalize hwd : wdAt ws i = w at *
      obtain ⟨k, s, a⟩ := w
      simp only [] at hk htx hR hks
      subst hk
      cases hh : hasK acc s with
      | true =>
        rw [if_pos hh] at hR
        obtain ⟨⟨k', t⟩, hpm, he⟩ := List.mem_map.1 ((hasK_mem acc s).1 hh)
        simp only [] at he
        subst he
        have hg := get_mp hnd hpm
        obtain ⟨b, c, e, f, g⟩ := t
        refine LoopW.round (pol := polG) mixP ?_
        conv => whnf
        repeat' ((first
         | ((with_reducible first | refine Br.dec ?_ ?_ | refine Br.ndec ?_ ?_) <;> intro hb <;> (try simp only [ZZ] at hb) <;> (first | omega | contradiction | skip))
         | (with_reducible first | refine Br.tt rfl ?_ | refine Br.ff rfl ?_ | refine Br.ff (isEmptyCons _ _) ?_)
         | (refine Side.mk ?_ ?_; focus (first | omega | (dsimp only [InR, Int.reduceToNat, IntKind.bits, Int.reducePow]; omega) | (simp [CC]; done) | (constructor <;> omega)))
         | with_reducible refine Br.not ?_
         | (with_reducible first | refine Br.tt (by assumption) ?_ | refine Br.ff (by assumption) ?_)
         | (refine Br.mk ?_ ?_ <;> intro hb <;> (try simp only [ZZ] at hb) <;> (first | omega | contradiction | skip))
         | refine Src.whole ⟨rfl, rfl⟩ ?_ | refine FrzV.whole ?_
         | refine CallW.use (hW0) ?_
         | refine CallW.use (hF5) ?_
         | ((refine MapG.mk _ hks hg ?_; conv => whnf))) <;> conv => whnf)
        · refine PostCl.of (hp _ _ hR.symm _) ?_ ?_
          · repeat first | exact trivial | refine ⟨VLe.refl _, ?_⟩
          · repeat first | exact trivial | refine ⟨by decide, ?_⟩
      | false =>
        rw [if_neg (by rw [hh]; decide)] at hR
        have hnm : ¬ s ∈ acc.map (·.1) := fun h => by rw [(hasK_mem acc s).2 h] at hh; cases hh
        have hg := get_none hnm (.pure (acc.map fun p => p.2.enc))
        have hU := put_mk hnm
        have hUv := put_mv hnm
        cases h58 : isS (wdAt ws (i + 1)) [58] with
        | false =>
          rw [if_pos h58] at hR
          have hC := want_no (n := n) hat1 hl h58
          refine LoopW.round (pol := polG) mixP ?_
          conv => whnf
          repeat' ((first
           | ((with_reducible first | refine Br.dec ?_ ?_ | refine Br.ndec ?_ ?_) <;> intro hb <;> (try simp only [ZZ] at hb) <;> (first | omega | contradiction | skip))
           | (with_reducible first | refine Br.tt rfl ?_ | refine Br.ff rfl ?_ | refine Br.ff (isEmptyCons _ _) ?_)
           | (refine Side.mk ?_ ?_; focus (first | omega | (dsimp only [InR, Int.reduceToNat, IntKind.bits, Int.reducePow]; omega) | (simp [CC]; done) | (constructor <;> omega)))
           | with_reducible refine Br.not ?_
           | (with_reducible first | refine Br.tt (by assumption) ?_ | refine Br.ff (by assumption) ?_)
           | (refine Br.mk ?_ ?_ <;> intro hb <;> (try simp only [ZZ] at hb) <;> (first | omega | contradiction | skip))
           | refine Src.whole ⟨rfl, rfl⟩ ?_ | refine FrzV.whole ?_
           | refine CallW.use (hW0) ?_
           | refine CallW.use (hC) ?_
           | ((refine MapG.mk _ hks hg ?_; conv => whnf))) <;> conv => whnf)
          · refine PostCl.of (hp _ _ hR.symm _) ?_ ?_
            · repeat first | exact trivial | refine ⟨VLe.refl _, ?_⟩
            · repeat first | exact trivial | refine ⟨by decide, ?_⟩
        | true =>
          rw [if_neg (by rw [h58]; decide)] at hR
          have hC := want_yes (n := n) hat1 hl h58
          have hi2 := hw.end_ (i + 1) hi1 (by rw [(isS_k h58).1]; decide)
          have hV := hv q (by omega) (d + 1) (i + 2) n hi2 (by omega) (by omega) (by omega) hn0 hn1
          have hok := (okR_all hw q).1 (d + 1) (i + 2) n hi2
          cases hr : valR q ws (d + 1) (i + 2) n with
          | error e =>
            rw [hr] at hV hR
            obtain ⟨e, a⟩ := e
            refine LoopW.round (pol := polG) mixP ?_
            conv => whnf
            repeat' ((first
             | ((with_reducible first | refine Br.dec ?_ ?_ | refine Br.ndec ?_ ?_) <;> intro hb <;> (try simp only [ZZ] at hb) <;> (first | omega | contradiction | skip))
             | (with_reducible first | refine Br.tt rfl ?_ | refine Br.ff rfl ?_ | refine Br.ff (isEmptyCons _ _) ?_)
             | (refine Side.mk ?_ ?_; focus (first | omega | (dsimp only [InR, Int.reduceToNat, IntKind.bits, Int.reducePow]; omega) | (simp [CC]; done) | (constructor <;> omega)))
             | with_reducible refine Br.not ?_
             | (with_reducible first | refine Br.tt (by assumption) ?_ | refine Br.ff (by assumption) ?_)
             | (refine Br.mk ?_ ?_ <;> intro hb <;> (try simp only [ZZ] at hb) <;> (first | omega | contradiction | skip))
             | refine Src.whole ⟨rfl, rfl⟩ ?_ | refine FrzV.whole ?_
             | refine CallW.use (hW0) ?_
             | refine CallW.use (hC) ?_
             | refine CallW.use (hV) ?_
             | ((refine MapG.mk _ hks hg ?_; conv => whnf))) <;> conv => whnf)
            · refine PostCl.of (hp _ _ hR.symm _) ?_ ?_
              · repeat first | exact trivial | refine ⟨VLe.refl _, ?_⟩
              · repeat first | exact trivial | refine ⟨by decide, ?_⟩
          | ok x =>
            obtain ⟨x, j, m⟩ := x
            rw [hr] at hV hR hok
            obtain ⟨g1, g2, g3, g4⟩ := hok
            have hatj := (hw.at g2).1
            have hnd' : ((acc ++ [(s, x)]).map (·.1)).Nodup := by
              rw [List.map_append, List.map_cons, List.map_nil]
              refine List.nodup_append.2 ⟨hnd, by simp, ?_⟩
              intro a ha b hb
              rw [List.mem_singleton.1 hb]
              exact fun e => hnm (by rw [← show a = s from e]; exact ha)
            have hstr' : ∀ p ∈ acc ++ [(s, x)], p.1.length ≤ 65536 := by
              intro p hp
              rcases List.mem_append.1 hp with hp | hp
              · exact hstr p hp
              · rw [List.mem_singleton.1 hp]; exact htx
            have hal : (acc ++ [(s, x)]).length ≤ m := by rw [List.length_append, List.length_singleton]; omega
            have hU := hU x
            have hUv := hUv x
            dsimp only [] at hR
            cases h125 : isS (wdAt ws j) [125] with
            | true =>
              rw [if_pos h125] at hR
              have hT := take_yes (n := m) hatj hl h125
              have hM := jread_made (acc ++ [(s, x)]) hnd' (by omega) (fun p hp => Nat.le_trans (hstr' p hp) (by decide))
              refine LoopW.round (pol := polG) mixP ?_
              conv => whnf
              repeat' ((first
               | ((with_reducible first | refine Br.dec ?_ ?_ | refine Br.ndec ?_ ?_) <;> intro hb <;> (try simp only [ZZ] at hb) <;> (first | omega | contradiction | skip))
               | (with_reducible first | refine Br.tt rfl ?_ | refine Br.ff rfl ?_ | refine Br.ff (isEmptyCons _ _) ?_)
               | (refine Side.mk ?_ ?_; focus (first | omega | (dsimp only [InR, Int.reduceToNat, IntKind.bits, Int.reducePow]; omega) | (simp [CC]; done) | (constructor <;> omega)))
               | with_reducible refine Br.not ?_
               | (with_reducible first | refine Br.tt (by assumption) ?_ | refine Br.ff (by assumption) ?_)
               | (refine Br.mk ?_ ?_ <;> intro hb <;> (try simp only [ZZ] at hb) <;> (first | omega | contradiction | skip))
               | refine Src.whole ⟨rfl, rfl⟩ ?_ | refine FrzV.whole ?_
               | refine CallW.use (hW0) ?_
               | refine CallW.use (hC) ?_
               | refine CallW.use (hV) ?_
               | refine CallW.use (hT) ?_
               | refine CallW.use (hM) ?_
               | ((refine MapG.mk _ hks hg ?_; conv => whnf))
               | ((refine MapU.mk _ _ hks hU hUv ?_; conv => whnf))) <;> conv => whnf)
              · refine PostCl.of (h0 _ (j + 1) m hR.symm _) ?_ ?_
                · repeat first | exact trivial | refine ⟨VLe.refl _, ?_⟩
                · repeat first | exact trivial | refine ⟨by decide, ?_⟩
            | false =>
              rw [if_neg (by rw [h125]; decide)] at hR
              have hT := take_no (n := m) hatj hl h125
              cases h44 : isS (wdAt ws j) [44] with
              | true =>
                rw [if_pos h44] at hR
                have hW := want_yes (n := m) hatj hl h44
                refine LoopW.round (pol := polG) mixP ?_
                conv => whnf
                repeat' ((first
                 | ((with_reducible first | refine Br.dec ?_ ?_ | refine Br.ndec ?_ ?_) <;> intro hb <;> (try simp only [ZZ] at hb) <;> (first | omega | contradiction | skip))
                 | (with_reducible first | refine Br.tt rfl ?_ | refine Br.ff rfl ?_ | refine Br.ff (isEmptyCons _ _) ?_)
                 | (refine Side.mk ?_ ?_; focus (first | omega | (dsimp only [InR, Int.reduceToNat, IntKind.bits, Int.reducePow]; omega) | (simp [CC]; done) | (constructor <;> omega)))
                 | with_reducible refine Br.not ?_
                 | (with_reducible first | refine Br.tt (by assumption) ?_ | refine Br.ff (by assumption) ?_)
                 | (refine Br.mk ?_ ?_ <;> intro hb <;> (try simp only [ZZ] at hb) <;> (first | omega | contradiction | skip))
                 | refine Src.whole ⟨rfl, rfl⟩ ?_ | refine FrzV.whole ?_
                 | refine CallW.use (hW0) ?_
                 | refine CallW.use (hC) ?_
                 | refine CallW.use (hV) ?_
                 | refine CallW.use (hT) ?_
                 | refine CallW.use (hW) ?_
                 | ((refine MapG.mk _ hks hg ?_; conv => whnf))
                 | ((refine MapU.mk _ _ hks hU hUv ?_; conv => whnf))) <;> conv => whnf)
                refine LoopW.ren [0, 1, 2] (ih (j + 1) m (acc ++ [(s, x)]) (by omega) (hw.end_ j g2 (by rw [(isS_k h44).1]; decide)) (by omega) (by omega) g4 hal hnd' hstr' hR) (by repeat first | exact trivial | refine ⟨⟨rfl, VLe.refl _⟩, ?_⟩) (by repeat first | exact trivial | refine ⟨by decide, ?_⟩) rfl rfl
              | false =>
                rw [if_neg (by rw [h44]; decide)] at hR
                have hW := want_no (n := m) hatj hl h44
                refine LoopW.round (pol := polG) mixP ?_
                conv => whnf
                repeat' ((first
                 | ((with_reducible first | refine Br.dec ?_ ?_ | refine Br.ndec ?_ ?_) <;> intro hb <;> (try simp only [ZZ] at hb) <;> (first | omega | contradiction | skip))
                 | (with_reducible first | refine Br.tt rfl ?_ | refine Br.ff rfl ?_ | refine Br.ff (isEmptyCons _ _) ?_)
                 | (refine Side.mk ?_ ?_; focus (first | omega | (dsimp only [InR, Int.reduceToNat, IntKind.bits, Int.reducePow]; omega) | (simp [CC]; done) | (constructor <;> omega)))
                 | with_reducible refine Br.not ?_
                 | (with_reducible first | refine Br.tt (by assumption) ?_ | refine Br.ff (by assumption) ?_)
                 | (refine Br.mk ?_ ?_ <;> intro hb <;> (try simp only [ZZ] at hb) <;> (first | omega | contradiction | skip))
                 | refine Src.whole ⟨rfl, rfl⟩ ?_ | refine FrzV.whole ?_
                 | refine CallW.use (hW0) ?_
                 | refine CallW.use (hC) ?_
                 | refine CallW.use (hV) ?_
                 | refine CallW.use (hT) ?_
                 | refine CallW.use (hW) ?_
                 | ((refine MapG.mk _ hks hg ?_; conv => whnf))
                 | ((refine MapU.mk _ _ hks hU hUv ?_; conv => whnf))) <;> conv => whnf)
                · refine PostCl.of (hp _ _ hR.symm _) ?_ ?_
                  · repeat first | exact trivial | refine ⟨VLe.refl _, ?_⟩
                  · repeat first | exact trivial | refine ⟨by decide, ?_⟩
    · rw [if_pos hk] at hR
      generalize hwd : wdAt ws i = w at *
      obtain ⟨k, s, a⟩ := w
      simp only [] at hk
      refine LoopW.round (pol := polG) mixP ?_
      conv => whnf
      repeat' ((first
       | ((with_reducible first | refine Br.dec ?_ ?_ | refine Br.ndec ?_ ?_) <;> intro hb <;> (try simp only [ZZ] at hb) <;> (first | omega | contradiction | skip))
       | (with_reducible first | refine Br.tt rfl ?_ | refine Br.ff rfl ?_ | refine Br.ff (isEmptyCons _ _) ?_)
       | (refine Side.mk ?_ ?_; focus (first | omega | (dsimp only [InR, Int.reduceToNat, IntKind.bits, Int.reducePow]; omega) | (simp [CC]; done) | (constructor <;> omega)))
       | with_reducible refine Br.not ?_
       | (with_reducible first | refine Br.tt (by assumption) ?_ | refine Br.ff (by assumption) ?_)
       | (refine Br.mk ?_ ?_ <;> intro hb <;> (try simp only [ZZ] at hb) <;> (first | omega | contradiction | skip))
       | refine Src.whole ⟨rfl, rfl⟩ ?_ | refine FrzV.whole ?_
       | refine CallW.use (hW0) ?_
       | refine CallW.use (hF4) ?_) <;> conv => whnf)
      · refine PostCl.of (hp _ _ hR.symm _) ?_ ?_
        · repeat first | exact trivial | refine ⟨VLe.refl _, ?_⟩
        · repeat first | exact trivial | refine ⟨by decide, ?_⟩
theorem reader_pairs_step (ws : List Wd) (hw : WsOk ws) (q : Nat) (hv : ∀ p, p < q + 1 → ValAt ws p) : PairsAt ws (q + 1) := by
  intro d i n hi hq h0 h1 h2 h3
  have hat := (hw.at hi).1
  have hws := hw.len
  have hl : ws.length ≤ 1073741824 := by omega
  rw [pairsR]
  cases h93 : isS (wdAt ws i) [125] with
  | true =>
    rw [if_pos rfl]
    have hT := take_yes (n := n) hat hl h93
    have hM := jread_made [] (by simp) (by simp) (by simp)
    refine absCall_of (pol := polG) mixP F.jread_reader_pairs_is ?_
    conv => whnf
    repeat' ((first
     | ((with_reducible first | refine Br.dec ?_ ?_ | refine Br.ndec ?_ ?_) <;> intro hb <;> (try simp only [ZZ] at hb) <;> (first | omega | contradiction | skip))
     | (with_reducible first | refine Br.tt rfl ?_ | refine Br.ff rfl ?_ | refine Br.ff (isEmptyCons _ _) ?_)
     | (refine Side.mk ?_ ?_; focus (first | omega | (dsimp only [InR, Int.reduceToNat, IntKind.bits, Int.reducePow]; omega) | (simp [CC]; done) | (constructor <;> omega)))
     | with_reducible refine Br.not ?_
     | (with_reducible first | refine Br.tt (by assumption) ?_ | refine Br.ff (by assumption) ?_)
     | (refine Br.mk ?_ ?_ <;> intro hb <;> (try simp only [ZZ] at hb) <;> (first | omega | contradiction | skip))
     | refine Src.whole ⟨rfl, rfl⟩ ?_ | refine FrzV.whole ?_
     | refine CallW.use (hT) ?_
     | refine CallW.use (hM) ?_) <;> conv => whnf)
    exact CLe.refl _
  | false =>
    rw [if_neg (by decide)]
    have hT := take_no (n := n) hat hl h93
    have hlp := entries_loop ws hw q (fun r hr => hv r (by omega)) d h0 h1 (entriesR q ws d i n [])
    generalize hR : entriesR q ws d i n [] = R at *
    refine absCall_of (pol := polG) mixP F.jread_reader_pairs_is ?_
    conv => whnf
    repeat' ((first
     | ((with_reducible first | refine Br.dec ?_ ?_ | refine Br.ndec ?_ ?_) <;> intro hb <;> (try simp only [ZZ] at hb) <;> (first | omega | contradiction | skip))
     | (with_reducible first | refine Br.tt rfl ?_ | refine Br.ff rfl ?_ | refine Br.ff (isEmptyCons _ _) ?_)
     | (refine Side.mk ?_ ?_; focus (first | omega | (dsimp only [InR, Int.reduceToNat, IntKind.bits, Int.reducePow]; omega) | (simp [CC]; done) | (constructor <;> omega)))
     | with_reducible refine Br.not ?_
     | (with_reducible first | refine Br.tt (by assumption) ?_ | refine Br.ff (by assumption) ?_)
     | (refine Br.mk ?_ ?_ <;> intro hb <;> (try simp only [ZZ] at hb) <;> (first | omega | contradiction | skip))
     | refine Src.whole ⟨rfl, rfl⟩ ?_ | refine FrzV.whole ?_
     | refine CallW.use (hT) ?_) <;> conv => whnf)
    refine LoopW.cl ?_
    refine LoopW.ren [0, 1, 2] (hlp _ (fun t j m h H => ?_) (fun e a h H => ?_) q i n [] (Nat.le_refl _) hi (by omega) h2 h3 (by simpa using h2) (by simp) (by simp) hR) (by repeat first | exact trivial | refine ⟨⟨rfl, VLe.refl _⟩, ?_⟩) (by repeat first | exact trivial | refine ⟨by decide, ?_⟩) rfl rfl
    all_goals conv => whnf
    · subst h
      obtain ⟨x1, x2, x3, x4, x5⟩ := t
      exact CLe.refl _
    · subst h
      exact CLe.refl _
theorem reader_all (ws : List Wd) (hw : WsOk ws) : ∀ q, (∀ p, p < q + 1 → ValAt ws p) := by
  intro q
  induction q with
  | zero =>
    intro p hp d i n hi hq
    omega
  | succ q ih =>
    intro p hp
    rcases Nat.lt_or_ge p (q + 1) with h | h
    · exact ih p h
    · obtain rfl : p = q + 1 := by omega
      refine reader_value_step ws hw q ?_ ?_
      · rcases q with _ | q
        · intro d i n hi hq; omega
        · exact reader_list_step ws hw q fun p hp => ih p (by omega)
      · rcases q with _ | q
        · intro d i n hi hq; omega
        · exact reader_pairs_step ws hw q fun p hp => ih p (by omega)
theorem reader_value (ws : List Wd) (hw : WsOk ws) (q : Nat) : ValAt ws q := reader_all ws hw q q (by omega)
def seqL : Code → Code
  | .seq a _ => a
  | c => c
def seqR : Code → Code
  | .seq _ b => b
  | c => c
noncomputable abbrev whole_cl : Code := F.jread_whole_1_c.getD .skip
theorem cl_shape : ∃ o0 o1 : Oper, whole_cl = .seq (.region 0 #[o0, o1] false) (seqR whole_cl) ∧ o0.op = .call ⟨.builtin .recover, #[], #[]⟩ ∧ o0.dst = some 6 ∧ o0.guard = none ∧ o1.op = .assign (.tmp 6) ∧ o1.dst = some 3 ∧ o1.guard = none :=
  ⟨_, _, rfl, rfl, rfl, rfl, rfl, rfl, rfl⟩
theorem cl_run {B : Nat → Prop} {L : Am.Loc} {w : World} {vs : List Value} {H : Heap} (hst : St B L w H) (ha : VRelL B L w [.ptr 0 0, .ptr 1 0, .ptr 2 0] vs) (hg : GOk GG B w) (x : V) (y : Value) (hy : VRel B L w x y) (u u' : FrameMode)
    (hrec : ∀ (c₀ : Frame) (cs : List Frame), c₀.mode = u → recoverD (c₀ :: cs) = some (y, { c₀ with mode := u' } :: cs) ∨ (recoverD (c₀ :: cs) = none ∧ y = .nilIface ∧ u' = u))
    (K : Post) (hW : W PP GG polG 23 4 (seqR whole_cl) [(3, x), (6, x), (0, .ptr 0 0), (1, .ptr 1 0), (2, .ptr 2 0)] H [] K) (hK : ∀ ex σ H' mv', K ex σ H' mv' → ex = .normal ∧ mv' = []) :
    CallsD PP F.jread_whole_1 vs.toArray u w fun e u2 w' => (∃ r, e = .returned r) ∧ u2 = u' ∧ ∃ ex σ H' B' L', K ex σ H' [] ∧ FS 4 B L w H [] B' L' w' H' [] ∧ St B' L' w' H' := by
  obtain ⟨⟨fn, hfn, hbody, hnt, hrs, hname⟩, _, hok⟩ := F.jread_whole_1_is
  obtain ⟨o0, o1, hc, h0, hd0, hg0, h1, hd1, hg1⟩ := cl_shape
  refine callsD_of_wpS hfn hbody fun c₀ cs hm => ?_
  show whole_cl.wpS PP _ _ _ _
  have hargs : vs.length = 3 := ha.1.symm
  have he : ERel B L w (toEnv 23 [(0, .ptr 0 0), (1, .ptr 1 0), (2, .ptr 2 0)]) (vs.toArray ++ Array.replicate (fn.ntmps - vs.toArray.size) undef) := by
    have e : (vs.toArray ++ Array.replicate (fn.ntmps - vs.toArray.size) undef).toList = vs ++ List.replicate 20 undef := by
      rw [Array.toList_append, Array.toList_replicate, List.size_toArray, hargs, hnt]
    have e2 : toEnv 23 [(0, .ptr 0 0), (1, .ptr 1 0), (2, .ptr 2 0)] = [.ptr 0 0, .ptr 1 0, .ptr 2 0] ++ List.replicate 20 V.junk := rfl
    rw [e2]
    unfold ERel
    rw [e]
    refine ha.append ⟨by simp, fun i x y hx _ => ?_⟩
    rw [List.getElem?_replicate] at hx
    split at hx
    · cases hx; exact .junk _
    · cases hx
  generalize vs.toArray ++ Array.replicate (fn.ntmps - vs.toArray.size) undef = tmps at he
  -- what comes behind the recover
  have rest : ∀ cs', cs' = { c₀ with mode := u' } :: cs → ((seqR whole_cl).wpS PP (bodyPostS PP fn c₀ cs fun e u2 w' => (∃ r, e = .returned r) ∧ u2 = u' ∧ ∃ ex σ H' B' L', K ex σ H' [] ∧ FS 4 B L w H [] B' L' w' H' [] ∧ St B' L' w' H')
      ((({ tmps := tmps, defers := [] } : Act).put (some 6) y).put (some 3) y) cs' w) := by
    intro cs' hcs
    refine wpS_of_wp ?_
    have he1 := (he.put (a := { tmps := tmps, defers := [] }) (some 6) hy).put (a := ({ tmps := tmps, defers := [] } : Act).put (some 6) y) (some 3) hy
    simp only [putO, toEnv_set] at he1
    have hb : Bdd 23 ([(3, x), (6, x), (0, .ptr 0 0), (1, .ptr 1 0), (2, .ptr 2 0)] : Env) := BddL.bdd ⟨by decide, by decide, by decide, by decide, by decide, trivial⟩
    refine W_sound mixP _ hW hb hst he1 hg fun e a' w' hp => ?_
    obtain ⟨ex, σ1, H1, mv1, hK1, hb1, B1, L1, hfs, he2, hst1, hk1, hd1, hm1⟩ := hp
    obtain ⟨rfl, rfl⟩ := hK _ _ _ _ hK1
    cases e with
    | normal =>
      obtain ⟨v, hv, _⟩ := results_run (fr := ⟨toEnv 23 σ1, H1, 4, []⟩) (fn := fn) (vs := []) hst1 he2 (by rw [hrs]; rfl)
      exact ⟨hd1, u', hcs, v, hv, ⟨v, rfl⟩, rfl, _, _, _, B1, L1, hK1, hfs, hst1⟩
    | _ => exact hm1.elim
  rw [hc]
  refine wpS_seq (wpS_region ?_)
  have hl : List.range (#[o0, o1] : Array Oper).size = [0, 1] := rfl
  rw [hl]
  have hsz : tmps.size = 23 := by have := he.1; simp at this; rw [← this]; rfl
  have e0 : (execOp ({ tmps := tmps, defers := [] } : Act).eval o0).run PP w = .ok .recover w := by
    simp [execOp, h0, resolve, invoke, builtin, Result.andThen]
  have e1 : ∀ z : Value, (execOp (({ tmps := tmps, defers := [] } : Act).put (some 6) z).eval o1).run PP w = .ok (.value z) w := by
    intro z
    simp [execOp, h1, Act.eval, Act.put, Array.getD, hsz]
  have ho0 : (#[o0, o1] : Array Oper)[0]? = some o0 := rfl
  have ho1 : (#[o0, o1] : Array Oper)[1]? = some o1 := rfl
  rcases hrec c₀ cs hm with hr | ⟨hr, rfl, rfl⟩
  · simp only [wpOpsS, ho0, ho1, Region.wanted, hg0, hg1, if_true, e0, hr, hd0, e1, Oper.upon_value, hd1, Exit.thenS]
    exact rest _ rfl
  · simp only [wpOpsS, ho0, ho1, Region.wanted, hg0, hg1, if_true, e0, hr, hd0, e1, Oper.upon_value, hd1, Exit.thenS]
    exact rest _ (by rw [← hm])
def whH (t : Str) (v f : PV) (o : HO) : Heap := [.var T.string (.p (.str t)), .var T.api_Value (.p v), .var T.api_Fault (.p f), o]
def whE (t : Str) (v f : PV) : Post := fun ex _ H mv => ex = .normal ∧ mv = [] ∧ ∃ o, H = [.var T.string (.p (.str t)), .var T.api_Value (.p v), .var T.api_Fault (.p f), .dead, o]
theorem cl_none (t : Str) (v f : PV) {B : Nat → Prop} {L : Am.Loc} {w : World} {vs : List Value} (hst : St B L w (whH t v f .dead)) (ha : VRelL B L w [.ptr 0 0, .ptr 1 0, .ptr 2 0] vs) (hg : GOk GG B w) :
    CallsD PP F.jread_whole_1 vs.toArray .returning w fun e u2 w' => (∃ r, e = .returned r) ∧ u2 = .returning ∧ ∃ ex σ H' B' L', whE t v f ex σ H' [] ∧ FS 4 B L w (whH t v f .dead) [] B' L' w' H' [] ∧ St B' L' w' H' := by
  refine cl_run hst ha hg (.p .nili) .nilIface (.p _ _ .nili) .returning .returning (fun c₀ cs hm => .inr ⟨?_, rfl, rfl⟩) (whE t v f) ?_ (fun ex σ H' mv' h => ⟨h.1, h.2.1⟩)
  · simp [recoverD, hm]
  · unfold whH
    conv => whnf
    repeat' ((first
     | ((with_reducible first | refine Br.dec ?_ ?_ | refine Br.ndec ?_ ?_) <;> intro hb <;> (try simp only [ZZ] at hb) <;> (first | omega | contradiction | skip))
     | (with_reducible first | refine Br.tt rfl ?_ | refine Br.ff rfl ?_ | refine Br.ff (isEmptyCons _ _) ?_)
     | (refine Side.mk ?_ ?_; focus (first | omega | (dsimp only [InR, Int.reduceToNat, IntKind.bits, Int.reducePow]; omega) | (simp [CC]; done) | (constructor <;> omega)))
     | with_reducible refine Br.not ?_
     | (with_reducible first | refine Br.tt (by assumption) ?_ | refine Br.ff (by assumption) ?_)
     | (refine Br.mk ?_ ?_ <;> intro hb <;> (try simp only [ZZ] at hb) <;> (first | omega | contradiction | skip))
     | refine Src.whole ⟨rfl, rfl⟩ ?_ | refine FrzV.whole ?_) <;> conv => whnf)
    exact ⟨rfl, rfl, _, rfl⟩
theorem cl_some (t : Str) (ht : t.length ≤ 1073741824) (e a : Int) (ha0 : -1073741824 ≤ a ∧ a ≤ 1073741824) (a1 a2 a3 a4 a5 : PV) {B : Nat → Prop} {L : Am.Loc} {w : World} {vs : List Value} (hst : St B L w (whH t (.agg [a1, a2, a3, a4, a5]) noFault .dead)) (ha : VRelL B L w [.ptr 0 0, .ptr 1 0, .ptr 2 0] vs) (hg : GOk GG B w) (y : Value) (hy : VRel B L w (wrongP e a) y) :
    CallsD PP F.jread_whole_1 vs.toArray (.panicking [⟨y, false, false⟩]) w fun e' u2 w' => (∃ r, e' = .returned r) ∧ u2 = .panicking [⟨y, true, false⟩] ∧ ∃ ex σ H' B' L', whE t (.agg [.int .i64 0, .int .i64 0, .str [], .nils, .nils]) (faultP t a e) ex σ H' [] ∧ FS 4 B L w (whH t (.agg [a1, a2, a3, a4, a5]) noFault .dead) [] B' L' w' H' [] ∧ St B' L' w' H' := by
  have hF := place_Fault t a e ha0 ht
  refine cl_run hst ha hg (wrongP e a) y hy (.panicking [⟨y, false, false⟩]) (.panicking [⟨y, true, false⟩]) (fun c₀ cs hm => .inl ?_) (whE t (.agg [.int .i64 0, .int .i64 0, .str [], .nils, .nils]) (faultP t a e)) ?_ (fun ex σ H' mv' h => ⟨h.1, h.2.1⟩)
  · simp [recoverD, hm]
  · unfold whH noFault
    conv => whnf
    repeat' ((first
     | ((with_reducible first | refine Br.dec ?_ ?_ | refine Br.ndec ?_ ?_) <;> intro hb <;> (try simp only [ZZ] at hb) <;> (first | omega | contradiction | skip))
     | (with_reducible first | refine Br.tt rfl ?_ | refine Br.ff rfl ?_ | refine Br.ff (isEmptyCons _ _) ?_)
     | (refine Side.mk ?_ ?_; focus (first | omega | (dsimp only [InR, Int.reduceToNat, IntKind.bits, Int.reducePow]; omega) | (simp [CC]; done) | (constructor <;> omega)))
     | with_reducible refine Br.not ?_
     | (with_reducible first | refine Br.tt (by assumption) ?_ | refine Br.ff (by assumption) ?_)
     | (refine Br.mk ?_ ?_ <;> intro hb <;> (try simp only [ZZ] at hb) <;> (first | omega | contradiction | skip))
     | refine Src.whole ⟨rfl, rfl⟩ ?_ | refine FrzV.whole ?_
     | refine CallW.use (hF) ?_) <;> conv => whnf)
    exact ⟨rfl, rfl, _, rfl⟩
end Go.Proofs.YtoinkmogdfjmmaaGreatDoor
end
