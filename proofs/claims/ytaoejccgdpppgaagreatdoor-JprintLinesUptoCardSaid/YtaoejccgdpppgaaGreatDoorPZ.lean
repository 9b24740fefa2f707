/-
JprintLines.
The given statement JprintLinesUptoCardSaid, proved: for every input of bulk at most 1048576, the law of package dragomanlaw9 called with it returns true and the arguments read as they did. No further condition.
What is written in lines, without blanks and ends of lines, is what is written in one.
One byte, kept or not.
The statements of layer 9: JprintLines.
The row of JprintLines.
-/
import Derived.Test.YtaoejccgdpppgaaGreatDoorPI
import Derived.Test.YtaoejccgdpppgaaGreatDoorPH
import Derived.Test.YtaoejccgdpppgaaGreatDoorPJ
import Derived.Test.YtaoejccgdpppgaaGreatDoorPK

section
namespace Go.Am
open Go
/-- no blank, no end of a line -/
def keepB (b : UInt8) : Bool := !decide ((b.toNat : Int) = 32) && !decide ((b.toNat : Int) = 10)
def sq (s : Str) : Str := s.filter keepB
theorem sq_append (s r : Str) : sq (s ++ r) = sq s ++ sq r := List.filter_append _ _
theorem sq_cons (c : UInt8) (s : Str) : sq (c :: s) = sq [c] ++ sq s := sq_append [c] s
theorem sq_id {s : Str} (h : ∀ b ∈ s, 11 ≤ b.toNat ∧ b.toNat ≠ 32) : sq s = s := by
  unfold sq
  rw [List.filter_eq_self]
  intro b hb
  have := h b hb
  unfold keepB
  rw [decide_eq_false (by omega), decide_eq_false (by omega)]
  rfl
theorem sq_line (d : Int) : sq (lineL d) = [] := by
  unfold lineL
  split
  · rfl
  · unfold sq
    rw [List.filter_eq_nil_iff]
    intro b hb
    rcases List.mem_cons.1 hb with rfl | hb
    · decide
    · generalize d.toNat = n at hb
      induction n with
      | zero => cases hb
      | succ n ih =>
        rw [show Lib.repeatL [32, 32] (n + 1) = [32, 32] ++ Lib.repeatL [32, 32] n from rfl] at hb
        rcases List.mem_append.1 hb with hb | hb
        · simp at hb; subst hb; decide
        · exact ih hb
theorem sq_colon (d : Int) : sq (colonL d) = [58] := by unfold colonL; split <;> decide
/-! ### leaves have no byte below 32 -/
def Ge (n : Nat) (s : Str) : Prop := ∀ b ∈ s, n ≤ b.toNat
theorem Ge.app {n : Nat} {s r : Str} (h1 : Ge n s) (h2 : Ge n r) : Ge n (s ++ r) := fun b hb => (List.mem_append.1 hb).elim (h1 b) (h2 b)
theorem Ge.cons {n : Nat} {c : UInt8} {s : Str} (h1 : n ≤ c.toNat) (h2 : Ge n s) : Ge n (c :: s) := fun b hb => (List.mem_cons.1 hb).elim (fun e => by rw [e]; exact h1) (h2 b)
theorem Ge.nil {n : Nat} : Ge n [] := fun b hb => by cases hb
theorem ge_dig {s : Str} (h : ∀ b ∈ s, dig b = true) : Ge 43 s := fun b hb => by
  have := h b hb
  unfold dig at this
  rw [decide_eq_true_eq] at this
  omega
theorem ge_run {s : Str} (h : Ge 43 (s.drop (runL s))) : Ge 43 s := by
  have := Ge.app (ge_dig (take_dig s)) h
  rwa [List.take_append_drop] at this
theorem ge_cons {s : Str} (h1 : 43 ≤ b0 s) (h : Ge 43 (s.drop 1)) : Ge 43 s := by
  cases s with
  | nil => exact Ge.nil
  | cons c s => exact Ge.cons (by simpa [b0] using h1) (by simpa using h)
theorem ge_E {neg : Bool} {w f p d : Str} (h : (partsE neg w f p d).2.2.2.2 = true) : Ge 43 d := by
  unfold partsE at h
  split at h
  · cases h
  · rename_i hc
    exact ge_dig (runL_dig (by omega))
theorem ge_D {neg : Bool} {w f s : Str} (h : (partsD neg w f s).2.2.2.2 = true) : Ge 43 s := by
  unfold partsD at h
  split at h
  · rename_i h0
    obtain rfl := List.eq_nil_of_length_eq_zero h0
    exact Ge.nil
  · split at h
    · cases h
    · refine ge_cons (by omega) ?_
      split at h
      · exact ge_cons (by omega) (ge_E h)
      · exact ge_E h
theorem ge_C {neg : Bool} {w s : Str} (h : (partsC neg w s).2.2.2.2 = true) : Ge 43 s := by
  unfold partsC at h
  split at h
  · split at h
    · cases h
    · exact ge_cons (by omega) (ge_run (ge_D h))
  · exact ge_D h
theorem ge_B {neg : Bool} {s : Str} (h : (partsB neg s).2.2.2.2 = true) : Ge 43 s := by
  unfold partsB at h
  split at h
  · cases h
  · exact ge_run (ge_C h)
theorem ge_num {s : Str} (h : numL s = true) : Ge 43 s := by
  rw [numL_eq] at h
  unfold okP at h
  simp only [Bool.and_eq_true, decide_eq_true_eq] at h
  have h := h.1.1
  unfold numParts at h
  split at h
  · exact ge_cons (by omega) (ge_B h)
  · exact ge_B h
theorem ge_u8 {n m : Nat} (h : n ≤ m) (h2 : m < 256) : n ≤ (UInt8.ofNat m).toNat := by
  rw [UInt8.toNat_ofNat', Nat.mod_eq_of_lt h2]; exact h
theorem ge_digits : ∀ n : Nat, Ge 43 (Lib.decDigits n) := by
  intro n
  induction n using Nat.strongRecOn with
  | ind n ih =>
    rw [Lib.decDigits]
    split
    · exact Ge.cons (ge_u8 (by omega) (by omega)) Ge.nil
    · exact Ge.app (ih _ (by omega)) (Ge.cons (ge_u8 (by omega) (by omega)) Ge.nil)
theorem ge_itoa (z : Int) : Ge 43 (Lib.itoa z) := by
  by_cases h : 0 ≤ z
  · obtain ⟨u, rfl⟩ := Int.eq_ofNat_of_zero_le h
    rw [Lib.itoa_nonneg]
    exact ge_digits u
  · obtain ⟨u, hu⟩ := Int.eq_ofNat_of_zero_le (show 0 ≤ -z by omega)
    rw [show z = -(u : Int) by omega, Lib.itoa_neg u (by omega)]
    exact Ge.cons (by decide) (ge_digits u)
theorem ge_enc (r : Int) (h0 : 32 ≤ r) : Ge 32 (utfEnc r) := by
  unfold utfEnc
  split
  · exact Ge.nil
  · rename_i hg
    have hg : r ≤ 1114111 := by unfold utfGood at hg; simp at hg; omega
    repeat' split
    · exact Ge.cons (ge_u8 (by omega) (by omega)) Ge.nil
    · exact Ge.cons (ge_u8 (by omega) (by omega)) (Ge.cons (ge_u8 (by omega) (by omega)) Ge.nil)
    · exact Ge.cons (ge_u8 (by omega) (by omega)) (Ge.cons (ge_u8 (by omega) (by omega)) (Ge.cons (ge_u8 (by omega) (by omega)) Ge.nil))
    · exact Ge.cons (ge_u8 (by omega) (by omega)) (Ge.cons (ge_u8 (by omega) (by omega)) (Ge.cons (ge_u8 (by omega) (by omega)) (Ge.cons (ge_u8 (by omega) (by omega)) Ge.nil)))
theorem ge_esc (r : Int) (h0 : 0 ≤ r) : Ge 32 (escR r) := by
  by_cases h : r < 32
  · obtain ⟨n, rfl⟩ := Int.eq_ofNat_of_zero_le h0
    have key : ∀ n : Nat, n < 32 → ∀ b ∈ escR (n : Int), 32 ≤ b.toNat := by decide +kernel
    exact key n (by omega)
  · have : escR r = utfEnc r ∨ Ge 32 (escR r) := by
      unfold escR
      repeat' split
      all_goals first | exact .inl rfl | (right; intro b hb; revert b; decide) | omega
    rcases this with h2 | h2
    · rw [h2]; exact ge_enc r (by omega)
    · exact h2
theorem letR_pos (s : Str) : 0 ≤ letR s := by
  unfold letR
  split
  · omega
  · rename_i h
    have := (utfTake_r s).resolve_left h
    unfold utfGood at this
    rw [decide_eq_true_eq] at this
    omega
theorem ge_quoteL : ∀ (q : Nat) (s : Str), Ge 32 (quoteL q s)
  | 0, s => by rw [quoteL]; exact Ge.nil
  | q + 1, [] => by rw [quoteL]; exact Ge.nil
  | q + 1, c :: cs => by
    rw [quoteL, escR_eq]
    exact Ge.app (ge_esc _ (letR_pos _)) (ge_quoteL q _)
theorem ge_quote (s : Str) : Ge 32 (quoteS s) := by
  unfold quoteS
  exact Ge.cons (by decide) (Ge.app (ge_quoteL _ _) (Ge.cons (by decide) Ge.nil))
/-- has a text no blank? -/
def NoB (s : Str) : Prop := ∀ b ∈ s, b.toNat ≠ 32
theorem NoB.l {s r : Str} (h : NoB (s ++ r)) : NoB s := fun b hb => h b (List.mem_append_left _ hb)
theorem NoB.r {s r : Str} (h : NoB (s ++ r)) : NoB r := fun b hb => h b (List.mem_append_right _ hb)
theorem NoB.t {c : UInt8} {s : Str} (h : NoB (c :: s)) : NoB s := fun b hb => h b (List.mem_cons_of_mem _ hb)
theorem sq_ge {n : Nat} (hn : 11 ≤ n) {s : Str} (h : Ge n s) (hb : NoB s) : sq s = s := sq_id fun b hm => ⟨Nat.le_trans hn (h b hm), hb b hm⟩
theorem lines_law : ∀ t : Tree, goodT t = true → NoB (printT t (-1)) → ∀ d : Int, -1 ≤ d → sq (printT t d) = printT t (-1) := by
  refine Tree.ind fun t hl hm hg hb d hd => ?_
  obtain ⟨_, hn, hr, hgl, hgm⟩ := goodT_spec hg
  have hdd : deeper (-1) = -1 := rfl
  have hdp : -1 ≤ deeper d := by unfold deeper; split <;> omega
  have hL : ∀ (l : List Tree) (f : Bool), (∀ x ∈ l, x ∈ t.l) → NoB (printL f l (-1)) → sq (printL f l (deeper d)) = printL f l (-1) := by
    intro l
    induction l with
    | nil => intro f _ _; rfl
    | cons x l ih =>
      intro f hx hb
      rw [printL] at hb ⊢
      rw [printL]
      have e : sq (if f = true then ([] : Str) else [44]) = if f = true then [] else [44] := by split <;> decide
      rw [sq_append, sq_append, sq_append, e, sq_line, hl x (hx x (by simp)) (hgl x (hx x (by simp))) hb.r.r.l _ hdp, ih false (fun y hy => hx y (by simp [hy])) hb.r.r.r]
      rfl
  have hM : ∀ (l : List (Str × Tree)) (f : Bool), (∀ x ∈ l, x ∈ t.m) → NoB (printM f l (-1)) → sq (printM f l (deeper d)) = printM f l (-1) := by
    intro l
    induction l with
    | nil => intro f _ _; rfl
    | cons x l ih =>
      intro f hx hb
      obtain ⟨k, y⟩ := x
      rw [printM, printP] at hb ⊢
      rw [printM, printP]
      have e : sq (if f = true then ([] : Str) else [44]) = if f = true then [] else [44] := by split <;> decide
      have hq : sq (quoteS k) = quoteS k := sq_ge (by omega) (ge_quote k) hb.r.r.l.l
      have hy := hm (k, y) (hx (k, y) (by simp)) (hgm (k, y) (hx (k, y) (by simp))).2 hb.r.r.l.r.r _ hdp
      simp only [] at hy
      rw [sq_append, sq_append, sq_append, sq_append, sq_append, e, sq_line, sq_colon, hq, hy, ih false (fun y hy => hx y (by simp [hy])) hb.r.r.r]
      rfl
  rw [printT_eq] at hb ⊢
  rw [printT_eq]
  rw [hdd] at hb ⊢
  by_cases h0 : t.kind = 0
  · rw [if_pos h0, if_pos h0]; decide
  rw [if_neg h0] at hb
  rw [if_neg h0, if_neg h0]
  by_cases h1 : t.kind = 1
  · rw [if_pos h1, if_pos h1]; split <;> decide
  rw [if_neg h1] at hb
  rw [if_neg h1, if_neg h1]
  by_cases h2 : t.kind = 2
  · rw [if_pos h2] at hb
    rw [if_pos h2, if_pos h2]; exact sq_ge (by omega) (ge_itoa _) hb
  rw [if_neg h2] at hb
  rw [if_neg h2, if_neg h2]
  by_cases h3 : t.kind = 3
  · rw [if_pos h3] at hb
    rw [if_pos h3, if_pos h3]
    refine sq_ge (by omega) (ge_num (s := t.s) ?_) hb
    unfold nodeOk at hn
    rw [if_neg (by omega), if_neg h1, if_pos h3, Bool.and_eq_true] at hn
    exact hn.1
  rw [if_neg h3] at hb
  rw [if_neg h3, if_neg h3]
  by_cases h4 : t.kind = 4 ∨ t.kind = 7
  · rw [if_pos h4] at hb
    rw [if_pos h4, if_pos h4]; exact sq_ge (by omega) (ge_quote _) hb
  rw [if_neg h4] at hb
  rw [if_neg h4, if_neg h4]
  by_cases h6 : t.kind = 6
  · rw [if_pos h6] at hb
    rw [if_pos h6, if_pos h6]
    by_cases hz : t.m.length = 0
    · rw [if_pos hz, if_pos hz]; decide
    · rw [if_neg hz] at hb
      rw [if_neg hz, if_neg hz]
      rw [sq_cons, sq_append, sq_append, sq_line, hM t.m true (fun _ h => h) hb.t.l]
      rfl
  · rw [if_neg h6] at hb
    rw [if_neg h6, if_neg h6]
    by_cases hz : t.l.length = 0
    · rw [if_pos hz, if_pos hz]; decide
    · rw [if_neg hz] at hb
      rw [if_neg hz, if_neg hz]
      rw [sq_cons, sq_append, sq_append, sq_line, hL t.l true (fun _ h => h) hb.t.l]
      rfl
end Go.Am
end

section
namespace Go.Am
theorem sq_keep {b : UInt8} (h1 : ¬ (b.toNat : Int) = 32) (h2 : ¬ (b.toNat : Int) = 10) : sq [b] = [b] := by
  unfold sq keepB
  rw [List.filter_cons, decide_eq_false h1, decide_eq_false h2]; rfl
theorem sq_drop {b : UInt8} (h : (b.toNat : Int) = 32 ∨ (b.toNat : Int) = 10) : sq [b] = [] := by
  unfold sq keepB
  rw [List.filter_cons, if_neg, List.filter_nil]
  rcases h with h | h
  · rw [decide_eq_true h]; simp
  · rw [decide_eq_true h]; simp
end Go.Am
end

section
namespace Go.Proofs.YtaoejccgdpppgaaGreatDoor
open Go Go.Am
set_option maxRecDepth 100000
theorem lines_loop1 (v : PV) (s : Str) (hs : s.length ≤ 70368744177664) (K : Post) (h0 : NoB s → K (.exit 0) [(1, .ptr 0 0), (3, .p (.str s))] [.var T.api_Value (.p v)] [])
    (hr : K .ret [(2, .p (.bool true))] [.var T.api_Value (.p v)] []) :
    ∀ (q i : Nat), i + q = s.length → NoB (s.take i) →
      LoopW PP GG 58 0 (loopN F.law9_JprintLines_c 0) [(1, .ptr 0 0), (3, .p (.str s)), (4, .p (.int .i64 i))] [.var T.api_Value (.p v)] [] (PostCl 58 K) := by
  intro q
  induction q with
  | zero =>
    intro i hi hn
    rw [List.take_of_length_le (by omega)] at hn
    refine LoopW.round (pol := polG) mixP ?_
    conv => whnf
    repeat' (first
     | ((first | with_reducible refine Br.dec (fun hb => ?_) (fun hb => ?_) | with_reducible refine Br.ndec (fun hb => ?_) (fun hb => ?_)) <;> (try dsimp only at hb) <;> (try simp only [ZZ] at hb) <;> (first | omega | (conv => whnf)))
     | ((first | with_reducible refine Br.tt rfl ?_ | with_reducible refine Br.ff rfl ?_ | with_reducible refine Br.ff (isEmptyCons _ _) ?_); conv => whnf)
     | (refine Side.mk ?_ ?_; (focus (first | omega | (dsimp only [InR]; omega) | (dsimp only [Int.reduceToNat, IntKind.bits, Int.reducePow, InR]; omega) | (simp [PV.cells, PV.leaf, byteP]; done) | (constructor <;> omega))); conv => whnf)
     | (refine Br.mk (fun hb => ?_) (fun hb => ?_) <;> (try dsimp only at hb) <;> (try simp only [ZZ] at hb) <;> (first | omega | (conv => whnf)))
     | ((first | refine Src.whole ⟨rfl, rfl⟩ ?_ | refine FrzV.whole ?_); conv => whnf))
    · refine PostCl.of (h0 hn) ?_ ?_
      · repeat (first | exact True.intro | refine And.intro (by first | exact VLe.refl _ | fail) ?_)
      · repeat (first | exact True.intro | refine And.intro (by decide) ?_)
  | succ q ih =>
    intro i hi hn
    obtain ⟨x, hx⟩ : ∃ x, s[i]? = some x := ⟨_, List.getElem?_eq_getElem (show i < s.length by omega)⟩
    have hgd : s.getD (i : Int).toNat 0 = x := by rw [Int.toNat_natCast]; exact getD_of hx
    refine LoopW.round (pol := polG) mixP ?_
    conv => whnf
    repeat' (first
     | ((first | with_reducible refine Br.dec (fun hb => ?_) (fun hb => ?_) | with_reducible refine Br.ndec (fun hb => ?_) (fun hb => ?_)) <;> (try dsimp only at hb) <;> (try simp only [ZZ, hgd] at hb) <;> (first | omega | (conv => whnf)))
     | ((first | with_reducible refine Br.tt rfl ?_ | with_reducible refine Br.ff rfl ?_ | with_reducible refine Br.ff (isEmptyCons _ _) ?_); conv => whnf)
     | (refine Side.mk ?_ ?_; (focus (first | omega | (dsimp only [InR]; omega) | (dsimp only [Int.reduceToNat, IntKind.bits, Int.reducePow, InR]; omega) | (simp [PV.cells, PV.leaf, byteP]; done) | (constructor <;> omega))); conv => whnf)
     | (refine Br.mk (fun hb => ?_) (fun hb => ?_) <;> (try dsimp only at hb) <;> (try simp only [ZZ, hgd] at hb) <;> (first | omega | (conv => whnf)))
     | ((first | refine Src.whole ⟨rfl, rfl⟩ ?_ | refine FrzV.whole ?_); conv => whnf))
    · refine PostCl.of (hr) ?_ ?_
      · repeat (first | exact True.intro | refine And.intro (by first | exact VLe.refl _ | fail) ?_)
      · repeat (first | exact True.intro | refine And.intro (by decide) ?_)
    · have hn2 : NoB (s.take (i + 1)) := by
        rw [List.take_add_one, hx]
        intro b hb2
        rcases List.mem_append.1 hb2 with h | h
        · exact hn b h
        · simp only [Option.toList_some, List.mem_singleton] at h
          subst h
          omega
      refine LoopW.sub (ih (i + 1) (by omega) hn2) (by repeat (first | exact True.intro | refine And.intro (by first | exact VLe.refl _ | fail) ?_)) (by repeat (first | exact True.intro | refine And.intro (by decide) ?_))
theorem lines_loop2 (v : PV) (s t : Str) (ht : t.length ≤ 70368744177664) (K : Post) (h0 : K (.exit 2) [(3, .p (.str s)), (6, .sl 1 0 ((sq t).map byteP).length)] [.var T.api_Value (.p v), .arr T.uint8 1 ((sq t).map byteP)] []) :
    ∀ (q i : Nat) (acc : Str), i + q = t.length → acc.length ≤ i → acc ++ sq (t.drop i) = sq t →
      LoopW PP GG 58 0 (loopN F.law9_JprintLines_c 1) [(3, .p (.str s)), (5, .p (.str t)), (6, .sl 1 0 (acc.map byteP).length), (7, .p (.int .i64 i))] [.var T.api_Value (.p v), .arr T.uint8 1 (acc.map byteP)] [] (PostCl 58 K) := by
  intro q
  induction q with
  | zero =>
    intro i acc hi hl hR
    rw [List.drop_eq_nil_of_le (by omega), show sq [] = [] from rfl, List.append_nil] at hR
    subst hR
    refine LoopW.round (pol := polG) mixP ?_
    conv => whnf
    repeat' (first
     | ((first | with_reducible refine Br.dec (fun hb => ?_) (fun hb => ?_) | with_reducible refine Br.ndec (fun hb => ?_) (fun hb => ?_)) <;> (try dsimp only at hb) <;> (try simp only [ZZ] at hb) <;> (first | omega | (conv => whnf)))
     | ((first | with_reducible refine Br.tt rfl ?_ | with_reducible refine Br.ff rfl ?_ | with_reducible refine Br.ff (isEmptyCons _ _) ?_); conv => whnf)
     | (refine Side.mk ?_ ?_; (focus (first | omega | (dsimp only [InR]; omega) | (dsimp only [Int.reduceToNat, IntKind.bits, Int.reducePow, InR]; omega) | (simp [PV.cells, PV.leaf, byteP]; done) | (constructor <;> omega))); conv => whnf)
     | (refine Br.mk (fun hb => ?_) (fun hb => ?_) <;> (try dsimp only at hb) <;> (try simp only [ZZ] at hb) <;> (first | omega | (conv => whnf)))
     | ((first | refine Src.whole ⟨rfl, rfl⟩ ?_ | refine FrzV.whole ?_); conv => whnf))
    · refine PostCl.of (h0) ?_ ?_
      · repeat (first | exact True.intro | refine And.intro (by first | exact VLe.refl _ | fail) ?_)
      · repeat (first | exact True.intro | refine And.intro (by decide) ?_)
  | succ q ih =>
    intro i acc hi hl hR
    obtain ⟨x, hx⟩ : ∃ x, t[i]? = some x := ⟨_, List.getElem?_eq_getElem (show i < t.length by omega)⟩
    have hgd : t.getD (i : Int).toNat 0 = x := by rw [Int.toNat_natCast]; exact getD_of hx
    have hma : (acc.map byteP).length = acc.length := by simp
    rw [drop_cons hx, sq_cons] at hR
    refine LoopW.round (pol := polG) mixP ?_
    conv => whnf
    repeat' (first
     | ((first | with_reducible refine Br.dec (fun hb => ?_) (fun hb => ?_) | with_reducible refine Br.ndec (fun hb => ?_) (fun hb => ?_)) <;> (try dsimp only at hb) <;> (try simp only [ZZ, hgd] at hb) <;> (first | omega | (conv => whnf)))
     | ((first | with_reducible refine Br.tt rfl ?_ | with_reducible refine Br.ff rfl ?_ | with_reducible refine Br.ff (isEmptyCons _ _) ?_); conv => whnf)
     | (refine Side.mk ?_ ?_; (focus (first | omega | (dsimp only [InR]; omega) | (dsimp only [Int.reduceToNat, IntKind.bits, Int.reducePow, InR]; omega) | exact ⟨by intro y hy; simp only [List.mem_cons, List.mem_nil_iff, or_false] at hy; subst hy; rfl, rfl, by show (_ + 1) * 2 ≤ _; omega⟩ | (simp [PV.cells, PV.leaf, byteP]; done) | (constructor <;> omega))); conv => whnf)
     | (refine Br.mk (fun hb => ?_) (fun hb => ?_) <;> (try dsimp only at hb) <;> (try simp only [ZZ, hgd] at hb) <;> (first | omega | (conv => whnf)))
     | ((first | refine Src.whole ⟨rfl, rfl⟩ ?_ | refine FrzV.whole ?_); conv => whnf))
    all_goals
      first
      | (rw [sq_keep (by omega) (by omega)] at hR
         have e2 : (acc.map byteP ++ [byteP (t.getD (i : Int).toNat 0)]) = (acc ++ [x]).map byteP := by rw [hgd, List.map_append]; rfl
         rw [e2]
         refine LoopW.ren [0, 1] (ih (i + 1) (acc ++ [x]) (by omega) (by simp; omega) (by rw [← hR]; simp only [List.append_assoc])) (by repeat (first | exact True.intro | refine And.intro (And.intro (by first | rfl | fail) (by first | exact VLe.refl _ | fail)) ?_)) (by repeat (first | exact True.intro | refine And.intro (by decide) ?_)) (by rfl) (by rfl))
      | (rw [sq_drop (by omega), List.nil_append] at hR
         refine LoopW.sub (ih (i + 1) acc (by omega) (by omega) hR) (by repeat (first | exact True.intro | refine And.intro (by first | exact VLe.refl _ | fail) ?_)) (by repeat (first | exact True.intro | refine And.intro (by decide) ?_)))
theorem law9_JprintLines (t : Tree) (hw : t.wt ≤ 1100000) (ho : okT t = true) : AbsCall PP GG F.law9_JprintLines [.p t.enc] [] ⟨.ret (.p (.bool true)), [], []⟩ := by
  have hC := jprint_Compact t hw ho
  have hI := jprint_Indent t hw ho
  rw [textT_eq] at hC hI
  have hH := ref1_Heavy t 150 32 (by omega) (by omega) (by omega)
  have hV := ref1_Value t (by omega)
  have hl1 := lines_loop1 t.enc
  have hl2 := lines_loop2 t.enc
  rw [Tree.enc_eta t] at hC hI hH hV hl1 hl2 ⊢
  cases hg : (!(steep t 32 4096).1 && plainT t) with
  | false =>
    rw [hg] at hV
    refine absCall_of (pol := polG) mixP F.law9_JprintLines_is ?_
    conv => whnf
    repeat' (first
     | ((first | with_reducible refine Br.dec (fun hb => ?_) (fun hb => ?_) | with_reducible refine Br.ndec (fun hb => ?_) (fun hb => ?_)) <;> (try dsimp only at hb) <;> (try simp only [ZZ] at hb) <;> (first | omega | contradiction | (conv => whnf)))
     | ((first | with_reducible refine Br.tt rfl ?_ | with_reducible refine Br.ff rfl ?_ | with_reducible refine Br.ff (isEmptyCons _ _) ?_); conv => whnf)
     | (refine Side.mk ?_ ?_; (focus (first | omega | (dsimp only [InR]; omega) | (dsimp only [Int.reduceToNat, IntKind.bits, Int.reducePow, InR]; omega) | (simp [PV.cells, PV.leaf, byteP]; done) | (constructor <;> omega))); conv => whnf)
     | (with_reducible refine Br.not ?_)
     | ((first | with_reducible refine Br.tt (by assumption) ?_ | with_reducible refine Br.ff (by assumption) ?_); conv => whnf)
     | (refine Br.mk (fun hb => ?_) (fun hb => ?_) <;> (try dsimp only at hb) <;> (try simp only [ZZ] at hb) <;> (first | omega | contradiction | (conv => whnf)))
     | ((first | refine Src.whole ⟨rfl, rfl⟩ ?_ | refine FrzV.whole ?_); conv => whnf)
     | ((first | refine CallW.use (law9_awake) ?_ | refine CallW.use (hH) ?_ | refine CallW.use (hV) ?_); conv => whnf))
    all_goals exact CLe.retP rfl
  | true =>
    rw [hg] at hC hI hV
    rw [if_pos rfl] at hC hI
    rw [Bool.and_eq_true] at hg
    have hgt : goodT t = true := by unfold goodT; rw [hg.2, ho]; rfl
    have hwp := t.wt_pos
    have hb1 := printT_len t (by omega) (-1) (by omega) hgt (by omega)
    have hb2 := printT_len t (by omega) 0 (by omega) hgt (by omega)
    have hlaw : NoB (printT t (-1)) → sq (printT t 0) = printT t (-1) := fun h => lines_law t hgt h 0 (by omega)
    rw [show dd false 0 = -1 from rfl] at hC
    rw [show dd true 0 = 0 from rfl] at hI
    generalize printT t (-1) = s at *
    generalize printT t 0 = u at *
    refine absCall_of (pol := polG) mixP F.law9_JprintLines_is ?_
    conv => whnf
    repeat' (first
     | ((first | with_reducible refine Br.dec (fun hb => ?_) (fun hb => ?_) | with_reducible refine Br.ndec (fun hb => ?_) (fun hb => ?_)) <;> (try dsimp only at hb) <;> (try simp only [ZZ] at hb) <;> (first | omega | contradiction | (conv => whnf)))
     | ((first | with_reducible refine Br.tt rfl ?_ | with_reducible refine Br.ff rfl ?_ | with_reducible refine Br.ff (isEmptyCons _ _) ?_); conv => whnf)
     | (refine Side.mk ?_ ?_; (focus (first | omega | (dsimp only [InR]; omega) | (dsimp only [Int.reduceToNat, IntKind.bits, Int.reducePow, InR]; omega) | (simp [PV.cells, PV.leaf, byteP]; done) | (constructor <;> omega))); conv => whnf)
     | (with_reducible refine Br.not ?_)
     | ((first | with_reducible refine Br.tt (by assumption) ?_ | with_reducible refine Br.ff (by assumption) ?_); conv => whnf)
     | (refine Br.mk (fun hb => ?_) (fun hb => ?_) <;> (try dsimp only at hb) <;> (try simp only [ZZ] at hb) <;> (first | omega | contradiction | (conv => whnf)))
     | ((first | refine Src.whole ⟨rfl, rfl⟩ ?_ | refine FrzV.whole ?_); conv => whnf)
     | ((first | refine CallW.use (law9_awake) ?_ | refine CallW.use (hH) ?_ | refine CallW.use (hV) ?_ | refine CallW.use (hC) ?_); conv => whnf))
    · exact CLe.retP rfl
    refine LoopW.cl ?_
    refine LoopW.sub (hl1 s (by omega) _ (fun hn => ?_) ?_ s.length 0 (by omega) (fun b h => by cases h)) (by repeat (first | exact True.intro | refine And.intro (by first | exact VLe.refl _ | fail) ?_)) (by repeat (first | exact True.intro | refine And.intro (by decide) ?_))
    · conv => whnf
      repeat' (first
       | ((first | with_reducible refine Br.dec (fun hb => ?_) (fun hb => ?_) | with_reducible refine Br.ndec (fun hb => ?_) (fun hb => ?_)) <;> (try dsimp only at hb) <;> (try simp only [ZZ] at hb) <;> (first | omega | contradiction | (conv => whnf)))
       | ((first | with_reducible refine Br.tt rfl ?_ | with_reducible refine Br.ff rfl ?_ | with_reducible refine Br.ff (isEmptyCons _ _) ?_); conv => whnf)
       | (refine Side.mk ?_ ?_; (focus (first | omega | (dsimp only [InR]; omega) | (dsimp only [Int.reduceToNat, IntKind.bits, Int.reducePow, InR]; omega) | (simp [PV.cells, PV.leaf, byteP]; done) | (constructor <;> omega))); conv => whnf)
       | (with_reducible refine Br.not ?_)
       | ((first | with_reducible refine Br.tt (by assumption) ?_ | with_reducible refine Br.ff (by assumption) ?_); conv => whnf)
       | (refine Br.mk (fun hb => ?_) (fun hb => ?_) <;> (try dsimp only at hb) <;> (try simp only [ZZ] at hb) <;> (first | omega | contradiction | (conv => whnf)))
       | ((first | refine Src.whole ⟨rfl, rfl⟩ ?_ | refine FrzV.whole ?_); conv => whnf)
       | ((first | refine CallW.use (hI) ?_); conv => whnf))
      refine LoopW.cl ?_
      refine LoopW.sub (hl2 s u (by omega) _ ?_ u.length 0 [] (by omega) (by simp) rfl) (by repeat (first | exact True.intro | refine And.intro (by first | exact VLe.refl _ | fail) ?_)) (by repeat (first | exact True.intro | refine And.intro (by decide) ?_))
      conv => whnf
      repeat' (first
       | ((first | with_reducible refine Br.dec (fun hb => ?_) (fun hb => ?_) | with_reducible refine Br.ndec (fun hb => ?_) (fun hb => ?_)) <;> (try dsimp only at hb) <;> (try simp only [ZZ] at hb) <;> (first | omega | contradiction | (conv => whnf)))
       | ((first | with_reducible refine Br.tt rfl ?_ | with_reducible refine Br.ff rfl ?_ | with_reducible refine Br.ff (isEmptyCons _ _) ?_); conv => whnf)
       | (refine Side.mk ?_ ?_; (focus (first | omega | (dsimp only [InR]; omega) | (dsimp only [Int.reduceToNat, IntKind.bits, Int.reducePow, InR]; omega) | (simp [PV.cells, PV.leaf, byteP]; done) | (constructor <;> omega))); conv => whnf)
       | (with_reducible refine Br.not ?_)
       | ((first | with_reducible refine Br.tt (by assumption) ?_ | with_reducible refine Br.ff (by assumption) ?_); conv => whnf)
       | (refine Br.mk (fun hb => ?_) (fun hb => ?_) <;> (try dsimp only at hb) <;> (try simp only [ZZ] at hb) <;> (first | omega | contradiction | (conv => whnf)))
       | ((first | refine Src.whole ⟨rfl, rfl⟩ ?_ | refine FrzV.whole ?_); conv => whnf)
       | (refine Bytes.mk' rfl ?_; conv => whnf))
      exact CLe.retP (by rw [decide_eq_true (hlaw hn)])
    · conv => whnf
      exact CLe.retP rfl
end Go.Proofs.YtaoejccgdpppgaaGreatDoor
end

section
namespace Go.Proofs.YtaoejccgdpppgaaGreatDoor
open Go.ChangeShapes Go.WideShapes Go.ChangeAt Go.RowKit Go.Am
set_option maxRecDepth 100000
theorem jprintLines_contract (H : Type) (enc : TypeId × Value → H) (W : World) (args : Array Value) (ds gs : List (DataW H)) (before : List MemPlace)
    (hW : DataW.Whole enc PP Tryz.f6.params.toList Rows.jprintLinesSpec.vars false W args.toList ds gs before) (hL : laidMetH PP Rows.jprintLinesRow.laid W) (hk : Rows.uptoBulkAll ds ≤ 1048576) :
    Calls PP F.law9_JprintLines args W fun e W' => ∃ v, e = .returned v ∧ Rows.jprintLinesSpec.post enc PP Tryz.f6 false true false false W args v W' := by
  have hW' := hW
  have hlt := hW.lt
  obtain ⟨p, q, hA0, hV, rfl, hfz, hnd⟩ := hW
  have hA : DataW.TrodAll enc PP W 0 (fun _ => true) true Tryz.f6.params.toList args.toList ds p := hA0
  rw [Tryz.params6] at hA
  obtain ⟨v0, vs0, d0, ds0, p0, q0, hargs, rfl, rfl, h0, r0⟩ := trodAll_cons hA
  obtain ⟨rfl, rfl, rfl⟩ := trodAll_nil r0
  obtain rfl : args = #[v0] := by cases args; simp_all
  obtain ⟨rfl, rfl⟩ := trodVars_none hV
  clear hA0
  simp only [List.append_nil] at hW' hlt
  simp only [Rows.uptoBulkAll] at hk
  obtain ⟨t0, hr0, hok0, hwt0⟩ := tree_rel h0
  refine (law_call (f := F.law9_JprintLines) (ds := [t0.enc]) (vs := [v0]) Tryz.func6 (by kernel_rfl) rfl (fun i x y hx hy => ?_) (gok_of hL (by rw [pow10_lit]; rfl) rfl rfl) (law9_JprintLines t0 (by omega) hok0)).mono fun e W' ⟨he, hb⟩ => ?_
  · rcases i with _ | i
    · cases hx; cases hy; exact hr0
    · simp at hx
  · subst he
    have b := Tryz.underlying4
    exact ⟨_, rfl, post_of_below (pa := p0) (pv := []) hW' (fun _ _ _ => trodAll_cons_mk (shut_bool b _) trodAll_mk0)
      (fun sp hs => trodAll_mk1 (tree_stays h0 hb (fun x hx => hlt x (by simp [hx])) (fun x hx => hs x (by simp [hx]))))
      (fun _ _ => rfl) (by simp) hb (ok_one (by kernel_rfl) rfl (okWide_bool_mk b _))⟩
theorem jprintLines_reads (os : Os) {H : Type} (enc : TypeId × Value → H) : ∃ places, DataW.whole enc PP ((World.laidAll PP os Rows.jprintLinesUptoRow.laid).forCall (fun _ _ => 0) ⟨#[], #[nullV], []⟩).memory Tryz.f6.params.toList Rows.jprintLinesSpec.vars false (#[nullV] : Array Value).toList 8 = some ([nullD], [], places) :=
  ⟨[], by kernel_rfl⟩
theorem jprintLines_lifted (os : Os) (started : os.Started) (H : Type) (enc : TypeId × Value → H) (Fi : Stop.Interp) :
    ReturnsInHanded {} Tryz.checked os F.law9_JprintLines .any ((Rows.OpenSpec.upto Rows.jprintLinesSpec).preRow enc PP Tryz.f6 Rows.jprintLinesUptoRow.domain false Rows.jprintLinesUptoRow.laid) (((Rows.OpenSpec.upto Rows.jprintLinesSpec).at Fi).post enc PP Tryz.f6 false true false false) := by
  obtain ⟨places, hx⟩ := jprintLines_reads os enc
  refine returnsInHanded_of_row (C := Tryz.checked) (s := Rows.OpenSpec.upto Rows.jprintLinesSpec) own started (by kernel_rfl) Tryz.func6
    (witness_row_atRef (enc := enc) (C := Tryz.checked) false (World.laidAll PP os Rows.jprintLinesUptoRow.laid) #[nullV] (World.laidAll_os _ _ _) (by kernel_rfl) (by kernel_rfl) (by kernel_rfl)
      (OpenSpec.preRow_of_cond 8 hx (by kernel_rfl) (fun k hk => by cases hk; kernel_rfl) (by kernel_rfl) (laidMet_laidAll _ (by kernel_rfl) (by kernel_rfl)))) ?_
  intro W base args ds gs before hval hW _ hcond _ hL _ _
  have hk := of_decide_eq_true (hcond _ rfl)
  refine jprintLines_contract H enc W args ds gs before hW hL (Nat.le_trans ?_ hk)
  rw [bulk_append]
  exact Nat.le_add_right _ _
theorem jprintLines_said : Rows.JprintLinesUptoSaid :=
  OpenClaim.holds_of_cond F.law9_JprintLines Tryz.f6 rfl rfl rfl rfl rfl rfl rfl ⟨rfl, rfl, rfl, rfl, rfl⟩ rfl rfl rfl rfl rfl (by kernel_rfl) Tryz.func6 (by kernel_rfl)
    (of_decide_eq_true (by kernel_rfl)) (by unfold Func.isWrapper; first | (rw [if_pos (by decide +kernel)]; kernel_rfl) | (rw [if_neg (by decide +kernel)]; exact ⟨rfl, rfl⟩))
    (fun os started H enc _ Fi => by rw [OpenClaim.pre_eq_preRow]; exact jprintLines_lifted os started H enc Fi)
theorem jprintLines_plain (f : FuncId) (fn : Func) (hf : Tryz.pinned.checked.prog.funcNamed "dragoman/dragomanlaw9.JprintLines" = some f) (hfn : Tryz.pinned.checked.prog.funcs[f]? = some fn) :
    true = Tryz.pinned.checked.prog.looks [] ∧ ∀ (j : Nat) t, fn.params[j]? = some t → Tryz.pinned.checked.prog.wantsStandIn t = false := by
  obtain rfl : f = F.law9_JprintLines := Option.some.inj ((show PP.funcNamed "dragoman/dragomanlaw9.JprintLines" = some F.law9_JprintLines by kernel_rfl).symm.trans hf) |>.symm
  obtain rfl : fn = Tryz.f6 := (Option.some.inj (Tryz.func6.symm.trans hfn)).symm
  refine ⟨by kernel_rfl, fun j t ht => ?_⟩
  rw [Tryz.params6] at ht
  obtain rfl : t = T.api_Value := by simpa using Array.mem_of_getElem? ht
  exact (show PP.wantsStandIn T.api_Value = false by kernel_rfl)
theorem jprintLines_card : Rows.JprintLinesUptoCardSaid :=
  Claim7.holds_tied_plain_at .later [] _ _ _ _ jprintLines_said (fun _ h => by cases h) (by kernel_rfl) (fun _ h => by cases h) jprintLinesUpto_row_tie rfl ⟨rfl, rfl⟩ (by kernel_rfl) rfl jprintLines_plain (by kernel_rfl)
end Go.Proofs.YtaoejccgdpppgaaGreatDoor
end
