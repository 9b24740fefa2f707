/-
A JSON string read, as the program reads it.
-/
import Derived.Test.YtoinkmogdfjmmaaGreatDoorPG
import Derived.Test.YtoinkmogdfjmmaaGreatDoorPF

section
namespace Go.Am
open Go
def hexD (b : UInt8) : Option Int :=
  if 48 ≤ b.toNat ∧ b.toNat ≤ 57 then some (b.toNat - 48) else
  if 97 ≤ b.toNat ∧ b.toNat ≤ 102 then some (b.toNat - 87) else
  if 65 ≤ b.toNat ∧ b.toNat ≤ 70 then some (b.toNat - 55) else none
def hexR : Str → Int → Int × Bool
  | [], v => (v, true)
  | b :: s, v => match hexD b with
    | none => (0, false)
    | some x => hexR s (v * 16 + x)
def hexL (s : Str) : Int × Bool := if s.length < 1 ∨ 8 < s.length then (0, false) else hexR s 0
theorem hexD_lt {b : UInt8} {x : Int} (h : hexD b = some x) : 0 ≤ x ∧ x < 16 := by
  unfold hexD at h
  split at h
  · cases h; omega
  · split at h
    · cases h; omega
    · split at h
      · cases h; omega
      · cases h
theorem hexR_lt : ∀ (s : Str) (v : Int) (q : Nat), s.length ≤ q → 0 ≤ v → (hexR s v).2 = true → 0 ≤ (hexR s v).1 ∧ (hexR s v).1 < (v + 1) * 16 ^ q
  | [], v, q, _, h0, _ => by
    rw [hexR]
    have : 1 ≤ (16 : Int) ^ q := Int.pow_pos (by decide)
    refine ⟨h0, ?_⟩
    have := Int.mul_le_mul_of_nonneg_left this (show 0 ≤ v + 1 by omega)
    simp only [] at *
    omega
  | b :: s, v, 0, hq, h0, h => by simp at hq
  | b :: s, v, q + 1, hq, h0, h => by
    rw [hexR] at h ⊢
    cases hx : hexD b with
    | none => rw [hx] at h; simp at h
    | some x =>
      rw [hx] at h
      simp only [] at h ⊢
      have hb := hexD_lt hx
      have := hexR_lt s (v * 16 + x) q (by simpa using hq) (by omega) h
      refine ⟨this.1, Int.lt_of_lt_of_le this.2 ?_⟩
      rw [Int.pow_succ, Int.mul_comm (16 ^ q) 16, ← Int.mul_assoc]
      exact Int.mul_le_mul_of_nonneg_right (by omega) (Int.le_of_lt (Int.pow_pos (by decide)))
theorem pow16_le {i : Nat} (h : i ≤ 7) : (16 : Int) ^ i ≤ 16 ^ 7 := by
  have : i = 0 ∨ i = 1 ∨ i = 2 ∨ i = 3 ∨ i = 4 ∨ i = 5 ∨ i = 6 ∨ i = 7 := by omega
  rcases this with rfl | rfl | rfl | rfl | rfl | rfl | rfl | rfl <;> decide
def digL (t : Str) (a n : Nat) : Int × Bool := if t.length < a + n then (0, false) else hexL ((t.drop a).take n)
theorem digL_lt {t : Str} {a : Nat} (h : (digL t a 4).2 = true) : 0 ≤ (digL t a 4).1 ∧ (digL t a 4).1 < 65536 ∧ a + 4 ≤ t.length := by
  unfold digL at h ⊢
  split at h
  · simp at h
  · rename_i h1
    rw [if_neg h1]
    unfold hexL at h ⊢
    split at h
    · simp at h
    · rename_i h2
      rw [if_neg h2]
      have := hexR_lt ((t.drop a).take 4) 0 4 (by simp only [List.length_take]; omega) (by omega) h
      refine ⟨this.1, ?_, by omega⟩
      have := this.2
      simpa using this
def shortL (c : UInt8) : Option Int :=
  if c = 34 then some 34 else if c = 92 then some 92 else if c = 98 then some 8 else if c = 102 then some 12 else if c = 110 then some 10 else if c = 114 then some 13 else if c = 116 then some 9 else if c = 47 then some 47 else none
def putR (a : Int) (acc : Str) (x k : Int) : Bool × Int × Str := if utfGood x = true then (true, a + k, acc ++ utfEnc x) else (false, a, acc)
def escL (t : Str) (a : Nat) : Option (Int × Int) :=
  if a + 1 = t.length then none else
  match shortL (t.getD (a + 1) 0) with
  | some x => some (x, 2)
  | none => if ¬ ((t.getD (a + 1) 0).toNat : Int) = 117 ∨ (digL t (a + 2) 4).2 = false then none else
    if (digL t (a + 2) 4).1 < 55296 ∨ 56320 ≤ (digL t (a + 2) 4).1 then some ((digL t (a + 2) 4).1, 6) else
    if (digL t (a + 8) 4).2 = false ∨ ¬ (t.drop (a + 6)).take 2 = [92, 117] ∨ (digL t (a + 8) 4).1 < 56320 ∨ 57343 < (digL t (a + 8) 4).1 then none else
    some (65536 + ((digL t (a + 2) 4).1 - 55296) * 1024 + ((digL t (a + 8) 4).1 - 56320), 12)
def escAt (t : Str) (a : Nat) (acc : Str) : Bool × Int × Str := match escL t a with
  | none => (false, a, acc)
  | some (x, k) => putR a acc x k
theorem escAt_end {t : Str} {a : Nat} {acc : Str} (h : a + 1 = t.length) : escAt t a acc = (false, (a : Int), acc) := by
  unfold escAt escL
  rw [if_pos h]
theorem escAt_short {t : Str} {a : Nat} {acc : Str} (h : ¬ a + 1 = t.length) {x : Int} (hx : shortL (t.getD (a + 1) 0) = some x) : escAt t a acc = putR a acc x 2 := by
  unfold escAt escL
  rw [if_neg h, hx]
theorem escAt_u {t : Str} {a : Nat} {acc : Str} (h : ¬ a + 1 = t.length) (hx : shortL (t.getD (a + 1) 0) = none) : escAt t a acc =
    (if ¬ ((t.getD (a + 1) 0).toNat : Int) = 117 ∨ (digL t (a + 2) 4).2 = false then (false, (a : Int), acc) else
    if (digL t (a + 2) 4).1 < 55296 ∨ 56320 ≤ (digL t (a + 2) 4).1 then putR a acc (digL t (a + 2) 4).1 6 else
    if (digL t (a + 8) 4).2 = false ∨ ¬ (t.drop (a + 6)).take 2 = [92, 117] ∨ (digL t (a + 8) 4).1 < 56320 ∨ 57343 < (digL t (a + 8) 4).1 then (false, (a : Int), acc) else
    putR a acc (65536 + ((digL t (a + 2) 4).1 - 55296) * 1024 + ((digL t (a + 8) 4).1 - 56320)) 12) := by
  unfold escAt escL
  rw [if_neg h, hx]
  by_cases h1 : ¬ ((t.getD (a + 1) 0).toNat : Int) = 117 ∨ (digL t (a + 2) 4).2 = false
  · simp only [if_pos h1]
  · simp only [if_neg h1]
    by_cases h2 : (digL t (a + 2) 4).1 < 55296 ∨ 56320 ≤ (digL t (a + 2) 4).1
    · simp only [if_pos h2]
    · simp only [if_neg h2]
      by_cases h3 : (digL t (a + 8) 4).2 = false ∨ ¬ (t.drop (a + 6)).take 2 = [92, 117] ∨ (digL t (a + 8) 4).1 < 56320 ∨ 57343 < (digL t (a + 8) 4).1
      · simp only [if_pos h3]
      · simp only [if_neg h3]
theorem utfEnc_len4 (r : Int) : (utfEnc r).length ≤ 4 := by
  unfold utfEnc
  repeat' split
  all_goals simp
theorem putR_ok {a : Int} {acc : Str} {x k : Int} (h : (putR a acc x k).1 = true) : putR a acc x k = (true, a + k, acc ++ utfEnc x) := by
  unfold putR at h ⊢
  split at h
  · rename_i h1; rw [if_pos h1]
  · simp at h
theorem escAt_ok {t : Str} {a : Nat} {acc : Str} (ha : a < t.length) (h : (escAt t a acc).1 = true) :
    ∃ (k : Nat) (x : Int), escAt t a acc = (true, ((a + k : Nat) : Int), acc ++ utfEnc x) ∧ 2 ≤ k ∧ a + k ≤ t.length := by
  by_cases h1 : a + 1 = t.length
  · rw [escAt_end h1] at h
    simp at h
  · cases hs : shortL (t.getD (a + 1) 0) with
    | some x =>
      rw [escAt_short h1 hs] at h ⊢
      exact ⟨2, x, by rw [putR_ok h]; rfl, by omega, by omega⟩
    | none =>
      rw [escAt_u h1 hs] at h ⊢
      split at h
      · simp at h
      · rename_i h2
        rw [if_neg h2]
        simp only [not_or, Bool.not_eq_false] at h2
        have := digL_lt h2.2
        split at h
        · rename_i h3
          rw [if_pos h3]
          exact ⟨6, _, by rw [putR_ok h]; rfl, by omega, by omega⟩
        · rename_i h3
          rw [if_neg h3]
          split at h
          · simp at h
          · rename_i h4
            rw [if_neg h4]
            simp only [not_or, Bool.not_eq_false] at h4
            have := digL_lt h4.1
            exact ⟨12, _, by rw [putR_ok h]; rfl, by omega, by omega⟩
theorem putR_no {a : Int} {acc : Str} {x k : Int} (h : (putR a acc x k).1 = false) : (putR a acc x k).2.1 = a := by
  unfold putR at h ⊢
  split at h
  · simp at h
  · rename_i h1; rw [if_neg h1]
theorem escAt_no {t : Str} {a : Nat} {acc : Str} (h : (escAt t a acc).1 = false) : (escAt t a acc).2.1 = a := by
  unfold escAt at h ⊢
  split
  · rfl
  · rename_i h1; rw [h1] at h; exact putR_no h
def unqL : Nat → Str → Nat → Str → Str × Int × Int
  | 0, t, _, _ => ([], 0, t.length)
  | q + 1, t, a, acc =>
    if t.length ≤ a then ([], 0, t.length) else
    if ((t.getD a 0).toNat : Int) = 34 then (acc, (a : Int) + 1, -1) else
    if ((t.getD a 0).toNat : Int) < 32 then ([], 0, (a : Int)) else
    if ((t.getD a 0).toNat : Int) = 92 then
      (if (escAt t a acc).1 = true then unqL q t (escAt t a acc).2.1.toNat (escAt t a acc).2.2 else ([], 0, (a : Int)))
    else if (utfTake (t.drop a)).2 = 0 then ([], 0, (a : Int)) else unqL q t (a + (utfTake (t.drop a)).2.toNat) (acc ++ utfEnc (utfTake (t.drop a)).1)
def unquoteL (t : Str) (at_ : Int) : Str × Int × Int :=
  if at_ < 0 ∨ preB (t.drop (clampL t at_).toNat) 34 = false then ([], 0, clampL t at_) else unqL (t.length + 1) t ((clampL t at_).toNat + 1) []
end Go.Am
namespace Go.Am
theorem HLe.var1 {t : TypeId} {v u : V} (h : VLeL v.cells u.cells) : HLe [.var t v] [.var t u] := by
  obtain ⟨h1, h2⟩ := h.spec
  refine ⟨fun n B L w hr => ?_, fun n hl => ?_, rfl⟩
  · cases n with
    | zero =>
      have hr : HRel B L w 0 (.var t v) := hr
      show HRel B L w 0 (.var t u)
      cases hr with
      | var _ c _ fr hw hfr hl hh =>
        refine .var u c t fr hw hfr (by omega) fun i x y hx hy => ?_
        have hi : i < v.cells.length := by have := (List.getElem?_eq_some_iff.1 hx).1; omega
        exact h2 i v.cells[i] x (by simp [hi]) hx B L w y (hh i v.cells[i] y (by simp [hi]) hy)
    | succ n => exact hr
  · cases n with
    | zero => trivial
    | succ n => exact hl
end Go.Am
end

section
namespace Go.Proofs.YtoinkmogdfjmmaaGreatDoor
open Go Go.Am Go.RowKit
set_option maxRecDepth 100000
def rdO (t : Str) (a : Int) (acc : Str) : HO := .var T.esc_reader (.p (.agg [.str t, .int .i64 a, .lst false (acc.map byteP)]))
theorem hex_loop (s : Str) (hs : s.length ≤ 8) (R : Int × Bool) (K : Post)
    (h0 : ∀ v : Int, R = (v, true) → K (.exit 0) [(4, .p (.int .i64 v))] [.arr T.uint8 1 (s.map byteP)] [])
    (hr : R = (0, false) → K .ret [(2, .p (.int .i64 0)), (3, .p (.bool false))] [.arr T.uint8 1 (s.map byteP)] []) :
    ∀ (q i : Nat) (v : Int), i + q = s.length → 0 ≤ v → v < 16 ^ i → hexR (s.drop i) v = R →
      LoopW PP GG 65 0 (loopN F.esc_Hex_c 0) [(4, .p (.int .i64 v)), (16, .sl 0 0 (s.map byteP).length), (17, .p (.int .i64 (s.map byteP).length)), (18, .p (.int .i64 i))] [.arr T.uint8 1 (s.map byteP)] [] (PostCl 65 K) := by
  have hl : (s.map byteP).length = s.length := by simp
  intro q
  induction q with
  | zero =>
    intro i v hi hv0 hv1 hR
    rw [List.drop_eq_nil_of_le (by omega), hexR] at hR
    refine LoopW.round (pol := polG) mixP ?_
    conv => whnf
    repeat' ((first
     | ((with_reducible first | refine Br.dec ?_ ?_ | refine Br.ndec ?_ ?_) <;> intro hb <;> (try simp only [And.intro @hl (ZZ)] at hb) <;> (first | omega | contradiction | skip))
     | (with_reducible first | refine Br.tt rfl ?_ | refine Br.ff rfl ?_ | refine Br.ff (isEmptyCons _ _) ?_)
     | ((with_reducible first | refine Side.mk ?_ ?_ | refine WrapW.mk ?_ ?_); focus (first | omega | (dsimp only [InR, Int.reduceToNat, IntKind.bits, Int.reducePow]; omega) | (simp [CC]; done) | (constructor <;> omega)))
     | with_reducible refine Br.not ?_
     | (with_reducible first | refine Br.tt (by assumption) ?_ | refine Br.ff (by assumption) ?_)
     | (refine Br.mk ?_ ?_ <;> intro hb <;> (try simp only [And.intro @hl (ZZ)] at hb) <;> (first | omega | contradiction | skip))
     | refine Src.whole ⟨rfl, rfl⟩ ?_ | refine FrzV.whole ?_) <;> conv => whnf)
    · refine PostCl.of (h0 v hR.symm) ?_ ?_
      · repeat first | exact trivial | refine ⟨VLe.refl _, ?_⟩
      · repeat first | exact trivial | refine ⟨by decide, ?_⟩
  | succ q ih =>
    intro i v hi hv0 hv1 hR
    obtain ⟨b, hbx⟩ : ∃ b, s[i]? = some b := ⟨_, List.getElem?_eq_getElem (show i < s.length by omega)⟩
    have hbl := UInt8.toNat_lt b
    have hi7 : i ≤ 7 := by omega
    have hv2 : v < 268435456 := Int.lt_of_lt_of_le hv1 (Int.le_trans (pow16_le hi7) (by decide))
    rw [drop_cons hbx, hexR] at hR
    have next : ∀ x : Int, 0 ≤ x → x < 16 → hexR (s.drop (i + 1)) (v * 16 + x) = R → LoopW PP GG 65 0 (loopN F.esc_Hex_c 0) [(4, .p (.int .i64 (v * 16 + x))), (16, .sl 0 0 (s.map byteP).length), (17, .p (.int .i64 (s.map byteP).length)), (18, .p (.int .i64 (i + 1)))] [.arr T.uint8 1 (s.map byteP)] [] (PostCl 65 K) := by
      intro x hx0 hx1 h
      exact ih (i + 1) _ (by omega) (by omega) (by rw [Int.pow_succ]; omega) h
    refine LoopW.round (pol := polG) mixP ?_
    conv => whnf
    repeat' ((first
     | ((with_reducible first | refine Br.dec ?_ ?_ | refine Br.ndec ?_ ?_) <;> intro hb <;> (try simp only [And.intro @hl (ZZ)] at hb) <;> (first | omega | contradiction | skip))
     | (with_reducible first | refine Br.tt rfl ?_ | refine Br.ff rfl ?_ | refine Br.ff (isEmptyCons _ _) ?_)
     | ((with_reducible first | refine Side.mk ?_ ?_ | refine WrapW.mk ?_ ?_); focus (first | omega | (dsimp only [InR, Int.reduceToNat, IntKind.bits, Int.reducePow]; omega) | exact ⟨rfl, rfl⟩ | (simp [CC]; done) | (constructor <;> omega)))
     | with_reducible refine Br.not ?_
     | (with_reducible first | refine Br.tt (by assumption) ?_ | refine Br.ff (by assumption) ?_)
     | (refine Br.mk ?_ ?_ <;> intro hb <;> (try simp only [And.intro @hl (ZZ)] at hb) <;> (first | omega | contradiction | skip))
     | refine Src.whole ⟨rfl, rfl⟩ ?_ | refine FrzV.whole ?_
     | (refine ElemA.byte (b := b) (by simpa [plus0] using hbx) ?_)) <;> conv => whnf)
    all_goals
      first
      | (rw [show hexD b = some ((b.toNat : Int) - 48) by unfold hexD; rw [if_pos (by omega)]] at hR
         rw [show ior .i64 (v * 2 ^ Int.toNat 4) ((b.toNat : Int) - 48) = v * 16 + ((b.toNat : Int) - 48) from ior_shift (q := 4) hv0 (by omega) (by omega) (by omega) (by decide)]
         refine LoopW.sub (next _ (by omega) (by omega) hR) (by repeat first | exact trivial | refine ⟨VLe.refl _, ?_⟩) (by repeat first | exact trivial | refine ⟨by decide, ?_⟩))
      | (rw [show hexD b = some ((b.toNat : Int) - 87) by unfold hexD; rw [if_neg (by omega), if_pos (by omega)]] at hR
         rw [show (b.toNat : Int) - 97 + 10 = b.toNat - 87 by omega, show ior .i64 (v * 2 ^ Int.toNat 4) ((b.toNat : Int) - 87) = v * 16 + ((b.toNat : Int) - 87) from ior_shift (q := 4) hv0 (by omega) (by omega) (by omega) (by decide)]
         refine LoopW.sub (next _ (by omega) (by omega) hR) (by repeat first | exact trivial | refine ⟨VLe.refl _, ?_⟩) (by repeat first | exact trivial | refine ⟨by decide, ?_⟩))
      | (rw [show hexD b = some ((b.toNat : Int) - 55) by unfold hexD; rw [if_neg (by omega), if_neg (by omega), if_pos (by omega)]] at hR
         rw [show (b.toNat : Int) - 65 + 10 = b.toNat - 55 by omega, show ior .i64 (v * 2 ^ Int.toNat 4) ((b.toNat : Int) - 55) = v * 16 + ((b.toNat : Int) - 55) from ior_shift (q := 4) hv0 (by omega) (by omega) (by omega) (by decide)]
         refine LoopW.sub (next _ (by omega) (by omega) hR) (by repeat first | exact trivial | refine ⟨VLe.refl _, ?_⟩) (by repeat first | exact trivial | refine ⟨by decide, ?_⟩))
      | (rw [show hexD b = none by unfold hexD; rw [if_neg (by omega), if_neg (by omega), if_neg (by omega)]] at hR
         refine PostCl.of (hr hR.symm) (by repeat first | exact trivial | refine ⟨VLe.refl _, ?_⟩) (by repeat first | exact trivial | refine ⟨by decide, ?_⟩))
theorem esc_Hex (s : Str) (hs : s.length ≤ 1073741824) : AbsCall PP GG F.esc_Hex [.p (.str s)] [] ⟨.ret (.tup [.p (.int .i64 (hexL s).1), .p (.bool (hexL s).2)]), [], []⟩ := by
  unfold hexL
  have hl : (s.map byteP).length = s.length := by simp
  refine absCall_of (pol := polG) mixP F.esc_Hex_is ?_
  conv => whnf
  repeat' ((first
   | ((with_reducible first | refine Br.dec ?_ ?_ | refine Br.ndec ?_ ?_) <;> intro hb <;> (try simp only [And.intro @hl (ZZ)] at hb) <;> (first | omega | contradiction | skip))
   | (with_reducible first | refine Br.tt rfl ?_ | refine Br.ff rfl ?_ | refine Br.ff (isEmptyCons _ _) ?_)
   | ((with_reducible first | refine Side.mk ?_ ?_ | refine WrapW.mk ?_ ?_); focus (first | omega | (dsimp only [InR, Int.reduceToNat, IntKind.bits, Int.reducePow]; omega) | (simp only [hl]; omega) | (simp [CC]; done) | (constructor <;> omega)))
   | with_reducible refine Br.not ?_
   | (with_reducible first | refine Br.tt (by assumption) ?_ | refine Br.ff (by assumption) ?_)
   | (refine Br.mk ?_ ?_ <;> intro hb <;> (try simp only [And.intro @hl (ZZ)] at hb) <;> (first | omega | contradiction | skip))
   | refine Src.whole ⟨rfl, rfl⟩ ?_ | refine FrzV.whole ?_) <;> conv => whnf)
  · rw [if_pos (by omega)]; exact CLe.eq rfl
  · rw [if_pos (by omega)]; exact CLe.eq rfl
  · rw [if_neg (by omega)]
    refine LoopW.cl ?_
    refine LoopW.sub (hex_loop s (by omega) (hexR s 0) _ (fun v hv => ?_) (fun hv => ?_) s.length 0 0 (by omega) (by omega) (by decide) rfl) (by repeat first | exact trivial | refine ⟨VLe.refl _, ?_⟩) (by repeat first | exact trivial | refine ⟨by decide, ?_⟩)
    · conv => whnf
      exact CLe.eq (by rw [hv])
    · conv => whnf
      exact CLe.eq (by rw [hv])
theorem InR.byte (b : UInt8) : InR .i64 (b.toNat : Int) := by
  have := UInt8.toNat_lt b
  constructor <;> omega
def setJ : Str := [34, 92, 98, 102, 110, 114, 116]
def setK : Str := [34, 92, 8, 12, 10, 13, 9]
def setF (c : UInt8) : Int := firstIdx ⟨setJ.toArray⟩ c
def shortOk (c : UInt8) : Bool :=
  if 0 ≤ setF c then decide (setF c < 7 ∧ shortL c = some ((setK.getD (setF c).toNat 0).toNat : Int)) else decide (if c.toNat = 47 then shortL c = some 47 else shortL c = none)
theorem short_all : ∀ n : Nat, n < 256 → shortOk n.toUInt8 = true := by decide +kernel
theorem short_ok (c : UInt8) : shortOk c = true := by
  have := short_all c.toNat (UInt8.toNat_lt c)
  rwa [show c.toNat.toUInt8 = c by simp] at this
theorem esc_short (c : UInt8) : AbsCall PP GG F.esc_short [.p (byteP c), .p (.bool false)] [] ⟨.ret (.tup [.p (.int .i64 ((shortL c).getD 0)), .p (.bool (shortL c).isSome)]), [], []⟩ := by
  have hI := strings_IndexByte [34, 92, 98, 102, 110, 114, 116] c.toNat
  have e : firstIdx ⟨([34, 92, 98, 102, 110, 114, 116] : Str).toArray⟩ (c.toNat : Int).toNat.toUInt8 = setF c := by
    rw [show (c.toNat : Int).toNat.toUInt8 = c by simp]
    rfl
  rw [e] at hI
  have hk := short_ok c
  unfold shortOk at hk
  have h7 : (⟨#[34, 92, 8, 12, 10, 13, 9]⟩ : ByteArray).data.toList.length = 7 := rfl
  generalize setF c = f at *
  refine absCall_of (pol := polG) mixP F.esc_short_is ?_
  conv => whnf
  by_cases h0 : 0 ≤ f
  · rw [if_pos h0, decide_eq_true_eq] at hk
    repeat' ((first
     | ((with_reducible first | refine Br.dec ?_ ?_ | refine Br.ndec ?_ ?_) <;> intro hb <;> (try simp only [ZZ] at hb) <;> (first | omega | contradiction | skip))
     | (with_reducible first | refine Br.tt rfl ?_ | refine Br.ff rfl ?_ | refine Br.ff (isEmptyCons _ _) ?_)
     | ((with_reducible first | refine Side.mk ?_ ?_ | refine WrapW.mk ?_ ?_); focus (first | omega | (dsimp only [InR, Int.reduceToNat, IntKind.bits, Int.reducePow]; omega) | (rw [h7]; omega) | exact InR.byte _ | (simp [CC]; done) | (constructor <;> omega)))
     | with_reducible refine Br.not ?_
     | (with_reducible first | refine Br.tt (by assumption) ?_ | refine Br.ff (by assumption) ?_)
     | (refine Br.mk ?_ ?_ <;> intro hb <;> (try simp only [ZZ] at hb) <;> (first | omega | contradiction | skip))
     | refine Src.whole ⟨rfl, rfl⟩ ?_ | refine FrzV.whole ?_
     | refine CallW.use (hI) ?_) <;> conv => whnf)
    rw [hk.2]
    exact CLe.eq rfl
  · rw [if_neg h0, decide_eq_true_eq] at hk
    repeat' ((first
     | ((with_reducible first | refine Br.dec ?_ ?_ | refine Br.ndec ?_ ?_) <;> intro hb <;> (try simp only [ZZ] at hb) <;> (first | omega | contradiction | skip))
     | (with_reducible first | refine Br.tt rfl ?_ | refine Br.ff rfl ?_ | refine Br.ff (isEmptyCons _ _) ?_)
     | ((with_reducible first | refine Side.mk ?_ ?_ | refine WrapW.mk ?_ ?_); focus (first | omega | (dsimp only [InR, Int.reduceToNat, IntKind.bits, Int.reducePow]; omega) | (simp [CC]; done) | (constructor <;> omega)))
     | with_reducible refine Br.not ?_
     | (with_reducible first | refine Br.tt (by assumption) ?_ | refine Br.ff (by assumption) ?_)
     | (refine Br.mk ?_ ?_ <;> intro hb <;> (try simp only [ZZ] at hb) <;> (first | omega | contradiction | skip))
     | refine Src.whole ⟨rfl, rfl⟩ ?_ | refine FrzV.whole ?_
     | refine CallW.use (hI) ?_) <;> conv => whnf)
    · rw [if_pos (by omega)] at hk
      rw [hk]
      exact CLe.eq rfl
    all_goals
      rw [if_neg (by omega)] at hk
      rw [hk]
      exact CLe.eq rfl
def polZ : Pol := { keepR := fun _ => false, byref := fun _ => false, mask := fun _ _ => none }
theorem utf_PutZ (bs : Str) (r : Int) (hs : bs.length ≤ 1073741824) : AbsCall PP GG F.utf_Put [.p (.lst false (bs.map byteP)), .p (.int .i64 r)] [] ⟨.ret (.p (.lst false ((bs ++ utfEnc r).map byteP))), [], []⟩ := by
  have hlen : (bs.map byteP).length = bs.length := by simp
  have hgr : utfGood r = true → 0 ≤ r ∧ r ≤ 1114111 := by intro hg; unfold utfGood at hg; rw [decide_eq_true_eq] at hg; omega
  refine absCall_of (pol := polZ) mixP F.utf_Put_is ?_
  conv => whnf
  repeat' ((first
   | ((with_reducible first | refine Br.dec ?_ ?_ | refine Br.ndec ?_ ?_) <;> intro hb <;> (try simp only [ZZ] at hb) <;> (first | omega | skip))
   | (with_reducible first | refine Br.tt rfl ?_ | refine Br.ff rfl ?_ | refine Br.ff (isEmptyCons _ _) ?_)
   | ((with_reducible first | refine Side.mk ?_ ?_ | refine WrapW.mk ?_ ?_); focus (first | omega | (dsimp only [InR, Int.reduceToNat, IntKind.bits, Int.reducePow]; omega) | exact ⟨bytes_cells bs, by simp, by simp; omega⟩ | exact ⟨by simp [PV.cells], by simp, by simp; omega⟩ | (simp [CC]; done) | (constructor <;> omega)))
   | (refine Br.mk ?_ ?_ <;> intro hb <;> (try simp only [ZZ] at hb) <;> (first | omega | skip))
   | refine Src.whole ⟨rfl, rfl⟩ ?_ | refine FrzV.whole ?_
   | refine CallW.use (utf_Good _) ?_
   | refine CallW.use (utf_size _) ?_
   | (refine Src.whole ⟨rfl, by simp⟩ ?_)) <;> conv => whnf)
  · refine CLe.retP (congrArg (PV.lst false) ?_)
    rw [show utfEnc r = [] by unfold utfEnc; rw [if_pos hb]]
    simp
  all_goals
    obtain ⟨hr0, hr1⟩ := hgr ‹utfGood r = true›
    obtain ⟨n, rfl⟩ := Int.eq_ofNat_of_zero_le hr0
    have hng : utfGood (n : Int) ≠ false := by simp_all
    refine CLe.retP (congrArg (PV.lst false) ?_)
    unfold utfEnc
    rw [if_neg hng]
    have q6 : (n : Int) / 2 ^ Int.toNat 6 = ((n / 64 : Nat) : Int) := by show (n : Int) / 64 = _; omega
    have q12 : (n : Int) / 2 ^ Int.toNat 12 = ((n / 4096 : Nat) : Int) := by show (n : Int) / 4096 = _; omega
    have q18 : (n : Int) / 2 ^ Int.toNat 18 = ((n / 262144 : Nat) : Int) := by show (n : Int) / 262144 = _; omega
    have low : ∀ m : Nat, m ≤ 1114111 → iand .i64 (m : Int) 63 = ((m % 64 : Nat) : Int) := by
      intro m hm
      rw [iand63 (by omega) (by omega)]; omega
    have by' : ∀ m : Nat, m ≤ 255 → PV.int .u8 (IntKind.u8.wrap (m : Int)) = byteP (UInt8.ofNat m) := by
      intro m hm
      have := byte_of (x := (m : Int)) (by omega) (by omega)
      simpa using this
    rw [List.map_append, show List.replicate (Int.toNat 0) (PV.int IntKind.u8 0) = [] from rfl, List.nil_append]
    congr 1
  · rw [utfSize_1] at hb
    rw [if_pos hb]
    simp only [List.map_cons, List.map_nil]
    rw [Int.toNat_natCast, by' n (by omega)]
  · rename_i h1
    rw [utfSize_1] at h1
    rw [utfSize_2] at hb
    rw [if_neg h1, if_pos hb.2]
    simp only [List.map_cons, List.map_nil]
    rw [Int.toNat_natCast, q6, low n (by omega), oct_or192 _ (by omega), oct_or128 _ (by omega), by' _ (by omega), by' _ (by omega)]
  · rename_i h1 h2
    rw [utfSize_1] at h1
    rw [utfSize_2] at h2
    rw [utfSize_3] at hb
    rw [if_neg h1, if_neg (by omega), if_pos hb.2]
    simp only [List.map_cons, List.map_nil]
    rw [Int.toNat_natCast, q6, q12, low n (by omega), low (n / 64) (by omega), oct_or224 _ (by omega), oct_or128 _ (by omega), oct_or128 _ (by omega), by' _ (by omega), by' _ (by omega), by' _ (by omega)]
  · rename_i h1 h2
    rw [utfSize_1] at h1
    rw [utfSize_2] at h2
    rw [utfSize_3] at hb
    rw [if_neg h1, if_neg (by omega), if_neg (by omega)]
    simp only [List.map_cons, List.map_nil]
    rw [Int.toNat_natCast, q6, q12, q18, low n (by omega), low (n / 64) (by omega), low (n / 4096) (by omega), oct_or240 _ (by omega), oct_or128 _ (by omega), oct_or128 _ (by omega), oct_or128 _ (by omega), by' _ (by omega), by' _ (by omega), by' _ (by omega), by' _ (by omega)]
theorem esc_start (t : Str) (a : Int) (ha : -1073741824 ≤ a ∧ a ≤ 1073741824) (hs : t.length ≤ 1073741824) : AbsCall PP GG F.esc_start [.p (.str t), .p (.int .i64 a)] [] ⟨.ret (.ptr 0 0), [rdO t (clampL t a) []], []⟩ := by
  have e : (if (t.length : Int) < (if 0 > a then 0 else a) then (t.length : Int) else if 0 > a then 0 else a) = clampL t a := by unfold clampL; omega
  refine absCall_of (pol := polG) mixP F.esc_start_is ?_
  conv => whnf
  repeat' ((first
   | ((with_reducible first | refine Br.dec ?_ ?_ | refine Br.ndec ?_ ?_) <;> intro hb <;> (try simp only [ZZ] at hb) <;> (first | omega | contradiction | skip))
   | (with_reducible first | refine Br.tt rfl ?_ | refine Br.ff rfl ?_ | refine Br.ff (isEmptyCons _ _) ?_)
   | ((with_reducible first | refine Side.mk ?_ ?_ | refine WrapW.mk ?_ ?_); focus (first | omega | (dsimp only [InR, Int.reduceToNat, IntKind.bits, Int.reducePow]; omega) | (simp [CC]; done) | (constructor <;> omega)))
   | with_reducible refine Br.not ?_
   | (with_reducible first | refine Br.tt (by assumption) ?_ | refine Br.ff (by assumption) ?_)
   | (refine Br.mk ?_ ?_ <;> intro hb <;> (try simp only [ZZ] at hb) <;> (first | omega | contradiction | skip))
   | refine Src.whole ⟨rfl, rfl⟩ ?_ | refine FrzV.whole ?_) <;> conv => whnf)
  rw [e]
  refine ⟨OutLe.refl _, ?_, fun _ h => h⟩
  refine HLe.var1 ⟨VLe.refl _, VLe.refl _, ?_, trivial⟩
  exact (PLe.nils false).p
theorem reader_begins (t acc : Str) (a : Int) (c : UInt8) (h0 : 0 ≤ a) (h1 : a ≤ t.length) : AbsCall PP GG F.esc_reader_begins [.ptr 0 0, .p (.str [c])] [rdO t a acc] ⟨.ret (.p (.bool (preB (t.drop a.toNat) c))), [rdO t a acc], []⟩ := by
  refine absCall_of (pol := polG) mixP F.esc_reader_begins_is ?_
  conv => whnf
  repeat' ((first
   | ((with_reducible first | refine Br.dec ?_ ?_ | refine Br.ndec ?_ ?_) <;> intro hb <;> (try simp only [ZZ] at hb) <;> (first | omega | contradiction | skip))
   | (with_reducible first | refine Br.tt rfl ?_ | refine Br.ff rfl ?_ | refine Br.ff (isEmptyCons _ _) ?_)
   | ((with_reducible first | refine Side.mk ?_ ?_ | refine WrapW.mk ?_ ?_); focus (first | omega | (dsimp only [InR, Int.reduceToNat, IntKind.bits, Int.reducePow]; omega) | (simp [CC]; done) | (constructor <;> omega)))
   | with_reducible refine Br.not ?_
   | (with_reducible first | refine Br.tt (by assumption) ?_ | refine Br.ff (by assumption) ?_)
   | (refine Br.mk ?_ ?_ <;> intro hb <;> (try simp only [ZZ] at hb) <;> (first | omega | contradiction | skip))
   | refine Src.whole ⟨rfl, rfl⟩ ?_ | refine FrzV.whole ?_
   | refine CallW.use (strings_HasPrefix _ c) ?_) <;> conv => whnf)
  exact CLe.eq rfl
theorem reader_put (t acc : Str) (a x k : Int) (h0 : 0 ≤ a) (h1 : a ≤ 1073741824) (hk : 0 ≤ k ∧ k ≤ 1000) (hacc : acc.length ≤ 1073741824) : AbsCall PP GG F.esc_reader_put [.ptr 0 0, .p (.int .i64 x), .p (.int .i64 k)] [rdO t a acc] ⟨.ret (.p (.bool (putR a acc x k).1)), [rdO t (putR a acc x k).2.1 (putR a acc x k).2.2], []⟩ := by
  have hP := utf_PutZ acc x hacc
  refine absCall_of (pol := polG) mixP F.esc_reader_put_is ?_
  conv => whnf
  repeat' ((first
   | ((with_reducible first | refine Br.dec ?_ ?_ | refine Br.ndec ?_ ?_) <;> intro hb <;> (try simp only [ZZ] at hb) <;> (first | omega | contradiction | skip))
   | (with_reducible first | refine Br.tt rfl ?_ | refine Br.ff rfl ?_ | refine Br.ff (isEmptyCons _ _) ?_)
   | ((with_reducible first | refine Side.mk ?_ ?_ | refine WrapW.mk ?_ ?_); focus (first | omega | (dsimp only [InR, Int.reduceToNat, IntKind.bits, Int.reducePow]; omega) | (simp [CC]; done) | (constructor <;> omega)))
   | with_reducible refine Br.not ?_
   | (with_reducible first | refine Br.tt (by assumption) ?_ | refine Br.ff (by assumption) ?_)
   | (refine Br.mk ?_ ?_ <;> intro hb <;> (try simp only [ZZ] at hb) <;> (first | omega | contradiction | skip))
   | refine Src.whole ⟨rfl, rfl⟩ ?_ | refine FrzV.whole ?_
   | refine CallW.use (utf_Good x) ?_
   | refine CallW.use (hP) ?_) <;> conv => whnf)
  · refine CLe.eq ?_; unfold putR; rw [if_pos hb]; rfl
  · refine CLe.eq ?_; unfold putR; rw [if_neg (by rw [hb]; simp)]; rfl
theorem reader_letter (t acc : Str) (a : Int) (h0 : 0 ≤ a) (h1 : a ≤ t.length) (hs : t.length ≤ 1073741824) (hacc : acc.length ≤ 1073741824) : AbsCall PP GG F.esc_reader_letter [.ptr 0 0] [rdO t a acc] ⟨.ret (.p (.bool (decide (0 < (utfTake (t.drop a.toNat)).2)))), [rdO t (a + (utfTake (t.drop a.toNat)).2) (acc ++ utfEnc (utfTake (t.drop a.toNat)).1)], []⟩ := by
  have hn := utfTake_n (t.drop a.toNat)
  refine absCall_of (pol := polG) mixP F.esc_reader_letter_is ?_
  conv => whnf
  repeat' ((first
   | ((with_reducible first | refine Br.dec ?_ ?_ | refine Br.ndec ?_ ?_) <;> intro hb <;> (try simp only [ZZ] at hb) <;> (first | omega | contradiction | skip))
   | (with_reducible first | refine Br.tt rfl ?_ | refine Br.ff rfl ?_ | refine Br.ff (isEmptyCons _ _) ?_)
   | ((with_reducible first | refine Side.mk ?_ ?_ | refine WrapW.mk ?_ ?_); focus (first | omega | (dsimp only [InR, Int.reduceToNat, IntKind.bits, Int.reducePow]; omega) | (simp [CC]; done) | (constructor <;> omega)))
   | with_reducible refine Br.not ?_
   | (with_reducible first | refine Br.tt (by assumption) ?_ | refine Br.ff (by assumption) ?_)
   | (refine Br.mk ?_ ?_ <;> intro hb <;> (try simp only [ZZ] at hb) <;> (first | omega | contradiction | skip))
   | refine Src.whole ⟨rfl, rfl⟩ ?_ | refine FrzV.whole ?_
   | refine CallW.use (utf_Take _ (by simp only [List.length_drop]; omega)) ?_
   | refine CallW.use (utf_PutZ acc _ hacc) ?_) <;> conv => whnf)
  exact CLe.eq rfl
theorem reader_digits (t acc : Str) (a : Int) (b n : Nat) (hs : t.length ≤ 1073741824) (hb : b ≤ 1073741824) (hn : n ≤ 8) : AbsCall PP GG F.esc_reader_digits [.ptr 0 0, .p (.int .i64 b), .p (.int .i64 n)] [rdO t a acc] ⟨.ret (.tup [.p (.int .i64 (digL t b n).1), .p (.bool (digL t b n).2)]), [rdO t a acc], []⟩ := by
  have hH := esc_Hex ((t.drop (b : Int).toNat).take (((b : Int) + n).toNat - (b : Int).toNat)) (by simp only [List.length_take, List.length_drop]; omega)
  unfold digL
  by_cases h : t.length < b + n
  · rw [if_pos h]
    refine absCall_of (pol := polG) mixP F.esc_reader_digits_is ?_
    conv => whnf
    repeat' ((first
     | ((with_reducible first | refine Br.dec ?_ ?_ | refine Br.ndec ?_ ?_) <;> intro hb <;> (try simp only [ZZ] at hb) <;> (first | omega | contradiction | skip))
     | (with_reducible first | refine Br.tt rfl ?_ | refine Br.ff rfl ?_ | refine Br.ff (isEmptyCons _ _) ?_)
     | ((with_reducible first | refine Side.mk ?_ ?_ | refine WrapW.mk ?_ ?_); focus (first | omega | (dsimp only [InR, Int.reduceToNat, IntKind.bits, Int.reducePow]; omega) | (simp [CC]; done) | (constructor <;> omega)))
     | with_reducible refine Br.not ?_
     | (with_reducible first | refine Br.tt (by assumption) ?_ | refine Br.ff (by assumption) ?_)
     | (refine Br.mk ?_ ?_ <;> intro hb <;> (try simp only [ZZ] at hb) <;> (first | omega | contradiction | skip))
     | refine Src.whole ⟨rfl, rfl⟩ ?_ | refine FrzV.whole ?_) <;> conv => whnf)
    all_goals exact CLe.eq rfl
  · rw [if_neg h]
    refine absCall_of (pol := polG) mixP F.esc_reader_digits_is ?_
    conv => whnf
    repeat' ((first
     | ((with_reducible first | refine Br.dec ?_ ?_ | refine Br.ndec ?_ ?_) <;> intro hb <;> (try simp only [ZZ] at hb) <;> (first | omega | contradiction | skip))
     | (with_reducible first | refine Br.tt rfl ?_ | refine Br.ff rfl ?_ | refine Br.ff (isEmptyCons _ _) ?_)
     | ((with_reducible first | refine Side.mk ?_ ?_ | refine WrapW.mk ?_ ?_); focus (first | omega | (dsimp only [InR, Int.reduceToNat, IntKind.bits, Int.reducePow]; omega) | (simp [CC]; done) | (constructor <;> omega)))
     | with_reducible refine Br.not ?_
     | (with_reducible first | refine Br.tt (by assumption) ?_ | refine Br.ff (by assumption) ?_)
     | (refine Br.mk ?_ ?_ <;> intro hb <;> (try simp only [ZZ] at hb) <;> (first | omega | contradiction | skip))
     | refine Src.whole ⟨rfl, rfl⟩ ?_ | refine FrzV.whole ?_
     | refine CallW.use (hH) ?_) <;> conv => whnf)
    refine CLe.eq ?_
    rw [show (((b : Int) + n).toNat - (b : Int).toNat) = n by omega, Int.toNat_natCast]
    rfl
theorem reader_escape (t acc : Str) (a : Nat) (h1 : a < t.length) (hs : t.length ≤ 1000000) (hacc : acc.length ≤ 1073741824) :
    AbsCall PP GG F.esc_reader_escape [.ptr 0 0] [rdO t a acc] ⟨.ret (.p (.bool (escAt t a acc).1)), [rdO t (escAt t a acc).2.1 (escAt t a acc).2.2], []⟩ := by
  have hS := esc_short (t.getD (a + 1) 0)
  have e1 : ((a : Int) + 1).toNat = a + 1 := by omega
  have e6 : ((a : Int) + 2 + 4).toNat = a + 6 := by omega
  by_cases h2 : a + 1 = t.length
  · rw [escAt_end h2]
    refine absCall_of (pol := polG) mixP F.esc_reader_escape_is ?_
    conv => whnf
    repeat' ((first
     | ((with_reducible first | refine Br.dec ?_ ?_ | refine Br.ndec ?_ ?_) <;> intro hb <;> (try simp only [ZZ] at hb) <;> (first | omega | contradiction | skip))
     | (with_reducible first | refine Br.tt rfl ?_ | refine Br.ff rfl ?_ | refine Br.ff (isEmptyCons _ _) ?_)
     | ((with_reducible first | refine Side.mk ?_ ?_ | refine WrapW.mk ?_ ?_); focus (first | omega | (dsimp only [InR, Int.reduceToNat, IntKind.bits, Int.reducePow]; omega) | (simp [CC]; done) | (constructor <;> omega)))
     | with_reducible refine Br.not ?_
     | (with_reducible first | refine Br.tt (by assumption) ?_ | refine Br.ff (by assumption) ?_)
     | (refine Br.mk ?_ ?_ <;> intro hb <;> (try simp only [ZZ] at hb) <;> (first | omega | contradiction | skip))
     | refine Src.whole ⟨rfl, rfl⟩ ?_ | refine FrzV.whole ?_) <;> conv => whnf)
    exact CLe.eq rfl
  · cases hsh : shortL (t.getD (a + 1) 0) with
    | some x =>
      rw [hsh] at hS
      rw [escAt_short h2 hsh]
      have hP := reader_put t acc a x 2 (by omega) (by omega) (by omega) hacc
      refine absCall_of (pol := polG) mixP F.esc_reader_escape_is ?_
      conv => whnf
      repeat' ((first
       | ((with_reducible first | refine Br.dec ?_ ?_ | refine Br.ndec ?_ ?_) <;> intro hb <;> (try simp only [ZZ] at hb) <;> (first | omega | contradiction | skip))
       | (with_reducible first | refine Br.tt rfl ?_ | refine Br.ff rfl ?_ | refine Br.ff (isEmptyCons _ _) ?_)
       | ((with_reducible first | refine Side.mk ?_ ?_ | refine WrapW.mk ?_ ?_); focus (first | omega | (dsimp only [InR, Int.reduceToNat, IntKind.bits, Int.reducePow]; omega) | (simp [CC]; done) | (constructor <;> omega)))
       | with_reducible refine Br.not ?_
       | (with_reducible first | refine Br.tt (by assumption) ?_ | refine Br.ff (by assumption) ?_)
       | (refine Br.mk ?_ ?_ <;> intro hb <;> (try simp only [ZZ] at hb) <;> (first | omega | contradiction | skip))
       | refine Src.whole ⟨rfl, rfl⟩ ?_ | refine FrzV.whole ?_
       | refine CallW.use (hS) ?_
       | refine CallW.use (hP) ?_) <;> conv => whnf)
      exact CLe.eq rfl
    | none =>
      rw [hsh] at hS
      have hE := escAt_u (acc := acc) h2 hsh
      have hD := reader_digits t acc a (a + 2) 4 (by omega) (by omega) (by omega)
      have hD8 := reader_digits t acc a (a + 8) 4 (by omega) (by omega) (by omega)
      have hl4 := @digL_lt t (a + 2)
      have hl8 := @digL_lt t (a + 8)
      have hP6 := fun x => reader_put t acc a x 6 (by omega) (by omega) (by omega) hacc
      have hP12 := fun x => reader_put t acc a x 12 (by omega) (by omega) (by omega) hacc
      generalize digL t (a + 2) 4 = d at *
      generalize digL t (a + 8) 4 = e at *
      obtain ⟨x, ok⟩ := d
      obtain ⟨y, ok2⟩ := e
      generalize escAt t a acc = R at *
      simp only [] at hE hl4 hl8
      have hF1 : ¬ ((t.getD (a + 1) 0).toNat : Int) = 117 → R = (false, (a : Int), acc) := fun h => by rw [hE, if_pos (Or.inl h)]
      have hF2 : ok = false → R = (false, (a : Int), acc) := fun h => by rw [hE, if_pos (Or.inr h)]
      have hX : ((t.getD (a + 1) 0).toNat : Int) = 117 → ok = true → (x < 55296 ∨ 56320 ≤ x) → R = putR a acc x 6 := fun h h' h2 => by rw [hE, if_neg (fun hh => hh.elim (fun g => g h) (fun g => by rw [h'] at g; cases g)), if_pos h2]
      have hY : ((t.getD (a + 1) 0).toNat : Int) = 117 → ok = true → ¬ x < 55296 → ¬ 56320 ≤ x → (ok2 = false ∨ ¬ (t.drop (a + 6)).take 2 = [92, 117] ∨ y < 56320 ∨ 57343 < y) → R = (false, (a : Int), acc) := fun h h' h2 h3 h4 => by rw [hE, if_neg (fun hh => hh.elim (fun g => g h) (fun g => by rw [h'] at g; cases g)), if_neg (fun hh => hh.elim h2 h3), if_pos h4]
      have hZ : ((t.getD (a + 1) 0).toNat : Int) = 117 → ok = true → ¬ x < 55296 → ¬ 56320 ≤ x → ok2 = true → (t.drop (a + 6)).take 2 = [92, 117] → ¬ y < 56320 → ¬ 57343 < y → R = putR a acc (65536 + (x - 55296) * 1024 + (y - 56320)) 12 := fun h h' h2 h3 h4 h5 h6 h7 => by rw [hE, if_neg (fun hh => hh.elim (fun g => g h) (fun g => by rw [h'] at g; cases g)), if_neg (fun hh => hh.elim h2 h3), if_neg (fun hh => hh.elim (fun g => by rw [h4] at g; cases g) (fun hh => hh.elim (fun g => g h5) (fun hh => hh.elim h6 h7)))]
      have e8 : ((a : Int) + 2 + 4 + 2).toNat = a + 8 := by omega
      have e86 : a + 8 - (a + 6) = 2 := by omega
      clear hE
      refine absCall_of (pol := polG) mixP F.esc_reader_escape_is ?_
      conv => whnf
      repeat' ((first
       | ((with_reducible first | refine Br.dec ?_ ?_ | refine Br.ndec ?_ ?_) <;> intro hb <;> (try simp only [And.intro @e1 (And.intro @e8 (And.intro @e6 (And.intro @e86 (ZZ))))] at hb) <;> (first | omega | contradiction | skip))
       | (with_reducible first | refine Br.tt rfl ?_ | refine Br.ff rfl ?_ | refine Br.ff (isEmptyCons _ _) ?_)
       | ((with_reducible first | refine Side.mk ?_ ?_ | refine WrapW.mk ?_ ?_); focus (first | omega | (dsimp only [InR, Int.reduceToNat, IntKind.bits, Int.reducePow]; omega) | (have := hl8 (by assumption); omega) | (simp [CC]; done) | (constructor <;> omega)))
       | with_reducible refine Br.not ?_
       | (with_reducible first | refine Br.tt (by assumption) ?_ | refine Br.ff (by assumption) ?_)
       | (refine Br.mk ?_ ?_ <;> intro hb <;> (try simp only [And.intro @e1 (And.intro @e8 (And.intro @e6 (And.intro @e86 (ZZ))))] at hb) <;> (first | omega | contradiction | skip))
       | refine Src.whole ⟨rfl, rfl⟩ ?_ | refine FrzV.whole ?_
       | refine CallW.use (hS) ?_
       | refine CallW.use (hD) ?_
       | refine CallW.use (hD8) ?_
       | refine CallW.use (hP6 _) ?_
       | refine CallW.use (hP12 _) ?_) <;> conv => whnf)
      all_goals
        first
        | rw [hF1 (by assumption)]
        | rw [hF2 (by assumption)]
        | rw [hX (by assumption) (by assumption) (.inl (by assumption))]
        | rw [hX (by assumption) (by assumption) (.inr (by assumption))]
        | rw [hY (by assumption) (by assumption) (by assumption) (by assumption) (.inl (by assumption))]
        | rw [hY (by assumption) (by assumption) (by assumption) (by assumption) (.inr (.inl (by assumption)))]
        | rw [hY (by assumption) (by assumption) (by assumption) (by assumption) (.inr (.inr (.inl (by assumption))))]
        | rw [hY (by assumption) (by assumption) (by assumption) (by assumption) (.inr (.inr (.inr (by assumption))))]
        | rw [hZ (by assumption) (by assumption) (by assumption) (by assumption) (by assumption) (by assumption) (by assumption) (by assumption)]
        | skip
        exact CLe.eq rfl
theorem unq_loop (t : Str) (hs : t.length ≤ 1000000) (R : Str × Int × Int) (K : Post)
    (h0 : R = ([], 0, (t.length : Int)) → ∀ a acc, K (.exit 0) [(0, .p (.str t))] [rdO t a acc] [])
    (hr : ∀ a acc, K .ret [(4, .p (.str R.1)), (5, .p (.int .i64 R.2.1)), (6, .p (.int .i64 R.2.2))] [rdO t a acc] []) :
    ∀ (q a : Nat) (acc : Str), t.length < a + q → acc.length ≤ 4 * a → a ≤ t.length → unqL q t a acc = R →
      LoopW PP GG 82 0 (loopN F.esc_Unquote_c 0) [(0, .p (.str t)), (7, .ptr 0 0)] [rdO t a acc] [] (PostCl 82 K) := by
  intro q
  induction q with
  | zero => intro a acc hq _ hal; omega
  | succ q ih =>
    intro a acc hq hacc hal hR
    rw [unqL] at hR
    by_cases hl : t.length ≤ a
    · rw [if_pos hl] at hR
      refine LoopW.round (pol := polG) mixP ?_
      conv => whnf
      repeat' ((first
       | ((with_reducible first | refine Br.dec ?_ ?_ | refine Br.ndec ?_ ?_) <;> intro hb <;> (try simp only [ZZ] at hb) <;> (first | omega | contradiction | skip))
       | (with_reducible first | refine Br.tt rfl ?_ | refine Br.ff rfl ?_ | refine Br.ff (isEmptyCons _ _) ?_)
       | ((with_reducible first | refine Side.mk ?_ ?_ | refine WrapW.mk ?_ ?_); focus (first | omega | (dsimp only [InR, Int.reduceToNat, IntKind.bits, Int.reducePow]; omega) | (simp [CC]; done) | (constructor <;> omega)))
       | with_reducible refine Br.not ?_
       | (with_reducible first | refine Br.tt (by assumption) ?_ | refine Br.ff (by assumption) ?_)
       | (refine Br.mk ?_ ?_ <;> intro hb <;> (try simp only [ZZ] at hb) <;> (first | omega | contradiction | skip))
       | refine Src.whole ⟨rfl, rfl⟩ ?_ | refine FrzV.whole ?_) <;> conv => whnf)
      · refine PostCl.of (h0 hR.symm _ _) ?_ ?_
        · repeat first | exact trivial | refine ⟨VLe.refl _, ?_⟩
        · repeat first | exact trivial | refine ⟨by decide, ?_⟩
    · rw [if_neg hl] at hR
      have hE := reader_escape t acc a (by omega) (by omega) (by omega)
      have hL := reader_letter t acc a (by omega) (by omega) (by omega) (by omega)
      have hok := @escAt_ok t a acc (by omega)
      have hno := @escAt_no t a acc
      have hn := utfTake_n (t.drop a)
      have hn1 := utfEnc_len4 (utfTake (t.drop a)).1
      rw [List.length_drop] at hn
      rw [Int.toNat_natCast] at hL
      generalize escAt t a acc = E at *
      obtain ⟨n, hn2⟩ := Int.eq_ofNat_of_zero_le (show 0 ≤ (utfTake (t.drop a)).2 by omega)
      rw [hn2] at hn hL hR
      refine LoopW.round (pol := polG) mixP ?_
      conv => whnf
      repeat' ((first
       | ((with_reducible first | refine Br.dec ?_ ?_ | refine Br.ndec ?_ ?_) <;> intro hb <;> (try simp only [And.intro @Int.toNat_natCast (ZZ)] at hb) <;> (first | omega | contradiction | skip))
       | (with_reducible first | refine Br.tt rfl ?_ | refine Br.ff rfl ?_ | refine Br.ff (isEmptyCons _ _) ?_)
       | ((with_reducible first | refine Side.mk ?_ ?_ | refine WrapW.mk ?_ ?_); focus (first | omega | (dsimp only [InR, Int.reduceToNat, IntKind.bits, Int.reducePow]; omega) | (simp [CC]; done) | (constructor <;> omega)))
       | with_reducible refine Br.not ?_
       | (with_reducible first | refine Br.tt (by assumption) ?_ | refine Br.ff (by assumption) ?_)
       | (refine Br.mk ?_ ?_ <;> intro hb <;> (try simp only [And.intro @Int.toNat_natCast (ZZ)] at hb) <;> (first | omega | contradiction | skip))
       | refine Src.whole ⟨rfl, rfl⟩ ?_ | refine FrzV.whole ?_
       | refine CallW.use (hE) ?_
       | refine CallW.use (hL) ?_
       | (refine Bytes.mk' rfl ?_)) <;> conv => whnf)
      · rw [if_pos (by omega)] at hR
        subst hR
        refine PostCl.of (hr _ _) ?_ ?_
        · repeat first | exact trivial | refine ⟨VLe.refl _, ?_⟩
        · repeat first | exact trivial | refine ⟨by decide, ?_⟩
      · rw [if_neg (by omega), if_pos (by omega)] at hR
        subst hR
        refine PostCl.of (hr _ _) ?_ ?_
        · repeat first | exact trivial | refine ⟨VLe.refl _, ?_⟩
        · repeat first | exact trivial | refine ⟨by decide, ?_⟩
      · obtain ⟨k, x, hEq, hk, hkl⟩ := hok hb
        rw [if_neg (by omega), if_neg (by omega), if_pos (by omega), if_pos hb] at hR
        have := utfEnc_len4 x
        subst hEq
        rw [Int.toNat_natCast] at hR
        refine LoopW.sub (ih (a + k) (acc ++ utfEnc x) (by omega) (by rw [List.length_append]; omega) (by omega) hR) (by repeat first | exact trivial | refine ⟨VLe.refl _, ?_⟩) (by repeat first | exact trivial | refine ⟨by decide, ?_⟩)
      · rw [if_neg (by omega), if_neg (by omega), if_pos (by omega), if_neg (by rw [hb]; simp)] at hR
        rw [hno hb]
        subst hR
        refine PostCl.of (hr _ _) ?_ ?_
        · repeat first | exact trivial | refine ⟨VLe.refl _, ?_⟩
        · repeat first | exact trivial | refine ⟨by decide, ?_⟩
      · rw [if_neg (by omega), if_neg (by omega), if_neg (by omega), if_pos (by omega)] at hR
        rw [show (a : Int) + (n : Int) = a by omega]
        subst hR
        refine PostCl.of (hr _ _) ?_ ?_
        · repeat first | exact trivial | refine ⟨VLe.refl _, ?_⟩
        · repeat first | exact trivial | refine ⟨by decide, ?_⟩
      · rw [if_neg (by omega), if_neg (by omega), if_neg (by omega), if_neg (by omega), Int.toNat_natCast] at hR
        refine LoopW.sub (ih (a + n) _ (by omega) (by rw [List.length_append]; omega) (by omega) hR) (by repeat first | exact trivial | refine ⟨VLe.refl _, ?_⟩) (by repeat first | exact trivial | refine ⟨by decide, ?_⟩)
theorem esc_Unquote (t : Str) (a : Int) (ha : -1073741824 ≤ a ∧ a ≤ 1073741824) (hs : t.length ≤ 1000000) : AbsCall PP GG F.esc_Unquote [.p (.str t), .p (.int .i64 a)] [] ⟨.ret (.tup [.p (.str (unquoteL t a).1), .p (.int .i64 (unquoteL t a).2.1), .p (.int .i64 (unquoteL t a).2.2)]), [], []⟩ := by
  have hS := esc_start t a ha (by omega)
  have hc := clampL_le t a
  have hB := reader_begins t [] (clampL t a) 34 hc.1 hc.2
  unfold unquoteL
  generalize clampL t a = c at *
  obtain ⟨c, rfl⟩ := Int.eq_ofNat_of_zero_le hc.1
  have hpl := @preB_len (t.drop c) 34
  rw [List.length_drop] at hpl
  rw [Int.toNat_natCast] at hB ⊢
  refine absCall_of (pol := polG) mixP F.esc_Unquote_is ?_
  conv => whnf
  repeat' ((first
   | ((with_reducible first | refine Br.dec ?_ ?_ | refine Br.ndec ?_ ?_) <;> intro hb <;> (try simp only [ZZ] at hb) <;> (first | omega | contradiction | skip))
   | (with_reducible first | refine Br.tt rfl ?_ | refine Br.ff rfl ?_ | refine Br.ff (isEmptyCons _ _) ?_)
   | ((with_reducible first | refine Side.mk ?_ ?_ | refine WrapW.mk ?_ ?_); focus (first | omega | (dsimp only [InR, Int.reduceToNat, IntKind.bits, Int.reducePow]; omega) | (simp [CC]; done) | (constructor <;> omega)))
   | with_reducible refine Br.not ?_
   | (with_reducible first | refine Br.tt (by assumption) ?_ | refine Br.ff (by assumption) ?_)
   | (refine Br.mk ?_ ?_ <;> intro hb <;> (try simp only [ZZ] at hb) <;> (first | omega | contradiction | skip))
   | refine Src.whole ⟨rfl, rfl⟩ ?_ | refine FrzV.whole ?_
   | refine CallW.use (hS) ?_
   | refine CallW.use (hB) ?_) <;> conv => whnf)
  · rw [if_pos (Or.inl hb)]; exact CLe.eq rfl
  · have := hpl (by assumption)
    rw [if_neg (fun hh => hh.elim (by assumption) (fun g => by simp_all))]
    refine LoopW.cl ?_
    refine LoopW.sub (unq_loop t hs (unqL (t.length + 1) t (c + 1) []) _ (fun h b acc => ?_) (fun b acc => ?_) (t.length + 1) (c + 1) [] (by omega) (by simp) (by omega) rfl) (by repeat first | exact trivial | refine ⟨VLe.refl _, ?_⟩) (by repeat first | exact trivial | refine ⟨by decide, ?_⟩)
    · conv => whnf
      exact CLe.eq (by rw [h])
    · conv => whnf
      exact CLe.eq rfl
  · rw [if_pos (Or.inr (by assumption))]; exact CLe.eq rfl
end Go.Proofs.YtoinkmogdfjmmaaGreatDoor
end

section
namespace Go.Am
open Go
structure Wd where
  k : Int
  s : Str
  a : Int
deriving DecidableEq
def Wd.enc (w : Wd) : PV := .agg [.int .i64 w.k, .str w.s, .int .i64 w.a]
def signs : Str := [123, 125, 91, 93, 58, 44]
def lowers : Str := [97, 98, 99, 100, 101, 102, 103, 104, 105, 106, 107, 108, 109, 110, 111, 112, 113, 114, 115, 116, 117, 118, 119, 120, 121, 122]
def numBs : Str := [48, 49, 50, 51, 52, 53, 54, 55, 56, 57, 43, 45, 46, 101, 69]
def blanksB : Str := [32, 9, 10, 13]
def wordL (t : Str) (a : Nat) : Wd × Int × Int × Int :=
  if 0 ≤ firstIdx ⟨signs.toArray⟩ (t.getD a 0) then (⟨1, (t.drop a).take 1, a⟩, (a : Int) + 1, 0, 0) else
  if ((t.getD a 0).toNat : Int) = 34 then
    (if 0 ≤ (unquoteL t a).2.2 then (⟨0, [], 0⟩, 0, 4, (unquoteL t a).2.2) else
     if 4096 < ((unquoteL t a).1.length : Int) then (⟨0, [], 0⟩, 0, 2, (a : Int)) else
     (⟨2, (unquoteL t a).1, a⟩, (unquoteL t a).2.1, 0, 0)) else
  if 97 ≤ ((t.getD a 0).toNat : Int) ∧ ((t.getD a 0).toNat : Int) ≤ 122 then
    (if ¬ (t.drop a).take (whileL (t.drop a) lowers) = [116, 114, 117, 101] ∧ ¬ (t.drop a).take (whileL (t.drop a) lowers) = [102, 97, 108, 115, 101] ∧ ¬ (t.drop a).take (whileL (t.drop a) lowers) = [110, 117, 108, 108] then (⟨0, [], 0⟩, 0, 4, (a : Int)) else
     (⟨4, (t.drop a).take (whileL (t.drop a) lowers), a⟩, (a : Int) + whileL (t.drop a) lowers, 0, 0)) else
  if whileL (t.drop a) numBs = 0 then (⟨0, [], 0⟩, 0, 4, (a : Int)) else
  if jnumL ((t.drop a).take (whileL (t.drop a) numBs)) ≠ 0 then (⟨0, [], 0⟩, 0, jnumL ((t.drop a).take (whileL (t.drop a) numBs)), (a : Int)) else
  (⟨3, (t.drop a).take (whileL (t.drop a) numBs), a⟩, (a : Int) + whileL (t.drop a) numBs, 0, 0)
def faultP (t : Str) (a e : Int) : PV := .agg [.int .i64 e, .int .i64 (clampL t a), .int .i64 (placeL t a).1, .int .i64 (placeL t a).2]
def noFault : PV := .agg [.int .i64 0, .int .i64 0, .int .i64 0, .int .i64 0]
def judgeS (t : Str) : Int × Int := if 65536 < t.length then (2, t.length) else if (utfValid t).2 = false then (3, (utfValid t).1) else (0, 0)
def faultE (t : Str) (e : Int × Int) : PV := if e.1 = 0 then noFault else faultP t e.2 e.1
def judgeF (t : Str) : PV := faultE t (judgeS t)
theorem while_ascii (s : Str) (c : Str) (h : c.all (fun b => decide (b.toNat < 128)) = true) : ∀ (j : Nat) (b : UInt8), (s.take (whileL s c))[j]? = some b → b.toNat < 128 := by
  intro j b hb
  have hm := List.mem_of_getElem? hb
  have : s.take (whileL s c) = s.takeWhile (c.contains ·) := by
    unfold whileL
    exact (List.prefix_iff_eq_take.1 (List.takeWhile_prefix _)).symm
  rw [this] at hm
  have hc := List.all_eq_true.1 List.all_takeWhile b hm
  simp only [List.contains_iff_mem, List.elem_eq_mem, decide_eq_true_eq] at hc
  have := List.all_eq_true.1 h b hc
  simpa using this
theorem utfScan_le : ∀ (q : Nat) (s : Str) (a : Int), s.length ≤ q → a ≤ (utfScan q s a).1 ∧ ((utfScan q s a).2 = false → (utfScan q s a).1 ≤ a + s.length)
  | 0, s, a, _ => by rw [utfScan]; simp
  | q + 1, [], a, _ => by rw [utfScan]; simp
  | q + 1, c :: cs, a, h => by
    rw [utfScan]
    have hn := utfTake_n (c :: cs)
    split
    · simp only [List.length_cons]; omega
    · have := utfScan_le q ((c :: cs).drop (utfTake (c :: cs)).2.toNat) (a + (utfTake (c :: cs)).2) (by rw [List.length_drop]; simp only [List.length_cons] at h ⊢; omega)
      rw [List.length_drop] at this
      refine ⟨by omega, fun hh => ?_⟩
      have := this.2 hh
      simp only [List.length_cons] at *
      omega
theorem utfValid_le (s : Str) (h : (utfValid s).2 = false) : 0 ≤ (utfValid s).1 ∧ (utfValid s).1 ≤ s.length := by
  have := utfScan_le s.length s 0 (Nat.le_refl _)
  have := this.2 h
  unfold utfValid
  omega
end Go.Am
end

section
namespace Go.Proofs.YtoinkmogdfjmmaaGreatDoor
open Go Go.Am Go.RowKit
set_option maxRecDepth 100000
theorem jlex_Judge (t : Str) (hs : t.length ≤ 1073741824) : AbsCall PP GG F.jlex_Judge [.p (.str t)] [] ⟨.ret (.p (judgeF t)), [], []⟩ := by
  have hF1 := place_Fault t t.length 2 (by omega) hs
  have hV := utf_Valid t hs
  have hF2 := fun h => place_Fault t (utfValid t).1 3 (by have := utfValid_le t h; omega) hs
  unfold judgeF judgeS
  refine absCall_of (pol := polG) mixP F.jlex_Judge_is ?_
  conv => whnf
  repeat' ((first
   | ((with_reducible first | refine Br.dec ?_ ?_ | refine Br.ndec ?_ ?_) <;> intro hb <;> (try simp only [ZZ] at hb) <;> (first | omega | contradiction | skip))
   | (with_reducible first | refine Br.tt rfl ?_ | refine Br.ff rfl ?_ | refine Br.ff (isEmptyCons _ _) ?_)
   | ((with_reducible first | refine Side.mk ?_ ?_ | refine WrapW.mk ?_ ?_); focus (first | omega | (dsimp only [InR, Int.reduceToNat, IntKind.bits, Int.reducePow]; omega) | (simp [CC]; done) | (constructor <;> omega)))
   | with_reducible refine Br.not ?_
   | (with_reducible first | refine Br.tt (by assumption) ?_ | refine Br.ff (by assumption) ?_)
   | (refine Br.mk ?_ ?_ <;> intro hb <;> (try simp only [ZZ] at hb) <;> (first | omega | contradiction | skip))
   | refine Src.whole ⟨rfl, rfl⟩ ?_ | refine FrzV.whole ?_
   | refine CallW.use (hF1) ?_
   | refine CallW.use (hV) ?_
   | refine CallW.use (hF2 (by assumption)) ?_) <;> conv => whnf)
  · rw [if_pos (by omega)]; exact CLe.eq rfl
  · rw [if_neg (by omega), if_neg (by simp [*])]; exact CLe.eq rfl
  · rw [if_neg (by omega), if_pos (by assumption)]; exact CLe.eq rfl
theorem jlex_word (t : Str) (a : Nat) (h1 : a < t.length) (hs : t.length ≤ 1000000) : AbsCall PP GG F.jlex_word [.p (.str t), .p (.int .i64 a)] []
    ⟨.ret (.tup [.p (wordL t a).1.enc, .p (.int .i64 (wordL t a).2.1), .p (.int .i64 (wordL t a).2.2.1), .p (.int .i64 (wordL t a).2.2.2)]), [], []⟩ := by
  have hg : t.getD a 0 = (t.drop a).getD 0 0 := by simp [List.getD]
  have hI := strings_IndexByte signs ((t.drop a).getD 0 0).toNat
  rw [show (((t.drop a).getD 0 0).toNat : Int).toNat.toUInt8 = (t.drop a).getD 0 0 by simp] at hI
  have hU := esc_Unquote t a (by omega) hs
  have hdl : (t.drop a).length = t.length - a := List.length_drop
  have hWl := jlex_while (t.drop a) lowers (by omega) (by decide) (by decide)
  have hWn := jlex_while (t.drop a) numBs (by omega) (by decide) (by decide)
  have hl1 := whileL_le (t.drop a) lowers
  have hl2 := whileL_le (t.drop a) numBs
  have hN := jlex_number ((t.drop a).take (whileL (t.drop a) numBs)) (by simp only [List.length_take]; omega) (while_ascii _ _ (by decide))
  unfold wordL
  rw [hg]
  generalize unquoteL t a = u at *
  generalize whileL (t.drop a) lowers = wl at *
  generalize whileL (t.drop a) numBs = wn at *
  generalize firstIdx ⟨signs.toArray⟩ ((t.drop a).getD 0 0) = fi at *
  clear hg
  have htl : ((t.drop a).take wl).length = wl := by rw [List.length_take]; omega
  have htn : ((t.drop a).take wn).length = wn := by rw [List.length_take]; omega
  have htl' : ((t.drop (a : Int).toNat).take (wl : Int).toNat).length = wl := by rw [Int.toNat_natCast, Int.toNat_natCast]; exact htl
  have htn' : ((t.drop (a : Int).toNat).take (wn : Int).toNat).length = wn := by rw [Int.toNat_natCast, Int.toNat_natCast]; exact htn
  refine absCall_of (pol := polG) mixP F.jlex_word_is ?_
  conv => whnf
  repeat' ((first
   | ((with_reducible first | refine Br.dec ?_ ?_ | refine Br.ndec ?_ ?_) <;> intro hb <;> (try simp only [And.intro NN (And.intro @Int.toNat_natCast (And.intro @htl (And.intro @htn (ZZ))))] at hb) <;> (first | omega | contradiction | skip))
   | (with_reducible first | refine Br.tt rfl ?_ | refine Br.ff rfl ?_ | refine Br.ff (isEmptyCons _ _) ?_)
   | ((with_reducible first | refine Side.mk ?_ ?_ | refine WrapW.mk ?_ ?_); focus (first | omega | (dsimp only [InR, Int.reduceToNat, IntKind.bits, Int.reducePow]; omega) | (rw [Int.toNat_natCast, hdl]; omega) | (rw [Int.toNat_natCast, Int.toNat_natCast, List.length_take]; constructor <;> omega) | (simp [CC]; done) | (constructor <;> omega)))
   | with_reducible refine Br.not ?_
   | (with_reducible first | refine Br.tt (by assumption) ?_ | refine Br.ff (by assumption) ?_)
   | (refine Br.mk ?_ ?_ <;> intro hb <;> (try simp only [And.intro NN (And.intro @Int.toNat_natCast (And.intro @htl (And.intro @htn (ZZ))))] at hb) <;> (first | omega | contradiction | skip))
   | refine Src.whole ⟨rfl, rfl⟩ ?_ | refine FrzV.whole ?_
   | refine CallW.use (hI) ?_
   | refine CallW.use (hU) ?_
   | refine CallW.use (hWl) ?_
   | refine CallW.use (hWn) ?_
   | refine CallW.use (hN) ?_) <;> conv => whnf)
  all_goals
    first
    | (rw [if_pos (by assumption)]; exact CLe.eq rfl)
    | (rw [if_neg (by assumption), if_pos (by assumption), if_pos (by assumption)]; exact CLe.eq rfl)
    | (rw [if_neg (by assumption), if_pos (by assumption), if_neg (by assumption), if_pos (by assumption)]; exact CLe.eq rfl)
    | (rw [if_neg (by assumption), if_pos (by assumption), if_neg (by assumption), if_neg (by assumption)]; exact CLe.eq rfl)
    | (rw [if_neg (by assumption), if_neg (by assumption), if_pos ⟨by assumption, by assumption⟩, if_pos ⟨by assumption, by assumption, by assumption⟩]; exact CLe.eq rfl)
    | (rw [if_neg (by assumption), if_neg (by assumption), if_pos ⟨by assumption, by assumption⟩, if_neg (fun h => h.1 (by assumption)), htl']; exact CLe.eq rfl)
    | (rw [if_neg (by assumption), if_neg (by assumption), if_pos ⟨by assumption, by assumption⟩, if_neg (fun h => h.2.1 (by assumption)), htl']; exact CLe.eq rfl)
    | (rw [if_neg (by assumption), if_neg (by assumption), if_pos ⟨by assumption, by assumption⟩, if_neg (fun h => h.2.2 (by assumption)), htl']; exact CLe.eq rfl)
    | (rw [if_neg (by assumption), if_neg (by assumption), if_neg (by omega), if_pos (by omega)]; exact CLe.eq rfl)
    | (rw [if_neg (by assumption), if_neg (by assumption), if_neg (by omega), if_neg (by omega), if_pos (by assumption)]; exact CLe.eq rfl)
    | (rw [if_neg (by assumption), if_neg (by assumption), if_neg (by omega), if_neg (by omega), if_neg (by omega), htn']; exact CLe.eq rfl)
end Go.Proofs.YtoinkmogdfjmmaaGreatDoor
end

section
namespace Go.Am
open Go
theorem escAt_bound {t : Str} {a : Nat} {acc : Str} (ha : a < t.length) (h : (escAt t a acc).1 = true) : a < (escAt t a acc).2.1.toNat ∧ (escAt t a acc).2.1.toNat ≤ t.length := by
  obtain ⟨k, x, h1, h2, h3⟩ := escAt_ok ha h
  rw [h1, Int.toNat_natCast]
  omega
theorem unqL_bound : ∀ (q : Nat) (t : Str) (a : Nat) (acc : Str), a ≤ t.length →
    ((unqL q t a acc).2.2 < 0 → (a : Int) < (unqL q t a acc).2.1 ∧ (unqL q t a acc).2.1 ≤ t.length) ∧ (unqL q t a acc).2.2 ≤ t.length
  | 0, t, a, acc, ha => by rw [unqL]; simp only []; omega
  | q + 1, t, a, acc, ha => by
    rw [unqL]
    split
    · simp only []; omega
    · split
      · simp only []; omega
      · split
        · simp only []; omega
        · split
          · split
            · rename_i h
              have hb := escAt_bound (acc := acc) (show a < t.length by omega) h
              have := unqL_bound q t (escAt t a acc).2.1.toNat (escAt t a acc).2.2 hb.2
              refine ⟨fun hh => ?_, this.2⟩
              have := this.1 hh
              omega
            · simp only []; omega
          · split
            · simp only []; omega
            · have hn := utfTake_n (t.drop a)
              rw [List.length_drop] at hn
              have := unqL_bound q t (a + (utfTake (t.drop a)).2.toNat) (acc ++ utfEnc (utfTake (t.drop a)).1) (by omega)
              refine ⟨fun hh => ?_, this.2⟩
              have := this.1 hh
              omega
theorem unquoteL_bound (t : Str) (a : Nat) (ha : a < t.length) :
    ((unquoteL t a).2.2 < 0 → (a : Int) < (unquoteL t a).2.1 ∧ (unquoteL t a).2.1 ≤ t.length) ∧ (unquoteL t a).2.2 ≤ t.length := by
  have hc : clampL t a = a := by unfold clampL; omega
  unfold unquoteL
  rw [hc, Int.toNat_natCast]
  split
  · simp only []; omega
  · have := unqL_bound (t.length + 1) t (a + 1) [] (by omega)
    refine ⟨fun hh => ?_, this.2⟩
    have := this.1 hh
    omega
theorem whileL_pos {s c : Str} (h : 0 < s.length) (hc : c.contains (s.getD 0 0) = true) : 0 < whileL s c := by
  cases s with
  | nil => simp at h
  | cons b s =>
    unfold whileL
    rw [List.takeWhile_cons]
    rw [show (b :: s).getD 0 0 = b from rfl] at hc
    rw [if_pos hc]
    simp
theorem lower_mem (b : UInt8) (h : 97 ≤ (b.toNat : Int) ∧ (b.toNat : Int) ≤ 122) : lowers.contains b = true := by
  have key : ∀ n : Nat, n < 256 → 97 ≤ n ∧ n ≤ 122 → lowers.contains n.toUInt8 = true := by decide +kernel
  have := key b.toNat (UInt8.toNat_lt b) (by omega)
  rwa [show b.toNat.toUInt8 = b by simp] at this
theorem jnumL_le (s : Str) : 0 ≤ jnumL s ∧ jnumL s ≤ 6 := by
  unfold jnumL
  repeat' split
  all_goals omega
theorem wordL_bound (t : Str) (a : Nat) (ha : a < t.length) :
    ((wordL t a).2.2.1 = 0 → (a : Int) < (wordL t a).2.1 ∧ (wordL t a).2.1 ≤ t.length) ∧
    ((wordL t a).2.2.1 ≠ 0 → 0 ≤ (wordL t a).2.2.2 ∧ (wordL t a).2.2.2 ≤ t.length) ∧ 0 ≤ (wordL t a).2.2.1 ∧ (wordL t a).2.2.1 ≤ 6 := by
  have hU := unquoteL_bound t a ha
  have hdl : (t.drop a).length = t.length - a := List.length_drop
  have hl1 := whileL_le (t.drop a) lowers
  have hl2 := whileL_le (t.drop a) numBs
  have hg : (t.drop a).getD 0 0 = t.getD a 0 := by simp [List.getD]
  have hp := fun h => whileL_pos (s := t.drop a) (c := lowers) (by omega) h
  rw [hg] at hp
  have hj := jnumL_le ((t.drop a).take (whileL (t.drop a) numBs))
  unfold wordL
  split
  · simp only []; omega
  · split
    · split
      · simp only []; omega
      · split
        · simp only []; omega
        · have := hU.1 (by omega)
          simp only []; omega
    · split
      · rename_i h
        have := hp (lower_mem _ h)
        split
        · simp only []; omega
        · simp only []; omega
      · split
        · simp only []; omega
        · split
          · simp only []; omega
          · simp only []; omega
def cutL : Nat → Str → Nat → List Wd → List Wd × Int × Int
  | 0, _, _, acc => (acc, 0, 0)
  | q + 1, t, a, acc =>
    if t.length ≤ a then (acc, 0, 0) else
    if (wordL t a).2.2.1 ≠ 0 then ([], (wordL t a).2.2.1, (wordL t a).2.2.2) else
    cutL q t ((wordL t a).2.1.toNat + whileL (t.drop (wordL t a).2.1.toNat) blanksB) (acc ++ [(wordL t a).1])
def cutT (t : Str) : List Wd × Int × Int :=
  if (judgeS t).1 ≠ 0 then ([], judgeS t) else
  if (cutL (t.length + 1) t (whileL t blanksB) []).2.1 ≠ 0 then ([], (cutL (t.length + 1) t (whileL t blanksB) []).2) else
  ((cutL (t.length + 1) t (whileL t blanksB) []).1 ++ [⟨0, [], t.length⟩], 0, 0)
theorem cutL_len : ∀ (q : Nat) (t : Str) (a : Nat) (acc : List Wd), a ≤ t.length → acc.length ≤ a → (cutL q t a acc).1.length ≤ t.length
  | 0, t, a, acc, ha, hl => by rw [cutL]; simp only []; omega
  | q + 1, t, a, acc, ha, hl => by
    rw [cutL]
    split
    · simp only []; omega
    · have hb := wordL_bound t a (by omega)
      split
      · simp only [List.length_nil]; omega
      · have := whileL_le (t.drop (wordL t a).2.1.toNat) blanksB
        rw [List.length_drop] at this
        have := hb.1 (by omega)
        exact cutL_len q t _ _ (by omega) (by rw [List.length_append]; simp only [List.length_cons, List.length_nil]; omega)
theorem Wd.enc_side (w : Wd) : ∀ y : PV, y ∈ [w.enc] → y.cells.length = 3 ∧ ∀ c : PV, c ∈ y.cells → c.leaf = true := by
  intro y hy
  rw [List.mem_singleton] at hy
  subst hy
  refine ⟨rfl, fun c hc => ?_⟩
  simp only [Wd.enc, PV.cells, List.mem_cons, List.mem_nil_iff, or_false] at hc
  rcases hc with rfl | rfl | rfl <;> rfl
end Go.Am
end

section
namespace Go.Proofs.YtoinkmogdfjmmaaGreatDoor
open Go Go.Am Go.RowKit
set_option maxRecDepth 100000
theorem cut_loop (t : Str) (hs : t.length ≤ 1000000) (R : List Wd × Int × Int) (K : Post)
    (h0 : R.2.1 = 0 → R.1 ≠ [] → K (.exit 0) [(0, .p (.str t)), (3, .ptr 0 0), (5, .sl 1 0 (R.1.map Wd.enc).length)] [.var T.api_Fault (.p noFault), .arr T.jlex_Word 3 (R.1.map Wd.enc)] [])
    (hr : R.2.1 ≠ 0 → ∀ o o' : HO, K .ret [(2, .p .nils), (3, .ptr 0 0)] [.var T.api_Fault (.p (faultP t R.2.2 R.2.1)), o, o'] []) :
    ∀ (q a : Nat) (acc : List Wd), t.length < a + q → a ≤ t.length → acc ≠ [] → acc.length ≤ a → cutL q t a acc = R →
      LoopW PP GG 54 0 (loopN F.jlex_Cut_c 0) [(0, .p (.str t)), (3, .ptr 0 0), (5, .sl 1 0 (acc.map Wd.enc).length), (6, .p (.int .i64 a))] [.var T.api_Fault (.p noFault), .arr T.jlex_Word 3 (acc.map Wd.enc)] [] (PostCl 54 K) := by
  intro q
  induction q with
  | zero => intro a acc hq hal; omega
  | succ q ih =>
    intro a acc hq hal hne hacc hR
    have hml : (acc.map Wd.enc).length = acc.length := by simp
    rw [cutL] at hR
    by_cases hl : t.length ≤ a
    · rw [if_pos hl] at hR
      subst hR
      refine LoopW.round (pol := polG) mixP ?_
      conv => whnf
      repeat' ((first
       | ((with_reducible first | refine Br.dec ?_ ?_ | refine Br.ndec ?_ ?_) <;> intro hb <;> (try simp only [ZZ] at hb) <;> (first | omega | contradiction | skip))
       | (with_reducible first | refine Br.tt rfl ?_ | refine Br.ff rfl ?_ | refine Br.ff (isEmptyCons _ _) ?_)
       | ((with_reducible first | refine Side.mk ?_ ?_ | refine WrapW.mk ?_ ?_); focus (first | omega | (dsimp only [InR, Int.reduceToNat, IntKind.bits, Int.reducePow]; omega) | (simp [CC]; done) | (constructor <;> omega)))
       | with_reducible refine Br.not ?_
       | (with_reducible first | refine Br.tt (by assumption) ?_ | refine Br.ff (by assumption) ?_)
       | (refine Br.mk ?_ ?_ <;> intro hb <;> (try simp only [ZZ] at hb) <;> (first | omega | contradiction | skip))
       | refine Src.whole ⟨rfl, rfl⟩ ?_ | refine FrzV.whole ?_) <;> conv => whnf)
      · refine PostCl.of (h0 rfl hne) ?_ ?_
        · repeat first | exact trivial | refine ⟨VLe.refl _, ?_⟩
        · repeat first | exact trivial | refine ⟨by decide, ?_⟩
    · rw [if_neg hl] at hR
      have hW := jlex_word t a (by omega) hs
      have hb := wordL_bound t a (by omega)
      generalize wordL t a = u at *
      by_cases he : u.2.2.1 = 0
      · rw [if_neg (by omega)] at hR
        obtain ⟨n, hn⟩ := Int.eq_ofNat_of_zero_le (show 0 ≤ u.2.1 by omega)
        have hwl := whileL_le (t.drop n) blanksB
        have hdl : (t.drop n).length = t.length - n := List.length_drop
        have hWh := jlex_while (t.drop n) blanksB (by omega) (by decide) (by decide)
        rw [hn, Int.toNat_natCast] at hR
        rw [hn, he] at hW
        rw [hn] at hb
        refine LoopW.round (pol := polG) mixP ?_
        conv => whnf
        repeat' ((first
         | ((with_reducible first | refine Br.dec ?_ ?_ | refine Br.ndec ?_ ?_) <;> intro hb <;> (try simp only [And.intro @hml (ZZ)] at hb) <;> (first | omega | contradiction | skip))
         | (with_reducible first | refine Br.tt rfl ?_ | refine Br.ff rfl ?_ | refine Br.ff (isEmptyCons _ _) ?_)
         | ((with_reducible first | refine Side.mk ?_ ?_ | refine WrapW.mk ?_ ?_); focus (first | omega | (dsimp only [InR, Int.reduceToNat, IntKind.bits, Int.reducePow]; omega) | exact Wd.enc_side _ | exact ⟨fun y hy => (Wd.enc_side _ y hy).1, rfl, by show (_ + 1) * 64 ≤ _; omega⟩ | (simp [CC]; done) | (constructor <;> omega)))
         | with_reducible refine Br.not ?_
         | (with_reducible first | refine Br.tt (by assumption) ?_ | refine Br.ff (by assumption) ?_)
         | (refine Br.mk ?_ ?_ <;> intro hb <;> (try simp only [And.intro @hml (ZZ)] at hb) <;> (first | omega | contradiction | skip))
         | refine Src.whole ⟨rfl, rfl⟩ ?_ | refine FrzV.whole ?_
         | refine CallW.use (hW) ?_
         | refine CallW.use (hWh) ?_) <;> conv => whnf)
        rw [show List.map Wd.enc acc ++ [u.1.enc] = (acc ++ [u.1]).map Wd.enc by simp]
        refine LoopW.ren [0, 1] (ih (n + whileL (t.drop n) blanksB) (acc ++ [u.1]) (by omega) (by omega) (by simp) (by rw [List.length_append]; simp only [List.length_cons, List.length_nil]; omega) hR) (by repeat first | exact trivial | refine ⟨⟨rfl, VLe.refl _⟩, ?_⟩) (by repeat first | exact trivial | refine ⟨by decide, ?_⟩) rfl rfl
      · rw [if_pos (by omega)] at hR
        have hF := place_Fault t u.2.2.2 u.2.2.1 (by omega) (by omega)
        subst hR
        refine LoopW.round (pol := polG) mixP ?_
        conv => whnf
        repeat' ((first
         | ((with_reducible first | refine Br.dec ?_ ?_ | refine Br.ndec ?_ ?_) <;> intro hb <;> (try simp only [ZZ] at hb) <;> (first | omega | contradiction | skip))
         | (with_reducible first | refine Br.tt rfl ?_ | refine Br.ff rfl ?_ | refine Br.ff (isEmptyCons _ _) ?_)
         | ((with_reducible first | refine Side.mk ?_ ?_ | refine WrapW.mk ?_ ?_); focus (first | omega | (dsimp only [InR, Int.reduceToNat, IntKind.bits, Int.reducePow]; omega) | (simp [CC]; done) | (constructor <;> omega)))
         | with_reducible refine Br.not ?_
         | (with_reducible first | refine Br.tt (by assumption) ?_ | refine Br.ff (by assumption) ?_)
         | (refine Br.mk ?_ ?_ <;> intro hb <;> (try simp only [ZZ] at hb) <;> (first | omega | contradiction | skip))
         | refine Src.whole ⟨rfl, rfl⟩ ?_ | refine FrzV.whole ?_
         | refine CallW.use (hW) ?_
         | refine CallW.use (hF) ?_) <;> conv => whnf)
        · refine PostCl.of (hr he _ _) ?_ ?_
          · repeat first | exact trivial | refine ⟨VLe.refl _, ?_⟩
          · repeat first | exact trivial | refine ⟨by decide, ?_⟩
theorem frz_tup2 (n : Nat) (es : List PV) (x : PV) : V.frz n es (.tup [.sl n 0 es.length, .p x]) = .tup [.p (.lst false es), .p x] := by
  simp [V.frz, V.frzL]
theorem cut_first (t : Str) (hs : t.length ≤ 1000000) (R : List Wd × Int × Int) (K : Post)
    (hz : R = ([], 0, 0) → K (.exit 0) [(0, .p (.str t)), (3, .ptr 0 0), (5, .p .nils)] [.var T.api_Fault (.p noFault)] [])
    (h0 : R.2.1 = 0 → R.1 ≠ [] → K (.exit 0) [(0, .p (.str t)), (3, .ptr 0 0), (5, .sl 1 0 (R.1.map Wd.enc).length)] [.var T.api_Fault (.p noFault), .arr T.jlex_Word 3 (R.1.map Wd.enc)] [])
    (hr1 : R.2.1 ≠ 0 → ∀ o : HO, K .ret [(2, .p .nils), (3, .ptr 0 0)] [.var T.api_Fault (.p (faultP t R.2.2 R.2.1)), o] [])
    (hr : R.2.1 ≠ 0 → ∀ o o' : HO, K .ret [(2, .p .nils), (3, .ptr 0 0)] [.var T.api_Fault (.p (faultP t R.2.2 R.2.1)), o, o'] []) (a : Nat) (hal : a ≤ t.length)
    (hR : cutL (t.length + 1) t a [] = R) :
      LoopW PP GG 54 0 (loopN F.jlex_Cut_c 0) [(0, .p (.str t)), (3, .ptr 0 0), (5, .p .nils), (6, .p (.int .i64 a))] [.var T.api_Fault (.p noFault)] [] (PostCl 54 K) := by
  have hlp := cut_loop t hs R K h0 hr
  rw [cutL] at hR
  by_cases hl : t.length ≤ a
  · rw [if_pos hl] at hR
    refine LoopW.round (pol := polG) mixP ?_
    conv => whnf
    repeat' ((first
     | ((with_reducible first | refine Br.dec ?_ ?_ | refine Br.ndec ?_ ?_) <;> intro hb <;> (try simp only [ZZ] at hb) <;> (first | omega | contradiction | skip))
     | (with_reducible first | refine Br.tt rfl ?_ | refine Br.ff rfl ?_ | refine Br.ff (isEmptyCons _ _) ?_)
     | ((with_reducible first | refine Side.mk ?_ ?_ | refine WrapW.mk ?_ ?_); focus (first | omega | (dsimp only [InR, Int.reduceToNat, IntKind.bits, Int.reducePow]; omega) | (simp [CC]; done) | (constructor <;> omega)))
     | with_reducible refine Br.not ?_
     | (with_reducible first | refine Br.tt (by assumption) ?_ | refine Br.ff (by assumption) ?_)
     | (refine Br.mk ?_ ?_ <;> intro hb <;> (try simp only [ZZ] at hb) <;> (first | omega | contradiction | skip))
     | refine Src.whole ⟨rfl, rfl⟩ ?_ | refine FrzV.whole ?_) <;> conv => whnf)
    · refine PostCl.of (hz hR.symm) ?_ ?_
      · repeat first | exact trivial | refine ⟨VLe.refl _, ?_⟩
      · repeat first | exact trivial | refine ⟨by decide, ?_⟩
  · rw [if_neg hl] at hR
    have hW := jlex_word t a (by omega) hs
    have hb := wordL_bound t a (by omega)
    generalize wordL t a = u at *
    by_cases he : u.2.2.1 = 0
    · rw [if_neg (by omega)] at hR
      obtain ⟨n, hn⟩ := Int.eq_ofNat_of_zero_le (show 0 ≤ u.2.1 by omega)
      have hwl := whileL_le (t.drop n) blanksB
      have hdl : (t.drop n).length = t.length - n := List.length_drop
      have hWh := jlex_while (t.drop n) blanksB (by omega) (by decide) (by decide)
      rw [hn, Int.toNat_natCast] at hR
      rw [hn, he] at hW
      rw [hn] at hb
      refine LoopW.round (pol := polG) mixP ?_
      conv => whnf
      repeat' ((first
       | ((with_reducible first | refine Br.dec ?_ ?_ | refine Br.ndec ?_ ?_) <;> intro hb <;> (try simp only [ZZ] at hb) <;> (first | omega | contradiction | skip))
       | (with_reducible first | refine Br.tt rfl ?_ | refine Br.ff rfl ?_ | refine Br.ff (isEmptyCons _ _) ?_)
       | ((with_reducible first | refine Side.mk ?_ ?_ | refine WrapW.mk ?_ ?_); focus (first | omega | (dsimp only [InR, Int.reduceToNat, IntKind.bits, Int.reducePow]; omega) | exact Wd.enc_side _ | exact ⟨fun y hy => (Wd.enc_side _ y hy).1, by show 1 * 64 ≤ _; omega⟩ | (simp [CC]; done) | (constructor <;> omega)))
       | with_reducible refine Br.not ?_
       | (with_reducible first | refine Br.tt (by assumption) ?_ | refine Br.ff (by assumption) ?_)
       | (refine Br.mk ?_ ?_ <;> intro hb <;> (try simp only [ZZ] at hb) <;> (first | omega | contradiction | skip))
       | refine Src.whole ⟨rfl, rfl⟩ ?_ | refine FrzV.whole ?_
       | refine CallW.use (hW) ?_
       | refine CallW.use (hWh) ?_) <;> conv => whnf)
      refine LoopW.ren [0, 3] (hlp t.length (n + whileL (t.drop n) blanksB) [u.1] (by omega) (by omega) (List.cons_ne_nil _ _) (by show 1 ≤ _; omega) hR) (by repeat first | exact trivial | refine ⟨⟨rfl, VLe.refl _⟩, ?_⟩) (by repeat first | exact trivial | refine ⟨by decide, ?_⟩) rfl rfl
    · rw [if_pos (by omega)] at hR
      have hF := place_Fault t u.2.2.2 u.2.2.1 (by omega) (by omega)
      subst hR
      refine LoopW.round (pol := polG) mixP ?_
      conv => whnf
      repeat' ((first
       | ((with_reducible first | refine Br.dec ?_ ?_ | refine Br.ndec ?_ ?_) <;> intro hb <;> (try simp only [ZZ] at hb) <;> (first | omega | contradiction | skip))
       | (with_reducible first | refine Br.tt rfl ?_ | refine Br.ff rfl ?_ | refine Br.ff (isEmptyCons _ _) ?_)
       | ((with_reducible first | refine Side.mk ?_ ?_ | refine WrapW.mk ?_ ?_); focus (first | omega | (dsimp only [InR, Int.reduceToNat, IntKind.bits, Int.reducePow]; omega) | (simp [CC]; done) | (constructor <;> omega)))
       | with_reducible refine Br.not ?_
       | (with_reducible first | refine Br.tt (by assumption) ?_ | refine Br.ff (by assumption) ?_)
       | (refine Br.mk ?_ ?_ <;> intro hb <;> (try simp only [ZZ] at hb) <;> (first | omega | contradiction | skip))
       | refine Src.whole ⟨rfl, rfl⟩ ?_ | refine FrzV.whole ?_
       | refine CallW.use (hW) ?_
       | refine CallW.use (hF) ?_) <;> conv => whnf)
      · refine PostCl.of (hr1 he _) ?_ ?_
        · repeat first | exact trivial | refine ⟨VLe.refl _, ?_⟩
        · repeat first | exact trivial | refine ⟨by decide, ?_⟩
theorem jlex_Cut (t : Str) (hs : t.length ≤ 1000000) : AbsCall PP GG F.jlex_Cut [.p (.str t)] [] ⟨.ret (.tup [.p (.lst false ((cutT t).1.map Wd.enc)), .p (faultE t (cutT t).2)]), [], []⟩ := by
  have hJ := jlex_Judge t (by omega)
  have hWh := jlex_while t blanksB (by omega) (by decide) (by decide)
  have hwl := whileL_le t blanksB
  unfold judgeF at hJ
  unfold cutT
  by_cases hj : (judgeS t).1 = 0
  · rw [if_neg (by omega)]
    unfold faultE at hJ
    rw [if_pos hj] at hJ
    have hlp := cut_first t hs (cutL (t.length + 1) t (whileL t blanksB) [])
    have hlen := cutL_len (t.length + 1) t (whileL t blanksB) [] (by omega) (by simp)
    generalize hR : cutL (t.length + 1) t (whileL t blanksB) [] = R at *
    refine absCall_of (pol := polG) mixP F.jlex_Cut_is ?_
    conv => whnf
    repeat' ((first
     | ((with_reducible first | refine Br.dec ?_ ?_ | refine Br.ndec ?_ ?_) <;> intro hb <;> (try simp only [ZZ] at hb) <;> (first | omega | contradiction | skip))
     | (with_reducible first | refine Br.tt rfl ?_ | refine Br.ff rfl ?_ | refine Br.ff (isEmptyCons _ _) ?_)
     | ((with_reducible first | refine Side.mk ?_ ?_ | refine WrapW.mk ?_ ?_); focus (first | omega | (dsimp only [InR, Int.reduceToNat, IntKind.bits, Int.reducePow]; omega) | (simp [CC]; done) | (constructor <;> omega)))
     | with_reducible refine Br.not ?_
     | (with_reducible first | refine Br.tt (by assumption) ?_ | refine Br.ff (by assumption) ?_)
     | (refine Br.mk ?_ ?_ <;> intro hb <;> (try simp only [ZZ] at hb) <;> (first | omega | contradiction | skip))
     | refine Src.whole ⟨rfl, rfl⟩ ?_ | refine FrzV.whole ?_
     | refine CallW.use (hJ) ?_
     | refine CallW.use (hWh) ?_) <;> conv => whnf)
    refine LoopW.cl ?_
    refine LoopW.ren [0] (hlp _ (fun h => ?_) (fun h hne => ?_) (fun h o => ?_) (fun h o o' => ?_) (whileL t blanksB) (by omega) hR) (by repeat first | exact trivial | refine ⟨⟨rfl, VLe.refl _⟩, ?_⟩) (by repeat first | exact trivial | refine ⟨by decide, ?_⟩) rfl rfl
    all_goals conv => whnf
    · repeat' ((first
       | ((with_reducible first | refine Br.dec ?_ ?_ | refine Br.ndec ?_ ?_) <;> intro hb <;> (try simp only [ZZ] at hb) <;> (first | omega | contradiction | skip))
       | (with_reducible first | refine Br.tt rfl ?_ | refine Br.ff rfl ?_ | refine Br.ff (isEmptyCons _ _) ?_)
       | ((with_reducible first | refine Side.mk ?_ ?_ | refine WrapW.mk ?_ ?_); focus (first | omega | (dsimp only [InR, Int.reduceToNat, IntKind.bits, Int.reducePow]; omega) | exact Wd.enc_side ⟨0, [], t.length⟩ | exact ⟨fun y hy => (Wd.enc_side ⟨0, [], t.length⟩ y hy).1, by show 1 * 64 ≤ _; omega⟩ | (simp [CC]; done) | (constructor <;> omega)))
       | with_reducible refine Br.not ?_
       | (with_reducible first | refine Br.tt (by assumption) ?_ | refine Br.ff (by assumption) ?_)
       | (refine Br.mk ?_ ?_ <;> intro hb <;> (try simp only [ZZ] at hb) <;> (first | omega | contradiction | skip))
       | refine Src.whole ⟨rfl, rfl⟩ ?_ | refine FrzV.whole ?_) <;> conv => whnf)
      refine FrzV.mk (.tup [.p (.lst false [(⟨0, [], t.length⟩ : Wd).enc]), .p noFault]) (frz_tup2 2 [(⟨0, [], t.length⟩ : Wd).enc] noFault) ?_
      conv => whnf
      subst h
      rw [if_neg (by simp)]
      exact CLe.eq rfl
    · have hml : (R.1.map Wd.enc).length = R.1.length := by simp
      repeat' ((first
       | ((with_reducible first | refine Br.dec ?_ ?_ | refine Br.ndec ?_ ?_) <;> intro hb <;> (try simp only [ZZ] at hb) <;> (first | omega | contradiction | skip))
       | (with_reducible first | refine Br.tt rfl ?_ | refine Br.ff rfl ?_ | refine Br.ff (isEmptyCons _ _) ?_)
       | ((with_reducible first | refine Side.mk ?_ ?_ | refine WrapW.mk ?_ ?_); focus (first | omega | (dsimp only [InR, Int.reduceToNat, IntKind.bits, Int.reducePow]; omega) | exact Wd.enc_side ⟨0, [], t.length⟩ | exact ⟨fun y hy => (Wd.enc_side ⟨0, [], t.length⟩ y hy).1, rfl, by show (_ + 1) * 64 ≤ _; rw [hml]; omega⟩ | (simp [CC]; done) | (constructor <;> omega)))
       | with_reducible refine Br.not ?_
       | (with_reducible first | refine Br.tt (by assumption) ?_ | refine Br.ff (by assumption) ?_)
       | (refine Br.mk ?_ ?_ <;> intro hb <;> (try simp only [ZZ] at hb) <;> (first | omega | contradiction | skip))
       | refine Src.whole ⟨rfl, rfl⟩ ?_ | refine FrzV.whole ?_) <;> conv => whnf)
      refine FrzV.mk (.tup [.p (.lst false (R.1.map Wd.enc ++ [(⟨0, [], t.length⟩ : Wd).enc])), .p noFault]) (frz_tup2 1 (R.1.map Wd.enc ++ [(⟨0, [], t.length⟩ : Wd).enc]) noFault) ?_
      conv => whnf
      rw [if_neg (by omega), List.map_append]
      exact CLe.eq rfl
    all_goals
      rw [if_pos h]
      unfold faultE
      rw [if_neg h]
      refine CLe.ret (VLe.tup ?_)
      exact ⟨(PLe.nils false).p, VLe.refl _, trivial⟩
  · rw [if_pos hj]
    unfold faultE
    unfold faultE at hJ
    rw [if_neg hj] at hJ
    rw [if_neg hj]
    refine absCall_of (pol := polG) mixP F.jlex_Cut_is ?_
    conv => whnf
    repeat' ((first
     | ((with_reducible first | refine Br.dec ?_ ?_ | refine Br.ndec ?_ ?_) <;> intro hb <;> (try simp only [ZZ] at hb) <;> (first | omega | contradiction | skip))
     | (with_reducible first | refine Br.tt rfl ?_ | refine Br.ff rfl ?_ | refine Br.ff (isEmptyCons _ _) ?_)
     | ((with_reducible first | refine Side.mk ?_ ?_ | refine WrapW.mk ?_ ?_); focus (first | omega | (dsimp only [InR, Int.reduceToNat, IntKind.bits, Int.reducePow]; omega) | (simp [CC]; done) | (constructor <;> omega)))
     | with_reducible refine Br.not ?_
     | (with_reducible first | refine Br.tt (by assumption) ?_ | refine Br.ff (by assumption) ?_)
     | (refine Br.mk ?_ ?_ <;> intro hb <;> (try simp only [ZZ] at hb) <;> (first | omega | contradiction | skip))
     | refine Src.whole ⟨rfl, rfl⟩ ?_ | refine FrzV.whole ?_
     | refine CallW.use (hJ) ?_
     | refine CallW.use (hWh) ?_) <;> conv => whnf)
    refine CLe.ret (VLe.tup ?_)
    exact ⟨(PLe.nils false).p, VLe.refl _, trivial⟩
def jrO (ws : List Wd) (i n : Int) : HO := .var T.jread_reader (.p (.agg [.lst false (ws.map Wd.enc), .int .i64 i, .int .i64 n]))
theorem ElemZ.word {ws : List Wd} {i : Nat} {K : PV → Prop} {w : Wd} (h : ws[i]? = some w) (k : K w.enc) : ElemZ (ws.map Wd.enc) i 3 K := ⟨_, by rw [List.getElem?_map, h]; rfl, rfl, k⟩
theorem reader_word (ws : List Wd) (i : Nat) (n : Int) (w : Wd) (h : ws[i]? = some w) (hl : ws.length ≤ 1073741824) : AbsCall PP GG F.jread_reader_word [.ptr 0 0] [jrO ws i n] ⟨.ret (.p w.enc), [jrO ws i n], []⟩ := by
  have hi : i < ws.length := (List.getElem?_eq_some_iff.1 h).1
  have hml : (ws.map Wd.enc).length = ws.length := by simp
  refine absCall_of (pol := polG) mixP F.jread_reader_word_is ?_
  conv => whnf
  repeat' ((first
   | ((with_reducible first | refine Br.dec ?_ ?_ | refine Br.ndec ?_ ?_) <;> intro hb <;> (try simp only [And.intro @hml (ZZ)] at hb) <;> (first | omega | contradiction | skip))
   | (with_reducible first | refine Br.tt rfl ?_ | refine Br.ff rfl ?_ | refine Br.ff (isEmptyCons _ _) ?_)
   | ((with_reducible first | refine Side.mk ?_ ?_ | refine WrapW.mk ?_ ?_); focus (first | omega | (dsimp only [InR, Int.reduceToNat, IntKind.bits, Int.reducePow]; omega) | exact ⟨rfl, rfl⟩ | (rw [hml]; omega) | (simp [CC]; done) | (constructor <;> omega)))
   | with_reducible refine Br.not ?_
   | (with_reducible first | refine Br.tt (by assumption) ?_ | refine Br.ff (by assumption) ?_)
   | (refine Br.mk ?_ ?_ <;> intro hb <;> (try simp only [And.intro @hml (ZZ)] at hb) <;> (first | omega | contradiction | skip))
   | refine Src.whole ⟨rfl, rfl⟩ ?_ | refine FrzV.whole ?_
   | (refine ElemZ.word (w := w) (by simpa using h) ?_)) <;> conv => whnf)
  exact CLe.eq rfl
theorem reader_is (ws : List Wd) (i : Nat) (n : Int) (w : Wd) (h : ws[i]? = some w) (hl : ws.length ≤ 1073741824) (s : Str) : AbsCall PP GG F.jread_reader_is [.ptr 0 0, .p (.str s)] [jrO ws i n] ⟨.ret (.p (.bool (decide (w.k = 1 ∧ w.s = s)))), [jrO ws i n], []⟩ := by
  have hW := reader_word ws i n w h hl
  obtain ⟨k, ws', a⟩ := w
  refine absCall_of (pol := polG) mixP F.jread_reader_is_is ?_
  conv => whnf
  repeat' ((first
   | ((with_reducible first | refine Br.dec ?_ ?_ | refine Br.ndec ?_ ?_) <;> intro hb <;> (try simp only [ZZ] at hb) <;> (first | omega | contradiction | skip))
   | (with_reducible first | refine Br.tt rfl ?_ | refine Br.ff rfl ?_ | refine Br.ff (isEmptyCons _ _) ?_)
   | ((with_reducible first | refine Side.mk ?_ ?_ | refine WrapW.mk ?_ ?_); focus (first | omega | (dsimp only [InR, Int.reduceToNat, IntKind.bits, Int.reducePow]; omega) | (simp [CC]; done) | (constructor <;> omega)))
   | with_reducible refine Br.not ?_
   | (with_reducible first | refine Br.tt (by assumption) ?_ | refine Br.ff (by assumption) ?_)
   | (refine Br.mk ?_ ?_ <;> intro hb <;> (try simp only [ZZ] at hb) <;> (first | omega | contradiction | skip))
   | refine Src.whole ⟨rfl, rfl⟩ ?_ | refine FrzV.whole ?_
   | refine CallW.use (hW) ?_) <;> conv => whnf)
  · refine CLe.eq ?_
    simp only [hb, true_and]
    rfl
  · refine CLe.eq ?_
    simp only [hb, false_and, decide_false]
    rfl
theorem reader_take (ws : List Wd) (i : Nat) (n : Int) (w : Wd) (h : ws[i]? = some w) (hl : ws.length ≤ 1073741824) (s : Str) : AbsCall PP GG F.jread_reader_take [.ptr 0 0, .p (.str s)] [jrO ws i n] ⟨.ret (.p (.bool (decide (w.k = 1 ∧ w.s = s)))), [jrO ws (if w.k = 1 ∧ w.s = s then i + 1 else i) n], []⟩ := by
  have hI := reader_is ws i n w h hl s
  have hi : i < ws.length := (List.getElem?_eq_some_iff.1 h).1
  by_cases hq : w.k = 1 ∧ w.s = s
  · rw [if_pos hq]
    rw [decide_eq_true hq] at hI ⊢
    refine absCall_of (pol := polG) mixP F.jread_reader_take_is ?_
    conv => whnf
    repeat' ((first
     | ((with_reducible first | refine Br.dec ?_ ?_ | refine Br.ndec ?_ ?_) <;> intro hb <;> (try simp only [ZZ] at hb) <;> (first | omega | contradiction | skip))
     | (with_reducible first | refine Br.tt rfl ?_ | refine Br.ff rfl ?_ | refine Br.ff (isEmptyCons _ _) ?_)
     | ((with_reducible first | refine Side.mk ?_ ?_ | refine WrapW.mk ?_ ?_); focus (first | omega | (dsimp only [InR, Int.reduceToNat, IntKind.bits, Int.reducePow]; omega) | (simp [CC]; done) | (constructor <;> omega)))
     | with_reducible refine Br.not ?_
     | (with_reducible first | refine Br.tt (by assumption) ?_ | refine Br.ff (by assumption) ?_)
     | (refine Br.mk ?_ ?_ <;> intro hb <;> (try simp only [ZZ] at hb) <;> (first | omega | contradiction | skip))
     | refine Src.whole ⟨rfl, rfl⟩ ?_ | refine FrzV.whole ?_
     | refine CallW.use (hI) ?_) <;> conv => whnf)
    exact CLe.eq rfl
  · rw [if_neg hq]
    rw [decide_eq_false hq] at hI ⊢
    refine absCall_of (pol := polG) mixP F.jread_reader_take_is ?_
    conv => whnf
    repeat' ((first
     | ((with_reducible first | refine Br.dec ?_ ?_ | refine Br.ndec ?_ ?_) <;> intro hb <;> (try simp only [ZZ] at hb) <;> (first | omega | contradiction | skip))
     | (with_reducible first | refine Br.tt rfl ?_ | refine Br.ff rfl ?_ | refine Br.ff (isEmptyCons _ _) ?_)
     | ((with_reducible first | refine Side.mk ?_ ?_ | refine WrapW.mk ?_ ?_); focus (first | omega | (dsimp only [InR, Int.reduceToNat, IntKind.bits, Int.reducePow]; omega) | (simp [CC]; done) | (constructor <;> omega)))
     | with_reducible refine Br.not ?_
     | (with_reducible first | refine Br.tt (by assumption) ?_ | refine Br.ff (by assumption) ?_)
     | (refine Br.mk ?_ ?_ <;> intro hb <;> (try simp only [ZZ] at hb) <;> (first | omega | contradiction | skip))
     | refine Src.whole ⟨rfl, rfl⟩ ?_ | refine FrzV.whole ?_
     | refine CallW.use (hI) ?_) <;> conv => whnf)
    exact CLe.eq rfl
def wrongP (e a : Int) : V := .p (.iface T.jread_wrong (.agg [.int .i64 e, .int .i64 a]))
theorem reader_fail (ws : List Wd) (i : Nat) (n e : Int) (w : Wd) (h : ws[i]? = some w) (hl : ws.length ≤ 1073741824) : AbsCall PP GG F.jread_reader_fail [.ptr 0 0, .p (.int .i64 e)] [jrO ws i n] ⟨.pan (wrongP e w.a), [jrO ws i n], []⟩ := by
  have hW := reader_word ws i n w h hl
  obtain ⟨k, s, a⟩ := w
  refine absCall_of (pol := polG) mixP F.jread_reader_fail_is ?_
  conv => whnf
  repeat' ((first
   | ((with_reducible first | refine Br.dec ?_ ?_ | refine Br.ndec ?_ ?_) <;> intro hb <;> (try simp only [ZZ] at hb) <;> (first | omega | contradiction | skip))
   | (with_reducible first | refine Br.tt rfl ?_ | refine Br.ff rfl ?_ | refine Br.ff (isEmptyCons _ _) ?_)
   | ((with_reducible first | refine Side.mk ?_ ?_ | refine WrapW.mk ?_ ?_); focus (first | omega | (dsimp only [InR, Int.reduceToNat, IntKind.bits, Int.reducePow]; omega) | (simp [CC]; done) | (constructor <;> omega)))
   | with_reducible refine Br.not ?_
   | (with_reducible first | refine Br.tt (by assumption) ?_ | refine Br.ff (by assumption) ?_)
   | (refine Br.mk ?_ ?_ <;> intro hb <;> (try simp only [ZZ] at hb) <;> (first | omega | contradiction | skip))
   | refine Src.whole ⟨rfl, rfl⟩ ?_ | refine FrzV.whole ?_
   | refine CallW.use (hW) ?_) <;> conv => whnf)
  exact CLe.eq rfl
theorem reader_want_ok (ws : List Wd) (i : Nat) (n : Int) (w : Wd) (h : ws[i]? = some w) (hl : ws.length ≤ 1073741824) (s : Str) (hq : w.k = 1 ∧ w.s = s) : AbsCall PP GG F.jread_reader_want [.ptr 0 0, .p (.str s)] [jrO ws i n] ⟨.ret (.tup []), [jrO ws (i + 1) n], []⟩ := by
  have hT := reader_take ws i n w h hl s
  rw [if_pos hq, decide_eq_true hq] at hT
  refine absCall_of (pol := polG) mixP F.jread_reader_want_is ?_
  conv => whnf
  repeat' ((first
   | ((with_reducible first | refine Br.dec ?_ ?_ | refine Br.ndec ?_ ?_) <;> intro hb <;> (try simp only [ZZ] at hb) <;> (first | omega | contradiction | skip))
   | (with_reducible first | refine Br.tt rfl ?_ | refine Br.ff rfl ?_ | refine Br.ff (isEmptyCons _ _) ?_)
   | ((with_reducible first | refine Side.mk ?_ ?_ | refine WrapW.mk ?_ ?_); focus (first | omega | (dsimp only [InR, Int.reduceToNat, IntKind.bits, Int.reducePow]; omega) | (simp [CC]; done) | (constructor <;> omega)))
   | with_reducible refine Br.not ?_
   | (with_reducible first | refine Br.tt (by assumption) ?_ | refine Br.ff (by assumption) ?_)
   | (refine Br.mk ?_ ?_ <;> intro hb <;> (try simp only [ZZ] at hb) <;> (first | omega | contradiction | skip))
   | refine Src.whole ⟨rfl, rfl⟩ ?_ | refine FrzV.whole ?_
   | refine CallW.use (hT) ?_) <;> conv => whnf)
  exact CLe.eq rfl
theorem reader_want_no (ws : List Wd) (i : Nat) (n : Int) (w : Wd) (h : ws[i]? = some w) (hl : ws.length ≤ 1073741824) (s : Str) (hq : ¬ (w.k = 1 ∧ w.s = s)) : AbsCall PP GG F.jread_reader_want [.ptr 0 0, .p (.str s)] [jrO ws i n] ⟨.pan (wrongP 4 w.a), [jrO ws i n], []⟩ := by
  have hT := reader_take ws i n w h hl s
  rw [if_neg hq, decide_eq_false hq] at hT
  have hF := reader_fail ws i n 4 w h hl
  refine absCall_of (pol := polG) mixP F.jread_reader_want_is ?_
  conv => whnf
  repeat' ((first
   | ((with_reducible first | refine Br.dec ?_ ?_ | refine Br.ndec ?_ ?_) <;> intro hb <;> (try simp only [ZZ] at hb) <;> (first | omega | contradiction | skip))
   | (with_reducible first | refine Br.tt rfl ?_ | refine Br.ff rfl ?_ | refine Br.ff (isEmptyCons _ _) ?_)
   | ((with_reducible first | refine Side.mk ?_ ?_ | refine WrapW.mk ?_ ?_); focus (first | omega | (dsimp only [InR, Int.reduceToNat, IntKind.bits, Int.reducePow]; omega) | (simp [CC]; done) | (constructor <;> omega)))
   | with_reducible refine Br.not ?_
   | (with_reducible first | refine Br.tt (by assumption) ?_ | refine Br.ff (by assumption) ?_)
   | (refine Br.mk ?_ ?_ <;> intro hb <;> (try simp only [ZZ] at hb) <;> (first | omega | contradiction | skip))
   | refine Src.whole ⟨rfl, rfl⟩ ?_ | refine FrzV.whole ?_
   | refine CallW.use (hT) ?_
   | refine CallW.use (hF) ?_) <;> conv => whnf)
  exact CLe.eq rfl
end Go.Proofs.YtoinkmogdfjmmaaGreatDoor
end

section
namespace Go.Am
open Go
def leqS (a b : Str) : Bool := Op.bytesLess a b || decide (a = b)
def ownBad (k n : Int) (ls ll lm : Nat) : Prop := (k ≠ 1 ∧ k ≠ 2 ∧ n ≠ 0) ∨ (k ≠ 3 ∧ k ≠ 4 ∧ k ≠ 7 ∧ ls ≠ 0) ∨ (k ≠ 5 ∧ ll ≠ 0) ∨ (k ≠ 6 ∧ lm ≠ 0)
instance (k n : Int) (ls ll lm : Nat) : Decidable (ownBad k n ls ll lm) := by unfold ownBad; infer_instance
def nodeOk (k n : Int) (s : Str) : Bool :=
  if k = 0 ∨ k = 2 then true else if k = 1 then decide (n = 0 ∨ n = 1) else if k = 3 then numL s && !(refIntL s).2 else if k = 4 then strOk s else if k = 7 then stampOk s else decide (k = 5 ∨ k = 6)
mutual
def plainT : Tree → Bool
  | .mk k n s l m => if ownBad k n s.length l.length m.length then false else nodeOk k n s && (plainL l && plainM none m)
def plainL : List Tree → Bool
  | [] => true
  | t :: l => plainT t && plainL l
def plainM : Option Str → List (Str × Tree) → Bool
  | _, [] => true
  | o, p :: m => plainP o p && plainM (some p.1) m
def plainP : Option Str → Str × Tree → Bool
  | o, (k, t) => strOk k && (!(match o with | none => false | some p => leqS k p) && plainT t)
end
theorem plainT_eq (t : Tree) : plainT t = if ownBad t.kind t.n t.s.length t.l.length t.m.length then false else nodeOk t.kind t.n t.s && (plainL t.l && plainM none t.m) := by cases t; rw [plainT]; rfl
abbrev RR := Except (Int × Int) (Tree × Nat × Int)
def wdAt (ws : List Wd) (i : Nat) : Wd := (ws[i]?).getD ⟨0, [], 0⟩
def isS (w : Wd) (s : Str) : Bool := decide (w.k = 1 ∧ w.s = s)
def hasK (m : List (Str × Tree)) (k : Str) : Bool := m.any fun p => decide (p.1 = k)
def insK (k : Str) (x : Tree) : List (Str × Tree) → List (Str × Tree)
  | [] => [(k, x)]
  | p :: m => if leqS k p.1 = true then (k, x) :: p :: m else p :: insK k x m
def sortP : List (Str × Tree) → List (Str × Tree)
  | [] => []
  | p :: m => insK p.1 p.2 (sortP m)
def plainW (w : Wd) : Tree :=
  if w.k = 2 then .mk 4 0 w.s [] [] else
  if w.k = 3 then (if (refIntL w.s).2 = true then .mk 2 (refIntL w.s).1 [] [] [] else .mk 3 0 w.s [] []) else
  if w.s = [116, 114, 117, 101] then .mk 1 1 [] [] [] else
  if w.s = [102, 97, 108, 115, 101] then .mk 1 0 [] [] [] else .mk 0 0 [] [] []
mutual
def valR : Nat → List Wd → Int → Nat → Int → RR
  | 0, _, _, _, _ => .error (0, 0)
  | q + 1, ws, d, i, n =>
    if (wdAt ws i).k = 0 ∨ ((wdAt ws i).k = 1 ∧ ¬ (wdAt ws i).s = [123] ∧ ¬ (wdAt ws i).s = [91]) then .error (4, (wdAt ws i).a) else
    if 4096 < n + 1 ∨ 32 < d then .error (2, (wdAt ws i).a) else
    if isS (wdAt ws i) [91] = true then listR q ws d (i + 1) (n + 1) else
    if isS (wdAt ws i) [123] = true then pairsR q ws d (i + 1) (n + 1) else
    .ok (plainW (wdAt ws i), i + 1, n + 1)
def listR : Nat → List Wd → Int → Nat → Int → RR
  | 0, _, _, _, _ => .error (0, 0)
  | q + 1, ws, d, i, n => if isS (wdAt ws i) [93] = true then .ok (.mk 5 0 [] [] [], i + 1, n) else itemsR q ws d i n []
def itemsR : Nat → List Wd → Int → Nat → Int → List Tree → RR
  | 0, _, _, _, _, _ => .error (0, 0)
  | q + 1, ws, d, i, n, acc => match valR q ws (d + 1) i n with
    | .error e => .error e
    | .ok (x, j, m) =>
      if isS (wdAt ws j) [93] = true then .ok (.mk 5 0 [] (acc ++ [x]) [], j + 1, m) else
      if isS (wdAt ws j) [44] = true then itemsR q ws d (j + 1) m (acc ++ [x]) else .error (4, (wdAt ws j).a)
def pairsR : Nat → List Wd → Int → Nat → Int → RR
  | 0, _, _, _, _ => .error (0, 0)
  | q + 1, ws, d, i, n => if isS (wdAt ws i) [125] = true then .ok (.mk 6 0 [] [] [], i + 1, n) else entriesR q ws d i n []
def entriesR : Nat → List Wd → Int → Nat → Int → List (Str × Tree) → RR
  | 0, _, _, _, _, _ => .error (0, 0)
  | q + 1, ws, d, i, n, acc =>
    if ¬ (wdAt ws i).k = 2 then .error (4, (wdAt ws i).a) else
    if hasK acc (wdAt ws i).s = true then .error (5, (wdAt ws i).a) else
    if isS (wdAt ws (i + 1)) [58] = false then .error (4, (wdAt ws (i + 1)).a) else
    match valR q ws (d + 1) (i + 2) n with
    | .error e => .error e
    | .ok (x, j, m) =>
      if isS (wdAt ws j) [125] = true then .ok (.mk 6 0 [] [] (sortP (acc ++ [((wdAt ws i).s, x)])), j + 1, m) else
      if isS (wdAt ws j) [44] = true then entriesR q ws d (j + 1) m (acc ++ [((wdAt ws i).s, x)]) else .error (4, (wdAt ws j).a)
end
structure WsOk (ws : List Wd) : Prop where
  len : ws.length ≤ 65537
  end_ : ∀ i : Nat, i < ws.length → (wdAt ws i).k ≠ 0 → i + 1 < ws.length
  text : ∀ w ∈ ws, w.s.length ≤ 65536 ∧ 0 ≤ w.k ∧ w.k ≤ 4 ∧ (w.k = 4 → w.s = [116, 114, 117, 101] ∨ w.s = [102, 97, 108, 115, 101] ∨ w.s = [110, 117, 108, 108])
  pos : ∀ w ∈ ws, 0 ≤ w.a ∧ w.a ≤ 65536
theorem WsOk.at {ws : List Wd} (h : WsOk ws) {i : Nat} (hi : i < ws.length) : ws[i]? = some (wdAt ws i) ∧ wdAt ws i ∈ ws := by
  have : ws[i]? = some ws[i] := by simp [hi]
  unfold wdAt
  rw [this]
  exact ⟨rfl, List.getElem_mem hi⟩
def okR (ws : List Wd) (i : Nat) (n : Int) : RR → Prop
  | .error _ => True
  | .ok (_, j, m) => i < j ∧ j < ws.length ∧ n ≤ m ∧ m ≤ 4096
theorem isS_k {w : Wd} {s : Str} (h : isS w s = true) : w.k = 1 ∧ w.s = s := of_decide_eq_true h
theorem okR.up {ws : List Wd} {i j : Nat} {n m : Int} {r : RR} (hij : i ≤ j) (hnm : n ≤ m) (hr : okR ws j m r) : okR ws i n r := by
  cases r with
  | error e => trivial
  | ok x => exact ⟨by have := hr.1; omega, hr.2.1, by have := hr.2.2.1; omega, hr.2.2.2⟩
theorem okR_all {ws : List Wd} (h : WsOk ws) : ∀ q : Nat, (∀ d i n, i < ws.length → okR ws i (n + 1) (valR q ws d i n)) ∧ (∀ d i n, i < ws.length → n ≤ 4096 → okR ws i n (listR q ws d i n)) ∧
    (∀ d i n acc, i < ws.length → n ≤ 4096 → okR ws i n (itemsR q ws d i n acc)) ∧ (∀ d i n, i < ws.length → n ≤ 4096 → okR ws i n (pairsR q ws d i n)) ∧ (∀ d i n acc, i < ws.length → n ≤ 4096 → okR ws i n (entriesR q ws d i n acc)) := by
  have nx : ∀ {j : Nat} {s : Str}, j < ws.length → isS (wdAt ws j) s = true → j + 1 < ws.length := fun hj hs => h.end_ _ hj (by rw [(isS_k hs).1]; decide)
  intro q
  induction q with
  | zero => refine ⟨?_, ?_, ?_, ?_, ?_⟩ <;> intros <;> simp [valR, listR, itemsR, pairsR, entriesR, okR]
  | succ q ih =>
    obtain ⟨hv, hl, hi, hp, he⟩ := ih
    refine ⟨?_, ?_, ?_, ?_, ?_⟩
    · intro d i n hin
      rw [valR]
      split
      · trivial
      rename_i h1
      split
      · trivial
      rename_i h1'
      have h2 : i + 1 < ws.length := h.end_ i hin fun e => h1 (.inl e)
      split
      · exact okR.up (by omega) (by omega) (hl _ _ _ h2 (by omega))
      · split
        · exact okR.up (by omega) (by omega) (hp _ _ _ h2 (by omega))
        · exact ⟨by omega, h2, by omega, by omega⟩
    · intro d i n hin hn
      rw [listR]
      split
      · rename_i h1; exact ⟨by omega, nx hin h1, by omega, hn⟩
      · exact hi _ _ _ _ hin hn
    · intro d i n acc hin hn
      rw [itemsR]
      have hv' := hv (d + 1) i n hin
      cases hr : valR q ws (d + 1) i n with
      | error e => trivial
      | ok x =>
        obtain ⟨x, j, m⟩ := x
        rw [hr] at hv'
        obtain ⟨g1, g2, g3, g4⟩ := hv'
        simp only []
        split
        · rename_i h1; exact ⟨by omega, nx g2 h1, by omega, g4⟩
        · split
          · rename_i h1; exact okR.up (by omega) (by omega) (hi _ _ _ _ (nx g2 h1) g4)
          · trivial
    · intro d i n hin hn
      rw [pairsR]
      split
      · rename_i h1; exact ⟨by omega, nx hin h1, by omega, hn⟩
      · exact he _ _ _ _ hin hn
    · intro d i n acc hin hn
      rw [entriesR]
      split
      · trivial
      rename_i h0
      split
      · trivial
      split
      · trivial
      rename_i h3
      have h1 : i + 1 < ws.length := h.end_ i hin (by omega)
      have h3 : isS (wdAt ws (i + 1)) [58] = true := by simpa using h3
      have hv' := hv (d + 1) (i + 2) n (nx h1 h3)
      cases hr : valR q ws (d + 1) (i + 2) n with
      | error e => trivial
      | ok x =>
        obtain ⟨x, j, m⟩ := x
        rw [hr] at hv'
        obtain ⟨g1, g2, g3, g4⟩ := hv'
        simp only []
        split
        · rename_i h1; exact ⟨by omega, nx g2 h1, by omega, g4⟩
        · split
          · rename_i h1; exact okR.up (by omega) (by omega) (he _ _ _ _ (nx g2 h1) g4)
          · trivial
def errR : RR → Prop
  | .error e => (e.1 = 2 ∨ e.1 = 4 ∨ e.1 = 5) ∧ 0 ≤ e.2 ∧ e.2 ≤ 65536
  | .ok _ => True
theorem WsOk.a {ws : List Wd} (h : WsOk ws) (i : Nat) : 0 ≤ (wdAt ws i).a ∧ (wdAt ws i).a ≤ 65536 := by
  unfold wdAt
  cases hi : ws[i]? with
  | none => simp
  | some w => exact h.pos w (List.mem_of_getElem? hi)
theorem errR_all {ws : List Wd} (h : WsOk ws) : ∀ q : Nat, (∀ d i n, i < ws.length → 3 * (ws.length - i) + 1 ≤ q → errR (valR q ws d i n)) ∧ (∀ d i n, i < ws.length → n ≤ 4096 → 3 * (ws.length - i) + 3 ≤ q → errR (listR q ws d i n)) ∧
    (∀ d i n acc, i < ws.length → n ≤ 4096 → 3 * (ws.length - i) + 2 ≤ q → errR (itemsR q ws d i n acc)) ∧ (∀ d i n, i < ws.length → n ≤ 4096 → 3 * (ws.length - i) + 3 ≤ q → errR (pairsR q ws d i n)) ∧
    (∀ d i n acc, i < ws.length → n ≤ 4096 → 3 * (ws.length - i) + 2 ≤ q → errR (entriesR q ws d i n acc)) := by
  have nx : ∀ {j : Nat} {s : Str}, j < ws.length → isS (wdAt ws j) s = true → j + 1 < ws.length := fun hj hs => h.end_ _ hj (by rw [(isS_k hs).1]; decide)
  have e2 : ∀ i, errR (.error (2, (wdAt ws i).a)) := fun i => ⟨.inl rfl, h.a i⟩
  have e4 : ∀ i, errR (.error (4, (wdAt ws i).a)) := fun i => ⟨.inr (.inl rfl), h.a i⟩
  have e5 : ∀ i, errR (.error (5, (wdAt ws i).a)) := fun i => ⟨.inr (.inr rfl), h.a i⟩
  intro q
  induction q with
  | zero => refine ⟨?_, ?_, ?_, ?_, ?_⟩ <;> intros <;> omega
  | succ q ih =>
    obtain ⟨hv, hl, hi, hp, he⟩ := ih
    obtain ⟨kv, _⟩ := okR_all h q
    refine ⟨?_, ?_, ?_, ?_, ?_⟩
    · intro d i n hin hq
      rw [valR]
      split
      · exact e4 i
      rename_i h1
      split
      · exact e2 i
      rename_i h1'
      have h2 : i + 1 < ws.length := h.end_ i hin fun e => h1 (.inl e)
      split
      · exact hl _ _ _ h2 (by omega) (by omega)
      · split
        · exact hp _ _ _ h2 (by omega) (by omega)
        · trivial
    · intro d i n hin hn hq
      rw [listR]
      split
      · trivial
      · exact hi _ _ _ _ hin hn (by omega)
    · intro d i n acc hin hn hq
      rw [itemsR]
      have hv' := hv (d + 1) i n hin (by omega)
      have kv' := kv (d + 1) i n hin
      cases hr : valR q ws (d + 1) i n with
      | error e => rw [hr] at hv'; exact hv'
      | ok x =>
        obtain ⟨x, j, m⟩ := x
        rw [hr] at kv'
        obtain ⟨g1, g2, g3, g4⟩ := kv'
        simp only []
        split
        · trivial
        · split
          · rename_i h1; exact hi _ _ _ _ (nx g2 h1) g4 (by omega)
          · exact e4 j
    · intro d i n hin hn hq
      rw [pairsR]
      split
      · trivial
      · exact he _ _ _ _ hin hn (by omega)
    · intro d i n acc hin hn hq
      rw [entriesR]
      split
      · exact e4 i
      rename_i h0
      split
      · exact e5 i
      split
      · exact e4 (i + 1)
      rename_i h3
      have h1 : i + 1 < ws.length := h.end_ i hin (by omega)
      have h3 : isS (wdAt ws (i + 1)) [58] = true := by simpa using h3
      have hv' := hv (d + 1) (i + 2) n (nx h1 h3) (by omega)
      have kv' := kv (d + 1) (i + 2) n (nx h1 h3)
      cases hr : valR q ws (d + 1) (i + 2) n with
      | error e => rw [hr] at hv'; exact hv'
      | ok x =>
        obtain ⟨x, j, m⟩ := x
        rw [hr] at kv'
        obtain ⟨g1, g2, g3, g4⟩ := kv'
        simp only []
        split
        · trivial
        · split
          · rename_i h1; exact he _ _ _ _ (nx g2 h1) g4 (by omega)
          · exact e4 j
def wholeS (ws : List Wd) : Tree × Int × Int := match valR (3 * ws.length + 1) ws 1 0 0 with
  | .error e => (.mk 0 0 [] [] [], e)
  | .ok (v, j, _) => if (wdAt ws j).k = 0 then (v, 0, 0) else (.mk 0 0 [] [] [], 4, (wdAt ws j).a)
def parseS (t : Str) : Tree × Int × Int := if (cutT t).2.1 = 0 then wholeS (cutT t).1 else (.mk 0 0 [] [] [], (cutT t).2)
theorem wordL_word (t : Str) (a : Nat) (h : (wordL t a).2.2.1 = 0) : (wordL t a).1.s.length ≤ max 4096 t.length ∧ 1 ≤ (wordL t a).1.k ∧ (wordL t a).1.k ≤ 4 ∧
    ((wordL t a).1.k = 4 → (wordL t a).1.s = [116, 114, 117, 101] ∨ (wordL t a).1.s = [102, 97, 108, 115, 101] ∨ (wordL t a).1.s = [110, 117, 108, 108]) := by
  have hd : (t.drop a).length ≤ t.length := by rw [List.length_drop]; omega
  have ht : ∀ n : Nat, ((t.drop a).take n).length ≤ t.length := fun n => by rw [List.length_take]; omega
  unfold wordL at h ⊢
  split
  · rename_i h1
    have := ht 1
    exact ⟨by show ((t.drop a).take 1).length ≤ _; omega, by show (1 : Int) ≤ 1; decide, by show (1 : Int) ≤ 4; decide, fun e => absurd e (by show ¬ (1 : Int) = 4; decide)⟩
  rename_i h1
  rw [if_neg h1] at h
  split
  · rename_i h2
    rw [if_pos h2] at h
    split
    · rename_i h3; rw [if_pos h3] at h; simp at h
    rename_i h3
    rw [if_neg h3] at h
    split
    · rename_i h4; rw [if_pos h4] at h; simp at h
    rename_i h4
    exact ⟨by show (unquoteL t a).1.length ≤ _; omega, by show (1 : Int) ≤ 2; decide, by show (2 : Int) ≤ 4; decide, fun e => absurd e (by show ¬ (2 : Int) = 4; decide)⟩
  rename_i h2
  rw [if_neg h2] at h
  split
  · rename_i h3
    rw [if_pos h3] at h
    split
    · rename_i h4; rw [if_pos h4] at h; simp at h
    rename_i h4
    refine ⟨by have := ht (whileL (t.drop a) lowers); show ((t.drop a).take _).length ≤ _; omega, by show (1 : Int) ≤ 4; decide, by show (4 : Int) ≤ 4; decide, fun _ => ?_⟩
    show (t.drop a).take _ = _ ∨ (t.drop a).take _ = _ ∨ (t.drop a).take _ = _
    by_cases g1 : (t.drop a).take (whileL (t.drop a) lowers) = [116, 114, 117, 101]
    · exact .inl g1
    · by_cases g2 : (t.drop a).take (whileL (t.drop a) lowers) = [102, 97, 108, 115, 101]
      · exact .inr (.inl g2)
      · by_cases g3 : (t.drop a).take (whileL (t.drop a) lowers) = [110, 117, 108, 108]
        · exact .inr (.inr g3)
        · exact absurd ⟨g1, g2, g3⟩ h4
  rename_i h3
  rw [if_neg h3] at h
  split
  · rename_i h4; rw [if_pos h4] at h; simp at h
  rename_i h4
  rw [if_neg h4] at h
  split
  · rename_i h5; rw [if_pos h5] at h; exact absurd h h5
  have := ht (whileL (t.drop a) numBs)
  exact ⟨by show ((t.drop a).take _).length ≤ _; omega, by show (1 : Int) ≤ 3; decide, by show (3 : Int) ≤ 4; decide, fun e => absurd e (by show ¬ (3 : Int) = 4; decide)⟩
theorem wordL_a (t : Str) (a : Nat) : (wordL t a).1.a = a ∨ (wordL t a).1.a = 0 := by
  unfold wordL
  repeat' split
  all_goals first
    | exact .inl rfl
    | exact .inr rfl
theorem cutL_pos : ∀ (q : Nat) (t : Str) (a : Nat) (acc : List Wd), (∀ w ∈ acc, 0 ≤ w.a ∧ w.a ≤ t.length) → ∀ w ∈ (cutL q t a acc).1, 0 ≤ w.a ∧ w.a ≤ t.length
  | 0, t, a, acc, h => by rw [cutL]; exact h
  | q + 1, t, a, acc, h => by
    rw [cutL]
    split
    · exact h
    rename_i hl
    split
    · simp
    · refine cutL_pos q t _ _ fun w hw' => ?_
      rcases List.mem_append.1 hw' with hw' | hw'
      · exact h w hw'
      · have := wordL_a t a
        rw [List.mem_singleton.1 hw']
        omega
theorem cutL_words : ∀ (q : Nat) (t : Str) (a : Nat) (acc : List Wd), t.length ≤ 65536 →
    (∀ w ∈ acc, w.s.length ≤ 65536 ∧ 1 ≤ w.k ∧ w.k ≤ 4 ∧ (w.k = 4 → w.s = [116, 114, 117, 101] ∨ w.s = [102, 97, 108, 115, 101] ∨ w.s = [110, 117, 108, 108])) →
    ∀ w ∈ (cutL q t a acc).1, w.s.length ≤ 65536 ∧ 1 ≤ w.k ∧ w.k ≤ 4 ∧ (w.k = 4 → w.s = [116, 114, 117, 101] ∨ w.s = [102, 97, 108, 115, 101] ∨ w.s = [110, 117, 108, 108])
  | 0, t, a, acc, _, h => by rw [cutL]; exact h
  | q + 1, t, a, acc, ht, h => by
    rw [cutL]
    split
    · exact h
    split
    · simp
    rename_i hw
    refine cutL_words q t _ _ ht fun w hw' => ?_
    rcases List.mem_append.1 hw' with hw' | hw'
    · exact h w hw'
    · have := wordL_word t a (by simpa using hw)
      rw [List.mem_singleton.1 hw']
      exact ⟨by omega, this.2⟩
theorem cutT_ok (t : Str) (h : (cutT t).2.1 = 0) : WsOk (cutT t).1 := by
  unfold cutT at h ⊢
  split
  · rename_i h1; rw [if_pos h1] at h; exact absurd h h1
  rename_i h1
  rw [if_neg h1] at h
  split
  · rename_i h2; rw [if_pos h2] at h; exact absurd h h2
  have hl : t.length ≤ 65536 := by
    unfold judgeS at h1
    split at h1
    · simp at h1
    · omega
  have hw := whileL_le t blanksB
  have h3 := cutL_words (t.length + 1) t (whileL t blanksB) [] hl (by simp)
  have h5 := cutL_pos (t.length + 1) t (whileL t blanksB) [] (by simp)
  have h4 := cutL_len (t.length + 1) t (whileL t blanksB) [] hw (by simp)
  generalize (cutL (t.length + 1) t (whileL t blanksB) []).1 = l at h3 h4 h5 ⊢
  refine ⟨by simp; omega, fun i hi hk => ?_, fun w hw => ?_, fun w hw => ?_⟩
  · rw [List.length_append, List.length_singleton] at hi ⊢
    by_cases e : i = l.length
    · subst e
      refine absurd ?_ hk
      simp [wdAt]
    · omega
  · rcases List.mem_append.1 hw with hw | hw
    · have := h3 w hw
      exact ⟨this.1, by omega, this.2.2⟩
    · rw [List.mem_singleton.1 hw]
      exact ⟨by simp, by show (0 : Int) ≤ 0; decide, by show (0 : Int) ≤ 4; decide, fun e => absurd e (by show ¬ (0 : Int) = 4; decide)⟩
  · rcases List.mem_append.1 hw with hw | hw
    · have := h5 w hw
      omega
    · rw [List.mem_singleton.1 hw]
      exact ⟨by show (0 : Int) ≤ t.length; omega, by show (t.length : Int) ≤ 65536; omega⟩
theorem cutT_pos (t : Str) (h : (cutT t).2.1 = 0) : 0 < (cutT t).1.length := by
  unfold cutT at h ⊢
  split
  · rename_i h1; rw [if_pos h1] at h; exact absurd h h1
  rename_i h1
  rw [if_neg h1] at h
  split
  · rename_i h2; rw [if_pos h2] at h; exact absurd h h2
  simp
end Go.Am
end
