/-
What a printed value's text is cut into, I: single words.
-/
import Derived.Test.YtoinkmogdfjmmaaGreatDoorPH
import Derived.Test.YtoinkmogdfjmmaaGreatDoorPI
import Derived.Test.YtoinkmogdfjmmaaGreatDoorPE
import Derived.Sort.KeysCollected
import Derived.Shelf.SlIter.Nil
import Derived.Shelf.SortM.Plain
import Derived.Shelf.SortM.SortNone
import Derived.Test.YtoinkmogdfjmmaaGreatDoorProg
import Derived.Recover

section
namespace Go.Am
open Go
def Tok (u : Str) (k : Int) (s : Str) (v : Str) : Prop := ∀ (t : Str) (a : Nat), a < t.length → t.drop a = u → ∃ b : Nat, wordL t a = (⟨k, s, a⟩, (b : Int), 0, 0) ∧ a < b ∧ b ≤ t.length ∧ t.drop b = v
theorem getD_drop (t : Str) (a : Nat) : t.getD a 0 = (t.drop a).getD 0 0 := by simp [List.getD, List.getElem?_drop]
theorem sign_iff : ∀ n : Nat, n < 256 → (0 ≤ firstIdx ⟨signs.toArray⟩ n.toUInt8 ↔ signs.contains n.toUInt8 = true) := by decide +kernel
theorem sign_b (c : UInt8) : 0 ≤ firstIdx ⟨signs.toArray⟩ c ↔ signs.contains c = true := by
  have := sign_iff c.toNat (UInt8.toNat_lt c)
  rwa [show c.toNat.toUInt8 = c by simp] at this
theorem drop_lt {t u v : Str} {a : Nat} (ha : a ≤ t.length) (h : t.drop a = u ++ v) : a + u.length ≤ t.length ∧ t.drop (a + u.length) = v := by
  have hl := congrArg List.length h
  rw [List.length_drop, List.length_append] at hl
  refine ⟨by omega, ?_⟩
  rw [← List.drop_drop, h, List.drop_left]
theorem tok_sign (c : UInt8) (v : Str) (hc : signs.contains c = true) : Tok (c :: v) 1 [c] v := by
  intro t a ha h
  have hg : t.getD a 0 = c := by rw [getD_drop, h]; rfl
  obtain ⟨h1, h2⟩ := drop_lt (u := [c]) (v := v) (by omega) h
  refine ⟨a + 1, ?_, by omega, h1, h2⟩
  unfold wordL
  rw [if_pos (by rw [hg]; exact (sign_b c).2 hc), h]
  rfl
theorem takeL_app : ∀ (q : Nat) (s R : Str) (r x : Int), takeL q s r = some x → takeL q (s ++ R) r = some x
  | 0, _, _, _, _, h => h
  | q + 1, [], _, _, _, h => by simp [takeL] at h
  | q + 1, b :: s, R, r, x, h => by
    rw [takeL] at h
    rw [List.cons_append, takeL]
    split at h
    · rename_i hc; rw [if_pos hc]; exact takeL_app q s R _ x h
    · cases h
theorem utfTake_app {s : Str} (R : Str) (h : (utfTake s).2 ≠ 0) : utfTake (s ++ R) = utfTake s := by
  cases s with
  | nil => exact absurd rfl h
  | cons c cs =>
    unfold utfTake at h ⊢
    simp only [List.cons_append] at h ⊢
    split at h
    · exact absurd rfl h
    · rename_i h1
      rw [if_neg (by simp only [List.length_cons, List.length_append] at h1 ⊢; omega), if_neg h1]
      split at h
      · exact absurd rfl h
      · rename_i r h2
        rw [takeL_app _ _ R _ _ h2]
theorem hex_ok : ∀ k : Nat, k < 32 → hexL (hex2 k) = ((k : Int), true) ∧ (hex2 k).length = 4 := by decide +kernel
theorem small_good : ∀ k : Nat, k < 128 → utfGood (k : Int) = true ∧ utfEnc (k : Int) = [UInt8.ofNat k] := by decide +kernel
theorem unq_quote : ∀ (q : Nat) (s R : Str) (Q : Nat) (t : Str) (a : Nat) (acc : Str), s.length ≤ q → (utfScan q s 0).2 = true → a ≤ t.length → t.drop a = quoteL q s ++ 34 :: R → t.length < Q + a →
    unqL Q t a acc = (acc ++ s, ((a + (quoteL q s).length + 1 : Nat) : Int), -1) := by
  intro q
  induction q with
  | zero =>
    intro s R Q t a acc hs _ ha h hQ
    obtain rfl : s = [] := List.eq_nil_of_length_eq_zero (by omega)
    have hl := congrArg List.length h
    simp [quoteL] at h hl
    obtain ⟨Q, rfl⟩ : ∃ q, Q = q + 1 := ⟨Q - 1, by omega⟩
    rw [unqL, if_neg (by omega), if_pos (by rw [getD_drop, h]; rfl)]
    simp [quoteL]
  | succ q ih =>
    intro s R Q t a acc hs hv ha h hQ
    cases s with
    | nil =>
      have hl := congrArg List.length h
      simp [quoteL] at h hl
      obtain ⟨Q, rfl⟩ : ∃ q, Q = q + 1 := ⟨Q - 1, by omega⟩
      rw [unqL, if_neg (by omega), if_pos (by rw [getD_drop, h]; rfl)]
      simp [quoteL]
    | cons c cs =>
      obtain ⟨h0, hv'⟩ := scan_cons hv
      have hst := stepN_pos (c :: cs)
      have hle := stepN_le c cs
      have hn := utfTake_n (c :: cs)
      have hsn : stepN (c :: cs) = (utfTake (c :: cs)).2.toNat := by unfold stepN; omega
      have henc := utfTake_enc _ h0
      have e0 : quoteL (q + 1) (c :: cs) = unitL (c :: cs) ++ quoteL q ((c :: cs).drop (stepN (c :: cs))) := rfl
      rw [e0, List.append_assoc] at h
      rw [e0]
      have hl := congrArg List.length h
      rw [List.length_drop] at hl
      simp only [List.length_append, List.length_cons] at hl
      obtain ⟨Q, rfl⟩ : ∃ q, Q = q + 1 := ⟨Q - 1, by omega⟩
      obtain ⟨d1, d2⟩ := drop_lt ha h
      have hrest : ((c :: cs).drop (stepN (c :: cs))).length ≤ q := by rw [List.length_drop]; simp only [List.length_cons] at hs hle ⊢; omega
      have hupos : 1 ≤ (unitL (c :: cs)).length := by
        obtain ⟨x, y, e1, _⟩ := unit_head c cs h0
        rw [e1]
        simp
      have fin : ∀ acc', acc' = acc ++ (c :: cs).take (stepN (c :: cs)) → unqL Q t (a + (unitL (c :: cs)).length) acc' = (acc ++ c :: cs, ((a + (unitL (c :: cs) ++ quoteL q ((c :: cs).drop (stepN (c :: cs)))).length + 1 : Nat) : Int), -1) := by
        intro acc' e
        rw [ih _ R Q t _ acc' hrest hv' d1 d2 (by omega)]
        rw [e, List.append_assoc, List.take_append_drop, List.length_append, Nat.add_assoc a]
      have hund := unit_head c cs h0
      rcases unit_form c cs h0 with ⟨hc, htk, hun⟩ | ⟨hc, hun, hlen, hb⟩
      · -- a small letter
        rw [htk] at fin
        rw [hun] at h d1 d2 hl fin
        have hcu := u8_of c
        have hsmall := small_good c.toNat hc
        rw [hcu] at hsmall
        -- escapes of one
        have esc1 : ∀ y : UInt8, q1 c = [92, y] → shortL y = some (c.toNat : Int) → unqL (Q + 1) t a acc = (acc ++ c :: cs, ((a + (q1 c ++ quoteL q ((c :: cs).drop (stepN (c :: cs)))).length + 1 : Nat) : Int), -1) := by
          intro y hy hsh
          rw [hy] at h hl fin
          have hg : t.getD a 0 = 92 := by rw [getD_drop, h]; rfl
          have hg1 : t.getD (a + 1) 0 = y := by rw [getD_drop, ← List.drop_drop, h]; rfl
          simp only [List.length_cons, List.length_nil] at hl
          have hesc : escAt t a acc = (true, (a : Int) + 2, acc ++ [c]) := by
            rw [escAt_short (by omega) (by rw [hg1]; exact hsh)]
            unfold putR
            rw [if_pos hsmall.1, hsmall.2]
          rw [unqL, if_neg (by omega), if_neg (by rw [hg]; decide), if_neg (by rw [hg]; decide), if_pos (by rw [hg]; decide), hesc, if_pos rfl]
          show unqL Q t ((a : Int) + 2).toNat _ = _
          rw [show ((a : Int) + 2).toNat = a + [92, y].length by simp; omega, hy]
          exact fin _ rfl
        have key : ∀ k : Nat, k < 128 → (∃ y : UInt8, q1 (UInt8.ofNat k) = [92, y] ∧ shortL y = some (k : Int)) ∨ (k < 32 ∧ q1 (UInt8.ofNat k) = 92 :: 117 :: hex2 k) ∨ (32 ≤ k ∧ k ≠ 34 ∧ k ≠ 92 ∧ q1 (UInt8.ofNat k) = [UInt8.ofNat k]) := by
          intro k hk
          by_cases k1 : k = 34; · subst k1; exact .inl ⟨34, by decide, by decide⟩
          by_cases k2 : k = 92; · subst k2; exact .inl ⟨92, by decide, by decide⟩
          by_cases k3 : k = 8; · subst k3; exact .inl ⟨98, by decide, by decide⟩
          by_cases k4 : k = 9; · subst k4; exact .inl ⟨116, by decide, by decide⟩
          by_cases k5 : k = 10; · subst k5; exact .inl ⟨110, by decide, by decide⟩
          by_cases k6 : k = 12; · subst k6; exact .inl ⟨102, by decide, by decide⟩
          by_cases k7 : k = 13; · subst k7; exact .inl ⟨114, by decide, by decide⟩
          have hb : b0 [UInt8.ofNat k] = k := by
            show (UInt8.ofNat k).toNat = k
            rw [UInt8.toNat_ofNat']; omega
          by_cases k8 : k < 32
          · refine .inr (.inl ⟨k8, ?_⟩)
            unfold q1 quoteU
            rw [hb, if_neg (by decide), if_neg (by omega), if_neg (by omega), if_neg (by omega), if_neg (by omega), if_neg (by omega), if_neg (by omega), if_pos k8]
          · refine .inr (.inr ⟨by omega, k1, k2, ?_⟩)
            unfold q1 quoteU
            rw [hb, if_neg (by decide), if_neg (by omega), if_neg (by omega), if_neg (by omega), if_neg (by omega), if_neg (by omega), if_neg (by omega), if_neg k8]
        rw [hun]
        rcases key c.toNat hc with ⟨y, hy, hsh⟩ | ⟨hk, hy⟩ | ⟨hk, hk1, hk2, hy⟩
        · rw [hcu] at hy; exact esc1 y hy hsh
        · rw [hcu] at hy
          obtain ⟨hx, hxl⟩ := hex_ok c.toNat hk
          rw [hy] at h hl fin
          have hg : t.getD a 0 = 92 := by rw [getD_drop, h]; rfl
          have hg1 : t.getD (a + 1) 0 = 117 := by rw [getD_drop, ← List.drop_drop, h]; rfl
          simp only [List.length_cons, hxl] at hl
          have hd4 : (t.drop (a + 2)).take 4 = hex2 c.toNat := by
            rw [← List.drop_drop, h]
            show (hex2 c.toNat ++ _).take 4 = _
            rw [← hxl, List.take_left]
          have hdig : digL t (a + 2) 4 = ((c.toNat : Int), true) := by
            unfold digL
            rw [if_neg (by omega), hd4, hx]
          have hesc : escAt t a acc = (true, (a : Int) + 6, acc ++ [c]) := by
            rw [escAt_u (by omega) (by rw [hg1]; decide), hg1, hdig, if_neg (by simp), if_pos (.inl (by show (c.toNat : Int) < 55296; omega))]
            show putR a acc (c.toNat : Int) 6 = _
            unfold putR
            rw [if_pos hsmall.1, hsmall.2]
          rw [unqL, if_neg (by omega), if_neg (by rw [hg]; decide), if_neg (by rw [hg]; decide), if_pos (by rw [hg]; decide), hesc, if_pos rfl]
          show unqL Q t ((a : Int) + 6).toNat _ = _
          rw [show ((a : Int) + 6).toNat = a + (92 :: 117 :: hex2 c.toNat).length by simp only [List.length_cons, hxl]; omega, hy]
          exact fin _ rfl
        · rw [hcu] at hy
          rw [hy] at h hl fin
          have hg : t.getD a 0 = c := by rw [getD_drop, h]; rfl
          simp only [List.length_cons, List.length_nil] at hl
          have hlow : ∀ k : Nat, k < 128 → ∀ R : Str, utfTake (UInt8.ofNat k :: R) = ((k : Int), 1) := by
            intro k hk R
            have e1 : (UInt8.ofNat k).toNat = k := by rw [UInt8.toNat_ofNat']; omega
            have h2 : utfBegins k = (1, (k : Int)) := by unfold utfBegins; rw [if_pos hk]
            have h3 := (small_good k hk).1
            have h4 : utfSize (k : Int) = 1 := by unfold utfSize; rw [if_pos (by omega)]
            unfold utfTake
            simp only [e1, h2, List.length_cons]
            rw [if_neg (by omega)]
            simp only [show Int.toNat 1 - 1 = 0 from rfl, takeL]
            rw [if_pos ⟨h3, h4⟩]
          have hT : utfTake (t.drop a) = ((c.toNat : Int), 1) := by
            rw [h]
            have := hlow c.toNat hc (quoteL q ((c :: cs).drop (stepN (c :: cs))) ++ 34 :: R)
            rwa [hcu] at this
          rw [unqL, if_neg (by omega), if_neg (by rw [hg]; omega), if_neg (by rw [hg]; omega), if_neg (by rw [hg]; omega), hT, if_neg (by simp)]
          show unqL Q t (a + (1 : Int).toNat) (acc ++ utfEnc (c.toNat : Int)) = _
          rw [hsmall.2, hy]
          exact fin _ rfl
      · -- a great letter
        have hun' : unitL (c :: cs) = (c :: cs).take (stepN (c :: cs)) := hun
        rw [hun'] at h d1 d2 hl fin
        rw [hun']
        have hpre : utfTake ((c :: cs).take (stepN (c :: cs))) = utfTake (c :: cs) := utfTake_pre c cs
        have hT : utfTake (t.drop a) = utfTake (c :: cs) := by
          rw [h, utfTake_app _ (by rw [hpre]; exact h0), hpre]
        obtain ⟨m, hm⟩ : ∃ m, stepN (c :: cs) = m + 1 := ⟨stepN (c :: cs) - 1, by omega⟩
        have hg : t.getD a 0 = c := by rw [getD_drop, h, hm]; rfl
        have hlt : ((c :: cs).take (stepN (c :: cs))).length = stepN (c :: cs) := by rw [List.length_take]; omega
        rw [unqL, if_neg (by omega), if_neg (by rw [hg]; omega), if_neg (by rw [hg]; omega), if_neg (by rw [hg]; omega), hT, if_neg h0, henc, ← hsn]
        have := fin _ rfl
        rw [hlt] at this
        exact this
theorem tok_str (s R : Str) (hs : strOk s = true) : Tok (quoteS s ++ R) 2 s R := by
  intro t a ha h
  have hl := strOk_len hs
  have hv : (utfScan s.length s 0).2 = true := by
    unfold strOk at hs
    rw [Bool.and_eq_true] at hs
    exact hs.2
  have hq : quoteS s ++ R = [34] ++ (quoteL s.length s ++ 34 :: R) := by simp [quoteS]
  obtain ⟨e1, e2⟩ := drop_lt (by omega) (h.trans hq)
  have hg : t.getD a 0 = 34 := by rw [getD_drop, h]; rfl
  have hu := unq_quote s.length s R (t.length + 1) t (a + 1) [] (Nat.le_refl _) hv e1 e2 (by omega)
  have hlen : (quoteS s).length = (quoteL s.length s).length + 2 := by simp [quoteS]
  obtain ⟨e3, e4⟩ := drop_lt (by omega) h
  have hun : unquoteL t a = (s, ((a + (quoteS s).length : Nat) : Int), -1) := by
    unfold unquoteL
    have hc : clampL t (a : Int) = a := by unfold clampL; omega
    rw [hc, Int.toNat_natCast, if_neg, hu, hlen]
    · simp; omega
    · rintro (h1 | h1)
      · omega
      · rw [h] at h1
        simp [preB, quoteS] at h1
  refine ⟨a + (quoteS s).length, ?_, by omega, e3, e4⟩
  unfold wordL
  rw [if_neg (by rw [hg, sign_b]; decide), if_pos (by rw [hg]; decide), hun, if_neg (by simp), if_neg (by simp only []; omega)]
theorem num_first {s : Str} (h : numL s = true) : ∃ c y, s = c :: y ∧ (c = 45 ∨ dig c = true) := by
  have hp : (numParts s).2.2.2.2 = true := by
    unfold numL formL at h
    simp only [Bool.and_eq_true] at h
    exact h.1.1
  cases s with
  | nil => simp [numParts, partsB, runL, noParts] at hp
  | cons c y =>
    refine ⟨c, y, rfl, ?_⟩
    unfold numParts at hp
    split at hp
    · rename_i h1
      left
      have : c.toNat = 45 := h1.2
      exact UInt8.toNat_inj.1 (by rw [this]; decide)
    · right
      unfold partsB at hp
      split at hp
      · simp [noParts] at hp
      · rename_i h2
        cases hd : dig c with
        | true => rfl
        | false => exact absurd (.inl (by rw [runL, if_neg (by rw [hd]; decide)])) h2
theorem numBs_iff : ∀ n : Nat, n < 256 → numBs.contains n.toUInt8 = numCh n.toUInt8 := by decide +kernel
theorem numBs_eq (b : UInt8) : numBs.contains b = numCh b := by
  have := numBs_iff b.toNat (UInt8.toNat_lt b)
  rwa [show b.toNat.toUInt8 = b by simp] at this
theorem while_num {s R : Str} (hs : Nc s) (hR : TailR R) : whileL (s ++ R) numBs = s.length := by
  unfold whileL
  rw [show (fun b => numBs.contains b) = numCh from funext numBs_eq, tail_while hs hR]
theorem tok_num (s R : Str) (hs : numL s = true) (hR : TailR R) : Tok (s ++ R) 3 s R := by
  intro t a ha h
  obtain ⟨c, y, e, hc⟩ := num_first hs
  have hg : t.getD a 0 = c := by rw [getD_drop, h, e]; rfl
  have hw := while_num (nc_num hs) hR
  obtain ⟨e3, e4⟩ := drop_lt (by omega) h
  have hpos : 0 < s.length := by rw [e]; simp
  have hl : s.length ≤ 400 := (numL_asc hs).1
  have hj : jnumL s = 0 := by unfold jnumL; rw [if_neg (by omega), if_pos hs]
  have hcn : c.toNat = 45 ∨ (48 ≤ c.toNat ∧ c.toNat ≤ 57) := by
    rcases hc with rfl | hc
    · left; rfl
    · right; unfold dig at hc; exact of_decide_eq_true hc
  refine ⟨a + s.length, ?_, by omega, e3, e4⟩
  have hns : ¬ 0 ≤ firstIdx ⟨signs.toArray⟩ c := by
    have key : ∀ n : Nat, n < 256 → (n = 45 ∨ (48 ≤ n ∧ n ≤ 57)) → signs.contains n.toUInt8 = false := by decide +kernel
    have := key c.toNat (UInt8.toNat_lt c) hcn
    rw [show c.toNat.toUInt8 = c by simp] at this
    rw [sign_b, this]; decide
  unfold wordL
  rw [if_neg (by rw [hg]; exact hns), if_neg (by rw [hg]; omega), if_neg (by rw [hg]; omega), h, hw, List.take_left, if_neg (by omega), hj, if_neg (by simp)]
  rfl
theorem tok_word (s R : Str) (hs : s = [110, 117, 108, 108] ∨ s = [116, 114, 117, 101] ∨ s = [102, 97, 108, 115, 101]) (hR : TailR R) : Tok (s ++ R) 4 s R := by
  intro t a ha h
  have hall : ∀ b ∈ s, lowers.contains b = true := by rcases hs with rfl | rfl | rfl <;> decide
  have hw : whileL (s ++ R) lowers = s.length := by
    unfold whileL
    rw [List.takeWhile_append_of_pos hall]
    rcases hR with hR | ⟨z, y, hR, hz⟩
    · rw [hR]; simp
    · rw [hR, List.takeWhile_cons, if_neg, List.append_nil]
      rcases hz with rfl | rfl | rfl | rfl <;> decide
  obtain ⟨e3, e4⟩ := drop_lt (by omega) h
  obtain ⟨c, y, e, hc⟩ : ∃ c y, s = c :: y ∧ (c = 110 ∨ c = 116 ∨ c = 102) := by rcases hs with rfl | rfl | rfl <;> exact ⟨_, _, rfl, by decide⟩
  have hg : t.getD a 0 = c := by rw [getD_drop, h, e]; rfl
  have hpos : 0 < s.length := by rw [e]; simp
  refine ⟨a + s.length, ?_, by omega, e3, e4⟩
  unfold wordL
  rw [if_neg (by rw [hg, sign_b]; rcases hc with rfl | rfl | rfl <;> decide), if_neg (by rw [hg]; rcases hc with rfl | rfl | rfl <;> decide), if_pos (by rw [hg]; rcases hc with rfl | rfl | rfl <;> decide), h, hw, List.take_left, if_neg]
  · rfl
  · rintro ⟨h1, h2, h3⟩
    rcases hs with h | h | h
    · exact h3 h
    · exact h1 h
    · exact h2 h
theorem take_low {c : UInt8} (hc : c.toNat < 128) (R : Str) : utfTake (c :: R) = ((c.toNat : Int), 1) := by
  have h2 : utfBegins c.toNat = (1, (c.toNat : Int)) := by unfold utfBegins; rw [if_pos hc]
  have h3 := (small_good c.toNat hc).1
  have h4 : utfSize (c.toNat : Int) = 1 := by unfold utfSize; rw [if_pos (by omega)]
  unfold utfTake
  simp only [h2, List.length_cons]
  rw [if_neg (by omega)]
  simp only [show Int.toNat 1 - 1 = 0 from rfl, takeL]
  rw [if_pos ⟨h3, h4⟩]
theorem scan_asc : ∀ (q : Nat) (s : Str) (p : Int), (∀ b ∈ s, b.toNat < 128) → (utfScan q s p).2 = true
  | 0, _, _, _ => rfl
  | q + 1, [], _, _ => rfl
  | q + 1, c :: cs, p, h => by
    unfold utfScan
    simp only []
    rw [take_low (h c (by simp)) cs, if_neg (by simp)]
    exact scan_asc q _ _ fun b hb => h b (by
      have : b ∈ cs := by simpa using hb
      simp [this])
theorem stamp_str {s : Str} (h : stampOk s = true) : strOk s = true := by
  unfold stampOk at h
  have h := of_decide_eq_true h
  unfold strOk
  rw [Bool.and_eq_true, decide_eq_true_eq]
  exact ⟨by omega, scan_asc _ _ _ fun b hb => by have := h.2.2 b hb; omega⟩
def skipB (u : Str) : Str := u.dropWhile (blanksB.contains ·)
theorem skip_drop (u : Str) : u.drop (whileL u blanksB) = skipB u := by
  unfold skipB whileL
  induction u with
  | nil => rfl
  | cons b u ih =>
    rw [List.takeWhile_cons, List.dropWhile_cons]
    split
    · simpa using ih
    · rfl
theorem skip_line (d : Int) (X : Str) : skipB (lineL d ++ X) = skipB X := by
  have hrep : ∀ n : Nat, skipB (Lib.repeatL [32, 32] n ++ X) = skipB X := by
    intro n
    induction n with
    | zero => rfl
    | succ n ih =>
      show skipB ((32 : UInt8) :: 32 :: (Lib.repeatL [32, 32] n ++ X)) = _
      unfold skipB at ih ⊢
      rw [List.dropWhile_cons, if_pos (by decide), List.dropWhile_cons, if_pos (by decide)]
      exact ih
  unfold lineL
  split
  · rfl
  · have := hrep d.toNat
    unfold skipB at this ⊢
    rw [List.cons_append, List.dropWhile_cons, if_pos (by decide)]
    exact this
theorem skip_ne {c : UInt8} (X : Str) (h : blanksB.contains c = false) : skipB (c :: X) = c :: X := by
  unfold skipB
  rw [List.dropWhile_cons, if_neg (by rw [h]; decide)]
inductive LexTo (W : Str) : Str → List (Int × Str) → Prop
  | nil : LexTo W W []
  | cons {u v : Str} {k : Int} {s : Str} {ws : List (Int × Str)} (h : Tok u k s v) (hne : u ≠ []) (r : LexTo W (skipB v) ws) : LexTo W u ((k, s) :: ws)
abbrev Lexes : Str → List (Int × Str) → Prop := LexTo []
def kp (w : Wd) : Int × Str := (w.k, w.s)
theorem cutL_to {W u : Str} {ws : List (Int × Str)} (h : LexTo W u ws) : ∀ (q : Nat) (t : Str) (a : Nat) (acc : List Wd), t.drop a = u → a ≤ t.length → t.length < q + a →
    ∃ l b p, cutL q t a acc = cutL p t b (acc ++ l) ∧ l.map kp = ws ∧ t.drop b = W ∧ b ≤ t.length ∧ a ≤ b ∧ t.length < p + b := by
  induction h with
  | nil =>
    intro q t a acc h ha hq
    exact ⟨[], a, q, by simp, rfl, h, ha, Nat.le_refl _, hq⟩
  | @cons u v k s ws ht hne r ih =>
    intro q t a acc h ha hq
    obtain ⟨q, rfl⟩ : ∃ p, q = p + 1 := ⟨q - 1, by
      have hl := congrArg List.length h
      have : 0 < u.length := List.length_pos_iff.2 hne
      rw [List.length_drop] at hl
      omega⟩
    have hlt : a < t.length := by
      have hl := congrArg List.length h
      have : 0 < u.length := List.length_pos_iff.2 hne
      rw [List.length_drop] at hl
      omega
    obtain ⟨b, h1, h2, h3, h4⟩ := ht t a hlt h
    have hw := whileL_le (t.drop b) blanksB
    rw [List.length_drop] at hw
    obtain ⟨l, c, p, e1, e2, e3, e4, e5, e6⟩ := ih q t (b + whileL (t.drop b) blanksB) (acc ++ [⟨k, s, a⟩]) (by rw [← List.drop_drop, skip_drop, h4]) (by omega) (by omega)
    refine ⟨⟨k, s, a⟩ :: l, c, p, ?_, by simp [kp, e2], e3, e4, by omega, e6⟩
    rw [cutL, if_neg (by omega), h1]
    simp only [ne_eq, not_true_eq_false, if_false, Int.toNat_natCast]
    rw [e1]
    simp
theorem cutL_lexes {u : Str} {ws : List (Int × Str)} (h : Lexes u ws) (q : Nat) (t : Str) (a : Nat) (acc : List Wd) (h0 : t.drop a = u) (ha : a ≤ t.length) (hq : t.length < q + a) : ∃ l, cutL q t a acc = (acc ++ l, 0, 0) ∧ l.map kp = ws := by
  obtain ⟨l, b, p, e1, e2, e3, e4, e5, e6⟩ := cutL_to h q t a acc h0 ha hq
  obtain ⟨p, rfl⟩ : ∃ r, p = r + 1 := ⟨p - 1, by omega⟩
  have hl := congrArg List.length e3
  rw [List.length_drop] at hl
  simp only [List.length_nil] at hl
  exact ⟨l, by rw [e1, cutL, if_pos (by omega)], e2⟩
mutual
def wordsT : Tree → List (Int × Str)
  | .mk k n s l m => if k = 0 then [(4, [110, 117, 108, 108])] else if k = 1 then [(4, if n = 1 then [116, 114, 117, 101] else [102, 97, 108, 115, 101])] else
    if k = 2 then [(3, Lib.itoa n)] else if k = 3 then [(3, s)] else if k = 4 ∨ k = 7 then [(2, s)] else
    if k = 6 then (1, [123]) :: (wordsM true m ++ [(1, [125])]) else (1, [91]) :: (wordsL true l ++ [(1, [93])])
def wordsL : Bool → List Tree → List (Int × Str)
  | _, [] => []
  | f, t :: l => (if f = true then [] else [(1, [44])]) ++ (wordsT t ++ wordsL false l)
def wordsM : Bool → List (Str × Tree) → List (Int × Str)
  | _, [] => []
  | f, p :: m => (if f = true then [] else [(1, [44])]) ++ (wordsP p ++ wordsM false m)
def wordsP : Str × Tree → List (Int × Str)
  | (k, t) => (2, k) :: (1, [58]) :: wordsT t
end
theorem wordsT_eq (t : Tree) : wordsT t = if t.kind = 0 then [(4, [110, 117, 108, 108])] else if t.kind = 1 then [(4, if t.n = 1 then [116, 114, 117, 101] else [102, 97, 108, 115, 101])] else
    if t.kind = 2 then [(3, Lib.itoa t.n)] else if t.kind = 3 then [(3, t.s)] else if t.kind = 4 ∨ t.kind = 7 then [(2, t.s)] else
    if t.kind = 6 then (1, [123]) :: (wordsM true t.m ++ [(1, [125])]) else (1, [91]) :: (wordsL true t.l ++ [(1, [93])]) := by cases t; rw [wordsT]; rfl
theorem digits_head : ∀ n : Nat, n ≠ 0 → ∃ c y, Lib.decDigits n = c :: y ∧ c ≠ 48 := by
  intro n
  induction n using Nat.strongRecOn with
  | ind n ih =>
    intro h
    rw [Lib.decDigits]
    split
    · rename_i h1
      refine ⟨_, _, rfl, ?_⟩
      intro e
      have := congrArg UInt8.toNat e
      rw [UInt8.toNat_ofNat'] at this
      simp at this
      omega
    · obtain ⟨c, y, e, hc⟩ := ih (n / 10) (by omega) (by omega)
      rw [e]
      exact ⟨c, _, rfl, hc⟩
theorem run_dig {s : Str} (h : ∀ b ∈ s, dig b = true) : runL s = s.length := by
  induction s with
  | nil => rfl
  | cons b s ih => rw [runL, if_pos (h b (by simp)), ih fun x hx => h x (by simp [hx]), List.length_cons]
theorem digits_len : ∀ (k n : Nat), n < 10 ^ k → 0 < k → (Lib.decDigits n).length ≤ k
  | 0, _, _, h => by omega
  | k + 1, n, h, _ => by
    rw [Lib.decDigits]
    split
    · simp
    · rename_i h1
      rw [List.length_append]
      have := digits_len k (n / 10) (by rw [Nat.pow_succ] at h; omega) (by
        rcases k with _ | k
        · simp at h; omega
        · omega)
      simpa using this
theorem partsB_digits (neg : Bool) (n : Nat) : partsB neg (Lib.decDigits n) = (neg, Lib.decDigits n, [], [], true) := by
  have hr := run_dig (digits_dig n)
  unfold partsB
  rw [hr, if_neg, List.take_length, List.drop_length]
  · unfold partsC partsD
    simp
  · rintro (h | ⟨h1, h2⟩)
    · exact digits_ne n (List.eq_nil_of_length_eq_zero h)
    · rw [List.take_length] at h2
      by_cases h0 : n = 0
      · subst h0; rw [Lib.decDigits, dif_pos (by omega)] at h1; simp at h1
      · obtain ⟨c, y, e, hc⟩ := digits_head n h0
        rw [e] at h2
        exact hc (UInt8.toNat_inj.1 (by rw [show c.toNat = 48 from h2]; decide))
theorem numL_of {s : Str} {neg : Bool} {w : Str} (h : numParts s = (neg, w, [], [], true)) (hl : s.length ≤ 400) : numL s = true := by
  unfold numL formL
  rw [h]
  simp [powerL, powL, hl]
theorem numL_itoa {z : Int} (h0 : -9223372036854775808 ≤ z) (h1 : z ≤ 9223372036854775807) : numL (Lib.itoa z) = true := by
  by_cases h : 0 ≤ z
  · obtain ⟨u, rfl⟩ := Int.eq_ofNat_of_zero_le h
    rw [Lib.itoa_nonneg]
    refine numL_of (neg := false) (w := Lib.decDigits u) ?_ (Nat.le_trans (digits_len 19 u (by omega) (by omega)) (by omega))
    unfold numParts
    rw [if_neg, partsB_digits]
    rintro ⟨h2, h3⟩
    cases he : Lib.decDigits u with
    | nil => exact digits_ne u he
    | cons c y =>
      have hd := digits_dig u c (by rw [he]; simp)
      rw [he] at h3
      unfold dig at hd
      have := of_decide_eq_true hd
      have h4 : c.toNat = 45 := h3
      omega
  · obtain ⟨u, hu⟩ := Int.eq_ofNat_of_zero_le (show 0 ≤ -z by omega)
    rw [show z = -(u : Int) by omega, Lib.itoa_neg u (by omega)]
    refine numL_of (neg := true) (w := Lib.decDigits u) ?_ ?_
    · unfold numParts
      rw [if_pos ⟨by simp, rfl⟩]
      exact partsB_digits true u
    · have := digits_len 19 u (by omega) (by omega)
      simp only [List.length_cons]
      omega
def LexAt (t : Tree) : Prop := ∀ (W : Str) (d : Int) (R : Str) (ws : List (Int × Str)), goodT t = true → TailR R → LexTo W (skipB R) ws → LexTo W (printT t d ++ R) (wordsT t ++ ws)
theorem skip_sign (c : UInt8) (X : Str) (h : signs.contains c = true) : skipB (c :: X) = c :: X := by
  refine skip_ne X ?_
  have key : ∀ n : Nat, n < 256 → signs.contains n.toUInt8 = true → blanksB.contains n.toUInt8 = false := by decide +kernel
  have := key c.toNat (UInt8.toNat_lt c)
  rw [show c.toNat.toUInt8 = c by simp] at this
  exact this h
theorem LexTo.sign {W : Str} (c : UInt8) {X : Str} {ws : List (Int × Str)} (h : signs.contains c = true) (r : LexTo W (skipB X) ws) : LexTo W (c :: X) ((1, [c]) :: ws) :=
  .cons (tok_sign c X h) (by simp) r
theorem print_skip {t : Tree} (hg : goodT t = true) (d : Int) (X : Str) : skipB (printT t d ++ X) = printT t d ++ X := by
  obtain ⟨h1, h2, _⟩ := goodT_spec hg
  have key : ∀ {Y : Str}, (∃ a y, Y = a :: y ∧ blanksB.contains a = false) → skipB (Y ++ X) = Y ++ X := by
    rintro Y ⟨a, y, rfl, h⟩
    exact skip_ne _ h
  have hnum : ∀ {Y : Str}, numL Y = true → ∃ a y, Y = a :: y ∧ blanksB.contains a = false := by
    intro Y hY
    obtain ⟨c, y, e, hc⟩ := num_first hY
    refine ⟨c, y, e, ?_⟩
    rcases hc with rfl | hc
    · decide
    · have key : ∀ n : Nat, n < 256 → dig n.toUInt8 = true → blanksB.contains n.toUInt8 = false := by decide +kernel
      have := key c.toNat (UInt8.toNat_lt c)
      rw [show c.toNat.toUInt8 = c by simp] at this
      exact this hc
  refine key ?_
  rw [printT_eq]
  split
  · exact ⟨_, _, rfl, by decide⟩
  split
  · split <;> exact ⟨_, _, rfl, by decide⟩
  split
  · rename_i hk
    obtain ⟨_, _, hr, _⟩ := goodT_spec hg
    exact hnum (numL_itoa hr.1 hr.2)
  split
  · rename_i hk
    rw [hk] at h2
    refine hnum ?_
    unfold nodeOk at h2
    rw [if_neg (by omega), if_neg (by omega), if_pos rfl, Bool.and_eq_true] at h2
    exact h2.1
  split
  · exact ⟨_, _, rfl, by decide⟩
  split
  · split <;> exact ⟨_, _, rfl, by decide⟩
  · split <;> exact ⟨_, _, rfl, by decide⟩
theorem lexL {W : Str} (d' d : Int) (R : Str) (ws : List (Int × Str)) (hws : LexTo W (skipB R) ws) : ∀ (l : List Tree) (f : Bool), (∀ x ∈ l, LexAt x ∧ goodT x = true) →
    LexTo W (skipB (printL f l d' ++ (lineL d ++ 93 :: R))) (wordsL f l ++ (1, [93]) :: ws)
  | [], f, _ => by
    show LexTo W (skipB (lineL d ++ 93 :: R)) ((1, [93]) :: ws)
    rw [skip_line, skip_sign 93 R (by decide)]
    exact .sign 93 (by decide) hws
  | x :: l, f, h => by
    obtain ⟨hx, hg⟩ := h x (by simp)
    have ih := lexL d' d R ws hws l false fun y hy => h y (by simp [hy])
    have h1 := hx W d' (printL false l d' ++ (lineL d ++ 93 :: R)) _ hg (tail_L d' d 93 (.inl rfl) R l) ih
    rw [printL, wordsL]
    cases f with
    | true =>
      rw [if_pos rfl, if_pos rfl, List.nil_append, List.nil_append, List.append_assoc, skip_line, List.append_assoc, print_skip hg, List.append_assoc]
      exact h1
    | false =>
      rw [if_neg (by decide), if_neg (by decide)]
      show LexTo W (skipB (44 :: (lineL d' ++ (printT x d' ++ printL false l d') ++ (lineL d ++ 93 :: R)))) ((1, [44]) :: (wordsT x ++ wordsL false l ++ (1, [93]) :: ws))
      rw [skip_sign 44 _ (by decide)]
      refine .sign 44 (by decide) ?_
      rw [List.append_assoc, skip_line, List.append_assoc, print_skip hg, List.append_assoc]
      exact h1
theorem lexM {W : Str} (d' d : Int) (R : Str) (ws : List (Int × Str)) (hws : LexTo W (skipB R) ws) : ∀ (l : List (Str × Tree)) (f : Bool), (∀ x ∈ l, LexAt x.2 ∧ strOk x.1 = true ∧ goodT x.2 = true) →
    LexTo W (skipB (printM f l d' ++ (lineL d ++ 125 :: R))) (wordsM f l ++ (1, [125]) :: ws)
  | [], f, _ => by
    show LexTo W (skipB (lineL d ++ 125 :: R)) ((1, [125]) :: ws)
    rw [skip_line, skip_sign 125 R (by decide)]
    exact .sign 125 (by decide) hws
  | (k, x) :: l, f, h => by
    obtain ⟨hx, hk, hg⟩ := h (k, x) (by simp)
    have ih := lexM d' d R ws hws l false fun y hy => h y (by simp [hy])
    have h1 := hx W d' (printM false l d' ++ (lineL d ++ 125 :: R)) _ hg (tail_M d' d 125 (.inr rfl) R l) ih
    have h2 : LexTo W (quoteS k ++ (colonL d' ++ (printT x d' ++ (printM false l d' ++ (lineL d ++ 125 :: R))))) ((2, k) :: (1, [58]) :: (wordsT x ++ (wordsM false l ++ (1, [125]) :: ws))) := by
      refine .cons (tok_str k _ hk) (by simp [quoteS]) ?_
      have hc : skipB (colonL d' ++ (printT x d' ++ (printM false l d' ++ (lineL d ++ 125 :: R)))) = colonL d' ++ (printT x d' ++ (printM false l d' ++ (lineL d ++ 125 :: R))) := by
        unfold colonL; split <;> exact skip_sign 58 _ (by decide)
      rw [hc]
      unfold colonL
      split
      · refine .sign 58 (by decide) ?_
        show LexTo W (skipB (32 :: (printT x d' ++ _))) _
        have : ∀ Y, skipB (32 :: Y) = skipB Y := fun Y => by unfold skipB; rw [List.dropWhile_cons, if_pos (by decide)]
        rw [this, print_skip hg]
        exact h1
      · refine .sign 58 (by decide) ?_
        show LexTo W (skipB (printT x d' ++ _)) _
        rw [print_skip hg]
        exact h1
    have hq : ∀ Y, skipB (quoteS k ++ Y) = quoteS k ++ Y := fun Y => by unfold quoteS; exact skip_ne _ (by decide)
    rw [printM, wordsM, printP, wordsP]
    cases f with
    | true =>
      rw [if_pos rfl, if_pos rfl, List.nil_append, List.nil_append, List.append_assoc, skip_line]
      simp only [List.append_assoc, List.cons_append] at h2 ⊢
      rw [hq]
      exact h2
    | false =>
      rw [if_neg (by decide), if_neg (by decide)]
      simp only [List.append_assoc, List.cons_append, List.nil_append] at h2 ⊢
      rw [skip_sign 44 _ (by decide)]
      refine .sign 44 (by decide) ?_
      rw [skip_line, hq]
      exact h2
theorem lex_box {t : Tree} (hk : t.kind = 5 ∨ t.kind = 6) (hl : ∀ x ∈ t.l, LexAt x) (hm : ∀ x ∈ t.m, LexAt x.2) (hg : goodT t = true) {W : Str} (d : Int) {R : Str} {ws : List (Int × Str)} (hws : LexTo W (skipB R) ws) : LexTo W (printT t d ++ R) (wordsT t ++ ws) := by
  obtain ⟨h1, h2, hr, gl, gm⟩ := goodT_spec hg
  rw [printT_eq, wordsT_eq]
  split
  · omega
  split
  · omega
  split
  · omega
  split
  · omega
  split
  · omega
  split
  · split
    · rename_i h0
      have : t.m = [] := List.eq_nil_of_length_eq_zero h0
      rw [this]
      refine .sign 123 (by decide) ?_
      show LexTo W (skipB (125 :: R)) _
      rw [skip_sign 125 R (by decide)]
      exact .sign 125 (by decide) hws
    · have := lexM (deeper d) d R ws hws t.m true fun x hx => ⟨hm x hx, gm x hx⟩
      simp only [List.cons_append, List.append_assoc, List.nil_append] at this ⊢
      exact .sign 123 (by decide) this
  · split
    · rename_i h0
      have : t.l = [] := List.eq_nil_of_length_eq_zero h0
      rw [this]
      refine .sign 91 (by decide) ?_
      show LexTo W (skipB (93 :: R)) _
      rw [skip_sign 93 R (by decide)]
      exact .sign 93 (by decide) hws
    · have := lexL (deeper d) d R ws hws t.l true fun x hx => ⟨hl x hx, gl x hx⟩
      simp only [List.cons_append, List.append_assoc, List.nil_append] at this ⊢
      exact .sign 91 (by decide) this
theorem lex_tree : ∀ t : Tree, LexAt t := by
  refine Tree.ind fun t hl hm W d R ws hg hR hws => ?_
  by_cases hbox : t.kind = 5 ∨ t.kind = 6
  · exact lex_box hbox hl hm hg d hws
  obtain ⟨h1, h2, hr, gl, gm⟩ := goodT_spec hg
  rw [printT_eq, wordsT_eq]
  split
  · exact .cons (tok_word _ R (.inl rfl) hR) (by simp) hws
  split
  · split
    · exact .cons (tok_word _ R (.inr (.inl rfl)) hR) (by simp) hws
    · exact .cons (tok_word _ R (.inr (.inr rfl)) hR) (by simp) hws
  split
  · have hn := numL_itoa hr.1 hr.2
    refine .cons (tok_num _ R hn hR) ?_ hws
    have := itoa_ne t.n
    simp [this]
  split
  · rename_i hk
    rw [hk] at h2
    unfold nodeOk at h2
    rw [if_neg (by omega), if_neg (by omega), if_pos rfl, Bool.and_eq_true] at h2
    refine .cons (tok_num _ R h2.1 hR) ?_ hws
    have := numL_ne h2.1
    simp [this]
  split
  · rename_i hk
    refine .cons (tok_str _ R ?_) (by simp [quoteS]) hws
    rcases hk with hk | hk
    · rw [hk] at h2
      unfold nodeOk at h2
      rwa [if_neg (by omega), if_neg (by omega), if_neg (by omega), if_pos rfl] at h2
    · rw [hk] at h2
      unfold nodeOk at h2
      rw [if_neg (by omega), if_neg (by omega), if_neg (by omega), if_neg (by omega), if_pos rfl] at h2
      exact stamp_str h2
  split
  · omega
  · unfold nodeOk at h2
    rw [if_neg (by omega), if_neg (by omega), if_neg (by omega), if_neg (by omega), if_neg (by omega), decide_eq_true_eq] at h2
    omega
theorem bless_iff : ∀ (x y : Str), Op.bytesLess x y = true ↔ x < y
  | x, [] => by cases x <;> simp [Op.bytesLess]
  | [], b :: y => by simp [Op.bytesLess]
  | a :: x, b :: y => by
    have ih := bless_iff x y
    rw [List.cons_lt_cons_iff, Op.bytesLess, Bool.or_eq_true, Bool.and_eq_true, decide_eq_true_eq, beq_iff_eq, ih]
theorem leqS_iff (x y : Str) : leqS x y = true ↔ x ≤ y := by
  unfold leqS
  rw [Bool.or_eq_true, bless_iff, decide_eq_true_eq]
  constructor
  · rintro (h | rfl)
    · exact List.le_of_lt h
    · exact List.le_refl _
  · intro h
    by_cases e : x = y
    · exact .inr e
    · left
      by_cases hl : x < y
      · exact hl
      · exact absurd (List.le_antisymm h (List.not_lt.1 hl)) e
def Up (m : List (Str × Tree)) : Prop := m.Pairwise fun p q => p.1 < q.1
theorem sortP_up {m : List (Str × Tree)} (h : Up m) : sortP m = m := by
  induction m with
  | nil => rfl
  | cons p m ih =>
    obtain ⟨h1, h2⟩ := List.pairwise_cons.1 h
    rw [sortP, ih h2]
    cases m with
    | nil => rfl
    | cons q m => rw [insK, if_pos ((leqS_iff _ _).2 (List.le_of_lt (h1 q (by simp))))]
theorem plainM_up : ∀ (m : List (Str × Tree)) (o : Option Str), plainM o m = true → Up m ∧ (∀ p ∈ m, ∀ k, o = some k → k < p.1)
  | [], o, _ => ⟨List.Pairwise.nil, by simp⟩
  | (k, t) :: m, o, h => by
    simp only [plainM, plainP, Bool.and_eq_true] at h
    obtain ⟨h1, h2⟩ := plainM_up m (some k) h.2
    have h3 : ∀ j, o = some j → j < k := by
      intro j hj
      subst hj
      have h3 := h.1.2.1
      simp only [Bool.not_eq_true', ← Bool.not_eq_true, leqS_iff] at h3
      exact List.not_le.1 h3
    refine ⟨List.pairwise_cons.2 ⟨fun p hp => h2 p hp k rfl, h1⟩, fun p hp j hj => ?_⟩
    rcases List.mem_cons.1 hp with rfl | hp
    · exact h3 j hj
    · exact List.lt_trans (h3 j hj) (h2 p hp k rfl)
mutual
def unst : Tree → Tree
  | .mk k n s l m => .mk (if k = 7 then 4 else k) n s (unstL l) (unstM m)
def unstL : List Tree → List Tree
  | [] => []
  | t :: l => unst t :: unstL l
def unstM : List (Str × Tree) → List (Str × Tree)
  | [] => []
  | p :: m => unstP p :: unstM m
def unstP : Str × Tree → Str × Tree
  | (k, t) => (k, unst t)
end
theorem unst_eq (t : Tree) : unst t = .mk (if t.kind = 7 then 4 else t.kind) t.n t.s (unstL t.l) (unstM t.m) := by cases t; rw [unst]; rfl
theorem unstM_keys : ∀ m : List (Str × Tree), (unstM m).map (·.1) = m.map (·.1)
  | [] => rfl
  | (k, t) :: m => by rw [unstM, unstP, List.map_cons, List.map_cons, unstM_keys m]
theorem unstM_up {m : List (Str × Tree)} (h : Up m) : Up (unstM m) := by
  have e := unstM_keys m
  unfold Up at h ⊢
  have h' : (m.map (·.1)).Pairwise (· < ·) := List.pairwise_map.2 h
  rw [← e] at h'
  exact List.pairwise_map.1 h'
theorem wd_cons {ws : List Wd} {i : Nat} {k : Int} {s : Str} {r : List (Int × Str)} (h : (ws.drop i).map kp = (k, s) :: r) : (wdAt ws i).k = k ∧ (wdAt ws i).s = s ∧ (ws.drop (i + 1)).map kp = r := by
  cases hd : ws.drop i with
  | nil => rw [hd] at h; simp at h
  | cons w l =>
    rw [hd, List.map_cons] at h
    injection h with h1 h2
    have h3 : ws[i]? = some w := by
      have := congrArg (·[0]?) hd
      simpa using this
    have h4 : ws.drop (i + 1) = l := by rw [← List.drop_drop, hd]; rfl
    unfold wdAt
    rw [h3, h4]
    unfold kp at h1
    injection h1 with h5 h6
    exact ⟨h5, h6, h2⟩
theorem wd_app {ws : List Wd} : ∀ {u r : List (Int × Str)} {i : Nat}, (ws.drop i).map kp = u ++ r → (ws.drop (i + u.length)).map kp = r
  | [], r, i, h => h
  | (k, s) :: u, r, i, h => by
    have := wd_app (u := u) (wd_cons h).2.2
    rw [show i + ((k, s) :: u).length = i + 1 + u.length by simp; omega]
    exact this
theorem isS_at {ws : List Wd} {i : Nat} {k : Int} {s : Str} {r : List (Int × Str)} (h : (ws.drop i).map kp = (k, s) :: r) (x : Str) : isS (wdAt ws i) x = decide (k = 1 ∧ s = x) := by
  obtain ⟨h1, h2, _⟩ := wd_cons h
  unfold isS
  rw [h1, h2]
theorem words_head {t : Tree} : ∃ k s r, wordsT t = (k, s) :: r ∧ ¬ k = 0 ∧ (k = 1 → s = [123] ∨ s = [91]) := by
  rw [wordsT_eq]
  repeat' split
  all_goals refine ⟨_, _, _, rfl, by decide, fun h => ?_⟩
  all_goals first
    | exact absurd h (by decide)
    | exact .inl rfl
    | exact .inr rfl
def ReadAt (t : Tree) : Prop := ∀ (q : Nat) (ws : List Wd) (d : Int) (i : Nat) (n : Int) (rest : List (Int × Str)), goodT t = true → (ws.drop i).map kp = wordsT t ++ rest → 3 * (wordsT t).length ≤ q →
  n + t.nodes ≤ 4096 → d + t.depth ≤ 33 → valR q ws d i n = .ok (unst t, i + (wordsT t).length, n + t.nodes)
theorem read_items (ws : List Wd) (d : Int) (rest : List (Int × Str)) : ∀ (l : List Tree) (x : Tree) (acc : List Tree) (q i : Nat) (n : Int), (∀ y ∈ x :: l, ReadAt y ∧ goodT y = true ∧ d + 1 + y.depth ≤ 33) →
    (ws.drop i).map kp = wordsT x ++ (wordsL false l ++ (1, [93]) :: rest) → 3 * ((wordsT x).length + (wordsL false l).length) + 1 ≤ q → n + x.nodes + Tree.nodesL l ≤ 4096 →
    itemsR q ws d i n acc = .ok (.mk 5 0 [] (acc ++ unst x :: unstL l) [], i + (wordsT x).length + (wordsL false l).length + 1, n + x.nodes + Tree.nodesL l)
  | [], x, acc, q, i, n, hy, h, hq, hn => by
    obtain ⟨h1, h2, h3⟩ := hy x (by simp)
    obtain ⟨q, rfl⟩ : ∃ p, q = p + 1 := ⟨q - 1, by omega⟩
    simp only [wordsL, List.nil_append, List.length_nil, Tree.nodesL] at h hq hn ⊢
    rw [itemsR, h1 q ws (d + 1) i n _ h2 h (by omega) (by omega) h3]
    have hz := wd_app h
    simp only []
    rw [isS_at hz, if_pos (by decide)]
    simp [unstL]
  | y :: l, x, acc, q, i, n, hy, h, hq, hn => by
    obtain ⟨h1, h2, h3⟩ := hy x (by simp)
    obtain ⟨q, rfl⟩ : ∃ p, q = p + 1 := ⟨q - 1, by omega⟩
    rw [wordsL, if_neg (by decide)] at h hq ⊢
    simp only [List.append_assoc, List.cons_append, List.nil_append, List.length_append, List.length_cons, List.length_nil, Tree.nodesL] at h hq hn ⊢
    rw [itemsR, h1 q ws (d + 1) i n _ h2 h (by omega) (by omega) h3]
    have hz := wd_app h
    have hc := (wd_cons hz).2.2
    simp only []
    rw [isS_at hz, if_neg (by decide), isS_at hz, if_pos (by decide)]
    rw [read_items ws d rest l y (acc ++ [unst x]) q _ _ (fun z hz => hy z (by simp at hz ⊢; exact .inr hz)) hc (by omega) (by omega)]
    refine congrArg Except.ok (Prod.ext ?_ (Prod.ext ?_ ?_))
    · simp [unstL]
    · simp only []; omega
    · simp only []; omega
theorem hasK_no {acc : List (Str × Tree)} {k : Str} (h : ∀ p ∈ acc, p.1 ≠ k) : hasK acc k = false := by
  unfold hasK
  rw [List.any_eq_false]
  intro p hp
  simpa using h p hp
theorem read_entries (ws : List Wd) (d : Int) (rest : List (Int × Str)) : ∀ (m : List (Str × Tree)) (k : Str) (x : Tree) (acc : List (Str × Tree)) (q i : Nat) (n : Int), (∀ y ∈ (k, x) :: m, ReadAt y.2 ∧ goodT y.2 = true ∧ d + 1 + y.2.depth ≤ 33) →
    Up (acc ++ (k, x) :: m) → (ws.drop i).map kp = (2, k) :: (1, [58]) :: (wordsT x ++ (wordsM false m ++ (1, [125]) :: rest)) → 3 * ((wordsT x).length + (wordsM false m).length + 2) + 1 ≤ q → n + x.nodes + Tree.nodesM m ≤ 4096 →
    ∀ acc' : List (Str × Tree), acc'.map (·.1) = acc.map (·.1) →
    entriesR q ws d i n acc' = .ok (.mk 6 0 [] [] (sortP (acc' ++ (k, unst x) :: unstM m)), i + 2 + (wordsT x).length + (wordsM false m).length + 1, n + x.nodes + Tree.nodesM m)
  | [], k, x, acc, q, i, n, hy, hup, h, hq, hn, acc', he => by
    obtain ⟨h1, h2, h3⟩ : ReadAt x ∧ goodT x = true ∧ d + 1 + x.depth ≤ 33 := hy (k, x) (by simp)
    obtain ⟨q, rfl⟩ : ∃ p, q = p + 1 := ⟨q - 1, by omega⟩
    simp only [wordsM, List.nil_append, List.length_nil, Tree.nodesM] at h hq hn ⊢
    obtain ⟨w1, w2, w3⟩ := wd_cons h
    have w4 := (wd_cons w3).2.2
    have hno : hasK acc' k = false := hasK_no fun p hp => by
      have : p.1 ∈ acc.map (·.1) := he ▸ List.mem_map_of_mem hp
      obtain ⟨p', hp', e⟩ := List.mem_map.1 this
      rw [← e]
      have := (List.pairwise_append.1 hup).2.2 p' hp' (k, x) (by simp)
      exact fun e => absurd this (by rw [e]; exact List.lt_irrefl _)
    rw [entriesR, w1, if_neg (by decide), w2, hno, if_neg (by decide), isS_at w3, if_neg (by decide), h1 q ws (d + 1) (i + 2) n _ h2 w4 (by omega) (by omega) h3]
    have hz := wd_app w4
    simp only []
    rw [show i + 2 + (wordsT x).length = i + 1 + 1 + (wordsT x).length by omega, isS_at hz, if_pos (by decide)]
    simp [unstM]
  | (k', y) :: m, k, x, acc, q, i, n, hy, hup, h, hq, hn, acc', he => by
    obtain ⟨h1, h2, h3⟩ : ReadAt x ∧ goodT x = true ∧ d + 1 + x.depth ≤ 33 := hy (k, x) (by simp)
    obtain ⟨q, rfl⟩ : ∃ p, q = p + 1 := ⟨q - 1, by omega⟩
    rw [wordsM, if_neg (by decide), wordsP] at h hq ⊢
    simp only [List.append_assoc, List.cons_append, List.nil_append, List.length_append, List.length_cons, List.length_nil, Tree.nodesM, Tree.nodesP] at h hq hn ⊢
    obtain ⟨w1, w2, w3⟩ := wd_cons h
    have w4 := (wd_cons w3).2.2
    have hno : hasK acc' k = false := hasK_no fun p hp => by
      have : p.1 ∈ acc.map (·.1) := he ▸ List.mem_map_of_mem hp
      obtain ⟨p', hp', e⟩ := List.mem_map.1 this
      rw [← e]
      have := (List.pairwise_append.1 hup).2.2 p' hp' (k, x) (by simp)
      exact fun e => absurd this (by rw [e]; exact List.lt_irrefl _)
    rw [entriesR, w1, if_neg (by decide), w2, hno, if_neg (by decide), isS_at w3, if_neg (by decide), h1 q ws (d + 1) (i + 2) n _ h2 w4 (by omega) (by omega) h3]
    have hz := wd_app w4
    have hc := (wd_cons hz).2.2
    simp only []
    rw [show i + 2 + (wordsT x).length = i + 1 + 1 + (wordsT x).length by omega, isS_at hz, if_neg (by decide), isS_at hz, if_pos (by decide)]
    rw [read_entries ws d rest m k' y (acc ++ [(k, x)]) q _ _ (fun z hz => hy z (by simp at hz ⊢; exact .inr hz)) (by simpa using hup) hc (by omega) (by omega) (acc' ++ [(k, unst x)]) (by simp [he])]
    refine congrArg Except.ok (Prod.ext ?_ (Prod.ext ?_ ?_))
    · simp [unstM, unstP]
    · simp only []; omega
    · simp only []; omega
theorem depthL_mem {l : List Tree} {t : Tree} (h : t ∈ l) : t.depth ≤ Tree.depthL l := by
  induction l with
  | nil => simp at h
  | cons x l ih =>
    rw [Tree.depthL]
    rcases List.mem_cons.1 h with rfl | h
    · omega
    · have := ih h; omega
theorem depthM_mem {l : List (Str × Tree)} {t : Str × Tree} (h : t ∈ l) : t.2.depth ≤ Tree.depthM l := by
  induction l with
  | nil => simp at h
  | cons x l ih =>
    rw [Tree.depthM]
    rcases List.mem_cons.1 h with rfl | h
    · obtain ⟨k, t⟩ := t; rw [Tree.depthP]; simp only []; omega
    · have := ih h; omega
theorem nodes_eq (t : Tree) : t.nodes = 1 + Tree.nodesL t.l + Tree.nodesM t.m := by cases t; rw [Tree.nodes]; rfl
theorem depth_eq (t : Tree) : t.depth = 1 + max (Tree.depthL t.l) (Tree.depthM t.m) := by cases t; rw [Tree.depth]; rfl
theorem goodT_up {t : Tree} (h : goodT t = true) : Up t.m := by
  unfold goodT at h
  rw [Bool.and_eq_true, plainT_eq] at h
  have h1 := h.1
  split at h1
  · cases h1
  · rw [Bool.and_eq_true, Bool.and_eq_true] at h1
    exact (plainM_up t.m none h1.2.2).1
theorem read_tree : ∀ t : Tree, ReadAt t := by
  refine Tree.ind fun t hl hm q ws d i n rest hg h hq hn hd => ?_
  obtain ⟨h1, h2, hr, gl, gm⟩ := goodT_spec hg
  obtain ⟨fn, fs, fl, fm⟩ := own_fields h1
  have hup := goodT_up hg
  rw [nodes_eq] at hn ⊢
  rw [depth_eq] at hd
  rw [wordsT_eq] at h hq ⊢
  rw [unst_eq]
  -- a value of one word
  have one : ∀ (k : Int) (s : Str), (ws.drop i).map kp = (k, s) :: rest → ¬ k = 0 → ¬ k = 1 → 1 ≤ q → t.l = [] → t.m = [] → plainW ⟨k, s, (wdAt ws i).a⟩ = .mk (if t.kind = 7 then 4 else t.kind) t.n t.s (unstL t.l) (unstM t.m) →
      valR q ws d i n = .ok (.mk (if t.kind = 7 then 4 else t.kind) t.n t.s (unstL t.l) (unstM t.m), i + 1, n + ((1 + Tree.nodesL t.l + Tree.nodesM t.m : Nat) : Int)) := by
    intro k s h hk0 hk1 hq e1 e2 e3
    obtain ⟨q, rfl⟩ : ∃ p, q = p + 1 := ⟨q - 1, by omega⟩
    obtain ⟨w1, w2, _⟩ := wd_cons h
    have hw : wdAt ws i = ⟨k, s, (wdAt ws i).a⟩ := by
      generalize wdAt ws i = w at w1 w2 ⊢
      obtain ⟨k', s', a'⟩ := w
      simp only [] at w1 w2
      rw [w1, w2]
    rw [valR, w1, w2, if_neg (by omega), if_neg (by omega), isS_at h, if_neg (by simp [hk1]), isS_at h, if_neg (by simp [hk1]), hw, e3]
    rw [e1, e2]
    simp [Tree.nodesL, Tree.nodesM]
  have lm : t.kind ≠ 5 → t.kind ≠ 6 → t.l = [] ∧ t.m = [] := fun h5 h6 => ⟨fl h5, fm h6⟩
  split at h
  · rename_i hk
    rw [if_pos hk] at hq ⊢
    refine one _ _ h (by decide) (by decide) (by simp at hq; omega) (lm (by omega) (by omega)).1 (lm (by omega) (by omega)).2 ?_
    rw [(lm (by omega) (by omega)).1, (lm (by omega) (by omega)).2, fn (by omega) (by omega), fs (by omega) (by omega) (by omega), hk]
    rfl
  rename_i k0
  rw [if_neg k0] at hq ⊢
  split at h
  · rename_i hk
    rw [if_pos hk] at hq ⊢
    have hz : t.n = 0 ∨ t.n = 1 := by
      rw [hk] at h2
      unfold nodeOk at h2
      rw [if_neg (by omega), if_pos rfl, decide_eq_true_eq] at h2
      exact h2
    refine one _ _ h (by decide) (by decide) (by simp at hq; omega) (lm (by omega) (by omega)).1 (lm (by omega) (by omega)).2 ?_
    rw [(lm (by omega) (by omega)).1, (lm (by omega) (by omega)).2, fs (by omega) (by omega) (by omega), hk]
    rcases hz with hz | hz <;> rw [hz] <;> rfl
  rename_i k1
  rw [if_neg k1] at hq ⊢
  split at h
  · rename_i hk
    rw [if_pos hk] at hq ⊢
    have hnum := numL_itoa hr.1 hr.2
    have hri : refIntL (Lib.itoa t.n) = (t.n, true) := by
      have h3 := refInt_itoa hr hnum
      have h4 := decIntL_eq (Lib.itoa t.n)
      have hp := parse_itoa hr.1 hr.2
      unfold decIntL at h4
      split at h4
      · rw [← h4] at h3; cases h3
      · rw [hp] at h4; exact h4.symm
    refine one _ _ h (by decide) (by decide) (by simp at hq; omega) (lm (by omega) (by omega)).1 (lm (by omega) (by omega)).2 ?_
    rw [(lm (by omega) (by omega)).1, (lm (by omega) (by omega)).2, fs (by omega) (by omega) (by omega), hk]
    unfold plainW
    rw [if_neg (by show ¬ (3 : Int) = 2; decide), if_pos rfl, hri, if_pos rfl]
    rfl
  rename_i k2
  rw [if_neg k2] at hq ⊢
  split at h
  · rename_i hk
    rw [if_pos hk] at hq ⊢
    rw [hk] at h2
    unfold nodeOk at h2
    rw [if_neg (by omega), if_neg (by omega), if_pos rfl, Bool.and_eq_true] at h2
    have h3 : (refIntL t.s).2 = false := by simpa using h2.2
    refine one _ _ h (by decide) (by decide) (by simp at hq; omega) (lm (by omega) (by omega)).1 (lm (by omega) (by omega)).2 ?_
    rw [(lm (by omega) (by omega)).1, (lm (by omega) (by omega)).2, fn (by omega) (by omega), hk]
    unfold plainW
    rw [if_neg (by show ¬ (3 : Int) = 2; decide), if_pos rfl, if_neg (by show ¬ (refIntL t.s).2 = true; rw [h3]; decide)]
    rfl
  rename_i k3
  rw [if_neg k3] at hq ⊢
  split at h
  · rename_i hk
    rw [if_pos hk] at hq ⊢
    refine one _ _ h (by decide) (by decide) (by simp at hq; omega) (lm (by omega) (by omega)).1 (lm (by omega) (by omega)).2 ?_
    rw [(lm (by omega) (by omega)).1, (lm (by omega) (by omega)).2, fn (by omega) (by omega)]
    unfold plainW
    rw [if_pos rfl]
    rcases hk with hk | hk <;> rw [hk] <;> rfl
  rename_i k4
  rw [if_neg k4] at hq ⊢
  have hnode : t.kind = 5 ∨ t.kind = 6 := by
    unfold nodeOk at h2
    rw [if_neg (by omega), if_neg (by omega), if_neg (by omega), if_neg (by omega), if_neg (by omega), decide_eq_true_eq] at h2
    exact h2
  split at h
  · rename_i hk
    rw [if_pos hk] at hq ⊢
    rw [List.cons_append, List.append_assoc] at h
    simp only [List.length_cons, List.length_append, List.length_nil] at hq ⊢
    obtain ⟨q, rfl⟩ : ∃ p, q = p + 3 := ⟨q - 3, by omega⟩
    obtain ⟨w1, w2, w3⟩ := wd_cons h
    rw [valR, w1, w2, if_neg (by decide), if_neg (by omega), isS_at h, if_neg (by decide), isS_at h, if_pos (by decide), pairsR, fl (by omega), fs (by omega) (by omega) (by omega), fn (by omega) (by omega), hk]
    cases hm' : t.m with
    | nil =>
      rw [hm'] at w3
      rw [isS_at w3, if_pos (by decide)]
      simp [wordsM, unstL, unstM, Tree.nodesL, Tree.nodesM]
    | cons p m =>
      obtain ⟨k, x⟩ := p
      rw [hm'] at w3 hn hq hd hup
      rw [wordsM, if_pos rfl, wordsP] at w3 hq
      simp only [List.nil_append, List.append_assoc, List.cons_append, List.length_cons, List.length_append, Tree.nodesM, Tree.nodesP] at w3 hq hn
      rw [isS_at w3, if_neg (by simp)]
      have := read_entries ws d rest m k x [] (q + 1) (i + 1) (n + 1) (fun y hy => ⟨hm y (hm' ▸ hy), (gm y (hm' ▸ hy)).2, by have := depthM_mem hy; omega⟩) hup w3 (by omega) (by rw [fl (by omega)] at hn; simp only [Tree.nodesL] at hn; omega) [] rfl
      have hs : sortP ((k, unst x) :: unstM m) = (k, unst x) :: unstM m := sortP_up (unstM_up hup)
      rw [this, List.nil_append, hs]
      refine congrArg Except.ok (Prod.ext ?_ (Prod.ext ?_ ?_))
      · simp [unstM, unstP, unstL]
      · simp only [wordsM, wordsP, if_true, List.nil_append, List.length_append, List.length_cons]; omega
      · simp only [Tree.nodesL, Tree.nodesM, Tree.nodesP]; omega
  · rename_i hk
    rw [if_neg hk] at hq ⊢
    have hk5 : t.kind = 5 := by omega
    rw [List.cons_append, List.append_assoc] at h
    simp only [List.length_cons, List.length_append, List.length_nil] at hq ⊢
    obtain ⟨q, rfl⟩ : ∃ p, q = p + 3 := ⟨q - 3, by omega⟩
    obtain ⟨w1, w2, w3⟩ := wd_cons h
    rw [valR, w1, w2, if_neg (by decide), if_neg (by omega), isS_at h, if_pos (by decide), listR, fm (by omega), fs (by omega) (by omega) (by omega), fn (by omega) (by omega), hk5]
    cases hl' : t.l with
    | nil =>
      rw [hl'] at w3
      rw [isS_at w3, if_pos (by decide)]
      simp [wordsL, unstL, unstM, Tree.nodesL, Tree.nodesM]
    | cons x l =>
      rw [hl'] at w3 hn hq hd
      rw [wordsL, if_pos rfl] at w3 hq
      simp only [List.nil_append, List.append_assoc, List.length_append, Tree.nodesL] at w3 hq hn
      obtain ⟨k, s, r, e, _, hs⟩ := words_head (t := x)
      rw [isS_at (by rw [w3, e]; rfl), if_neg (by
        rw [decide_eq_true_eq]
        rintro ⟨a, b⟩
        rcases hs a with h | h <;> rw [h] at b <;> exact absurd b (by decide))]
      have := read_items ws d rest l x [] (q + 1) (i + 1) (n + 1) (fun y hy => ⟨hl y (hl' ▸ hy), gl y (hl' ▸ hy), by have := depthL_mem hy; omega⟩) w3 (by omega) (by rw [fm (by omega)] at hn; simp only [Tree.nodesM] at hn; omega)
      rw [this, List.nil_append]
      refine congrArg Except.ok (Prod.ext ?_ (Prod.ext ?_ ?_))
      · simp [unstL, unstM]
      · simp only [wordsL, if_true, List.nil_append, List.length_append]; omega
      · simp only [Tree.nodesL, Tree.nodesM]; omega
end Go.Am
end

section
namespace Go.Am
open Go Go.Maps Go.WideAt Go.MapKept Go.WideShapes
open Go.WideElems (Fit rd rg)
theorem keyOf_string {P : Program} {K : TypeId} (hK : P.underlying K = some .string) {s : ByteArray} (h : s.size ≤ maxLen) : keyOf P K (.string s) = some (.string s.data.toList) := by
  simp [keyOf, hK, mapKey, h]
section
variable {P : Program} {B : Nat → Prop} {L : Loc} {w : World}
theorem own_of_mp {K : TypeId} {n : Nat} {ss : List (List UInt8)} {vs : MV} (hK : P.underlying K = some .string) (h : HRel B L w n (.mp (ss.map .str) vs)) (hnd : ss.Nodup) (hlen : ss.length ≤ maxLen) (hstr : ∀ s ∈ ss, s.length ≤ maxLen) :
    ∃ D0 : DataW Unit, w.ownsMap P K (fun _ => some (.nil, [])) (L.blk n) ss.length D0 ∧ Maps.size D0 = ss.length ∧ (strKeys D0).Perm ss := by
  cases h with
  | mp _ _ ms clock hw hl hlv hk hv hn =>
    rw [List.length_map] at hl
    have hkey : ∀ (i : Nat) (e : MapEntry), ms[i]? = some e → ∃ s, ss[i]? = some s ∧ e.key = .string ⟨s.toArray⟩ ∧ e.born < clock := by
      intro i e he
      have hi : i < ms.size := (Array.getElem?_eq_some_iff.1 he).1
      have hs : ss[i]? = some ss[i] := by simp [show i < ss.length by omega]
      have := hk i (.str ss[i]) e (by rw [List.getElem?_map, hs]; rfl) he
      refine ⟨ss[i], hs, ?_, this.2⟩
      have h1 := this.1
      generalize e.key = kv at h1
      cases h1
      rfl
    have hkeys : ms.toList.map (·.key) = ss.map fun s => Value.string ⟨s.toArray⟩ := by
      apply List.ext_getElem?
      intro i
      rw [List.getElem?_map, List.getElem?_map]
      cases he : ms[i]? with
      | none =>
        have : ss[i]? = none := by
          rw [List.getElem?_eq_none_iff, hl]
          simpa using he
        simp [he, this]
      | some e =>
        obtain ⟨s, h1, h2, _⟩ := hkey i e he
        simp [he, h1, h2]
    have hrd : ∀ e ∈ ms.toList, ∃ s ∈ ss, e.key = .string ⟨s.toArray⟩ ∧ rd P K (fun _ => some ((.nil : DataW Unit), [])) e = some (.string s, .nil) := by
      intro e he
      obtain ⟨i, hi, rfl⟩ := List.getElem_of_mem he
      obtain ⟨s, h1, h2, _⟩ := hkey i ms.toList[i] (by rw [← Array.getElem?_toList, List.getElem?_eq_getElem hi])
      have hm := List.mem_of_getElem? h1
      refine ⟨s, hm, h2, ?_⟩
      have hko := keyOf_string hK (s := ⟨s.toArray⟩) (by simpa [ByteArray.size] using hstr s hm)
      unfold rd
      rw [h2, hko]
      rfl
    have hrg : ms.toList.map (rg P K fun _ => some ((.nil : DataW Unit), [])) = ss.map fun s => (Lit.string s, DataW.nil) := by
      apply List.ext_getElem?
      intro i
      rw [List.getElem?_map, List.getElem?_map]
      cases he : ms[i]? with
      | none =>
        have : ss[i]? = none := by
          rw [List.getElem?_eq_none_iff, hl]
          simpa using he
        simp [he, this]
      | some e =>
        obtain ⟨s, h1, h2, _⟩ := hkey i e he
        have hm := List.mem_of_getElem? h1
        have hko := keyOf_string hK (s := ⟨s.toArray⟩) (by simpa [ByteArray.size] using hstr s hm)
        have hr : rd P K (fun _ => some ((.nil : DataW Unit), [])) e = some (.string s, .nil) := by simp [rd, h2, hko]
        simp [he, h1, rg, hr]
    refine ⟨_, ⟨ms, clock, hw, ⟨by omega, ⟨?_, ?_, ?_⟩, ?_⟩, by omega, rfl⟩, ?_, ?_⟩
    · intro e he
      obtain ⟨i, hi, rfl⟩ := List.getElem_of_mem he
      obtain ⟨_, _, _, h3⟩ := hkey i ms.toList[i] (by rw [← Array.getElem?_toList, List.getElem?_eq_getElem hi])
      exact h3
    · refine List.pairwise_iff_getElem.2 fun i j hi hj hij e => ?_
      rw [List.length_map] at hi hj
      simp only [List.getElem_map] at e
      have := hn i j ms.toList[i] ms.toList[j] (by rw [← Array.getElem?_toList, List.getElem?_eq_getElem hi]) (by rw [← Array.getElem?_toList, List.getElem?_eq_getElem hj]) e
      omega
    · rw [hkeys]
      refine List.pairwise_map.2 (List.Pairwise.imp ?_ hnd)
      intro a b hab e
      injection e with e
      injection e with e
      exact hab (by simpa using congrArg Array.toList e)
    · intro e he
      obtain ⟨s, _, _, h⟩ := hrd e he
      exact ⟨_, h⟩
    · rw [size_eq, length_sorted, hrg, List.length_map]
    · rw [hrg]
      show ((List.foldr DataW.insert [] (ss.map fun s => (Lit.string s, DataW.nil))).map fun p => strOf p.1).Perm ss
      have := (sorted_perm (ss.map fun s => (Lit.string s, (DataW.nil : DataW Unit)))).map fun p => strOf p.1
      rw [List.map_map] at this
      simpa [Function.comp_def, strOf] using this
end
end Go.Am
end

section
namespace Go.Am
open Go
theorem insK_perm (k : Str) (x : Tree) : ∀ m : List (Str × Tree), (insK k x m).Perm ((k, x) :: m)
  | [] => List.Perm.refl _
  | p :: m => by
    rw [insK]
    split
    · exact List.Perm.refl _
    · exact ((insK_perm k x m).cons p).trans (List.Perm.swap _ _ _)
theorem sortP_perm : ∀ m : List (Str × Tree), (sortP m).Perm m
  | [] => List.Perm.refl _
  | p :: m => by
    rw [sortP]
    exact (insK_perm _ _ _).trans ((sortP_perm m).cons p)
theorem insK_pw (k : Str) (x : Tree) : ∀ {m : List (Str × Tree)}, m.Pairwise (fun p q => p.1 ≤ q.1) → (insK k x m).Pairwise (fun p q => p.1 ≤ q.1)
  | [], _ => by simp [insK]
  | p :: m, h => by
    obtain ⟨h1, h2⟩ := List.pairwise_cons.1 h
    rw [insK]
    split
    · rename_i hl
      have hl := (leqS_iff _ _).1 hl
      refine List.pairwise_cons.2 ⟨fun q hq => ?_, h⟩
      rcases List.mem_cons.1 hq with rfl | hq
      · exact hl
      · exact List.le_trans hl (h1 q hq)
    · rename_i hl
      have hl : p.1 ≤ k := by
        rw [leqS_iff] at hl
        rcases List.le_total k p.1 with h | h
        · exact absurd h hl
        · exact h
      refine List.pairwise_cons.2 ⟨fun q hq => ?_, insK_pw k x h2⟩
      rcases List.mem_cons.1 ((insK_perm k x m).mem_iff.1 hq) with rfl | hq
      · exact hl
      · exact h1 q hq
theorem sortP_pw : ∀ m : List (Str × Tree), (sortP m).Pairwise (fun p q => p.1 ≤ q.1)
  | [] => List.Pairwise.nil
  | p :: m => insK_pw _ _ (sortP_pw m)
theorem sortP_len (m : List (Str × Tree)) : (sortP m).length = m.length := (sortP_perm m).length_eq
theorem sorted_keys_eq {m : List (Str × Tree)} {ss : List Str} (h : ss.Perm (m.map (·.1))) : ss.mergeSort (fun x y => decide (x ≤ y)) = (sortP m).map (·.1) := by
  have tr : ∀ a b c : List UInt8, decide (a ≤ b) = true → decide (b ≤ c) = true → decide (a ≤ c) = true := fun a b c h1 h2 => by simp only [decide_eq_true_eq] at *; exact List.le_trans h1 h2
  have htot : ∀ a b : List UInt8, (decide (a ≤ b) || decide (b ≤ a)) = true := fun a b => by simp only [Bool.or_eq_true, decide_eq_true_eq]; exact List.le_total a b
  refine List.Perm.eq_of_pairwise (le := fun a b => a ≤ b) (fun a b _ _ h1 h2 => List.le_antisymm h1 h2) ?_ ?_ ?_
  · exact (List.pairwise_mergeSort tr htot ss).imp fun h => by simpa using h
  · exact List.pairwise_map.2 (sortP_pw m)
  · exact ((List.mergeSort_perm ss _).trans h).trans ((sortP_perm m).map _).symm
theorem keyAt_map {ss : List Str} {k : Str} : ∀ {i : Nat}, ss.Nodup → ss[i]? = some k → keyAt (.str k) (ss.map .str) = some i := by
  intro i hnd hi
  unfold keyAt
  have hlt := (List.getElem?_eq_some_iff.1 hi).1
  refine List.findIdx?_eq_some_iff_getElem.2 ⟨by simpa using hlt, ?_, fun j hj => ?_⟩
  · simp [keyB, (List.getElem?_eq_some_iff.1 hi).2]
  · have : ss[j] ≠ k := by
      rw [← (List.getElem?_eq_some_iff.1 hi).2]
      exact List.pairwise_iff_getElem.1 hnd j i (by omega) hlt hj
    simp [keyB, Ne.symm this]
theorem keyAt_none {ss : List Str} {k : Str} (h : ¬ k ∈ ss) : keyAt (.str k) (ss.map .str) = none := by
  unfold keyAt
  rw [List.findIdx?_eq_none_iff]
  intro x hx
  obtain ⟨s, hs, rfl⟩ := List.mem_map.1 hx
  simp only [keyB, decide_eq_false_iff_not]
  exact fun e => h (e ▸ hs)
theorem hasK_mem (m : List (Str × Tree)) (k : Str) : hasK m k = true ↔ k ∈ m.map (·.1) := by
  unfold hasK
  rw [List.any_eq_true, List.mem_map]
  simp
end Go.Am
end

section
namespace Go.Proofs
open Go.RowKit Go.Maps Go.Sort Go.Shelf
def Tryz.keys129_ren : Go.Shelf.Ren := ⟨fun | 7 => 127 | 10 => 147 | n => n, fun | 23 => 131 | 26 => 9 | 3 => 27 | 28 => 155 | 0 => 0 | 27 => 154 | 33 => 33 | 4 => 4 | n => n, fun | n => n⟩
theorem Tryz.keys129 : Go.Proofs.SlLaysZ.n7 Tryz.prog Tryz.keys129_ren := {
  mixed := by kernel_rfl
  f7 := ⟨Tryz.f127.name, by decide, Tryz.func127.trans (congrArg some (by kernel_rfl))⟩
  f10 := ⟨Tryz.f147.name, by decide, Tryz.func147.trans (congrArg some (by kernel_rfl))⟩
  t0 := Tryz.underlying0
  a0 := Tryz.isAgg0
  z0 := Tryz.sizeOf0
  v0 := Tryz.zeroValue0
  t4 := Tryz.underlying4
  a4 := Tryz.isAgg4
  z4 := Tryz.sizeOf4
  v4 := Tryz.zeroValue4
  t23 := Tryz.underlying131
  a23 := Tryz.isAgg131
  z23 := Tryz.sizeOf131
  v23 := Tryz.zeroValue131
  t26 := Tryz.underlying9
  a26 := Tryz.isAgg9
  z26 := Tryz.sizeOf9
  v26 := Tryz.zeroValue9
  t27 := Tryz.underlying154
  a27 := Tryz.isAgg154
  z27 := Tryz.sizeOf154
  v27 := Tryz.zeroValue154
  t28 := Tryz.underlying155
  a28 := Tryz.isAgg155
  z28 := Tryz.sizeOf155
  v28 := Tryz.zeroValue155
  t33 := Tryz.underlying33
  a33 := Tryz.isAgg33
  z33 := Tryz.sizeOf33
  v33 := Tryz.zeroValue33 }
def Tryz.sorted128_ren : Go.Shelf.Ren := ⟨fun | 6 => 126 | 8 => 145 | 9 => 146 | 11 => 162 | 13 => 164 | 12 => 163 | 23 => 177 | 24 => 178 | 14 => 168 | 15 => 169 | 16 => 170 | 17 => 171 | 18 => 172 | 19 => 173 | 20 => 174 | 21 => 175 | 22 => 176 | 25 => 181 | 26 => 182 | 27 => 183 | 28 => 184 | 29 => 185 | 30 => 186 | 31 => 191 | n => n, fun | 26 => 9 | 28 => 155 | 24 => 37 | 0 => 0 | 3 => 3 | 37 => 112 | 48 => 183 | 50 => 163 | 4 => 4 | 40 => 192 | 39 => 191 | 45 => 102 | 5 => 5 | 9 => 9 | 51 => 200 | 55 => 204 | 57 => 210 | 58 => 93 | 33 => 33 | n => n, fun | n => n⟩
theorem Tryz.sorted128 : Go.Proofs.SlLaysZ.n6 Tryz.prog Tryz.sorted128_ren := {
  mixed := by kernel_rfl
  f6 := ⟨Tryz.f126.name, by decide, Tryz.func126.trans (congrArg some (by kernel_rfl))⟩
  f8 := ⟨Tryz.f145.name, by decide, Tryz.func145.trans (congrArg some (by kernel_rfl))⟩
  f11 := ⟨Tryz.f162.name, by decide, Tryz.func162.trans (congrArg some (by kernel_rfl))⟩
  t0 := Tryz.underlying0
  a0 := Tryz.isAgg0
  z0 := Tryz.sizeOf0
  v0 := Tryz.zeroValue0
  t24 := Tryz.underlying37
  a24 := Tryz.isAgg37
  z24 := Tryz.sizeOf37
  v24 := Tryz.zeroValue37
  t26 := Tryz.underlying9
  a26 := Tryz.isAgg9
  z26 := Tryz.sizeOf9
  v26 := Tryz.zeroValue9
  t28 := Tryz.underlying155
  a28 := Tryz.isAgg155
  z28 := Tryz.sizeOf155
  v28 := Tryz.zeroValue155
  i26 := by kernel_rfl }
def Tryz.sort155_ren : Go.Shelf.Ren := ⟨fun | 6 => 146 | 8 => 164 | 9 => 163 | 19 => 177 | 20 => 178 | 21 => 168 | 22 => 169 | 23 => 170 | 24 => 171 | 25 => 172 | 26 => 173 | 27 => 174 | 28 => 175 | 29 => 176 | 36 => 181 | 31 => 182 | 32 => 183 | 37 => 184 | 38 => 185 | 39 => 186 | 41 => 191 | n => n, fun | 27 => 37 | 29 => 9 | 3 => 3 | 32 => 112 | 26 => 37 | 0 => 0 | 44 => 183 | 46 => 163 | 4 => 4 | 36 => 192 | 35 => 191 | 41 => 102 | 5 => 5 | 9 => 9 | 53 => 200 | 57 => 204 | 63 => 210 | 64 => 93 | n => n, fun | n => n⟩
theorem Tryz.sort155 : Go.Proofs.SlLaysM.n6 Tryz.prog Tryz.sort155_ren := {
  mixed := by kernel_rfl
  f6 := ⟨Tryz.f146.name, by decide, Tryz.func146.trans (congrArg some (by kernel_rfl))⟩
  f8 := Tryz.func164.trans (congrArg some (by kernel_rfl))
  f9 := ⟨Tryz.f163.name, by decide, Tryz.func163.trans (congrArg some (by kernel_rfl))⟩
  f19 := Tryz.func177.trans (congrArg some (by kernel_rfl))
  f20 := Tryz.func178.trans (congrArg some (by kernel_rfl))
  f21 := ⟨Tryz.f168.name, by decide, Tryz.func168.trans (congrArg some (by kernel_rfl))⟩
  f22 := ⟨Tryz.f169.name, by decide, Tryz.func169.trans (congrArg some (by kernel_rfl))⟩
  f23 := ⟨Tryz.f170.name, by decide, Tryz.func170.trans (congrArg some (by kernel_rfl))⟩
  f24 := ⟨Tryz.f171.name, by decide, Tryz.func171.trans (congrArg some (by kernel_rfl))⟩
  f25 := ⟨Tryz.f172.name, by decide, Tryz.func172.trans (congrArg some (by kernel_rfl))⟩
  f26 := ⟨Tryz.f173.name, by decide, Tryz.func173.trans (congrArg some (by kernel_rfl))⟩
  f27 := ⟨Tryz.f174.name, by decide, Tryz.func174.trans (congrArg some (by kernel_rfl))⟩
  f28 := ⟨Tryz.f175.name, by decide, Tryz.func175.trans (congrArg some (by kernel_rfl))⟩
  f29 := ⟨Tryz.f176.name, by decide, Tryz.func176.trans (congrArg some (by kernel_rfl))⟩
  f31 := Tryz.func182.trans (congrArg some (by kernel_rfl))
  f32 := Tryz.func183.trans (congrArg some (by kernel_rfl))
  f36 := ⟨Tryz.f181.name, by decide, Tryz.func181.trans (congrArg some (by kernel_rfl))⟩
  f37 := ⟨Tryz.f184.name, by decide, Tryz.func184.trans (congrArg some (by kernel_rfl))⟩
  f38 := ⟨Tryz.f185.name, by decide, Tryz.func185.trans (congrArg some (by kernel_rfl))⟩
  f39 := ⟨Tryz.f186.name, by decide, Tryz.func186.trans (congrArg some (by kernel_rfl))⟩
  f41 := ⟨Tryz.f191.name, by decide, Tryz.func191.trans (congrArg some (by kernel_rfl))⟩
  t0 := Tryz.underlying0
  a0 := Tryz.isAgg0
  z0 := Tryz.sizeOf0
  v0 := Tryz.zeroValue0
  t3 := Tryz.underlying3
  a3 := Tryz.isAgg3
  z3 := Tryz.sizeOf3
  v3 := Tryz.zeroValue3
  t4 := Tryz.underlying4
  a4 := Tryz.isAgg4
  z4 := Tryz.sizeOf4
  v4 := Tryz.zeroValue4
  t5 := Tryz.underlying5
  a5 := Tryz.isAgg5
  z5 := Tryz.sizeOf5
  v5 := Tryz.zeroValue5
  t9 := Tryz.underlying9
  a9 := Tryz.isAgg9
  z9 := Tryz.sizeOf9
  v9 := Tryz.zeroValue9
  t26 := Tryz.underlying37
  a26 := Tryz.isAgg37
  z26 := Tryz.sizeOf37
  v26 := Tryz.zeroValue37
  t27 := Tryz.underlying37
  a27 := Tryz.isAgg37
  z27 := Tryz.sizeOf37
  v27 := Tryz.zeroValue37
  t29 := Tryz.underlying9
  a29 := Tryz.isAgg9
  z29 := Tryz.sizeOf9
  v29 := Tryz.zeroValue9
  t32 := Tryz.underlying112
  a32 := Tryz.isAgg112
  z32 := Tryz.sizeOf112
  v32 := Tryz.zeroValue112
  t35 := Tryz.underlying191
  a35 := Tryz.isAgg191
  z35 := Tryz.sizeOf191
  v35 := Tryz.zeroValue191
  t36 := Tryz.underlying192
  a36 := Tryz.isAgg192
  z36 := Tryz.sizeOf192
  v36 := Tryz.zeroValue192
  t41 := Tryz.underlying102
  a41 := Tryz.isAgg102
  z41 := Tryz.sizeOf102
  v41 := Tryz.zeroValue102
  t44 := Tryz.underlying183
  a44 := Tryz.isAgg183
  z44 := Tryz.sizeOf183
  v44 := Tryz.zeroValue183
  t46 := Tryz.underlying163
  a46 := Tryz.isAgg163
  z46 := Tryz.sizeOf163
  v46 := Tryz.zeroValue163
  t53 := Tryz.underlying200
  a53 := Tryz.isAgg200
  z53 := Tryz.sizeOf200
  v53 := Tryz.zeroValue200
  t57 := Tryz.underlying204
  a57 := Tryz.isAgg204
  z57 := Tryz.sizeOf204
  v57 := Tryz.zeroValue204
  t63 := Tryz.underlying210
  a63 := Tryz.isAgg210
  z63 := Tryz.sizeOf210
  v63 := Tryz.zeroValue210
  t64 := Tryz.underlying93
  a64 := Tryz.isAgg93
  z64 := Tryz.sizeOf93
  v64 := Tryz.zeroValue93 }
theorem Tryz.sorts128 (m : Nat) : AnyZ.SortsIn Tryz.prog Tryz.sorted128_ren Fence.wide m :=
  ⟨fun blk off cap ss W hH hblk hsz => callsIn_wide.2 (AnyM.slices_Sort_string Tryz.sort155 blk off cap ss W hH hblk hsz),
   fun p cap W => callsIn_wide.2 (AnyM.slices_Sort_string_none Tryz.sort155 p cap W)⟩
theorem Tryz.sorted_keys {H : Type} (Bm b nn : Nat) (D0 : DataW H) (R : Value → Option (DataW H × List MemPlace)) (w : World) (hBm : Bm < w.heap.size) (hm : w.cell? ⟨Bm, 0, none⟩ = some (.map (some b)))
    (hown : w.ownsMap Tryz.prog 9 R b nn D0) (hmax : Maps.size D0 ≤ maxLen) (hbytes : Maps.size D0 * 16 ≤ 140737488355328) :
    Calls Tryz.prog 126 #[.func (.func 147) #[] #[.pointer (some ⟨Bm, 0, none⟩)]] w fun e w' => ∃ (v : Value) (ss : List (List UInt8)), e = .returned v ∧ ss.Perm (strKeys D0) ∧
      w'.ownsRow w.heap.size 9 1 v ss.length ((ss.mergeSort (fun x y => decide (x ≤ y))).map encStr) ∧ (v = .slice none 0 0 ↔ ss = []) ∧ Below w.heap.size w w' := by
  have hseq : SeqGives Fence.wide 2 Tryz.prog 147 #[.pointer (some ⟨Bm, 0, none⟩)] encStr (fun ss => ss.Perm (strKeys D0)) (Maps.size D0) w :=
    AnyZ.keys_gives (ρ := Tryz.keys129_ren) { Tryz.keys129 with } Fence.wide _ trivial rfl (by omega) Bm b nn D0 _ hBm hm hown
  exact (callsIn_wide (n := 5)).1 (AnyZ.sorted_in Tryz.sorted128 Fence.wide 5 trivial trivial trivial trivial rfl (by omega) (Tryz.sorts128 _) (enters_of Tryz.func146 (by kernel_rfl) rfl) 147 #[.pointer (some ⟨Bm, 0, none⟩)] trivial (enters_of Tryz.func147 (by kernel_rfl) rfl) _ _ hmax hbytes _ hseq)
end Go.Proofs
end

section
namespace Go.Proofs.YtoinkmogdfjmmaaGreatDoor
open Go Go.Am Go.RowKit
set_option maxRecDepth 100000
def mpO (m : List (Str × Tree)) : HO := .mp ((m.map (·.1)).map .str) (.pure (m.map fun p => p.2.enc))
theorem maps_Keys (ks : List PV) (l : List PV) : AbsCall PP GG F.maps_Keys_map_string_api_Value_string_api_Value [.mapr 0] [.mp ks (.pure l)] ⟨.ret (.func (.func F.maps_Keys_map_string_api_Value_string_api_Value_1) [.ptr 1 0]), [.mp ks (.pure l), .var T.map_string_api_Value (.mapr 0)], []⟩ := by
  refine absCall_of (pol := polG) mixP F.maps_Keys_map_string_api_Value_string_api_Value_is ?_
  conv => whnf
  exact CLe.refl _
theorem key_str : PP.underlying T.string = some .string := by kernel_rfl
theorem row_strs {B : Nat → Prop} {w : World} {base : Nat} {v : Value} {n : Nat} {ss : List Str} (hB : ∀ b, B b → b < base) (h : w.ownsRow base T.string 1 v n (ss.map Go.Proofs.encStr)) : PRel B w (.lst false (ss.map .str)) v := by
  obtain ⟨h1, h2⟩ := h
  rw [List.length_map] at h1
  rcases h2 with ⟨rfl, h3⟩ | ⟨g, cap, cur, rfl, hg, hw, hn, hc, hz, ht⟩
  · obtain rfl : ss = [] := List.eq_nil_of_length_eq_zero (by omega)
    exact .lst0 false none 0 (fun h => by cases h)
  · have hn' : n = (ss.map PV.str).length := by rw [List.length_map]; omega
    subst hn'
    have hfl := flat_strs ss
    have hgt : g < w.heap.size := (Array.getElem?_eq_some_iff.1 hw).1
    refine .lst false (ss.map .str) g 0 cap 1 (fun k => cur.getD k undef) (fun hb => by have := hB g hb; omega) hgt (Nat.le_refl _) ?_ ?_ hn (fun h => by cases h) ?_ ?_
    · intro x hx; obtain ⟨s, _, rfl⟩ := List.mem_map.1 hx; rfl
    · rw [hfl]; intro x hx; obtain ⟨s, _, rfl⟩ := List.mem_map.1 hx; rfl
    · intro k hk
      rw [hfl] at hk
      have hlt : k < cur.size := by omega
      simp [World.cell?, hw, hlt]
    · intro k x hx
      rw [hfl, List.getElem?_map] at hx
      obtain ⟨s, hs, rfl⟩ := Option.map_eq_some_iff.1 hx
      have hk : k < ss.length := (List.getElem?_eq_some_iff.1 hs).1
      have := congrArg (·[k]?) ht
      simp only [List.getElem?_map, hs, Option.map_some] at this
      rw [List.getElem?_take, if_pos (by rw [List.length_map]; omega), Array.getElem?_toList] at this
      have hlt : k < cur.size := by rw [List.length_map] at hn; omega
      rw [show cur.getD k undef = Go.Proofs.encStr s by simp [Array.getD, hlt] at this ⊢; exact this]
      exact .str s
theorem slices_Sorted (m : List (Str × Tree)) (hnd : (m.map (·.1)).Nodup) (hlen : m.length ≤ 1048576) (hstr : ∀ p ∈ m, p.1.length ≤ 1048576) :
    AbsCall PP GG F.slices_Sorted_string [.func (.func F.maps_Keys_map_string_api_Value_string_api_Value_1) [.ptr 0 0]] [.var T.map_string_api_Value (.mapr 1), mpO m] ⟨.ret (.p (.lst false (((sortP m).map (·.1)).map .str))), [.var T.map_string_api_Value (.mapr 1), mpO m], []⟩ := by
  refine absBelow fun B L w vs hst ha hg => ?_
  obtain ⟨v, rfl, hv⟩ := vrel1 ha
  have hr0 := hst.rel 0
  have hr1 := hst.rel 1
  have ho0 := hst.own 0 trivial
  obtain ⟨D0, hown, hsz, hperm⟩ := own_of_mp (P := PP) (K := T.string) key_str (show HRel B L w 1 (.mp ((m.map (·.1)).map .str) (.pure (m.map fun p => p.2.enc))) from hr1) hnd (by rw [List.length_map]; exact Nat.le_trans hlen (by decide)) (by
    intro s hs
    obtain ⟨p, hp, rfl⟩ := List.mem_map.1 hs
    exact Nat.le_trans (hstr p hp) (by decide))
  rw [List.length_map] at hsz
  have hcell : w.cell? ⟨L.blk 0, 0, none⟩ = some (.map (some (L.blk 1))) := by
    cases (show HRel B L w 0 (.var T.map_string_api_Value (.mapr 1)) from hr0) with
    | var _ c t fr hw hfr hl h =>
      have hc : c.size = 1 := hl.symm
      have h0 := h 0 (.mapr 1) c[0] rfl (by simp [hc])
      generalize hx : c[0] = x at h0
      cases h0
      simp [World.cell?, hw, hc, hx]
  have hv' : v = .func (.func F.maps_Keys_map_string_api_Value_string_api_Value_1) #[] #[.pointer (some ⟨L.blk 0, 0, none⟩)] := by
    cases hv with
    | func f l c hl h =>
      rcases c with _ | ⟨a, _ | ⟨b, c⟩⟩
      · simp at hl
      · have := h 0 _ a rfl rfl
        cases this
        rfl
      · simp at hl
  subst hv'
  refine CallTo.of_calls Tryz.func126 (by kernel_rfl) rfl ((Tryz.sorted_keys (L.blk 0) (L.blk 1) _ D0 _ w ho0.2 hcell hown (by rw [hsz]; exact Nat.le_trans hlen (by decide)) (by rw [hsz]; omega)).mono ?_)
  rintro e w' ⟨x, ss, rfl, hp, hrow, _, hb⟩
  refine ⟨hb, x, rfl, .p _ _ ?_⟩
  rw [sorted_keys_eq (hp.trans hperm)] at hrow
  exact row_strs (base := w.heap.size) hst.bnd hrow
theorem keys_ok (k : Str) (ss : List Str) : keysOk PP T.string (.str k) (ss.map .str) := by
  have h : ∀ s : Str, keyIs PP T.string (.str s) = true := fun s => by simp only [keyIs, key_str]
  refine ⟨h k, List.all_eq_true.2 fun x hx => ?_⟩
  obtain ⟨s, _, rfl⟩ := List.mem_map.1 hx
  exact h s
theorem get_mp {m : List (Str × Tree)} (hnd : (m.map (·.1)).Nodup) {p : Str × Tree} (hp : p ∈ m) : getM (.str p.1) ((m.map (·.1)).map .str) (.pure (m.map fun p => p.2.enc)) = some (.p p.2.enc) := by
  obtain ⟨i, hi⟩ := List.getElem?_of_mem hp
  unfold getM
  rw [keyAt_map (i := i) hnd (by rw [List.getElem?_map, hi]; rfl)]
  simp only [MV.toL, Option.bind_some, List.getElem?_map, hi]
  rfl
def mpV (n m : Nat) : V := .agg [.p (.int .i64 6), .p (.int .i64 0), .p (.str []), .p .nils, .sl n 0 m]
theorem mpV_frz (n : Nat) (m : List (Str × Tree)) : V.frz n (Tree.encM m) (mpV n (Tree.encM m).length) = .p (.agg [.int .i64 6, .int .i64 0, .str [], .nils, .lst false (Tree.encM m)]) := by
  simp [mpV, V.frz, V.frzL, V.mk, allP, PV.leaf]
theorem tree_mp (m : List (Str × Tree)) : VLe (.p (.agg [.int .i64 6, .int .i64 0, .str [], .nils, .lst false (Tree.encM m)])) (.p (Tree.mk 6 0 [] [] m).enc) :=
  (PLe.agg (show LeL [.int .i64 6, .int .i64 0, .str [], .nils, .lst false (Tree.encM m)] [.int .i64 6, .int .i64 0, .str [], .lst false [], .lst false (Tree.encM m)] from ⟨PLe.refl _, PLe.refl _, PLe.refl _, PLe.nils false, PLe.refl _, trivial⟩)).p
theorem pair_side (p : Str × Tree) : ∀ y : PV, y ∈ [Tree.encP p] → y.cells.length = 6 ∧ ∀ c : PV, c ∈ y.cells → c.leaf = true := by
  intro y hy
  rw [List.mem_singleton.1 hy]
  exact ⟨Tree.encP_cells p, Tree.encP_leaf p⟩
theorem pair_side1 (p : Str × Tree) : ∀ y : PV, y ∈ [Tree.encP p] → y.cells.length = 6 := fun y hy => (pair_side p y hy).1
theorem made_loop (m : List (Str × Tree)) (hnd : (m.map (·.1)).Nodup) (hlen : m.length ≤ 1048576) (K : Post)
    (h0 : K (.exit 0) [(2, .ptr 1 0), (3, .ptr 2 0)] [mpO m, zO, .var T.api_Value (mpV 3 (Tree.encM (sortP m)).length), .arr T.api_Pair 6 (Tree.encM (sortP m))] []) :
    ∀ (r i : Nat), i + r = (sortP m).length → LoopW PP GG 27 1 (loopN F.jread_made_c 0) [(0, .mapr 0), (2, .ptr 1 0), (3, .ptr 2 0), (9, .p (.lst false (((sortP m).map (·.1)).map .str))), (10, .p (.int .i64 (sortP m).length)), (11, .p (.int .i64 i))]
      [mpO m, zO, .var T.api_Value (mpV 3 (Tree.encM ((sortP m).take i)).length), .arr T.api_Pair 6 (Tree.encM ((sortP m).take i))] [] (PostCl 27 K) := by
  have hsl := sortP_len m
  intro r
  induction r with
  | zero =>
    intro i hi
    obtain rfl : i = (sortP m).length := by omega
    rw [List.take_length]
    refine LoopW.round (pol := polG) mixP ?_
    conv => whnf
    repeat' ((first
     | ((with_reducible first | refine Br.dec ?_ ?_ | refine Br.ndec ?_ ?_) <;> intro hb <;> (try simp only [ZZ] at hb) <;> (first | omega | contradiction | skip))
     | (with_reducible first | refine Br.tt rfl ?_ | refine Br.ff rfl ?_ | refine Br.ff (isEmptyCons _ _) ?_)
     | ((with_reducible first | refine Side.mk ?_ ?_ | refine WrapW.mk ?_ ?_); focus (first | omega | (dsimp only [InR, Int.reduceToNat, IntKind.bits, Int.reducePow]; omega) | (simp [CC]; done) | (constructor <;> omega)))
     | with_reducible refine Br.not ?_
     | (with_reducible first | refine Br.tt (by assumption) ?_ | refine Br.ff (by assumption) ?_)
     | (refine Br.mk ?_ ?_ <;> intro hb <;> (try simp only [ZZ] at hb) <;> (first | omega | contradiction | skip))
     | refine Src.whole ⟨rfl, rfl⟩ ?_ | refine FrzV.whole ?_) <;> conv => whnf)
    · refine PostCl.of (h0) ?_ ?_
      · repeat first | exact trivial | refine ⟨VLe.refl _, ?_⟩
      · repeat first | exact trivial | refine ⟨by decide, ?_⟩
  | succ r ih =>
    intro i hi
    have hil : i < (sortP m).length := by omega
    have hml : (Tree.encM ((sortP m).take i)).length = i := by rw [Tree.encM_length, List.length_take]; omega
    obtain ⟨k, t, hp⟩ : ∃ k t, (sortP m)[i]? = some (k, t) := ⟨(sortP m)[i].1, (sortP m)[i].2, by simp [hil]⟩
    have hpm : (k, t) ∈ m := (sortP_perm m).mem_iff.1 (List.mem_of_getElem? hp)
    have hg := get_mp hnd hpm
    have hks := keys_ok k (m.map (·.1))
    have hkl : (((sortP m).map (·.1)).map PV.str)[i]? = some (.str k) := by rw [List.getElem?_map, List.getElem?_map, hp]; rfl
    have htk : (sortP m).take (i + 1) = (sortP m).take i ++ [(k, t)] := by rw [List.take_add_one, hp]; rfl
    have ih := ih (i + 1) (by omega)
    rw [htk] at ih
    obtain ⟨a, b, c, d, e⟩ := t
    refine LoopW.round (pol := polG) mixP ?_
    conv => whnf
    repeat' ((first
     | ((with_reducible first | refine Br.dec ?_ ?_ | refine Br.ndec ?_ ?_) <;> intro hb <;> (try simp only [And.intro @hml (ZZ)] at hb) <;> (first | omega | contradiction | skip))
     | (with_reducible first | refine Br.tt rfl ?_ | refine Br.ff rfl ?_ | refine Br.ff (isEmptyCons _ _) ?_)
     | ((with_reducible first | refine Side.mk ?_ ?_ | refine WrapW.mk ?_ ?_); focus (first | omega | (dsimp only [InR, Int.reduceToNat, IntKind.bits, Int.reducePow]; omega) | exact ⟨rfl, rfl⟩ | exact pair_side (k, .mk a b c d e) | exact ⟨pair_side1 (k, .mk a b c d e), rfl, by show (_ + 1) * 192 ≤ _; omega⟩ | (simp [CC]; done) | (constructor <;> omega)))
     | with_reducible refine Br.not ?_
     | (with_reducible first | refine Br.tt (by assumption) ?_ | refine Br.ff (by assumption) ?_)
     | (refine Br.mk ?_ ?_ <;> intro hb <;> (try simp only [And.intro @hml (ZZ)] at hb) <;> (first | omega | contradiction | skip))
     | refine Src.whole ⟨rfl, rfl⟩ ?_ | refine FrzV.whole ?_
     | ((refine ElemZ.mk (.str k) (by simpa using hkl) rfl ?_; conv => whnf))
     | ((refine MapG.mk _ hks hg ?_; conv => whnf))) <;> conv => whnf)
    rw [Tree.encM_append] at ih
    refine LoopW.ren [0, 1, 2, 3] (ih) (by repeat first | exact trivial | refine ⟨⟨rfl, VLe.refl _⟩, ?_⟩) (by repeat first | exact trivial | refine ⟨by decide, ?_⟩) rfl rfl
theorem made_first (m : List (Str × Tree)) (hnd : (m.map (·.1)).Nodup) (hlen : m.length ≤ 1048576) (K : Post) (o : HO)
    (hz : sortP m = [] → K (.exit 0) [(2, .ptr 1 0), (3, .ptr 2 0)] [mpO m, zO, .var T.api_Value (.p (.agg [.int .i64 6, .int .i64 0, .str [], .nils, .nils]))] [])
    (h0 : K (.exit 0) [(2, .ptr 1 0), (3, .ptr 2 0)] [mpO m, zO, .var T.api_Value (mpV 3 (Tree.encM (sortP m)).length), .arr T.api_Pair 6 (Tree.encM (sortP m))] []) :
    LoopW PP GG 27 1 (loopN F.jread_made_c 0) [(0, .mapr 0), (2, .ptr 1 0), (3, .ptr 2 0), (9, .p (.lst false (((sortP m).map (·.1)).map .str))), (10, .p (.int .i64 (sortP m).length)), (11, .p (.int .i64 0))]
      [mpO m, zO, .var T.api_Value (.p (.agg [.int .i64 6, .int .i64 0, .str [], .nils, .nils]))] [] (PostCl 27 K) := by
  have hsl := sortP_len m
  have hlp := made_loop m hnd hlen K h0
  cases hs : sortP m with
  | nil =>
    refine LoopW.round (pol := polG) mixP ?_
    conv => whnf
    repeat' ((first
     | ((with_reducible first | refine Br.dec ?_ ?_ | refine Br.ndec ?_ ?_) <;> intro hb <;> (try simp only [ZZ] at hb) <;> (first | omega | contradiction | skip))
     | (with_reducible first | refine Br.tt rfl ?_ | refine Br.ff rfl ?_ | refine Br.ff (isEmptyCons _ _) ?_)
     | ((with_reducible first | refine Side.mk ?_ ?_ | refine WrapW.mk ?_ ?_); focus (first | omega | (dsimp only [InR, Int.reduceToNat, IntKind.bits, Int.reducePow]; omega) | (simp [CC]; done) | (constructor <;> omega)))
     | with_reducible refine Br.not ?_
     | (with_reducible first | refine Br.tt (by assumption) ?_ | refine Br.ff (by assumption) ?_)
     | (refine Br.mk ?_ ?_ <;> intro hb <;> (try simp only [ZZ] at hb) <;> (first | omega | contradiction | skip))
     | refine Src.whole ⟨rfl, rfl⟩ ?_ | refine FrzV.whole ?_) <;> conv => whnf)
    · refine PostCl.of (hz hs) ?_ ?_
      · repeat first | exact trivial | refine ⟨VLe.refl _, ?_⟩
      · repeat first | exact trivial | refine ⟨by decide, ?_⟩
  | cons p l =>
    obtain ⟨k, t⟩ := p
    have hp : (sortP m)[0]? = some (k, t) := by rw [hs]; rfl
    have hpm : (k, t) ∈ m := (sortP_perm m).mem_iff.1 (List.mem_of_getElem? hp)
    have hg := get_mp hnd hpm
    have hks := keys_ok k (m.map (·.1))
    have hlp := hlp l.length 1 (by rw [hs, List.length_cons]; omega)
    rw [hs] at hlp
    have hll : ((k, t) :: l).length = l.length + 1 := rfl
    obtain ⟨a, b, c, d, e⟩ := t
    refine LoopW.round (pol := polG) mixP ?_
    conv => whnf
    repeat' ((first
     | ((with_reducible first | refine Br.dec ?_ ?_ | refine Br.ndec ?_ ?_) <;> intro hb <;> (try simp only [And.intro @hll (ZZ)] at hb) <;> (first | omega | contradiction | skip))
     | (with_reducible first | refine Br.tt rfl ?_ | refine Br.ff rfl ?_ | refine Br.ff (isEmptyCons _ _) ?_)
     | ((with_reducible first | refine Side.mk ?_ ?_ | refine WrapW.mk ?_ ?_); focus (first | omega | (dsimp only [InR, Int.reduceToNat, IntKind.bits, Int.reducePow]; omega) | exact ⟨rfl, rfl⟩ | exact pair_side (k, .mk a b c d e) | exact ⟨pair_side1 (k, .mk a b c d e), by show 1 * 192 ≤ _; omega⟩ | (simp [CC]; done) | (constructor <;> omega)))
     | with_reducible refine Br.not ?_
     | (with_reducible first | refine Br.tt (by assumption) ?_ | refine Br.ff (by assumption) ?_)
     | (refine Br.mk ?_ ?_ <;> intro hb <;> (try simp only [And.intro @hll (ZZ)] at hb) <;> (first | omega | contradiction | skip))
     | refine Src.whole ⟨rfl, rfl⟩ ?_ | refine FrzV.whole ?_
     | ((refine ElemZ.mk (.str k) rfl rfl ?_; conv => whnf))
     | ((refine MapG.mk _ hks hg ?_; conv => whnf))) <;> conv => whnf)
    refine LoopW.ren [0, 1, 2, 4] (hlp) (by repeat first | exact trivial | refine ⟨⟨rfl, VLe.refl _⟩, ?_⟩) (by repeat first | exact trivial | refine ⟨by decide, ?_⟩) rfl rfl
theorem jread_made (m : List (Str × Tree)) (hnd : (m.map (·.1)).Nodup) (hlen : m.length ≤ 1048576) (hstr : ∀ p ∈ m, p.1.length ≤ 1048576) :
    AbsCall PP GG F.jread_made [.mapr 0] [mpO m] ⟨.ret (.p (Tree.mk 6 0 [] [] (sortP m)).enc), [mpO m], []⟩ := by
  have hK := maps_Keys ((m.map (·.1)).map .str) (m.map fun p => p.2.enc)
  have hS := slices_Sorted m hnd hlen hstr
  have hsl := sortP_len m
  have hml : (((sortP m).map (·.1)).map PV.str).length = (sortP m).length := by simp
  refine absCall_of (pol := polG) mixP F.jread_made_is ?_
  conv => whnf
  repeat' ((first
   | ((with_reducible first | refine Br.dec ?_ ?_ | refine Br.ndec ?_ ?_) <;> intro hb <;> (try simp only [And.intro @hml (ZZ)] at hb) <;> (first | omega | contradiction | skip))
   | (with_reducible first | refine Br.tt rfl ?_ | refine Br.ff rfl ?_ | refine Br.ff (isEmptyCons _ _) ?_)
   | ((with_reducible first | refine Side.mk ?_ ?_ | refine WrapW.mk ?_ ?_); focus (first | omega | (dsimp only [InR, Int.reduceToNat, IntKind.bits, Int.reducePow]; omega) | (simp [CC]; done) | (constructor <;> omega)))
   | with_reducible refine Br.not ?_
   | (with_reducible first | refine Br.tt (by assumption) ?_ | refine Br.ff (by assumption) ?_)
   | (refine Br.mk ?_ ?_ <;> intro hb <;> (try simp only [And.intro @hml (ZZ)] at hb) <;> (first | omega | contradiction | skip))
   | refine Src.whole ⟨rfl, rfl⟩ ?_ | refine FrzV.whole ?_
   | refine CallW.use (hK) ?_
   | refine CallW.use (hS) ?_) <;> conv => whnf)
  rw [hml]
  refine LoopW.cl ?_
  refine LoopW.ren [0, 1, 2] (made_first m hnd hlen _ (.dead) (fun h => ?_) ?_) (by repeat first | exact trivial | refine ⟨⟨rfl, VLe.refl _⟩, ?_⟩) (by repeat first | exact trivial | refine ⟨by decide, ?_⟩) rfl rfl
  all_goals conv => whnf
  · rw [h]
    exact CLe.ret (tree_nils 6 0 [])
  · refine FrzV.mk _ (mpV_frz 3 (sortP m)) ?_
    conv => whnf
    refine FrzO.mk _ (congrArg (HO.var T.api_Value) (mpV_frz 3 (sortP m))) ?_
    conv => whnf
    refine FrzO.mk _ (congrArg (HO.var T.api_Value) (mpV_frz 3 (sortP m))) ?_
    conv => whnf
    exact CLe.ret (tree_mp (sortP m))
theorem put_mk {acc : List (Str × Tree)} {k : Str} (h : ¬ k ∈ acc.map (·.1)) (x : Tree) : putMK (.str k) ((acc.map (·.1)).map .str) = ((acc ++ [(k, x)]).map (·.1)).map .str := by
  unfold putMK
  rw [keyAt_none h]
  simp
theorem put_mv {acc : List (Str × Tree)} {k : Str} (h : ¬ k ∈ acc.map (·.1)) (x : Tree) : putMV (.str k) ((acc.map (·.1)).map .str) (.pure (acc.map fun p => p.2.enc)) (.p x.enc) = .pure ((acc ++ [(k, x)]).map fun p => p.2.enc) := by
  unfold putMV
  rw [keyAt_none h]
  simp
theorem get_none {acc : List (Str × Tree)} {k : Str} (h : ¬ k ∈ acc.map (·.1)) (vs : MV) : getM (.str k) ((acc.map (·.1)).map .str) vs = none := by
  unfold getM
  rw [keyAt_none h]
  rfl
theorem entries_loop (ws : List Wd) (hw : WsOk ws) (Q : Nat) (hv : ∀ q, q < Q → ValAt ws q) (d : Int) (hd0 : 0 ≤ d) (hd : d ≤ 32) (R : RR) (K : Post)
    (h0 : ∀ (t : Tree) (j : Nat) (m : Int), R = .ok (t, j, m) → ∀ H : Heap, K .ret [(4, .ptr 1 0)] (jrO ws j m :: .var T.api_Value (.p t.enc) :: H) [])
    (hp : ∀ e a : Int, R = .error (e, a) → ∀ H : Heap, K (.pan (wrongP e a)) [] (.dead :: H) []) :
    ∀ (q : Nat) (i : Nat) (n : Int) (acc : List (Str × Tree)), q ≤ Q → i < ws.length → 3 * (ws.length - i) + 2 ≤ q → 0 ≤ n → n ≤ 4096 → acc.length ≤ n → (acc.map (·.1)).Nodup → (∀ p ∈ acc, p.1.length ≤ 65536) → entriesR q ws d i n acc = R →
      LoopW PP GG 53 1 (loopN F.jread_reader_pairs_c 0) [(0, .ptr 0 0), (1, .p (.int .i64 d)), (4, .ptr 1 0), (5, .mapr 2)] [jrO ws i n, zO, mpO acc] [] (PostCl 53 K) := by
  intro q
  induction q with
  | zero => intro i n acc hq hi hf; omega
  | succ q ih =>
    intro i n acc hq hi hf hn0 hn1 hacc hnd hstr hR
    obtain ⟨hat, hmem⟩ := hw.at hi
    have hend := hw.end_ i hi
    have hws := hw.len
    have hl : ws.length ≤ 1073741824 := by omega
    have htx := (hw.text _ hmem).1
    have hW0 := reader_word ws i n _ hat hl
    rw [entriesR] at hR
    have hF4 := reader_failD ws i n 4 _ hat hl
    have hF5 := reader_failD ws i n 5 _ hat hl
    by_cases hk : (wdAt ws i).k = 2
    · rw [if_neg (by simp [hk])] at hR
      have hi1 := hend (by rw [hk]; decide)
      have hat1 := (hw.at hi1).1
      have hks := keys_ok (wdAt ws i).s (acc.map (·.1))
      generalize hwd : wdAt ws i = w at *
      obtain ⟨k, s, a⟩ := w
      simp only [] at hk htx hR hks
      subst hk
      cases hh : hasK acc s with
      | true =>
        rw [if_pos hh] at hR
        obtain ⟨⟨k', t⟩, hpm, he⟩ := List.mem_map.1 ((hasK_mem acc s).1 hh)
        simp only [] at he
        subst he
        have hg := get_mp hnd hpm
        obtain ⟨b, c, e, f, g⟩ := t
        refine LoopW.round (pol := polG) mixP ?_
        conv => whnf
        repeat' ((first
         | ((with_reducible first | refine Br.dec ?_ ?_ | refine Br.ndec ?_ ?_) <;> intro hb <;> (try simp only [ZZ] at hb) <;> (first | omega | contradiction | skip))
         | (with_reducible first | refine Br.tt rfl ?_ | refine Br.ff rfl ?_ | refine Br.ff (isEmptyCons _ _) ?_)
         | ((with_reducible first | refine Side.mk ?_ ?_ | refine WrapW.mk ?_ ?_); focus (first | omega | (dsimp only [InR, Int.reduceToNat, IntKind.bits, Int.reducePow]; omega) | (simp [CC]; done) | (constructor <;> omega)))
         | with_reducible refine Br.not ?_
         | (with_reducible first | refine Br.tt (by assumption) ?_ | refine Br.ff (by assumption) ?_)
         | (refine Br.mk ?_ ?_ <;> intro hb <;> (try simp only [ZZ] at hb) <;> (first | omega | contradiction | skip))
         | refine Src.whole ⟨rfl, rfl⟩ ?_ | refine FrzV.whole ?_
         | refine CallW.use (hW0) ?_
         | refine CallW.use (hF5) ?_
         | ((refine MapG.mk _ hks hg ?_; conv => whnf))) <;> conv => whnf)
        · refine PostCl.of (hp _ _ hR.symm _) ?_ ?_
          · repeat first | exact trivial | refine ⟨VLe.refl _, ?_⟩
          · repeat first | exact trivial | refine ⟨by decide, ?_⟩
      | false =>
        rw [if_neg (by rw [hh]; decide)] at hR
        have hnm : ¬ s ∈ acc.map (·.1) := fun h => by rw [(hasK_mem acc s).2 h] at hh; cases hh
        have hg := get_none hnm (.pure (acc.map fun p => p.2.enc))
        have hU := put_mk hnm
        have hUv := put_mv hnm
        cases h58 : isS (wdAt ws (i + 1)) [58] with
        | false =>
          rw [if_pos h58] at hR
          have hC := want_no (n := n) hat1 hl h58
          refine LoopW.round (pol := polG) mixP ?_
          conv => whnf
          repeat' ((first
           | ((with_reducible first | refine Br.dec ?_ ?_ | refine Br.ndec ?_ ?_) <;> intro hb <;> (try simp only [ZZ] at hb) <;> (first | omega | contradiction | skip))
           | (with_reducible first | refine Br.tt rfl ?_ | refine Br.ff rfl ?_ | refine Br.ff (isEmptyCons _ _) ?_)
           | ((with_reducible first | refine Side.mk ?_ ?_ | refine WrapW.mk ?_ ?_); focus (first | omega | (dsimp only [InR, Int.reduceToNat, IntKind.bits, Int.reducePow]; omega) | (simp [CC]; done) | (constructor <;> omega)))
           | with_reducible refine Br.not ?_
           | (with_reducible first | refine Br.tt (by assumption) ?_ | refine Br.ff (by assumption) ?_)
           | (refine Br.mk ?_ ?_ <;> intro hb <;> (try simp only [ZZ] at hb) <;> (first | omega | contradiction | skip))
           | refine Src.whole ⟨rfl, rfl⟩ ?_ | refine FrzV.whole ?_
           | refine CallW.use (hW0) ?_
           | refine CallW.use (hC) ?_
           | ((refine MapG.mk _ hks hg ?_; conv => whnf))) <;> conv => whnf)
          · refine PostCl.of (hp _ _ hR.symm _) ?_ ?_
            · repeat first | exact trivial | refine ⟨VLe.refl _, ?_⟩
            · repeat first | exact trivial | refine ⟨by decide, ?_⟩
        | true =>
          rw [if_neg (by rw [h58]; decide)] at hR
          have hC := want_yes (n := n) hat1 hl h58
          have hi2 := hw.end_ (i + 1) hi1 (by rw [(isS_k h58).1]; decide)
          have hV := hv q (by omega) (d + 1) (i + 2) n hi2 (by omega) (by omega) (by omega) hn0 hn1
          have hok := (okR_all hw q).1 (d + 1) (i + 2) n hi2
          cases hr : valR q ws (d + 1) (i + 2) n with
          | error e =>
            rw [hr] at hV hR
            obtain ⟨e, a⟩ := e
            refine LoopW.round (pol := polG) mixP ?_
            conv => whnf
            repeat' ((first
             | ((with_reducible first | refine Br.dec ?_ ?_ | refine Br.ndec ?_ ?_) <;> intro hb <;> (try simp only [ZZ] at hb) <;> (first | omega | contradiction | skip))
             | (with_reducible first | refine Br.tt rfl ?_ | refine Br.ff rfl ?_ | refine Br.ff (isEmptyCons _ _) ?_)
             | ((with_reducible first | refine Side.mk ?_ ?_ | refine WrapW.mk ?_ ?_); focus (first | omega | (dsimp only [InR, Int.reduceToNat, IntKind.bits, Int.reducePow]; omega) | (simp [CC]; done) | (constructor <;> omega)))
             | with_reducible refine Br.not ?_
             | (with_reducible first | refine Br.tt (by assumption) ?_ | refine Br.ff (by assumption) ?_)
             | (refine Br.mk ?_ ?_ <;> intro hb <;> (try simp only [ZZ] at hb) <;> (first | omega | contradiction | skip))
             | refine Src.whole ⟨rfl, rfl⟩ ?_ | refine FrzV.whole ?_
             | refine CallW.use (hW0) ?_
             | refine CallW.use (hC) ?_
             | refine CallW.use (hV) ?_
             | ((refine MapG.mk _ hks hg ?_; conv => whnf))) <;> conv => whnf)
            · refine PostCl.of (hp _ _ hR.symm _) ?_ ?_
              · repeat first | exact trivial | refine ⟨VLe.refl _, ?_⟩
              · repeat first | exact trivial | refine ⟨by decide, ?_⟩
          | ok x =>
            obtain ⟨x, j, m⟩ := x
            rw [hr] at hV hR hok
            obtain ⟨g1, g2, g3, g4⟩ := hok
            have hatj := (hw.at g2).1
            have hnd' : ((acc ++ [(s, x)]).map (·.1)).Nodup := by
              rw [List.map_append, List.map_cons, List.map_nil]
              refine List.nodup_append.2 ⟨hnd, by simp, ?_⟩
              intro a ha b hb
              rw [List.mem_singleton.1 hb]
              exact fun e => hnm (by rw [← show a = s from e]; exact ha)
            have hstr' : ∀ p ∈ acc ++ [(s, x)], p.1.length ≤ 65536 := by
              intro p hp
              rcases List.mem_append.1 hp with hp | hp
              · exact hstr p hp
              · rw [List.mem_singleton.1 hp]; exact htx
            have hal : (acc ++ [(s, x)]).length ≤ m := by rw [List.length_append, List.length_singleton]; omega
            have hU := hU x
            have hUv := hUv x
            dsimp only [] at hR
            cases h125 : isS (wdAt ws j) [125] with
            | true =>
              rw [if_pos h125] at hR
              have hT := take_yes (n := m) hatj hl h125
              have hM := jread_made (acc ++ [(s, x)]) hnd' (by omega) (fun p hp => Nat.le_trans (hstr' p hp) (by decide))
              refine LoopW.round (pol := polG) mixP ?_
              conv => whnf
              repeat' ((first
               | ((with_reducible first | refine Br.dec ?_ ?_ | refine Br.ndec ?_ ?_) <;> intro hb <;> (try simp only [ZZ] at hb) <;> (first | omega | contradiction | skip))
               | (with_reducible first | refine Br.tt rfl ?_ | refine Br.ff rfl ?_ | refine Br.ff (isEmptyCons _ _) ?_)
               | ((with_reducible first | refine Side.mk ?_ ?_ | refine WrapW.mk ?_ ?_); focus (first | omega | (dsimp only [InR, Int.reduceToNat, IntKind.bits, Int.reducePow]; omega) | (simp [CC]; done) | (constructor <;> omega)))
               | with_reducible refine Br.not ?_
               | (with_reducible first | refine Br.tt (by assumption) ?_ | refine Br.ff (by assumption) ?_)
               | (refine Br.mk ?_ ?_ <;> intro hb <;> (try simp only [ZZ] at hb) <;> (first | omega | contradiction | skip))
               | refine Src.whole ⟨rfl, rfl⟩ ?_ | refine FrzV.whole ?_
               | refine CallW.use (hW0) ?_
               | refine CallW.use (hC) ?_
               | refine CallW.use (hV) ?_
               | refine CallW.use (hT) ?_
               | refine CallW.use (hM) ?_
               | ((refine MapG.mk _ hks hg ?_; conv => whnf))
               | ((refine MapU.mk _ _ hks hU hUv ?_; conv => whnf))) <;> conv => whnf)
              · refine PostCl.of (h0 _ (j + 1) m hR.symm _) ?_ ?_
                · repeat first | exact trivial | refine ⟨VLe.refl _, ?_⟩
                · repeat first | exact trivial | refine ⟨by decide, ?_⟩
            | false =>
              rw [if_neg (by rw [h125]; decide)] at hR
              have hT := take_no (n := m) hatj hl h125
              cases h44 : isS (wdAt ws j) [44] with
              | true =>
                rw [if_pos h44] at hR
                have hW := want_yes (n := m) hatj hl h44
                refine LoopW.round (pol := polG) mixP ?_
                conv => whnf
                repeat' ((first
                 | ((with_reducible first | refine Br.dec ?_ ?_ | refine Br.ndec ?_ ?_) <;> intro hb <;> (try simp only [ZZ] at hb) <;> (first | omega | contradiction | skip))
                 | (with_reducible first | refine Br.tt rfl ?_ | refine Br.ff rfl ?_ | refine Br.ff (isEmptyCons _ _) ?_)
                 | ((with_reducible first | refine Side.mk ?_ ?_ | refine WrapW.mk ?_ ?_); focus (first | omega | (dsimp only [InR, Int.reduceToNat, IntKind.bits, Int.reducePow]; omega) | (simp [CC]; done) | (constructor <;> omega)))
                 | with_reducible refine Br.not ?_
                 | (with_reducible first | refine Br.tt (by assumption) ?_ | refine Br.ff (by assumption) ?_)
                 | (refine Br.mk ?_ ?_ <;> intro hb <;> (try simp only [ZZ] at hb) <;> (first | omega | contradiction | skip))
                 | refine Src.whole ⟨rfl, rfl⟩ ?_ | refine FrzV.whole ?_
                 | refine CallW.use (hW0) ?_
                 | refine CallW.use (hC) ?_
                 | refine CallW.use (hV) ?_
                 | refine CallW.use (hT) ?_
                 | refine CallW.use (hW) ?_
                 | ((refine MapG.mk _ hks hg ?_; conv => whnf))
                 | ((refine MapU.mk _ _ hks hU hUv ?_; conv => whnf))) <;> conv => whnf)
                refine LoopW.ren [0, 1, 2] (ih (j + 1) m (acc ++ [(s, x)]) (by omega) (hw.end_ j g2 (by rw [(isS_k h44).1]; decide)) (by omega) (by omega) g4 hal hnd' hstr' hR) (by repeat first | exact trivial | refine ⟨⟨rfl, VLe.refl _⟩, ?_⟩) (by repeat first | exact trivial | refine ⟨by decide, ?_⟩) rfl rfl
              | false =>
                rw [if_neg (by rw [h44]; decide)] at hR
                have hW := want_no (n := m) hatj hl h44
                refine LoopW.round (pol := polG) mixP ?_
                conv => whnf
                repeat' ((first
                 | ((with_reducible first | refine Br.dec ?_ ?_ | refine Br.ndec ?_ ?_) <;> intro hb <;> (try simp only [ZZ] at hb) <;> (first | omega | contradiction | skip))
                 | (with_reducible first | refine Br.tt rfl ?_ | refine Br.ff rfl ?_ | refine Br.ff (isEmptyCons _ _) ?_)
                 | ((with_reducible first | refine Side.mk ?_ ?_ | refine WrapW.mk ?_ ?_); focus (first | omega | (dsimp only [InR, Int.reduceToNat, IntKind.bits, Int.reducePow]; omega) | (simp [CC]; done) | (constructor <;> omega)))
                 | with_reducible refine Br.not ?_
                 | (with_reducible first | refine Br.tt (by assumption) ?_ | refine Br.ff (by assumption) ?_)
                 | (refine Br.mk ?_ ?_ <;> intro hb <;> (try simp only [ZZ] at hb) <;> (first | omega | contradiction | skip))
                 | refine Src.whole ⟨rfl, rfl⟩ ?_ | refine FrzV.whole ?_
                 | refine CallW.use (hW0) ?_
                 | refine CallW.use (hC) ?_
                 | refine CallW.use (hV) ?_
                 | refine CallW.use (hT) ?_
                 | refine CallW.use (hW) ?_
                 | ((refine MapG.mk _ hks hg ?_; conv => whnf))
                 | ((refine MapU.mk _ _ hks hU hUv ?_; conv => whnf))) <;> conv => whnf)
                · refine PostCl.of (hp _ _ hR.symm _) ?_ ?_
                  · repeat first | exact trivial | refine ⟨VLe.refl _, ?_⟩
                  · repeat first | exact trivial | refine ⟨by decide, ?_⟩
    · rw [if_pos hk] at hR
      generalize hwd : wdAt ws i = w at *
      obtain ⟨k, s, a⟩ := w
      simp only [] at hk
      refine LoopW.round (pol := polG) mixP ?_
      conv => whnf
      repeat' ((first
       | ((with_reducible first | refine Br.dec ?_ ?_ | refine Br.ndec ?_ ?_) <;> intro hb <;> (try simp only [ZZ] at hb) <;> (first | omega | contradiction | skip))
       | (with_reducible first | refine Br.tt rfl ?_ | refine Br.ff rfl ?_ | refine Br.ff (isEmptyCons _ _) ?_)
       | ((with_reducible first | refine Side.mk ?_ ?_ | refine WrapW.mk ?_ ?_); focus (first | omega | (dsimp only [InR, Int.reduceToNat, IntKind.bits, Int.reducePow]; omega) | (simp [CC]; done) | (constructor <;> omega)))
       | with_reducible refine Br.not ?_
       | (with_reducible first | refine Br.tt (by assumption) ?_ | refine Br.ff (by assumption) ?_)
       | (refine Br.mk ?_ ?_ <;> intro hb <;> (try simp only [ZZ] at hb) <;> (first | omega | contradiction | skip))
       | refine Src.whole ⟨rfl, rfl⟩ ?_ | refine FrzV.whole ?_
       | refine CallW.use (hW0) ?_
       | refine CallW.use (hF4) ?_) <;> conv => whnf)
      · refine PostCl.of (hp _ _ hR.symm _) ?_ ?_
        · repeat first | exact trivial | refine ⟨VLe.refl _, ?_⟩
        · repeat first | exact trivial | refine ⟨by decide, ?_⟩
theorem reader_pairs_step (ws : List Wd) (hw : WsOk ws) (q : Nat) (hv : ∀ p, p < q + 1 → ValAt ws p) : PairsAt ws (q + 1) := by
  intro d i n hi hq h0 h1 h2 h3
  have hat := (hw.at hi).1
  have hws := hw.len
  have hl : ws.length ≤ 1073741824 := by omega
  rw [pairsR]
  cases h93 : isS (wdAt ws i) [125] with
  | true =>
    rw [if_pos rfl]
    have hT := take_yes (n := n) hat hl h93
    have hM := jread_made [] (by simp) (by simp) (by simp)
    refine absCall_of (pol := polG) mixP F.jread_reader_pairs_is ?_
    conv => whnf
    repeat' ((first
     | ((with_reducible first | refine Br.dec ?_ ?_ | refine Br.ndec ?_ ?_) <;> intro hb <;> (try simp only [ZZ] at hb) <;> (first | omega | contradiction | skip))
     | (with_reducible first | refine Br.tt rfl ?_ | refine Br.ff rfl ?_ | refine Br.ff (isEmptyCons _ _) ?_)
     | ((with_reducible first | refine Side.mk ?_ ?_ | refine WrapW.mk ?_ ?_); focus (first | omega | (dsimp only [InR, Int.reduceToNat, IntKind.bits, Int.reducePow]; omega) | (simp [CC]; done) | (constructor <;> omega)))
     | with_reducible refine Br.not ?_
     | (with_reducible first | refine Br.tt (by assumption) ?_ | refine Br.ff (by assumption) ?_)
     | (refine Br.mk ?_ ?_ <;> intro hb <;> (try simp only [ZZ] at hb) <;> (first | omega | contradiction | skip))
     | refine Src.whole ⟨rfl, rfl⟩ ?_ | refine FrzV.whole ?_
     | refine CallW.use (hT) ?_
     | refine CallW.use (hM) ?_) <;> conv => whnf)
    exact CLe.refl _
  | false =>
    rw [if_neg (by decide)]
    have hT := take_no (n := n) hat hl h93
    have hlp := entries_loop ws hw q (fun r hr => hv r (by omega)) d h0 h1 (entriesR q ws d i n [])
    generalize hR : entriesR q ws d i n [] = R at *
    refine absCall_of (pol := polG) mixP F.jread_reader_pairs_is ?_
    conv => whnf
    repeat' ((first
     | ((with_reducible first | refine Br.dec ?_ ?_ | refine Br.ndec ?_ ?_) <;> intro hb <;> (try simp only [ZZ] at hb) <;> (first | omega | contradiction | skip))
     | (with_reducible first | refine Br.tt rfl ?_ | refine Br.ff rfl ?_ | refine Br.ff (isEmptyCons _ _) ?_)
     | ((with_reducible first | refine Side.mk ?_ ?_ | refine WrapW.mk ?_ ?_); focus (first | omega | (dsimp only [InR, Int.reduceToNat, IntKind.bits, Int.reducePow]; omega) | (simp [CC]; done) | (constructor <;> omega)))
     | with_reducible refine Br.not ?_
     | (with_reducible first | refine Br.tt (by assumption) ?_ | refine Br.ff (by assumption) ?_)
     | (refine Br.mk ?_ ?_ <;> intro hb <;> (try simp only [ZZ] at hb) <;> (first | omega | contradiction | skip))
     | refine Src.whole ⟨rfl, rfl⟩ ?_ | refine FrzV.whole ?_
     | refine CallW.use (hT) ?_) <;> conv => whnf)
    refine LoopW.cl ?_
    refine LoopW.ren [0, 1, 2] (hlp _ (fun t j m h H => ?_) (fun e a h H => ?_) q i n [] (Nat.le_refl _) hi (by omega) h2 h3 (by simpa using h2) (by simp) (by simp) hR) (by repeat first | exact trivial | refine ⟨⟨rfl, VLe.refl _⟩, ?_⟩) (by repeat first | exact trivial | refine ⟨by decide, ?_⟩) rfl rfl
    all_goals conv => whnf
    · subst h
      obtain ⟨x1, x2, x3, x4, x5⟩ := t
      exact CLe.refl _
    · subst h
      exact CLe.refl _
theorem reader_all (ws : List Wd) (hw : WsOk ws) : ∀ q, (∀ p, p < q + 1 → ValAt ws p) := by
  intro q
  induction q with
  | zero =>
    intro p hp d i n hi hq
    omega
  | succ q ih =>
    intro p hp
    rcases Nat.lt_or_ge p (q + 1) with h | h
    · exact ih p h
    · obtain rfl : p = q + 1 := by omega
      refine reader_value_step ws hw q ?_ ?_
      · rcases q with _ | q
        · intro d i n hi hq; omega
        · exact reader_list_step ws hw q fun p hp => ih p (by omega)
      · rcases q with _ | q
        · intro d i n hi hq; omega
        · exact reader_pairs_step ws hw q fun p hp => ih p (by omega)
theorem reader_value (ws : List Wd) (hw : WsOk ws) (q : Nat) : ValAt ws q := reader_all ws hw q q (by omega)
def seqL : Code → Code
  | .seq a _ => a
  | c => c
def seqR : Code → Code
  | .seq _ b => b
  | c => c
noncomputable abbrev whole_cl : Code := F.jread_whole_1_c.getD .skip
theorem cl_shape : ∃ o0 o1 : Oper, whole_cl = .seq (.region 0 #[o0, o1] false) (seqR whole_cl) ∧ o0.op = .call ⟨.builtin .recover, #[], #[]⟩ ∧ o0.dst = some 6 ∧ o0.guard = none ∧ o1.op = .assign (.tmp 6) ∧ o1.dst = some 3 ∧ o1.guard = none :=
  ⟨_, _, rfl, rfl, rfl, rfl, rfl, rfl, rfl⟩
theorem cl_run {B : Nat → Prop} {L : Am.Loc} {w : World} {vs : List Value} {H : Heap} (hst : St B L w H) (ha : VRelL B L w [.ptr 0 0, .ptr 1 0, .ptr 2 0] vs) (hg : GOk GG B w) (x : V) (y : Value) (hy : VRel B L w x y) (u u' : FrameMode)
    (hrec : ∀ (c₀ : Frame) (cs : List Frame), c₀.mode = u → recoverD (c₀ :: cs) = some (y, { c₀ with mode := u' } :: cs) ∨ (recoverD (c₀ :: cs) = none ∧ y = .nilIface ∧ u' = u))
    (K : Post) (hW : W PP GG polG 23 4 (seqR whole_cl) [(3, x), (6, x), (0, .ptr 0 0), (1, .ptr 1 0), (2, .ptr 2 0)] H [] K) (hK : ∀ ex σ H' mv', K ex σ H' mv' → ex = .normal ∧ mv' = []) :
    CallsD PP F.jread_whole_1 vs.toArray u w fun e u2 w' => (∃ r, e = .returned r) ∧ u2 = u' ∧ ∃ ex σ H' B' L', K ex σ H' [] ∧ FS 4 B L w H [] B' L' w' H' [] ∧ St B' L' w' H' := by
  obtain ⟨⟨fn, hfn, hbody, hnt, hrs, hname⟩, _, hok⟩ := F.jread_whole_1_is
  obtain ⟨o0, o1, hc, h0, hd0, hg0, h1, hd1, hg1⟩ := cl_shape
  refine callsD_of_wpS hfn hbody fun c₀ cs hm => ?_
  show whole_cl.wpS PP _ _ _ _
  have hargs : vs.length = 3 := ha.1.symm
  have he : ERel B L w (toEnv 23 [(0, .ptr 0 0), (1, .ptr 1 0), (2, .ptr 2 0)]) (vs.toArray ++ Array.replicate (fn.ntmps - vs.toArray.size) undef) := by
    have e : (vs.toArray ++ Array.replicate (fn.ntmps - vs.toArray.size) undef).toList = vs ++ List.replicate 20 undef := by
      rw [Array.toList_append, Array.toList_replicate, List.size_toArray, hargs, hnt]
    have e2 : toEnv 23 [(0, .ptr 0 0), (1, .ptr 1 0), (2, .ptr 2 0)] = [.ptr 0 0, .ptr 1 0, .ptr 2 0] ++ List.replicate 20 V.junk := rfl
    rw [e2]
    unfold ERel
    rw [e]
    refine ha.append ⟨by simp, fun i x y hx _ => ?_⟩
    rw [List.getElem?_replicate] at hx
    split at hx
    · cases hx; exact .junk _
    · cases hx
  generalize vs.toArray ++ Array.replicate (fn.ntmps - vs.toArray.size) undef = tmps at he
  -- what comes behind the recover
  have rest : ∀ cs', cs' = { c₀ with mode := u' } :: cs → ((seqR whole_cl).wpS PP (bodyPostS PP fn c₀ cs fun e u2 w' => (∃ r, e = .returned r) ∧ u2 = u' ∧ ∃ ex σ H' B' L', K ex σ H' [] ∧ FS 4 B L w H [] B' L' w' H' [] ∧ St B' L' w' H')
      ((({ tmps := tmps, defers := [] } : Act).put (some 6) y).put (some 3) y) cs' w) := by
    intro cs' hcs
    refine wpS_of_wp ?_
    have he1 := (he.put (a := { tmps := tmps, defers := [] }) (some 6) hy).put (a := ({ tmps := tmps, defers := [] } : Act).put (some 6) y) (some 3) hy
    simp only [putO, toEnv_set] at he1
    have hb : Bdd 23 ([(3, x), (6, x), (0, .ptr 0 0), (1, .ptr 1 0), (2, .ptr 2 0)] : Env) := BddL.bdd ⟨by decide, by decide, by decide, by decide, by decide, trivial⟩
    refine W_sound mixP _ hW hb hst he1 hg fun e a' w' hp => ?_
    obtain ⟨ex, σ1, H1, mv1, hK1, hb1, B1, L1, hfs, he2, hst1, hk1, hd1, hm1⟩ := hp
    obtain ⟨rfl, rfl⟩ := hK _ _ _ _ hK1
    cases e with
    | normal =>
      obtain ⟨v, hv, _⟩ := results_run (fr := ⟨toEnv 23 σ1, H1, 4, []⟩) (fn := fn) (vs := []) hst1 he2 (by rw [hrs]; rfl)
      exact ⟨hd1, u', hcs, v, hv, ⟨v, rfl⟩, rfl, _, _, _, B1, L1, hK1, hfs, hst1⟩
    | _ => exact hm1.elim
  rw [hc]
  refine wpS_seq (wpS_region ?_)
  have hl : List.range (#[o0, o1] : Array Oper).size = [0, 1] := rfl
  rw [hl]
  have hsz : tmps.size = 23 := by have := he.1; simp at this; rw [← this]; rfl
  have e0 : (execOp ({ tmps := tmps, defers := [] } : Act).eval o0).run PP w = .ok .recover w := by
    simp [execOp, h0, resolve, invoke, builtin, Result.andThen]
  have e1 : ∀ z : Value, (execOp (({ tmps := tmps, defers := [] } : Act).put (some 6) z).eval o1).run PP w = .ok (.value z) w := by
    intro z
    simp [execOp, h1, Act.eval, Act.put, Array.getD, hsz]
  have ho0 : (#[o0, o1] : Array Oper)[0]? = some o0 := rfl
  have ho1 : (#[o0, o1] : Array Oper)[1]? = some o1 := rfl
  rcases hrec c₀ cs hm with hr | ⟨hr, rfl, rfl⟩
  · simp only [wpOpsS, ho0, ho1, Region.wanted, hg0, hg1, if_true, e0, hr, hd0, e1, Oper.upon_value, hd1, Exit.thenS]
    exact rest _ rfl
  · simp only [wpOpsS, ho0, ho1, Region.wanted, hg0, hg1, if_true, e0, hr, hd0, e1, Oper.upon_value, hd1, Exit.thenS]
    exact rest _ (by rw [← hm])
def whH (t : Str) (v f : PV) (o : HO) : Heap := [.var T.string (.p (.str t)), .var T.api_Value (.p v), .var T.api_Fault (.p f), o]
def whE (t : Str) (v f : PV) : Post := fun ex _ H mv => ex = .normal ∧ mv = [] ∧ ∃ o, H = [.var T.string (.p (.str t)), .var T.api_Value (.p v), .var T.api_Fault (.p f), .dead, o]
theorem cl_none (t : Str) (v f : PV) {B : Nat → Prop} {L : Am.Loc} {w : World} {vs : List Value} (hst : St B L w (whH t v f .dead)) (ha : VRelL B L w [.ptr 0 0, .ptr 1 0, .ptr 2 0] vs) (hg : GOk GG B w) :
    CallsD PP F.jread_whole_1 vs.toArray .returning w fun e u2 w' => (∃ r, e = .returned r) ∧ u2 = .returning ∧ ∃ ex σ H' B' L', whE t v f ex σ H' [] ∧ FS 4 B L w (whH t v f .dead) [] B' L' w' H' [] ∧ St B' L' w' H' := by
  refine cl_run hst ha hg (.p .nili) .nilIface (.p _ _ .nili) .returning .returning (fun c₀ cs hm => .inr ⟨?_, rfl, rfl⟩) (whE t v f) ?_ (fun ex σ H' mv' h => ⟨h.1, h.2.1⟩)
  · simp [recoverD, hm]
  · unfold whH
    conv => whnf
    repeat' ((first
     | ((with_reducible first | refine Br.dec ?_ ?_ | refine Br.ndec ?_ ?_) <;> intro hb <;> (try simp only [ZZ] at hb) <;> (first | omega | contradiction | skip))
     | (with_reducible first | refine Br.tt rfl ?_ | refine Br.ff rfl ?_ | refine Br.ff (isEmptyCons _ _) ?_)
     | ((with_reducible first | refine Side.mk ?_ ?_ | refine WrapW.mk ?_ ?_); focus (first | omega | (dsimp only [InR, Int.reduceToNat, IntKind.bits, Int.reducePow]; omega) | (simp [CC]; done) | (constructor <;> omega)))
     | with_reducible refine Br.not ?_
     | (with_reducible first | refine Br.tt (by assumption) ?_ | refine Br.ff (by assumption) ?_)
     | (refine Br.mk ?_ ?_ <;> intro hb <;> (try simp only [ZZ] at hb) <;> (first | omega | contradiction | skip))
     | refine Src.whole ⟨rfl, rfl⟩ ?_ | refine FrzV.whole ?_) <;> conv => whnf)
    exact ⟨rfl, rfl, _, rfl⟩
theorem cl_some (t : Str) (ht : t.length ≤ 1073741824) (e a : Int) (ha0 : -1073741824 ≤ a ∧ a ≤ 1073741824) (a1 a2 a3 a4 a5 : PV) {B : Nat → Prop} {L : Am.Loc} {w : World} {vs : List Value} (hst : St B L w (whH t (.agg [a1, a2, a3, a4, a5]) noFault .dead)) (ha : VRelL B L w [.ptr 0 0, .ptr 1 0, .ptr 2 0] vs) (hg : GOk GG B w) (y : Value) (hy : VRel B L w (wrongP e a) y) :
    CallsD PP F.jread_whole_1 vs.toArray (.panicking [⟨y, false, false⟩]) w fun e' u2 w' => (∃ r, e' = .returned r) ∧ u2 = .panicking [⟨y, true, false⟩] ∧ ∃ ex σ H' B' L', whE t (.agg [.int .i64 0, .int .i64 0, .str [], .nils, .nils]) (faultP t a e) ex σ H' [] ∧ FS 4 B L w (whH t (.agg [a1, a2, a3, a4, a5]) noFault .dead) [] B' L' w' H' [] ∧ St B' L' w' H' := by
  have hF := place_Fault t a e ha0 ht
  refine cl_run hst ha hg (wrongP e a) y hy (.panicking [⟨y, false, false⟩]) (.panicking [⟨y, true, false⟩]) (fun c₀ cs hm => .inl ?_) (whE t (.agg [.int .i64 0, .int .i64 0, .str [], .nils, .nils]) (faultP t a e)) ?_ (fun ex σ H' mv' h => ⟨h.1, h.2.1⟩)
  · simp [recoverD, hm]
  · unfold whH noFault
    conv => whnf
    repeat' ((first
     | ((with_reducible first | refine Br.dec ?_ ?_ | refine Br.ndec ?_ ?_) <;> intro hb <;> (try simp only [ZZ] at hb) <;> (first | omega | contradiction | skip))
     | (with_reducible first | refine Br.tt rfl ?_ | refine Br.ff rfl ?_ | refine Br.ff (isEmptyCons _ _) ?_)
     | ((with_reducible first | refine Side.mk ?_ ?_ | refine WrapW.mk ?_ ?_); focus (first | omega | (dsimp only [InR, Int.reduceToNat, IntKind.bits, Int.reducePow]; omega) | (simp [CC]; done) | (constructor <;> omega)))
     | with_reducible refine Br.not ?_
     | (with_reducible first | refine Br.tt (by assumption) ?_ | refine Br.ff (by assumption) ?_)
     | (refine Br.mk ?_ ?_ <;> intro hb <;> (try simp only [ZZ] at hb) <;> (first | omega | contradiction | skip))
     | refine Src.whole ⟨rfl, rfl⟩ ?_ | refine FrzV.whole ?_
     | refine CallW.use (hF) ?_) <;> conv => whnf)
    exact ⟨rfl, rfl, _, rfl⟩
end Go.Proofs.YtoinkmogdfjmmaaGreatDoor
end
