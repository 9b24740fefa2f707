/-
Paths: steps, their texts, their order.
-/
import Derived.Lib.Replace
import Derived.Lib.Small
import Derived.Lib.SplitLaws
import Derived.Test.YthkoefpidnphpaaGreatDoorPF
import Derived.Lib.SlTrimSet

section
namespace Go.Am
open Go
structure Stp where
  k : Str
  a : Int
  p : Bool
deriving DecidableEq
def Stp.enc (s : Stp) : PV := .agg [.str s.k, .int .i64 s.a, .bool s.p]
def encS (l : List Stp) : List PV := l.map Stp.enc
theorem encS_length (l : List Stp) : (encS l).length = l.length := List.length_map _
theorem encS_get {l : List Stp} {i : Nat} {s : Stp} (h : l[i]? = some s) : (encS l)[i]? = some s.enc := by unfold encS; rw [List.getElem?_map, h]; rfl
def stpOk (s : Stp) : Bool := if s.p = true then decide (s.k = [] ∧ 0 ≤ s.a ∧ s.a ≤ 1000000000) else decide (s.a = 0) && strOk s.k
def pathOk (l : List Stp) : Bool := decide (l.length ≤ 50) && l.all stpOk
theorem replK_ne {c b : UInt8} (h : b ≠ c) (new l : Str) : ∀ k, Lib.replaceK [c] new k (b :: l) = b :: Lib.replaceK [c] new k l
  | 0 => rfl
  | k + 1 => by
    rw [Lib.replaceK, Lib.replaceK]
    have hp : ([c] : Str).isPrefixOf (b :: l) = false := by simp [List.isPrefixOf]; exact fun e => h e.symm
    have hi : Lib.index (b :: l) [c] = if Lib.index l [c] == -1 then -1 else Lib.index l [c] + 1 := by rw [Lib.index, hp]; rfl
    have hge := Lib.index_ge l [c]
    rw [hi]
    by_cases h0 : Lib.index l [c] = -1
    · simp [h0]
    · have h1 : (Lib.index l [c] == -1) = false := by simpa using h0
      rw [h1]
      simp only [Bool.false_eq_true, if_false]
      have h2 : (Lib.index l [c] + 1 == -1) = false := by rw [beq_eq_false_iff_ne]; omega
      rw [h2]
      obtain ⟨i, hi'⟩ : ∃ i : Nat, Lib.index l [c] = i := ⟨(Lib.index l [c]).toNat, by omega⟩
      rw [hi']
      simp only [Bool.false_eq_true, if_false]
      rw [show ((i : Int) + 1).toNat = i + 1 by omega, Int.toNat_natCast]
      simp [List.take_succ_cons, show i + 1 + 1 = (i + 1) + 1 from rfl, List.drop_succ_cons]
theorem replAll_one {c : UInt8} {new : Str} (hne : ([c] : Str) ≠ new) (s : Str) : Lib.replaceAll s [c] new = s.flatMap fun b => if b = c then new else [b] := by
  have key : ∀ s : Str, Lib.replaceK [c] new (Lib.count s [c]) s = s.flatMap fun b => if b = c then new else [b] := by
    intro s
    induction s with
    | nil => rfl
    | cons b l ih =>
      by_cases hb : b = c
      · subst hb
        rw [Lib.count_cons_eq, Nat.add_comm, Lib.replaceK]
        have hi : Lib.index (b :: l) [b] = 0 := by rw [Lib.index]; simp [List.isPrefixOf]
        rw [hi]
        simp [ih]
      · rw [Lib.count_cons_ne b c l hb, replK_ne hb, ih]
        simp [hb]
  unfold Lib.replaceAll Lib.replace
  have : (([c] : Str) == new) = false := by simpa using hne
  rw [this]
  simp only [Bool.false_eq_true, if_false]
  unfold Lib.replaceNum
  rw [if_pos (.inl (by decide))]
  exact key s
def escB (b : UInt8) : Str := if b = 126 then [126, 48] else if b = 47 then [126, 49] else [b]
def escK (k : Str) : Str := k.flatMap escB
theorem esc_repl (k : Str) : Lib.replaceAll (Lib.replaceAll k [126] [126, 48]) [47] [126, 49] = escK k := by
  rw [replAll_one (by decide), replAll_one (by decide), List.flatMap_assoc]
  unfold escK
  congr 1
  funext b
  unfold escB
  by_cases h : b = 126
  · subst h; decide
  · rw [if_neg h, if_neg h]
    simp
theorem escK_len (k : Str) : (escK k).length ≤ 2 * k.length := by
  unfold escK
  induction k with
  | nil => simp
  | cons b k ih =>
    rw [List.flatMap_cons, List.length_append, List.length_cons]
    have : (escB b).length ≤ 2 := by unfold escB; repeat' split
                                     all_goals simp
    omega
def placedL (s : Str) : Bool := decide (s ≠ [] ∧ (∀ b ∈ s, dig b = true) ∧ (s = [48] ∨ s.head? ≠ some 48))
def tildeK (s : Str) : Bool := decide (s.take 2 = [126, 107])
def stpText (s : Stp) : Str := if s.p = true then Lib.itoa s.a else if placedL s.k = true ∨ tildeK s.k = true then [126, 107] ++ escK s.k else escK s.k
def textL : List Stp → Str
  | [] => []
  | s :: l => 47 :: (stpText s ++ textL l)
theorem textL_app (l r : List Stp) : textL (l ++ r) = textL l ++ textL r := by
  induction l with
  | nil => rfl
  | cons s l ih => rw [List.cons_append, textL, textL, ih]; simp
def ordS (a b : Stp) : Int := if a.p = true ∧ b.p = true then Lib.compareInt a.a b.a else if a.p = true then -1 else if b.p = true then 1 else Lib.compareBytes a.k b.k
def cmpL : List Stp → List Stp → Int
  | [], [] => 0
  | [], _ :: _ => -1
  | _ :: _, [] => 1
  | a :: l, b :: r => if ordS a b ≠ 0 then ordS a b else cmpL l r
structure Ord3 {α : Type} (f : α → α → Int) (ok : α → Prop) : Prop where
  val : ∀ a b, f a b = -1 ∨ f a b = 0 ∨ f a b = 1
  anti : ∀ a b, f b a = - f a b
  zero : ∀ a b, ok a → ok b → (f a b = 0 ↔ a = b)
  same : ∀ a b c, f a b = 0 → f a c = f b c
  less : ∀ a b c, f a b = -1 → f b c = -1 → f a c = -1
theorem Ord3.trans {α : Type} {f : α → α → Int} {ok : α → Prop} (h : Ord3 f ok) (a b c : α) (e : f a b = f b c) : f a c = f a b := by
  rcases h.val a b with h1 | h1 | h1
  · rw [h1] at e ⊢; exact h.less a b c h1 e.symm
  · rw [h1] at e ⊢; rw [h.same a b c h1]; exact e.symm
  · rw [h1] at e ⊢
    have h2 := h.anti b c
    have h3 := h.anti a b
    have h4 := h.anti c a
    have := h.less c b a (by omega) (by omega)
    omega
theorem int_ord : Ord3 Lib.compareInt (fun _ => True) := by
  refine ⟨fun a b => ?_, fun a b => ?_, fun a b _ _ => ?_, fun a b c h => ?_, fun a b c h1 h2 => ?_⟩ <;> unfold Lib.compareInt at * <;> repeat' split at *
  all_goals first | omega | (constructor <;> intro <;> omega) | (constructor <;> intro h <;> first | omega | cases h)
theorem u8_lt {a b : UInt8} : a < b ↔ a.toNat < b.toNat := UInt8.lt_iff_toNat_lt
theorem u8_eq {a b : UInt8} : a = b ↔ a.toNat = b.toNat := UInt8.toNat_inj.symm
theorem bytes_val : ∀ a b : Str, Lib.compareBytes a b = -1 ∨ Lib.compareBytes a b = 0 ∨ Lib.compareBytes a b = 1
  | [], [] => by simp [Lib.compareBytes]
  | [], _ :: _ => by simp [Lib.compareBytes]
  | _ :: _, [] => by simp [Lib.compareBytes]
  | a :: l, b :: r => by
    rw [Lib.compareBytes]
    split
    · simp
    split
    · simp
    · exact bytes_val l r
theorem bytes_anti : ∀ a b : Str, Lib.compareBytes b a = - Lib.compareBytes a b
  | [], [] => by simp [Lib.compareBytes]
  | [], _ :: _ => by simp [Lib.compareBytes]
  | _ :: _, [] => by simp [Lib.compareBytes]
  | a :: l, b :: r => by
    rw [Lib.compareBytes, Lib.compareBytes]
    have h1 := @u8_lt a b
    have h2 := @u8_lt b a
    by_cases h : a < b
    · have h' : ¬ b < a := by rw [h2]; rw [h1] at h; omega
      simp only [if_pos h, if_neg h']
      decide
    · by_cases h' : b < a
      · simp only [if_pos h', if_neg h]
      · simp only [if_neg h', if_neg h]
        exact bytes_anti l r
theorem bytes_zero : ∀ a b : Str, Lib.compareBytes a b = 0 ↔ a = b
  | [], [] => by simp [Lib.compareBytes]
  | [], _ :: _ => by simp [Lib.compareBytes]
  | _ :: _, [] => by simp [Lib.compareBytes]
  | a :: l, b :: r => by
    rw [Lib.compareBytes]
    have h1 := @u8_lt a b
    have h2 := @u8_lt b a
    have h3 := @u8_eq a b
    split
    · rename_i h
      constructor
      · intro e; cases e
      · intro e; cases e; rw [h1] at h; omega
    split
    · rename_i _ h
      constructor
      · intro e; cases e
      · intro e; cases e; rw [h2] at h; omega
    · rename_i g1 g2
      have e : a = b := by rw [h3]; rw [h1] at g1; rw [h2] at g2; omega
      subst e
      rw [bytes_zero l r]
      simp
theorem bytes_less : ∀ a b c : Str, Lib.compareBytes a b = -1 → Lib.compareBytes b c = -1 → Lib.compareBytes a c = -1
  | [], [], _, h, _ => by simp [Lib.compareBytes] at h
  | _ :: _, [], _, h, _ => by simp [Lib.compareBytes] at h
  | _, _ :: _, [], _, h => by simp [Lib.compareBytes] at h
  | [], _ :: _, _ :: _, _, _ => by simp [Lib.compareBytes]
  | a :: l, b :: r, c :: s, h1, h2 => by
    rw [Lib.compareBytes] at h1 h2 ⊢
    have e1 := @u8_lt a b
    have e2 := @u8_lt b a
    have e3 := @u8_lt b c
    have e4 := @u8_lt c b
    have e5 := @u8_lt a c
    have e6 := @u8_lt c a
    by_cases g1 : a < b
    · by_cases g3 : c < b
      · rw [if_neg (by rw [e3]; rw [e4] at g3; omega), if_pos g3] at h2; cases h2
      · rw [if_pos (by rw [e5]; rw [e1] at g1; rw [e4] at g3; omega)]
    · rw [if_neg g1] at h1
      by_cases g2 : b < a
      · rw [if_pos g2] at h1; cases h1
      · rw [if_neg g2] at h1
        by_cases g3 : b < c
        · rw [if_pos (by rw [e5]; rw [e1] at g1; rw [e2] at g2; rw [e3] at g3; omega)]
        · rw [if_neg g3] at h2
          by_cases g4 : c < b
          · rw [if_pos g4] at h2; cases h2
          · rw [if_neg g4] at h2
            rw [if_neg (by rw [e5]; rw [e1] at g1; rw [e2] at g2; rw [e3] at g3; rw [e4] at g4; omega), if_neg (by rw [e6]; rw [e1] at g1; rw [e2] at g2; rw [e3] at g3; rw [e4] at g4; omega)]
            exact bytes_less l r s h1 h2
theorem stp_ord : Ord3 ordS (fun s => stpOk s = true) := by
  refine ⟨fun a b => ?_, fun a b => ?_, fun a b ha hb => ?_, fun a b c h => ?_, fun a b c h1 h2 => ?_⟩
  · unfold ordS
    split
    · exact int_ord.val _ _
    split
    · exact .inl rfl
    split
    · exact .inr (.inr rfl)
    · exact bytes_val _ _
  · obtain ⟨ak, aa, ap⟩ := a
    obtain ⟨bk, ba, bp⟩ := b
    unfold ordS
    cases ap <;> cases bp <;> simp
    · exact bytes_anti _ _
    · exact int_ord.anti _ _
  · obtain ⟨ak, aa, ap⟩ := a
    obtain ⟨bk, ba, bp⟩ := b
    unfold ordS
    unfold stpOk at ha hb
    cases ap <;> cases bp <;> simp at ha hb ⊢
    · rw [bytes_zero, ha.1, hb.1]; simp
    · rw [int_ord.zero _ _ trivial trivial, ha.1, hb.1]; simp
  · obtain ⟨ak, aa, ap⟩ := a
    obtain ⟨bk, ba, bp⟩ := b
    obtain ⟨ck, ca, cp⟩ := c
    unfold ordS at h ⊢
    cases ap <;> cases bp <;> simp at h ⊢
    · rw [(bytes_zero _ _).1 h]
    · rw [(int_ord.zero _ _ trivial trivial).1 h]
  · obtain ⟨ak, aa, ap⟩ := a
    obtain ⟨bk, ba, bp⟩ := b
    obtain ⟨ck, ca, cp⟩ := c
    unfold ordS at h1 h2 ⊢
    cases ap <;> cases bp <;> cases cp <;> simp at h1 h2 ⊢
    · exact bytes_less _ _ _ h1 h2
    · exact int_ord.less _ _ _ h1 h2
theorem cmp_val : ∀ a b, cmpL a b = -1 ∨ cmpL a b = 0 ∨ cmpL a b = 1
  | [], [] => by simp [cmpL]
  | [], _ :: _ => by simp [cmpL]
  | _ :: _, [] => by simp [cmpL]
  | a :: l, b :: r => by
    rw [cmpL]
    split
    · exact stp_ord.val a b
    · exact cmp_val l r
theorem cmp_anti : ∀ a b, cmpL b a = - cmpL a b
  | [], [] => by simp [cmpL]
  | [], _ :: _ => by simp [cmpL]
  | _ :: _, [] => by simp [cmpL]
  | a :: l, b :: r => by
    rw [cmpL, cmpL]
    have := stp_ord.anti a b
    by_cases h : ordS a b = 0
    · rw [if_neg (by omega), if_neg (by omega), cmp_anti l r]
    · rw [if_pos (by omega), if_pos (by omega), this]
theorem cmp_zero : ∀ a b, (∀ x ∈ a, stpOk x = true) → (∀ x ∈ b, stpOk x = true) → (cmpL a b = 0 ↔ a = b)
  | [], [], _, _ => by simp [cmpL]
  | [], _ :: _, _, _ => by simp [cmpL]
  | _ :: _, [], _, _ => by simp [cmpL]
  | a :: l, b :: r, ha, hb => by
    rw [cmpL]
    have h := stp_ord.zero a b (ha a (by simp)) (hb b (by simp))
    by_cases h0 : ordS a b = 0
    · rw [if_neg (by omega), cmp_zero l r (fun x hx => ha x (by simp [hx])) (fun x hx => hb x (by simp [hx])), h.1 h0]; simp
    · rw [if_pos h0]
      constructor
      · intro e; exact absurd e h0
      · intro e; cases e; exact absurd (h.2 rfl) h0
theorem cmp_same : ∀ a b c, cmpL a b = 0 → cmpL a c = cmpL b c
  | [], [], _, _ => rfl
  | [], _ :: _, _, h => by simp [cmpL] at h
  | _ :: _, [], _, h => by simp [cmpL] at h
  | a :: l, b :: r, c, h => by
    rw [cmpL] at h
    split at h
    · rename_i h0; exact absurd h h0
    · rename_i h0
      have h0 : ordS a b = 0 := by omega
      cases c with
      | nil => rfl
      | cons c s =>
        rw [cmpL, cmpL, stp_ord.same a b c h0, cmp_same l r s h]
theorem cmp_less : ∀ a b c, cmpL a b = -1 → cmpL b c = -1 → cmpL a c = -1
  | [], [], _, h, _ => by simp [cmpL] at h
  | _ :: _, [], _, h, _ => by simp [cmpL] at h
  | _, _ :: _, [], _, h => by simp [cmpL] at h
  | [], _ :: _, _ :: _, _, _ => by simp [cmpL]
  | a :: l, b :: r, c :: s, h1, h2 => by
    rw [cmpL] at h1 h2 ⊢
    have hv := stp_ord.val a b
    by_cases g1 : ordS a b = 0
    · rw [if_neg (by omega)] at h1
      rw [stp_ord.same a b c g1]
      split
      · rename_i g2; rw [if_pos g2] at h2; exact h2
      · rename_i g2
        rw [if_neg g2] at h2
        exact cmp_less l r s h1 h2
    · rw [if_pos g1] at h1
      by_cases g2 : ordS b c = 0
      · have e : ordS a c = ordS a b := by
          have e1 := stp_ord.anti a c
          have e2 := stp_ord.anti a b
          have e3 := stp_ord.same b c a g2
          omega
        rw [e, if_pos g1]; exact h1
      · rw [if_pos g2] at h2
        have := stp_ord.less a b c h1 h2
        rw [if_pos (by omega)]; exact this
theorem cmp_ord : Ord3 cmpL (fun l => ∀ x ∈ l, stpOk x = true) := ⟨cmp_val, cmp_anti, cmp_zero, cmp_same, cmp_less⟩
theorem escB_ne (b : UInt8) : escB b ≠ [] := by unfold escB; repeat' split
                                                all_goals simp
theorem escB_slash (b : UInt8) : ∀ x ∈ escB b, x ≠ 47 := by
  intro x hx
  unfold escB at hx
  split at hx
  · rcases List.mem_cons.1 hx with rfl | hx
    · decide
    · rw [List.mem_singleton.1 hx]; decide
  split at hx
  · rcases List.mem_cons.1 hx with rfl | hx
    · decide
    · rw [List.mem_singleton.1 hx]; decide
  · rename_i h; rw [List.mem_singleton.1 hx]; exact h
theorem escK_slash (k : Str) : ∀ x ∈ escK k, x ≠ 47 := by
  intro x hx
  obtain ⟨b, _, hb⟩ := List.mem_flatMap.1 hx
  exact escB_slash b x hb
theorem escK_cons (b : UInt8) (k : Str) : escK (b :: k) = escB b ++ escK k := rfl
theorem escB_form (b : UInt8) : (b = 126 ∧ escB b = [126, 48]) ∨ (b = 47 ∧ escB b = [126, 49]) ∨ (b ≠ 126 ∧ b ≠ 47 ∧ escB b = [b]) := by
  unfold escB
  by_cases h1 : b = 126
  · exact .inl ⟨h1, if_pos h1⟩
  · rw [if_neg h1]
    by_cases h2 : b = 47
    · exact .inr (.inl ⟨h2, if_pos h2⟩)
    · exact .inr (.inr ⟨h1, h2, if_neg h2⟩)
theorem escK_inj : ∀ k k' : Str, escK k = escK k' → k = k'
  | [], [], _ => rfl
  | [], b :: k', h => by
    have := congrArg List.length h
    rw [escK_cons, List.length_append] at this
    have h2 := List.length_pos_iff.2 (escB_ne b)
    have h0 : (escK []).length = 0 := rfl
    omega
  | b :: k, [], h => by
    have := congrArg List.length h
    rw [escK_cons, List.length_append] at this
    have h2 := List.length_pos_iff.2 (escB_ne b)
    have h0 : (escK []).length = 0 := rfl
    omega
  | b :: k, c :: k', h => by
    rw [escK_cons, escK_cons] at h
    rcases escB_form b with ⟨h1, e1⟩ | ⟨h1, e1⟩ | ⟨h1, h1', e1⟩ <;> rcases escB_form c with ⟨h2, e2⟩ | ⟨h2, e2⟩ | ⟨h2, h2', e2⟩ <;> rw [e1, e2] at h <;> simp only [List.cons_append, List.nil_append, List.cons.injEq] at h
    · rw [h1, h2, escK_inj k k' h.2.2]
    · exact absurd h.2.1 (by decide)
    · exact absurd h.1.symm h2
    · exact absurd h.2.1 (by decide)
    · rw [h1, h2, escK_inj k k' h.2.2]
    · exact absurd h.1.symm h2
    · exact absurd h.1 h1
    · exact absurd h.1 h1
    · rw [h.1, escK_inj k k' h.2]
theorem escK_tilde (k : Str) (r : Str) : escK k ≠ 126 :: 107 :: r := by
  intro h
  cases k with
  | nil => simp [escK] at h
  | cons b k =>
    rw [escK_cons] at h
    rcases escB_form b with ⟨_, e1⟩ | ⟨_, e1⟩ | ⟨h1, _, e1⟩ <;> rw [e1] at h <;> simp only [List.cons_append, List.nil_append, List.cons.injEq] at h
    · exact absurd h.2.1 (by decide)
    · exact absurd h.2.1 (by decide)
    · exact h1 h.1
theorem escK_dig : ∀ k : Str, (∀ b ∈ escK k, dig b = true) → escK k = k
  | [], _ => rfl
  | b :: k, h => by
    rw [escK_cons] at h ⊢
    rcases escB_form b with ⟨_, e1⟩ | ⟨_, e1⟩ | ⟨_, _, e1⟩
    · have := h 126 (by rw [e1]; simp); exact absurd this (by decide)
    · have := h 126 (by rw [e1]; simp); exact absurd this (by decide)
    · rw [e1, escK_dig k fun x hx => h x (by simp [hx])]; rfl
theorem itoa_nat (u : Nat) : (∀ b ∈ Lib.itoa (u : Int), dig b = true) ∧ Lib.itoa (u : Int) ≠ [] ∧ placedL (Lib.itoa (u : Int)) = true := by
  rw [Lib.itoa_nonneg]
  have h1 := digits_dig u
  have h2 := digits_ne u
  refine ⟨h1, h2, ?_⟩
  unfold placedL
  rw [decide_eq_true_eq]
  refine ⟨h2, h1, ?_⟩
  by_cases h0 : u = 0
  · subst h0
    left
    rw [Lib.decDigits, dif_pos (by omega)]
    rfl
  · right
    obtain ⟨c, y, e, hc⟩ := digits_head u h0
    rw [e]
    simpa using hc
theorem dig_slash {b : UInt8} (h : dig b = true) : b ≠ 47 ∧ b ≠ 126 := by
  unfold dig at h
  have := of_decide_eq_true h
  constructor <;> intro e <;> subst e <;> revert this <;> decide
theorem stpText_slash {s : Stp} (h : stpOk s = true) : ∀ b ∈ stpText s, b ≠ 47 := by
  intro b hb
  unfold stpText at hb
  split at hb
  · rename_i hp
    unfold stpOk at h
    rw [if_pos hp, decide_eq_true_eq] at h
    obtain ⟨u, hu⟩ := Int.eq_ofNat_of_zero_le h.2.1
    rw [hu] at hb
    exact (dig_slash ((itoa_nat u).1 b hb)).1
  split at hb
  · rcases List.mem_append.1 hb with hb | hb
    · rcases List.mem_cons.1 hb with rfl | hb
      · decide
      · rw [List.mem_singleton.1 hb]; decide
    · exact escK_slash _ b hb
  · exact escK_slash _ b hb
theorem stpText_inj {s t : Stp} (hs : stpOk s = true) (ht : stpOk t = true) (h : stpText s = stpText t) : s = t := by
  obtain ⟨sk, sa, sp⟩ := s
  obtain ⟨tk, ta, tp⟩ := t
  unfold stpOk at hs ht
  -- a place against a key
  have cross : ∀ (u : Nat) (k : Str), Lib.itoa (u : Int) = (if placedL k = true ∨ tildeK k = true then [126, 107] ++ escK k else escK k) → False := by
    intro u k h
    obtain ⟨h1, h2, h3⟩ := itoa_nat u
    split at h
    · have := h1 126 (by rw [h]; simp)
      exact absurd this (by decide)
    · rename_i hn
      rw [h] at h1 h3
      have e := escK_dig k h1
      rw [e] at h3
      exact hn (.inl h3)
  cases sp <;> cases tp <;> unfold stpText at h <;> simp only [Bool.false_eq_true, if_false, if_true, Bool.and_eq_true, decide_eq_true_eq] at hs ht h
  · obtain ⟨rfl, _⟩ := hs
    obtain ⟨rfl, _⟩ := ht
    have : sk = tk := by
      split at h <;> split at h
      · exact escK_inj _ _ (by simpa using h)
      · exact absurd h.symm (escK_tilde tk (escK sk))
      · exact absurd h (escK_tilde sk (escK tk))
      · exact escK_inj _ _ h
    rw [this]
  · obtain ⟨rfl, h1, _⟩ := ht
    obtain ⟨u, rfl⟩ := Int.eq_ofNat_of_zero_le h1
    exact (cross u sk h.symm).elim
  · obtain ⟨rfl, h1, _⟩ := hs
    obtain ⟨u, rfl⟩ := Int.eq_ofNat_of_zero_le h1
    exact (cross u tk h).elim
  · obtain ⟨rfl, h1, h1'⟩ := hs
    obtain ⟨rfl, h2, h2'⟩ := ht
    rw [itoa_inj ⟨by omega, by omega⟩ ⟨by omega, by omega⟩ h]
theorem split_slash : ∀ {x y r r' : Str}, (∀ b ∈ x, b ≠ 47) → (∀ b ∈ y, b ≠ 47) → (r = [] ∨ ∃ z, r = 47 :: z) → (r' = [] ∨ ∃ z, r' = 47 :: z) → x ++ r = y ++ r' → x = y ∧ r = r'
  | [], [], _, _, _, _, _, _, h => ⟨rfl, h⟩
  | [], c :: y, r, r', _, hy, hr, _, h => by
    rcases hr with rfl | ⟨z, rfl⟩
    · simp at h
    · simp only [List.nil_append, List.cons_append, List.cons.injEq] at h
      exact absurd h.1.symm (hy c (by simp))
  | c :: x, [], r, r', hx, _, _, hr, h => by
    rcases hr with rfl | ⟨z, rfl⟩
    · simp at h
    · simp only [List.nil_append, List.cons_append, List.cons.injEq] at h
      exact absurd h.1 (hx c (by simp))
  | c :: x, d :: y, r, r', hx, hy, hr, hr', h => by
    simp only [List.cons_append, List.cons.injEq] at h
    obtain ⟨e1, e2⟩ := split_slash (fun b hb => hx b (by simp [hb])) (fun b hb => hy b (by simp [hb])) hr hr' h.2
    exact ⟨by rw [h.1, e1], e2⟩
theorem textL_head : ∀ l : List Stp, textL l = [] ∨ ∃ z, textL l = 47 :: z
  | [] => .inl rfl
  | s :: l => .inr ⟨_, rfl⟩
theorem textL_inj : ∀ {a b : List Stp}, (∀ x ∈ a, stpOk x = true) → (∀ x ∈ b, stpOk x = true) → (textL a = textL b ↔ a = b)
  | [], [], _, _ => by simp
  | [], b :: r, _, _ => by simp [textL]
  | a :: l, [], _, _ => by simp [textL]
  | a :: l, b :: r, ha, hb => by
    constructor
    · intro h
      rw [textL, textL] at h
      simp only [List.cons.injEq, true_and] at h
      obtain ⟨e1, e2⟩ := split_slash (stpText_slash (ha a (by simp))) (stpText_slash (hb b (by simp))) (textL_head l) (textL_head r) h
      rw [stpText_inj (ha a (by simp)) (hb b (by simp)) e1, (textL_inj (fun x hx => ha x (by simp [hx])) (fun x hx => hb x (by simp [hx]))).1 e2]
    · intro h; rw [h]
end Go.Am
end

section
namespace Go.Proofs.YthkoefpidnphpaaGreatDoor
open Go Go.Am Go.RowKit
set_option maxRecDepth 100000
theorem strings_Compare (a b : Str) (H : Heap) : AbsCall PP GG F.strings_Compare [.p (.str a), .p (.str b)] H ⟨.ret (.p (.int .i64 (Lib.compareBytes a b))), H, []⟩ := by
  refine absBelow fun B L w vs _ ha hg => ?_
  obtain ⟨v, u, rfl, hv, hu⟩ := vrel2 ha
  obtain rfl := vstr hv
  obtain rfl := vstr hu
  refine CallTo.of_calls Tryz.func115 (by kernel_rfl) rfl ((Tryz.strings_Compare ⟨a.toArray⟩ ⟨b.toArray⟩ w).mono ?_)
  rintro e w' ⟨rfl, rfl⟩
  exact ⟨Below.refl _ _, _, rfl, .p _ _ (.int _ _)⟩
theorem cmp_Compare_int (a b : Int) (H : Heap) : AbsCall PP GG F.cmp_Compare_int [.p (.int .i64 a), .p (.int .i64 b)] H ⟨.ret (.p (.int .i64 (Lib.compareInt a b))), H, []⟩ := by
  refine absBelow fun B L w vs _ ha hg => ?_
  obtain ⟨v, u, rfl, hv, hu⟩ := vrel2 ha
  obtain rfl := vint hv
  obtain rfl := vint hu
  refine CallTo.of_calls Tryz.func114 (by kernel_rfl) rfl ((Tryz.cmp_Compare_int a b w).mono ?_)
  rintro e w' ⟨rfl, rfl⟩
  exact ⟨Below.refl _ _, _, rfl, .p _ _ (.int _ _)⟩
theorem strconv_Itoa (n : Int) (hn : -9223372036854775808 ≤ n ∧ n ≤ 9223372036854775807) (H : Heap) : AbsCall PP GG F.strconv_Itoa [.p (.int .i64 n)] H ⟨.ret (.p (.str (Lib.itoa n))), H, []⟩ := by
  refine absBelow fun B L w vs _ ha hg => ?_
  obtain ⟨v, rfl, hv⟩ := vrel1 ha
  obtain rfl := vint hv
  refine CallTo.of_calls Tryz.func100 (by kernel_rfl) rfl ((Tryz.strconv_Itoa n hn.1 hn.2 w (tab_of_gok hg (by rw [pow10_lit]; rfl) gPow)).mono ?_)
  rintro e w' ⟨rfl, k, os, rfl⟩
  exact ⟨Lib.below_grow _ _ (Nat.le_refl _) _ _, _, rfl, .p _ _ (.str _)⟩
theorem strings_Trim (s c : Str) (hs : s.length ≤ 9223372036854775807) (hc : c.length < 4294967281) (h2 : ∀ (j : Nat) (b : UInt8), c[j]? = some b → b.toNat < 128) (H : Heap) :
    AbsCall PP GG F.strings_Trim [.p (.str s), .p (.str c)] H ⟨.ret (.p (.str (Lib.trimS s c))), H, []⟩ := by
  refine absBelow fun B L w vs _ ha hg => ?_
  obtain ⟨v, u, rfl, hv, hu⟩ := vrel2 ha
  obtain rfl := vstr hv
  obtain rfl := vstr hu
  refine CallTo.of_calls Tryz.func141 (by kernel_rfl) rfl ((Tryz.strings_Trim_laid ⟨s.toArray⟩ ⟨c.toArray⟩ w (by simpa [ByteArray.size] using hs) (by simpa [ByteArray.size] using hc) (by simpa using h2)).mono ?_)
  rintro e w' ⟨rfl, hb⟩
  exact ⟨hb, _, rfl, by simpa using VRel.p _ _ (.str _)⟩
theorem strings_HasPrefix (s p : Str) (H : Heap) : AbsCall PP GG F.strings_HasPrefix [.p (.str s), .p (.str p)] H ⟨.ret (.p (.bool (Lib.hasPrefix s p))), H, []⟩ := by
  refine absBelow fun B L w vs _ ha hg => ?_
  obtain ⟨v, u, rfl, hv, hu⟩ := vrel2 ha
  obtain rfl := vstr hv
  obtain rfl := vstr hu
  refine CallTo.of_calls Tryz.func101 (by kernel_rfl) rfl ((Tryz.strings_HasPrefix ⟨s.toArray⟩ ⟨p.toArray⟩ w).mono ?_)
  rintro e w' ⟨rfl, rfl⟩
  exact ⟨Below.refl _ _, _, rfl, by simpa using VRel.p _ _ (.bool _)⟩
theorem strings_TrimPrefix (s p : Str) (H : Heap) : AbsCall PP GG F.strings_TrimPrefix [.p (.str s), .p (.str p)] H ⟨.ret (.p (.str (Lib.trimPrefix s p))), H, []⟩ := by
  refine absBelow fun B L w vs _ ha hg => ?_
  obtain ⟨v, u, rfl, hv, hu⟩ := vrel2 ha
  obtain rfl := vstr hv
  obtain rfl := vstr hu
  refine CallTo.of_calls Tryz.func98 (by kernel_rfl) rfl ((Tryz.strings_TrimPrefix ⟨s.toArray⟩ ⟨p.toArray⟩ w).mono ?_)
  rintro e w' ⟨rfl, rfl⟩
  exact ⟨Below.refl _ _, _, rfl, by simpa using VRel.p _ _ (.str _)⟩
theorem maxLen_cell {B : Nat → Prop} {w : World} (h : GOk GG B w) : ∃ m, w.cell? ⟨Gl.internal_bytealg_MaxLen, 0, none⟩ = some (.int .i64 m) := by
  obtain ⟨h1, _⟩ := h Gl.internal_bytealg_MaxLen (.anyi .i64) rfl
  cases h1 with
  | cptr d b o u hb hw hf hc hr =>
    have h0 := hr 0 (.anyi .i64) rfl
    have hc0 := hc 0 (by decide)
    generalize u 0 = v at h0 hc0
    cases h0
    exact ⟨_, hc0⟩
theorem strings_ReplaceAll (s old new : Str) (hs : s.length < 4294967281) (h1 : 1 ≤ old.length) (hl : s.length + s.length * new.length ≤ 140737488355328) (H : Heap) :
    AbsCall PP GG F.strings_ReplaceAll [.p (.str s), .p (.str old), .p (.str new)] H ⟨.ret (.p (.str (Lib.replaceAll s old new))), H, []⟩ := by
  refine absBelow fun B L w vs _ ha hg => ?_
  obtain ⟨v, u, t, rfl, hv, hu, ht⟩ := vrel3 ha
  obtain rfl := vstr hv
  obtain rfl := vstr hu
  obtain rfl := vstr ht
  obtain ⟨m, hm⟩ := maxLen_cell hg
  have hc : Lib.countB ⟨s.toArray⟩ ⟨old.toArray⟩ ≤ s.length := by
    have := Lib.countB_le ⟨old.toArray⟩ (by simpa [ByteArray.size] using h1) s.length ⟨s.toArray⟩ (by simp [ByteArray.size])
    simpa [ByteArray.size] using this
  have hc2 : Lib.countB ⟨s.toArray⟩ ⟨old.toArray⟩ * new.length ≤ s.length * new.length := Nat.mul_le_mul_right _ hc
  refine CallTo.of_calls Tryz.func99 (by kernel_rfl) rfl ((Tryz.strings_ReplaceAll ⟨s.toArray⟩ ⟨old.toArray⟩ ⟨new.toArray⟩ m w (by simpa [ByteArray.size] using hs) hm (by simpa [ByteArray.size] using h1) (by simp [ByteArray.size]; omega)).mono ?_)
  rintro e w' ⟨rfl, hb⟩
  exact ⟨hb, _, rfl, by simpa using VRel.p _ _ (.str _)⟩
theorem cell_new (w : World) (c : Array Value) (t : TypeId) (k : Nat) (v : Value) (h : c[k]? = some v) : (w.alloc (.cells c t)).cell? ⟨w.heap.size, 0 + k, none⟩ = some v := by
  have e : (w.alloc (.cells c t)).heap[w.heap.size]? = some (.cells c t) := Array.getElem?_push_size
  unfold World.cell?
  rw [e, Nat.zero_add]
  exact h
theorem size_new (w : World) (o : Obj) : w.heap.size < (w.alloc o).heap.size := by
  have : (w.alloc o).heap.size = w.heap.size + 1 := Array.size_push _
  omega
theorem strings_Split (s sep : Str) (hs : s.length < 4294967281) (h1 : 1 ≤ sep.length) (H : Heap) :
    AbsCall PP GG F.strings_Split [.p (.str s), .p (.str sep)] H ⟨.ret (.p (.lst false ((Lib.split s sep).map PV.str))), H, []⟩ := by
  refine absBelow fun B L w vs hst ha hg => ?_
  obtain ⟨v, u, rfl, hv, hu⟩ := vrel2 ha
  obtain rfl := vstr hv
  obtain rfl := vstr hu
  obtain ⟨m, hm⟩ := maxLen_cell hg
  refine CallTo.of_calls Tryz.func56 (by kernel_rfl) rfl ((Tryz.strings_Split ⟨s.toArray⟩ ⟨sep.toArray⟩ m w (by simpa [ByteArray.size] using hs) hm (by simpa [ByteArray.size] using h1)).mono ?_)
  rintro e w' ⟨rfl, rfl⟩
  have hdat := Lib.splitB_data ⟨sep.toArray⟩ 0 (Lib.countB ⟨s.toArray⟩ ⟨sep.toArray⟩) ⟨s.toArray⟩
  have hlen := Lib.splitB_all ⟨sep.toArray⟩ (by simpa [ByteArray.size] using h1) 0 (Lib.countB ⟨s.toArray⟩ ⟨sep.toArray⟩) ⟨s.toArray⟩ rfl
  have hsp : Lib.split s sep = (Lib.splitB ⟨sep.toArray⟩ 0 (Lib.countB ⟨s.toArray⟩ ⟨sep.toArray⟩) ⟨s.toArray⟩).map (·.data.toList) := by rw [hdat]; rfl
  generalize Lib.splitB ⟨sep.toArray⟩ 0 (Lib.countB ⟨s.toArray⟩ ⟨sep.toArray⟩) ⟨s.toArray⟩ = l at *
  generalize Lib.countB ⟨s.toArray⟩ ⟨sep.toArray⟩ = n at *
  have hflat : ∀ q : List Str, flat (q.map PV.str) = q.map PV.str := by
    intro q
    induction q with
    | nil => rfl
    | cons x q ih => rw [List.map_cons, flat_cons, ih]; rfl
  have hall : ∀ x ∈ (Lib.split s sep).map PV.str, x.cells.length = 1 := fun x hx => by obtain ⟨y, _, rfl⟩ := List.mem_map.1 hx; rfl
  have hlf : ∀ x ∈ flat ((Lib.split s sep).map PV.str), x.leaf = true := fun x hx => by rw [hflat] at hx; obtain ⟨y, _, rfl⟩ := List.mem_map.1 hx; rfl
  have hl : ((Lib.split s sep).map PV.str).length = n + 1 := by rw [List.length_map, hsp, List.length_map, hlen]
  have hB : ¬ B w.heap.size := fun h => absurd (hst.bnd _ h) (Nat.lt_irrefl _)
  refine ⟨(Below.refl _ _).alloc (Nat.le_refl _) _, _, rfl, .p _ _ ?_⟩
  have := PRel.lst (B := B) (w := w.alloc (.cells ((l.map Value.string).toArray) T.string)) false ((Lib.split s sep).map PV.str) w.heap.size 0 (n + 1) 1 (fun k => ((l.map Value.string)[k]?).getD undef) hB (size_new _ _) (Nat.le_refl _) hall hlf
    (by rw [hl]; exact Nat.le_refl _) (fun e => by cases e) (fun k hk => ?_) (fun k x hx => ?_)
  · rw [hl] at this
    exact this
  · rw [hflat, List.length_map, hsp, List.length_map] at hk
    refine cell_new _ _ _ _ _ ?_
    simp [hk]
  · rw [hflat, List.getElem?_map, hsp, List.getElem?_map] at hx
    cases hq : l[k]? with
    | none => rw [hq] at hx; simp at hx
    | some y =>
      rw [hq] at hx
      simp at hx
      subst hx
      simp only [List.getElem?_map, hq, Option.map_some, Option.getD_some]
      have := PRel.str (B := B) (w := w.alloc (.cells ((l.map Value.string).toArray) T.string)) y.data.toList
      simpa using this
theorem ElemZ.stp {l : List Stp} {i : Nat} {K : PV → Prop} {s : Stp} (h : l[i]? = some s) (k : K (.agg [.str s.k, .int .i64 s.a, .bool s.p])) : ElemZ (encS l) i 3 K := ⟨_, encS_get h, rfl, k⟩
theorem path_order (a b : Stp) (H : Heap) : AbsCall PP GG F.path_order [.p (.agg [.str a.k, .int .i64 a.a, .bool a.p]), .p (.agg [.str b.k, .int .i64 b.a, .bool b.p])] [] ⟨.ret (.p (.int .i64 (ordS a b))), [], []⟩ := by
  obtain ⟨ak, aa, ap⟩ := a
  obtain ⟨bk, ba, bp⟩ := b
  unfold ordS
  cases ap <;> cases bp
  · refine absCall_of (pol := polG) mixP F.path_order_is ?_
    conv => whnf
    repeat' ((first
     | ((with_reducible first | refine Br.dec ?_ ?_ | refine Br.ndec ?_ ?_) <;> intro hb <;> (try simp only [ZZ] at hb) <;> (first | omega | contradiction | skip))
     | (with_reducible first | refine Br.tt rfl ?_ | refine Br.ff rfl ?_ | refine Br.ff (isEmptyCons _ _) ?_)
     | ((with_reducible first | refine Side.mk ?_ ?_ | refine WrapW.mk ?_ ?_); focus (first | omega | (dsimp only [InR, Int.reduceToNat, IntKind.bits, Int.reducePow]; omega) | (simp [CC]; done) | (constructor <;> omega)))
     | with_reducible refine Br.not ?_
     | (with_reducible first | refine Br.tt (by assumption) ?_ | refine Br.ff (by assumption) ?_)
     | (refine Br.mk ?_ ?_ <;> intro hb <;> (try simp only [ZZ] at hb) <;> (first | omega | contradiction | skip))
     | refine Src.whole ⟨rfl, rfl⟩ ?_ | refine FrzV.whole ?_
     | refine CallW.use (strings_Compare ak bk _) ?_) <;> conv => whnf)
    exact CLe.retP rfl
  · refine absCall_of (pol := polG) mixP F.path_order_is ?_
    conv => whnf
    repeat' ((first
     | ((with_reducible first | refine Br.dec ?_ ?_ | refine Br.ndec ?_ ?_) <;> intro hb <;> (try simp only [ZZ] at hb) <;> (first | omega | contradiction | skip))
     | (with_reducible first | refine Br.tt rfl ?_ | refine Br.ff rfl ?_ | refine Br.ff (isEmptyCons _ _) ?_)
     | ((with_reducible first | refine Side.mk ?_ ?_ | refine WrapW.mk ?_ ?_); focus (first | omega | (dsimp only [InR, Int.reduceToNat, IntKind.bits, Int.reducePow]; omega) | (simp [CC]; done) | (constructor <;> omega)))
     | with_reducible refine Br.not ?_
     | (with_reducible first | refine Br.tt (by assumption) ?_ | refine Br.ff (by assumption) ?_)
     | (refine Br.mk ?_ ?_ <;> intro hb <;> (try simp only [ZZ] at hb) <;> (first | omega | contradiction | skip))
     | refine Src.whole ⟨rfl, rfl⟩ ?_ | refine FrzV.whole ?_) <;> conv => whnf)
    exact CLe.retP rfl
  · refine absCall_of (pol := polG) mixP F.path_order_is ?_
    conv => whnf
    repeat' ((first
     | ((with_reducible first | refine Br.dec ?_ ?_ | refine Br.ndec ?_ ?_) <;> intro hb <;> (try simp only [ZZ] at hb) <;> (first | omega | contradiction | skip))
     | (with_reducible first | refine Br.tt rfl ?_ | refine Br.ff rfl ?_ | refine Br.ff (isEmptyCons _ _) ?_)
     | ((with_reducible first | refine Side.mk ?_ ?_ | refine WrapW.mk ?_ ?_); focus (first | omega | (dsimp only [InR, Int.reduceToNat, IntKind.bits, Int.reducePow]; omega) | (simp [CC]; done) | (constructor <;> omega)))
     | with_reducible refine Br.not ?_
     | (with_reducible first | refine Br.tt (by assumption) ?_ | refine Br.ff (by assumption) ?_)
     | (refine Br.mk ?_ ?_ <;> intro hb <;> (try simp only [ZZ] at hb) <;> (first | omega | contradiction | skip))
     | refine Src.whole ⟨rfl, rfl⟩ ?_ | refine FrzV.whole ?_) <;> conv => whnf)
    exact CLe.retP rfl
  · refine absCall_of (pol := polG) mixP F.path_order_is ?_
    conv => whnf
    repeat' ((first
     | ((with_reducible first | refine Br.dec ?_ ?_ | refine Br.ndec ?_ ?_) <;> intro hb <;> (try simp only [ZZ] at hb) <;> (first | omega | contradiction | skip))
     | (with_reducible first | refine Br.tt rfl ?_ | refine Br.ff rfl ?_ | refine Br.ff (isEmptyCons _ _) ?_)
     | ((with_reducible first | refine Side.mk ?_ ?_ | refine WrapW.mk ?_ ?_); focus (first | omega | (dsimp only [InR, Int.reduceToNat, IntKind.bits, Int.reducePow]; omega) | (simp [CC]; done) | (constructor <;> omega)))
     | with_reducible refine Br.not ?_
     | (with_reducible first | refine Br.tt (by assumption) ?_ | refine Br.ff (by assumption) ?_)
     | (refine Br.mk ?_ ?_ <;> intro hb <;> (try simp only [ZZ] at hb) <;> (first | omega | contradiction | skip))
     | refine Src.whole ⟨rfl, rfl⟩ ?_ | refine FrzV.whole ?_
     | refine CallW.use (cmp_Compare_int aa ba _) ?_) <;> conv => whnf)
    exact CLe.retP rfl
theorem cmp_loop (a b : List Stp) (ha : a.length ≤ 9223372036854775807) (hb : b.length ≤ 9223372036854775807) (R : Int) (K : Post)
    (h0 : R = (if a.length < b.length then -1 else 0) → K (.exit 0) [(0, .p (.lst false (encS a))), (1, .p (.lst false (encS b)))] [] []) (hr : ∀ H : Heap, K .ret [(6, .p (.int .i64 R))] H []) :
    ∀ (q i : Nat), i + q = a.length → i ≤ b.length → R = cmpL (a.drop i) (b.drop i) → LoopW PP GG 39 0 (loopN F.slices_CompareFunc_path_Step_path_Step_path_Step_path_Step_c 0) [(0, .p (.lst false (encS a))), (1, .p (.lst false (encS b))), (2, .p (.fn (.func F.path_order))), (11, .p (.lst false (encS a))), (12, .p (.int .i64 a.length)), (13, .p (.int .i64 i))] [] [] (PostCl 39 K) := by
  have hla := encS_length a
  have hlb := encS_length b
  intro q
  induction q with
  | zero =>
    intro i hi hib hR
    obtain rfl : i = a.length := by omega
    rw [List.drop_length] at hR
    refine LoopW.round (pol := polG) mixP ?_
    conv => whnf
    repeat' ((first
     | ((with_reducible first | refine Br.dec ?_ ?_ | refine Br.ndec ?_ ?_) <;> intro hb <;> (try simp only [And.intro @hla (And.intro @hlb (ZZ))] at hb) <;> (first | omega | skip))
     | (with_reducible first | refine Br.tt rfl ?_ | refine Br.ff rfl ?_ | refine Br.ff (isEmptyCons _ _) ?_)
     | ((with_reducible first | refine Side.mk ?_ ?_ | refine WrapW.mk ?_ ?_); focus (first | omega | (dsimp only [InR, Int.reduceToNat, IntKind.bits, Int.reducePow]; omega) | (simp [CC]; done) | (constructor <;> omega)))
     | (refine Br.mk ?_ ?_ <;> intro hb <;> (try simp only [And.intro @hla (And.intro @hlb (ZZ))] at hb) <;> (first | omega | skip))
     | refine Src.whole ⟨rfl, rfl⟩ ?_ | refine FrzV.whole ?_) <;> conv => whnf)
    · refine PostCl.of (h0 ?_) ?_ ?_
      · rw [hR]
        cases hd : b.drop a.length with
        | nil =>
          have := congrArg List.length hd
          rw [List.length_drop] at this
          simp only [List.length_nil] at this
          rw [if_neg (by omega)]; rfl
        | cons x l =>
          have := congrArg List.length hd
          rw [List.length_drop] at this
          simp only [List.length_cons] at this
          rw [if_pos (by omega)]; rfl
      · repeat first | exact trivial | refine ⟨VLe.refl _, ?_⟩
      · repeat first | exact trivial | refine ⟨by decide, ?_⟩
  | succ q ih =>
    intro i hi hib hR
    obtain ⟨x, hx⟩ : ∃ x, a[i]? = some x := ⟨_, List.getElem?_eq_getElem (show i < a.length by omega)⟩
    have hxi : a[(i : Int).toNat]? = some x := by rw [Int.toNat_natCast]; exact hx
    rw [drop_cons hx] at hR
    have hcl : ∀ r : List Stp, cmpL (x :: r) [] = 1 := fun r => by rw [cmpL]
    by_cases hib' : i < b.length
    case neg =>
      rw [List.drop_eq_nil_of_le (show b.length ≤ i by omega), hcl] at hR
      subst hR
      refine LoopW.round (pol := polG) mixP ?_
      conv => whnf
      repeat' ((first
       | ((with_reducible first | refine Br.dec ?_ ?_ | refine Br.ndec ?_ ?_) <;> intro hb <;> (try simp only [And.intro @hla (And.intro @hlb (ZZ))] at hb) <;> (first | omega | skip))
       | (with_reducible first | refine Br.tt rfl ?_ | refine Br.ff rfl ?_ | refine Br.ff (isEmptyCons _ _) ?_)
       | ((with_reducible first | refine Side.mk ?_ ?_ | refine WrapW.mk ?_ ?_); focus (first | omega | (dsimp only [InR, Int.reduceToNat, IntKind.bits, Int.reducePow]; omega) | exact ⟨rfl, rfl⟩ | (simp [CC]; done) | (constructor <;> omega)))
       | (refine Br.mk ?_ ?_ <;> intro hb <;> (try simp only [And.intro @hla (And.intro @hlb (ZZ))] at hb) <;> (first | omega | skip))
       | refine Src.whole ⟨rfl, rfl⟩ ?_ | refine FrzV.whole ?_
       | (refine ElemZ.stp hxi ?_)) <;> conv => whnf)
      · refine PostCl.of (hr _) ?_ ?_
        · repeat first | exact trivial | refine ⟨VLe.refl _, ?_⟩
        · repeat first | exact trivial | refine ⟨by decide, ?_⟩
    obtain ⟨y, hy⟩ : ∃ y, b[i]? = some y := ⟨_, List.getElem?_eq_getElem hib'⟩
    have hyi : b[(i : Int).toNat]? = some y := by rw [Int.toNat_natCast]; exact hy
    rw [drop_cons hy, cmpL] at hR
    have ho := path_order x y []
    by_cases h0 : ordS x y = 0
    · rw [if_neg (by omega)] at hR
      have hl := ih (i + 1) (by omega) (by omega) hR
      rw [h0] at ho
      refine LoopW.round (pol := polG) mixP ?_
      conv => whnf
      repeat' ((first
       | ((with_reducible first | refine Br.dec ?_ ?_ | refine Br.ndec ?_ ?_) <;> intro hb <;> (try simp only [And.intro @hla (And.intro @hlb (ZZ))] at hb) <;> (first | omega | contradiction | skip))
       | (with_reducible first | refine Br.tt rfl ?_ | refine Br.ff rfl ?_ | refine Br.ff (isEmptyCons _ _) ?_)
       | ((with_reducible first | refine Side.mk ?_ ?_ | refine WrapW.mk ?_ ?_); focus (first | omega | (dsimp only [InR, Int.reduceToNat, IntKind.bits, Int.reducePow]; omega) | exact ⟨rfl, rfl⟩ | (simp [CC]; done) | (constructor <;> omega)))
       | with_reducible refine Br.not ?_
       | (with_reducible first | refine Br.tt (by assumption) ?_ | refine Br.ff (by assumption) ?_)
       | (refine Br.mk ?_ ?_ <;> intro hb <;> (try simp only [And.intro @hla (And.intro @hlb (ZZ))] at hb) <;> (first | omega | contradiction | skip))
       | refine Src.whole ⟨rfl, rfl⟩ ?_ | refine FrzV.whole ?_
       | refine CallW.use (ho) ?_
       | (refine ElemZ.stp hxi ?_)
       | (refine ElemZ.stp hyi ?_)) <;> conv => whnf)
      all_goals first | exact absurd (by assumption) (by decide) | skip
      refine LoopW.ren [] (hl) (by repeat first | exact trivial | refine ⟨⟨rfl, VLe.refl _⟩, ?_⟩) (by repeat first | exact trivial | refine ⟨by decide, ?_⟩) rfl rfl
    · rw [if_pos h0] at hR
      subst hR
      refine LoopW.round (pol := polG) mixP ?_
      conv => whnf
      repeat' ((first
       | ((with_reducible first | refine Br.dec ?_ ?_ | refine Br.ndec ?_ ?_) <;> intro hb <;> (try simp only [And.intro @hla (And.intro @hlb (ZZ))] at hb) <;> (first | omega | contradiction | skip))
       | (with_reducible first | refine Br.tt rfl ?_ | refine Br.ff rfl ?_ | refine Br.ff (isEmptyCons _ _) ?_)
       | ((with_reducible first | refine Side.mk ?_ ?_ | refine WrapW.mk ?_ ?_); focus (first | omega | (dsimp only [InR, Int.reduceToNat, IntKind.bits, Int.reducePow]; omega) | exact ⟨rfl, rfl⟩ | (simp [CC]; done) | (constructor <;> omega)))
       | with_reducible refine Br.not ?_
       | (with_reducible first | refine Br.tt (by assumption) ?_ | refine Br.ff (by assumption) ?_)
       | (refine Br.mk ?_ ?_ <;> intro hb <;> (try simp only [And.intro @hla (And.intro @hlb (ZZ))] at hb) <;> (first | omega | contradiction | skip))
       | refine Src.whole ⟨rfl, rfl⟩ ?_ | refine FrzV.whole ?_
       | refine CallW.use (ho) ?_
       | (refine ElemZ.stp hxi ?_)
       | (refine ElemZ.stp hyi ?_)) <;> conv => whnf)
      all_goals first | omega | skip
      refine PostCl.of (hr _) ?_ ?_
      · repeat first | exact trivial | refine ⟨VLe.refl _, ?_⟩
      · repeat first | exact trivial | refine ⟨by decide, ?_⟩
theorem path_Cmp (a b : List Stp) (ha : a.length ≤ 9223372036854775807) (hb : b.length ≤ 9223372036854775807) : AbsCall PP GG F.path_Cmp [.p (.lst false (encS a)), .p (.lst false (encS b))] [] ⟨.ret (.p (.int .i64 (cmpL a b))), [], []⟩ := by
  have hla := encS_length a
  have hlb := encS_length b
  have hC : AbsCall PP GG F.slices_CompareFunc_path_Step_path_Step_path_Step_path_Step [.p (.lst false (encS a)), .p (.lst false (encS b)), .p (.fn (.func F.path_order))] [] ⟨.ret (.p (.int .i64 (cmpL a b))), [], []⟩ := by
    have hlp := cmp_loop a b ha hb (cmpL a b)
    rw [← hla] at hlp
    generalize hR : cmpL a b = R at *
    refine absCall_of (pol := polG) mixP F.slices_CompareFunc_path_Step_path_Step_path_Step_path_Step_is ?_
    conv => whnf
    repeat' ((first
     | ((with_reducible first | refine Br.dec ?_ ?_ | refine Br.ndec ?_ ?_) <;> intro hb <;> (try simp only [And.intro @hla (ZZ)] at hb) <;> (first | omega | contradiction | skip))
     | (with_reducible first | refine Br.tt rfl ?_ | refine Br.ff rfl ?_ | refine Br.ff (isEmptyCons _ _) ?_)
     | ((with_reducible first | refine Side.mk ?_ ?_ | refine WrapW.mk ?_ ?_); focus (first | omega | (dsimp only [InR, Int.reduceToNat, IntKind.bits, Int.reducePow]; omega) | (simp [CC]; done) | (constructor <;> omega)))
     | with_reducible refine Br.not ?_
     | (with_reducible first | refine Br.tt (by assumption) ?_ | refine Br.ff (by assumption) ?_)
     | (refine Br.mk ?_ ?_ <;> intro hb <;> (try simp only [And.intro @hla (ZZ)] at hb) <;> (first | omega | contradiction | skip))
     | refine Src.whole ⟨rfl, rfl⟩ ?_ | refine FrzV.whole ?_) <;> conv => whnf)
    refine LoopW.cl ?_
    refine LoopW.sub (hlp _ (fun h => ?_) (fun H => ?_) _ 0 (Nat.zero_add _) (Nat.zero_le _) hR.symm) (by repeat first | exact trivial | refine ⟨VLe.refl _, ?_⟩) (by repeat first | exact trivial | refine ⟨by decide, ?_⟩)
    · rw [h]
      conv => whnf
      repeat' ((first
       | ((with_reducible first | refine Br.dec ?_ ?_ | refine Br.ndec ?_ ?_) <;> intro hb <;> (try simp only [And.intro @hla (And.intro @hlb (ZZ))] at hb) <;> (first | omega | contradiction | skip))
       | (with_reducible first | refine Br.tt rfl ?_ | refine Br.ff rfl ?_ | refine Br.ff (isEmptyCons _ _) ?_)
       | ((with_reducible first | refine Side.mk ?_ ?_ | refine WrapW.mk ?_ ?_); focus (first | omega | (dsimp only [InR, Int.reduceToNat, IntKind.bits, Int.reducePow]; omega) | (simp [CC]; done) | (constructor <;> omega)))
       | with_reducible refine Br.not ?_
       | (with_reducible first | refine Br.tt (by assumption) ?_ | refine Br.ff (by assumption) ?_)
       | (refine Br.mk ?_ ?_ <;> intro hb <;> (try simp only [And.intro @hla (And.intro @hlb (ZZ))] at hb) <;> (first | omega | contradiction | skip))
       | refine Src.whole ⟨rfl, rfl⟩ ?_ | refine FrzV.whole ?_) <;> conv => whnf)
      all_goals first | exact CLe.retP (by rw [if_pos (by omega)]) | exact CLe.retP (by rw [if_neg (by omega)])
    · conv => whnf
      exact CLe.retP rfl
  refine absCall_of (pol := polG) mixP F.path_Cmp_is ?_
  conv => whnf
  repeat' ((first
   | ((with_reducible first | refine Br.dec ?_ ?_ | refine Br.ndec ?_ ?_) <;> intro hb <;> (try simp only [ZZ] at hb) <;> (first | omega | contradiction | skip))
   | (with_reducible first | refine Br.tt rfl ?_ | refine Br.ff rfl ?_ | refine Br.ff (isEmptyCons _ _) ?_)
   | ((with_reducible first | refine Side.mk ?_ ?_ | refine WrapW.mk ?_ ?_); focus (first | omega | (dsimp only [InR, Int.reduceToNat, IntKind.bits, Int.reducePow]; omega) | (simp [CC]; done) | (constructor <;> omega)))
   | with_reducible refine Br.not ?_
   | (with_reducible first | refine Br.tt (by assumption) ?_ | refine Br.ff (by assumption) ?_)
   | (refine Br.mk ?_ ?_ <;> intro hb <;> (try simp only [ZZ] at hb) <;> (first | omega | contradiction | skip))
   | refine Src.whole ⟨rfl, rfl⟩ ?_ | refine FrzV.whole ?_
   | refine CallW.use (hC) ?_) <;> conv => whnf)
  exact CLe.retP rfl
end Go.Proofs.YthkoefpidnphpaaGreatDoor
end

section
namespace Go.Am
open Go
theorem d10_dig : ∀ n : Nat, n < 256 → d10.contains n.toUInt8 = dig n.toUInt8 := by decide +kernel
theorem d10_eq (b : UInt8) : d10.contains b = dig b := by
  have := d10_dig b.toNat (UInt8.toNat_lt b)
  rwa [show b.toNat.toUInt8 = b by simp] at this
theorem d10_asc (j : Nat) (b : UInt8) (h : d10[j]? = some b) : b.toNat < 128 := by
  have : d10.all (fun b => decide (b.toNat < 128)) = true := by decide
  exact of_decide_eq_true (List.all_eq_true.1 this b (List.mem_of_getElem? h))
theorem dropW_nil {p : UInt8 → Bool} : ∀ l : Str, l.dropWhile p = [] ↔ ∀ b ∈ l, p b = true
  | [] => by simp
  | b :: l => by
    rw [List.dropWhile_cons, List.forall_mem_cons]
    split
    · rename_i h; rw [dropW_nil l]; simp [h]
    · rename_i h; simp [h]
theorem trim_nil (s : Str) : Lib.trimS s d10 = [] ↔ ∀ b ∈ s, dig b = true := by
  unfold Lib.trimS Lib.trimLeftS Lib.trimRightS
  rw [dropW_nil]
  constructor
  · intro h
    have h2 : ∀ b ∈ s, d10.contains b = true := by
      have e := List.takeWhile_append_dropWhile (p := (d10.contains ·)) (l := s.reverse)
      intro b hb
      have hb' : b ∈ s.reverse := List.mem_reverse.2 hb
      rw [← e] at hb'
      rcases List.mem_append.1 hb' with hb' | hb'
      · exact List.all_eq_true.1 List.all_takeWhile b hb'
      · exact h b (List.mem_reverse.2 hb')
    intro b hb
    rw [← d10_eq]; exact h2 b hb
  · intro h b hb
    have hb' := List.mem_reverse.1 hb
    have := (List.dropWhile_sublist _).subset hb'
    rw [d10_eq]
    exact h b (List.mem_reverse.1 this)
theorem placed_bool (s : Str) : placedL s = (decide (s ≠ []) && (decide (Lib.trimS s d10 = []) && (decide (s = [48]) || decide (((s.getD 0 0).toNat : Int) ≠ 48)))) := by
  unfold placedL
  cases s with
  | nil => rfl
  | cons b l =>
    rw [Bool.eq_iff_iff]
    simp only [Bool.and_eq_true, Bool.or_eq_true, decide_eq_true_eq, trim_nil]
    have : (((b :: l).getD 0 0).toNat : Int) ≠ 48 ↔ (b :: l).head? ≠ some 48 := by
      show ((b.toNat : Nat) : Int) ≠ 48 ↔ some b ≠ some 48
      rw [Ne, Ne, Option.some.injEq, u8_eq]
      show ¬ ((b.toNat : Nat) : Int) = 48 ↔ ¬ b.toNat = 48
      omega
    rw [this]
theorem tilde_pre (s : Str) : Lib.hasPrefix s [126, 107] = tildeK s := by
  unfold Lib.hasPrefix tildeK
  rw [Bool.eq_iff_iff, List.isPrefixOf_iff_prefix, List.prefix_iff_eq_take, decide_eq_true_eq]
  exact eq_comm
end Go.Am
end

section
namespace Go.Proofs.YthkoefpidnphpaaGreatDoor
open Go Go.Am Go.RowKit
theorem abi_NoEscape (x : V) (H : Heap) : AbsCall PP GG F.internal_abi_NoEscape [x] H ⟨.ret x, H, []⟩ :=
  abs_same (Tryz.func151) (by kernel_rfl) (by kernel_rfl) (by kernel_rfl) (by kernel_rfl) x H
end Go.Proofs.YthkoefpidnphpaaGreatDoor
end

section
namespace Go.Proofs.YthkoefpidnphpaaGreatDoor
open Go Go.Am Go.RowKit
set_option maxRecDepth 100000
theorem path_placed (s : Str) (hs : s.length ≤ 9223372036854775807) : AbsCall PP GG F.path_placed [.p (.str s)] [] ⟨.ret (.p (.bool (placedL s))), [], []⟩ := by
  have hT := strings_Trim s d10 hs (by decide) d10_asc []
  rw [placed_bool]
  generalize Lib.trimS s d10 = t at *
  cases s with
  | nil =>
    refine absCall_of (pol := polG) mixP F.path_placed_is ?_
    conv => whnf
    repeat' ((first
     | ((with_reducible first | refine Br.dec ?_ ?_ | refine Br.ndec ?_ ?_) <;> intro hb <;> (try simp only [ZZ] at hb) <;> (first | omega | contradiction | skip))
     | (with_reducible first | refine Br.tt rfl ?_ | refine Br.ff rfl ?_ | refine Br.ff (isEmptyCons _ _) ?_)
     | ((with_reducible first | refine Side.mk ?_ ?_ | refine WrapW.mk ?_ ?_); focus (first | omega | (dsimp only [InR, Int.reduceToNat, IntKind.bits, Int.reducePow]; omega) | (simp [CC]; done) | (constructor <;> omega)))
     | with_reducible refine Br.not ?_
     | (with_reducible first | refine Br.tt (by assumption) ?_ | refine Br.ff (by assumption) ?_)
     | (refine Br.mk ?_ ?_ <;> intro hb <;> (try simp only [ZZ] at hb) <;> (first | omega | contradiction | skip))
     | refine Src.whole ⟨rfl, rfl⟩ ?_ | refine FrzV.whole ?_
     | refine CallW.use (hT) ?_) <;> conv => whnf)
    all_goals exact CLe.retP rfl
  | cons b l =>
    by_cases ht : t = []
    · subst ht
      refine absCall_of (pol := polG) mixP F.path_placed_is ?_
      conv => whnf
      repeat' ((first
       | ((with_reducible first | refine Br.dec ?_ ?_ | refine Br.ndec ?_ ?_) <;> intro hb <;> (try simp only [ZZ] at hb) <;> (first | omega | contradiction | skip))
       | (with_reducible first | refine Br.tt rfl ?_ | refine Br.ff rfl ?_ | refine Br.ff (isEmptyCons _ _) ?_)
       | ((with_reducible first | refine Side.mk ?_ ?_ | refine WrapW.mk ?_ ?_); focus (first | omega | (dsimp only [InR, Int.reduceToNat, IntKind.bits, Int.reducePow]; omega) | (simp [CC]; done) | (constructor <;> omega)))
       | with_reducible refine Br.not ?_
       | (with_reducible first | refine Br.tt (by assumption) ?_ | refine Br.ff (by assumption) ?_)
       | (refine Br.mk ?_ ?_ <;> intro hb <;> (try simp only [ZZ] at hb) <;> (first | omega | contradiction | skip))
       | refine Src.whole ⟨rfl, rfl⟩ ?_ | refine FrzV.whole ?_
       | refine CallW.use (hT) ?_) <;> conv => whnf)
      all_goals exact CLe.retP (by simp_all)
    · refine absCall_of (pol := polG) mixP F.path_placed_is ?_
      conv => whnf
      repeat' ((first
       | ((with_reducible first | refine Br.dec ?_ ?_ | refine Br.ndec ?_ ?_) <;> intro hb <;> (try simp only [ZZ] at hb) <;> (first | omega | contradiction | skip))
       | (with_reducible first | refine Br.tt rfl ?_ | refine Br.ff rfl ?_ | refine Br.ff (isEmptyCons _ _) ?_)
       | ((with_reducible first | refine Side.mk ?_ ?_ | refine WrapW.mk ?_ ?_); focus (first | omega | (dsimp only [InR, Int.reduceToNat, IntKind.bits, Int.reducePow]; omega) | (simp [CC]; done) | (constructor <;> omega)))
       | with_reducible refine Br.not ?_
       | (with_reducible first | refine Br.tt (by assumption) ?_ | refine Br.ff (by assumption) ?_)
       | (refine Br.mk ?_ ?_ <;> intro hb <;> (try simp only [ZZ] at hb) <;> (first | omega | contradiction | skip))
       | refine Src.whole ⟨rfl, rfl⟩ ?_ | refine FrzV.whole ?_
       | refine CallW.use (hT) ?_) <;> conv => whnf)
      all_goals first | exact absurd (List.eq_nil_of_length_eq_zero (by assumption)) ht | exact CLe.retP (by simp [ht])
theorem path_text (s : Stp) (hk : s.k.length ≤ 1000000) (ha : -9223372036854775808 ≤ s.a ∧ s.a ≤ 9223372036854775807) : AbsCall PP GG F.path_Step_text [.p (.agg [.str s.k, .int .i64 s.a, .bool s.p])] [] ⟨.ret (.p (.str (stpText s))), [], []⟩ := by
  obtain ⟨k, a, p⟩ := s
  unfold stpText
  simp only [] at hk ha ⊢
  cases p with
  | true =>
    have hI := strconv_Itoa a ha []
    refine absCall_of (pol := polG) mixP F.path_Step_text_is ?_
    conv => whnf
    repeat' ((first
     | ((with_reducible first | refine Br.dec ?_ ?_ | refine Br.ndec ?_ ?_) <;> intro hb <;> (try simp only [ZZ] at hb) <;> (first | omega | contradiction | skip))
     | (with_reducible first | refine Br.tt rfl ?_ | refine Br.ff rfl ?_ | refine Br.ff (isEmptyCons _ _) ?_)
     | ((with_reducible first | refine Side.mk ?_ ?_ | refine WrapW.mk ?_ ?_); focus (first | omega | (dsimp only [InR, Int.reduceToNat, IntKind.bits, Int.reducePow]; omega) | (simp [CC]; done) | (constructor <;> omega)))
     | with_reducible refine Br.not ?_
     | (with_reducible first | refine Br.tt (by assumption) ?_ | refine Br.ff (by assumption) ?_)
     | (refine Br.mk ?_ ?_ <;> intro hb <;> (try simp only [ZZ] at hb) <;> (first | omega | contradiction | skip))
     | refine Src.whole ⟨rfl, rfl⟩ ?_ | refine FrzV.whole ?_
     | refine CallW.use (hI) ?_) <;> conv => whnf)
    exact CLe.retP rfl
  | false =>
    have hl1 : (Lib.replaceAll k [126] [126, 48]).length ≤ 2000000 := by
      rw [replAll_one (by decide)]
      have : ∀ l : Str, (l.flatMap fun b => if b = 126 then [126, 48] else [b]).length ≤ 2 * l.length := by
        intro l
        induction l with
        | nil => simp
        | cons b l ih =>
          rw [List.flatMap_cons, List.length_append, List.length_cons]
          have : (if b = 126 then [126, 48] else [b] : Str).length ≤ 2 := by split <;> simp
          omega
      have := this k
      omega
    have hR1 := strings_ReplaceAll k [126] [126, 48] (by omega) (by decide) (by simp only [List.length_cons, List.length_nil]; omega) []
    have hR2 := strings_ReplaceAll (Lib.replaceAll k [126] [126, 48]) [47] [126, 49] (by omega) (by decide) (by simp only [List.length_cons, List.length_nil]; omega) []
    rw [esc_repl] at hR2
    have hP := path_placed k (by omega)
    have hH := strings_HasPrefix k [126, 107] []
    rw [tilde_pre] at hH
    have hel := escK_len k
    generalize Lib.replaceAll k [126] [126, 48] = u at *
    generalize escK k = e at *
    cases hpl : placedL k <;> cases htl : tildeK k <;> rw [hpl] at hP <;> rw [htl] at hH
    all_goals
      refine absCall_of (pol := polG) mixP F.path_Step_text_is ?_
      conv => whnf
      repeat' ((first
       | ((with_reducible first | refine Br.dec ?_ ?_ | refine Br.ndec ?_ ?_) <;> intro hb <;> (try simp only [ZZ] at hb) <;> (first | omega | contradiction | skip))
       | (with_reducible first | refine Br.tt rfl ?_ | refine Br.ff rfl ?_ | refine Br.ff (isEmptyCons _ _) ?_)
       | ((with_reducible first | refine Side.mk ?_ ?_ | refine WrapW.mk ?_ ?_); focus (first | omega | (dsimp only [InR, Int.reduceToNat, IntKind.bits, Int.reducePow]; omega) | (show 2 + e.length ≤ _; omega) | (simp [CC]; done) | (constructor <;> omega)))
       | with_reducible refine Br.not ?_
       | (with_reducible first | refine Br.tt (by assumption) ?_ | refine Br.ff (by assumption) ?_)
       | (refine Br.mk ?_ ?_ <;> intro hb <;> (try simp only [ZZ] at hb) <;> (first | omega | contradiction | skip))
       | refine Src.whole ⟨rfl, rfl⟩ ?_ | refine FrzV.whole ?_
       | refine CallW.use (hR1) ?_
       | refine CallW.use (hR2) ?_
       | refine CallW.use (hP) ?_
       | refine CallW.use (hH) ?_) <;> conv => whnf)
    all_goals exact CLe.retP (by simp)
def bdO : Option Str → List HO
  | none => [.var T.strings_Builder (.p (.agg [.nilptr, .nils]))]
  | some acc => [.var T.strings_Builder (.agg [.ptr 0 0, .sl 1 0 (acc.map byteP).length]), .arr T.uint8 1 (acc.map byteP)]
theorem bd_copyCheck_new : AbsCall PP GG F.strings_Builder_copyCheck [.ptr 0 0] (bdO none) ⟨.ret (.tup []), [.var T.strings_Builder (.agg [.ptr 0 0, .p .nils])], []⟩ := by
  refine absCall_of (pol := polG) mixP F.strings_Builder_copyCheck_is ?_
  conv => whnf
  repeat' ((first
   | ((with_reducible first | refine Br.dec ?_ ?_ | refine Br.ndec ?_ ?_) <;> intro hb <;> (try simp only [ZZ] at hb) <;> (first | omega | skip))
   | (with_reducible first | refine Br.tt rfl ?_ | refine Br.ff rfl ?_ | refine Br.ff (isEmptyCons _ _) ?_)
   | ((with_reducible first | refine Side.mk ?_ ?_ | refine WrapW.mk ?_ ?_); focus (first | omega | (dsimp only [InR, Int.reduceToNat, IntKind.bits, Int.reducePow]; omega) | kernel_rfl | (simp [CC]; done) | (constructor <;> omega)))
   | (refine Br.mk ?_ ?_ <;> intro hb <;> (try simp only [ZZ] at hb) <;> (first | omega | skip))
   | refine Src.whole ⟨rfl, rfl⟩ ?_ | refine FrzV.whole ?_
   | refine CallW.use (abi_NoEscape _ _) ?_) <;> conv => whnf)
  exact CLe.eq rfl
theorem bd_copyCheck_old (acc : Str) : AbsCall PP GG F.strings_Builder_copyCheck [.ptr 0 0] (bdO (some acc)) ⟨.ret (.tup []), bdO (some acc), []⟩ := by
  refine absCall_of (pol := polG) mixP F.strings_Builder_copyCheck_is ?_
  conv => whnf
  repeat' ((first
   | ((with_reducible first | refine Br.dec ?_ ?_ | refine Br.ndec ?_ ?_) <;> intro hb <;> (try simp only [ZZ] at hb) <;> (first | omega | skip))
   | (with_reducible first | refine Br.tt rfl ?_ | refine Br.ff rfl ?_ | refine Br.ff (isEmptyCons _ _) ?_)
   | ((with_reducible first | refine Side.mk ?_ ?_ | refine WrapW.mk ?_ ?_); focus (first | omega | (dsimp only [InR, Int.reduceToNat, IntKind.bits, Int.reducePow]; omega) | (simp [CC]; done) | (constructor <;> omega)))
   | (refine Br.mk ?_ ?_ <;> intro hb <;> (try simp only [ZZ] at hb) <;> (first | omega | skip))
   | refine Src.whole ⟨rfl, rfl⟩ ?_ | refine FrzV.whole ?_) <;> conv => whnf)
  exact CLe.eq rfl
theorem bytes_cells (s : Str) : ∀ y ∈ s.map byteP, y.cells.length = 1 := by
  intro y hy
  obtain ⟨b, _, rfl⟩ := List.mem_map.1 hy
  rfl
theorem bd_WriteString_new (s : Str) (hs : s ≠ []) (hl : s.length ≤ 140737488355328) : AbsCall PP GG F.strings_Builder_WriteString [.ptr 0 0, .p (.str s)] (bdO none) ⟨.ret (.tup [.p (.int .i64 s.length), .p .nili]), bdO (some s), []⟩ := by
  have hml : (s.map byteP).length = s.length := by simp
  refine absCall_of (pol := polG) mixP F.strings_Builder_WriteString_is ?_
  conv => whnf
  repeat' ((first
   | ((with_reducible first | refine Br.dec ?_ ?_ | refine Br.ndec ?_ ?_) <;> intro hb <;> (try simp only [ZZ] at hb) <;> (first | omega | skip))
   | (with_reducible first | refine Br.tt rfl ?_ | refine Br.ff rfl ?_ | refine Br.ff (isEmptyCons _ _) ?_)
   | ((with_reducible first | refine Side.mk ?_ ?_ | refine WrapW.mk ?_ ?_); focus (first | omega | (dsimp only [InR, Int.reduceToNat, IntKind.bits, Int.reducePow]; omega) | exact ⟨bytes_cells s, by omega⟩ | (simp [CC]; done) | (constructor <;> omega)))
   | (refine Br.mk ?_ ?_ <;> intro hb <;> (try simp only [ZZ] at hb) <;> (first | omega | skip))
   | refine Src.whole ⟨rfl, rfl⟩ ?_ | refine FrzV.whole ?_
   | refine CallW.use (bd_copyCheck_new) ?_) <;> conv => whnf)
  · exact absurd (by simpa using hb) hs
  · exact CLe.eq rfl
theorem bd_WriteString_old (acc s : Str) (hl : acc.length + s.length ≤ 140737488355328) : AbsCall PP GG F.strings_Builder_WriteString [.ptr 0 0, .p (.str s)] (bdO (some acc)) ⟨.ret (.tup [.p (.int .i64 s.length), .p .nili]), bdO (some (acc ++ s)), [1]⟩ := by
  have hml : (s.map byteP).length = s.length := by simp
  have hma : (acc.map byteP).length = acc.length := by simp
  refine absCall_of (pol := polG) mixP F.strings_Builder_WriteString_is ?_
  conv => whnf
  repeat' ((first
   | ((with_reducible first | refine Br.dec ?_ ?_ | refine Br.ndec ?_ ?_) <;> intro hb <;> (try simp only [ZZ] at hb) <;> (first | omega | skip))
   | (with_reducible first | refine Br.tt rfl ?_ | refine Br.ff rfl ?_ | refine Br.ff (isEmptyCons _ _) ?_)
   | ((with_reducible first | refine Side.mk ?_ ?_ | refine WrapW.mk ?_ ?_); focus (first | omega | (dsimp only [InR, Int.reduceToNat, IntKind.bits, Int.reducePow]; omega) | exact ⟨bytes_cells s, rfl, by omega⟩ | (simp [CC]; done) | (constructor <;> omega)))
   | (refine Br.mk ?_ ?_ <;> intro hb <;> (try simp only [ZZ] at hb) <;> (first | omega | skip))
   | refine Src.whole ⟨rfl, rfl⟩ ?_ | refine FrzV.whole ?_
   | refine CallW.use (bd_copyCheck_old acc) ?_) <;> conv => whnf)
  exact CLe.eq (by simp only [bdO, List.map_append])
theorem bytesX_mapB : ∀ s : Str, bytesX (s.map byteP) = some s
  | [] => rfl
  | b :: s => by
    have h := b.toNat_lt
    rw [List.map_cons]
    show bytesX (PV.int .u8 (b.toNat : Int) :: s.map byteP) = _
    rw [bytesX, if_pos (by omega), bytesX_mapB s]
    simp
theorem frz_bd (es : List PV) : HO.frz 1 es (.var T.strings_Builder (.agg [.ptr 0 0, .sl 1 0 es.length])) = .var T.strings_Builder (.agg [.ptr 0 0, .p (.lst false es)]) := by
  simp only [HO.frz, V.frz, V.frzL, if_pos, Nat.zero_add, Nat.le_refl, List.drop_zero, List.take_length]
  rfl
theorem bd_String (acc : Str) (hs : acc ≠ []) (hl : acc.length ≤ 9223372036854775807) : AbsCall PP GG F.strings_Builder_String [.ptr 0 0] (bdO (some acc)) ⟨.ret (.p (.str acc)), [.var T.strings_Builder (.agg [.ptr 0 0, .p (.lst false (acc.map byteP))]), .dead], []⟩ := by
  obtain ⟨c, cs, rfl⟩ := List.exists_cons_of_ne_nil hs
  refine absCall_of (pol := polG) mixP F.strings_Builder_String_is ?_
  conv => whnf
  repeat' ((first
   | ((with_reducible first | refine Br.dec ?_ ?_ | refine Br.ndec ?_ ?_) <;> intro hb <;> (try simp only [ZZ] at hb) <;> (first | omega | skip))
   | (with_reducible first | refine Br.tt rfl ?_ | refine Br.ff rfl ?_ | refine Br.ff (isEmptyCons _ _) ?_)
   | ((with_reducible first | refine Side.mk ?_ ?_ | refine WrapW.mk ?_ ?_); focus (first | omega | (dsimp only [InR, Int.reduceToNat, IntKind.bits, Int.reducePow]; omega) | exact ⟨bytesX_mapB _, by simp, by simp, by simpa using hl⟩ | (simp [CC]; done) | (constructor <;> omega)))
   | (refine Br.mk ?_ ?_ <;> intro hb <;> (try simp only [ZZ] at hb) <;> (first | omega | skip))
   | refine Src.whole ⟨rfl, rfl⟩ ?_ | refine FrzV.whole ?_
   | (refine Bytes.mk' rfl ?_)
   | (refine FrzV.mk .junk rfl ?_)
   | (refine FrzO.mk (.var T.strings_Builder (.agg [.ptr 0 0, .p (.lst false ((c :: cs).map byteP))])) (frz_bd _) ?_)) <;> conv => whnf)
  exact CLe.eq rfl
theorem bd_String_none : AbsCall PP GG F.strings_Builder_String [.ptr 0 0] (bdO none) ⟨.ret (.p (.str [])), bdO none, []⟩ := by
  refine absCall_of (pol := polG) mixP F.strings_Builder_String_is ?_
  conv => whnf
  repeat' ((first
   | ((with_reducible first | refine Br.dec ?_ ?_ | refine Br.ndec ?_ ?_) <;> intro hb <;> (try simp only [ZZ] at hb) <;> (first | omega | skip))
   | (with_reducible first | refine Br.tt rfl ?_ | refine Br.ff rfl ?_ | refine Br.ff (isEmptyCons _ _) ?_)
   | ((with_reducible first | refine Side.mk ?_ ?_ | refine WrapW.mk ?_ ?_); focus (first | omega | (dsimp only [InR, Int.reduceToNat, IntKind.bits, Int.reducePow]; omega) | (simp [CC]; done) | (constructor <;> omega)))
   | (refine Br.mk ?_ ?_ <;> intro hb <;> (try simp only [ZZ] at hb) <;> (first | omega | skip))
   | refine Src.whole ⟨rfl, rfl⟩ ?_ | refine FrzV.whole ?_) <;> conv => whnf)
  exact CLe.eq rfl
def bdS (l : List Stp) : Nat → List HO
  | 0 => bdO none
  | i + 1 => bdO (some (textL (l.take (i + 1))))
theorem textL_snoc (l : List Stp) (i : Nat) (s : Stp) (h : l[i]? = some s) : textL (l.take (i + 1)) = textL (l.take i) ++ (47 :: stpText s) := by
  rw [List.take_add_one, h, textL_app]
  simp [textL]
theorem text_loop (l : List Stp) (hl : l.length ≤ 9223372036854775807) (hb : ∀ s ∈ l, s.k.length ≤ 1000000 ∧ -9223372036854775808 ≤ s.a ∧ s.a ≤ 9223372036854775807) (hlen : (textL l).length ≤ 140737488355328) (K : Post)
    (h0 : K (.exit 0) [(3, .ptr 0 0)] (bdS l l.length) []) :
    ∀ (q i : Nat), i + q = l.length → LoopW PP GG 18 0 (loopN F.path_Text_c 0) [(3, .ptr 0 0), (6, .p (.lst false (encS l))), (7, .p (.int .i64 l.length)), (8, .p (.int .i64 i))] (bdS l i) [] (PostCl 18 K) := by
  have hla := encS_length l
  intro q
  induction q with
  | zero =>
    intro i hi
    obtain rfl : i = l.length := by omega
    generalize bdS l l.length = Hs at *
    refine LoopW.round (pol := polG) mixP ?_
    conv => whnf
    repeat' ((first
     | ((with_reducible first | refine Br.dec ?_ ?_ | refine Br.ndec ?_ ?_) <;> intro hb <;> (try simp only [ZZ] at hb) <;> (first | omega | contradiction | skip))
     | (with_reducible first | refine Br.tt rfl ?_ | refine Br.ff rfl ?_ | refine Br.ff (isEmptyCons _ _) ?_)
     | ((with_reducible first | refine Side.mk ?_ ?_ | refine WrapW.mk ?_ ?_); focus (first | omega | (dsimp only [InR, Int.reduceToNat, IntKind.bits, Int.reducePow]; omega) | (simp [CC]; done) | (constructor <;> omega)))
     | with_reducible refine Br.not ?_
     | (with_reducible first | refine Br.tt (by assumption) ?_ | refine Br.ff (by assumption) ?_)
     | (refine Br.mk ?_ ?_ <;> intro hb <;> (try simp only [ZZ] at hb) <;> (first | omega | contradiction | skip))
     | refine Src.whole ⟨rfl, rfl⟩ ?_ | refine FrzV.whole ?_) <;> conv => whnf)
    refine PostCl.of (h0) ?_ ?_
    · repeat first | exact trivial | refine ⟨VLe.refl _, ?_⟩
    · repeat first | exact trivial | refine ⟨by decide, ?_⟩
  | succ q ih =>
    intro i hi
    obtain ⟨s, hs⟩ : ∃ s, l[i]? = some s := ⟨_, List.getElem?_eq_getElem (show i < l.length by omega)⟩
    have hsi : l[(i : Int).toNat]? = some s := by rw [Int.toNat_natCast]; exact hs
    have hbs := hb s (List.mem_of_getElem? hs)
    have hT := path_text s hbs.1 hbs.2
    have hsn := textL_snoc l i s hs
    have hle : (textL (l.take (i + 1))).length ≤ (textL l).length := by
      have := congrArg (fun x => (textL x).length) (List.take_append_drop (i + 1) l)
      simp only [textL_app, List.length_append] at this
      omega
    have hst : (stpText s).length + 1 ≤ 140737488355328 := by rw [hsn, List.length_append, List.length_cons] at hle; omega
    have hl := ih (i + 1) (by omega)
    cases i with
    | zero =>
      have hW := bd_WriteString_new (47 :: stpText s) (by simp) (by rw [hsn] at hle; simp only [List.take_zero, textL, List.nil_append] at hle; omega)
      have hbd : bdS l 1 = bdO (some (47 :: stpText s)) := by rw [bdS, hsn]; rfl
      simp only [Nat.zero_add] at hl
      rw [hbd] at hl
      refine LoopW.round (pol := polG) mixP ?_
      conv => whnf
      repeat' ((first
       | ((with_reducible first | refine Br.dec ?_ ?_ | refine Br.ndec ?_ ?_) <;> intro hb <;> (try simp only [And.intro @hla (ZZ)] at hb) <;> (first | omega | contradiction | skip))
       | (with_reducible first | refine Br.tt rfl ?_ | refine Br.ff rfl ?_ | refine Br.ff (isEmptyCons _ _) ?_)
       | ((with_reducible first | refine Side.mk ?_ ?_ | refine WrapW.mk ?_ ?_); focus (first | omega | (dsimp only [InR, Int.reduceToNat, IntKind.bits, Int.reducePow]; omega) | (show 1 + (stpText s).length ≤ _; omega) | exact ⟨rfl, rfl⟩ | (simp [CC]; done) | (constructor <;> omega)))
       | with_reducible refine Br.not ?_
       | (with_reducible first | refine Br.tt (by assumption) ?_ | refine Br.ff (by assumption) ?_)
       | (refine Br.mk ?_ ?_ <;> intro hb <;> (try simp only [And.intro @hla (ZZ)] at hb) <;> (first | omega | contradiction | skip))
       | refine Src.whole ⟨rfl, rfl⟩ ?_ | refine FrzV.whole ?_
       | refine CallW.use (hT) ?_
       | refine CallW.use (hW) ?_
       | (refine ElemZ.stp hsi ?_)) <;> conv => whnf)
      refine LoopW.ren [0, 2] (hl) (by repeat first | exact trivial | refine ⟨⟨rfl, VLe.refl _⟩, ?_⟩) (by repeat first | exact trivial | refine ⟨by decide, ?_⟩) rfl rfl
    | succ i =>
      have hW := bd_WriteString_old (textL (l.take (i + 1))) (47 :: stpText s) (by rw [hsn, List.length_append] at hle; omega)
      have hbd : bdS l (i + 1 + 1) = bdO (some (textL (l.take (i + 1)) ++ 47 :: stpText s)) := by rw [bdS, hsn]
      rw [hbd] at hl
      show LoopW PP GG 18 0 _ _ (bdO (some (textL (l.take (i + 1))))) [] _
      generalize textL (l.take (i + 1)) = acc at *
      refine LoopW.round (pol := polG) mixP ?_
      conv => whnf
      repeat' ((first
       | ((with_reducible first | refine Br.dec ?_ ?_ | refine Br.ndec ?_ ?_) <;> intro hb <;> (try simp only [And.intro @hla (ZZ)] at hb) <;> (first | omega | contradiction | skip))
       | (with_reducible first | refine Br.tt rfl ?_ | refine Br.ff rfl ?_ | refine Br.ff (isEmptyCons _ _) ?_)
       | ((with_reducible first | refine Side.mk ?_ ?_ | refine WrapW.mk ?_ ?_); focus (first | omega | (dsimp only [InR, Int.reduceToNat, IntKind.bits, Int.reducePow]; omega) | (show 1 + (stpText s).length ≤ _; omega) | exact ⟨rfl, rfl⟩ | (simp [CC]; done) | (constructor <;> omega)))
       | with_reducible refine Br.not ?_
       | (with_reducible first | refine Br.tt (by assumption) ?_ | refine Br.ff (by assumption) ?_)
       | (refine Br.mk ?_ ?_ <;> intro hb <;> (try simp only [And.intro @hla (ZZ)] at hb) <;> (first | omega | contradiction | skip))
       | refine Src.whole ⟨rfl, rfl⟩ ?_ | refine FrzV.whole ?_
       | refine CallW.use (hT) ?_
       | refine CallW.use (hW) ?_
       | (refine ElemZ.stp hsi ?_)) <;> conv => whnf)
      refine LoopW.ren [0, 1] (hl) (by repeat first | exact trivial | refine ⟨⟨rfl, VLe.refl _⟩, ?_⟩) (by repeat first | exact trivial | refine ⟨by decide, ?_⟩) rfl rfl
theorem path_Text (l : List Stp) (hl : l.length ≤ 9223372036854775807) (hb : ∀ s ∈ l, s.k.length ≤ 1000000 ∧ -9223372036854775808 ≤ s.a ∧ s.a ≤ 9223372036854775807) (hlen : (textL l).length ≤ 140737488355328) :
    AbsCall PP GG F.path_Text [.p (.lst false (encS l))] [] ⟨.ret (.p (.str (textL l))), [], []⟩ := by
  have hla := encS_length l
  have hlp := text_loop l hl hb hlen
  rw [← hla] at hlp
  cases l with
  | nil =>
    refine absCall_of (pol := polG) mixP F.path_Text_is ?_
    conv => whnf
    repeat' ((first
     | ((with_reducible first | refine Br.dec ?_ ?_ | refine Br.ndec ?_ ?_) <;> intro hb <;> (try simp only [And.intro @hla (ZZ)] at hb) <;> (first | omega | contradiction | skip))
     | (with_reducible first | refine Br.tt rfl ?_ | refine Br.ff rfl ?_ | refine Br.ff (isEmptyCons _ _) ?_)
     | ((with_reducible first | refine Side.mk ?_ ?_ | refine WrapW.mk ?_ ?_); focus (first | omega | (dsimp only [InR, Int.reduceToNat, IntKind.bits, Int.reducePow]; omega) | (simp [CC]; done) | (constructor <;> omega)))
     | with_reducible refine Br.not ?_
     | (with_reducible first | refine Br.tt (by assumption) ?_ | refine Br.ff (by assumption) ?_)
     | (refine Br.mk ?_ ?_ <;> intro hb <;> (try simp only [And.intro @hla (ZZ)] at hb) <;> (first | omega | contradiction | skip))
     | refine Src.whole ⟨rfl, rfl⟩ ?_ | refine FrzV.whole ?_) <;> conv => whnf)
    refine LoopW.cl ?_
    refine LoopW.sub (hlp _ ?_ 0 0 rfl) (by repeat first | exact trivial | refine ⟨VLe.refl _, ?_⟩) (by repeat first | exact trivial | refine ⟨by decide, ?_⟩)
    conv => whnf
    repeat' ((first
     | ((with_reducible first | refine Br.dec ?_ ?_ | refine Br.ndec ?_ ?_) <;> intro hb <;> (try simp only [ZZ] at hb) <;> (first | omega | contradiction | skip))
     | (with_reducible first | refine Br.tt rfl ?_ | refine Br.ff rfl ?_ | refine Br.ff (isEmptyCons _ _) ?_)
     | ((with_reducible first | refine Side.mk ?_ ?_ | refine WrapW.mk ?_ ?_); focus (first | omega | (dsimp only [InR, Int.reduceToNat, IntKind.bits, Int.reducePow]; omega) | (simp [CC]; done) | (constructor <;> omega)))
     | with_reducible refine Br.not ?_
     | (with_reducible first | refine Br.tt (by assumption) ?_ | refine Br.ff (by assumption) ?_)
     | (refine Br.mk ?_ ?_ <;> intro hb <;> (try simp only [ZZ] at hb) <;> (first | omega | contradiction | skip))
     | refine Src.whole ⟨rfl, rfl⟩ ?_ | refine FrzV.whole ?_
     | refine CallW.use (bd_String_none) ?_) <;> conv => whnf)
    exact CLe.retP rfl
  | cons s l =>
    have hne : textL (s :: l) ≠ [] := by simp [textL]
    have htk : textL ((s :: l).take (l.length + 1)) = textL (s :: l) := by rw [show l.length + 1 = (s :: l).length from rfl, List.take_length]
    have hS := bd_String (textL (s :: l)) hne (by omega)
    have hbs : bdS (s :: l) (encS (s :: l)).length = bdO (some (textL (s :: l))) := by rw [hla, List.length_cons, bdS, htk]
    rw [hbs] at hlp
    generalize textL (s :: l) = t at *
    refine absCall_of (pol := polG) mixP F.path_Text_is ?_
    conv => whnf
    repeat' ((first
     | ((with_reducible first | refine Br.dec ?_ ?_ | refine Br.ndec ?_ ?_) <;> intro hb <;> (try simp only [And.intro @hla (ZZ)] at hb) <;> (first | omega | contradiction | skip))
     | (with_reducible first | refine Br.tt rfl ?_ | refine Br.ff rfl ?_ | refine Br.ff (isEmptyCons _ _) ?_)
     | ((with_reducible first | refine Side.mk ?_ ?_ | refine WrapW.mk ?_ ?_); focus (first | omega | (dsimp only [InR, Int.reduceToNat, IntKind.bits, Int.reducePow]; omega) | (simp [CC]; done) | (constructor <;> omega)))
     | with_reducible refine Br.not ?_
     | (with_reducible first | refine Br.tt (by assumption) ?_ | refine Br.ff (by assumption) ?_)
     | (refine Br.mk ?_ ?_ <;> intro hb <;> (try simp only [And.intro @hla (ZZ)] at hb) <;> (first | omega | contradiction | skip))
     | refine Src.whole ⟨rfl, rfl⟩ ?_ | refine FrzV.whole ?_) <;> conv => whnf)
    refine LoopW.cl ?_
    refine LoopW.sub (hlp _ ?_ (encS (s :: l)).length 0 (Nat.zero_add _)) (by repeat first | exact trivial | refine ⟨VLe.refl _, ?_⟩) (by repeat first | exact trivial | refine ⟨by decide, ?_⟩)
    conv => whnf
    repeat' ((first
     | ((with_reducible first | refine Br.dec ?_ ?_ | refine Br.ndec ?_ ?_) <;> intro hb <;> (try simp only [ZZ] at hb) <;> (first | omega | contradiction | skip))
     | (with_reducible first | refine Br.tt rfl ?_ | refine Br.ff rfl ?_ | refine Br.ff (isEmptyCons _ _) ?_)
     | ((with_reducible first | refine Side.mk ?_ ?_ | refine WrapW.mk ?_ ?_); focus (first | omega | (dsimp only [InR, Int.reduceToNat, IntKind.bits, Int.reducePow]; omega) | (simp [CC]; done) | (constructor <;> omega)))
     | with_reducible refine Br.not ?_
     | (with_reducible first | refine Br.tt (by assumption) ?_ | refine Br.ff (by assumption) ?_)
     | (refine Br.mk ?_ ?_ <;> intro hb <;> (try simp only [ZZ] at hb) <;> (first | omega | contradiction | skip))
     | refine Src.whole ⟨rfl, rfl⟩ ?_ | refine FrzV.whole ?_
     | refine CallW.use (hS) ?_) <;> conv => whnf)
    exact CLe.retP rfl
end Go.Proofs.YthkoefpidnphpaaGreatDoor
end

section
namespace Go.Proofs.YthkoefpidnphpaaGreatDoor
open Go Go.Am
set_option maxRecDepth 100000
theorem utf_size (r : Int) : AbsCall PP GG F.utf_size [.p (.int .i64 r)] [] ⟨.ret (.p (.int .i64 (utfSize r))), [], []⟩ := by
  refine absCall_of (pol := polG) mixP F.utf_size_is ?_
  conv => whnf
  repeat' ((first
   | ((with_reducible first | refine Br.dec ?_ ?_ | refine Br.ndec ?_ ?_) <;> intro hb <;> (try simp only [ZZ] at hb) <;> (first | omega | skip))
   | (with_reducible first | refine Br.tt rfl ?_ | refine Br.ff rfl ?_ | refine Br.ff (isEmptyCons _ _) ?_)
   | ((with_reducible first | refine Side.mk ?_ ?_ | refine WrapW.mk ?_ ?_); focus (first | omega | (dsimp only [InR, Int.reduceToNat, IntKind.bits, Int.reducePow]; omega) | (simp [CC]; done) | (constructor <;> omega)))
   | (refine Br.mk ?_ ?_ <;> intro hb <;> (try simp only [ZZ] at hb) <;> (first | omega | skip))
   | refine Src.whole ⟨rfl, rfl⟩ ?_ | refine FrzV.whole ?_) <;> conv => whnf)
  all_goals exact CLe.retP (by simp [utfSize, *])
theorem utf_Good (r : Int) : AbsCall PP GG F.utf_Good [.p (.int .i64 r)] [] ⟨.ret (.p (.bool (utfGood r))), [], []⟩ := by
  refine absCall_of (pol := polG) mixP F.utf_Good_is ?_
  conv => whnf
  repeat' ((first
   | ((with_reducible first | refine Br.dec ?_ ?_ | refine Br.ndec ?_ ?_) <;> intro hb <;> (try simp only [ZZ] at hb) <;> (first | omega | skip))
   | (with_reducible first | refine Br.tt rfl ?_ | refine Br.ff rfl ?_ | refine Br.ff (isEmptyCons _ _) ?_)
   | ((with_reducible first | refine Side.mk ?_ ?_ | refine WrapW.mk ?_ ?_); focus (first | omega | (dsimp only [InR, Int.reduceToNat, IntKind.bits, Int.reducePow]; omega) | (simp [CC]; done) | (constructor <;> omega)))
   | (refine Br.mk ?_ ?_ <;> intro hb <;> (try simp only [ZZ] at hb) <;> (first | omega | skip))
   | refine Src.whole ⟨rfl, rfl⟩ ?_ | refine FrzV.whole ?_) <;> conv => whnf)
  all_goals exact CLe.retP (by simp only [PV.bool.injEq, utfGood]; first | (symm; rw [decide_eq_false_iff_not]; omega) | (symm; rw [decide_eq_true_eq]; omega) | (rw [decide_eq_decide]; omega))
theorem utf_Put (bs : Str) (r : Int) (hs : bs.length ≤ 1073741824) : AbsCall PP GG F.utf_Put [.p (.lst false (bs.map byteP)), .p (.int .i64 r)] [] ⟨.ret (.sl 0 0 ((bs ++ utfEnc r).map byteP).length), [.arr T.uint8 1 ((bs ++ utfEnc r).map byteP)], []⟩ := by
  have hlen : (bs.map byteP).length = bs.length := by simp
  have hgr : utfGood r = true → 0 ≤ r ∧ r ≤ 1114111 := by intro hg; unfold utfGood at hg; rw [decide_eq_true_eq] at hg; omega
  refine absCall_of (pol := polG) mixP F.utf_Put_is ?_
  conv => whnf
  repeat' ((first
   | ((with_reducible first | refine Br.dec ?_ ?_ | refine Br.ndec ?_ ?_) <;> intro hb <;> (try simp only [ZZ] at hb) <;> (first | omega | skip))
   | (with_reducible first | refine Br.tt rfl ?_ | refine Br.ff rfl ?_ | refine Br.ff (isEmptyCons _ _) ?_)
   | ((with_reducible first | refine Side.mk ?_ ?_ | refine WrapW.mk ?_ ?_); focus (first | omega | (dsimp only [InR, Int.reduceToNat, IntKind.bits, Int.reducePow]; omega) | exact ⟨bytes_cells bs, by simp, by simp; omega⟩ | exact ⟨by simp [PV.cells], by simp, by simp; omega⟩ | (simp [CC]; done) | (constructor <;> omega)))
   | (refine Br.mk ?_ ?_ <;> intro hb <;> (try simp only [ZZ] at hb) <;> (first | omega | skip))
   | refine Src.whole ⟨rfl, rfl⟩ ?_ | refine FrzV.whole ?_
   | refine CallW.use (utf_Good _) ?_
   | refine CallW.use (utf_size _) ?_
   | (refine Src.whole ⟨rfl, by simp⟩ ?_)) <;> conv => whnf)
  · refine CLe.arr ?_
    rw [show utfEnc r = [] by unfold utfEnc; rw [if_pos hb]]
    simp
  all_goals
    obtain ⟨hr0, hr1⟩ := hgr ‹utfGood r = true›
    obtain ⟨n, rfl⟩ := Int.eq_ofNat_of_zero_le hr0
    have hng : utfGood (n : Int) ≠ false := by simp_all
    refine CLe.arr ?_
    unfold utfEnc
    rw [if_neg hng]
    have q6 : (n : Int) / 2 ^ Int.toNat 6 = ((n / 64 : Nat) : Int) := by show (n : Int) / 64 = _; omega
    have q12 : (n : Int) / 2 ^ Int.toNat 12 = ((n / 4096 : Nat) : Int) := by show (n : Int) / 4096 = _; omega
    have q18 : (n : Int) / 2 ^ Int.toNat 18 = ((n / 262144 : Nat) : Int) := by show (n : Int) / 262144 = _; omega
    have low : ∀ m : Nat, m ≤ 1114111 → iand .i64 (m : Int) 63 = ((m % 64 : Nat) : Int) := by
      intro m hm
      rw [iand63 (by omega) (by omega)]; omega
    have by' : ∀ m : Nat, m ≤ 255 → PV.int .u8 (IntKind.u8.wrap (m : Int)) = byteP (UInt8.ofNat m) := by
      intro m hm
      have := byte_of (x := (m : Int)) (by omega) (by omega)
      simpa using this
    rw [List.map_append, show List.replicate (Int.toNat 0) (PV.int IntKind.u8 0) = [] from rfl, List.nil_append]
    congr 1
  · rw [utfSize_1] at hb
    rw [if_pos hb]
    simp only [List.map_cons, List.map_nil]
    rw [Int.toNat_natCast, by' n (by omega)]
  · rename_i h1
    rw [utfSize_1] at h1
    rw [utfSize_2] at hb
    rw [if_neg h1, if_pos hb.2]
    simp only [List.map_cons, List.map_nil]
    rw [Int.toNat_natCast, q6, low n (by omega), oct_or192 _ (by omega), oct_or128 _ (by omega), by' _ (by omega), by' _ (by omega)]
  · rename_i h1 h2
    rw [utfSize_1] at h1
    rw [utfSize_2] at h2
    rw [utfSize_3] at hb
    rw [if_neg h1, if_neg (by omega), if_pos hb.2]
    simp only [List.map_cons, List.map_nil]
    rw [Int.toNat_natCast, q6, q12, low n (by omega), low (n / 64) (by omega), oct_or224 _ (by omega), oct_or128 _ (by omega), oct_or128 _ (by omega), by' _ (by omega), by' _ (by omega), by' _ (by omega)]
  · rename_i h1 h2
    rw [utfSize_1] at h1
    rw [utfSize_2] at h2
    rw [utfSize_3] at hb
    rw [if_neg h1, if_neg (by omega), if_neg (by omega)]
    simp only [List.map_cons, List.map_nil]
    rw [Int.toNat_natCast, q6, q12, q18, low n (by omega), low (n / 64) (by omega), low (n / 4096) (by omega), oct_or240 _ (by omega), oct_or128 _ (by omega), oct_or128 _ (by omega), oct_or128 _ (by omega), by' _ (by omega), by' _ (by omega), by' _ (by omega), by' _ (by omega)]
theorem ref1_Good (r : Int) : AbsCall PP GG F.ref1_Good [.p (.int .i64 r)] [] ⟨.ret (.p (.bool (utfGood r))), [], []⟩ := by
  refine absCall_of (pol := polG) mixP F.ref1_Good_is ?_
  conv => whnf
  repeat' ((first
   | ((with_reducible first | refine Br.dec ?_ ?_ | refine Br.ndec ?_ ?_) <;> intro hb <;> (try simp only [ZZ] at hb) <;> (first | omega | skip))
   | (with_reducible first | refine Br.tt rfl ?_ | refine Br.ff rfl ?_ | refine Br.ff (isEmptyCons _ _) ?_)
   | ((with_reducible first | refine Side.mk ?_ ?_ | refine WrapW.mk ?_ ?_); focus (first | omega | (dsimp only [InR, Int.reduceToNat, IntKind.bits, Int.reducePow]; omega) | (simp [CC]; done) | (constructor <;> omega)))
   | (refine Br.mk ?_ ?_ <;> intro hb <;> (try simp only [ZZ] at hb) <;> (first | omega | skip))
   | refine Src.whole ⟨rfl, rfl⟩ ?_ | refine FrzV.whole ?_) <;> conv => whnf)
  all_goals exact CLe.retP (by simp only [PV.bool.injEq, utfGood]; first | (symm; rw [decide_eq_false_iff_not]; omega) | (symm; rw [decide_eq_true_eq]; omega) | (rw [decide_eq_decide]; omega))
theorem ref1_Put (r : Int) : AbsCall PP GG F.ref1_Put [.p (.int .i64 r)] [] ⟨.ret (.p (.str (utfEnc r))), [], []⟩ := by
  have hgr : utfGood r = true → 0 ≤ r ∧ r ≤ 1114111 := by intro hg; unfold utfGood at hg; rw [decide_eq_true_eq] at hg; omega
  by_cases hg : utfGood r = true
  · obtain ⟨hr0, hr1⟩ := hgr hg
    obtain ⟨n, rfl⟩ := Int.eq_ofNat_of_zero_le hr0
    have by' : ∀ m : Nat, m ≤ 255 → PV.int .u8 (IntKind.u8.wrap (m : Int)) = byteP (UInt8.ofNat m) := by
      intro m hm
      have := byte_of (x := (m : Int)) (by omega) (by omega)
      simpa using this
    have by2 : ∀ a m : Nat, a + m ≤ 255 → PV.int .u8 (IntKind.u8.wrap ((a : Int) + (m : Int))) = byteP (UInt8.ofNat (a + m)) := by
      intro a m hm
      rw [← Int.natCast_add]
      exact by' _ hm
    have dv : ∀ m : Nat, 0 < m → (n : Int).tdiv (m : Int) = ((n / m : Nat) : Int) := fun m hm => by rw [Int.tdiv_eq_ediv_of_nonneg (by omega)]; rfl
    have md : ∀ (a m : Nat), (a : Int).tmod (m : Int) = ((a % m : Nat) : Int) := fun a m => by rw [Int.tmod_eq_emod_of_nonneg (by omega)]; rfl
    have d1 := dv 64 (by omega)
    have d2 := dv 4096 (by omega)
    have d3 := dv 262144 (by omega)
    have m1 := md n 64
    have m2 := md (n / 64) 64
    have m3 := md (n / 4096) 64
    rw [show ((64 : Nat) : Int) = 64 from rfl] at d1 m1 m2 m3
    rw [show ((4096 : Nat) : Int) = 4096 from rfl] at d2
    rw [show ((262144 : Nat) : Int) = 262144 from rfl] at d3
    have hng : ¬ utfGood (n : Int) = false := by rw [hg]; simp
    have e1 : (n : Int) < 128 → [PV.int .u8 (IntKind.u8.wrap (n : Int))] = (utfEnc (n : Int)).map byteP := by
      intro h
      unfold utfEnc
      rw [if_neg hng, if_pos h, Int.toNat_natCast, by' n (by omega)]; rfl
    have e2 : ¬ (n : Int) < 128 → (n : Int) < 2048 → [PV.int .u8 (IntKind.u8.wrap (192 + (n : Int).tdiv 64)), PV.int .u8 (IntKind.u8.wrap (128 + (n : Int).tmod 64))] = (utfEnc (n : Int)).map byteP := by
      intro h h2
      unfold utfEnc
      rw [if_neg hng, if_neg h, if_pos h2, Int.toNat_natCast, d1, m1]
      have a1 : PV.int .u8 (IntKind.u8.wrap (192 + ((n / 64 : Nat) : Int))) = byteP (UInt8.ofNat (192 + n / 64)) := by2 192 (n / 64) (by omega)
      have a2 : PV.int .u8 (IntKind.u8.wrap (128 + ((n % 64 : Nat) : Int))) = byteP (UInt8.ofNat (128 + n % 64)) := by2 128 (n % 64) (by omega)
      rw [a1, a2]; rfl
    have e3 : ¬ (n : Int) < 2048 → (n : Int) < 65536 → [PV.int .u8 (IntKind.u8.wrap (224 + (n : Int).tdiv 4096)), PV.int .u8 (IntKind.u8.wrap (128 + ((n : Int).tdiv 64).tmod 64)), PV.int .u8 (IntKind.u8.wrap (128 + (n : Int).tmod 64))] = (utfEnc (n : Int)).map byteP := by
      intro h h2
      unfold utfEnc
      rw [if_neg hng, if_neg (by omega), if_neg h, if_pos h2, Int.toNat_natCast, d1, d2, m1, m2]
      have a1 : PV.int .u8 (IntKind.u8.wrap (224 + ((n / 4096 : Nat) : Int))) = byteP (UInt8.ofNat (224 + n / 4096)) := by2 224 (n / 4096) (by omega)
      have a2 : PV.int .u8 (IntKind.u8.wrap (128 + ((n / 64 % 64 : Nat) : Int))) = byteP (UInt8.ofNat (128 + n / 64 % 64)) := by2 128 (n / 64 % 64) (by omega)
      have a3 : PV.int .u8 (IntKind.u8.wrap (128 + ((n % 64 : Nat) : Int))) = byteP (UInt8.ofNat (128 + n % 64)) := by2 128 (n % 64) (by omega)
      rw [a1, a2, a3]; rfl
    have e4 : ¬ (n : Int) < 65536 → [PV.int .u8 (IntKind.u8.wrap (240 + (n : Int).tdiv 262144)), PV.int .u8 (IntKind.u8.wrap (128 + ((n : Int).tdiv 4096).tmod 64)), PV.int .u8 (IntKind.u8.wrap (128 + ((n : Int).tdiv 64).tmod 64)), PV.int .u8 (IntKind.u8.wrap (128 + (n : Int).tmod 64))] = (utfEnc (n : Int)).map byteP := by
      intro h
      unfold utfEnc
      rw [if_neg hng, if_neg (by omega), if_neg (by omega), if_neg h, Int.toNat_natCast, d1, d2, d3, m1, m2, m3]
      have a1 : PV.int .u8 (IntKind.u8.wrap (240 + ((n / 262144 : Nat) : Int))) = byteP (UInt8.ofNat (240 + n / 262144)) := by2 240 (n / 262144) (by omega)
      have a2 : PV.int .u8 (IntKind.u8.wrap (128 + ((n / 4096 % 64 : Nat) : Int))) = byteP (UInt8.ofNat (128 + n / 4096 % 64)) := by2 128 (n / 4096 % 64) (by omega)
      have a3 : PV.int .u8 (IntKind.u8.wrap (128 + ((n / 64 % 64 : Nat) : Int))) = byteP (UInt8.ofNat (128 + n / 64 % 64)) := by2 128 (n / 64 % 64) (by omega)
      have a4 : PV.int .u8 (IntKind.u8.wrap (128 + ((n % 64 : Nat) : Int))) = byteP (UInt8.ofNat (128 + n % 64)) := by2 128 (n % 64) (by omega)
      rw [a1, a2, a3, a4]; rfl
    have hsp := ref1_Good (n : Int)
    rw [hg] at hsp
    refine absCall_of (pol := polG) mixP F.ref1_Put_is ?_
    conv => whnf
    repeat' ((first
     | ((with_reducible first | refine Br.dec ?_ ?_ | refine Br.ndec ?_ ?_) <;> intro hb <;> (try simp only [ZZ] at hb) <;> (first | omega | skip))
     | (with_reducible first | refine Br.tt rfl ?_ | refine Br.ff rfl ?_ | refine Br.ff (isEmptyCons _ _) ?_)
     | ((with_reducible first | refine Side.mk ?_ ?_ | refine WrapW.mk ?_ ?_); focus (first | omega | (dsimp only [InR, Int.reduceToNat, IntKind.bits, Int.reducePow]; omega) | (simp only [d1, d2, d3, m1, m2, m3, InR]; omega) | (simp only [d1, d2, d3, m1, m2, m3]; decide) | (refine ⟨by decide, ?_⟩; simp only [d1, d2, d3, InR]; omega) | (simp [CC]; done) | (constructor <;> omega)))
     | (refine Br.mk ?_ ?_ <;> intro hb <;> (try simp only [ZZ] at hb) <;> (first | omega | skip))
     | refine Src.whole ⟨rfl, rfl⟩ ?_ | refine FrzV.whole ?_
     | refine CallW.use (hsp) ?_
     | (refine Bytes.mk' (s := utfEnc (n : Int)) (e1 (by omega)) ?_)
     | (refine Bytes.mk' (s := utfEnc (n : Int)) (e2 (by omega) (by omega)) ?_)
     | (refine Bytes.mk' (s := utfEnc (n : Int)) (e3 (by omega) (by omega)) ?_)
     | (refine Bytes.mk' (s := utfEnc (n : Int)) (e4 (by omega)) ?_)) <;> conv => whnf)
    all_goals exact CLe.eq rfl
  · have hg' : utfGood r = false := by simpa using hg
    have hsp := ref1_Good r
    rw [hg'] at hsp
    refine absCall_of (pol := polG) mixP F.ref1_Put_is ?_
    conv => whnf
    repeat' ((first
     | ((with_reducible first | refine Br.dec ?_ ?_ | refine Br.ndec ?_ ?_) <;> intro hb <;> (try simp only [ZZ] at hb) <;> (first | omega | skip))
     | (with_reducible first | refine Br.tt rfl ?_ | refine Br.ff rfl ?_ | refine Br.ff (isEmptyCons _ _) ?_)
     | ((with_reducible first | refine Side.mk ?_ ?_ | refine WrapW.mk ?_ ?_); focus (first | omega | (dsimp only [InR, Int.reduceToNat, IntKind.bits, Int.reducePow]; omega) | (simp [CC]; done) | (constructor <;> omega)))
     | (refine Br.mk ?_ ?_ <;> intro hb <;> (try simp only [ZZ] at hb) <;> (first | omega | skip))
     | refine Src.whole ⟨rfl, rfl⟩ ?_ | refine FrzV.whole ?_
     | refine CallW.use (hsp) ?_) <;> conv => whnf)
    exact CLe.retP (by unfold utfEnc; rw [if_pos hg'])
theorem refTake_loop (s : Str) (n : Nat) (hn : n ≤ 4) (hns : n ≤ s.length) (R : Option Int) (K : Post)
    (h0 : ∀ r, R = some r → 0 ≤ r → K (.exit 1) [(0, .p (.str s)), (5, .p (.int .i64 n)), (6, .p (.int .i64 r))] [] [])
    (hr : R = none → K .ret [(2, .p (.int .i64 0)), (3, .p (.int .i64 0))] [] []) :
    ∀ (q i : Nat) (r : Int), i + q = n → 1 ≤ i → 0 ≤ r → r < takeU q → takeL q (s.drop i) r = R →
      LoopW PP GG 79 0 (loopN F.ref1_Take_c 0) [(0, .p (.str s)), (5, .p (.int .i64 n)), (6, .p (.int .i64 r)), (7, .p (.int .i64 i))] [] [] (PostCl 79 K) := by
  intro q
  induction q with
  | zero =>
    intro i r hi h1 hr0 hr1 hR
    rw [takeL] at hR
    refine LoopW.round (pol := polG) mixP ?_
    conv => whnf
    repeat' ((first
     | ((with_reducible first | refine Br.dec ?_ ?_ | refine Br.ndec ?_ ?_) <;> intro hb <;> (try simp only [ZZ] at hb) <;> (first | omega | skip))
     | (with_reducible first | refine Br.tt rfl ?_ | refine Br.ff rfl ?_ | refine Br.ff (isEmptyCons _ _) ?_)
     | ((with_reducible first | refine Side.mk ?_ ?_ | refine WrapW.mk ?_ ?_); focus (first | omega | (dsimp only [InR, Int.reduceToNat, IntKind.bits, Int.reducePow]; omega) | (simp [CC]; done) | (constructor <;> omega)))
     | (refine Br.mk ?_ ?_ <;> intro hb <;> (try simp only [ZZ] at hb) <;> (first | omega | skip))
     | refine Src.whole ⟨rfl, rfl⟩ ?_ | refine FrzV.whole ?_) <;> conv => whnf)
    · refine PostCl.of (h0 r hR.symm hr0) ?_ ?_
      · repeat first | exact trivial | refine ⟨VLe.refl _, ?_⟩
      · repeat first | exact trivial | refine ⟨by decide, ?_⟩
  | succ q ih =>
    intro i r hi h1 hr0 hr1 hR
    obtain ⟨b, hb⟩ : ∃ b, s[i]? = some b := ⟨_, List.getElem?_eq_getElem (show i < s.length by omega)⟩
    rw [drop_cons hb, takeL] at hR
    have hbl := UInt8.toNat_lt b
    have hst := takeU_step (q := q) (by omega) hr1 (x := (b.toNat % 64 : Nat)) (by omega)
    have hg : s.getD (Int.toNat ↑i) 0 = b := getD_of (by simpa using hb)
    refine LoopW.round (pol := polG) mixP ?_
    conv => whnf
    repeat' ((first
     | ((with_reducible first | refine Br.dec ?_ ?_ | refine Br.ndec ?_ ?_) <;> intro hb <;> (try simp only [ZZ] at hb) <;> (first | omega | skip))
     | (with_reducible first | refine Br.tt rfl ?_ | refine Br.ff rfl ?_ | refine Br.ff (isEmptyCons _ _) ?_)
     | ((with_reducible first | refine Side.mk ?_ ?_ | refine WrapW.mk ?_ ?_); focus (first | omega | (dsimp only [InR, Int.reduceToNat, IntKind.bits, Int.reducePow]; omega) | (simp only [hg, InR]; omega) | (simp [CC]; done) | (constructor <;> omega)))
     | (refine Br.mk ?_ ?_ <;> intro hb <;> (try simp only [ZZ] at hb) <;> (first | omega | skip))
     | refine Src.whole ⟨rfl, rfl⟩ ?_ | refine FrzV.whole ?_) <;> conv => whnf)
    · rw [hg] at hb
      rw [if_neg (by omega)] at hR
      refine PostCl.of (hr hR.symm) ?_ ?_
      · repeat first | exact trivial | refine ⟨VLe.refl _, ?_⟩
      · repeat first | exact trivial | refine ⟨by decide, ?_⟩
    · rename_i h1
      rw [hg] at hb h1
      rw [if_neg (by omega)] at hR
      refine PostCl.of (hr hR.symm) ?_ ?_
      · repeat first | exact trivial | refine ⟨VLe.refl _, ?_⟩
      · repeat first | exact trivial | refine ⟨by decide, ?_⟩
    · rename_i h1
      rw [hg] at hb h1 ⊢
      rw [if_pos (by omega)] at hR
      have e : 64 * r + (b.toNat : Int) - 128 = r * 64 + (b.toNat % 64 : Nat) := by omega
      rw [e]
      refine LoopW.sub (ih (i + 1) _ (by omega) (by omega) (by omega) hst.1 hR) (by repeat first | exact trivial | refine ⟨VLe.refl _, ?_⟩) (by repeat first | exact trivial | refine ⟨by decide, ?_⟩)
theorem ref1_Take (s : Str) (hs : s.length ≤ 1073741824) : AbsCall PP GG F.ref1_Take [.p (.str s)] [] ⟨.ret (.tup [.p (.int .i64 (utfTake s).1), .p (.int .i64 (utfTake s).2)]), [], []⟩ := by
  rw [← refTake_eq]
  cases s with
  | nil =>
    refine absCall_of (pol := polG) mixP F.ref1_Take_is ?_
    conv => whnf
    repeat' ((first
     | ((with_reducible first | refine Br.dec ?_ ?_ | refine Br.ndec ?_ ?_) <;> intro hb <;> (try simp only [ZZ] at hb) <;> (first | omega | skip))
     | (with_reducible first | refine Br.tt rfl ?_ | refine Br.ff rfl ?_ | refine Br.ff (isEmptyCons _ _) ?_)
     | ((with_reducible first | refine Side.mk ?_ ?_ | refine WrapW.mk ?_ ?_); focus (first | omega | (dsimp only [InR, Int.reduceToNat, IntKind.bits, Int.reducePow]; omega) | (simp [CC]; done) | (constructor <;> omega)))
     | (refine Br.mk ?_ ?_ <;> intro hb <;> (try simp only [ZZ] at hb) <;> (first | omega | skip))
     | refine Src.whole ⟨rfl, rfl⟩ ?_ | refine FrzV.whole ?_) <;> conv => whnf)
    exact CLe.eq rfl
  | cons c cs =>
    have hc : c.toNat < 256 := UInt8.toNat_lt c
    have hg0 : (c :: cs).getD (Int.toNat 0) 0 = c := rfl
    have hl : (c :: cs).length = cs.length + 1 := rfl
    have h0 : (utfBegins c.toNat).1 = 0 ∨ ((c :: cs).length : Int) < (utfBegins c.toNat).1 → refTake (c :: cs) = (0, 0) := fun h => by unfold refTake; simp only []; rw [if_pos h]
    have hT0 : ¬ ((utfBegins c.toNat).1 = 0 ∨ ((c :: cs).length : Int) < (utfBegins c.toNat).1) → refTake (c :: cs) = _ := fun h => by unfold refTake; simp only []; rw [if_neg h]
    refine absCall_of (pol := polG) mixP F.ref1_Take_is ?_
    conv => whnf
    repeat' ((first
     | ((with_reducible first | refine Br.dec ?_ ?_ | refine Br.ndec ?_ ?_) <;> intro hb <;> (try simp only [And.intro @hg0 (ZZ)] at hb) <;> (first | omega | skip))
     | (with_reducible first | refine Br.tt rfl ?_ | refine Br.ff rfl ?_ | refine Br.ff (isEmptyCons _ _) ?_)
     | ((with_reducible first | refine Side.mk ?_ ?_ | refine WrapW.mk ?_ ?_); focus (first | omega | (dsimp only [InR, Int.reduceToNat, IntKind.bits, Int.reducePow]; omega) | (simp only [hg0, InR]; omega) | (simp only [List.length_cons]; omega) | (simp [CC]; done) | (constructor <;> omega)))
     | (refine Br.mk ?_ ?_ <;> intro hb <;> (try simp only [And.intro @hg0 (ZZ)] at hb) <;> (first | omega | skip))
     | refine Src.whole ⟨rfl, rfl⟩ ?_ | refine FrzV.whole ?_) <;> conv => whnf)
    · exact CLe.eq (by rw [h0 (by unfold utfBegins; (repeat' split) <;> first | omega | exact Or.inl rfl | (simp only []; omega))])
    · have hB : utfBegins c.toNat = (4, ((((c :: cs).getD (Int.toNat 0) 0).toNat : Int) - 240)) := by unfold utfBegins; rw [hg0]; (repeat' split) <;> first | omega | rfl | (congr 1; omega)
      have hr0 := utfBegins_r c.toNat
      have hT := hT0 (by rw [hB]; simp only []; omega)
      rw [hB] at hr0 hT
      simp only [] at hr0 hT
      refine LoopW.cl ?_
      refine LoopW.sub (refTake_loop (c :: cs) 4 (by omega) (by omega) (takeL 3 cs ((((c :: cs).getD (Int.toNat 0) 0).toNat : Int) - 240)) _ (fun r' hr' hp' => ?_) (fun hr' => ?_) 3 1 ((((c :: cs).getD (Int.toNat 0) 0).toNat : Int) - 240) (by omega) (by omega) (by omega) (by have := takeU_pos 3 (by omega); omega) rfl) (by repeat first | exact trivial | refine ⟨VLe.refl _, ?_⟩) (by repeat first | exact trivial | refine ⟨by decide, ?_⟩)
      · conv => whnf
        have hT : refTake (c :: cs) = if utfEnc r' = List.take 4 (c :: cs) then (r', 4) else (0, 0) := by rw [hT, show takeL (Int.toNat 4 - 1) cs ((((c :: cs).getD (Int.toNat 0) 0).toNat : Int) - 240) = some r' from hr']; rfl
        repeat' ((first
         | ((with_reducible first | refine Br.dec ?_ ?_ | refine Br.ndec ?_ ?_) <;> intro hb <;> (try simp only [ZZ] at hb) <;> (first | omega | skip))
         | (with_reducible first | refine Br.tt rfl ?_ | refine Br.ff rfl ?_ | refine Br.ff (isEmptyCons _ _) ?_)
         | ((with_reducible first | refine Side.mk ?_ ?_ | refine WrapW.mk ?_ ?_); focus (first | omega | (dsimp only [InR, Int.reduceToNat, IntKind.bits, Int.reducePow]; omega) | (simp [CC]; done) | (constructor <;> omega)))
         | (refine Br.mk ?_ ?_ <;> intro hb <;> (try simp only [ZZ] at hb) <;> (first | omega | skip))
         | refine Src.whole ⟨rfl, rfl⟩ ?_ | refine FrzV.whole ?_
         | refine CallW.use (ref1_Put _) ?_) <;> conv => whnf)
        · exact CLe.eq (by rw [hT, if_neg (show ¬ utfEnc r' = List.take 4 (c :: cs) from hb)])
        · exact CLe.eq (by rw [hT, if_pos (show utfEnc r' = List.take 4 (c :: cs) from hb)]; rfl)
      · conv => whnf
        exact CLe.eq (by rw [hT, show takeL (Int.toNat 4 - 1) cs ((((c :: cs).getD (Int.toNat 0) 0).toNat : Int) - 240) = none from hr'])
    · exact CLe.eq (by rw [h0 (by unfold utfBegins; (repeat' split) <;> first | omega | exact Or.inl rfl | (simp only []; omega))])
    · exact CLe.eq (by rw [h0 (by unfold utfBegins; (repeat' split) <;> first | omega | exact Or.inl rfl | (simp only []; omega))])
    · have hB : utfBegins c.toNat = (3, ((((c :: cs).getD (Int.toNat 0) 0).toNat : Int) - 224)) := by unfold utfBegins; rw [hg0]; (repeat' split) <;> first | omega | rfl | (congr 1; omega)
      have hr0 := utfBegins_r c.toNat
      have hT := hT0 (by rw [hB]; simp only []; omega)
      rw [hB] at hr0 hT
      simp only [] at hr0 hT
      refine LoopW.cl ?_
      refine LoopW.sub (refTake_loop (c :: cs) 3 (by omega) (by omega) (takeL 2 cs ((((c :: cs).getD (Int.toNat 0) 0).toNat : Int) - 224)) _ (fun r' hr' hp' => ?_) (fun hr' => ?_) 2 1 ((((c :: cs).getD (Int.toNat 0) 0).toNat : Int) - 224) (by omega) (by omega) (by omega) (by have := takeU_pos 2 (by omega); omega) rfl) (by repeat first | exact trivial | refine ⟨VLe.refl _, ?_⟩) (by repeat first | exact trivial | refine ⟨by decide, ?_⟩)
      · conv => whnf
        have hT : refTake (c :: cs) = if utfEnc r' = List.take 3 (c :: cs) then (r', 3) else (0, 0) := by rw [hT, show takeL (Int.toNat 3 - 1) cs ((((c :: cs).getD (Int.toNat 0) 0).toNat : Int) - 224) = some r' from hr']; rfl
        repeat' ((first
         | ((with_reducible first | refine Br.dec ?_ ?_ | refine Br.ndec ?_ ?_) <;> intro hb <;> (try simp only [ZZ] at hb) <;> (first | omega | skip))
         | (with_reducible first | refine Br.tt rfl ?_ | refine Br.ff rfl ?_ | refine Br.ff (isEmptyCons _ _) ?_)
         | ((with_reducible first | refine Side.mk ?_ ?_ | refine WrapW.mk ?_ ?_); focus (first | omega | (dsimp only [InR, Int.reduceToNat, IntKind.bits, Int.reducePow]; omega) | (simp [CC]; done) | (constructor <;> omega)))
         | (refine Br.mk ?_ ?_ <;> intro hb <;> (try simp only [ZZ] at hb) <;> (first | omega | skip))
         | refine Src.whole ⟨rfl, rfl⟩ ?_ | refine FrzV.whole ?_
         | refine CallW.use (ref1_Put _) ?_) <;> conv => whnf)
        · exact CLe.eq (by rw [hT, if_neg (show ¬ utfEnc r' = List.take 3 (c :: cs) from hb)])
        · exact CLe.eq (by rw [hT, if_pos (show utfEnc r' = List.take 3 (c :: cs) from hb)]; rfl)
      · conv => whnf
        exact CLe.eq (by rw [hT, show takeL (Int.toNat 3 - 1) cs ((((c :: cs).getD (Int.toNat 0) 0).toNat : Int) - 224) = none from hr'])
    · exact CLe.eq (by rw [h0 (by unfold utfBegins; (repeat' split) <;> first | omega | exact Or.inl rfl | (simp only []; omega))])
    · have hB : utfBegins c.toNat = (2, ((((c :: cs).getD (Int.toNat 0) 0).toNat : Int) - 192)) := by unfold utfBegins; rw [hg0]; (repeat' split) <;> first | omega | rfl | (congr 1; omega)
      have hr0 := utfBegins_r c.toNat
      have hT := hT0 (by rw [hB]; simp only []; omega)
      rw [hB] at hr0 hT
      simp only [] at hr0 hT
      refine LoopW.cl ?_
      refine LoopW.sub (refTake_loop (c :: cs) 2 (by omega) (by omega) (takeL 1 cs ((((c :: cs).getD (Int.toNat 0) 0).toNat : Int) - 192)) _ (fun r' hr' hp' => ?_) (fun hr' => ?_) 1 1 ((((c :: cs).getD (Int.toNat 0) 0).toNat : Int) - 192) (by omega) (by omega) (by omega) (by have := takeU_pos 1 (by omega); omega) rfl) (by repeat first | exact trivial | refine ⟨VLe.refl _, ?_⟩) (by repeat first | exact trivial | refine ⟨by decide, ?_⟩)
      · conv => whnf
        have hT : refTake (c :: cs) = if utfEnc r' = List.take 2 (c :: cs) then (r', 2) else (0, 0) := by rw [hT, show takeL (Int.toNat 2 - 1) cs ((((c :: cs).getD (Int.toNat 0) 0).toNat : Int) - 192) = some r' from hr']; rfl
        repeat' ((first
         | ((with_reducible first | refine Br.dec ?_ ?_ | refine Br.ndec ?_ ?_) <;> intro hb <;> (try simp only [ZZ] at hb) <;> (first | omega | skip))
         | (with_reducible first | refine Br.tt rfl ?_ | refine Br.ff rfl ?_ | refine Br.ff (isEmptyCons _ _) ?_)
         | ((with_reducible first | refine Side.mk ?_ ?_ | refine WrapW.mk ?_ ?_); focus (first | omega | (dsimp only [InR, Int.reduceToNat, IntKind.bits, Int.reducePow]; omega) | (simp [CC]; done) | (constructor <;> omega)))
         | (refine Br.mk ?_ ?_ <;> intro hb <;> (try simp only [ZZ] at hb) <;> (first | omega | skip))
         | refine Src.whole ⟨rfl, rfl⟩ ?_ | refine FrzV.whole ?_
         | refine CallW.use (ref1_Put _) ?_) <;> conv => whnf)
        · exact CLe.eq (by rw [hT, if_neg (show ¬ utfEnc r' = List.take 2 (c :: cs) from hb)])
        · exact CLe.eq (by rw [hT, if_pos (show utfEnc r' = List.take 2 (c :: cs) from hb)]; rfl)
      · conv => whnf
        exact CLe.eq (by rw [hT, show takeL (Int.toNat 2 - 1) cs ((((c :: cs).getD (Int.toNat 0) 0).toNat : Int) - 192) = none from hr'])
    · exact CLe.eq (by rw [h0 (by unfold utfBegins; (repeat' split) <;> first | omega | exact Or.inl rfl | (simp only []; omega))])
    · have hB : utfBegins c.toNat = (1, (((c :: cs).getD (Int.toNat 0) 0).toNat : Int)) := by unfold utfBegins; rw [hg0]; (repeat' split) <;> first | omega | rfl | (congr 1; omega)
      have hr0 := utfBegins_r c.toNat
      have hT := hT0 (by rw [hB]; simp only []; omega)
      rw [hB] at hr0 hT
      simp only [] at hr0 hT
      refine LoopW.cl ?_
      refine LoopW.sub (refTake_loop (c :: cs) 1 (by omega) (by omega) (takeL 0 cs (((c :: cs).getD (Int.toNat 0) 0).toNat : Int)) _ (fun r' hr' hp' => ?_) (fun hr' => ?_) 0 1 (((c :: cs).getD (Int.toNat 0) 0).toNat : Int) (by omega) (by omega) (by omega) (by have := takeU_pos 0 (by omega); omega) rfl) (by repeat first | exact trivial | refine ⟨VLe.refl _, ?_⟩) (by repeat first | exact trivial | refine ⟨by decide, ?_⟩)
      · conv => whnf
        have hT : refTake (c :: cs) = if utfEnc r' = List.take 1 (c :: cs) then (r', 1) else (0, 0) := by rw [hT, show takeL (Int.toNat 1 - 1) cs (((c :: cs).getD (Int.toNat 0) 0).toNat : Int) = some r' from hr']; rfl
        repeat' ((first
         | ((with_reducible first | refine Br.dec ?_ ?_ | refine Br.ndec ?_ ?_) <;> intro hb <;> (try simp only [ZZ] at hb) <;> (first | omega | skip))
         | (with_reducible first | refine Br.tt rfl ?_ | refine Br.ff rfl ?_ | refine Br.ff (isEmptyCons _ _) ?_)
         | ((with_reducible first | refine Side.mk ?_ ?_ | refine WrapW.mk ?_ ?_); focus (first | omega | (dsimp only [InR, Int.reduceToNat, IntKind.bits, Int.reducePow]; omega) | (simp [CC]; done) | (constructor <;> omega)))
         | (refine Br.mk ?_ ?_ <;> intro hb <;> (try simp only [ZZ] at hb) <;> (first | omega | skip))
         | refine Src.whole ⟨rfl, rfl⟩ ?_ | refine FrzV.whole ?_
         | refine CallW.use (ref1_Put _) ?_) <;> conv => whnf)
        · exact CLe.eq (by rw [hT, if_neg (show ¬ utfEnc r' = List.take 1 (c :: cs) from hb)])
        · exact CLe.eq (by rw [hT, if_pos (show utfEnc r' = List.take 1 (c :: cs) from hb)]; rfl)
      · conv => whnf
        exact CLe.eq (by rw [hT, show takeL (Int.toNat 1 - 1) cs (((c :: cs).getD (Int.toNat 0) 0).toNat : Int) = none from hr'])
theorem refValid_loop (s : Str) (hs : s.length ≤ 1073741824) (R : Int × Bool) (K : Post)
    (h0 : R = ((s.length : Int), true) → K (.exit 0) [(0, .p (.str s))] [] [])
    (hr : R.2 = false → K .ret [(2, .p (.int .i64 R.1))] [] []) :
    ∀ (q i : Nat), s.length ≤ i + q → i ≤ s.length → utfScan q (s.drop i) i = R →
      LoopW PP GG 23 0 (loopN F.ref1_Valid_c 0) [(0, .p (.str s)), (3, .p (.int .i64 i))] [] [] (PostCl 23 K) := by
  intro q
  induction q with
  | zero =>
    intro i hi hil hR
    rw [utfScan] at hR
    subst hR
    refine LoopW.round (pol := polG) mixP ?_
    conv => whnf
    repeat' ((first
     | ((with_reducible first | refine Br.dec ?_ ?_ | refine Br.ndec ?_ ?_) <;> intro hb <;> (try simp only [ZZ] at hb) <;> (first | omega | skip))
     | (with_reducible first | refine Br.tt rfl ?_ | refine Br.ff rfl ?_ | refine Br.ff (isEmptyCons _ _) ?_)
     | ((with_reducible first | refine Side.mk ?_ ?_ | refine WrapW.mk ?_ ?_); focus (first | omega | (dsimp only [InR, Int.reduceToNat, IntKind.bits, Int.reducePow]; omega) | (simp [CC]; done) | (constructor <;> omega)))
     | (refine Br.mk ?_ ?_ <;> intro hb <;> (try simp only [ZZ] at hb) <;> (first | omega | skip))
     | refine Src.whole ⟨rfl, rfl⟩ ?_ | refine FrzV.whole ?_) <;> conv => whnf)
    · refine PostCl.of (h0 (by congr 1; omega)) ?_ ?_
      · repeat first | exact trivial | refine ⟨VLe.refl _, ?_⟩
      · repeat first | exact trivial | refine ⟨by decide, ?_⟩
  | succ q ih =>
    intro i hi hil hR
    have hT := utfTake_n (s.drop i)
    have hd : (s.drop i).length ≤ 1073741824 := by simp only [List.length_drop]; omega
    have hdl : (s.drop i).length = s.length - i := List.length_drop
    cases hsd : s.drop i with
    | nil =>
      have : (s.drop i).length = 0 := by rw [hsd]; rfl
      rw [hsd, utfScan] at hR
      subst hR
      refine LoopW.round (pol := polG) mixP ?_
      conv => whnf
      repeat' ((first
       | ((with_reducible first | refine Br.dec ?_ ?_ | refine Br.ndec ?_ ?_) <;> intro hb <;> (try simp only [ZZ] at hb) <;> (first | omega | skip))
       | (with_reducible first | refine Br.tt rfl ?_ | refine Br.ff rfl ?_ | refine Br.ff (isEmptyCons _ _) ?_)
       | ((with_reducible first | refine Side.mk ?_ ?_ | refine WrapW.mk ?_ ?_); focus (first | omega | (dsimp only [InR, Int.reduceToNat, IntKind.bits, Int.reducePow]; omega) | (simp [CC]; done) | (constructor <;> omega)))
       | (refine Br.mk ?_ ?_ <;> intro hb <;> (try simp only [ZZ] at hb) <;> (first | omega | skip))
       | refine Src.whole ⟨rfl, rfl⟩ ?_ | refine FrzV.whole ?_) <;> conv => whnf)
      · refine PostCl.of (h0 (by congr 1; omega)) ?_ ?_
        · repeat first | exact trivial | refine ⟨VLe.refl _, ?_⟩
        · repeat first | exact trivial | refine ⟨by decide, ?_⟩
    | cons c cs =>
      have hlt : i < s.length := by have : (s.drop i).length = cs.length + 1 := by rw [hsd]; rfl
                                    omega
      rw [hsd, utfScan, ← hsd] at hR
      refine LoopW.round (pol := polG) mixP ?_
      conv => whnf
      repeat' ((first
       | ((with_reducible first | refine Br.dec ?_ ?_ | refine Br.ndec ?_ ?_) <;> intro hb <;> (try simp only [ZZ] at hb) <;> (first | omega | skip))
       | (with_reducible first | refine Br.tt rfl ?_ | refine Br.ff rfl ?_ | refine Br.ff (isEmptyCons _ _) ?_)
       | ((with_reducible first | refine Side.mk ?_ ?_ | refine WrapW.mk ?_ ?_); focus (first | omega | (dsimp only [InR, Int.reduceToNat, IntKind.bits, Int.reducePow]; omega) | (simp [CC]; done) | (constructor <;> omega)))
       | (refine Br.mk ?_ ?_ <;> intro hb <;> (try simp only [ZZ] at hb) <;> (first | omega | skip))
       | refine Src.whole ⟨rfl, rfl⟩ ?_ | refine FrzV.whole ?_
       | refine CallW.use (ref1_Take (s.drop i) hd) ?_) <;> conv => whnf)
      · rw [if_pos hb] at hR
        subst hR
        refine PostCl.of (hr rfl) ?_ ?_
        · repeat first | exact trivial | refine ⟨VLe.refl _, ?_⟩
        · repeat first | exact trivial | refine ⟨by decide, ?_⟩
      · rw [if_neg hb, List.drop_drop] at hR
        obtain ⟨m, hm⟩ : ∃ m : Nat, (utfTake (s.drop i)).2 = m := ⟨(utfTake (s.drop i)).2.toNat, by omega⟩
        rw [hm] at hR ⊢
        refine LoopW.sub (ih (i + m) (by omega) (by omega) (by rw [← hR]; congr 1)) (by repeat first | exact trivial | refine ⟨VLe.refl _, ?_⟩) (by repeat first | exact trivial | refine ⟨by decide, ?_⟩)
theorem ref1_Valid (s : Str) (hs : s.length ≤ 1073741824) : AbsCall PP GG F.ref1_Valid [.p (.str s)] [] ⟨.ret (.p (.int .i64 (refValid s))), [], []⟩ := by
  refine absCall_of (pol := polG) mixP F.ref1_Valid_is ?_
  conv => whnf
  refine LoopW.cl ?_
  refine LoopW.sub (refValid_loop s hs (utfValid s) _ (fun h => ?_) (fun h => ?_) s.length 0 (by omega) (by omega) rfl) (by repeat first | exact trivial | refine ⟨VLe.refl _, ?_⟩) (by repeat first | exact trivial | refine ⟨by decide, ?_⟩)
  · conv => whnf
    exact CLe.eq (by unfold refValid; rw [h]; rfl)
  · conv => whnf
    exact CLe.eq (by unfold refValid; rw [if_neg (by rw [h]; simp)])
end Go.Proofs.YthkoefpidnphpaaGreatDoor
end

section
namespace Go.Am
end Go.Am
end

section
namespace Go.Proofs.YthkoefpidnphpaaGreatDoor
open Go Go.Am
set_option maxRecDepth 100000
theorem ref1_Str (s : Str) (hs : s.length ≤ 1073741824) : AbsCall PP GG F.ref1_Str [.p (.str s)] [] ⟨.ret (.p (.bool (strOk s))), [], []⟩ := by
  refine absCall_of (pol := polG) mixP F.ref1_Str_is ?_
  conv => whnf
  repeat' ((first
   | ((with_reducible first | refine Br.dec ?_ ?_ | refine Br.ndec ?_ ?_) <;> intro hb <;> (try simp only [ZZ] at hb) <;> (first | omega | skip))
   | (with_reducible first | refine Br.tt rfl ?_ | refine Br.ff rfl ?_ | refine Br.ff (isEmptyCons _ _) ?_)
   | ((with_reducible first | refine Side.mk ?_ ?_ | refine WrapW.mk ?_ ?_); focus (first | omega | (dsimp only [InR, Int.reduceToNat, IntKind.bits, Int.reducePow]; omega) | (simp [CC]; done) | (constructor <;> omega)))
   | (refine Br.mk ?_ ?_ <;> intro hb <;> (try simp only [ZZ] at hb) <;> (first | omega | skip))
   | refine Src.whole ⟨rfl, rfl⟩ ?_ | refine FrzV.whole ?_
   | refine CallW.use (ref1_Valid s hs) ?_) <;> conv => whnf)
  · exact CLe.retP (by unfold strOk; rw [refValid_neg, decide_eq_true (by omega), Bool.true_and])
  · exact CLe.retP (by unfold strOk; rw [decide_eq_false (by omega), Bool.false_and])
end Go.Proofs.YthkoefpidnphpaaGreatDoor
end

section
namespace Go.Proofs.YthkoefpidnphpaaGreatDoor
open Go Go.Am Go.RowKit
set_option maxRecDepth 100000
theorem may_loop (l : List Stp) (hl : l.length ≤ 50) (hb : ∀ s ∈ l, s.k.length ≤ 1073741824) (R : Bool) (K : Post)
    (h0 : R = true → K (.exit 0) [] [] []) (hr : R = false → ∀ H, K .ret [(2, .p (.bool false))] H []) :
    ∀ (q i : Nat), i + q = l.length → R = (l.drop i).all stpOk → LoopW PP GG 51 0 (loopN F.ref17_May_c 0) [(0, .p (.lst false (encS l))), (3, .p (.int .i64 i))] [] [] (PostCl 51 K) := by
  have hla := encS_length l
  intro q
  induction q with
  | zero =>
    intro i hi hR
    obtain rfl : i = l.length := by omega
    rw [List.drop_length] at hR
    refine LoopW.round (pol := polG) mixP ?_
    conv => whnf
    repeat' ((first
     | ((with_reducible first | refine Br.dec ?_ ?_ | refine Br.ndec ?_ ?_) <;> intro hb <;> (try simp only [And.intro @hla (ZZ)] at hb) <;> (first | omega | contradiction | skip))
     | (with_reducible first | refine Br.tt rfl ?_ | refine Br.ff rfl ?_ | refine Br.ff (isEmptyCons _ _) ?_)
     | ((with_reducible first | refine Side.mk ?_ ?_ | refine WrapW.mk ?_ ?_); focus (first | omega | (dsimp only [InR, Int.reduceToNat, IntKind.bits, Int.reducePow]; omega) | (simp [CC]; done) | (constructor <;> omega)))
     | with_reducible refine Br.not ?_
     | (with_reducible first | refine Br.tt (by assumption) ?_ | refine Br.ff (by assumption) ?_)
     | (refine Br.mk ?_ ?_ <;> intro hb <;> (try simp only [And.intro @hla (ZZ)] at hb) <;> (first | omega | contradiction | skip))
     | refine Src.whole ⟨rfl, rfl⟩ ?_ | refine FrzV.whole ?_) <;> conv => whnf)
    refine PostCl.of (h0 hR) ?_ ?_
    · repeat first | exact trivial | refine ⟨VLe.refl _, ?_⟩
    · repeat first | exact trivial | refine ⟨by decide, ?_⟩
  | succ q ih =>
    intro i hi hR
    obtain ⟨s, hs⟩ : ∃ s, l[i]? = some s := ⟨_, List.getElem?_eq_getElem (show i < l.length by omega)⟩
    have hsi : l[(i : Int).toNat]? = some s := by rw [Int.toNat_natCast]; exact hs
    have hbs := hb s (List.mem_of_getElem? hs)
    rw [drop_cons hs, List.all_cons] at hR
    have hl := ih (i + 1) (by omega)
    obtain ⟨k, a, p⟩ := s
    simp only [] at hbs
    cases p with
    | true =>
      cases k with
      | cons b k =>
        have hf : R = false := by rw [hR]; simp [stpOk]
        refine LoopW.round (pol := polG) mixP ?_
        conv => whnf
        repeat' ((first
         | ((with_reducible first | refine Br.dec ?_ ?_ | refine Br.ndec ?_ ?_) <;> intro hb <;> (try simp only [And.intro @hla (ZZ)] at hb) <;> (first | omega | contradiction | skip))
         | (with_reducible first | refine Br.tt rfl ?_ | refine Br.ff rfl ?_ | refine Br.ff (isEmptyCons _ _) ?_)
         | ((with_reducible first | refine Side.mk ?_ ?_ | refine WrapW.mk ?_ ?_); focus (first | omega | (dsimp only [InR, Int.reduceToNat, IntKind.bits, Int.reducePow]; omega) | exact ⟨rfl, rfl⟩ | (simp [CC]; done) | (constructor <;> omega)))
         | with_reducible refine Br.not ?_
         | (with_reducible first | refine Br.tt (by assumption) ?_ | refine Br.ff (by assumption) ?_)
         | (refine Br.mk ?_ ?_ <;> intro hb <;> (try simp only [And.intro @hla (ZZ)] at hb) <;> (first | omega | contradiction | skip))
         | refine Src.whole ⟨rfl, rfl⟩ ?_ | refine FrzV.whole ?_
         | (refine ElemZ.stp hsi ?_)) <;> conv => whnf)
        all_goals refine PostCl.of (hr hf _) (by repeat first | exact trivial | refine ⟨VLe.refl _, ?_⟩) (by repeat first | exact trivial | refine ⟨by decide, ?_⟩)
      | nil =>
        by_cases h1 : a < 0
        · have hf : R = false := by rw [hR]; simp [stpOk]; omega
          refine LoopW.round (pol := polG) mixP ?_
          conv => whnf
          repeat' ((first
           | ((with_reducible first | refine Br.dec ?_ ?_ | refine Br.ndec ?_ ?_) <;> intro hb <;> (try simp only [And.intro @hla (ZZ)] at hb) <;> (first | omega | contradiction | skip))
           | (with_reducible first | refine Br.tt rfl ?_ | refine Br.ff rfl ?_ | refine Br.ff (isEmptyCons _ _) ?_)
           | ((with_reducible first | refine Side.mk ?_ ?_ | refine WrapW.mk ?_ ?_); focus (first | omega | (dsimp only [InR, Int.reduceToNat, IntKind.bits, Int.reducePow]; omega) | exact ⟨rfl, rfl⟩ | (simp [CC]; done) | (constructor <;> omega)))
           | with_reducible refine Br.not ?_
           | (with_reducible first | refine Br.tt (by assumption) ?_ | refine Br.ff (by assumption) ?_)
           | (refine Br.mk ?_ ?_ <;> intro hb <;> (try simp only [And.intro @hla (ZZ)] at hb) <;> (first | omega | contradiction | skip))
           | refine Src.whole ⟨rfl, rfl⟩ ?_ | refine FrzV.whole ?_
           | (refine ElemZ.stp hsi ?_)) <;> conv => whnf)
          all_goals refine PostCl.of (hr hf _) (by repeat first | exact trivial | refine ⟨VLe.refl _, ?_⟩) (by repeat first | exact trivial | refine ⟨by decide, ?_⟩)
        · by_cases h2 : 1000000000 < a
          · have hf : R = false := by rw [hR]; simp [stpOk]; omega
            refine LoopW.round (pol := polG) mixP ?_
            conv => whnf
            repeat' ((first
             | ((with_reducible first | refine Br.dec ?_ ?_ | refine Br.ndec ?_ ?_) <;> intro hb <;> (try simp only [And.intro @hla (ZZ)] at hb) <;> (first | omega | contradiction | skip))
             | (with_reducible first | refine Br.tt rfl ?_ | refine Br.ff rfl ?_ | refine Br.ff (isEmptyCons _ _) ?_)
             | ((with_reducible first | refine Side.mk ?_ ?_ | refine WrapW.mk ?_ ?_); focus (first | omega | (dsimp only [InR, Int.reduceToNat, IntKind.bits, Int.reducePow]; omega) | exact ⟨rfl, rfl⟩ | (simp [CC]; done) | (constructor <;> omega)))
             | with_reducible refine Br.not ?_
             | (with_reducible first | refine Br.tt (by assumption) ?_ | refine Br.ff (by assumption) ?_)
             | (refine Br.mk ?_ ?_ <;> intro hb <;> (try simp only [And.intro @hla (ZZ)] at hb) <;> (first | omega | contradiction | skip))
             | refine Src.whole ⟨rfl, rfl⟩ ?_ | refine FrzV.whole ?_
             | (refine ElemZ.stp hsi ?_)) <;> conv => whnf)
            all_goals refine PostCl.of (hr hf _) (by repeat first | exact trivial | refine ⟨VLe.refl _, ?_⟩) (by repeat first | exact trivial | refine ⟨by decide, ?_⟩)
          · have hf : R = (l.drop (i + 1)).all stpOk := by rw [hR]; simp [stpOk]; omega
            refine LoopW.round (pol := polG) mixP ?_
            conv => whnf
            repeat' ((first
             | ((with_reducible first | refine Br.dec ?_ ?_ | refine Br.ndec ?_ ?_) <;> intro hb <;> (try simp only [And.intro @hla (ZZ)] at hb) <;> (first | omega | contradiction | skip))
             | (with_reducible first | refine Br.tt rfl ?_ | refine Br.ff rfl ?_ | refine Br.ff (isEmptyCons _ _) ?_)
             | ((with_reducible first | refine Side.mk ?_ ?_ | refine WrapW.mk ?_ ?_); focus (first | omega | (dsimp only [InR, Int.reduceToNat, IntKind.bits, Int.reducePow]; omega) | exact ⟨rfl, rfl⟩ | (simp [CC]; done) | (constructor <;> omega)))
             | with_reducible refine Br.not ?_
             | (with_reducible first | refine Br.tt (by assumption) ?_ | refine Br.ff (by assumption) ?_)
             | (refine Br.mk ?_ ?_ <;> intro hb <;> (try simp only [And.intro @hla (ZZ)] at hb) <;> (first | omega | contradiction | skip))
             | refine Src.whole ⟨rfl, rfl⟩ ?_ | refine FrzV.whole ?_
             | (refine ElemZ.stp hsi ?_)) <;> conv => whnf)
            all_goals refine LoopW.ren [] (hl hf) (by repeat first | exact trivial | refine ⟨⟨rfl, VLe.refl _⟩, ?_⟩) (by repeat first | exact trivial | refine ⟨by decide, ?_⟩) rfl rfl
    | false =>
      by_cases h1 : a = 0
      · subst h1
        have hS := ref1_Str k hbs
        cases hk : strOk k with
        | true =>
          rw [hk] at hS
          have hf : R = (l.drop (i + 1)).all stpOk := by rw [hR]; simp [stpOk, hk]
          refine LoopW.round (pol := polG) mixP ?_
          conv => whnf
          repeat' ((first
           | ((with_reducible first | refine Br.dec ?_ ?_ | refine Br.ndec ?_ ?_) <;> intro hb <;> (try simp only [And.intro @hla (ZZ)] at hb) <;> (first | omega | contradiction | skip))
           | (with_reducible first | refine Br.tt rfl ?_ | refine Br.ff rfl ?_ | refine Br.ff (isEmptyCons _ _) ?_)
           | ((with_reducible first | refine Side.mk ?_ ?_ | refine WrapW.mk ?_ ?_); focus (first | omega | (dsimp only [InR, Int.reduceToNat, IntKind.bits, Int.reducePow]; omega) | exact ⟨rfl, rfl⟩ | (simp [CC]; done) | (constructor <;> omega)))
           | with_reducible refine Br.not ?_
           | (with_reducible first | refine Br.tt (by assumption) ?_ | refine Br.ff (by assumption) ?_)
           | (refine Br.mk ?_ ?_ <;> intro hb <;> (try simp only [And.intro @hla (ZZ)] at hb) <;> (first | omega | contradiction | skip))
           | refine Src.whole ⟨rfl, rfl⟩ ?_ | refine FrzV.whole ?_
           | refine CallW.use (hS) ?_
           | (refine ElemZ.stp hsi ?_)) <;> conv => whnf)
          all_goals refine LoopW.ren [] (hl hf) (by repeat first | exact trivial | refine ⟨⟨rfl, VLe.refl _⟩, ?_⟩) (by repeat first | exact trivial | refine ⟨by decide, ?_⟩) rfl rfl
        | false =>
          rw [hk] at hS
          have hf : R = false := by rw [hR]; simp [stpOk, hk]
          refine LoopW.round (pol := polG) mixP ?_
          conv => whnf
          repeat' ((first
           | ((with_reducible first | refine Br.dec ?_ ?_ | refine Br.ndec ?_ ?_) <;> intro hb <;> (try simp only [And.intro @hla (ZZ)] at hb) <;> (first | omega | contradiction | skip))
           | (with_reducible first | refine Br.tt rfl ?_ | refine Br.ff rfl ?_ | refine Br.ff (isEmptyCons _ _) ?_)
           | ((with_reducible first | refine Side.mk ?_ ?_ | refine WrapW.mk ?_ ?_); focus (first | omega | (dsimp only [InR, Int.reduceToNat, IntKind.bits, Int.reducePow]; omega) | exact ⟨rfl, rfl⟩ | (simp [CC]; done) | (constructor <;> omega)))
           | with_reducible refine Br.not ?_
           | (with_reducible first | refine Br.tt (by assumption) ?_ | refine Br.ff (by assumption) ?_)
           | (refine Br.mk ?_ ?_ <;> intro hb <;> (try simp only [And.intro @hla (ZZ)] at hb) <;> (first | omega | contradiction | skip))
           | refine Src.whole ⟨rfl, rfl⟩ ?_ | refine FrzV.whole ?_
           | refine CallW.use (hS) ?_
           | (refine ElemZ.stp hsi ?_)) <;> conv => whnf)
          all_goals refine PostCl.of (hr hf _) (by repeat first | exact trivial | refine ⟨VLe.refl _, ?_⟩) (by repeat first | exact trivial | refine ⟨by decide, ?_⟩)
      · have hf : R = false := by rw [hR]; simp [stpOk, h1]
        refine LoopW.round (pol := polG) mixP ?_
        conv => whnf
        repeat' ((first
         | ((with_reducible first | refine Br.dec ?_ ?_ | refine Br.ndec ?_ ?_) <;> intro hb <;> (try simp only [And.intro @hla (ZZ)] at hb) <;> (first | omega | contradiction | skip))
         | (with_reducible first | refine Br.tt rfl ?_ | refine Br.ff rfl ?_ | refine Br.ff (isEmptyCons _ _) ?_)
         | ((with_reducible first | refine Side.mk ?_ ?_ | refine WrapW.mk ?_ ?_); focus (first | omega | (dsimp only [InR, Int.reduceToNat, IntKind.bits, Int.reducePow]; omega) | exact ⟨rfl, rfl⟩ | (simp [CC]; done) | (constructor <;> omega)))
         | with_reducible refine Br.not ?_
         | (with_reducible first | refine Br.tt (by assumption) ?_ | refine Br.ff (by assumption) ?_)
         | (refine Br.mk ?_ ?_ <;> intro hb <;> (try simp only [And.intro @hla (ZZ)] at hb) <;> (first | omega | contradiction | skip))
         | refine Src.whole ⟨rfl, rfl⟩ ?_ | refine FrzV.whole ?_
         | (refine ElemZ.stp hsi ?_)) <;> conv => whnf)
        all_goals refine PostCl.of (hr hf _) (by repeat first | exact trivial | refine ⟨VLe.refl _, ?_⟩) (by repeat first | exact trivial | refine ⟨by decide, ?_⟩)
theorem ref17_May (l : List Stp) (hl : l.length ≤ 9223372036854775807) (hb : ∀ s ∈ l, s.k.length ≤ 1073741824) : AbsCall PP GG F.ref17_May [.p (.lst false (encS l))] [] ⟨.ret (.p (.bool (pathOk l))), [], []⟩ := by
  have hla := encS_length l
  by_cases h50 : l.length ≤ 50
  · have hlp := may_loop l h50 hb (pathOk l)
    have hR : pathOk l = (l.drop 0).all stpOk := by unfold pathOk; simp [h50]
    generalize pathOk l = R at *
    refine absCall_of (pol := polG) mixP F.ref17_May_is ?_
    conv => whnf
    repeat' ((first
     | ((with_reducible first | refine Br.dec ?_ ?_ | refine Br.ndec ?_ ?_) <;> intro hb <;> (try simp only [And.intro @hla (ZZ)] at hb) <;> (first | omega | contradiction | skip))
     | (with_reducible first | refine Br.tt rfl ?_ | refine Br.ff rfl ?_ | refine Br.ff (isEmptyCons _ _) ?_)
     | ((with_reducible first | refine Side.mk ?_ ?_ | refine WrapW.mk ?_ ?_); focus (first | omega | (dsimp only [InR, Int.reduceToNat, IntKind.bits, Int.reducePow]; omega) | (simp [CC]; done) | (constructor <;> omega)))
     | with_reducible refine Br.not ?_
     | (with_reducible first | refine Br.tt (by assumption) ?_ | refine Br.ff (by assumption) ?_)
     | (refine Br.mk ?_ ?_ <;> intro hb <;> (try simp only [And.intro @hla (ZZ)] at hb) <;> (first | omega | contradiction | skip))
     | refine Src.whole ⟨rfl, rfl⟩ ?_ | refine FrzV.whole ?_) <;> conv => whnf)
    refine LoopW.cl ?_
    refine LoopW.sub (hlp _ (fun h => ?_) (fun h H => ?_) l.length 0 (Nat.zero_add _) hR) (by repeat first | exact trivial | refine ⟨VLe.refl _, ?_⟩) (by repeat first | exact trivial | refine ⟨by decide, ?_⟩)
    · rw [h]
      conv => whnf
      repeat' ((first
       | ((with_reducible first | refine Br.dec ?_ ?_ | refine Br.ndec ?_ ?_) <;> intro hb <;> (try simp only [ZZ] at hb) <;> (first | omega | contradiction | skip))
       | (with_reducible first | refine Br.tt rfl ?_ | refine Br.ff rfl ?_ | refine Br.ff (isEmptyCons _ _) ?_)
       | ((with_reducible first | refine Side.mk ?_ ?_ | refine WrapW.mk ?_ ?_); focus (first | omega | (dsimp only [InR, Int.reduceToNat, IntKind.bits, Int.reducePow]; omega) | (simp [CC]; done) | (constructor <;> omega)))
       | with_reducible refine Br.not ?_
       | (with_reducible first | refine Br.tt (by assumption) ?_ | refine Br.ff (by assumption) ?_)
       | (refine Br.mk ?_ ?_ <;> intro hb <;> (try simp only [ZZ] at hb) <;> (first | omega | contradiction | skip))
       | refine Src.whole ⟨rfl, rfl⟩ ?_ | refine FrzV.whole ?_) <;> conv => whnf)
      exact CLe.retP rfl
    · rw [h]
      conv => whnf
      exact CLe.retP rfl
  · have hf : pathOk l = false := by unfold pathOk; simp [h50]
    rw [hf]
    refine absCall_of (pol := polG) mixP F.ref17_May_is ?_
    conv => whnf
    repeat' ((first
     | ((with_reducible first | refine Br.dec ?_ ?_ | refine Br.ndec ?_ ?_) <;> intro hb <;> (try simp only [And.intro @hla (ZZ)] at hb) <;> (first | omega | contradiction | skip))
     | (with_reducible first | refine Br.tt rfl ?_ | refine Br.ff rfl ?_ | refine Br.ff (isEmptyCons _ _) ?_)
     | ((with_reducible first | refine Side.mk ?_ ?_ | refine WrapW.mk ?_ ?_); focus (first | omega | (dsimp only [InR, Int.reduceToNat, IntKind.bits, Int.reducePow]; omega) | (simp [CC]; done) | (constructor <;> omega)))
     | with_reducible refine Br.not ?_
     | (with_reducible first | refine Br.tt (by assumption) ?_ | refine Br.ff (by assumption) ?_)
     | (refine Br.mk ?_ ?_ <;> intro hb <;> (try simp only [And.intro @hla (ZZ)] at hb) <;> (first | omega | contradiction | skip))
     | refine Src.whole ⟨rfl, rfl⟩ ?_ | refine FrzV.whole ?_) <;> conv => whnf)
    exact CLe.retP rfl
end Go.Proofs.YthkoefpidnphpaaGreatDoor
end
