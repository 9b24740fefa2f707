/-
The program's judgement of trees: how many nodes it has counted, and whether all may be.
-/
import Derived.Test.YtaoejccgdpppgaaGreatDoorPG
import Derived.Test.YtaoejccgdpppgaaGreatDoorPF
import Derived.Lib.ItoaLen
import Derived.Lib.Repeat
import Derived.Shelf.Strconv.Itoa4
import Derived.Shelf.Strings.Repeat
import Derived.Test.YtaoejccgdpppgaaGreatDoorProg
import Derived.Test.YtaoejccgdpppgaaGreatDoorPE

section
namespace Go.Am
open Go
def ownT (k n : Int) (s : Str) (ll lm : Nat) : Bool := decide (¬ ownBad k n s.length ll lm) && nodeOk k n s
mutual
def judgeT : Tree → Int → Int → Bool × Int
  | .mk k v s l m, d, n => if 4096 < n + 1 ∨ 32 < d ∨ ownT k v s l.length m.length = false then (false, n + 1) else
    match judgeL l (d + 1) (n + 1) with
    | (false, n') => (false, n')
    | (true, n') => judgeM none m (d + 1) n'
def judgeL : List Tree → Int → Int → Bool × Int
  | [], _, n => (true, n)
  | t :: l, d, n => match judgeT t d n with
    | (false, n') => (false, n')
    | (true, n') => judgeL l d n'
def judgeM : Option Str → List (Str × Tree) → Int → Int → Bool × Int
  | _, [], _, n => (true, n)
  | o, p :: m, d, n => match judgeP o p d n with
    | (false, n') => (false, n')
    | (true, n') => judgeM (some p.1) m d n'
def judgeP : Option Str → Str × Tree → Int → Int → Bool × Int
  | o, (k, t), d, n => if (match o with | none => false | some p => leqS k p) = true ∨ strOk k = false then (false, n) else judgeT t d n
end
end Go.Am
namespace Go.Am
theorem judgeL_cons (t : Tree) (l : List Tree) (d n : Int) : judgeL (t :: l) d n = if (judgeT t d n).1 = false then (false, (judgeT t d n).2) else judgeL l d (judgeT t d n).2 := by
  rw [judgeL]
  cases h : judgeT t d n with
  | mk a b => cases a <;> simp
theorem judgeM_cons (o : Option Str) (k : Str) (t : Tree) (m : List (Str × Tree)) (d n : Int) : judgeM o ((k, t) :: m) d n =
    if (match o with | none => false | some p => leqS k p) = true ∨ strOk k = false then (false, n) else if (judgeT t d n).1 = false then (false, (judgeT t d n).2) else judgeM (some k) m d (judgeT t d n).2 := by
  rw [judgeM.eq_def]
  simp only []
  rw [judgeP.eq_def]
  simp only []
  by_cases hc : (match o with | none => false | some p => leqS k p) = true ∨ strOk k = false
  · rw [if_pos hc, if_pos hc]
  · rw [if_neg hc, if_neg hc]
    cases h : judgeT t d n with
    | mk a b => cases a <;> simp
theorem pairM (x : Bool × Int) (f : Int → Bool × Int) : (match x with | (false, n') => (false, n') | (true, n') => f n') = if x.1 = false then (false, x.2) else f x.2 := by
  obtain ⟨a, b⟩ := x
  cases a <;> simp
theorem judgeT_eq (t : Tree) (d n : Int) : judgeT t d n = if 4096 < n + 1 ∨ 32 < d ∨ ownT t.kind t.n t.s t.l.length t.m.length = false then (false, n + 1) else
    if (judgeL t.l (d + 1) (n + 1)).1 = false then (false, (judgeL t.l (d + 1) (n + 1)).2) else judgeM none t.m (d + 1) (judgeL t.l (d + 1) (n + 1)).2 := by
  cases t with
  | mk k v s l m =>
    rw [judgeT]
    simp only [Tree.kind, Tree.n, Tree.s, Tree.l, Tree.m]
    by_cases h : 4096 < n + 1 ∨ 32 < d ∨ ownT k v s l.length m.length = false
    · rw [if_pos h]; exact (if_pos h).symm
    · rw [if_neg h]
      refine Eq.trans ?_ (if_neg h).symm
      exact pairM (judgeL l (d + 1) (n + 1)) (fun n' => judgeM none m (d + 1) n')
end Go.Am
namespace Go.Am
theorem judge_bound : ∀ (t : Tree) (d n : Int), 0 ≤ n → n ≤ 4097 → n ≤ (judgeT t d n).2 ∧ (judgeT t d n).2 ≤ 4098 ∧ ((judgeT t d n).1 = true → (judgeT t d n).2 ≤ 4096) := by
  refine Tree.ind fun t hl hm d n h0 h1 => ?_
  have hL : ∀ (l : List Tree), (∀ x ∈ l, x ∈ t.l) → ∀ n : Int, 0 ≤ n → n ≤ 4096 → n ≤ (judgeL l (d + 1) n).2 ∧ (judgeL l (d + 1) n).2 ≤ 4098 ∧ ((judgeL l (d + 1) n).1 = true → (judgeL l (d + 1) n).2 ≤ 4096) := by
    intro l
    induction l with
    | nil => intro _ n h0 h1; rw [judgeL]; exact ⟨Int.le_refl _, by simp only []; omega, fun _ => h1⟩
    | cons x l ih =>
      intro hx n h0 h1
      have hb := hl x (hx x (by simp)) (d + 1) n h0 (by omega)
      rw [judgeL_cons]
      split
      · exact ⟨hb.1, hb.2.1, fun e => by cases e⟩
      · rename_i hc
        have := ih (fun y hy => hx y (by simp [hy])) (judgeT x (d + 1) n).2 (by omega) (hb.2.2 (by simpa using hc))
        exact ⟨by omega, this.2.1, this.2.2⟩
  have hM : ∀ (l : List (Str × Tree)) (o : Option Str), (∀ x ∈ l, x ∈ t.m) → ∀ n : Int, 0 ≤ n → n ≤ 4096 → n ≤ (judgeM o l (d + 1) n).2 ∧ (judgeM o l (d + 1) n).2 ≤ 4098 ∧ ((judgeM o l (d + 1) n).1 = true → (judgeM o l (d + 1) n).2 ≤ 4096) := by
    intro l
    induction l with
    | nil => intro o _ n h0 h1; rw [judgeM]; exact ⟨Int.le_refl _, by simp only []; omega, fun _ => h1⟩
    | cons x l ih =>
      intro o hx n h0 h1
      obtain ⟨k, y⟩ := x
      have hb := hm (k, y) (hx _ (by simp)) (d + 1) n h0 (by omega)
      simp only [] at hb
      rw [judgeM_cons]
      by_cases hc0 : (match o with | none => false | some p => leqS k p) = true ∨ strOk k = false
      · rw [if_pos hc0]; exact ⟨Int.le_refl _, by simp only []; omega, fun e => by cases e⟩
      · rw [if_neg hc0]
        by_cases hc : (judgeT y (d + 1) n).1 = false
        · rw [if_pos hc]; exact ⟨hb.1, hb.2.1, fun e => by cases e⟩
        · rw [if_neg hc]
          have := ih (some k) (fun y hy => hx y (by simp [hy])) (judgeT y (d + 1) n).2 (by omega) (hb.2.2 (by simpa using hc))
          exact ⟨by omega, this.2.1, this.2.2⟩
  rw [judgeT_eq]
  split
  · exact ⟨by simp only []; omega, by simp only []; omega, fun e => by cases e⟩
  · rename_i hc
    have h2 := hL t.l (fun _ h => h) (n + 1) (by omega) (by omega)
    split
    · exact ⟨by have := h2.1; simp only []; omega, h2.2.1, fun e => by cases e⟩
    · rename_i hc2
      have := hM t.m none (fun _ h => h) (judgeL t.l (d + 1) (n + 1)).2 (by omega) (h2.2.2 (by simpa using hc2))
      exact ⟨by omega, this.2.1, this.2.2⟩
end Go.Am
namespace Go.Am
theorem judgeL_bound : ∀ (l : List Tree) (d n : Int), 0 ≤ n → n ≤ 4096 → (judgeL l d n).1 = true → 0 ≤ (judgeL l d n).2 ∧ (judgeL l d n).2 ≤ 4096
  | [], d, n, h0, h1, _ => by rw [judgeL]; exact ⟨h0, h1⟩
  | t :: l, d, n, h0, h1, h => by
    have hb := judge_bound t d n h0 (by omega)
    rw [judgeL_cons] at h ⊢
    by_cases hc : (judgeT t d n).1 = false
    · rw [if_pos hc] at h; cases h
    · rw [if_neg hc] at h ⊢
      exact judgeL_bound l d _ (by omega) (hb.2.2 (by simpa using hc)) h
def lineL (n : Int) : Str := if n < 0 then [] else 10 :: Lib.repeatL [32, 32] n.toNat
theorem repeat_len (n : Nat) : (Lib.repeatL [32, 32] n).length = n * 2 := by rw [Lib.repeatL_length]; rfl
def hexd (k : Nat) : UInt8 := [48, 49, 50, 51, 52, 53, 54, 55, 56, 57, 97, 98, 99, 100, 101, 102].getD k 0
def hex2 (n : Nat) : Str := [48, 48, hexd (n / 16), hexd (n % 16)]
theorem iand15 {a : Int} (h0 : 0 ≤ a) (ha : a ≤ 9223372036854775807) : iand .i64 a 15 = a % 16 := by
  have := iand_low (k := .i64) (a := a) 4 h0 (by simp only [IntKind.bits]; omega) (by decide)
  simpa using this
theorem itoa_small {u : Nat} (h : u < 10) : Lib.itoa (u : Int) = [UInt8.ofNat (48 + u)] := by rw [Lib.itoa_nonneg, Lib.decDigits, dif_pos h]
theorem itoa_big {u : Nat} (h : ¬ u < 10) : Lib.itoa (u : Int) = Lib.itoa ((u / 10 : Nat) : Int) ++ [UInt8.ofNat (48 + u % 10)] := by rw [Lib.itoa_nonneg, Lib.itoa_nonneg, Lib.decDigits, dif_neg h]
def quoteU (x : Str) (n : Int) : Str :=
  if n = 0 then [239, 191, 189] else
  if b0 x = 34 ∨ b0 x = 92 then 92 :: x else
  if b0 x = 8 then [92, 98] else
  if b0 x = 9 then [92, 116] else
  if b0 x = 10 then [92, 110] else
  if b0 x = 12 then [92, 102] else
  if b0 x = 13 then [92, 114] else
  if b0 x < 32 then 92 :: 117 :: hex2 (b0 x) else x
def stepN (s : Str) : Nat := (max (utfTake s).2 1).toNat
def quoteL : Nat → Str → Str
  | 0, _ => []
  | _ + 1, [] => []
  | q + 1, c :: cs => quoteU ((c :: cs).take (stepN (c :: cs))) (utfTake (c :: cs)).2 ++ quoteL q ((c :: cs).drop (stepN (c :: cs)))
def quoteS (s : Str) : Str := 34 :: quoteL s.length s ++ [34]
theorem stepN_pos (s : Str) : 1 ≤ stepN s ∧ stepN s ≤ 4 := by unfold stepN; have := utfTake_n s; omega
theorem stepN_le (c : UInt8) (cs : Str) : stepN (c :: cs) ≤ (c :: cs).length := by unfold stepN; have := utfTake_n (c :: cs); simp only [List.length_cons] at this ⊢; omega
theorem takeL_take : ∀ (q : Nat) (s : Str) (r : Int), takeL q (s.take q) r = takeL q s r
  | 0, _, _ => rfl
  | q + 1, [], _ => by simp
  | q + 1, b :: s, r => by
    rw [List.take_succ_cons, takeL, takeL]
    split
    · exact takeL_take q s _
    · rfl
theorem utfTake_pre (c : UInt8) (cs : Str) : utfTake ((c :: cs).take (stepN (c :: cs))) = utfTake (c :: cs) := by
  by_cases h0 : (utfTake (c :: cs)).2 = 0
  · have h1 := utfTake_0 h0
    have hs : stepN (c :: cs) = 1 := by unfold stepN; rw [h0]; rfl
    rw [hs, show utfTake (c :: cs) = (0, 0) from Prod.ext h1 h0]
    show utfTake [c] = (0, 0)
    have hb := utfBegins_n c.toNat
    unfold utfTake at h0 ⊢
    simp only [List.length_cons, List.length_nil] at h0 ⊢
    split
    · rfl
    · rename_i hc
      have h1 : (utfBegins c.toNat).1 = 1 := by omega
      rw [if_neg (by rw [h1]; omega)] at h0
      rw [h1] at h0 ⊢
      simp only [show Int.toNat 1 - 1 = 0 from rfl, takeL] at h0 ⊢
      split
      · rename_i hg; rw [if_pos hg] at h0; simp at h0
      · rfl
  · have hn := utfTake_n (c :: cs)
    have hs : stepN (c :: cs) = (utfTake (c :: cs)).2.toNat := by unfold stepN; omega
    rw [hs]
    have hb := utfBegins_n c.toNat
    have key : (utfTake (c :: cs)).2 = (utfBegins c.toNat).1 := by
      unfold utfTake at h0 ⊢
      simp only [] at h0 ⊢
      split
      · rename_i h; rw [if_pos h] at h0; exact absurd rfl h0
      · rename_i h
        rw [if_neg h] at h0
        split
        · rename_i h2; rw [h2] at h0; exact absurd rfl h0
        · rename_i r h2
          rw [h2] at h0
          simp only [] at h0
          split
          · rfl
          · rename_i h3; rw [if_neg h3] at h0; exact absurd rfl h0
    rw [key] at hn h0 ⊢
    obtain ⟨k, hk⟩ : ∃ k : Nat, (utfBegins c.toNat).1 = ((k + 1 : Nat) : Int) := ⟨(utfBegins c.toNat).1.toNat - 1, by omega⟩
    rw [hk, Int.toNat_natCast, List.take_succ_cons]
    rw [hk] at hn
    have hl : (c :: cs.take k).length = k + 1 := by
      simp only [List.length_cons, List.length_take] at hn ⊢
      omega
    unfold utfTake
    simp only [hl]
    rw [hk, Int.toNat_natCast, Nat.add_sub_cancel, takeL_take]
    rw [if_neg (by omega), if_neg (by omega)]
theorem quoteU_len (x : Str) (n : Int) : (quoteU x n).length ≤ x.length + 6 := by
  unfold quoteU
  repeat' split
  all_goals simp [hex2]
  all_goals omega
def deeper (d : Int) : Int := if 0 ≤ d then d + 1 else -1
def colonL (d : Int) : Str := if 0 ≤ d then [58, 32] else [58]
mutual
def printT : Tree → Int → Str
  | .mk k n s l m, d => if k = 0 then [110, 117, 108, 108] else if k = 1 then (if n = 1 then [116, 114, 117, 101] else [102, 97, 108, 115, 101]) else
    if k = 2 then Lib.itoa n else if k = 3 then s else if k = 4 ∨ k = 7 then quoteS s else
    if k = 6 then (if m.length = 0 then [123, 125] else 123 :: (printM true m (deeper d) ++ (lineL d ++ [125])))
    else (if l.length = 0 then [91, 93] else 91 :: (printL true l (deeper d) ++ (lineL d ++ [93])))
def printL : Bool → List Tree → Int → Str
  | _, [], _ => []
  | f, t :: l, d => (if f = true then [] else [44]) ++ (lineL d ++ (printT t d ++ printL false l d))
def printM : Bool → List (Str × Tree) → Int → Str
  | _, [], _ => []
  | f, p :: m, d => (if f = true then [] else [44]) ++ (lineL d ++ (printP p d ++ printM false m d))
def printP : Str × Tree → Int → Str
  | (k, t), d => quoteS k ++ (colonL d ++ printT t d)
end
theorem printT_eq (t : Tree) (d : Int) : printT t d = if t.kind = 0 then [110, 117, 108, 108] else if t.kind = 1 then (if t.n = 1 then [116, 114, 117, 101] else [102, 97, 108, 115, 101]) else
    if t.kind = 2 then Lib.itoa t.n else if t.kind = 3 then t.s else if t.kind = 4 ∨ t.kind = 7 then quoteS t.s else
    if t.kind = 6 then (if t.m.length = 0 then [123, 125] else 123 :: (printM true t.m (deeper d) ++ (lineL d ++ [125])))
    else (if t.l.length = 0 then [91, 93] else 91 :: (printL true t.l (deeper d) ++ (lineL d ++ [93]))) := by cases t; rw [printT]; rfl
theorem quoteL_len : ∀ (q : Nat) (s : Str), (quoteL q s).length ≤ 10 * s.length
  | 0, s => by simp [quoteL]
  | q + 1, [] => by simp [quoteL]
  | q + 1, c :: cs => by
    rw [quoteL, List.length_append]
    have h1 := quoteL_len q ((c :: cs).drop (stepN (c :: cs)))
    have h2 := quoteU_len ((c :: cs).take (stepN (c :: cs))) (utfTake (c :: cs)).2
    have h3 := stepN_pos (c :: cs)
    have h4 := stepN_le c cs
    rw [List.length_drop] at h1
    rw [List.length_take] at h2
    omega
theorem quoteS_len (s : Str) : (quoteS s).length ≤ 2 + 10 * s.length := by
  unfold quoteS
  have := quoteL_len s.length s
  simp only [List.length_append, List.length_cons, List.length_nil]
  omega
theorem lineL_len (d : Int) (h : d ≤ 8000000) : (lineL d).length ≤ 16000001 := by
  unfold lineL
  split
  · simp
  · rw [List.length_cons, repeat_len]; omega
end Go.Am
namespace Go.Am
theorem encP_flat (k : Str) (y : Tree) : Tree.encP (k, y) = .agg [.str k, .int .i64 y.kind, .int .i64 y.n, .str y.s, .lst false (Tree.encL y.l), .lst false (Tree.encM y.m)] := by
  rw [Tree.encP, Tree.enc_eta y]; rfl
theorem ElemZ.pairE {m : List (Str × Tree)} {i : Nat} {K : PV → Prop} {k : Str} {y : Tree} (h : m[i]? = some (k, y))
    (q : K (.agg [.str k, .int .i64 y.kind, .int .i64 y.n, .str y.s, .lst false (Tree.encL y.l), .lst false (Tree.encM y.m)])) : ElemZ (Tree.encM m) i 6 K := ElemZ.pair h (by rw [encP_flat]; exact q)
end Go.Am
namespace Go.Am
mutual
def okT : Tree → Bool
  | .mk _ n _ l m => decide (-9223372036854775808 ≤ n ∧ n ≤ 9223372036854775807) && (okL l && okM m)
def okL : List Tree → Bool
  | [] => true
  | t :: l => okT t && okL l
def okM : List (Str × Tree) → Bool
  | [] => true
  | p :: m => okQ p && okM m
def okQ : Str × Tree → Bool
  | (_, t) => okT t
end
def goodT (t : Tree) : Bool := plainT t && okT t
theorem okT_eq (t : Tree) : okT t = (decide (-9223372036854775808 ≤ t.n ∧ t.n ≤ 9223372036854775807) && (okL t.l && okM t.m)) := by cases t; rw [okT]; rfl
theorem okL_mem : ∀ {l : List Tree}, okL l = true → ∀ x ∈ l, okT x = true
  | [], _, x, hx => by cases hx
  | t :: l, h, x, hx => by
    rw [okL, Bool.and_eq_true] at h
    rcases List.mem_cons.1 hx with rfl | hx
    · exact h.1
    · exact okL_mem h.2 x hx
theorem okM_mem : ∀ {l : List (Str × Tree)}, okM l = true → ∀ x ∈ l, okT x.2 = true
  | [], _, x, hx => by cases hx
  | (k, t) :: l, h, x, hx => by
    rw [okM, okQ, Bool.and_eq_true] at h
    rcases List.mem_cons.1 hx with rfl | hx
    · exact h.1
    · exact okM_mem h.2 x hx
theorem plainL_mem : ∀ {l : List Tree}, plainL l = true → ∀ x ∈ l, plainT x = true
  | [], _, x, hx => by cases hx
  | t :: l, h, x, hx => by
    rw [plainL, Bool.and_eq_true] at h
    rcases List.mem_cons.1 hx with rfl | hx
    · exact h.1
    · exact plainL_mem h.2 x hx
theorem plainM_mem : ∀ {l : List (Str × Tree)} {o : Option Str}, plainM o l = true → ∀ x ∈ l, strOk x.1 = true ∧ plainT x.2 = true
  | [], _, _, x, hx => by cases hx
  | (k, t) :: l, o, h, x, hx => by
    simp only [plainM, plainP, Bool.and_eq_true] at h
    rcases List.mem_cons.1 hx with rfl | hx
    · exact ⟨h.1.1, h.1.2.2⟩
    · exact plainM_mem h.2 x hx
theorem goodT_spec {t : Tree} (h : goodT t = true) : ¬ ownBad t.kind t.n t.s.length t.l.length t.m.length ∧ nodeOk t.kind t.n t.s = true ∧ (-9223372036854775808 ≤ t.n ∧ t.n ≤ 9223372036854775807) ∧
    (∀ x ∈ t.l, goodT x = true) ∧ (∀ x ∈ t.m, strOk x.1 = true ∧ goodT x.2 = true) := by
  unfold goodT at h
  rw [Bool.and_eq_true, plainT_eq, okT_eq, Bool.and_eq_true, Bool.and_eq_true, decide_eq_true_eq] at h
  obtain ⟨h1, h2, h3, h4⟩ := h
  split at h1
  · cases h1
  · rename_i hb
    rw [Bool.and_eq_true, Bool.and_eq_true] at h1
    refine ⟨hb, h1.1, h2, fun x hx => ?_, fun x hx => ?_⟩
    · unfold goodT; rw [plainL_mem h1.2.1 x hx, okL_mem h3 x hx]; rfl
    · have := plainM_mem h1.2.2 x hx
      refine ⟨this.1, ?_⟩
      unfold goodT; rw [this.2, okM_mem h4 x hx]; rfl
theorem strOk_len {s : Str} (h : strOk s = true) : s.length ≤ 4096 := by unfold strOk at h; rw [Bool.and_eq_true, decide_eq_true_eq] at h; exact h.1
theorem stampOk_len {s : Str} (h : stampOk s = true) : s.length ≤ 64 := by unfold stampOk at h; rw [decide_eq_true_eq] at h; exact h.2.1
theorem printT_len : ∀ t : Tree, t.wt ≤ 4000000 → ∀ d : Int, -1 ≤ d → goodT t = true → d + t.wt ≤ 8000000 → (printT t d).length + 20000000 ≤ t.wt * 60000000 := by
  refine Tree.indW fun t hw hl hm d hd0 hg hd => ?_
  obtain ⟨hb, hn, hr, hgl, hgm⟩ := goodT_spec hg
  have hwp := t.wt_pos
  have hdd : deeper d ≤ d + 1 ∧ -1 ≤ deeper d := by unfold deeper; split <;> omega
  have hcol : (colonL (deeper d)).length ≤ 2 := by unfold colonL; split <;> simp
  have hL : ∀ (l : List Tree) (f : Bool), (∀ x ∈ l, x ∈ t.l) → (printL f l (deeper d)).length ≤ Tree.wtL l * 60000000 := by
    intro l
    induction l with
    | nil => intro f _; simp [printL]
    | cons x l ih =>
      intro f hx
      have hxm := hx x (by simp)
      have hxw := Tree.wt_l hxm
      have h1 := (hl x hxm).2 (deeper d) hdd.2 (hgl x hxm) (by omega)
      have h2 := ih false (fun y hy => hx y (by simp [hy]))
      have h3 := lineL_len (deeper d) (by have := Tree.wt_pos x; omega)
      have h4 : (if f = true then ([] : Str) else [44]).length ≤ 1 := by split <;> simp
      rw [printL, Tree.wtL]
      simp only [List.length_append]
      omega
  have hM : ∀ (l : List (Str × Tree)) (f : Bool), (∀ x ∈ l, x ∈ t.m) → (printM f l (deeper d)).length ≤ Tree.wtM l * 60000000 := by
    intro l
    induction l with
    | nil => intro f _; simp [printM]
    | cons x l ih =>
      intro f hx
      have hxm := hx x (by simp)
      have hxw := Tree.wt_m hxm
      have h1 := (hm x hxm).2.2 (deeper d) hdd.2 (hgm x hxm).2 (by omega)
      have h2 := ih false (fun y hy => hx y (by simp [hy]))
      have h3 := lineL_len (deeper d) (by have := Tree.wt_pos x.2; omega)
      have h4 : (if f = true then ([] : Str) else [44]).length ≤ 1 := by split <;> simp
      obtain ⟨k, y⟩ := x
      have h5 := quoteS_len k
      rw [printM, printP, Tree.wtM, Tree.wtP]
      simp only [List.length_append] at h1 ⊢
      omega
  have hq := quoteS_len t.s
  have hli := lineL_len d (by omega)
  have hLl := hL t.l true (fun _ h => h)
  have hMm := hM t.m true (fun _ h => h)
  have hit := Lib.itoa_length_le t.n hr.1 hr.2
  have hwe := t.wt_eq
  rw [printT_eq]
  repeat' split
  all_goals (try simp only [List.length_cons, List.length_nil, List.length_append])
  all_goals omega
end Go.Am
namespace Go.Am
theorem itoa_ne (n : Int) : Lib.itoa n ≠ [] := by
  intro h
  by_cases h0 : 0 ≤ n
  · obtain ⟨u, rfl⟩ := Int.eq_ofNat_of_zero_le h0
    by_cases hu : u < 10
    · rw [itoa_small hu] at h; cases h
    · rw [itoa_big hu] at h; simp at h
  · obtain ⟨u, hu⟩ := Int.eq_ofNat_of_zero_le (show 0 ≤ -n by omega)
    rw [show n = -(u : Int) by omega, Lib.itoa_neg u (by omega)] at h
    cases h
theorem numL_ne {s : Str} (h : numL s = true) : s ≠ [] := by
  rintro rfl
  revert h
  decide
theorem printT_ne {t : Tree} (hg : goodT t = true) (d : Int) : printT t d ≠ [] := by
  obtain ⟨hb, hn, hr, hgl, hgm⟩ := goodT_spec hg
  rw [printT_eq]
  unfold nodeOk at hn
  have hq : quoteS t.s ≠ [] := by simp [quoteS]
  repeat' split
  all_goals first | (exact itoa_ne _) | (exact hq) | (simp; done) | skip
  rename_i h3
  rw [if_neg (by omega), if_neg (by omega), if_pos h3, Bool.and_eq_true] at hn
  exact numL_ne hn.1
end Go.Am
end

section
namespace Go.Proofs.YtaoejccgdpppgaaGreatDoor
open Go Go.Am
set_option maxRecDepth 100000
def jO (n : Int) : HO := .var T.value_judge (.p (.agg [.int .i64 n]))
def JudgeIs (t : Tree) : Prop := ∀ d n : Int, 0 ≤ d → d ≤ 33 → 0 ≤ n → n ≤ 4097 →
  AbsCall PP GG F.value_judge_value [.ptr 0 0, .p t.enc, .p (.int .i64 d)] [jO n] ⟨.ret (.p (.bool (judgeT t d n).1)), [jO (judgeT t d n).2], []⟩
theorem own_T (t : Tree) (hw : t.wt ≤ 4000000) : AbsCall PP GG F.value_own [.p t.enc] [] ⟨.ret (.p (.bool (ownT t.kind t.n t.s t.l.length t.m.length))), [], []⟩ := value_own refIntL dec_Int (fun _ _ => rfl) t hw
theorem judge_loopL (t : Tree) (hw : t.wt ≤ 4000000) (d : Int) (hd : 0 ≤ d) (hd2 : d ≤ 32) (R : Bool × Int) (K : Post) (hl : ∀ x ∈ t.l, JudgeIs x)
    (h0 : R.1 = true → K (.exit 0) [(0, .ptr 0 0), (2, .p (.int .i64 d)), (4, .ptr 1 0)] [jO R.2, .var T.api_Value (.p t.enc)] [])
    (hr : R.1 = false → ∀ o : HO, K .ret [(6, .p (.bool false))] [jO R.2, .var T.api_Value (.p t.enc), o] []) :
    ∀ (q i : Nat) (n : Int), i + q = t.l.length → 0 ≤ n → n ≤ 4096 → judgeL (t.l.drop i) (d + 1) n = R →
      LoopW PP GG 84 1 (loopN F.value_judge_value_c 0) [(0, .ptr 0 0), (2, .p (.int .i64 d)), (4, .ptr 1 0), (33, .p (.lst false (Tree.encL t.l))), (34, .p (.int .i64 (Tree.encL t.l).length)), (35, .p (.int .i64 i))] [jO n, .var T.api_Value (.p t.enc)] [] (PostCl 84 K) := by
  rw [Tree.enc_eta t] at h0 hr ⊢
  have hwl := t.wt_ll
  have hlen : (Tree.encL t.l).length = t.l.length := Tree.encL_length _
  intro q
  induction q with
  | zero =>
    intro i n hi hn0 hn1 hR
    rw [List.drop_eq_nil_of_le (by omega), judgeL] at hR
    subst hR
    refine LoopW.round (pol := polG) mixP ?_
    conv => whnf
    repeat' ((first
     | ((with_reducible first | refine Br.dec ?_ ?_ | refine Br.ndec ?_ ?_) <;> intro hb <;> (try simp only [And.intro @hlen (ZZ)] at hb) <;> (first | omega | contradiction | skip))
     | (with_reducible first | refine Br.tt rfl ?_ | refine Br.ff rfl ?_ | refine Br.ff (isEmptyCons _ _) ?_)
     | (refine Side.mk ?_ ?_; focus (first | omega | (dsimp only [InR, Int.reduceToNat, IntKind.bits, Int.reducePow]; omega) | (simp [CC]; done) | (constructor <;> omega)))
     | with_reducible refine Br.not ?_
     | (with_reducible first | refine Br.tt (by assumption) ?_ | refine Br.ff (by assumption) ?_)
     | (refine Br.mk ?_ ?_ <;> intro hb <;> (try simp only [And.intro @hlen (ZZ)] at hb) <;> (first | omega | contradiction | skip))
     | refine Src.whole ⟨rfl, rfl⟩ ?_ | refine FrzV.whole ?_) <;> conv => whnf)
    · refine PostCl.of (h0 rfl) ?_ ?_
      · repeat first | exact trivial | refine ⟨VLe.refl _, ?_⟩
      · repeat first | exact trivial | refine ⟨by decide, ?_⟩
  | succ q ih =>
    intro i n hi hn0 hn1 hR
    obtain ⟨x, hx⟩ : ∃ x, t.l[i]? = some x := ⟨_, List.getElem?_eq_getElem (show i < t.l.length by omega)⟩
    rw [drop_cons hx, judgeL_cons] at hR
    have hxm : x ∈ t.l := List.mem_of_getElem? hx
    have hsp := hl x hxm (d + 1) n (by omega) (by omega) hn0 (by omega)
    have hbd := judge_bound x (d + 1) n hn0 (by omega)
    have hec := Tree.enc_cells x
    have hea := Tree.enc_isAgg x
    rw [Tree.enc_eta x] at hsp
    refine LoopW.round (pol := polG) mixP ?_
    conv => whnf
    repeat' ((first
     | ((with_reducible first | refine Br.dec ?_ ?_ | refine Br.ndec ?_ ?_) <;> intro hb <;> (try simp only [And.intro @hlen (ZZ)] at hb) <;> (first | omega | contradiction | skip))
     | (with_reducible first | refine Br.tt rfl ?_ | refine Br.ff rfl ?_ | refine Br.ff (isEmptyCons _ _) ?_)
     | (refine Side.mk ?_ ?_; focus (first | omega | (dsimp only [InR, Int.reduceToNat, IntKind.bits, Int.reducePow]; omega) | exact ⟨rfl, rfl⟩ | (simp [CC]; done) | (constructor <;> omega)))
     | with_reducible refine Br.not ?_
     | (with_reducible first | refine Br.tt (by assumption) ?_ | refine Br.ff (by assumption) ?_)
     | (refine Br.mk ?_ ?_ <;> intro hb <;> (try simp only [And.intro @hlen (ZZ)] at hb) <;> (first | omega | contradiction | skip))
     | refine Src.whole ⟨rfl, rfl⟩ ?_ | refine FrzV.whole ?_
     | refine CallW.use (hsp) ?_
     | (refine ElemZ.tree (by simpa using hx) ?_; (rw [Tree.enc_eta x]; conv => whnf))) <;> conv => whnf)
    · rw [if_neg (by rw [hb]; simp)] at hR
      refine LoopW.ren [0, 1] (ih (i + 1) (judgeT x (d + 1) n).2 (by omega) (by omega) (hbd.2.2 hb) hR) (by repeat first | exact trivial | refine ⟨⟨rfl, VLe.refl _⟩, ?_⟩) (by repeat first | exact trivial | refine ⟨by decide, ?_⟩) rfl rfl
    · rw [if_pos hb] at hR
      subst hR
      refine PostCl.of (hr rfl _) ?_ ?_
      · repeat first | exact trivial | refine ⟨VLe.refl _, ?_⟩
      · repeat first | exact trivial | refine ⟨by decide, ?_⟩
theorem letters_ok (s : Str) : ∃ e : Int, (if (utfValid s).2 = false then (3 : Int) else if 4096 < s.length then 2 else 0) = e ∧ (strOk s = true → e = 0) ∧ (strOk s = false → e ≠ 0) := by
  refine ⟨_, rfl, ?_, ?_⟩
  all_goals
    unfold strOk
    cases (utfValid s).2 with
    | false => simp
    | true =>
      rw [if_neg (by simp), Bool.and_true]
      intro h
      split <;> simp_all <;> omega
theorem judge_loopM (t : Tree) (hw : t.wt ≤ 4000000) (d : Int) (hd : 0 ≤ d) (hd2 : d ≤ 32) (R : Bool × Int) (K : Post) (hl : ∀ x ∈ t.m, JudgeIs x.2)
    (h0 : R.1 = true → K (.exit 2) [] [jO R.2, .var T.api_Value (.p t.enc)] [])
    (hr : R.1 = false → ∀ o : HO, K .ret [(6, .p (.bool false))] [jO R.2, .var T.api_Value (.p t.enc), o] []) :
    ∀ (q i : Nat) (n : Int) (o : Option Str), i + q = t.m.length → 0 ≤ n → n ≤ 4096 → judgeM o (t.m.drop i) (d + 1) n = R → (i = 0 → o = none) → (0 < i → ∃ p, t.m[i - 1]? = some p ∧ o = some p.1) →
      LoopW PP GG 84 1 (loopN F.value_judge_value_c 1) [(0, .ptr 0 0), (2, .p (.int .i64 d)), (4, .ptr 1 0), (47, .p (.lst false (Tree.encM t.m))), (48, .p (.int .i64 (Tree.encM t.m).length)), (49, .p (.int .i64 i))] [jO n, .var T.api_Value (.p t.enc)] [] (PostCl 84 K) := by
  rw [Tree.enc_eta t] at h0 hr ⊢
  have hwl := t.wt_ml
  have hlen : (Tree.encM t.m).length = t.m.length := Tree.encM_length _
  intro q
  induction q with
  | zero =>
    intro i n o hi hn0 hn1 hR ho1 ho2
    rw [List.drop_eq_nil_of_le (by omega), judgeM] at hR
    subst hR
    refine LoopW.round (pol := polG) mixP ?_
    conv => whnf
    repeat' ((first
     | ((with_reducible first | refine Br.dec ?_ ?_ | refine Br.ndec ?_ ?_) <;> intro hb <;> (try simp only [And.intro @hlen (ZZ)] at hb) <;> (first | omega | contradiction | skip))
     | (with_reducible first | refine Br.tt rfl ?_ | refine Br.ff rfl ?_ | refine Br.ff (isEmptyCons _ _) ?_)
     | (refine Side.mk ?_ ?_; focus (first | omega | (dsimp only [InR, Int.reduceToNat, IntKind.bits, Int.reducePow]; omega) | (simp [CC]; done) | (constructor <;> omega)))
     | with_reducible refine Br.not ?_
     | (with_reducible first | refine Br.tt (by assumption) ?_ | refine Br.ff (by assumption) ?_)
     | (refine Br.mk ?_ ?_ <;> intro hb <;> (try simp only [And.intro @hlen (ZZ)] at hb) <;> (first | omega | contradiction | skip))
     | refine Src.whole ⟨rfl, rfl⟩ ?_ | refine FrzV.whole ?_) <;> conv => whnf)
    · refine PostCl.of (h0 rfl) ?_ ?_
      · repeat first | exact trivial | refine ⟨VLe.refl _, ?_⟩
      · repeat first | exact trivial | refine ⟨by decide, ?_⟩
  | succ q ih =>
    intro i n o hi hn0 hn1 hR ho1 ho2
    obtain ⟨x, hx⟩ : ∃ x, t.m[i]? = some x := ⟨_, List.getElem?_eq_getElem (show i < t.m.length by omega)⟩
    have hxm : x ∈ t.m := List.mem_of_getElem? hx
    have hsp := hl x hxm (d + 1) n (by omega) (by omega) hn0 (by omega)
    have hxw := Tree.wt_m hxm
    obtain ⟨k, y⟩ := x
    simp only [] at hxw hsp
    have hbd := judge_bound y (d + 1) n hn0 (by omega)
    rw [drop_cons hx, judgeM_cons] at hR
    have hst := value_letters k (by omega)
    obtain ⟨e, he, he1, he2⟩ := letters_ok k
    rw [he] at hst
    rw [Tree.enc_eta y] at hsp
    have next : ∀ n', 0 ≤ n' → n' ≤ 4096 → judgeM (some k) (t.m.drop (i + 1)) (d + 1) n' = R → LoopW PP GG 84 1 (loopN F.value_judge_value_c 1) [(0, .ptr 0 0), (2, .p (.int .i64 d)), (4, .ptr 1 0), (47, .p (.lst false (Tree.encM t.m))), (48, .p (.int .i64 (Tree.encM t.m).length)), (49, .p (.int .i64 (i + 1)))] [jO n', .var T.api_Value (.p (.agg [.int .i64 t.kind, .int .i64 t.n, .str t.s, .lst false (Tree.encL t.l), .lst false (Tree.encM t.m)]))] [] (PostCl 84 K) := by
      intro n' h1 h2 h
      exact ih (i + 1) n' (some k) (by omega) h1 h2 h (by omega) (fun _ => ⟨(k, y), by simpa using hx, rfl⟩)
    have bad : ∀ {l : Bool}, e ≠ 0 → (if l = true ∨ strOk k = false then (false, n) else if (judgeT y (d + 1) n).1 = false then (false, (judgeT y (d + 1) n).2) else judgeM (some k) (t.m.drop (i + 1)) (d + 1) (judgeT y (d + 1) n).2) = R → R = (false, n) := by
      intro l h1 h2
      rw [if_pos (Or.inr (by cases hk : strOk k with
        | false => rfl
        | true => exact absurd (he1 hk) h1))] at h2
      exact h2.symm
    have fine : ∀ {l : Bool}, l = false → e = 0 → (if l = true ∨ strOk k = false then (false, n) else if (judgeT y (d + 1) n).1 = false then (false, (judgeT y (d + 1) n).2) else judgeM (some k) (t.m.drop (i + 1)) (d + 1) (judgeT y (d + 1) n).2) = R →
        ((judgeT y (d + 1) n).1 = false → R = (false, (judgeT y (d + 1) n).2)) ∧ ((judgeT y (d + 1) n).1 = true → judgeM (some k) (t.m.drop (i + 1)) (d + 1) (judgeT y (d + 1) n).2 = R) := by
      rintro l rfl h1 h2
      have hk : strOk k = true := by
        cases hk : strOk k with
        | true => rfl
        | false => exact absurd h1 (he2 hk)
      rw [if_neg (by simp [hk])] at h2
      refine ⟨fun h => ?_, fun h => ?_⟩
      · rw [if_pos h] at h2; exact h2.symm
      · rw [if_neg (by simp [h])] at h2; exact h2
    by_cases hi0 : i = 0
    · obtain rfl := ho1 hi0
      subst hi0
      refine LoopW.round (pol := polG) mixP ?_
      conv => whnf
      repeat' ((first
       | ((with_reducible first | refine Br.dec ?_ ?_ | refine Br.ndec ?_ ?_) <;> intro hb <;> (try simp only [And.intro @hlen (ZZ)] at hb) <;> (first | omega | contradiction | skip))
       | (with_reducible first | refine Br.tt rfl ?_ | refine Br.ff rfl ?_ | refine Br.ff (isEmptyCons _ _) ?_)
       | (refine Side.mk ?_ ?_; focus (first | omega | (dsimp only [InR, Int.reduceToNat, IntKind.bits, Int.reducePow]; omega) | exact ⟨rfl, rfl⟩ | (simp [CC]; done) | (constructor <;> omega)))
       | with_reducible refine Br.not ?_
       | (with_reducible first | refine Br.tt (by assumption) ?_ | refine Br.ff (by assumption) ?_)
       | (refine Br.mk ?_ ?_ <;> intro hb <;> (try simp only [And.intro @hlen (ZZ)] at hb) <;> (first | omega | contradiction | skip))
       | refine Src.whole ⟨rfl, rfl⟩ ?_ | refine FrzV.whole ?_
       | refine CallW.use (hsp) ?_
       | refine CallW.use (hst) ?_
       | (refine TabsW.lit F.value_judge_value_t13 (by kernel_rfl) ?_)
       | (refine ElemZ.pairE (k := k) (y := y) (by exact hx) ?_)) <;> conv => whnf)
      · obtain rfl := bad hb hR
        refine PostCl.of (hr rfl _) ?_ ?_
        · repeat first | exact trivial | refine ⟨VLe.refl _, ?_⟩
        · repeat first | exact trivial | refine ⟨by decide, ?_⟩
      · refine LoopW.ren [0, 1] (next _ (by omega) (hbd.2.2 hb) ((fine rfl (by assumption) hR).2 hb)) (by repeat first | exact trivial | refine ⟨⟨rfl, VLe.refl _⟩, ?_⟩) (by repeat first | exact trivial | refine ⟨by decide, ?_⟩) rfl rfl
      · obtain rfl := (fine rfl (by assumption) hR).1 hb
        refine PostCl.of (hr rfl _) ?_ ?_
        · repeat first | exact trivial | refine ⟨VLe.refl _, ?_⟩
        · repeat first | exact trivial | refine ⟨by decide, ?_⟩
    · obtain ⟨⟨k', y'⟩, hp, rfl⟩ := ho2 (by omega)
      have hp : t.m[((i : Int) - 1).toNat]? = some (k', y') := by rw [show ((i : Int) - 1).toNat = i - 1 by omega]; exact hp
      simp only [] at hR
      cases hq : leqS k k' with
      | true =>
        rw [if_pos (Or.inl hq)] at hR
        subst hR
        unfold leqS at hq
        refine LoopW.round (pol := polG) mixP ?_
        conv => whnf
        repeat' ((first
         | ((with_reducible first | refine Br.dec ?_ ?_ | refine Br.ndec ?_ ?_) <;> intro hb <;> (try simp only [And.intro @hlen (ZZ)] at hb) <;> (first | omega | contradiction | skip))
         | (with_reducible first | refine Br.tt rfl ?_ | refine Br.ff rfl ?_ | refine Br.ff (isEmptyCons _ _) ?_)
         | (refine Side.mk ?_ ?_; focus (first | omega | (dsimp only [InR, Int.reduceToNat, IntKind.bits, Int.reducePow]; omega) | exact ⟨rfl, rfl⟩ | (simp [CC]; done) | (constructor <;> omega)))
         | with_reducible refine Br.not ?_
         | (with_reducible first | refine Br.tt (by assumption) ?_ | refine Br.ff (by assumption) ?_)
         | (refine Br.mk ?_ ?_ <;> intro hb <;> (try simp only [And.intro @hlen (ZZ)] at hb) <;> (first | omega | contradiction | skip))
         | refine Src.whole ⟨rfl, rfl⟩ ?_ | refine FrzV.whole ?_
         | refine CallW.use (hsp) ?_
         | refine CallW.use (hst) ?_
         | (refine TabsW.lit F.value_judge_value_t13 (by kernel_rfl) ?_)
         | (refine ElemZ.pairE (k := k) (y := y) (by simpa using hx) ?_)
         | (refine ElemZ.pairE (k := k') (y := y') hp ?_)) <;> conv => whnf)
        refine PostCl.of (hr rfl _) ?_ ?_
        · repeat first | exact trivial | refine ⟨VLe.refl _, ?_⟩
        · repeat first | exact trivial | refine ⟨by decide, ?_⟩
      | false =>
        have hq0 := hq
        unfold leqS at hq
        refine LoopW.round (pol := polG) mixP ?_
        conv => whnf
        repeat' ((first
         | ((with_reducible first | refine Br.dec ?_ ?_ | refine Br.ndec ?_ ?_) <;> intro hb <;> (try simp only [And.intro @hlen (ZZ)] at hb) <;> (first | omega | contradiction | skip))
         | (with_reducible first | refine Br.tt rfl ?_ | refine Br.ff rfl ?_ | refine Br.ff (isEmptyCons _ _) ?_)
         | (refine Side.mk ?_ ?_; focus (first | omega | (dsimp only [InR, Int.reduceToNat, IntKind.bits, Int.reducePow]; omega) | exact ⟨rfl, rfl⟩ | (simp [CC]; done) | (constructor <;> omega)))
         | with_reducible refine Br.not ?_
         | (with_reducible first | refine Br.tt (by assumption) ?_ | refine Br.ff (by assumption) ?_)
         | (refine Br.mk ?_ ?_ <;> intro hb <;> (try simp only [And.intro @hlen (ZZ)] at hb) <;> (first | omega | contradiction | skip))
         | refine Src.whole ⟨rfl, rfl⟩ ?_ | refine FrzV.whole ?_
         | refine CallW.use (hsp) ?_
         | refine CallW.use (hst) ?_
         | (refine TabsW.lit F.value_judge_value_t13 (by kernel_rfl) ?_)
         | (refine ElemZ.pairE (k := k) (y := y) (by simpa using hx) ?_)
         | (refine ElemZ.pairE (k := k') (y := y') hp ?_)) <;> conv => whnf)
        · obtain rfl := bad hb hR
          refine PostCl.of (hr rfl _) ?_ ?_
          · repeat first | exact trivial | refine ⟨VLe.refl _, ?_⟩
          · repeat first | exact trivial | refine ⟨by decide, ?_⟩
        · refine LoopW.ren [0, 1] (next _ (by omega) (hbd.2.2 hb) ((fine hq0 (by assumption) hR).2 hb)) (by repeat first | exact trivial | refine ⟨⟨rfl, VLe.refl _⟩, ?_⟩) (by repeat first | exact trivial | refine ⟨by decide, ?_⟩) rfl rfl
        · obtain rfl := (fine hq0 (by assumption) hR).1 hb
          refine PostCl.of (hr rfl _) ?_ ?_
          · repeat first | exact trivial | refine ⟨VLe.refl _, ?_⟩
          · repeat first | exact trivial | refine ⟨by decide, ?_⟩
theorem judge_4 (t : Tree) (hw : t.wt ≤ 4000000) (hl : ∀ x ∈ t.l, JudgeIs x) (hm : ∀ x ∈ t.m, JudgeIs x.2) (d n : Int) (hd : 0 ≤ d) (hd2 : d ≤ 32) (hn : 0 ≤ n) (hn2 : n ≤ 4096) (R : Bool × Int) (K : Post)
    (hR : (if (judgeL t.l (d + 1) n).1 = false then (false, (judgeL t.l (d + 1) n).2) else judgeM none t.m (d + 1) (judgeL t.l (d + 1) n).2) = R)
    (hL : (judgeL t.l (d + 1) n).1 = true → 0 ≤ (judgeL t.l (d + 1) n).2 ∧ (judgeL t.l (d + 1) n).2 ≤ 4096)
    (h0 : R.1 = true → K .ret [(6, .p (.bool true))] [jO R.2, .var T.api_Value (.p t.enc)] [])
    (hr : R.1 = false → ∀ o : HO, K .ret [(6, .p (.bool false))] [jO R.2, .var T.api_Value (.p t.enc), o] []) :
    CutW PP GG 84 1 (tailN F.value_judge_value_c 4) [(0, .ptr 0 0), (2, .p (.int .i64 d)), (4, .ptr 1 0)] [jO n, .var T.api_Value (.p t.enc)] [] (PostCl 84 K) := by
  have hlL := judge_loopL t hw d hd hd2
  have hlM := judge_loopM t hw d hd hd2
  rw [Tree.enc_eta t] at h0 hr hlL hlM ⊢
  refine CutW.go (pol := polC []) mixP ?_
  conv => whnf
  repeat' ((first
   | ((with_reducible first | refine Br.dec ?_ ?_ | refine Br.ndec ?_ ?_) <;> intro hb <;> (try simp only [ZZ] at hb) <;> (first | omega | contradiction | skip))
   | (with_reducible first | refine Br.tt rfl ?_ | refine Br.ff rfl ?_ | refine Br.ff (isEmptyCons _ _) ?_)
   | (refine Side.mk ?_ ?_; focus (first | omega | (dsimp only [InR, Int.reduceToNat, IntKind.bits, Int.reducePow]; omega) | (simp [CC]; done) | (constructor <;> omega)))
   | with_reducible refine Br.not ?_
   | (with_reducible first | refine Br.tt (by assumption) ?_ | refine Br.ff (by assumption) ?_)
   | (refine Br.mk ?_ ?_ <;> intro hb <;> (try simp only [ZZ] at hb) <;> (first | omega | contradiction | skip))
   | refine Src.whole ⟨rfl, rfl⟩ ?_ | refine FrzV.whole ?_) <;> conv => whnf)
  refine LoopW.cl ?_
  refine LoopW.sub (hlL (judgeL t.l (d + 1) n) _ hl (fun h => ?_) (fun h o => ?_) t.l.length 0 n (by omega) hn hn2 rfl) (by repeat first | exact trivial | refine ⟨VLe.refl _, ?_⟩) (by repeat first | exact trivial | refine ⟨by decide, ?_⟩)
  · conv => whnf
    rw [if_neg (by rw [h]; simp)] at hR
    repeat' ((first
     | ((with_reducible first | refine Br.dec ?_ ?_ | refine Br.ndec ?_ ?_) <;> intro hb <;> (try simp only [ZZ] at hb) <;> (first | omega | contradiction | skip))
     | (with_reducible first | refine Br.tt rfl ?_ | refine Br.ff rfl ?_ | refine Br.ff (isEmptyCons _ _) ?_)
     | (refine Side.mk ?_ ?_; focus (first | omega | (dsimp only [InR, Int.reduceToNat, IntKind.bits, Int.reducePow]; omega) | (simp [CC]; done) | (constructor <;> omega)))
     | with_reducible refine Br.not ?_
     | (with_reducible first | refine Br.tt (by assumption) ?_ | refine Br.ff (by assumption) ?_)
     | (refine Br.mk ?_ ?_ <;> intro hb <;> (try simp only [ZZ] at hb) <;> (first | omega | contradiction | skip))
     | refine Src.whole ⟨rfl, rfl⟩ ?_ | refine FrzV.whole ?_) <;> conv => whnf)
    refine LoopW.cl ?_
    refine LoopW.sub (hlM R _ hm (fun h => ?_) (fun h o => ?_) t.m.length 0 _ none (by omega) (hL h).1 (hL h).2 hR (fun _ => rfl) (by omega)) (by repeat first | exact trivial | refine ⟨VLe.refl _, ?_⟩) (by repeat first | exact trivial | refine ⟨by decide, ?_⟩)
    · conv => whnf
      refine PostCl.of (h0 h) ?_ ?_
      · repeat first | exact trivial | refine ⟨VLe.refl _, ?_⟩
      · repeat first | exact trivial | refine ⟨by decide, ?_⟩
    · conv => whnf
      refine PostCl.of (hr h o) ?_ ?_
      · repeat first | exact trivial | refine ⟨VLe.refl _, ?_⟩
      · repeat first | exact trivial | refine ⟨by decide, ?_⟩
  · conv => whnf
    rw [if_pos h] at hR
    subst hR
    refine PostCl.of (hr rfl o) ?_ ?_
    · repeat first | exact trivial | refine ⟨VLe.refl _, ?_⟩
    · repeat first | exact trivial | refine ⟨by decide, ?_⟩
theorem judge_value : ∀ t : Tree, t.wt ≤ 4000000 → JudgeIs t := by
  refine Tree.indW fun t hw hl hm d n hd hd2 hn hn2 => ?_
  have ho := own_T t hw
  have hJ := judgeT_eq t d n
  have h4 := judge_4 t hw (fun x hx => (hl x hx).2) (fun x hx => (hm x hx).2.2) d (n + 1) hd
  have hLb : n + 1 ≤ 4096 → (judgeL t.l (d + 1) (n + 1)).1 = true → 0 ≤ (judgeL t.l (d + 1) (n + 1)).2 ∧ (judgeL t.l (d + 1) (n + 1)).2 ≤ 4096 := fun h => judgeL_bound t.l (d + 1) (n + 1) (by omega) h
  generalize judgeT t d n = R at hJ ⊢
  rw [Tree.enc_eta t] at ho h4 ⊢
  refine absCall_of (pol := polC [4]) mixP F.value_judge_value_is ?_
  conv => whnf
  repeat' ((first
   | ((with_reducible first | refine Br.dec ?_ ?_ | refine Br.ndec ?_ ?_) <;> intro hb <;> (try simp only [ZZ] at hb) <;> (first | omega | contradiction | skip))
   | (with_reducible first | refine Br.tt rfl ?_ | refine Br.ff rfl ?_ | refine Br.ff (isEmptyCons _ _) ?_)
   | (refine Side.mk ?_ ?_; focus (first | omega | (dsimp only [InR, Int.reduceToNat, IntKind.bits, Int.reducePow]; omega) | (simp [CC]; done) | (constructor <;> omega)))
   | with_reducible refine Br.not ?_
   | (with_reducible first | refine Br.tt (by assumption) ?_ | refine Br.ff (by assumption) ?_)
   | (refine Br.mk ?_ ?_ <;> intro hb <;> (try simp only [ZZ] at hb) <;> (first | omega | contradiction | skip))
   | refine Src.whole ⟨rfl, rfl⟩ ?_ | refine FrzV.whole ?_
   | refine CallW.use (ho) ?_) <;> conv => whnf)
  · rw [if_pos (Or.inl (by omega))] at hJ
    subst hJ
    exact CLe.eq rfl
  · rw [if_pos (Or.inr (Or.inl (by omega)))] at hJ
    subst hJ
    exact CLe.eq rfl
  · rw [if_neg (by simp only [not_or]; exact ⟨by omega, by omega, by simp [hb]⟩)] at hJ
    refine CutW.cl ?_
    refine CutW.sub (h4 (by omega) (by omega) (by omega) R _ hJ.symm (hLb (by omega)) (fun h => ?_) (fun h o => ?_)) (by repeat first | exact trivial | refine ⟨VLe.refl _, ?_⟩) (by repeat first | exact trivial | refine ⟨by decide, ?_⟩)
    · conv => whnf
      exact CLe.eq (by rw [h]; rfl)
    · conv => whnf
      exact CLe.eq (by rw [h]; rfl)
  · rw [if_pos (Or.inr (Or.inr (by simp [hb])))] at hJ
    subst hJ
    exact CLe.eq rfl
theorem value_Good (t : Tree) (hw : t.wt ≤ 4000000) : AbsCall PP GG F.value_Good [.p t.enc] [] ⟨.ret (.p (.bool (judgeT t 1 0).1)), [], []⟩ := by
  have hj := judge_value t hw 1 0 (by omega) (by omega) (by omega) (by omega)
  rw [Tree.enc_eta t] at hj ⊢
  refine absCall_of (pol := polG) mixP F.value_Good_is ?_
  conv => whnf
  repeat' ((first
   | ((with_reducible first | refine Br.dec ?_ ?_ | refine Br.ndec ?_ ?_) <;> intro hb <;> (try simp only [ZZ] at hb) <;> (first | omega | contradiction | skip))
   | (with_reducible first | refine Br.tt rfl ?_ | refine Br.ff rfl ?_ | refine Br.ff (isEmptyCons _ _) ?_)
   | (refine Side.mk ?_ ?_; focus (first | omega | (dsimp only [InR, Int.reduceToNat, IntKind.bits, Int.reducePow]; omega) | (simp [CC]; done) | (constructor <;> omega)))
   | with_reducible refine Br.not ?_
   | (with_reducible first | refine Br.tt (by assumption) ?_ | refine Br.ff (by assumption) ?_)
   | (refine Br.mk ?_ ?_ <;> intro hb <;> (try simp only [ZZ] at hb) <;> (first | omega | contradiction | skip))
   | refine Src.whole ⟨rfl, rfl⟩ ?_ | refine FrzV.whole ?_
   | refine CallW.use (hj) ?_) <;> conv => whnf)
  exact CLe.eq rfl
end Go.Proofs.YtaoejccgdpppgaaGreatDoor
end

section
namespace Go.Proofs
open Go.Shelf
def Tryz.laysM173_ren : Go.Shelf.Ren := ⟨fun | 173 => 78 | 246 => 105 | 283 => 132 | 284 => 133 | 285 => 134 | 286 => 135 | 129 => 159 | 317 => 158 | 318 => 160 | 319 => 161 | 320 => 162 | 337 => 182 | 338 => 183 | n => n, fun | 2 => 2 | 3 => 3 | 9 => 9 | 4 => 4 | 171 => 159 | 0 => 0 | 53 => 160 | 37 => 34 | 5 => 5 | 173 => 163 | 212 => 180 | 51 => 181 | 20 => 20 | 213 => 182 | 46 => 106 | 232 => 212 | 233 => 213 | n => n, fun | 17 => 1 | 18 => 6 | 19 => 7 | n => n⟩
theorem Tryz.laysM173 : Go.Proofs.LaysM.n173 Tryz.prog Tryz.laysM173_ren := {
  mixed := by kernel_rfl
  f129 := Tryz.func159.trans (congrArg some (by kernel_rfl))
  f173 := Tryz.func78.trans (congrArg some (by kernel_rfl))
  f246 := Tryz.func105.trans (congrArg some (by kernel_rfl))
  f283 := Tryz.func132.trans (congrArg some (by kernel_rfl))
  f284 := Tryz.func133.trans (congrArg some (by kernel_rfl))
  f285 := Tryz.func134.trans (congrArg some (by kernel_rfl))
  f286 := Tryz.func135.trans (congrArg some (by kernel_rfl))
  f317 := Tryz.func158.trans (congrArg some (by kernel_rfl))
  f318 := Tryz.func160.trans (congrArg some (by kernel_rfl))
  f319 := Tryz.func161.trans (congrArg some (by kernel_rfl))
  f320 := Tryz.func162.trans (congrArg some (by kernel_rfl))
  f337 := Tryz.func182.trans (congrArg some (by kernel_rfl))
  f338 := Tryz.func183.trans (congrArg some (by kernel_rfl))
  t0 := Tryz.underlying0
  a0 := Tryz.isAgg0
  z0 := Tryz.sizeOf0
  v0 := Tryz.zeroValue0
  t2 := Tryz.underlying2
  a2 := Tryz.isAgg2
  z2 := Tryz.sizeOf2
  v2 := Tryz.zeroValue2
  t3 := Tryz.underlying3
  a3 := Tryz.isAgg3
  z3 := Tryz.sizeOf3
  v3 := Tryz.zeroValue3
  t4 := Tryz.underlying4
  a4 := Tryz.isAgg4
  z4 := Tryz.sizeOf4
  v4 := Tryz.zeroValue4
  t5 := Tryz.underlying5
  a5 := Tryz.isAgg5
  z5 := Tryz.sizeOf5
  v5 := Tryz.zeroValue5
  t9 := Tryz.underlying9
  a9 := Tryz.isAgg9
  z9 := Tryz.sizeOf9
  v9 := Tryz.zeroValue9
  t20 := Tryz.underlying20
  a20 := Tryz.isAgg20
  z20 := Tryz.sizeOf20
  v20 := Tryz.zeroValue20
  t37 := Tryz.underlying34
  a37 := Tryz.isAgg34
  z37 := Tryz.sizeOf34
  v37 := Tryz.zeroValue34
  t46 := Tryz.underlying106
  a46 := Tryz.isAgg106
  z46 := Tryz.sizeOf106
  v46 := Tryz.zeroValue106
  t51 := Tryz.underlying181
  a51 := Tryz.isAgg181
  z51 := Tryz.sizeOf181
  v51 := Tryz.zeroValue181
  t53 := Tryz.underlying160
  a53 := Tryz.isAgg160
  z53 := Tryz.sizeOf160
  v53 := Tryz.zeroValue160
  t171 := Tryz.underlying159
  a171 := Tryz.isAgg159
  z171 := Tryz.sizeOf159
  v171 := Tryz.zeroValue159
  t173 := Tryz.underlying163
  a173 := Tryz.isAgg163
  z173 := Tryz.sizeOf163
  v173 := Tryz.zeroValue163
  t212 := Tryz.underlying180
  a212 := Tryz.isAgg180
  z212 := Tryz.sizeOf180
  v212 := Tryz.zeroValue180
  t213 := Tryz.underlying182
  a213 := Tryz.isAgg182
  z213 := Tryz.sizeOf182
  t232 := Tryz.underlying212
  a232 := Tryz.isAgg212
  z232 := Tryz.sizeOf212
  v232 := Tryz.zeroValue212
  t233 := Tryz.underlying213
  a233 := Tryz.isAgg213
  z233 := Tryz.sizeOf213
  v233 := Tryz.zeroValue213
  g17 := by kernel_rfl
  g18 := by kernel_rfl
  g19 := by kernel_rfl
  i0 := by kernel_rfl
  i2 := by kernel_rfl
  i3 := by kernel_rfl
  i4 := by kernel_rfl
  i5 := by kernel_rfl
  i9 := by kernel_rfl
  i20 := by kernel_rfl
  i37 := by kernel_rfl
  i46 := by kernel_rfl
  i51 := by kernel_rfl
  i53 := by kernel_rfl
  i171 := by kernel_rfl
  i173 := by kernel_rfl
  i212 := by kernel_rfl
  i232 := by kernel_rfl
  i233 := by kernel_rfl
  m17 := by kernel_rfl
  m18 := by kernel_rfl
  m19 := by kernel_rfl }
def Tryz.lays105_ren : Go.Shelf.Ren := ⟨fun | 105 => 106 | 212 => 136 | 99 => 115 | 165 => 137 | 166 => 53 | 170 => 138 | 169 => 34 | 263 => 163 | 264 => 164 | 206 => 141 | 240 => 77 | 241 => 165 | 276 => 104 | 277 => 184 | n => n, fun | 9 => 9 | 3 => 3 | 4 => 4 | 20 => 20 | 0 => 0 | 46 => 106 | 109 => 165 | 5 => 5 | 72 => 62 | 76 => 95 | 51 => 181 | 146 => 184 | 53 => 160 | 148 => 186 | 70 => 60 | 37 => 34 | 75 => 94 | 127 => 101 | 164 => 136 | 80 => 66 | n => n, fun | n => n⟩
theorem Tryz.lays105 : Go.Proofs.Lays.n105 Tryz.prog Tryz.lays105_ren := {
  mixed := by kernel_rfl
  f99 := Tryz.func115.trans (congrArg some (by kernel_rfl))
  f105 := Tryz.func106.trans (congrArg some (by kernel_rfl))
  f165 := Tryz.func137.trans (congrArg some (by kernel_rfl))
  f166 := Tryz.func53.trans (congrArg some (by kernel_rfl))
  f169 := Tryz.func34.trans (congrArg some (by kernel_rfl))
  f170 := Tryz.func138.trans (congrArg some (by kernel_rfl))
  f206 := Tryz.func141.trans (congrArg some (by kernel_rfl))
  f212 := Tryz.func136.trans (congrArg some (by kernel_rfl))
  f240 := Tryz.func77.trans (congrArg some (by kernel_rfl))
  f241 := Tryz.func165.trans (congrArg some (by kernel_rfl))
  f263 := Tryz.func163.trans (congrArg some (by kernel_rfl))
  f264 := Tryz.func164.trans (congrArg some (by kernel_rfl))
  f276 := Tryz.func104.trans (congrArg some (by kernel_rfl))
  f277 := Tryz.func184.trans (congrArg some (by kernel_rfl))
  t0 := Tryz.underlying0
  a0 := Tryz.isAgg0
  z0 := Tryz.sizeOf0
  v0 := Tryz.zeroValue0
  t3 := Tryz.underlying3
  a3 := Tryz.isAgg3
  z3 := Tryz.sizeOf3
  v3 := Tryz.zeroValue3
  t4 := Tryz.underlying4
  a4 := Tryz.isAgg4
  z4 := Tryz.sizeOf4
  v4 := Tryz.zeroValue4
  t5 := Tryz.underlying5
  a5 := Tryz.isAgg5
  z5 := Tryz.sizeOf5
  v5 := Tryz.zeroValue5
  t9 := Tryz.underlying9
  a9 := Tryz.isAgg9
  z9 := Tryz.sizeOf9
  v9 := Tryz.zeroValue9
  t20 := Tryz.underlying20
  a20 := Tryz.isAgg20
  z20 := Tryz.sizeOf20
  v20 := Tryz.zeroValue20
  t37 := Tryz.underlying34
  a37 := Tryz.isAgg34
  z37 := Tryz.sizeOf34
  v37 := Tryz.zeroValue34
  t46 := Tryz.underlying106
  a46 := Tryz.isAgg106
  z46 := Tryz.sizeOf106
  v46 := Tryz.zeroValue106
  t51 := Tryz.underlying181
  a51 := Tryz.isAgg181
  z51 := Tryz.sizeOf181
  v51 := Tryz.zeroValue181
  t53 := Tryz.underlying160
  a53 := Tryz.isAgg160
  z53 := Tryz.sizeOf160
  v53 := Tryz.zeroValue160
  t70 := Tryz.underlying60
  a70 := Tryz.isAgg60
  z70 := Tryz.sizeOf60
  v70 := Tryz.zeroValue60
  t72 := Tryz.underlying62
  a72 := Tryz.isAgg62
  z72 := Tryz.sizeOf62
  v72 := Tryz.zeroValue62
  t75 := Tryz.underlying94
  a75 := Tryz.isAgg94
  z75 := Tryz.sizeOf94
  v75 := Tryz.zeroValue94
  t76 := Tryz.underlying95
  a76 := Tryz.isAgg95
  z76 := Tryz.sizeOf95
  v76 := Tryz.zeroValue95
  t109 := Tryz.underlying165
  a109 := Tryz.isAgg165
  z109 := Tryz.sizeOf165
  v109 := Tryz.zeroValue165
  t127 := Tryz.underlying101
  a127 := Tryz.isAgg101
  z127 := Tryz.sizeOf101
  v127 := Tryz.zeroValue101
  t146 := Tryz.underlying184
  a146 := Tryz.isAgg184
  z146 := Tryz.sizeOf184
  v146 := Tryz.zeroValue184
  t148 := Tryz.underlying186
  a148 := Tryz.isAgg186
  z148 := Tryz.sizeOf186
  v148 := Tryz.zeroValue186
  t164 := Tryz.underlying136
  a164 := Tryz.isAgg136
  z164 := Tryz.sizeOf136
  v164 := Tryz.zeroValue136 }
theorem Tryz.Builder_Extra_105 : Builder.Extra Tryz.prog Tryz.lays105_ren := {
  sizeBuilder := by kernel_rfl
  liesBuilder := by kernel_rfl
  t5 := Tryz.underlying5
  a5 := Tryz.isAgg5
  z5 := Tryz.sizeOf5
  v5 := Tryz.zeroValue5
  infoByte := by kernel_rfl
  cellsByte := by kernel_rfl
  sizeByte := by kernel_rfl
  neB5 := by decide }
open Go.RowKit Go.Sort Go.Lib in
theorem Tryz.strconv_FormatInt_10 (n : Int) (h0 : -9223372036854775808 ≤ n) (h1 : n ≤ 9223372036854775807) (w : World) (htab : Lib.TabIs Tryz.prog w "internal/strconv.uint64pow10" .u64 Lib.pow10Tab) :
    Calls Tryz.prog 78 #[.int .i64 n, .int .i64 10] w fun e w' => e = .returned (.string ⟨(Lib.itoa n).toArray⟩) ∧ ∃ k os, w' = grow (w.drewN k) os := Any.strconv_FormatInt_10 Tryz.laysM173 n h0 h1 w htab
open Go.RowKit Go.Lib in
theorem Tryz.strings_Repeat (s : ByteArray) (c : Nat) (w : World) (hc : c ≤ 9223372036854775807) (hlen : s.size * c ≤ 140737488355328) :
    Calls Tryz.prog 106 #[.string s, .int .i64 c] w fun e w' => e = .returned (.string ⟨(Lib.repeatL s.data.toList c).toArray⟩) ∧ Below w.heap.size w w' := Any.strings_Repeat Tryz.lays105 Tryz.Builder_Extra_105 s c w hc hlen
end Go.Proofs
end

section
namespace Go.Proofs.YtaoejccgdpppgaaGreatDoor
open Go Go.Am Go.RowKit
theorem abi_NoEscape (x : V) (H : Heap) : AbsCall PP GG F.internal_abi_NoEscape [x] H ⟨.ret x, H, []⟩ :=
  abs_same (Tryz.func104) (by kernel_rfl) (by kernel_rfl) (by kernel_rfl) (by kernel_rfl) x H
theorem strconv_FormatInt (n : Int) (hn : -9223372036854775808 ≤ n ∧ n ≤ 9223372036854775807) (H : Heap) : AbsCall PP GG F.strconv_FormatInt [.p (.int .i64 n), .p (.int .i64 10)] H ⟨.ret (.p (.str (Lib.itoa n))), H, []⟩ := by
  refine absBelow fun B L w vs _ ha hg => ?_
  obtain ⟨v, u, rfl, hv, hu⟩ := vrel2 ha
  obtain rfl := vint hv
  obtain rfl := vint hu
  refine CallTo.of_calls Tryz.func78 (by kernel_rfl) rfl ((Tryz.strconv_FormatInt_10 n hn.1 hn.2 w (tab_of_gok hg (by rw [pow10_lit]; rfl) gPow)).mono ?_)
  rintro e w' ⟨rfl, k, os, rfl⟩
  exact ⟨Lib.below_grow _ _ (Nat.le_refl _) _ _, _, rfl, .p _ _ (.str _)⟩
theorem strings_Repeat (s : List UInt8) (n : Int) (h0 : 0 ≤ n) (h1 : n ≤ 9223372036854775807) (h2 : s.length * n.toNat ≤ 140737488355328) (H : Heap) :
    AbsCall PP GG F.strings_Repeat [.p (.str s), .p (.int .i64 n)] H ⟨.ret (.p (.str (Lib.repeatL s n.toNat))), H, []⟩ := by
  refine absBelow fun B L w vs _ ha hg => ?_
  obtain ⟨v, u, rfl, hv, hu⟩ := vrel2 ha
  obtain rfl := vstr hv
  obtain rfl := vint hu
  obtain ⟨m, rfl⟩ := Int.eq_ofNat_of_zero_le h0
  refine CallTo.of_calls Tryz.func106 (by kernel_rfl) rfl ((Tryz.strings_Repeat ⟨s.toArray⟩ m w (by omega) (by simpa [ByteArray.size] using h2)).mono ?_)
  rintro e w' ⟨rfl, hb⟩
  exact ⟨hb, _, rfl, by simpa using VRel.p _ _ (.str _)⟩
end Go.Proofs.YtaoejccgdpppgaaGreatDoor
end

section
namespace Go.Proofs.YtaoejccgdpppgaaGreatDoor
open Go Go.Am
set_option maxRecDepth 100000
def prO (broad : Bool) : Option Str → List HO
  | none => [.var T.jprint_printer (.p (.agg [.nilptr, .nils, .bool broad]))]
  | some acc => [.var T.jprint_printer (.agg [.ptr 0 0, .sl 1 0 (acc.map byteP).length, .p (.bool broad)]), .arr T.uint8 1 (acc.map byteP)]
theorem copyCheck_new (b : Bool) : AbsCall PP GG F.strings_Builder_copyCheck [.ptr 0 0] [.var T.jprint_printer (.p (.agg [.nilptr, .nils, .bool b]))] ⟨.ret (.tup []), [.var T.jprint_printer (.agg [.ptr 0 0, .p .nils, .p (.bool b)])], []⟩ := by
  refine absCall_of (pol := polG) mixP F.strings_Builder_copyCheck_is ?_
  conv => whnf
  repeat' ((first
   | ((with_reducible first | refine Br.dec ?_ ?_ | refine Br.ndec ?_ ?_) <;> intro hb <;> (try simp only [ZZ] at hb) <;> (first | omega | skip))
   | (with_reducible first | refine Br.tt rfl ?_ | refine Br.ff rfl ?_ | refine Br.ff (isEmptyCons _ _) ?_)
   | (refine Side.mk ?_ ?_; focus (first | omega | (dsimp only [InR, Int.reduceToNat, IntKind.bits, Int.reducePow]; omega) | kernel_rfl | (simp [CC]; done) | (constructor <;> omega)))
   | (refine Br.mk ?_ ?_ <;> intro hb <;> (try simp only [ZZ] at hb) <;> (first | omega | skip))
   | refine Src.whole ⟨rfl, rfl⟩ ?_ | refine FrzV.whole ?_
   | refine CallW.use (abi_NoEscape _ _) ?_) <;> conv => whnf)
  exact CLe.eq rfl
theorem copyCheck_old (b : Bool) (acc : Str) : AbsCall PP GG F.strings_Builder_copyCheck [.ptr 0 0] (prO b (some acc)) ⟨.ret (.tup []), prO b (some acc), []⟩ := by
  refine absCall_of (pol := polG) mixP F.strings_Builder_copyCheck_is ?_
  conv => whnf
  repeat' ((first
   | ((with_reducible first | refine Br.dec ?_ ?_ | refine Br.ndec ?_ ?_) <;> intro hb <;> (try simp only [ZZ] at hb) <;> (first | omega | skip))
   | (with_reducible first | refine Br.tt rfl ?_ | refine Br.ff rfl ?_ | refine Br.ff (isEmptyCons _ _) ?_)
   | (refine Side.mk ?_ ?_; focus (first | omega | (dsimp only [InR, Int.reduceToNat, IntKind.bits, Int.reducePow]; omega) | (simp [CC]; done) | (constructor <;> omega)))
   | (refine Br.mk ?_ ?_ <;> intro hb <;> (try simp only [ZZ] at hb) <;> (first | omega | skip))
   | refine Src.whole ⟨rfl, rfl⟩ ?_ | refine FrzV.whole ?_) <;> conv => whnf)
  exact CLe.eq rfl
theorem byteP_cells (s : Str) : ∀ y ∈ s.map byteP, y.cells.length = 1 := by
  intro y hy
  obtain ⟨b, _, rfl⟩ := List.mem_map.1 hy
  rfl
theorem WriteString_new (b : Bool) (s : Str) (hs : s ≠ []) (hl : s.length ≤ 140737488355328) : AbsCall PP GG F.strings_Builder_WriteString [.ptr 0 0, .p (.str s)] (prO b none) ⟨.ret (.tup [.p (.int .i64 s.length), .p .nili]), prO b (some s), []⟩ := by
  have hml : (s.map byteP).length = s.length := by simp
  refine absCall_of (pol := polG) mixP F.strings_Builder_WriteString_is ?_
  conv => whnf
  repeat' ((first
   | ((with_reducible first | refine Br.dec ?_ ?_ | refine Br.ndec ?_ ?_) <;> intro hb <;> (try simp only [ZZ] at hb) <;> (first | omega | skip))
   | (with_reducible first | refine Br.tt rfl ?_ | refine Br.ff rfl ?_ | refine Br.ff (isEmptyCons _ _) ?_)
   | (refine Side.mk ?_ ?_; focus (first | omega | (dsimp only [InR, Int.reduceToNat, IntKind.bits, Int.reducePow]; omega) | exact ⟨byteP_cells s, by omega⟩ | (simp [CC]; done) | (constructor <;> omega)))
   | (refine Br.mk ?_ ?_ <;> intro hb <;> (try simp only [ZZ] at hb) <;> (first | omega | skip))
   | refine Src.whole ⟨rfl, rfl⟩ ?_ | refine FrzV.whole ?_
   | refine CallW.use (copyCheck_new b) ?_) <;> conv => whnf)
  · exact absurd (by simpa using hb) hs
  · exact CLe.eq rfl
theorem WriteString_old (b : Bool) (acc s : Str) (hl : acc.length + s.length ≤ 140737488355328) : AbsCall PP GG F.strings_Builder_WriteString [.ptr 0 0, .p (.str s)] (prO b (some acc)) ⟨.ret (.tup [.p (.int .i64 s.length), .p .nili]), prO b (some (acc ++ s)), [1]⟩ := by
  have hml : (s.map byteP).length = s.length := by simp
  have hma : (acc.map byteP).length = acc.length := by simp
  refine absCall_of (pol := polG) mixP F.strings_Builder_WriteString_is ?_
  conv => whnf
  repeat' ((first
   | ((with_reducible first | refine Br.dec ?_ ?_ | refine Br.ndec ?_ ?_) <;> intro hb <;> (try simp only [ZZ] at hb) <;> (first | omega | skip))
   | (with_reducible first | refine Br.tt rfl ?_ | refine Br.ff rfl ?_ | refine Br.ff (isEmptyCons _ _) ?_)
   | (refine Side.mk ?_ ?_; focus (first | omega | (dsimp only [InR, Int.reduceToNat, IntKind.bits, Int.reducePow]; omega) | exact ⟨byteP_cells s, rfl, by omega⟩ | (simp [CC]; done) | (constructor <;> omega)))
   | (refine Br.mk ?_ ?_ <;> intro hb <;> (try simp only [ZZ] at hb) <;> (first | omega | skip))
   | refine Src.whole ⟨rfl, rfl⟩ ?_ | refine FrzV.whole ?_
   | refine CallW.use (copyCheck_old b acc) ?_) <;> conv => whnf)
  exact CLe.eq (by simp only [prO, List.map_append])
theorem bytesX_map : ∀ s : Str, bytesX (s.map byteP) = some s
  | [] => rfl
  | b :: s => by
    have h := b.toNat_lt
    rw [List.map_cons]
    show bytesX (PV.int .u8 (b.toNat : Int) :: s.map byteP) = _
    rw [bytesX, if_pos (by omega), bytesX_map s]
    simp
theorem frz_pr (b : Bool) (es : List PV) : HO.frz 1 es (.var T.jprint_printer (.agg [.ptr 0 0, .sl 1 0 es.length, .p (.bool b)])) = .var T.jprint_printer (.agg [.ptr 0 0, .p (.lst false es), .p (.bool b)]) := by
  simp only [HO.frz, V.frz, V.frzL, if_pos, Nat.zero_add, Nat.le_refl, List.drop_zero, List.take_length]
  rfl
theorem Builder_String (b : Bool) (acc : Str) (hs : acc ≠ []) (hl : acc.length ≤ 9223372036854775807) : AbsCall PP GG F.strings_Builder_String [.ptr 0 0] (prO b (some acc)) ⟨.ret (.p (.str acc)), [.var T.jprint_printer (.agg [.ptr 0 0, .p (.lst false (acc.map byteP)), .p (.bool b)]), .dead], []⟩ := by
  obtain ⟨c, cs, rfl⟩ := List.exists_cons_of_ne_nil hs
  refine absCall_of (pol := polG) mixP F.strings_Builder_String_is ?_
  conv => whnf
  repeat' ((first
   | ((with_reducible first | refine Br.dec ?_ ?_ | refine Br.ndec ?_ ?_) <;> intro hb <;> (try simp only [ZZ] at hb) <;> (first | omega | skip))
   | (with_reducible first | refine Br.tt rfl ?_ | refine Br.ff rfl ?_ | refine Br.ff (isEmptyCons _ _) ?_)
   | (refine Side.mk ?_ ?_; focus (first | omega | (dsimp only [InR, Int.reduceToNat, IntKind.bits, Int.reducePow]; omega) | exact ⟨bytesX_map _, by simp, by simp, by simpa using hl⟩ | (simp [CC]; done) | (constructor <;> omega)))
   | (refine Br.mk ?_ ?_ <;> intro hb <;> (try simp only [ZZ] at hb) <;> (first | omega | skip))
   | refine Src.whole ⟨rfl, rfl⟩ ?_ | refine FrzV.whole ?_
   | (refine Bytes.mk' rfl ?_)
   | (refine FrzV.mk .junk rfl ?_)
   | (refine FrzO.mk (.var T.jprint_printer (.agg [.ptr 0 0, .p (.lst false ((c :: cs).map byteP)), .p (.bool b)])) (frz_pr b _) ?_)) <;> conv => whnf)
  exact CLe.eq rfl
def dd (b : Bool) (n : Int) : Int := if b = true then n else -1
theorem printer_line (b : Bool) (n : Int) (h0 : 0 ≤ n) (h1 : n ≤ 8000000) (acc : Str) (hl : acc.length ≤ 70368744177664) : AbsCall PP GG F.jprint_printer_line [.ptr 0 0, .p (.int .i64 n)] (prO b (some acc)) ⟨.ret (.tup []), prO b (some (acc ++ lineL (dd b n))), [1]⟩ := by
  cases b with
  | false =>
    rw [show lineL (dd false n) = [] from rfl, List.append_nil]
    refine absCall_of (pol := polG) mixP F.jprint_printer_line_is ?_
    conv => whnf
    repeat' ((first
     | ((with_reducible first | refine Br.dec ?_ ?_ | refine Br.ndec ?_ ?_) <;> intro hb <;> (try simp only [ZZ] at hb) <;> (first | omega | skip))
     | (with_reducible first | refine Br.tt rfl ?_ | refine Br.ff rfl ?_ | refine Br.ff (isEmptyCons _ _) ?_)
     | (refine Side.mk ?_ ?_; focus (first | omega | (dsimp only [InR, Int.reduceToNat, IntKind.bits, Int.reducePow]; omega) | (simp [CC]; done) | (constructor <;> omega)))
     | (refine Br.mk ?_ ?_ <;> intro hb <;> (try simp only [ZZ] at hb) <;> (first | omega | skip))
     | refine Src.whole ⟨rfl, rfl⟩ ?_ | refine FrzV.whole ?_) <;> conv => whnf)
    exact CLe.mvs (by simp)
  | true =>
    have hr := repeat_len n.toNat
    have hR := strings_Repeat [32, 32] n h0 (by omega) (by show 2 * _ ≤ _; omega) []
    have e : lineL (dd true n) = 10 :: Lib.repeatL [32, 32] n.toNat := by unfold lineL dd; rw [if_pos rfl, if_neg (by omega)]
    have hW := WriteString_old true acc (lineL (dd true n)) (by rw [e, List.length_cons]; omega)
    rw [e] at hW
    rw [e]
    refine absCall_of (pol := polG) mixP F.jprint_printer_line_is ?_
    conv => whnf
    repeat' ((first
     | ((with_reducible first | refine Br.dec ?_ ?_ | refine Br.ndec ?_ ?_) <;> intro hb <;> (try simp only [ZZ] at hb) <;> (first | omega | skip))
     | (with_reducible first | refine Br.tt rfl ?_ | refine Br.ff rfl ?_ | refine Br.ff (isEmptyCons _ _) ?_)
     | (refine Side.mk ?_ ?_; focus (first | omega | (dsimp only [InR, Int.reduceToNat, IntKind.bits, Int.reducePow]; omega) | (show 1 + _ ≤ _; omega) | (simp [CC]; done) | (constructor <;> omega)))
     | (refine Br.mk ?_ ?_ <;> intro hb <;> (try simp only [ZZ] at hb) <;> (first | omega | skip))
     | refine Src.whole ⟨rfl, rfl⟩ ?_ | refine FrzV.whole ?_
     | refine CallW.use (hR) ?_
     | refine CallW.use (hW) ?_) <;> conv => whnf)
    exact CLe.eq rfl
end Go.Proofs.YtaoejccgdpppgaaGreatDoor
end

section
namespace Go.Proofs.YtaoejccgdpppgaaGreatDoor
open Go Go.Am Go.RowKit
set_option maxRecDepth 100000
theorem sl_IndexByte (s : Str) (c : Int) : AbsCall PP GG F.internal_stringslite_IndexByte [.p (.str s), .p (.int .u8 c)] [] ⟨.ret (.p (.int .i64 (firstIdx ⟨s.toArray⟩ c.toNat.toUInt8))), [], []⟩ := by
  refine absCall_of (pol := polG) mixP F.internal_stringslite_IndexByte_is ?_
  conv => whnf
  repeat' ((first
   | ((with_reducible first | refine Br.dec ?_ ?_ | refine Br.ndec ?_ ?_) <;> intro hb <;> (try simp only [ZZ] at hb) <;> (first | omega | skip))
   | (with_reducible first | refine Br.tt rfl ?_ | refine Br.ff rfl ?_ | refine Br.ff (isEmptyCons _ _) ?_)
   | (refine Side.mk ?_ ?_; focus (first | omega | (dsimp only [InR, Int.reduceToNat, IntKind.bits, Int.reducePow]; omega) | (simp [CC]; done) | (constructor <;> omega)))
   | (refine Br.mk ?_ ?_ <;> intro hb <;> (try simp only [ZZ] at hb) <;> (first | omega | skip))
   | refine Src.whole ⟨rfl, rfl⟩ ?_ | refine FrzV.whole ?_
   | refine CallW.use (bytealg_IndexByteString s c []) ?_) <;> conv => whnf)
  exact CLe.eq rfl
theorem strings_IndexByte (s : Str) (c : Int) : AbsCall PP GG F.strings_IndexByte [.p (.str s), .p (.int .u8 c)] [] ⟨.ret (.p (.int .i64 (firstIdx ⟨s.toArray⟩ c.toNat.toUInt8))), [], []⟩ := by
  refine absCall_of (pol := polG) mixP F.strings_IndexByte_is ?_
  conv => whnf
  repeat' ((first
   | ((with_reducible first | refine Br.dec ?_ ?_ | refine Br.ndec ?_ ?_) <;> intro hb <;> (try simp only [ZZ] at hb) <;> (first | omega | skip))
   | (with_reducible first | refine Br.tt rfl ?_ | refine Br.ff rfl ?_ | refine Br.ff (isEmptyCons _ _) ?_)
   | (refine Side.mk ?_ ?_; focus (first | omega | (dsimp only [InR, Int.reduceToNat, IntKind.bits, Int.reducePow]; omega) | (simp [CC]; done) | (constructor <;> omega)))
   | (refine Br.mk ?_ ?_ <;> intro hb <;> (try simp only [ZZ] at hb) <;> (first | omega | skip))
   | refine Src.whole ⟨rfl, rfl⟩ ?_ | refine FrzV.whole ?_
   | refine CallW.use (sl_IndexByte s c) ?_) <;> conv => whnf)
  exact CLe.eq rfl
end Go.Proofs.YtaoejccgdpppgaaGreatDoor
end

section
namespace Go.Proofs.YtaoejccgdpppgaaGreatDoor
open Go Go.Am
set_option maxRecDepth 100000
end Go.Proofs.YtaoejccgdpppgaaGreatDoor
end

section
namespace Go.Am
open Go
def escR (r : Int) : Str :=
  if r = 34 then [92, 34] else if r = 92 then [92, 92] else if r = 8 then [92, 98] else if r = 12 then [92, 102] else if r = 10 then [92, 110] else if r = 13 then [92, 114] else if r = 9 then [92, 116] else
  if r < 32 then 92 :: 117 :: hex2 r.toNat else utfEnc r
def letR (s : Str) : Int := if (utfTake s).2 = 0 then 65533 else (utfTake s).1
theorem utfTake_enc (s : Str) (h : (utfTake s).2 ≠ 0) : utfEnc (utfTake s).1 = s.take (utfTake s).2.toNat := by
  cases s with
  | nil => exact absurd rfl h
  | cons c cs =>
    unfold utfTake at h ⊢
    simp only [] at h ⊢
    split
    · rename_i h1; rw [if_pos h1] at h; exact absurd rfl h
    · rename_i h1
      rw [if_neg h1] at h
      split
      · rename_i h2; rw [h2] at h; exact absurd rfl h
      · rename_i r h2
        rw [h2] at h
        simp only [] at h
        split
        · rename_i h3
          simp only [not_or] at h1
          exact enc_take h1.1 h1.2 h2 h3.1 h3.2
        · rename_i h3; rw [if_neg h3] at h; exact absurd rfl h
theorem enc_b0 (r : Int) (hg : utfGood r = true) : (r < 128 → utfEnc r = [UInt8.ofNat r.toNat] ∧ b0 (utfEnc r) = r.toNat) ∧ (128 ≤ r → 128 ≤ b0 (utfEnc r)) := by
  have hgn : ¬ utfGood r = false := by rw [hg]; simp
  have hr : 0 ≤ r ∧ r ≤ 1114111 := by unfold utfGood at hg; rw [decide_eq_true_eq] at hg; omega
  have big : ∀ n : Nat, n < 256 → (UInt8.ofNat n).toNat = n := fun n hn => by rw [UInt8.toNat_ofNat']; omega
  refine ⟨fun h => ?_, fun h => ?_⟩
  · have e : utfEnc r = [UInt8.ofNat r.toNat] := by unfold utfEnc; rw [if_neg hgn, if_pos h]
    refine ⟨e, ?_⟩
    rw [e]
    show (UInt8.ofNat r.toNat).toNat = _
    exact big _ (by omega)
  · unfold utfEnc
    rw [if_neg hgn, if_neg (by omega)]
    split
    · show 128 ≤ (UInt8.ofNat (192 + r.toNat / 64)).toNat
      rw [big _ (by omega)]; omega
    · split
      · show 128 ≤ (UInt8.ofNat (224 + r.toNat / 4096)).toNat
        rw [big _ (by omega)]; omega
      · show 128 ≤ (UInt8.ofNat (240 + r.toNat / 262144)).toNat
        rw [big _ (by omega)]; omega
theorem escR_eq (c : UInt8) (cs : Str) : quoteU ((c :: cs).take (stepN (c :: cs))) (utfTake (c :: cs)).2 = escR (letR (c :: cs)) := by
  unfold letR
  by_cases h0 : (utfTake (c :: cs)).2 = 0
  · rw [if_pos h0]
    unfold quoteU
    rw [if_pos h0]
    decide +kernel
  · rw [if_neg h0]
    have he := utfTake_enc _ h0
    have hn := utfTake_n (c :: cs)
    have hs : stepN (c :: cs) = (utfTake (c :: cs)).2.toNat := by unfold stepN; omega
    have hg := (utfTake_r (c :: cs)).resolve_left h0
    rw [hs, ← he]
    generalize (utfTake (c :: cs)).1 = r at *
    obtain ⟨h1, h2⟩ := enc_b0 r hg
    have hr : 0 ≤ r ∧ r ≤ 1114111 := by unfold utfGood at hg; rw [decide_eq_true_eq] at hg; omega
    unfold quoteU
    rw [if_neg h0]
    unfold escR
    by_cases hr1 : r < 128
    · obtain ⟨e1, e2⟩ := h1 hr1
      rw [e2]
      obtain ⟨n, rfl⟩ := Int.eq_ofNat_of_zero_le hr.1
      rw [Int.toNat_natCast] at e1 ⊢
      by_cases h34 : n = 34
      · subst h34; rw [e1]; rfl
      by_cases h92 : n = 92
      · subst h92; rw [e1]; rfl
      rw [if_neg (by omega)]
      repeat (first | rw [if_neg (show ¬ ((n : Int) = 34) by omega)] | rw [if_neg (show ¬ ((n : Int) = 92) by omega)])
      repeat' split
      all_goals first | rfl | omega
    · have := h2 (by omega)
      rw [if_neg (by omega), if_neg (by omega), if_neg (by omega), if_neg (by omega), if_neg (by omega), if_neg (by omega), if_neg (by omega)]
      rw [if_neg (by omega), if_neg (by omega), if_neg (by omega), if_neg (by omega), if_neg (by omega), if_neg (by omega), if_neg (by omega), if_neg (by omega)]
end Go.Am
end

section
namespace Go.Proofs.YtaoejccgdpppgaaGreatDoor
open Go Go.Am Go.RowKit
set_option maxRecDepth 100000
def setB : Str := [34, 92, 8, 12, 10, 13, 9]
def setI (r : Int) : Int := if r = 34 then 0 else if r = 92 then 1 else if r = 8 then 2 else if r = 12 then 3 else if r = 10 then 4 else if r = 13 then 5 else if r = 9 then 6 else -1
theorem set_all : ∀ n : Nat, n < 256 → firstIdx ⟨setB.toArray⟩ n.toUInt8 = setI n := by decide +kernel
def cap (r : Int) : Int := if 255 < r then 255 else r
theorem quote_IndexByte (r : Int) (h0 : 0 ≤ r) : AbsCall PP GG F.strings_IndexByte [.p (.str setB), .p (.int .u8 (IntKind.u8.wrap (if 255 < r then 255 else r)))] [] ⟨.ret (.p (.int .i64 (setI (cap r)))), [], []⟩ := by
  have hc : 0 ≤ cap r ∧ cap r ≤ 255 := by unfold cap; split <;> omega
  have e : IntKind.u8.wrap (cap r) = cap r := InR.wrap (by simp only [InR]; omega)
  have h := strings_IndexByte setB (cap r)
  show AbsCall PP GG F.strings_IndexByte [.p (.str setB), .p (.int .u8 (IntKind.u8.wrap (cap r)))] [] _
  obtain ⟨n, hn⟩ := Int.eq_ofNat_of_zero_le hc.1
  rw [e]
  rw [hn] at h ⊢
  rw [Int.toNat_natCast, set_all n (by omega)] at h
  exact h
theorem esc_loop (R : Str) (hRl : R.length ≤ 1000000) (K : Post)
    (h0 : K (.exit 0) [(5, .sl 0 0 (R.map byteP).length)] [.arr T.uint8 1 (R.map byteP)] []) :
    ∀ (q : Nat) (s acc : Str), s.length ≤ q → s.length ≤ 65536 → acc.length ≤ 1000000 → acc ++ quoteL q s = R →
      LoopW PP GG 64 0 (loopN F.esc_quote_c 0) [(0, .p (.str s)), (1, .p (.bool false)), (5, .sl 0 0 (acc.map byteP).length)] [.arr T.uint8 1 (acc.map byteP)] [] (PostCl 64 K) := by
  intro q
  induction q with
  | zero =>
    intro s acc hq hs ha hR
    obtain rfl := List.eq_nil_of_length_eq_zero (Nat.le_zero.1 hq)
    rw [quoteL, List.append_nil] at hR
    subst hR
    refine LoopW.round (pol := polG) mixP ?_
    conv => whnf
    repeat' ((first
     | ((with_reducible first | refine Br.dec ?_ ?_ | refine Br.ndec ?_ ?_) <;> intro hb <;> (try simp only [And.intro @List.length_nil (ZZ)] at hb) <;> (first | omega | skip))
     | (with_reducible first | refine Br.tt rfl ?_ | refine Br.ff rfl ?_ | refine Br.ff (isEmptyCons _ _) ?_)
     | (refine Side.mk ?_ ?_; focus (first | omega | (dsimp only [InR, Int.reduceToNat, IntKind.bits, Int.reducePow]; omega) | (simp [CC]; done) | (constructor <;> omega)))
     | (refine Br.mk ?_ ?_ <;> intro hb <;> (try simp only [And.intro @List.length_nil (ZZ)] at hb) <;> (first | omega | skip))
     | refine Src.whole ⟨rfl, rfl⟩ ?_ | refine FrzV.whole ?_) <;> conv => whnf)
    · refine PostCl.of (h0) ?_ ?_
      · repeat first | exact trivial | refine ⟨VLe.refl _, ?_⟩
      · repeat first | exact trivial | refine ⟨by decide, ?_⟩
  | succ q ih =>
    intro s acc hq hs ha hR
    cases s with
    | nil =>
      rw [quoteL, List.append_nil] at hR
      subst hR
      refine LoopW.round (pol := polG) mixP ?_
      conv => whnf
      repeat' ((first
       | ((with_reducible first | refine Br.dec ?_ ?_ | refine Br.ndec ?_ ?_) <;> intro hb <;> (try simp only [And.intro @List.length_nil (ZZ)] at hb) <;> (first | omega | skip))
       | (with_reducible first | refine Br.tt rfl ?_ | refine Br.ff rfl ?_ | refine Br.ff (isEmptyCons _ _) ?_)
       | (refine Side.mk ?_ ?_; focus (first | omega | (dsimp only [InR, Int.reduceToNat, IntKind.bits, Int.reducePow]; omega) | (simp [CC]; done) | (constructor <;> omega)))
       | (refine Br.mk ?_ ?_ <;> intro hb <;> (try simp only [And.intro @List.length_nil (ZZ)] at hb) <;> (first | omega | skip))
       | refine Src.whole ⟨rfl, rfl⟩ ?_ | refine FrzV.whole ?_) <;> conv => whnf)
      · refine PostCl.of (h0) ?_ ?_
        · repeat first | exact trivial | refine ⟨VLe.refl _, ?_⟩
        · repeat first | exact trivial | refine ⟨by decide, ?_⟩
    | cons c cs =>
      have hT := utf_Take (c :: cs) (by omega)
      have hn := utfTake_n (c :: cs)
      have hl : (c :: cs).length = cs.length + 1 := rfl
      have hgr := utfTake_r (c :: cs)
      rw [quoteL, escR_eq] at hR
      have hml : (acc.map byteP).length = acc.length := by simp
      by_cases h0n : (utfTake (c :: cs)).2 = 0
      · have h1 := utfTake_0 h0n
        have hs1 : stepN (c :: cs) = 1 := by unfold stepN; rw [h0n]; rfl
        rw [h0n, h1] at hT
        rw [hs1] at hR
        unfold letR at hR
        rw [if_pos h0n] at hR
        have hI := quote_IndexByte 65533 (by omega)
        have hj : setI (cap 65533) = -1 := by decide
        rw [hj] at hI
        have hP := utf_Put acc 65533 (by omega)
        refine LoopW.round (pol := polG) mixP ?_
        conv => whnf
        repeat' ((first
         | ((with_reducible first | refine Br.dec ?_ ?_ | refine Br.ndec ?_ ?_) <;> intro hb <;> (try simp only [ZZ] at hb) <;> (first | omega | skip))
         | (with_reducible first | refine Br.tt rfl ?_ | refine Br.ff rfl ?_ | refine Br.ff (isEmptyCons _ _) ?_)
         | (refine Side.mk ?_ ?_; focus (first | omega | (dsimp only [InR, Int.reduceToNat, IntKind.bits, Int.reducePow]; omega) | (simp [CC]; done) | (constructor <;> omega)))
         | (refine Br.mk ?_ ?_ <;> intro hb <;> (try simp only [ZZ] at hb) <;> (first | omega | skip))
         | refine Src.whole ⟨rfl, rfl⟩ ?_ | refine FrzV.whole ?_
         | refine CallW.use (hT) ?_
         | refine CallW.use (hI) ?_
         | refine CallW.use (hP) ?_) <;> conv => whnf)
        · have e : escR 65533 = utfEnc 65533 := by decide +kernel
          rw [e, ← List.append_assoc] at hR
          refine LoopW.ren [1] (ih cs (acc ++ utfEnc 65533) (by omega) (by omega) (by have := congrArg List.length hR; rw [List.length_append] at this; omega) hR) (by repeat first | exact trivial | refine ⟨⟨rfl, VLe.refl _⟩, ?_⟩) (by repeat first | exact trivial | refine ⟨by decide, ?_⟩) rfl rfl
        · exact absurd trivial hb
      · obtain ⟨m, hm⟩ : ∃ m : Nat, (utfTake (c :: cs)).2 = m := ⟨(utfTake (c :: cs)).2.toNat, by omega⟩
        have hs1 : stepN (c :: cs) = m := by unfold stepN; omega
        rw [hs1] at hR
        unfold letR at hR
        rw [if_neg h0n] at hR
        have hgd := hgr.resolve_left h0n
        rw [hm] at hT hn h0n
        generalize (utfTake (c :: cs)).1 = r at *
        have hr : 0 ≤ r ∧ r ≤ 1114111 := by unfold utfGood at hgd; rw [decide_eq_true_eq] at hgd; omega
        have hI := quote_IndexByte r hr.1
        have hdl : ((c :: cs).drop m).length = (c :: cs).length - m := List.length_drop
        have fin : ∀ X : Str, acc ++ (X ++ quoteL q ((c :: cs).drop m)) = R → LoopW PP GG 64 0 (loopN F.esc_quote_c 0) [(0, .p (.str ((c :: cs).drop m))), (1, .p (.bool false)), (5, .sl 0 0 ((acc ++ X).map byteP).length)] [.arr T.uint8 1 ((acc ++ X).map byteP)] [] (PostCl 64 K) := by
          intro X h
          rw [← List.append_assoc] at h
          exact ih _ (acc ++ X) (by omega) (by omega) (by have := congrArg List.length h; rw [List.length_append] at this; omega) h
        by_cases hsp : r = 34 ∨ r = 92 ∨ r = 8 ∨ r = 12 ∨ r = 10 ∨ r = 13 ∨ r = 9
        · have app : ∀ x : UInt8, acc.map byteP ++ [PV.int .u8 92, byteP x] = (acc ++ [92, x]).map byteP := by intro x; simp [byteP]
          rcases hsp with rfl | rfl | rfl | rfl | rfl | rfl | rfl
          all_goals
            rw [show setI (cap _) = _ from by first | (show setI (cap 34) = 0; decide) | (show setI (cap 92) = 1; decide) | (show setI (cap 8) = 2; decide) | (show setI (cap 12) = 3; decide) | (show setI (cap 10) = 4; decide) | (show setI (cap 13) = 5; decide) | (show setI (cap 9) = 6; decide)] at hI
          · refine LoopW.round (pol := polG) mixP ?_
            conv => whnf
            repeat' ((first
             | ((with_reducible first | refine Br.dec ?_ ?_ | refine Br.ndec ?_ ?_) <;> intro hb <;> (try simp only [ZZ] at hb) <;> (first | omega | skip))
             | (with_reducible first | refine Br.tt rfl ?_ | refine Br.ff rfl ?_ | refine Br.ff (isEmptyCons _ _) ?_)
             | (refine Side.mk ?_ ?_; focus (first | omega | (dsimp only [InR, Int.reduceToNat, IntKind.bits, Int.reducePow]; omega) | exact ⟨by intro y hy; simp only [List.mem_cons, List.mem_nil_iff, or_false] at hy; rcases hy with rfl | rfl <;> rfl, rfl, by show (_ + 2) * 2 ≤ _; omega⟩ | (simp [CC]; done) | (constructor <;> omega)))
             | (refine Br.mk ?_ ?_ <;> intro hb <;> (try simp only [ZZ] at hb) <;> (first | omega | skip))
             | refine Src.whole ⟨rfl, rfl⟩ ?_ | refine FrzV.whole ?_
             | refine CallW.use (hT) ?_
             | refine CallW.use (hI) ?_) <;> conv => whnf)
            all_goals first
              | (rw [show List.map byteP acc ++ [PV.int .u8 92, byteP ((⟨#[34, 92, 98, 102, 110, 114, 116]⟩ : ByteArray).data.toList.getD (Int.toNat 0) 0)] = (acc ++ [92, 34]).map byteP from by rw [show (⟨#[34, 92, 98, 102, 110, 114, 116]⟩ : ByteArray).data.toList.getD (Int.toNat 0) 0 = 34 by decide]; exact app 34]
                 rw [show escR 34 = [92, 34] from rfl] at hR
                 refine LoopW.ren [0] (fin [92, 34] hR) (by repeat first | exact trivial | refine ⟨⟨rfl, VLe.refl _⟩, ?_⟩) (by repeat first | exact trivial | refine ⟨by decide, ?_⟩) rfl rfl)
          · refine LoopW.round (pol := polG) mixP ?_
            conv => whnf
            repeat' ((first
             | ((with_reducible first | refine Br.dec ?_ ?_ | refine Br.ndec ?_ ?_) <;> intro hb <;> (try simp only [ZZ] at hb) <;> (first | omega | skip))
             | (with_reducible first | refine Br.tt rfl ?_ | refine Br.ff rfl ?_ | refine Br.ff (isEmptyCons _ _) ?_)
             | (refine Side.mk ?_ ?_; focus (first | omega | (dsimp only [InR, Int.reduceToNat, IntKind.bits, Int.reducePow]; omega) | exact ⟨by intro y hy; simp only [List.mem_cons, List.mem_nil_iff, or_false] at hy; rcases hy with rfl | rfl <;> rfl, rfl, by show (_ + 2) * 2 ≤ _; omega⟩ | (simp [CC]; done) | (constructor <;> omega)))
             | (refine Br.mk ?_ ?_ <;> intro hb <;> (try simp only [ZZ] at hb) <;> (first | omega | skip))
             | refine Src.whole ⟨rfl, rfl⟩ ?_ | refine FrzV.whole ?_
             | refine CallW.use (hT) ?_
             | refine CallW.use (hI) ?_) <;> conv => whnf)
            all_goals first
              | (rw [show List.map byteP acc ++ [PV.int .u8 92, byteP ((⟨#[34, 92, 98, 102, 110, 114, 116]⟩ : ByteArray).data.toList.getD (Int.toNat 1) 0)] = (acc ++ [92, 92]).map byteP from by rw [show (⟨#[34, 92, 98, 102, 110, 114, 116]⟩ : ByteArray).data.toList.getD (Int.toNat 1) 0 = 92 by decide]; exact app 92]
                 rw [show escR 92 = [92, 92] from rfl] at hR
                 refine LoopW.ren [0] (fin [92, 92] hR) (by repeat first | exact trivial | refine ⟨⟨rfl, VLe.refl _⟩, ?_⟩) (by repeat first | exact trivial | refine ⟨by decide, ?_⟩) rfl rfl)
          · refine LoopW.round (pol := polG) mixP ?_
            conv => whnf
            repeat' ((first
             | ((with_reducible first | refine Br.dec ?_ ?_ | refine Br.ndec ?_ ?_) <;> intro hb <;> (try simp only [ZZ] at hb) <;> (first | omega | skip))
             | (with_reducible first | refine Br.tt rfl ?_ | refine Br.ff rfl ?_ | refine Br.ff (isEmptyCons _ _) ?_)
             | (refine Side.mk ?_ ?_; focus (first | omega | (dsimp only [InR, Int.reduceToNat, IntKind.bits, Int.reducePow]; omega) | exact ⟨by intro y hy; simp only [List.mem_cons, List.mem_nil_iff, or_false] at hy; rcases hy with rfl | rfl <;> rfl, rfl, by show (_ + 2) * 2 ≤ _; omega⟩ | (simp [CC]; done) | (constructor <;> omega)))
             | (refine Br.mk ?_ ?_ <;> intro hb <;> (try simp only [ZZ] at hb) <;> (first | omega | skip))
             | refine Src.whole ⟨rfl, rfl⟩ ?_ | refine FrzV.whole ?_
             | refine CallW.use (hT) ?_
             | refine CallW.use (hI) ?_) <;> conv => whnf)
            all_goals first
              | (rw [show List.map byteP acc ++ [PV.int .u8 92, byteP ((⟨#[34, 92, 98, 102, 110, 114, 116]⟩ : ByteArray).data.toList.getD (Int.toNat 2) 0)] = (acc ++ [92, 98]).map byteP from by rw [show (⟨#[34, 92, 98, 102, 110, 114, 116]⟩ : ByteArray).data.toList.getD (Int.toNat 2) 0 = 98 by decide]; exact app 98]
                 rw [show escR 8 = [92, 98] from rfl] at hR
                 refine LoopW.ren [0] (fin [92, 98] hR) (by repeat first | exact trivial | refine ⟨⟨rfl, VLe.refl _⟩, ?_⟩) (by repeat first | exact trivial | refine ⟨by decide, ?_⟩) rfl rfl)
          · refine LoopW.round (pol := polG) mixP ?_
            conv => whnf
            repeat' ((first
             | ((with_reducible first | refine Br.dec ?_ ?_ | refine Br.ndec ?_ ?_) <;> intro hb <;> (try simp only [ZZ] at hb) <;> (first | omega | skip))
             | (with_reducible first | refine Br.tt rfl ?_ | refine Br.ff rfl ?_ | refine Br.ff (isEmptyCons _ _) ?_)
             | (refine Side.mk ?_ ?_; focus (first | omega | (dsimp only [InR, Int.reduceToNat, IntKind.bits, Int.reducePow]; omega) | exact ⟨by intro y hy; simp only [List.mem_cons, List.mem_nil_iff, or_false] at hy; rcases hy with rfl | rfl <;> rfl, rfl, by show (_ + 2) * 2 ≤ _; omega⟩ | (simp [CC]; done) | (constructor <;> omega)))
             | (refine Br.mk ?_ ?_ <;> intro hb <;> (try simp only [ZZ] at hb) <;> (first | omega | skip))
             | refine Src.whole ⟨rfl, rfl⟩ ?_ | refine FrzV.whole ?_
             | refine CallW.use (hT) ?_
             | refine CallW.use (hI) ?_) <;> conv => whnf)
            all_goals first
              | (rw [show List.map byteP acc ++ [PV.int .u8 92, byteP ((⟨#[34, 92, 98, 102, 110, 114, 116]⟩ : ByteArray).data.toList.getD (Int.toNat 3) 0)] = (acc ++ [92, 102]).map byteP from by rw [show (⟨#[34, 92, 98, 102, 110, 114, 116]⟩ : ByteArray).data.toList.getD (Int.toNat 3) 0 = 102 by decide]; exact app 102]
                 rw [show escR 12 = [92, 102] from rfl] at hR
                 refine LoopW.ren [0] (fin [92, 102] hR) (by repeat first | exact trivial | refine ⟨⟨rfl, VLe.refl _⟩, ?_⟩) (by repeat first | exact trivial | refine ⟨by decide, ?_⟩) rfl rfl)
          · refine LoopW.round (pol := polG) mixP ?_
            conv => whnf
            repeat' ((first
             | ((with_reducible first | refine Br.dec ?_ ?_ | refine Br.ndec ?_ ?_) <;> intro hb <;> (try simp only [ZZ] at hb) <;> (first | omega | skip))
             | (with_reducible first | refine Br.tt rfl ?_ | refine Br.ff rfl ?_ | refine Br.ff (isEmptyCons _ _) ?_)
             | (refine Side.mk ?_ ?_; focus (first | omega | (dsimp only [InR, Int.reduceToNat, IntKind.bits, Int.reducePow]; omega) | exact ⟨by intro y hy; simp only [List.mem_cons, List.mem_nil_iff, or_false] at hy; rcases hy with rfl | rfl <;> rfl, rfl, by show (_ + 2) * 2 ≤ _; omega⟩ | (simp [CC]; done) | (constructor <;> omega)))
             | (refine Br.mk ?_ ?_ <;> intro hb <;> (try simp only [ZZ] at hb) <;> (first | omega | skip))
             | refine Src.whole ⟨rfl, rfl⟩ ?_ | refine FrzV.whole ?_
             | refine CallW.use (hT) ?_
             | refine CallW.use (hI) ?_) <;> conv => whnf)
            all_goals first
              | (rw [show List.map byteP acc ++ [PV.int .u8 92, byteP ((⟨#[34, 92, 98, 102, 110, 114, 116]⟩ : ByteArray).data.toList.getD (Int.toNat 4) 0)] = (acc ++ [92, 110]).map byteP from by rw [show (⟨#[34, 92, 98, 102, 110, 114, 116]⟩ : ByteArray).data.toList.getD (Int.toNat 4) 0 = 110 by decide]; exact app 110]
                 rw [show escR 10 = [92, 110] from rfl] at hR
                 refine LoopW.ren [0] (fin [92, 110] hR) (by repeat first | exact trivial | refine ⟨⟨rfl, VLe.refl _⟩, ?_⟩) (by repeat first | exact trivial | refine ⟨by decide, ?_⟩) rfl rfl)
          · refine LoopW.round (pol := polG) mixP ?_
            conv => whnf
            repeat' ((first
             | ((with_reducible first | refine Br.dec ?_ ?_ | refine Br.ndec ?_ ?_) <;> intro hb <;> (try simp only [ZZ] at hb) <;> (first | omega | skip))
             | (with_reducible first | refine Br.tt rfl ?_ | refine Br.ff rfl ?_ | refine Br.ff (isEmptyCons _ _) ?_)
             | (refine Side.mk ?_ ?_; focus (first | omega | (dsimp only [InR, Int.reduceToNat, IntKind.bits, Int.reducePow]; omega) | exact ⟨by intro y hy; simp only [List.mem_cons, List.mem_nil_iff, or_false] at hy; rcases hy with rfl | rfl <;> rfl, rfl, by show (_ + 2) * 2 ≤ _; omega⟩ | (simp [CC]; done) | (constructor <;> omega)))
             | (refine Br.mk ?_ ?_ <;> intro hb <;> (try simp only [ZZ] at hb) <;> (first | omega | skip))
             | refine Src.whole ⟨rfl, rfl⟩ ?_ | refine FrzV.whole ?_
             | refine CallW.use (hT) ?_
             | refine CallW.use (hI) ?_) <;> conv => whnf)
            all_goals first
              | (rw [show List.map byteP acc ++ [PV.int .u8 92, byteP ((⟨#[34, 92, 98, 102, 110, 114, 116]⟩ : ByteArray).data.toList.getD (Int.toNat 5) 0)] = (acc ++ [92, 114]).map byteP from by rw [show (⟨#[34, 92, 98, 102, 110, 114, 116]⟩ : ByteArray).data.toList.getD (Int.toNat 5) 0 = 114 by decide]; exact app 114]
                 rw [show escR 13 = [92, 114] from rfl] at hR
                 refine LoopW.ren [0] (fin [92, 114] hR) (by repeat first | exact trivial | refine ⟨⟨rfl, VLe.refl _⟩, ?_⟩) (by repeat first | exact trivial | refine ⟨by decide, ?_⟩) rfl rfl)
          · refine LoopW.round (pol := polG) mixP ?_
            conv => whnf
            repeat' ((first
             | ((with_reducible first | refine Br.dec ?_ ?_ | refine Br.ndec ?_ ?_) <;> intro hb <;> (try simp only [ZZ] at hb) <;> (first | omega | skip))
             | (with_reducible first | refine Br.tt rfl ?_ | refine Br.ff rfl ?_ | refine Br.ff (isEmptyCons _ _) ?_)
             | (refine Side.mk ?_ ?_; focus (first | omega | (dsimp only [InR, Int.reduceToNat, IntKind.bits, Int.reducePow]; omega) | exact ⟨by intro y hy; simp only [List.mem_cons, List.mem_nil_iff, or_false] at hy; rcases hy with rfl | rfl <;> rfl, rfl, by show (_ + 2) * 2 ≤ _; omega⟩ | (simp [CC]; done) | (constructor <;> omega)))
             | (refine Br.mk ?_ ?_ <;> intro hb <;> (try simp only [ZZ] at hb) <;> (first | omega | skip))
             | refine Src.whole ⟨rfl, rfl⟩ ?_ | refine FrzV.whole ?_
             | refine CallW.use (hT) ?_
             | refine CallW.use (hI) ?_) <;> conv => whnf)
            all_goals first
              | (rw [show List.map byteP acc ++ [PV.int .u8 92, byteP ((⟨#[34, 92, 98, 102, 110, 114, 116]⟩ : ByteArray).data.toList.getD (Int.toNat 6) 0)] = (acc ++ [92, 116]).map byteP from by rw [show (⟨#[34, 92, 98, 102, 110, 114, 116]⟩ : ByteArray).data.toList.getD (Int.toNat 6) 0 = 116 by decide]; exact app 116]
                 rw [show escR 9 = [92, 116] from rfl] at hR
                 refine LoopW.ren [0] (fin [92, 116] hR) (by repeat first | exact trivial | refine ⟨⟨rfl, VLe.refl _⟩, ?_⟩) (by repeat first | exact trivial | refine ⟨by decide, ?_⟩) rfl rfl)
        · have hj : setI (cap r) = -1 := by
            unfold setI cap
            repeat' split
            all_goals first | rfl | omega
          rw [hj] at hI
          have hP := utf_Put acc r (by omega)
          have e1 : 32 ≤ r → escR r = utfEnc r := by
            intro h
            unfold escR
            repeat (rw [if_neg (by omega)])
          have e2 : r < 32 → escR r = 92 :: 117 :: hex2 r.toNat := by
            intro h
            unfold escR
            rw [if_neg (by omega), if_neg (by omega), if_neg (by omega), if_neg (by omega), if_neg (by omega), if_neg (by omega), if_neg (by omega), if_pos h]
          have q4 : r / 2 ^ Int.toNat 4 = r / 16 := rfl
          have i0 : iand .i64 r 15 = r % 16 := iand15 hr.1 (by omega)
          refine LoopW.round (pol := polG) mixP ?_
          conv => whnf
          repeat' ((first
           | ((with_reducible first | refine Br.dec ?_ ?_ | refine Br.ndec ?_ ?_) <;> intro hb <;> (try simp only [ZZ] at hb) <;> (first | omega | skip))
           | (with_reducible first | refine Br.tt rfl ?_ | refine Br.ff rfl ?_ | refine Br.ff (isEmptyCons _ _) ?_)
           | (refine Side.mk ?_ ?_; focus (first | omega | (dsimp only [InR, Int.reduceToNat, IntKind.bits, Int.reducePow]; omega) | (refine ⟨by rw [q4]; omega, ?_⟩; rw [q4]; show _ < (16 : Int); omega) | (rw [i0]; refine ⟨by omega, ?_⟩; show _ < (16 : Int); omega) | exact ⟨by intro y hy; simp only [List.mem_cons, List.mem_nil_iff, or_false] at hy; rcases hy with rfl | rfl | rfl | rfl | rfl | rfl <;> rfl, rfl, by show (_ + 6) * 2 ≤ _; omega⟩ | (simp [CC]; done) | (constructor <;> omega)))
           | (refine Br.mk ?_ ?_ <;> intro hb <;> (try simp only [ZZ] at hb) <;> (first | omega | skip))
           | refine Src.whole ⟨rfl, rfl⟩ ?_ | refine FrzV.whole ?_
           | refine CallW.use (hT) ?_
           | refine CallW.use (hI) ?_
           | refine CallW.use (hP) ?_) <;> conv => whnf)
          all_goals first
            | (rw [e1 (by omega)] at hR; refine LoopW.ren [1] (fin (utfEnc r) hR) (by repeat first | exact trivial | refine ⟨⟨rfl, VLe.refl _⟩, ?_⟩) (by repeat first | exact trivial | refine ⟨by decide, ?_⟩) rfl rfl)
            | skip
          rw [e2 (by omega)] at hR
          rw [show List.map byteP acc ++ [PV.int .u8 92, PV.int .u8 117, PV.int .u8 48, PV.int .u8 48, byteP ((⟨#[48, 49, 50, 51, 52, 53, 54, 55, 56, 57, 97, 98, 99, 100, 101, 102]⟩ : ByteArray).data.toList.getD (r / 2 ^ Int.toNat 4).toNat 0), byteP ((⟨#[48, 49, 50, 51, 52, 53, 54, 55, 56, 57, 97, 98, 99, 100, 101, 102]⟩ : ByteArray).data.toList.getD (iand IntKind.i64 r 15).toNat 0)] = (acc ++ (92 :: 117 :: hex2 r.toNat)).map byteP from by
            rw [i0, q4, show (r / 16).toNat = r.toNat / 16 by omega, show (r % 16).toNat = r.toNat % 16 by omega, List.map_append]; rfl]
          refine LoopW.ren [0] (fin (92 :: 117 :: hex2 r.toNat) hR) (by repeat first | exact trivial | refine ⟨⟨rfl, VLe.refl _⟩, ?_⟩) (by repeat first | exact trivial | refine ⟨by decide, ?_⟩) rfl rfl
theorem esc_quote (s : Str) (hs : s.length ≤ 65536) : AbsCall PP GG F.esc_quote [.p (.str s), .p (.bool false)] [] ⟨.ret (.p (.str (quoteS s))), [], []⟩ := by
  have hq := quoteL_len s.length s
  have hR : ([34] ++ quoteL s.length s : Str).length ≤ 1000000 := by rw [List.length_append]; simp only [List.length_cons, List.length_nil]; omega
  have hml : (([34] ++ quoteL s.length s : Str).map byteP).length = ([34] ++ quoteL s.length s : Str).length := by simp
  have hb : (([34] ++ quoteL s.length s : Str).map byteP) ++ [PV.int .u8 34] = (quoteS s).map byteP := by unfold quoteS; simp [byteP]
  refine absCall_of (pol := polG) mixP F.esc_quote_is ?_
  conv => whnf
  repeat' ((first
   | ((with_reducible first | refine Br.dec ?_ ?_ | refine Br.ndec ?_ ?_) <;> intro hb <;> (try simp only [ZZ] at hb) <;> (first | omega | skip))
   | (with_reducible first | refine Br.tt rfl ?_ | refine Br.ff rfl ?_ | refine Br.ff (isEmptyCons _ _) ?_)
   | (refine Side.mk ?_ ?_; focus (first | omega | (dsimp only [InR, Int.reduceToNat, IntKind.bits, Int.reducePow]; omega) | (simp [CC]; done) | (constructor <;> omega)))
   | (refine Br.mk ?_ ?_ <;> intro hb <;> (try simp only [ZZ] at hb) <;> (first | omega | skip))
   | refine Src.whole ⟨rfl, rfl⟩ ?_ | refine FrzV.whole ?_) <;> conv => whnf)
  refine LoopW.cl ?_
  refine LoopW.sub (esc_loop ([34] ++ quoteL s.length s) hR _ ?_ s.length s [34] (by omega) hs (by simp) rfl) (by repeat first | exact trivial | refine ⟨VLe.refl _, ?_⟩) (by repeat first | exact trivial | refine ⟨by decide, ?_⟩)
  generalize ([34] ++ quoteL s.length s : Str) = R at *
  conv => whnf
  repeat' ((first
   | ((with_reducible first | refine Br.dec ?_ ?_ | refine Br.ndec ?_ ?_) <;> intro hb <;> (try simp only [ZZ] at hb) <;> (first | omega | skip))
   | (with_reducible first | refine Br.tt rfl ?_ | refine Br.ff rfl ?_ | refine Br.ff (isEmptyCons _ _) ?_)
   | (refine Side.mk ?_ ?_; focus (first | omega | (dsimp only [InR, Int.reduceToNat, IntKind.bits, Int.reducePow]; omega) | exact ⟨by intro y hy; simp only [List.mem_cons, List.mem_nil_iff, or_false] at hy; subst hy; rfl, rfl, by show (_ + 1) * 2 ≤ _; omega⟩ | (simp [CC]; done) | (constructor <;> omega)))
   | (refine Br.mk ?_ ?_ <;> intro hb <;> (try simp only [ZZ] at hb) <;> (first | omega | skip))
   | refine Src.whole ⟨rfl, rfl⟩ ?_ | refine FrzV.whole ?_
   | (refine Src.whole ⟨rfl, rfl⟩ ?_)
   | (refine Bytes.mk' hb ?_)) <;> conv => whnf)
  exact CLe.eq rfl
theorem esc_Quote (s : Str) (hs : s.length ≤ 65536) : AbsCall PP GG F.esc_Quote [.p (.str s)] [] ⟨.ret (.p (.str (quoteS s))), [], []⟩ := by
  refine absCall_of (pol := polG) mixP F.esc_Quote_is ?_
  conv => whnf
  repeat' ((first
   | ((with_reducible first | refine Br.dec ?_ ?_ | refine Br.ndec ?_ ?_) <;> intro hb <;> (try simp only [ZZ] at hb) <;> (first | omega | skip))
   | (with_reducible first | refine Br.tt rfl ?_ | refine Br.ff rfl ?_ | refine Br.ff (isEmptyCons _ _) ?_)
   | (refine Side.mk ?_ ?_; focus (first | omega | (dsimp only [InR, Int.reduceToNat, IntKind.bits, Int.reducePow]; omega) | (simp [CC]; done) | (constructor <;> omega)))
   | (refine Br.mk ?_ ?_ <;> intro hb <;> (try simp only [ZZ] at hb) <;> (first | omega | skip))
   | refine Src.whole ⟨rfl, rfl⟩ ?_ | refine FrzV.whole ?_
   | refine CallW.use (esc_quote s hs) ?_) <;> conv => whnf)
  exact CLe.eq rfl
end Go.Proofs.YtaoejccgdpppgaaGreatDoor
end

section
namespace Go.Proofs.YtaoejccgdpppgaaGreatDoor
open Go Go.Am
set_option maxRecDepth 100000
theorem dec_Text (n : Int) (hn : -9223372036854775808 ≤ n ∧ n ≤ 9223372036854775807) : AbsCall PP GG F.dec_Text [.p (.int .i64 n)] [] ⟨.ret (.p (.str (Lib.itoa n))), [], []⟩ := by
  have h := strconv_FormatInt n hn []
  refine absCall_of (pol := polG) mixP F.dec_Text_is ?_
  conv => whnf
  repeat' ((first
   | ((with_reducible first | refine Br.dec ?_ ?_ | refine Br.ndec ?_ ?_) <;> intro hb <;> (try simp only [ZZ] at hb) <;> (first | omega | skip))
   | (with_reducible first | refine Br.tt rfl ?_ | refine Br.ff rfl ?_ | refine Br.ff (isEmptyCons _ _) ?_)
   | (refine Side.mk ?_ ?_; focus (first | omega | (dsimp only [InR, Int.reduceToNat, IntKind.bits, Int.reducePow]; omega) | (simp [CC]; done) | (constructor <;> omega)))
   | (refine Br.mk ?_ ?_ <;> intro hb <;> (try simp only [ZZ] at hb) <;> (first | omega | skip))
   | refine Src.whole ⟨rfl, rfl⟩ ?_ | refine FrzV.whole ?_
   | refine CallW.use (h) ?_) <;> conv => whnf)
  exact CLe.eq rfl
def joinP (d : Int) : Bool → List Str → Str
  | _, [] => []
  | f, p :: ps => (if f = true then [] else [44]) ++ (lineL d ++ (p ++ joinP d false ps))
def prB (b : Bool) (v : PV) (d : Int) : Option Str → List HO
  | none => [.var T.jprint_printer (.p (.agg [.nilptr, .nils, .bool b])), .var T.ptr_jprint_printer (.ptr 0 0), .var T.api_Value (.p v), .var T.int (.p (.int .i64 d))]
  | some acc => [.var T.jprint_printer (.agg [.ptr 0 0, .sl 4 0 (acc.map byteP).length, .p (.bool b)]), .var T.ptr_jprint_printer (.ptr 0 0), .var T.api_Value (.p v), .var T.int (.p (.int .i64 d)), .arr T.uint8 1 (acc.map byteP)]
def prC (b : Bool) (v : PV) (d : Int) (acc : Str) : List HO :=
  [.var T.ptr_jprint_printer (.ptr 3 0), .var T.api_Value (.p v), .var T.int (.p (.int .i64 d)), .var T.jprint_printer (.agg [.ptr 3 0, .sl 4 0 (acc.map byteP).length, .p (.bool b)]), .arr T.uint8 1 (acc.map byteP)]
def OneIs (f : Nat) (b : Bool) (v : PV) (d : Int) (ps : List Str) : Prop := ∀ (i : Nat) (p acc : Str), ps[i]? = some p → acc.length + p.length ≤ 70368744177664 →
  AbsCall PP GG f [.p (.int .i64 i), .ptr 0 0, .ptr 1 0, .ptr 2 0] (prC b v d acc) ⟨.ret (.tup []), prC b v d (acc ++ p), [4]⟩
theorem parts_loop (f : Nat) (b : Bool) (v : PV) (d : Int) (hd : 0 ≤ d) (hd2 : d ≤ 7000000) (shut : Str) (ps : List Str) (hps : ps.length ≤ 8000000) (h1 : OneIs f b v d ps) (R : Str) (hRl : R.length ≤ 70368744177664) (k : Nat) (mv : List Nat) (hk : k = 5 ∧ mv = [4] ∨ k = 4 ∧ mv = []) (K : Post)
    (h0 : K (.exit 0) [(0, .ptr 0 0), (2, .p (.str shut)), (3, .p (.int .i64 ps.length)), (4, .p (.int .i64 d))] (prB b v d (some R)) mv) :
    ∀ (q i : Nat) (fl : Bool) (acc : Str), i + q = ps.length → (i = 0 ↔ fl = true) → acc ++ joinP (dd b (d + 1)) fl (ps.drop i) = R →
      LoopW PP GG 46 k (loopN F.jprint_printer_parts_c 0) [(0, .ptr 0 0), (2, .p (.str shut)), (3, .p (.int .i64 ps.length)), (4, .p (.int .i64 d)), (5, .func (.func f) [.ptr 1 0, .ptr 2 0, .ptr 3 0]), (18, .p (.int .i64 ps.length)), (19, .p (.int .i64 i))] (prB b v d (some acc)) mv (PostCl 46 K) := by
  rcases hk with ⟨rfl, rfl⟩ | ⟨rfl, rfl⟩
  all_goals
    intro q
    induction q with
    | zero =>
      intro i fl acc hi hf hR
      rw [List.drop_eq_nil_of_le (by omega), joinP, List.append_nil] at hR
      subst hR
      refine LoopW.round (pol := polG) mixP ?_
      conv => whnf
      repeat' ((first
       | ((with_reducible first | refine Br.dec ?_ ?_ | refine Br.ndec ?_ ?_) <;> intro hb <;> (try simp only [ZZ] at hb) <;> (first | omega | contradiction | skip))
       | (with_reducible first | refine Br.tt rfl ?_ | refine Br.ff rfl ?_ | refine Br.ff (isEmptyCons _ _) ?_)
       | (refine Side.mk ?_ ?_; focus (first | omega | (dsimp only [InR, Int.reduceToNat, IntKind.bits, Int.reducePow]; omega) | (simp [CC]; done) | (constructor <;> omega)))
       | with_reducible refine Br.not ?_
       | (with_reducible first | refine Br.tt (by assumption) ?_ | refine Br.ff (by assumption) ?_)
       | (refine Br.mk ?_ ?_ <;> intro hb <;> (try simp only [ZZ] at hb) <;> (first | omega | contradiction | skip))
       | refine Src.whole ⟨rfl, rfl⟩ ?_ | refine FrzV.whole ?_) <;> conv => whnf)
      · refine PostCl.of (h0) ?_ ?_
        · repeat first | exact trivial | refine ⟨VLe.refl _, ?_⟩
        · repeat first | exact trivial | refine ⟨by decide, ?_⟩
    | succ q ih =>
      intro i fl acc hi hf hR
      obtain ⟨p, hp⟩ : ∃ p, ps[i]? = some p := ⟨_, List.getElem?_eq_getElem (show i < ps.length by omega)⟩
      rw [drop_cons hp, joinP] at hR
      have hLL := congrArg List.length hR
      simp only [List.length_append] at hLL
      cases fl with
      | true =>
        have hi0 : i = 0 := hf.2 rfl
        subst hi0
        rw [if_pos rfl, List.nil_append] at hR
        have hl := printer_line b (d + 1) (by omega) (by omega) acc (by omega)
        have hs := h1 0 p (acc ++ lineL (dd b (d + 1))) hp (by rw [List.length_append]; omega)
        refine LoopW.round (pol := polG) mixP ?_
        conv => whnf
        repeat' ((first
         | ((with_reducible first | refine Br.dec ?_ ?_ | refine Br.ndec ?_ ?_) <;> intro hb <;> (try simp only [ZZ] at hb) <;> (first | omega | contradiction | skip))
         | (with_reducible first | refine Br.tt rfl ?_ | refine Br.ff rfl ?_ | refine Br.ff (isEmptyCons _ _) ?_)
         | (refine Side.mk ?_ ?_; focus (first | omega | (dsimp only [InR, Int.reduceToNat, IntKind.bits, Int.reducePow]; omega) | (simp [CC]; done) | (constructor <;> omega)))
         | with_reducible refine Br.not ?_
         | (with_reducible first | refine Br.tt (by assumption) ?_ | refine Br.ff (by assumption) ?_)
         | (refine Br.mk ?_ ?_ <;> intro hb <;> (try simp only [ZZ] at hb) <;> (first | omega | contradiction | skip))
         | refine Src.whole ⟨rfl, rfl⟩ ?_ | refine FrzV.whole ?_
         | refine CallW.use (hl) ?_
         | refine CallW.use (hs) ?_) <;> conv => whnf)
        refine LoopW.sub (ih 1 false (acc ++ lineL (dd b (d + 1)) ++ p) (by omega) (by simp) (by rw [← hR]; simp only [List.append_assoc])) (by repeat first | exact trivial | refine ⟨VLe.refl _, ?_⟩) (by repeat first | exact trivial | refine ⟨by decide, ?_⟩)
      | false =>
        have hi0 : ¬ i = 0 := fun h => by have := hf.1 h; cases this
        rw [if_neg (by simp)] at hR hLL
        simp only [List.length_cons, List.length_nil] at hLL
        have hw := WriteString_old b acc [44] (by show _ + 1 ≤ _; omega)
        have hl := printer_line b (d + 1) (by omega) (by omega) (acc ++ [44]) (by rw [List.length_append]; show _ + 1 ≤ _; omega)
        have hs := h1 i p (acc ++ [44] ++ lineL (dd b (d + 1))) hp (by simp only [List.length_append]; show (_ + 1 + _) + _ ≤ _; omega)
        refine LoopW.round (pol := polG) mixP ?_
        conv => whnf
        repeat' ((first
         | ((with_reducible first | refine Br.dec ?_ ?_ | refine Br.ndec ?_ ?_) <;> intro hb <;> (try simp only [ZZ] at hb) <;> (first | omega | contradiction | skip))
         | (with_reducible first | refine Br.tt rfl ?_ | refine Br.ff rfl ?_ | refine Br.ff (isEmptyCons _ _) ?_)
         | (refine Side.mk ?_ ?_; focus (first | omega | (dsimp only [InR, Int.reduceToNat, IntKind.bits, Int.reducePow]; omega) | (simp [CC]; done) | (constructor <;> omega)))
         | with_reducible refine Br.not ?_
         | (with_reducible first | refine Br.tt (by assumption) ?_ | refine Br.ff (by assumption) ?_)
         | (refine Br.mk ?_ ?_ <;> intro hb <;> (try simp only [ZZ] at hb) <;> (first | omega | contradiction | skip))
         | refine Src.whole ⟨rfl, rfl⟩ ?_ | refine FrzV.whole ?_
         | refine CallW.use (hw) ?_
         | refine CallW.use (hl) ?_
         | refine CallW.use (hs) ?_) <;> conv => whnf)
        refine LoopW.sub (ih (i + 1) false (acc ++ [44] ++ lineL (dd b (d + 1)) ++ p) (by omega) (by simp) (by rw [← hR]; simp only [List.append_assoc])) (by repeat first | exact trivial | refine ⟨VLe.refl _, ?_⟩) (by repeat first | exact trivial | refine ⟨by decide, ?_⟩)
def partsS (b : Bool) (d : Int) (opn shut : Str) (ps : List Str) : Str := opn ++ (joinP (dd b (d + 1)) true ps ++ ((if ps.length = 0 then [] else lineL (dd b d)) ++ shut))
theorem parts_old (f : Nat) (b : Bool) (v : PV) (d : Int) (hd : 0 ≤ d) (hd2 : d ≤ 7000000) (opn shut : Str) (ps : List Str) (hps : ps.length ≤ 8000000) (h1 : OneIs f b v d ps) (acc : Str) (hl : acc.length + (partsS b d opn shut ps).length ≤ 70368744177664) :
    AbsCall PP GG F.jprint_printer_parts [.ptr 0 0, .p (.str opn), .p (.str shut), .p (.int .i64 ps.length), .p (.int .i64 d), .func (.func f) [.ptr 1 0, .ptr 2 0, .ptr 3 0]] (prB b v d (some acc)) ⟨.ret (.tup []), prB b v d (some (acc ++ partsS b d opn shut ps)), [4]⟩ := by
  unfold partsS at hl ⊢
  simp only [List.length_append] at hl
  have hw := WriteString_old b acc opn (by omega)
  have hlo := parts_loop f b v d hd hd2 shut ps hps h1 (acc ++ opn ++ joinP (dd b (d + 1)) true ps) (by simp only [List.length_append]; omega) 5 [4] (.inl ⟨rfl, rfl⟩)
  by_cases hn : ps.length = 0
  · rw [if_pos hn] at hl ⊢
    have hw2 := WriteString_old b (acc ++ opn ++ joinP (dd b (d + 1)) true ps) shut (by simp only [List.length_append]; omega)
    refine absCall_of (pol := polG) mixP F.jprint_printer_parts_is ?_
    conv => whnf
    repeat' ((first
     | ((with_reducible first | refine Br.dec ?_ ?_ | refine Br.ndec ?_ ?_) <;> intro hb <;> (try simp only [ZZ] at hb) <;> (first | omega | contradiction | skip))
     | (with_reducible first | refine Br.tt rfl ?_ | refine Br.ff rfl ?_ | refine Br.ff (isEmptyCons _ _) ?_)
     | (refine Side.mk ?_ ?_; focus (first | omega | (dsimp only [InR, Int.reduceToNat, IntKind.bits, Int.reducePow]; omega) | (simp [CC]; done) | (constructor <;> omega)))
     | with_reducible refine Br.not ?_
     | (with_reducible first | refine Br.tt (by assumption) ?_ | refine Br.ff (by assumption) ?_)
     | (refine Br.mk ?_ ?_ <;> intro hb <;> (try simp only [ZZ] at hb) <;> (first | omega | contradiction | skip))
     | refine Src.whole ⟨rfl, rfl⟩ ?_ | refine FrzV.whole ?_
     | refine CallW.use (hw) ?_) <;> conv => whnf)
    refine LoopW.cl ?_
    refine LoopW.sub (hlo _ ?_ ps.length 0 true (acc ++ opn) (by omega) (by simp) rfl) (by repeat first | exact trivial | refine ⟨VLe.refl _, ?_⟩) (by repeat first | exact trivial | refine ⟨by decide, ?_⟩)
    conv => whnf
    repeat' ((first
     | ((with_reducible first | refine Br.dec ?_ ?_ | refine Br.ndec ?_ ?_) <;> intro hb <;> (try simp only [ZZ] at hb) <;> (first | omega | contradiction | skip))
     | (with_reducible first | refine Br.tt rfl ?_ | refine Br.ff rfl ?_ | refine Br.ff (isEmptyCons _ _) ?_)
     | (refine Side.mk ?_ ?_; focus (first | omega | (dsimp only [InR, Int.reduceToNat, IntKind.bits, Int.reducePow]; omega) | (simp [CC]; done) | (constructor <;> omega)))
     | with_reducible refine Br.not ?_
     | (with_reducible first | refine Br.tt (by assumption) ?_ | refine Br.ff (by assumption) ?_)
     | (refine Br.mk ?_ ?_ <;> intro hb <;> (try simp only [ZZ] at hb) <;> (first | omega | contradiction | skip))
     | refine Src.whole ⟨rfl, rfl⟩ ?_ | refine FrzV.whole ?_
     | refine CallW.use (hw2) ?_) <;> conv => whnf)
    exact CLe.eq (by simp only [prB, APN])
  · rw [if_neg hn] at hl ⊢
    have hli := printer_line b d hd (by omega) (acc ++ opn ++ joinP (dd b (d + 1)) true ps) (by simp only [List.length_append]; omega)
    have hw2 := WriteString_old b (acc ++ opn ++ joinP (dd b (d + 1)) true ps ++ lineL (dd b d)) shut (by simp only [List.length_append]; omega)
    refine absCall_of (pol := polG) mixP F.jprint_printer_parts_is ?_
    conv => whnf
    repeat' ((first
     | ((with_reducible first | refine Br.dec ?_ ?_ | refine Br.ndec ?_ ?_) <;> intro hb <;> (try simp only [ZZ] at hb) <;> (first | omega | contradiction | skip))
     | (with_reducible first | refine Br.tt rfl ?_ | refine Br.ff rfl ?_ | refine Br.ff (isEmptyCons _ _) ?_)
     | (refine Side.mk ?_ ?_; focus (first | omega | (dsimp only [InR, Int.reduceToNat, IntKind.bits, Int.reducePow]; omega) | (simp [CC]; done) | (constructor <;> omega)))
     | with_reducible refine Br.not ?_
     | (with_reducible first | refine Br.tt (by assumption) ?_ | refine Br.ff (by assumption) ?_)
     | (refine Br.mk ?_ ?_ <;> intro hb <;> (try simp only [ZZ] at hb) <;> (first | omega | contradiction | skip))
     | refine Src.whole ⟨rfl, rfl⟩ ?_ | refine FrzV.whole ?_
     | refine CallW.use (hw) ?_) <;> conv => whnf)
    refine LoopW.cl ?_
    refine LoopW.sub (hlo _ ?_ ps.length 0 true (acc ++ opn) (by omega) (by simp) rfl) (by repeat first | exact trivial | refine ⟨VLe.refl _, ?_⟩) (by repeat first | exact trivial | refine ⟨by decide, ?_⟩)
    conv => whnf
    repeat' ((first
     | ((with_reducible first | refine Br.dec ?_ ?_ | refine Br.ndec ?_ ?_) <;> intro hb <;> (try simp only [ZZ] at hb) <;> (first | omega | contradiction | skip))
     | (with_reducible first | refine Br.tt rfl ?_ | refine Br.ff rfl ?_ | refine Br.ff (isEmptyCons _ _) ?_)
     | (refine Side.mk ?_ ?_; focus (first | omega | (dsimp only [InR, Int.reduceToNat, IntKind.bits, Int.reducePow]; omega) | (simp [CC]; done) | (constructor <;> omega)))
     | with_reducible refine Br.not ?_
     | (with_reducible first | refine Br.tt (by assumption) ?_ | refine Br.ff (by assumption) ?_)
     | (refine Br.mk ?_ ?_ <;> intro hb <;> (try simp only [ZZ] at hb) <;> (first | omega | contradiction | skip))
     | refine Src.whole ⟨rfl, rfl⟩ ?_ | refine FrzV.whole ?_
     | refine CallW.use (hw2) ?_
     | refine CallW.use (hli) ?_) <;> conv => whnf)
    exact CLe.eq (by simp only [prB, APN])
theorem parts_new (f : Nat) (b : Bool) (v : PV) (d : Int) (hd : 0 ≤ d) (hd2 : d ≤ 7000000) (opn shut : Str) (ho : opn ≠ []) (ps : List Str) (hps : ps.length ≤ 8000000) (h1 : OneIs f b v d ps) (hl : (partsS b d opn shut ps).length ≤ 70368744177664) :
    AbsCall PP GG F.jprint_printer_parts [.ptr 0 0, .p (.str opn), .p (.str shut), .p (.int .i64 ps.length), .p (.int .i64 d), .func (.func f) [.ptr 1 0, .ptr 2 0, .ptr 3 0]] (prB b v d none) ⟨.ret (.tup []), prB b v d (some (partsS b d opn shut ps)), []⟩ := by
  unfold partsS at hl ⊢
  simp only [List.length_append] at hl
  have hw := WriteString_new b opn ho (by omega)
  have hlo := parts_loop f b v d hd hd2 shut ps hps h1 (opn ++ joinP (dd b (d + 1)) true ps) (by simp only [List.length_append]; omega) 4 [] (.inr ⟨rfl, rfl⟩)
  by_cases hn : ps.length = 0
  · rw [if_pos hn] at hl ⊢
    have hw2 := WriteString_old b (opn ++ joinP (dd b (d + 1)) true ps) shut (by simp only [List.length_append]; omega)
    refine absCall_of (pol := polG) mixP F.jprint_printer_parts_is ?_
    conv => whnf
    repeat' ((first
     | ((with_reducible first | refine Br.dec ?_ ?_ | refine Br.ndec ?_ ?_) <;> intro hb <;> (try simp only [ZZ] at hb) <;> (first | omega | contradiction | skip))
     | (with_reducible first | refine Br.tt rfl ?_ | refine Br.ff rfl ?_ | refine Br.ff (isEmptyCons _ _) ?_)
     | (refine Side.mk ?_ ?_; focus (first | omega | (dsimp only [InR, Int.reduceToNat, IntKind.bits, Int.reducePow]; omega) | (simp [CC]; done) | (constructor <;> omega)))
     | with_reducible refine Br.not ?_
     | (with_reducible first | refine Br.tt (by assumption) ?_ | refine Br.ff (by assumption) ?_)
     | (refine Br.mk ?_ ?_ <;> intro hb <;> (try simp only [ZZ] at hb) <;> (first | omega | contradiction | skip))
     | refine Src.whole ⟨rfl, rfl⟩ ?_ | refine FrzV.whole ?_
     | refine CallW.use (hw) ?_) <;> conv => whnf)
    refine LoopW.cl ?_
    refine LoopW.sub (hlo _ ?_ ps.length 0 true opn (by omega) (by simp) rfl) (by repeat first | exact trivial | refine ⟨VLe.refl _, ?_⟩) (by repeat first | exact trivial | refine ⟨by decide, ?_⟩)
    conv => whnf
    repeat' ((first
     | ((with_reducible first | refine Br.dec ?_ ?_ | refine Br.ndec ?_ ?_) <;> intro hb <;> (try simp only [ZZ] at hb) <;> (first | omega | contradiction | skip))
     | (with_reducible first | refine Br.tt rfl ?_ | refine Br.ff rfl ?_ | refine Br.ff (isEmptyCons _ _) ?_)
     | (refine Side.mk ?_ ?_; focus (first | omega | (dsimp only [InR, Int.reduceToNat, IntKind.bits, Int.reducePow]; omega) | (simp [CC]; done) | (constructor <;> omega)))
     | with_reducible refine Br.not ?_
     | (with_reducible first | refine Br.tt (by assumption) ?_ | refine Br.ff (by assumption) ?_)
     | (refine Br.mk ?_ ?_ <;> intro hb <;> (try simp only [ZZ] at hb) <;> (first | omega | contradiction | skip))
     | refine Src.whole ⟨rfl, rfl⟩ ?_ | refine FrzV.whole ?_
     | refine CallW.use (hw2) ?_) <;> conv => whnf)
    exact CLe.eq (by simp only [prB, APN])
  · rw [if_neg hn] at hl ⊢
    have hli := printer_line b d hd (by omega) (opn ++ joinP (dd b (d + 1)) true ps) (by simp only [List.length_append]; omega)
    have hw2 := WriteString_old b (opn ++ joinP (dd b (d + 1)) true ps ++ lineL (dd b d)) shut (by simp only [List.length_append]; omega)
    refine absCall_of (pol := polG) mixP F.jprint_printer_parts_is ?_
    conv => whnf
    repeat' ((first
     | ((with_reducible first | refine Br.dec ?_ ?_ | refine Br.ndec ?_ ?_) <;> intro hb <;> (try simp only [ZZ] at hb) <;> (first | omega | contradiction | skip))
     | (with_reducible first | refine Br.tt rfl ?_ | refine Br.ff rfl ?_ | refine Br.ff (isEmptyCons _ _) ?_)
     | (refine Side.mk ?_ ?_; focus (first | omega | (dsimp only [InR, Int.reduceToNat, IntKind.bits, Int.reducePow]; omega) | (simp [CC]; done) | (constructor <;> omega)))
     | with_reducible refine Br.not ?_
     | (with_reducible first | refine Br.tt (by assumption) ?_ | refine Br.ff (by assumption) ?_)
     | (refine Br.mk ?_ ?_ <;> intro hb <;> (try simp only [ZZ] at hb) <;> (first | omega | contradiction | skip))
     | refine Src.whole ⟨rfl, rfl⟩ ?_ | refine FrzV.whole ?_
     | refine CallW.use (hw) ?_) <;> conv => whnf)
    refine LoopW.cl ?_
    refine LoopW.sub (hlo _ ?_ ps.length 0 true opn (by omega) (by simp) rfl) (by repeat first | exact trivial | refine ⟨VLe.refl _, ?_⟩) (by repeat first | exact trivial | refine ⟨by decide, ?_⟩)
    conv => whnf
    repeat' ((first
     | ((with_reducible first | refine Br.dec ?_ ?_ | refine Br.ndec ?_ ?_) <;> intro hb <;> (try simp only [ZZ] at hb) <;> (first | omega | contradiction | skip))
     | (with_reducible first | refine Br.tt rfl ?_ | refine Br.ff rfl ?_ | refine Br.ff (isEmptyCons _ _) ?_)
     | (refine Side.mk ?_ ?_; focus (first | omega | (dsimp only [InR, Int.reduceToNat, IntKind.bits, Int.reducePow]; omega) | (simp [CC]; done) | (constructor <;> omega)))
     | with_reducible refine Br.not ?_
     | (with_reducible first | refine Br.tt (by assumption) ?_ | refine Br.ff (by assumption) ?_)
     | (refine Br.mk ?_ ?_ <;> intro hb <;> (try simp only [ZZ] at hb) <;> (first | omega | contradiction | skip))
     | refine Src.whole ⟨rfl, rfl⟩ ?_ | refine FrzV.whole ?_
     | refine CallW.use (hw2) ?_
     | refine CallW.use (hli) ?_) <;> conv => whnf)
    exact CLe.eq (by simp only [prB, APN])
end Go.Proofs.YtaoejccgdpppgaaGreatDoor
end
