/-
How trees are written.
The walk through the program's judgement of trees.
The walk through strings.Builder, as a part of the printer.
The walks through what the reference writes.
The walks through what the reference writes: strings.
The program's strings are the reference's.
The walk through the program's strings.
-/
import Derived.Test.YtaoejccgdpppgaaGreatDoorPH
import Derived.Test.YtaoejccgdpppgaaGreatDoorPF
import Derived.Test.YtaoejccgdpppgaaGreatDoorPG

section
namespace Go.Am
open Go
def deeper (d : Int) : Int := if 0 ≤ d then d + 1 else -1
def colonL (d : Int) : Str := if 0 ≤ d then [58, 32] else [58]
mutual
def printT : Tree → Int → Str
  | .mk k n s l m, d => if k = 0 then [110, 117, 108, 108] else if k = 1 then (if n = 1 then [116, 114, 117, 101] else [102, 97, 108, 115, 101]) else
    if k = 2 then Lib.itoa n else if k = 3 then s else if k = 4 ∨ k = 7 then quoteS s else
    if k = 6 then (if m.length = 0 then [123, 125] else 123 :: (printM true m (deeper d) ++ (lineL d ++ [125])))
    else (if l.length = 0 then [91, 93] else 91 :: (printL true l (deeper d) ++ (lineL d ++ [93])))
def printL : Bool → List Tree → Int → Str
  | _, [], _ => []
  | f, t :: l, d => (if f = true then [] else [44]) ++ (lineL d ++ (printT t d ++ printL false l d))
def printM : Bool → List (Str × Tree) → Int → Str
  | _, [], _ => []
  | f, p :: m, d => (if f = true then [] else [44]) ++ (lineL d ++ (printP p d ++ printM false m d))
def printP : Str × Tree → Int → Str
  | (k, t), d => quoteS k ++ (colonL d ++ printT t d)
end
theorem printT_eq (t : Tree) (d : Int) : printT t d = if t.kind = 0 then [110, 117, 108, 108] else if t.kind = 1 then (if t.n = 1 then [116, 114, 117, 101] else [102, 97, 108, 115, 101]) else
    if t.kind = 2 then Lib.itoa t.n else if t.kind = 3 then t.s else if t.kind = 4 ∨ t.kind = 7 then quoteS t.s else
    if t.kind = 6 then (if t.m.length = 0 then [123, 125] else 123 :: (printM true t.m (deeper d) ++ (lineL d ++ [125])))
    else (if t.l.length = 0 then [91, 93] else 91 :: (printL true t.l (deeper d) ++ (lineL d ++ [93]))) := by cases t; rw [printT]; rfl
theorem quoteL_len : ∀ (q : Nat) (s : Str), (quoteL q s).length ≤ 10 * s.length
  | 0, s => by simp [quoteL]
  | q + 1, [] => by simp [quoteL]
  | q + 1, c :: cs => by
    rw [quoteL, List.length_append]
    have h1 := quoteL_len q ((c :: cs).drop (stepN (c :: cs)))
    have h2 := quoteU_len ((c :: cs).take (stepN (c :: cs))) (utfTake (c :: cs)).2
    have h3 := stepN_pos (c :: cs)
    have h4 := stepN_le c cs
    rw [List.length_drop] at h1
    rw [List.length_take] at h2
    omega
theorem quoteS_len (s : Str) : (quoteS s).length ≤ 2 + 10 * s.length := by
  unfold quoteS
  have := quoteL_len s.length s
  simp only [List.length_append, List.length_cons, List.length_nil]
  omega
theorem lineL_len (d : Int) (h : d ≤ 8000000) : (lineL d).length ≤ 16000001 := by
  unfold lineL
  split
  · simp
  · rw [List.length_cons, repeat_len]; omega
def PrintB (t : Tree) : Prop := ∀ d : Int, d + t.wt ≤ 8000000 → (-9223372036854775808 ≤ t.n ∧ t.n ≤ 9223372036854775807) → (printT t d).length + 20000000 ≤ t.wt * 60000000
end Go.Am
namespace Go.Am
theorem encP_flat (k : Str) (y : Tree) : Tree.encP (k, y) = .agg [.str k, .int .i64 y.kind, .int .i64 y.n, .str y.s, .lst false (Tree.encL y.l), .lst false (Tree.encM y.m)] := by
  rw [Tree.encP, Tree.enc_eta y]; rfl
theorem ElemZ.pairE {m : List (Str × Tree)} {i : Nat} {K : PV → Prop} {k : Str} {y : Tree} (h : m[i]? = some (k, y))
    (q : K (.agg [.str k, .int .i64 y.kind, .int .i64 y.n, .str y.s, .lst false (Tree.encL y.l), .lst false (Tree.encM y.m)])) : ElemZ (Tree.encM m) i 6 K := ElemZ.pair h (by rw [encP_flat]; exact q)
end Go.Am
namespace Go.Am
mutual
def okT : Tree → Bool
  | .mk _ n _ l m => decide (-9223372036854775808 ≤ n ∧ n ≤ 9223372036854775807) && (okL l && okM m)
def okL : List Tree → Bool
  | [] => true
  | t :: l => okT t && okL l
def okM : List (Str × Tree) → Bool
  | [] => true
  | p :: m => okQ p && okM m
def okQ : Str × Tree → Bool
  | (_, t) => okT t
end
def goodT (t : Tree) : Bool := plainT t && okT t
theorem okT_eq (t : Tree) : okT t = (decide (-9223372036854775808 ≤ t.n ∧ t.n ≤ 9223372036854775807) && (okL t.l && okM t.m)) := by cases t; rw [okT]; rfl
theorem okL_mem : ∀ {l : List Tree}, okL l = true → ∀ x ∈ l, okT x = true
  | [], _, x, hx => by cases hx
  | t :: l, h, x, hx => by
    rw [okL, Bool.and_eq_true] at h
    rcases List.mem_cons.1 hx with rfl | hx
    · exact h.1
    · exact okL_mem h.2 x hx
theorem okM_mem : ∀ {l : List (Str × Tree)}, okM l = true → ∀ x ∈ l, okT x.2 = true
  | [], _, x, hx => by cases hx
  | (k, t) :: l, h, x, hx => by
    rw [okM, okQ, Bool.and_eq_true] at h
    rcases List.mem_cons.1 hx with rfl | hx
    · exact h.1
    · exact okM_mem h.2 x hx
theorem plainL_mem : ∀ {l : List Tree}, plainL l = true → ∀ x ∈ l, plainT x = true
  | [], _, x, hx => by cases hx
  | t :: l, h, x, hx => by
    rw [plainL, Bool.and_eq_true] at h
    rcases List.mem_cons.1 hx with rfl | hx
    · exact h.1
    · exact plainL_mem h.2 x hx
theorem plainM_mem : ∀ {l : List (Str × Tree)} {o : Option Str}, plainM o l = true → ∀ x ∈ l, strOk x.1 = true ∧ plainT x.2 = true
  | [], _, _, x, hx => by cases hx
  | (k, t) :: l, o, h, x, hx => by
    simp only [plainM, plainP, Bool.and_eq_true] at h
    rcases List.mem_cons.1 hx with rfl | hx
    · exact ⟨h.1.1, h.1.2.2⟩
    · exact plainM_mem h.2 x hx
theorem goodT_spec {t : Tree} (h : goodT t = true) : ¬ ownBad t.kind t.n t.s.length t.l.length t.m.length ∧ nodeOk t.kind t.n t.s = true ∧ (-9223372036854775808 ≤ t.n ∧ t.n ≤ 9223372036854775807) ∧
    (∀ x ∈ t.l, goodT x = true) ∧ (∀ x ∈ t.m, strOk x.1 = true ∧ goodT x.2 = true) := by
  unfold goodT at h
  rw [Bool.and_eq_true, plainT_eq, okT_eq, Bool.and_eq_true, Bool.and_eq_true, decide_eq_true_eq] at h
  obtain ⟨h1, h2, h3, h4⟩ := h
  split at h1
  · cases h1
  · rename_i hb
    rw [Bool.and_eq_true, Bool.and_eq_true] at h1
    refine ⟨hb, h1.1, h2, fun x hx => ?_, fun x hx => ?_⟩
    · unfold goodT; rw [plainL_mem h1.2.1 x hx, okL_mem h3 x hx]; rfl
    · have := plainM_mem h1.2.2 x hx
      refine ⟨this.1, ?_⟩
      unfold goodT; rw [this.2, okM_mem h4 x hx]; rfl
theorem strOk_len {s : Str} (h : strOk s = true) : s.length ≤ 4096 := by unfold strOk at h; rw [Bool.and_eq_true, decide_eq_true_eq] at h; exact h.1
theorem stampOk_len {s : Str} (h : stampOk s = true) : s.length ≤ 64 := by unfold stampOk at h; rw [decide_eq_true_eq] at h; exact h.2.1
/-- how long a printed tree is -/
theorem printT_len : ∀ t : Tree, t.wt ≤ 4000000 → ∀ d : Int, -1 ≤ d → goodT t = true → d + t.wt ≤ 8000000 → (printT t d).length + 20000000 ≤ t.wt * 60000000 := by
  refine Tree.indW fun t hw hl hm d hd0 hg hd => ?_
  obtain ⟨hb, hn, hr, hgl, hgm⟩ := goodT_spec hg
  have hwp := t.wt_pos
  have hdd : deeper d ≤ d + 1 ∧ -1 ≤ deeper d := by unfold deeper; split <;> omega
  have hcol : (colonL (deeper d)).length ≤ 2 := by unfold colonL; split <;> simp
  have hL : ∀ (l : List Tree) (f : Bool), (∀ x ∈ l, x ∈ t.l) → (printL f l (deeper d)).length ≤ Tree.wtL l * 60000000 := by
    intro l
    induction l with
    | nil => intro f _; simp [printL]
    | cons x l ih =>
      intro f hx
      have hxm := hx x (by simp)
      have hxw := Tree.wt_l hxm
      have h1 := (hl x hxm).2 (deeper d) hdd.2 (hgl x hxm) (by omega)
      have h2 := ih false (fun y hy => hx y (by simp [hy]))
      have h3 := lineL_len (deeper d) (by have := Tree.wt_pos x; omega)
      have h4 : (if f = true then ([] : Str) else [44]).length ≤ 1 := by split <;> simp
      rw [printL, Tree.wtL]
      simp only [List.length_append]
      omega
  have hM : ∀ (l : List (Str × Tree)) (f : Bool), (∀ x ∈ l, x ∈ t.m) → (printM f l (deeper d)).length ≤ Tree.wtM l * 60000000 := by
    intro l
    induction l with
    | nil => intro f _; simp [printM]
    | cons x l ih =>
      intro f hx
      have hxm := hx x (by simp)
      have hxw := Tree.wt_m hxm
      have h1 := (hm x hxm).2.2 (deeper d) hdd.2 (hgm x hxm).2 (by omega)
      have h2 := ih false (fun y hy => hx y (by simp [hy]))
      have h3 := lineL_len (deeper d) (by have := Tree.wt_pos x.2; omega)
      have h4 : (if f = true then ([] : Str) else [44]).length ≤ 1 := by split <;> simp
      obtain ⟨k, y⟩ := x
      have h5 := quoteS_len k
      rw [printM, printP, Tree.wtM, Tree.wtP]
      simp only [List.length_append] at h1 ⊢
      omega
  have hq := quoteS_len t.s
  have hli := lineL_len d (by omega)
  have hLl := hL t.l true (fun _ h => h)
  have hMm := hM t.m true (fun _ h => h)
  have hit := Lib.itoa_length_le t.n hr.1 hr.2
  have hwe := t.wt_eq
  rw [printT_eq]
  repeat' split
  all_goals (try simp only [List.length_cons, List.length_nil, List.length_append])
  all_goals omega
end Go.Am
namespace Go.Am
theorem itoa_ne (n : Int) : Lib.itoa n ≠ [] := by
  intro h
  by_cases h0 : 0 ≤ n
  · obtain ⟨u, rfl⟩ := Int.eq_ofNat_of_zero_le h0
    by_cases hu : u < 10
    · rw [itoa_small hu] at h; cases h
    · rw [itoa_big hu] at h; simp at h
  · obtain ⟨u, hu⟩ := Int.eq_ofNat_of_zero_le (show 0 ≤ -n by omega)
    rw [show n = -(u : Int) by omega, Lib.itoa_neg u (by omega)] at h
    cases h
theorem numL_ne {s : Str} (h : numL s = true) : s ≠ [] := by
  rintro rfl
  revert h
  decide
theorem printT_ne {t : Tree} (hg : goodT t = true) (d : Int) : printT t d ≠ [] := by
  obtain ⟨hb, hn, hr, hgl, hgm⟩ := goodT_spec hg
  rw [printT_eq]
  unfold nodeOk at hn
  have hq : quoteS t.s ≠ [] := by simp [quoteS]
  repeat' split
  all_goals first | (exact itoa_ne _) | (exact hq) | (simp; done) | skip
  rename_i h3
  rw [if_neg (by omega), if_neg (by omega), if_pos h3, Bool.and_eq_true] at hn
  exact numL_ne hn.1
end Go.Am
end

section
namespace Go.Proofs.YtaoejccgdpppgaaGreatDoor
open Go Go.Am
set_option maxRecDepth 100000
def jO (n : Int) : HO := .var T.value_judge (.p (.agg [.int .i64 n]))
def JudgeIs (t : Tree) : Prop := ∀ d n : Int, 0 ≤ d → d ≤ 33 → 0 ≤ n → n ≤ 4097 →
  AbsCall PP GG F.value_judge_value [.ptr 0 0, .p t.enc, .p (.int .i64 d)] [jO n] ⟨.ret (.p (.bool (judgeT t d n).1)), [jO (judgeT t d n).2], []⟩
theorem own_T (t : Tree) (hw : t.wt ≤ 4000000) : AbsCall PP GG F.value_own [.p t.enc] [] ⟨.ret (.p (.bool (ownT t.kind t.n t.s t.l.length t.m.length))), [], []⟩ := value_own refIntL dec_Int (fun _ _ => rfl) t hw
theorem judge_loopL (t : Tree) (hw : t.wt ≤ 4000000) (d : Int) (hd : 0 ≤ d) (hd2 : d ≤ 32) (R : Bool × Int) (K : Post) (hl : ∀ x ∈ t.l, JudgeIs x)
    (h0 : R.1 = true → K (.exit 0) [(0, .ptr 0 0), (2, .p (.int .i64 d)), (4, .ptr 1 0)] [jO R.2, .var T.api_Value (.p t.enc)] [])
    (hr : R.1 = false → ∀ o : HO, K .ret [(6, .p (.bool false))] [jO R.2, .var T.api_Value (.p t.enc), o] []) :
    ∀ (q i : Nat) (n : Int), i + q = t.l.length → 0 ≤ n → n ≤ 4096 → judgeL (t.l.drop i) (d + 1) n = R →
      LoopW PP GG 84 1 (loopN F.value_judge_value_c 0) [(0, .ptr 0 0), (2, .p (.int .i64 d)), (4, .ptr 1 0), (33, .p (.lst false (Tree.encL t.l))), (34, .p (.int .i64 (Tree.encL t.l).length)), (35, .p (.int .i64 i))] [jO n, .var T.api_Value (.p t.enc)] [] (PostCl 84 K) := by
  rw [Tree.enc_eta t] at h0 hr ⊢
  have hwl := t.wt_ll
  have hlen : (Tree.encL t.l).length = t.l.length := Tree.encL_length _
  intro q
  induction q with
  | zero =>
    intro i n hi hn0 hn1 hR
    rw [List.drop_eq_nil_of_le (by omega), judgeL] at hR
    subst hR
    refine LoopW.round (pol := polG) mixP ?_
    conv => whnf
    repeat' (first
     | ((first | with_reducible refine Br.dec (fun hb => ?_) (fun hb => ?_) | with_reducible refine Br.ndec (fun hb => ?_) (fun hb => ?_)) <;> (try dsimp only at hb) <;> (try simp only [ZZ, hlen] at hb) <;> (first | omega | contradiction | (conv => whnf)))
     | ((first | with_reducible refine Br.tt rfl ?_ | with_reducible refine Br.ff rfl ?_ | with_reducible refine Br.ff (isEmptyCons _ _) ?_); conv => whnf)
     | (refine Side.mk ?_ ?_; (focus (first | omega | (dsimp only [InR]; omega) | (dsimp only [Int.reduceToNat, IntKind.bits, Int.reducePow, InR]; omega) | (simp [PV.cells, PV.leaf, byteP]; done) | (constructor <;> omega))); conv => whnf)
     | (with_reducible refine Br.not ?_)
     | ((first | with_reducible refine Br.tt (by assumption) ?_ | with_reducible refine Br.ff (by assumption) ?_); conv => whnf)
     | (refine Br.mk (fun hb => ?_) (fun hb => ?_) <;> (try dsimp only at hb) <;> (try simp only [ZZ, hlen] at hb) <;> (first | omega | contradiction | (conv => whnf)))
     | ((first | refine Src.whole ⟨rfl, rfl⟩ ?_ | refine FrzV.whole ?_); conv => whnf))
    · refine PostCl.of (h0 rfl) ?_ ?_
      · repeat (first | exact True.intro | refine And.intro (by first | exact VLe.refl _ | fail) ?_)
      · repeat (first | exact True.intro | refine And.intro (by decide) ?_)
  | succ q ih =>
    intro i n hi hn0 hn1 hR
    obtain ⟨x, hx⟩ : ∃ x, t.l[i]? = some x := ⟨_, List.getElem?_eq_getElem (show i < t.l.length by omega)⟩
    rw [drop_cons hx, judgeL_cons] at hR
    have hxm : x ∈ t.l := List.mem_of_getElem? hx
    have hsp := hl x hxm (d + 1) n (by omega) (by omega) hn0 (by omega)
    have hbd := judge_bound x (d + 1) n hn0 (by omega)
    have hec := Tree.enc_cells x
    have hea := Tree.enc_isAgg x
    rw [Tree.enc_eta x] at hsp
    refine LoopW.round (pol := polG) mixP ?_
    conv => whnf
    repeat' (first
     | ((first | with_reducible refine Br.dec (fun hb => ?_) (fun hb => ?_) | with_reducible refine Br.ndec (fun hb => ?_) (fun hb => ?_)) <;> (try dsimp only at hb) <;> (try simp only [ZZ, hlen] at hb) <;> (first | omega | contradiction | (conv => whnf)))
     | ((first | with_reducible refine Br.tt rfl ?_ | with_reducible refine Br.ff rfl ?_ | with_reducible refine Br.ff (isEmptyCons _ _) ?_); conv => whnf)
     | (refine Side.mk ?_ ?_; (focus (first | omega | (dsimp only [InR]; omega) | (dsimp only [Int.reduceToNat, IntKind.bits, Int.reducePow, InR]; omega) | exact ⟨rfl, rfl⟩ | (simp [PV.cells, PV.leaf, byteP]; done) | (constructor <;> omega))); conv => whnf)
     | (with_reducible refine Br.not ?_)
     | ((first | with_reducible refine Br.tt (by assumption) ?_ | with_reducible refine Br.ff (by assumption) ?_); conv => whnf)
     | (refine Br.mk (fun hb => ?_) (fun hb => ?_) <;> (try dsimp only at hb) <;> (try simp only [ZZ, hlen] at hb) <;> (first | omega | contradiction | (conv => whnf)))
     | ((first | refine Src.whole ⟨rfl, rfl⟩ ?_ | refine FrzV.whole ?_); conv => whnf)
     | ((first | refine CallW.use (hsp) ?_); conv => whnf)
     | (refine ElemZ.tree (by simpa using hx) ?_; (rw [Tree.enc_eta x]; conv => whnf)))
    · rw [if_neg (by rw [hb]; simp)] at hR
      refine LoopW.ren [0, 1] (ih (i + 1) (judgeT x (d + 1) n).2 (by omega) (by omega) (hbd.2.2 hb) hR) (by repeat (first | exact True.intro | refine And.intro (And.intro (by first | rfl | fail) (by first | exact VLe.refl _ | fail)) ?_)) (by repeat (first | exact True.intro | refine And.intro (by decide) ?_)) (by rfl) (by rfl)
    · rw [if_pos hb] at hR
      subst hR
      refine PostCl.of (hr rfl _) ?_ ?_
      · repeat (first | exact True.intro | refine And.intro (by first | exact VLe.refl _ | fail) ?_)
      · repeat (first | exact True.intro | refine And.intro (by decide) ?_)
theorem letters_ok (s : Str) : ∃ e : Int, (if (utfValid s).2 = false then (3 : Int) else if 4096 < s.length then 2 else 0) = e ∧ (strOk s = true → e = 0) ∧ (strOk s = false → e ≠ 0) := by
  refine ⟨_, rfl, ?_, ?_⟩
  all_goals
    unfold strOk
    cases (utfValid s).2 with
    | false => simp
    | true =>
      rw [if_neg (by simp), Bool.and_true]
      intro h
      split <;> simp_all <;> omega
theorem judge_loopM (t : Tree) (hw : t.wt ≤ 4000000) (d : Int) (hd : 0 ≤ d) (hd2 : d ≤ 32) (R : Bool × Int) (K : Post) (hl : ∀ x ∈ t.m, JudgeIs x.2)
    (h0 : R.1 = true → K (.exit 2) [] [jO R.2, .var T.api_Value (.p t.enc)] [])
    (hr : R.1 = false → ∀ o : HO, K .ret [(6, .p (.bool false))] [jO R.2, .var T.api_Value (.p t.enc), o] []) :
    ∀ (q i : Nat) (n : Int) (o : Option Str), i + q = t.m.length → 0 ≤ n → n ≤ 4096 → judgeM o (t.m.drop i) (d + 1) n = R → (i = 0 → o = none) → (0 < i → ∃ p, t.m[i - 1]? = some p ∧ o = some p.1) →
      LoopW PP GG 84 1 (loopN F.value_judge_value_c 1) [(0, .ptr 0 0), (2, .p (.int .i64 d)), (4, .ptr 1 0), (47, .p (.lst false (Tree.encM t.m))), (48, .p (.int .i64 (Tree.encM t.m).length)), (49, .p (.int .i64 i))] [jO n, .var T.api_Value (.p t.enc)] [] (PostCl 84 K) := by
  rw [Tree.enc_eta t] at h0 hr ⊢
  have hwl := t.wt_ml
  have hlen : (Tree.encM t.m).length = t.m.length := Tree.encM_length _
  intro q
  induction q with
  | zero =>
    intro i n o hi hn0 hn1 hR ho1 ho2
    rw [List.drop_eq_nil_of_le (by omega), judgeM] at hR
    subst hR
    refine LoopW.round (pol := polG) mixP ?_
    conv => whnf
    repeat' (first
     | ((first | with_reducible refine Br.dec (fun hb => ?_) (fun hb => ?_) | with_reducible refine Br.ndec (fun hb => ?_) (fun hb => ?_)) <;> (try dsimp only at hb) <;> (try simp only [ZZ, hlen] at hb) <;> (first | omega | contradiction | (conv => whnf)))
     | ((first | with_reducible refine Br.tt rfl ?_ | with_reducible refine Br.ff rfl ?_ | with_reducible refine Br.ff (isEmptyCons _ _) ?_); conv => whnf)
     | (refine Side.mk ?_ ?_; (focus (first | omega | (dsimp only [InR]; omega) | (dsimp only [Int.reduceToNat, IntKind.bits, Int.reducePow, InR]; omega) | (simp [PV.cells, PV.leaf, byteP]; done) | (constructor <;> omega))); conv => whnf)
     | (with_reducible refine Br.not ?_)
     | ((first | with_reducible refine Br.tt (by assumption) ?_ | with_reducible refine Br.ff (by assumption) ?_); conv => whnf)
     | (refine Br.mk (fun hb => ?_) (fun hb => ?_) <;> (try dsimp only at hb) <;> (try simp only [ZZ, hlen] at hb) <;> (first | omega | contradiction | (conv => whnf)))
     | ((first | refine Src.whole ⟨rfl, rfl⟩ ?_ | refine FrzV.whole ?_); conv => whnf))
    · refine PostCl.of (h0 rfl) ?_ ?_
      · repeat (first | exact True.intro | refine And.intro (by first | exact VLe.refl _ | fail) ?_)
      · repeat (first | exact True.intro | refine And.intro (by decide) ?_)
  | succ q ih =>
    intro i n o hi hn0 hn1 hR ho1 ho2
    obtain ⟨x, hx⟩ : ∃ x, t.m[i]? = some x := ⟨_, List.getElem?_eq_getElem (show i < t.m.length by omega)⟩
    have hxm : x ∈ t.m := List.mem_of_getElem? hx
    have hsp := hl x hxm (d + 1) n (by omega) (by omega) hn0 (by omega)
    have hxw := Tree.wt_m hxm
    obtain ⟨k, y⟩ := x
    simp only [] at hxw hsp
    have hbd := judge_bound y (d + 1) n hn0 (by omega)
    rw [drop_cons hx, judgeM_cons] at hR
    have hst := value_letters k (by omega)
    obtain ⟨e, he, he1, he2⟩ := letters_ok k
    rw [he] at hst
    rw [Tree.enc_eta y] at hsp
    have next : ∀ n', 0 ≤ n' → n' ≤ 4096 → judgeM (some k) (t.m.drop (i + 1)) (d + 1) n' = R → LoopW PP GG 84 1 (loopN F.value_judge_value_c 1) [(0, .ptr 0 0), (2, .p (.int .i64 d)), (4, .ptr 1 0), (47, .p (.lst false (Tree.encM t.m))), (48, .p (.int .i64 (Tree.encM t.m).length)), (49, .p (.int .i64 (i + 1)))] [jO n', .var T.api_Value (.p (.agg [.int .i64 t.kind, .int .i64 t.n, .str t.s, .lst false (Tree.encL t.l), .lst false (Tree.encM t.m)]))] [] (PostCl 84 K) := by
      intro n' h1 h2 h
      exact ih (i + 1) n' (some k) (by omega) h1 h2 h (by omega) (fun _ => ⟨(k, y), by simpa using hx, rfl⟩)
    have bad : ∀ {l : Bool}, e ≠ 0 → (if l = true ∨ strOk k = false then (false, n) else if (judgeT y (d + 1) n).1 = false then (false, (judgeT y (d + 1) n).2) else judgeM (some k) (t.m.drop (i + 1)) (d + 1) (judgeT y (d + 1) n).2) = R → R = (false, n) := by
      intro l h1 h2
      rw [if_pos (Or.inr (by cases hk : strOk k with
        | false => rfl
        | true => exact absurd (he1 hk) h1))] at h2
      exact h2.symm
    have fine : ∀ {l : Bool}, l = false → e = 0 → (if l = true ∨ strOk k = false then (false, n) else if (judgeT y (d + 1) n).1 = false then (false, (judgeT y (d + 1) n).2) else judgeM (some k) (t.m.drop (i + 1)) (d + 1) (judgeT y (d + 1) n).2) = R →
        ((judgeT y (d + 1) n).1 = false → R = (false, (judgeT y (d + 1) n).2)) ∧ ((judgeT y (d + 1) n).1 = true → judgeM (some k) (t.m.drop (i + 1)) (d + 1) (judgeT y (d + 1) n).2 = R) := by
      rintro l rfl h1 h2
      have hk : strOk k = true := by
        cases hk : strOk k with
        | true => rfl
        | false => exact absurd h1 (he2 hk)
      rw [if_neg (by simp [hk])] at h2
      refine ⟨fun h => ?_, fun h => ?_⟩
      · rw [if_pos h] at h2; exact h2.symm
      · rw [if_neg (by simp [h])] at h2; exact h2
    by_cases hi0 : i = 0
    · obtain rfl := ho1 hi0
      subst hi0
      refine LoopW.round (pol := polG) mixP ?_
      conv => whnf
      repeat' (first
       | ((first | with_reducible refine Br.dec (fun hb => ?_) (fun hb => ?_) | with_reducible refine Br.ndec (fun hb => ?_) (fun hb => ?_)) <;> (try dsimp only at hb) <;> (try simp only [ZZ, hlen] at hb) <;> (first | omega | contradiction | (conv => whnf)))
       | ((first | with_reducible refine Br.tt rfl ?_ | with_reducible refine Br.ff rfl ?_ | with_reducible refine Br.ff (isEmptyCons _ _) ?_); conv => whnf)
       | (refine Side.mk ?_ ?_; (focus (first | omega | (dsimp only [InR]; omega) | (dsimp only [Int.reduceToNat, IntKind.bits, Int.reducePow, InR]; omega) | exact ⟨rfl, rfl⟩ | (simp [PV.cells, PV.leaf, byteP]; done) | (constructor <;> omega))); conv => whnf)
       | (with_reducible refine Br.not ?_)
       | ((first | with_reducible refine Br.tt (by assumption) ?_ | with_reducible refine Br.ff (by assumption) ?_); conv => whnf)
       | (refine Br.mk (fun hb => ?_) (fun hb => ?_) <;> (try dsimp only at hb) <;> (try simp only [ZZ, hlen] at hb) <;> (first | omega | contradiction | (conv => whnf)))
       | ((first | refine Src.whole ⟨rfl, rfl⟩ ?_ | refine FrzV.whole ?_); conv => whnf)
       | ((first | refine CallW.use (hsp) ?_ | refine CallW.use (hst) ?_); conv => whnf)
       | (refine TabsW.lit F.value_judge_value_t13 (by kernel_rfl) ?_; conv => whnf)
       | (refine ElemZ.pairE (k := k) (y := y) (by exact hx) ?_; conv => whnf))
      · obtain rfl := bad hb hR
        refine PostCl.of (hr rfl _) ?_ ?_
        · repeat (first | exact True.intro | refine And.intro (by first | exact VLe.refl _ | fail) ?_)
        · repeat (first | exact True.intro | refine And.intro (by decide) ?_)
      · refine LoopW.ren [0, 1] (next _ (by omega) (hbd.2.2 hb) ((fine rfl (by assumption) hR).2 hb)) (by repeat (first | exact True.intro | refine And.intro (And.intro (by first | rfl | fail) (by first | exact VLe.refl _ | fail)) ?_)) (by repeat (first | exact True.intro | refine And.intro (by decide) ?_)) (by rfl) (by rfl)
      · obtain rfl := (fine rfl (by assumption) hR).1 hb
        refine PostCl.of (hr rfl _) ?_ ?_
        · repeat (first | exact True.intro | refine And.intro (by first | exact VLe.refl _ | fail) ?_)
        · repeat (first | exact True.intro | refine And.intro (by decide) ?_)
    · obtain ⟨⟨k', y'⟩, hp, rfl⟩ := ho2 (by omega)
      have hp : t.m[((i : Int) - 1).toNat]? = some (k', y') := by rw [show ((i : Int) - 1).toNat = i - 1 by omega]; exact hp
      simp only [] at hR
      cases hq : leqS k k' with
      | true =>
        rw [if_pos (Or.inl hq)] at hR
        subst hR
        unfold leqS at hq
        refine LoopW.round (pol := polG) mixP ?_
        conv => whnf
        repeat' (first
         | ((first | with_reducible refine Br.dec (fun hb => ?_) (fun hb => ?_) | with_reducible refine Br.ndec (fun hb => ?_) (fun hb => ?_)) <;> (try dsimp only at hb) <;> (try simp only [ZZ, hlen] at hb) <;> (first | omega | contradiction | (conv => whnf)))
         | ((first | with_reducible refine Br.tt rfl ?_ | with_reducible refine Br.ff rfl ?_ | with_reducible refine Br.ff (isEmptyCons _ _) ?_); conv => whnf)
         | (refine Side.mk ?_ ?_; (focus (first | omega | (dsimp only [InR]; omega) | (dsimp only [Int.reduceToNat, IntKind.bits, Int.reducePow, InR]; omega) | exact ⟨rfl, rfl⟩ | (simp [PV.cells, PV.leaf, byteP]; done) | (constructor <;> omega))); conv => whnf)
         | (with_reducible refine Br.not ?_)
         | ((first | with_reducible refine Br.tt (by assumption) ?_ | with_reducible refine Br.ff (by assumption) ?_); conv => whnf)
         | (refine Br.mk (fun hb => ?_) (fun hb => ?_) <;> (try dsimp only at hb) <;> (try simp only [ZZ, hlen] at hb) <;> (first | omega | contradiction | (conv => whnf)))
         | ((first | refine Src.whole ⟨rfl, rfl⟩ ?_ | refine FrzV.whole ?_); conv => whnf)
         | ((first | refine CallW.use (hsp) ?_ | refine CallW.use (hst) ?_); conv => whnf)
         | (refine TabsW.lit F.value_judge_value_t13 (by kernel_rfl) ?_; conv => whnf)
         | (refine ElemZ.pairE (k := k) (y := y) (by simpa using hx) ?_; conv => whnf)
         | (refine ElemZ.pairE (k := k') (y := y') hp ?_; conv => whnf))
        refine PostCl.of (hr rfl _) ?_ ?_
        · repeat (first | exact True.intro | refine And.intro (by first | exact VLe.refl _ | fail) ?_)
        · repeat (first | exact True.intro | refine And.intro (by decide) ?_)
      | false =>
        have hq0 := hq
        unfold leqS at hq
        refine LoopW.round (pol := polG) mixP ?_
        conv => whnf
        repeat' (first
         | ((first | with_reducible refine Br.dec (fun hb => ?_) (fun hb => ?_) | with_reducible refine Br.ndec (fun hb => ?_) (fun hb => ?_)) <;> (try dsimp only at hb) <;> (try simp only [ZZ, hlen] at hb) <;> (first | omega | contradiction | (conv => whnf)))
         | ((first | with_reducible refine Br.tt rfl ?_ | with_reducible refine Br.ff rfl ?_ | with_reducible refine Br.ff (isEmptyCons _ _) ?_); conv => whnf)
         | (refine Side.mk ?_ ?_; (focus (first | omega | (dsimp only [InR]; omega) | (dsimp only [Int.reduceToNat, IntKind.bits, Int.reducePow, InR]; omega) | exact ⟨rfl, rfl⟩ | (simp [PV.cells, PV.leaf, byteP]; done) | (constructor <;> omega))); conv => whnf)
         | (with_reducible refine Br.not ?_)
         | ((first | with_reducible refine Br.tt (by assumption) ?_ | with_reducible refine Br.ff (by assumption) ?_); conv => whnf)
         | (refine Br.mk (fun hb => ?_) (fun hb => ?_) <;> (try dsimp only at hb) <;> (try simp only [ZZ, hlen] at hb) <;> (first | omega | contradiction | (conv => whnf)))
         | ((first | refine Src.whole ⟨rfl, rfl⟩ ?_ | refine FrzV.whole ?_); conv => whnf)
         | ((first | refine CallW.use (hsp) ?_ | refine CallW.use (hst) ?_); conv => whnf)
         | (refine TabsW.lit F.value_judge_value_t13 (by kernel_rfl) ?_; conv => whnf)
         | (refine ElemZ.pairE (k := k) (y := y) (by simpa using hx) ?_; conv => whnf)
         | (refine ElemZ.pairE (k := k') (y := y') hp ?_; conv => whnf))
        · obtain rfl := bad hb hR
          refine PostCl.of (hr rfl _) ?_ ?_
          · repeat (first | exact True.intro | refine And.intro (by first | exact VLe.refl _ | fail) ?_)
          · repeat (first | exact True.intro | refine And.intro (by decide) ?_)
        · refine LoopW.ren [0, 1] (next _ (by omega) (hbd.2.2 hb) ((fine hq0 (by assumption) hR).2 hb)) (by repeat (first | exact True.intro | refine And.intro (And.intro (by first | rfl | fail) (by first | exact VLe.refl _ | fail)) ?_)) (by repeat (first | exact True.intro | refine And.intro (by decide) ?_)) (by rfl) (by rfl)
        · obtain rfl := (fine hq0 (by assumption) hR).1 hb
          refine PostCl.of (hr rfl _) ?_ ?_
          · repeat (first | exact True.intro | refine And.intro (by first | exact VLe.refl _ | fail) ?_)
          · repeat (first | exact True.intro | refine And.intro (by decide) ?_)
theorem judge_4 (t : Tree) (hw : t.wt ≤ 4000000) (hl : ∀ x ∈ t.l, JudgeIs x) (hm : ∀ x ∈ t.m, JudgeIs x.2) (d n : Int) (hd : 0 ≤ d) (hd2 : d ≤ 32) (hn : 0 ≤ n) (hn2 : n ≤ 4096) (R : Bool × Int) (K : Post)
    (hR : (if (judgeL t.l (d + 1) n).1 = false then (false, (judgeL t.l (d + 1) n).2) else judgeM none t.m (d + 1) (judgeL t.l (d + 1) n).2) = R)
    (hL : (judgeL t.l (d + 1) n).1 = true → 0 ≤ (judgeL t.l (d + 1) n).2 ∧ (judgeL t.l (d + 1) n).2 ≤ 4096)
    (h0 : R.1 = true → K .ret [(6, .p (.bool true))] [jO R.2, .var T.api_Value (.p t.enc)] [])
    (hr : R.1 = false → ∀ o : HO, K .ret [(6, .p (.bool false))] [jO R.2, .var T.api_Value (.p t.enc), o] []) :
    CutW PP GG 84 1 (tailN F.value_judge_value_c 4) [(0, .ptr 0 0), (2, .p (.int .i64 d)), (4, .ptr 1 0)] [jO n, .var T.api_Value (.p t.enc)] [] (PostCl 84 K) := by
  have hlL := judge_loopL t hw d hd hd2
  have hlM := judge_loopM t hw d hd hd2
  rw [Tree.enc_eta t] at h0 hr hlL hlM ⊢
  refine CutW.go (pol := polC []) mixP ?_
  conv => whnf
  repeat' (first
   | ((first | with_reducible refine Br.dec (fun hb => ?_) (fun hb => ?_) | with_reducible refine Br.ndec (fun hb => ?_) (fun hb => ?_)) <;> (try dsimp only at hb) <;> (try simp only [ZZ] at hb) <;> (first | omega | contradiction | (conv => whnf)))
   | ((first | with_reducible refine Br.tt rfl ?_ | with_reducible refine Br.ff rfl ?_ | with_reducible refine Br.ff (isEmptyCons _ _) ?_); conv => whnf)
   | (refine Side.mk ?_ ?_; (focus (first | omega | (dsimp only [InR]; omega) | (dsimp only [Int.reduceToNat, IntKind.bits, Int.reducePow, InR]; omega) | (simp [PV.cells, PV.leaf, byteP]; done) | (constructor <;> omega))); conv => whnf)
   | (with_reducible refine Br.not ?_)
   | ((first | with_reducible refine Br.tt (by assumption) ?_ | with_reducible refine Br.ff (by assumption) ?_); conv => whnf)
   | (refine Br.mk (fun hb => ?_) (fun hb => ?_) <;> (try dsimp only at hb) <;> (try simp only [ZZ] at hb) <;> (first | omega | contradiction | (conv => whnf)))
   | ((first | refine Src.whole ⟨rfl, rfl⟩ ?_ | refine FrzV.whole ?_); conv => whnf))
  refine LoopW.cl ?_
  refine LoopW.sub (hlL (judgeL t.l (d + 1) n) _ hl (fun h => ?_) (fun h o => ?_) t.l.length 0 n (by omega) hn hn2 rfl) (by repeat (first | exact True.intro | refine And.intro (by first | exact VLe.refl _ | fail) ?_)) (by repeat (first | exact True.intro | refine And.intro (by decide) ?_))
  · conv => whnf
    rw [if_neg (by rw [h]; simp)] at hR
    repeat' (first
     | ((first | with_reducible refine Br.dec (fun hb => ?_) (fun hb => ?_) | with_reducible refine Br.ndec (fun hb => ?_) (fun hb => ?_)) <;> (try dsimp only at hb) <;> (try simp only [ZZ] at hb) <;> (first | omega | contradiction | (conv => whnf)))
     | ((first | with_reducible refine Br.tt rfl ?_ | with_reducible refine Br.ff rfl ?_ | with_reducible refine Br.ff (isEmptyCons _ _) ?_); conv => whnf)
     | (refine Side.mk ?_ ?_; (focus (first | omega | (dsimp only [InR]; omega) | (dsimp only [Int.reduceToNat, IntKind.bits, Int.reducePow, InR]; omega) | (simp [PV.cells, PV.leaf, byteP]; done) | (constructor <;> omega))); conv => whnf)
     | (with_reducible refine Br.not ?_)
     | ((first | with_reducible refine Br.tt (by assumption) ?_ | with_reducible refine Br.ff (by assumption) ?_); conv => whnf)
     | (refine Br.mk (fun hb => ?_) (fun hb => ?_) <;> (try dsimp only at hb) <;> (try simp only [ZZ] at hb) <;> (first | omega | contradiction | (conv => whnf)))
     | ((first | refine Src.whole ⟨rfl, rfl⟩ ?_ | refine FrzV.whole ?_); conv => whnf))
    refine LoopW.cl ?_
    refine LoopW.sub (hlM R _ hm (fun h => ?_) (fun h o => ?_) t.m.length 0 _ none (by omega) (hL h).1 (hL h).2 hR (fun _ => rfl) (by omega)) (by repeat (first | exact True.intro | refine And.intro (by first | exact VLe.refl _ | fail) ?_)) (by repeat (first | exact True.intro | refine And.intro (by decide) ?_))
    · conv => whnf
      refine PostCl.of (h0 h) ?_ ?_
      · repeat (first | exact True.intro | refine And.intro (by first | exact VLe.refl _ | fail) ?_)
      · repeat (first | exact True.intro | refine And.intro (by decide) ?_)
    · conv => whnf
      refine PostCl.of (hr h o) ?_ ?_
      · repeat (first | exact True.intro | refine And.intro (by first | exact VLe.refl _ | fail) ?_)
      · repeat (first | exact True.intro | refine And.intro (by decide) ?_)
  · conv => whnf
    rw [if_pos h] at hR
    subst hR
    refine PostCl.of (hr rfl o) ?_ ?_
    · repeat (first | exact True.intro | refine And.intro (by first | exact VLe.refl _ | fail) ?_)
    · repeat (first | exact True.intro | refine And.intro (by decide) ?_)
theorem judge_value : ∀ t : Tree, t.wt ≤ 4000000 → JudgeIs t := by
  refine Tree.indW fun t hw hl hm d n hd hd2 hn hn2 => ?_
  have ho := own_T t hw
  have hJ := judgeT_eq t d n
  have h4 := judge_4 t hw (fun x hx => (hl x hx).2) (fun x hx => (hm x hx).2.2) d (n + 1) hd
  have hLb : n + 1 ≤ 4096 → (judgeL t.l (d + 1) (n + 1)).1 = true → 0 ≤ (judgeL t.l (d + 1) (n + 1)).2 ∧ (judgeL t.l (d + 1) (n + 1)).2 ≤ 4096 := fun h => judgeL_bound t.l (d + 1) (n + 1) (by omega) h
  generalize judgeT t d n = R at hJ ⊢
  rw [Tree.enc_eta t] at ho h4 ⊢
  refine absCall_of (pol := polC [4]) mixP F.value_judge_value_is ?_
  conv => whnf
  repeat' (first
   | ((first | with_reducible refine Br.dec (fun hb => ?_) (fun hb => ?_) | with_reducible refine Br.ndec (fun hb => ?_) (fun hb => ?_)) <;> (try dsimp only at hb) <;> (try simp only [ZZ] at hb) <;> (first | omega | contradiction | (conv => whnf)))
   | ((first | with_reducible refine Br.tt rfl ?_ | with_reducible refine Br.ff rfl ?_ | with_reducible refine Br.ff (isEmptyCons _ _) ?_); conv => whnf)
   | (refine Side.mk ?_ ?_; (focus (first | omega | (dsimp only [InR]; omega) | (dsimp only [Int.reduceToNat, IntKind.bits, Int.reducePow, InR]; omega) | (simp [PV.cells, PV.leaf, byteP]; done) | (constructor <;> omega))); conv => whnf)
   | (with_reducible refine Br.not ?_)
   | ((first | with_reducible refine Br.tt (by assumption) ?_ | with_reducible refine Br.ff (by assumption) ?_); conv => whnf)
   | (refine Br.mk (fun hb => ?_) (fun hb => ?_) <;> (try dsimp only at hb) <;> (try simp only [ZZ] at hb) <;> (first | omega | contradiction | (conv => whnf)))
   | ((first | refine Src.whole ⟨rfl, rfl⟩ ?_ | refine FrzV.whole ?_); conv => whnf)
   | ((first | refine CallW.use (ho) ?_); conv => whnf))
  · rw [if_pos (Or.inl (by omega))] at hJ
    subst hJ
    exact CLe.eq rfl
  · rw [if_pos (Or.inr (Or.inl (by omega)))] at hJ
    subst hJ
    exact CLe.eq rfl
  · rw [if_neg (by simp only [not_or]; exact ⟨by omega, by omega, by simp [hb]⟩)] at hJ
    refine CutW.cl ?_
    refine CutW.sub (h4 (by omega) (by omega) (by omega) R _ hJ.symm (hLb (by omega)) (fun h => ?_) (fun h o => ?_)) (by repeat (first | exact True.intro | refine And.intro (by first | exact VLe.refl _ | fail) ?_)) (by repeat (first | exact True.intro | refine And.intro (by decide) ?_))
    · conv => whnf
      exact CLe.eq (by rw [h]; rfl)
    · conv => whnf
      exact CLe.eq (by rw [h]; rfl)
  · rw [if_pos (Or.inr (Or.inr (by simp [hb])))] at hJ
    subst hJ
    exact CLe.eq rfl
theorem value_Good (t : Tree) (hw : t.wt ≤ 4000000) : AbsCall PP GG F.value_Good [.p t.enc] [] ⟨.ret (.p (.bool (judgeT t 1 0).1)), [], []⟩ := by
  have hj := judge_value t hw 1 0 (by omega) (by omega) (by omega) (by omega)
  rw [Tree.enc_eta t] at hj ⊢
  refine absCall_of (pol := polG) mixP F.value_Good_is ?_
  conv => whnf
  repeat' (first
   | ((first | with_reducible refine Br.dec (fun hb => ?_) (fun hb => ?_) | with_reducible refine Br.ndec (fun hb => ?_) (fun hb => ?_)) <;> (try dsimp only at hb) <;> (try simp only [ZZ] at hb) <;> (first | omega | contradiction | (conv => whnf)))
   | ((first | with_reducible refine Br.tt rfl ?_ | with_reducible refine Br.ff rfl ?_ | with_reducible refine Br.ff (isEmptyCons _ _) ?_); conv => whnf)
   | (refine Side.mk ?_ ?_; (focus (first | omega | (dsimp only [InR]; omega) | (dsimp only [Int.reduceToNat, IntKind.bits, Int.reducePow, InR]; omega) | (simp [PV.cells, PV.leaf, byteP]; done) | (constructor <;> omega))); conv => whnf)
   | (with_reducible refine Br.not ?_)
   | ((first | with_reducible refine Br.tt (by assumption) ?_ | with_reducible refine Br.ff (by assumption) ?_); conv => whnf)
   | (refine Br.mk (fun hb => ?_) (fun hb => ?_) <;> (try dsimp only at hb) <;> (try simp only [ZZ] at hb) <;> (first | omega | contradiction | (conv => whnf)))
   | ((first | refine Src.whole ⟨rfl, rfl⟩ ?_ | refine FrzV.whole ?_); conv => whnf)
   | ((first | refine CallW.use (hj) ?_); conv => whnf))
  exact CLe.eq rfl
end Go.Proofs.YtaoejccgdpppgaaGreatDoor
end

section
namespace Go.Proofs.YtaoejccgdpppgaaGreatDoor
open Go Go.Am
set_option maxRecDepth 100000
/-- the printer's memory: nothing written yet, or these bytes -/
def prO (broad : Bool) : Option Str → List HO
  | none => [.var T.jprint_printer (.p (.agg [.nilptr, .nils, .bool broad]))]
  | some acc => [.var T.jprint_printer (.agg [.ptr 0 0, .sl 1 0 (acc.map byteP).length, .p (.bool broad)]), .arr T.uint8 1 (acc.map byteP)]
theorem copyCheck_new (b : Bool) : AbsCall PP GG F.strings_Builder_copyCheck [.ptr 0 0] [.var T.jprint_printer (.p (.agg [.nilptr, .nils, .bool b]))] ⟨.ret (.tup []), [.var T.jprint_printer (.agg [.ptr 0 0, .p .nils, .p (.bool b)])], []⟩ := by
  refine absCall_of (pol := polG) mixP F.strings_Builder_copyCheck_is ?_
  conv => whnf
  repeat' (first
   | ((first | with_reducible refine Br.dec (fun hb => ?_) (fun hb => ?_) | with_reducible refine Br.ndec (fun hb => ?_) (fun hb => ?_)) <;> (try dsimp only at hb) <;> (try simp only [ZZ] at hb) <;> (first | omega | (conv => whnf)))
   | ((first | with_reducible refine Br.tt rfl ?_ | with_reducible refine Br.ff rfl ?_ | with_reducible refine Br.ff (isEmptyCons _ _) ?_); conv => whnf)
   | (refine Side.mk ?_ ?_; (focus (first | omega | (dsimp only [InR]; omega) | (dsimp only [Int.reduceToNat, IntKind.bits, Int.reducePow, InR]; omega) | kernel_rfl | (simp [PV.cells, PV.leaf, byteP]; done) | (constructor <;> omega))); conv => whnf)
   | (refine Br.mk (fun hb => ?_) (fun hb => ?_) <;> (try dsimp only at hb) <;> (try simp only [ZZ] at hb) <;> (first | omega | (conv => whnf)))
   | ((first | refine Src.whole ⟨rfl, rfl⟩ ?_ | refine FrzV.whole ?_); conv => whnf)
   | ((first | refine CallW.use (abi_NoEscape _ _) ?_); conv => whnf))
  exact CLe.eq rfl
theorem copyCheck_old (b : Bool) (acc : Str) : AbsCall PP GG F.strings_Builder_copyCheck [.ptr 0 0] (prO b (some acc)) ⟨.ret (.tup []), prO b (some acc), []⟩ := by
  refine absCall_of (pol := polG) mixP F.strings_Builder_copyCheck_is ?_
  conv => whnf
  repeat' (first
   | ((first | with_reducible refine Br.dec (fun hb => ?_) (fun hb => ?_) | with_reducible refine Br.ndec (fun hb => ?_) (fun hb => ?_)) <;> (try dsimp only at hb) <;> (try simp only [ZZ] at hb) <;> (first | omega | (conv => whnf)))
   | ((first | with_reducible refine Br.tt rfl ?_ | with_reducible refine Br.ff rfl ?_ | with_reducible refine Br.ff (isEmptyCons _ _) ?_); conv => whnf)
   | (refine Side.mk ?_ ?_; (focus (first | omega | (dsimp only [InR]; omega) | (dsimp only [Int.reduceToNat, IntKind.bits, Int.reducePow, InR]; omega) | (simp [PV.cells, PV.leaf, byteP]; done) | (constructor <;> omega))); conv => whnf)
   | (refine Br.mk (fun hb => ?_) (fun hb => ?_) <;> (try dsimp only at hb) <;> (try simp only [ZZ] at hb) <;> (first | omega | (conv => whnf)))
   | ((first | refine Src.whole ⟨rfl, rfl⟩ ?_ | refine FrzV.whole ?_); conv => whnf))
  exact CLe.eq rfl
theorem byteP_cells (s : Str) : ∀ y ∈ s.map byteP, y.cells.length = 1 := by
  intro y hy
  obtain ⟨b, _, rfl⟩ := List.mem_map.1 hy
  rfl
theorem WriteString_new (b : Bool) (s : Str) (hs : s ≠ []) (hl : s.length ≤ 140737488355328) : AbsCall PP GG F.strings_Builder_WriteString [.ptr 0 0, .p (.str s)] (prO b none) ⟨.ret (.tup [.p (.int .i64 s.length), .p .nili]), prO b (some s), []⟩ := by
  have hml : (s.map byteP).length = s.length := by simp
  refine absCall_of (pol := polG) mixP F.strings_Builder_WriteString_is ?_
  conv => whnf
  repeat' (first
   | ((first | with_reducible refine Br.dec (fun hb => ?_) (fun hb => ?_) | with_reducible refine Br.ndec (fun hb => ?_) (fun hb => ?_)) <;> (try dsimp only at hb) <;> (try simp only [ZZ] at hb) <;> (first | omega | (conv => whnf)))
   | ((first | with_reducible refine Br.tt rfl ?_ | with_reducible refine Br.ff rfl ?_ | with_reducible refine Br.ff (isEmptyCons _ _) ?_); conv => whnf)
   | (refine Side.mk ?_ ?_; (focus (first | omega | (dsimp only [InR]; omega) | (dsimp only [Int.reduceToNat, IntKind.bits, Int.reducePow, InR]; omega) | exact ⟨byteP_cells s, by omega⟩ | (simp [PV.cells, PV.leaf, byteP]; done) | (constructor <;> omega))); conv => whnf)
   | (refine Br.mk (fun hb => ?_) (fun hb => ?_) <;> (try dsimp only at hb) <;> (try simp only [ZZ] at hb) <;> (first | omega | (conv => whnf)))
   | ((first | refine Src.whole ⟨rfl, rfl⟩ ?_ | refine FrzV.whole ?_); conv => whnf)
   | ((first | refine CallW.use (copyCheck_new b) ?_); conv => whnf))
  · exact absurd (by simpa using hb) hs
  · exact CLe.eq rfl
theorem WriteString_old (b : Bool) (acc s : Str) (hl : acc.length + s.length ≤ 140737488355328) : AbsCall PP GG F.strings_Builder_WriteString [.ptr 0 0, .p (.str s)] (prO b (some acc)) ⟨.ret (.tup [.p (.int .i64 s.length), .p .nili]), prO b (some (acc ++ s)), [1]⟩ := by
  have hml : (s.map byteP).length = s.length := by simp
  have hma : (acc.map byteP).length = acc.length := by simp
  refine absCall_of (pol := polG) mixP F.strings_Builder_WriteString_is ?_
  conv => whnf
  repeat' (first
   | ((first | with_reducible refine Br.dec (fun hb => ?_) (fun hb => ?_) | with_reducible refine Br.ndec (fun hb => ?_) (fun hb => ?_)) <;> (try dsimp only at hb) <;> (try simp only [ZZ] at hb) <;> (first | omega | (conv => whnf)))
   | ((first | with_reducible refine Br.tt rfl ?_ | with_reducible refine Br.ff rfl ?_ | with_reducible refine Br.ff (isEmptyCons _ _) ?_); conv => whnf)
   | (refine Side.mk ?_ ?_; (focus (first | omega | (dsimp only [InR]; omega) | (dsimp only [Int.reduceToNat, IntKind.bits, Int.reducePow, InR]; omega) | exact ⟨byteP_cells s, rfl, by omega⟩ | (simp [PV.cells, PV.leaf, byteP]; done) | (constructor <;> omega))); conv => whnf)
   | (refine Br.mk (fun hb => ?_) (fun hb => ?_) <;> (try dsimp only at hb) <;> (try simp only [ZZ] at hb) <;> (first | omega | (conv => whnf)))
   | ((first | refine Src.whole ⟨rfl, rfl⟩ ?_ | refine FrzV.whole ?_); conv => whnf)
   | ((first | refine CallW.use (copyCheck_old b acc) ?_); conv => whnf))
  exact CLe.eq (by simp only [prO, List.map_append])
theorem bytesX_map : ∀ s : Str, bytesX (s.map byteP) = some s
  | [] => rfl
  | b :: s => by
    have h := b.toNat_lt
    rw [List.map_cons]
    show bytesX (PV.int .u8 (b.toNat : Int) :: s.map byteP) = _
    rw [bytesX, if_pos (by omega), bytesX_map s]
    simp
theorem frz_pr (b : Bool) (es : List PV) : HO.frz 1 es (.var T.jprint_printer (.agg [.ptr 0 0, .sl 1 0 es.length, .p (.bool b)])) = .var T.jprint_printer (.agg [.ptr 0 0, .p (.lst false es), .p (.bool b)]) := by
  simp only [HO.frz, V.frz, V.frzL, if_pos, Nat.zero_add, Nat.le_refl, List.drop_zero, List.take_length]
  rfl
theorem Builder_String (b : Bool) (acc : Str) (hs : acc ≠ []) (hl : acc.length ≤ 9223372036854775807) : AbsCall PP GG F.strings_Builder_String [.ptr 0 0] (prO b (some acc)) ⟨.ret (.p (.str acc)), [.var T.jprint_printer (.agg [.ptr 0 0, .p (.lst false (acc.map byteP)), .p (.bool b)]), .dead], []⟩ := by
  obtain ⟨c, cs, rfl⟩ := List.exists_cons_of_ne_nil hs
  refine absCall_of (pol := polG) mixP F.strings_Builder_String_is ?_
  conv => whnf
  repeat' (first
   | ((first | with_reducible refine Br.dec (fun hb => ?_) (fun hb => ?_) | with_reducible refine Br.ndec (fun hb => ?_) (fun hb => ?_)) <;> (try dsimp only at hb) <;> (try simp only [ZZ] at hb) <;> (first | omega | (conv => whnf)))
   | ((first | with_reducible refine Br.tt rfl ?_ | with_reducible refine Br.ff rfl ?_ | with_reducible refine Br.ff (isEmptyCons _ _) ?_); conv => whnf)
   | (refine Side.mk ?_ ?_; (focus (first | omega | (dsimp only [InR]; omega) | (dsimp only [Int.reduceToNat, IntKind.bits, Int.reducePow, InR]; omega) | exact ⟨bytesX_map _, by simp, by simp, by simpa using hl⟩ | (simp [PV.cells, PV.leaf, byteP]; done) | (constructor <;> omega))); conv => whnf)
   | (refine Br.mk (fun hb => ?_) (fun hb => ?_) <;> (try dsimp only at hb) <;> (try simp only [ZZ] at hb) <;> (first | omega | (conv => whnf)))
   | ((first | refine Src.whole ⟨rfl, rfl⟩ ?_ | refine FrzV.whole ?_); conv => whnf)
   | (refine Bytes.mk' rfl ?_; conv => whnf)
   | (refine FrzV.mk .junk rfl ?_; conv => whnf)
   | (refine FrzO.mk (.var T.jprint_printer (.agg [.ptr 0 0, .p (.lst false ((c :: cs).map byteP)), .p (.bool b)])) (frz_pr b _) ?_; conv => whnf))
  exact CLe.eq rfl
/-- how deep, if in lines -/
def dd (b : Bool) (n : Int) : Int := if b = true then n else -1
theorem printer_line (b : Bool) (n : Int) (h0 : 0 ≤ n) (h1 : n ≤ 8000000) (acc : Str) (hl : acc.length ≤ 70368744177664) : AbsCall PP GG F.jprint_printer_line [.ptr 0 0, .p (.int .i64 n)] (prO b (some acc)) ⟨.ret (.tup []), prO b (some (acc ++ lineL (dd b n))), [1]⟩ := by
  cases b with
  | false =>
    rw [show lineL (dd false n) = [] from rfl, List.append_nil]
    refine absCall_of (pol := polG) mixP F.jprint_printer_line_is ?_
    conv => whnf
    repeat' (first
     | ((first | with_reducible refine Br.dec (fun hb => ?_) (fun hb => ?_) | with_reducible refine Br.ndec (fun hb => ?_) (fun hb => ?_)) <;> (try dsimp only at hb) <;> (try simp only [ZZ] at hb) <;> (first | omega | (conv => whnf)))
     | ((first | with_reducible refine Br.tt rfl ?_ | with_reducible refine Br.ff rfl ?_ | with_reducible refine Br.ff (isEmptyCons _ _) ?_); conv => whnf)
     | (refine Side.mk ?_ ?_; (focus (first | omega | (dsimp only [InR]; omega) | (dsimp only [Int.reduceToNat, IntKind.bits, Int.reducePow, InR]; omega) | (simp [PV.cells, PV.leaf, byteP]; done) | (constructor <;> omega))); conv => whnf)
     | (refine Br.mk (fun hb => ?_) (fun hb => ?_) <;> (try dsimp only at hb) <;> (try simp only [ZZ] at hb) <;> (first | omega | (conv => whnf)))
     | ((first | refine Src.whole ⟨rfl, rfl⟩ ?_ | refine FrzV.whole ?_); conv => whnf))
    exact CLe.mvs (by simp)
  | true =>
    have hr := repeat_len n.toNat
    have hR := strings_Repeat [32, 32] n h0 (by omega) (by show 2 * _ ≤ _; omega) []
    have e : lineL (dd true n) = 10 :: Lib.repeatL [32, 32] n.toNat := by unfold lineL dd; rw [if_pos rfl, if_neg (by omega)]
    have hW := WriteString_old true acc (lineL (dd true n)) (by rw [e, List.length_cons]; omega)
    rw [e] at hW
    rw [e]
    refine absCall_of (pol := polG) mixP F.jprint_printer_line_is ?_
    conv => whnf
    repeat' (first
     | ((first | with_reducible refine Br.dec (fun hb => ?_) (fun hb => ?_) | with_reducible refine Br.ndec (fun hb => ?_) (fun hb => ?_)) <;> (try dsimp only at hb) <;> (try simp only [ZZ] at hb) <;> (first | omega | (conv => whnf)))
     | ((first | with_reducible refine Br.tt rfl ?_ | with_reducible refine Br.ff rfl ?_ | with_reducible refine Br.ff (isEmptyCons _ _) ?_); conv => whnf)
     | (refine Side.mk ?_ ?_; (focus (first | omega | (dsimp only [InR]; omega) | (dsimp only [Int.reduceToNat, IntKind.bits, Int.reducePow, InR]; omega) | (show 1 + _ ≤ _; omega) | (simp [PV.cells, PV.leaf, byteP]; done) | (constructor <;> omega))); conv => whnf)
     | (refine Br.mk (fun hb => ?_) (fun hb => ?_) <;> (try dsimp only at hb) <;> (try simp only [ZZ] at hb) <;> (first | omega | (conv => whnf)))
     | ((first | refine Src.whole ⟨rfl, rfl⟩ ?_ | refine FrzV.whole ?_); conv => whnf)
     | ((first | refine CallW.use (hR) ?_ | refine CallW.use (hW) ?_); conv => whnf))
    exact CLe.eq rfl
end Go.Proofs.YtaoejccgdpppgaaGreatDoor
end

section
namespace Go.Proofs.YtaoejccgdpppgaaGreatDoor
open Go Go.Am
set_option maxRecDepth 100000
theorem ref8_line (n : Int) (hn : n ≤ 8000000) : AbsCall PP GG F.ref8_line [.p (.int .i64 n)] [] ⟨.ret (.p (.str (lineL n))), [], []⟩ := by
  have loop : ∀ (m : Nat) (K : Post), m ≤ 8000000 → (K (.exit 0) [(3, .p (.str (10 :: Lib.repeatL [32, 32] m)))] [] []) →
    ∀ (q i : Nat), i + q = m → LoopW PP GG 15 0 (loopN F.ref8_line_c 0) [(0, .p (.int .i64 m)), (3, .p (.str (10 :: Lib.repeatL [32, 32] i))), (4, .p (.int .i64 i))] [] [] (PostCl 15 K) := by
    intro m K hm h0 q
    induction q with
    | zero =>
      intro i hi
      obtain rfl : i = m := by omega
      refine LoopW.round (pol := polG) mixP ?_
      conv => whnf
      repeat' (first
       | ((first | with_reducible refine Br.dec (fun hb => ?_) (fun hb => ?_) | with_reducible refine Br.ndec (fun hb => ?_) (fun hb => ?_)) <;> (try dsimp only at hb) <;> (try simp only [ZZ] at hb) <;> (first | omega | (conv => whnf)))
       | ((first | with_reducible refine Br.tt rfl ?_ | with_reducible refine Br.ff rfl ?_ | with_reducible refine Br.ff (isEmptyCons _ _) ?_); conv => whnf)
       | (refine Side.mk ?_ ?_; (focus (first | omega | (dsimp only [InR]; omega) | (dsimp only [Int.reduceToNat, IntKind.bits, Int.reducePow, InR]; omega) | (simp [PV.cells, PV.leaf, byteP]; done) | (constructor <;> omega))); conv => whnf)
       | (refine Br.mk (fun hb => ?_) (fun hb => ?_) <;> (try dsimp only at hb) <;> (try simp only [ZZ] at hb) <;> (first | omega | (conv => whnf)))
       | ((first | refine Src.whole ⟨rfl, rfl⟩ ?_ | refine FrzV.whole ?_); conv => whnf))
      · refine PostCl.of (h0) ?_ ?_
        · repeat (first | exact True.intro | refine And.intro (by first | exact VLe.refl _ | fail) ?_)
        · repeat (first | exact True.intro | refine And.intro (by decide) ?_)
    | succ q ih =>
      intro i hi
      have hl := repeat_len i
      have e : (10 :: Lib.repeatL [32, 32] i) ++ [32, 32] = 10 :: Lib.repeatL [32, 32] (i + 1) := by rw [repeatL_succ]; rfl
      have e2 : (10 :: Lib.repeatL [32, 32] i).length = i * 2 + 1 := by rw [List.length_cons, hl]
      refine LoopW.round (pol := polG) mixP ?_
      conv => whnf
      repeat' (first
       | ((first | with_reducible refine Br.dec (fun hb => ?_) (fun hb => ?_) | with_reducible refine Br.ndec (fun hb => ?_) (fun hb => ?_)) <;> (try dsimp only at hb) <;> (try simp only [ZZ] at hb) <;> (first | omega | (conv => whnf)))
       | ((first | with_reducible refine Br.tt rfl ?_ | with_reducible refine Br.ff rfl ?_ | with_reducible refine Br.ff (isEmptyCons _ _) ?_); conv => whnf)
       | (refine Side.mk ?_ ?_; (focus (first | omega | (dsimp only [InR]; omega) | (dsimp only [Int.reduceToNat, IntKind.bits, Int.reducePow, InR]; omega) | (simp only [e2]; show _ ≤ _; simp; omega) | (simp [PV.cells, PV.leaf, byteP]; done) | (constructor <;> omega))); conv => whnf)
       | (refine Br.mk (fun hb => ?_) (fun hb => ?_) <;> (try dsimp only at hb) <;> (try simp only [ZZ] at hb) <;> (first | omega | (conv => whnf)))
       | ((first | refine Src.whole ⟨rfl, rfl⟩ ?_ | refine FrzV.whole ?_); conv => whnf))
      · rw [show (10 :: Lib.repeatL [32, 32] i) ++ (⟨#[32, 32]⟩ : ByteArray).data.toList = 10 :: Lib.repeatL [32, 32] (i + 1) from e]
        refine LoopW.sub (ih (i + 1) (by omega)) (by repeat (first | exact True.intro | refine And.intro (by first | exact VLe.refl _ | fail) ?_)) (by repeat (first | exact True.intro | refine And.intro (by decide) ?_))
  by_cases h : n < 0
  · refine absCall_of (pol := polG) mixP F.ref8_line_is ?_
    conv => whnf
    repeat' (first
     | ((first | with_reducible refine Br.dec (fun hb => ?_) (fun hb => ?_) | with_reducible refine Br.ndec (fun hb => ?_) (fun hb => ?_)) <;> (try dsimp only at hb) <;> (try simp only [ZZ] at hb) <;> (first | omega | (conv => whnf)))
     | ((first | with_reducible refine Br.tt rfl ?_ | with_reducible refine Br.ff rfl ?_ | with_reducible refine Br.ff (isEmptyCons _ _) ?_); conv => whnf)
     | (refine Side.mk ?_ ?_; (focus (first | omega | (dsimp only [InR]; omega) | (dsimp only [Int.reduceToNat, IntKind.bits, Int.reducePow, InR]; omega) | (simp [PV.cells, PV.leaf, byteP]; done) | (constructor <;> omega))); conv => whnf)
     | (refine Br.mk (fun hb => ?_) (fun hb => ?_) <;> (try dsimp only at hb) <;> (try simp only [ZZ] at hb) <;> (first | omega | (conv => whnf)))
     | ((first | refine Src.whole ⟨rfl, rfl⟩ ?_ | refine FrzV.whole ?_); conv => whnf))
    exact CLe.eq (by unfold lineL; rw [if_pos h])
  · obtain ⟨m, rfl⟩ := Int.eq_ofNat_of_zero_le (show 0 ≤ n by omega)
    refine absCall_of (pol := polG) mixP F.ref8_line_is ?_
    conv => whnf
    repeat' (first
     | ((first | with_reducible refine Br.dec (fun hb => ?_) (fun hb => ?_) | with_reducible refine Br.ndec (fun hb => ?_) (fun hb => ?_)) <;> (try dsimp only at hb) <;> (try simp only [ZZ] at hb) <;> (first | omega | (conv => whnf)))
     | ((first | with_reducible refine Br.tt rfl ?_ | with_reducible refine Br.ff rfl ?_ | with_reducible refine Br.ff (isEmptyCons _ _) ?_); conv => whnf)
     | (refine Side.mk ?_ ?_; (focus (first | omega | (dsimp only [InR]; omega) | (dsimp only [Int.reduceToNat, IntKind.bits, Int.reducePow, InR]; omega) | (simp [PV.cells, PV.leaf, byteP]; done) | (constructor <;> omega))); conv => whnf)
     | (refine Br.mk (fun hb => ?_) (fun hb => ?_) <;> (try dsimp only at hb) <;> (try simp only [ZZ] at hb) <;> (first | omega | (conv => whnf)))
     | ((first | refine Src.whole ⟨rfl, rfl⟩ ?_ | refine FrzV.whole ?_); conv => whnf))
    refine LoopW.cl ?_
    refine LoopW.sub (loop m _ (by omega) ?_ m 0 (by omega)) (by repeat (first | exact True.intro | refine And.intro (by first | exact VLe.refl _ | fail) ?_)) (by repeat (first | exact True.intro | refine And.intro (by decide) ?_))
    conv => whnf
    exact CLe.eq (by unfold lineL; rw [if_neg h]; rfl)
theorem text_nat : ∀ u : Nat, u ≤ 9223372036854775807 → AbsCall PP GG F.ref1_Text [.p (.int .i64 u)] [] ⟨.ret (.p (.str (Lib.itoa u))), [], []⟩ := by
  intro u
  induction u using Nat.strongRecOn with
  | ind u ih =>
    intro hu
    have dv : (u : Int).tdiv 10 = ((u / 10 : Nat) : Int) := by rw [Int.tdiv_eq_ediv_of_nonneg (by omega)]; rfl
    have md : (u : Int).tmod 10 = ((u % 10 : Nat) : Int) := by rw [Int.tmod_eq_emod_of_nonneg (by omega)]; rfl
    by_cases h : u < 10
    · have hbt : [PV.int .u8 (IntKind.u8.wrap (48 + (u : Int)))] = (Lib.itoa u).map byteP := by
        rw [itoa_small h, byte_of (by omega) (by omega)]
        simp only [List.map_cons, List.map_nil]
        congr 3
      refine absCall_of (pol := polG) mixP F.ref1_Text_is ?_
      conv => whnf
      repeat' (first
       | ((first | with_reducible refine Br.dec (fun hb => ?_) (fun hb => ?_) | with_reducible refine Br.ndec (fun hb => ?_) (fun hb => ?_)) <;> (try dsimp only at hb) <;> (try simp only [ZZ] at hb) <;> (first | omega | (conv => whnf)))
       | ((first | with_reducible refine Br.tt rfl ?_ | with_reducible refine Br.ff rfl ?_ | with_reducible refine Br.ff (isEmptyCons _ _) ?_); conv => whnf)
       | (refine Side.mk ?_ ?_; (focus (first | omega | (dsimp only [InR]; omega) | (dsimp only [Int.reduceToNat, IntKind.bits, Int.reducePow, InR]; omega) | (simp [PV.cells, PV.leaf, byteP]; done) | (constructor <;> omega))); conv => whnf)
       | (refine Br.mk (fun hb => ?_) (fun hb => ?_) <;> (try dsimp only at hb) <;> (try simp only [ZZ] at hb) <;> (first | omega | (conv => whnf)))
       | ((first | refine Src.whole ⟨rfl, rfl⟩ ?_ | refine FrzV.whole ?_); conv => whnf)
       | (refine Bytes.mk' hbt ?_; conv => whnf))
      exact CLe.eq rfl
    · have hsp := ih (u / 10) (by omega) (by omega)
      rw [← dv] at hsp
      have hl := Lib.itoa_length_le ((u / 10 : Nat) : Int) (by omega) (by omega)
      have hbt : [PV.int .u8 (IntKind.u8.wrap (48 + (u : Int).tmod 10))] = [UInt8.ofNat (48 + u % 10)].map byteP := by
        rw [md, byte_of (by omega) (by omega)]
        simp only [List.map_cons, List.map_nil]
        congr 3
      rw [← dv] at hl
      refine absCall_of (pol := polG) mixP F.ref1_Text_is ?_
      conv => whnf
      repeat' (first
       | ((first | with_reducible refine Br.dec (fun hb => ?_) (fun hb => ?_) | with_reducible refine Br.ndec (fun hb => ?_) (fun hb => ?_)) <;> (try dsimp only at hb) <;> (try simp only [ZZ] at hb) <;> (first | omega | (conv => whnf)))
       | ((first | with_reducible refine Br.tt rfl ?_ | with_reducible refine Br.ff rfl ?_ | with_reducible refine Br.ff (isEmptyCons _ _) ?_); conv => whnf)
       | (refine Side.mk ?_ ?_; (focus (first | omega | (dsimp only [InR]; omega) | (dsimp only [Int.reduceToNat, IntKind.bits, Int.reducePow, InR]; omega) | (simp only [md, dv, InR]; omega) | (intro y hy; simp only [List.mem_singleton] at hy; subst hy; exact ⟨rfl, by simp [PV.cells, PV.leaf]⟩) | (show _ + 1 ≤ _; omega) | (simp [PV.cells, PV.leaf, byteP]; done) | (constructor <;> omega))); conv => whnf)
       | (refine Br.mk (fun hb => ?_) (fun hb => ?_) <;> (try dsimp only at hb) <;> (try simp only [ZZ] at hb) <;> (first | omega | (conv => whnf)))
       | ((first | refine Src.whole ⟨rfl, rfl⟩ ?_ | refine FrzV.whole ?_); conv => whnf)
       | ((first | refine CallW.use (hsp) ?_); conv => whnf)
       | (refine Bytes.mk' hbt ?_; conv => whnf))
      exact CLe.retP (by rw [dv, itoa_big h])
theorem ref1_Text (n : Int) (h0 : -9223372036854775808 ≤ n) (h1 : n ≤ 9223372036854775807) : AbsCall PP GG F.ref1_Text [.p (.int .i64 n)] [] ⟨.ret (.p (.str (Lib.itoa n))), [], []⟩ := by
  by_cases h : 0 ≤ n
  · obtain ⟨u, rfl⟩ := Int.eq_ofNat_of_zero_le h
    exact text_nat u (by omega)
  · by_cases hm : n = -9223372036854775808
    · subst hm
      refine absCall_of (pol := polG) mixP F.ref1_Text_is ?_
      conv => whnf
      repeat' (first
       | ((first | with_reducible refine Br.dec (fun hb => ?_) (fun hb => ?_) | with_reducible refine Br.ndec (fun hb => ?_) (fun hb => ?_)) <;> (try dsimp only at hb) <;> (try simp only [ZZ] at hb) <;> (first | omega | (conv => whnf)))
       | ((first | with_reducible refine Br.tt rfl ?_ | with_reducible refine Br.ff rfl ?_ | with_reducible refine Br.ff (isEmptyCons _ _) ?_); conv => whnf)
       | (refine Side.mk ?_ ?_; (focus (first | omega | (dsimp only [InR]; omega) | (dsimp only [Int.reduceToNat, IntKind.bits, Int.reducePow, InR]; omega) | (simp [PV.cells, PV.leaf, byteP]; done) | (constructor <;> omega))); conv => whnf)
       | (refine Br.mk (fun hb => ?_) (fun hb => ?_) <;> (try dsimp only at hb) <;> (try simp only [ZZ] at hb) <;> (first | omega | (conv => whnf)))
       | ((first | refine Src.whole ⟨rfl, rfl⟩ ?_ | refine FrzV.whole ?_); conv => whnf))
      · exact CLe.retP (by rw [show (-9223372036854775808 : Int) = -((9223372036854775808 : Nat) : Int) from rfl, Lib.itoa_neg _ (by omega), PV.str.injEq]; exact least_dig.symm)
      · exact absurd trivial hb
    · obtain ⟨u, hu⟩ := Int.eq_ofNat_of_zero_le (show 0 ≤ -n by omega)
      have hsp := text_nat u (by omega)
      have e : IntKind.i64.wrap (0 - n) = u := by rw [InR.wrap (by simp only [InR]; omega)]; omega
      have hl := Lib.itoa_length_le u (by omega) (by omega)
      rw [← e] at hsp hl
      refine absCall_of (pol := polG) mixP F.ref1_Text_is ?_
      conv => whnf
      repeat' (first
       | ((first | with_reducible refine Br.dec (fun hb => ?_) (fun hb => ?_) | with_reducible refine Br.ndec (fun hb => ?_) (fun hb => ?_)) <;> (try dsimp only at hb) <;> (try simp only [ZZ] at hb) <;> (first | omega | (conv => whnf)))
       | ((first | with_reducible refine Br.tt rfl ?_ | with_reducible refine Br.ff rfl ?_ | with_reducible refine Br.ff (isEmptyCons _ _) ?_); conv => whnf)
       | (refine Side.mk ?_ ?_; (focus (first | omega | (dsimp only [InR]; omega) | (dsimp only [Int.reduceToNat, IntKind.bits, Int.reducePow, InR]; omega) | (show 1 + _ ≤ _; omega) | (simp [PV.cells, PV.leaf, byteP]; done) | (constructor <;> omega))); conv => whnf)
       | (refine Br.mk (fun hb => ?_) (fun hb => ?_) <;> (try dsimp only at hb) <;> (try simp only [ZZ] at hb) <;> (first | omega | (conv => whnf)))
       | ((first | refine Src.whole ⟨rfl, rfl⟩ ?_ | refine FrzV.whole ?_); conv => whnf)
       | ((first | refine CallW.use (hsp) ?_); conv => whnf))
      exact CLe.retP (by rw [e, show n = -(u : Int) by omega, Lib.itoa_neg u (by omega), Lib.itoa_nonneg]; rfl)
theorem ref5_hex4 (n : Nat) (hn : n < 256) : AbsCall PP GG F.ref5_hex4 [.p (.int .i64 n)] [] ⟨.ret (.p (.str (hex2 n))), [], []⟩ := by
  have q12 : (n : Int) / 2 ^ Int.toNat 12 = 0 := by show (n : Int) / 4096 = _; omega
  have q8 : (n : Int) / 2 ^ Int.toNat 8 = 0 := by show (n : Int) / 256 = _; omega
  have q4 : (n : Int) / 2 ^ Int.toNat 4 = ((n / 16 : Nat) : Int) := by show (n : Int) / 16 = _; omega
  have i12 : iand .i64 ((n : Int) / 2 ^ Int.toNat 12) 15 = 0 := by rw [q12]; decide
  have i8 : iand .i64 ((n : Int) / 2 ^ Int.toNat 8) 15 = 0 := by rw [q8]; decide
  have i4 : iand .i64 ((n : Int) / 2 ^ Int.toNat 4) 15 = ((n / 16 : Nat) : Int) := by rw [q4, iand15 (by omega) (by omega)]; omega
  have i0 : iand .i64 (n : Int) 15 = ((n % 16 : Nat) : Int) := by rw [iand15 (by omega) (by omega)]; omega
  have hbt : ∀ a b c d : Int, a = 0 → b = 0 → c = ((n / 16 : Nat) : Int) → d = ((n % 16 : Nat) : Int) → [byteP ((⟨#[48, 49, 50, 51, 52, 53, 54, 55, 56, 57, 97, 98, 99, 100, 101, 102]⟩ : ByteArray).data.toList.getD a.toNat 0), byteP ((⟨#[48, 49, 50, 51, 52, 53, 54, 55, 56, 57, 97, 98, 99, 100, 101, 102]⟩ : ByteArray).data.toList.getD b.toNat 0), byteP ((⟨#[48, 49, 50, 51, 52, 53, 54, 55, 56, 57, 97, 98, 99, 100, 101, 102]⟩ : ByteArray).data.toList.getD c.toNat 0), byteP ((⟨#[48, 49, 50, 51, 52, 53, 54, 55, 56, 57, 97, 98, 99, 100, 101, 102]⟩ : ByteArray).data.toList.getD d.toNat 0)] = (hex2 n).map byteP := by
    rintro a b c d rfl rfl rfl rfl
    rfl
  refine absCall_of (pol := polG) mixP F.ref5_hex4_is ?_
  conv => whnf
  repeat' (first
   | ((first | with_reducible refine Br.dec (fun hb => ?_) (fun hb => ?_) | with_reducible refine Br.ndec (fun hb => ?_) (fun hb => ?_)) <;> (try dsimp only at hb) <;> (try simp only [ZZ] at hb) <;> (first | omega | (conv => whnf)))
   | ((first | with_reducible refine Br.tt rfl ?_ | with_reducible refine Br.ff rfl ?_ | with_reducible refine Br.ff (isEmptyCons _ _) ?_); conv => whnf)
   | (refine Side.mk ?_ ?_; (focus (first | omega | (dsimp only [InR]; omega) | (dsimp only [Int.reduceToNat, IntKind.bits, Int.reducePow, InR]; omega) | (rw [i12]; decide) | (rw [i8]; decide) | (rw [i4]; refine ⟨by omega, ?_⟩; show _ < (16 : Int); omega) | (rw [i0]; refine ⟨by omega, ?_⟩; show _ < (16 : Int); omega) | (simp [PV.cells, PV.leaf, byteP]; done) | (constructor <;> omega))); conv => whnf)
   | (refine Br.mk (fun hb => ?_) (fun hb => ?_) <;> (try dsimp only at hb) <;> (try simp only [ZZ] at hb) <;> (first | omega | (conv => whnf)))
   | ((first | refine Src.whole ⟨rfl, rfl⟩ ?_ | refine FrzV.whole ?_); conv => whnf)
   | (refine Bytes.mk' (hbt _ _ _ _ i12 i8 i4 i0) ?_; conv => whnf))
  exact CLe.eq rfl
end Go.Proofs.YtaoejccgdpppgaaGreatDoor
end

section
namespace Go.Proofs.YtaoejccgdpppgaaGreatDoor
open Go Go.Am
set_option maxRecDepth 100000
theorem intP_cells (l : List Int) : ∀ y ∈ l.map intP, y.cells.length = 1 := by
  intro y hy; obtain ⟨b, _, rfl⟩ := List.mem_map.1 hy; rfl
theorem ElemZ.ints {l : List Int} {i : Nat} {K : PV → Prop} {x : Int} (h : l[i]? = some x) (k : K (.int .i64 x)) : ElemZ (l.map intP) i 1 K := ⟨_, by rw [List.getElem?_map, h]; rfl, rfl, k⟩
theorem rquote_loop (s : Str) (hs : s.length ≤ 65536) (R : Str) (l : List Int) (hll : l.length ≤ 65537) (K : Post)
    (h0 : R.length ≤ 1000000 → K (.exit 0) [(5, .p (.str R))] [] []) :
    ∀ (q i p : Nat) (acc : Str), s.length ≤ p + q → p ≤ s.length → l.drop i = startsL q (s.drop p) p → acc ++ quoteL q (s.drop p) = R → acc.length ≤ 1 + 10 * p →
      LoopW PP GG 101 0 (loopN F.ref5_Quote_c 0) [(0, .p (.str s)), (1, .p (.bool false)), (5, .p (.str acc)), (6, .p (.lst false (l.map intP))), (7, .p (.int .i64 i))] [] [] (PostCl 101 K) := by
  intro q
  have hml : (l.map intP).length = l.length := by simp
  induction q with
  | zero =>
    intro i p acc hp hps hl hR hacc
    rw [startsL] at hl
    rw [quoteL, List.append_nil] at hR
    have hi : l.length - i = 1 := by rw [← List.length_drop, hl]; rfl
    refine LoopW.round (pol := polG) mixP ?_
    conv => whnf
    repeat' (first
     | ((first | with_reducible refine Br.dec (fun hb => ?_) (fun hb => ?_) | with_reducible refine Br.ndec (fun hb => ?_) (fun hb => ?_)) <;> (try dsimp only at hb) <;> (try simp only [ZZ, hml] at hb) <;> (first | omega | (conv => whnf)))
     | ((first | with_reducible refine Br.tt rfl ?_ | with_reducible refine Br.ff rfl ?_ | with_reducible refine Br.ff (isEmptyCons _ _) ?_); conv => whnf)
     | (refine Side.mk ?_ ?_; (focus (first | omega | (dsimp only [InR]; omega) | (dsimp only [Int.reduceToNat, IntKind.bits, Int.reducePow, InR]; omega) | (simp [PV.cells, PV.leaf, byteP]; done) | (constructor <;> omega))); conv => whnf)
     | (refine Br.mk (fun hb => ?_) (fun hb => ?_) <;> (try dsimp only at hb) <;> (try simp only [ZZ, hml] at hb) <;> (first | omega | (conv => whnf)))
     | ((first | refine Src.whole ⟨rfl, rfl⟩ ?_ | refine FrzV.whole ?_); conv => whnf))
    · subst hR
      refine PostCl.of (h0 (by omega)) ?_ ?_
      · repeat (first | exact True.intro | refine And.intro (by first | exact VLe.refl _ | fail) ?_)
      · repeat (first | exact True.intro | refine And.intro (by decide) ?_)
  | succ q ih =>
    intro i p acc hp hps hl hR hacc
    cases hsd : s.drop p with
    | nil =>
      rw [hsd, startsL] at hl
      rw [hsd, quoteL, List.append_nil] at hR
      have hi : l.length - i = 1 := by rw [← List.length_drop, hl]; rfl
      refine LoopW.round (pol := polG) mixP ?_
      conv => whnf
      repeat' (first
       | ((first | with_reducible refine Br.dec (fun hb => ?_) (fun hb => ?_) | with_reducible refine Br.ndec (fun hb => ?_) (fun hb => ?_)) <;> (try dsimp only at hb) <;> (try simp only [ZZ, hml] at hb) <;> (first | omega | (conv => whnf)))
       | ((first | with_reducible refine Br.tt rfl ?_ | with_reducible refine Br.ff rfl ?_ | with_reducible refine Br.ff (isEmptyCons _ _) ?_); conv => whnf)
       | (refine Side.mk ?_ ?_; (focus (first | omega | (dsimp only [InR]; omega) | (dsimp only [Int.reduceToNat, IntKind.bits, Int.reducePow, InR]; omega) | (simp [PV.cells, PV.leaf, byteP]; done) | (constructor <;> omega))); conv => whnf)
       | (refine Br.mk (fun hb => ?_) (fun hb => ?_) <;> (try dsimp only at hb) <;> (try simp only [ZZ, hml] at hb) <;> (first | omega | (conv => whnf)))
       | ((first | refine Src.whole ⟨rfl, rfl⟩ ?_ | refine FrzV.whole ?_); conv => whnf))
      · subst hR
        refine PostCl.of (h0 (by omega)) ?_ ?_
        · repeat (first | exact True.intro | refine And.intro (by first | exact VLe.refl _ | fail) ?_)
        · repeat (first | exact True.intro | refine And.intro (by decide) ?_)
    | cons c cs =>
      have hdl : (s.drop p).length = s.length - p := List.length_drop
      have hst := stepN_pos (c :: cs)
      have hsl : stepN (c :: cs) ≤ s.length - p := by have := stepN_le c cs; rw [← hsd, hdl] at this; rw [← hsd]; exact this
      rw [hsd, startsL] at hl
      rw [hsd, quoteL] at hR
      have hst' : max (utfTake (c :: cs)).2 1 = (stepN (c :: cs) : Int) := by unfold stepN; omega
      have hl0 : l[i]? = some (p : Int) := by
        have : (l.drop i)[0]? = some (p : Int) := by rw [hl]; rfl
        rwa [List.getElem?_drop, Nat.add_zero] at this
      have hlt : l.drop (i + 1) = startsL q (s.drop (p + stepN (c :: cs))) ((p + stepN (c :: cs) : Nat) : Int) := by
        have : l.drop (i + 1) = (l.drop i).drop 1 := by rw [List.drop_drop]
        rw [this, hl, List.drop_one, List.tail_cons, hst', Int.toNat_natCast, ← hsd, List.drop_drop, Int.natCast_add]
      have hl1 : l[i + 1]? = some ((p + stepN (c :: cs) : Nat) : Int) := by
        have : (l.drop (i + 1))[0]? = some ((p + stepN (c :: cs) : Nat) : Int) := by
          rw [hlt]
          cases q with
          | zero => rfl
          | succ q => cases hx : s.drop (p + stepN (c :: cs)) with
            | nil => rfl
            | cons a b => rfl
        rwa [List.getElem?_drop, Nat.add_zero] at this
      have hil : i + 1 < l.length := (List.getElem?_eq_some_iff.1 hl1).1
      have hx : (List.drop ((p : Int)).toNat s).take (((p + stepN (c :: cs) : Nat) : Int).toNat - ((p : Int)).toNat) = (c :: cs).take (stepN (c :: cs)) := by
        rw [Int.toNat_natCast, Int.toNat_natCast, Nat.add_sub_cancel_left, hsd]
      have hxl : ((c :: cs).take (stepN (c :: cs))).length = stepN (c :: cs) := by rw [List.length_take]; have := stepN_le c cs; omega
      have htk := ref1_Take ((c :: cs).take (stepN (c :: cs))) (by omega)
      rw [utfTake_pre] at htk
      have hu := quoteU_len ((c :: cs).take (stepN (c :: cs))) (utfTake (c :: cs)).2
      rw [← hsd, List.drop_drop, hsd] at hR
      refine LoopW.round (pol := polG) mixP ?_
      conv => whnf
      repeat' (first
       | ((first | with_reducible refine Br.dec (fun hb => ?_) (fun hb => ?_) | with_reducible refine Br.ndec (fun hb => ?_) (fun hb => ?_)) <;> (try dsimp only at hb) <;> (try simp only [ZZ, hml] at hb) <;> (first | omega | (conv => whnf)))
       | ((first | with_reducible refine Br.tt rfl ?_ | with_reducible refine Br.ff rfl ?_ | with_reducible refine Br.ff (isEmptyCons _ _) ?_); conv => whnf)
       | (refine Side.mk ?_ ?_; (focus (first | omega | (dsimp only [InR]; omega) | (dsimp only [Int.reduceToNat, IntKind.bits, Int.reducePow, InR]; omega) | exact ⟨rfl, rfl⟩ | (simp [PV.cells, PV.leaf, byteP]; done) | (constructor <;> omega))); conv => whnf)
       | (refine Br.mk (fun hb => ?_) (fun hb => ?_) <;> (try dsimp only at hb) <;> (try simp only [ZZ, hml] at hb) <;> (first | omega | (conv => whnf)))
       | ((first | refine Src.whole ⟨rfl, rfl⟩ ?_ | refine FrzV.whole ?_); conv => whnf)
       | (refine ElemZ.ints (by simpa using hl0) ?_; conv => whnf)
       | (refine ElemZ.ints (x := ((p + stepN (c :: cs) : Nat) : Int)) (by simpa using hl1) ?_; conv => whnf))
      rw [hx]
      generalize (c :: cs).take (stepN (c :: cs)) = x at *
      generalize utfTake (c :: cs) = T at *
      generalize stepN (c :: cs) = m at *
      have hx4 : b0 x < 256 := UInt8.toNat_lt _
      have hex := ref5_hex4 (b0 x) hx4
      have hhl : (hex2 (b0 x)).length = 4 := rfl
      unfold quoteU at hR hu
      unfold b0 at hR hx4 hex hhl hu
      have fin : ∀ X : Str, X.length ≤ 10 → acc ++ (X ++ quoteL q (s.drop (p + m))) = R → LoopW PP GG 101 0 (loopN F.ref5_Quote_c 0) [(0, .p (.str s)), (1, .p (.bool false)), (5, .p (.str (acc ++ X))), (6, .p (.lst false (l.map intP))), (7, .p (.int .i64 ((i + 1 : Nat) : Int)))] [] [] (PostCl 101 K) := by
        intro X hX h
        exact ih (i + 1) (p + m) (acc ++ X) (by omega) (by omega) hlt (by rw [List.append_assoc]; exact h) (by rw [List.length_append]; omega)
      have cat : ∀ X Y : Str, acc ++ X ++ Y = acc ++ (X ++ Y) := fun X Y => List.append_assoc _ _ _
      repeat' (first
       | ((first | with_reducible refine Br.dec (fun hb => ?_) (fun hb => ?_) | with_reducible refine Br.ndec (fun hb => ?_) (fun hb => ?_)) <;> (try dsimp only at hb) <;> (try simp only [ZZ, Int.reduceToNat] at hb) <;> (first | omega | (conv => whnf)))
       | ((first | with_reducible refine Br.tt rfl ?_ | with_reducible refine Br.ff rfl ?_ | with_reducible refine Br.ff (isEmptyCons _ _) ?_); conv => whnf)
       | (refine Side.mk ?_ ?_; (focus (first | omega | (dsimp only [InR]; omega) | (dsimp only [Int.reduceToNat, IntKind.bits, Int.reducePow, InR]; omega) | (simp only [hxl]; omega) | (simp only [hhl, List.length_append]; show _ ≤ _; simp; omega) | (simp [PV.cells, PV.leaf, byteP]; done) | (constructor <;> omega))); conv => whnf)
       | (refine Br.mk (fun hb => ?_) (fun hb => ?_) <;> (try dsimp only at hb) <;> (try simp only [ZZ, Int.reduceToNat] at hb) <;> (first | omega | (conv => whnf)))
       | ((first | refine Src.whole ⟨rfl, rfl⟩ ?_ | refine FrzV.whole ?_); conv => whnf)
       | ((first | refine CallW.use (htk) ?_ | refine CallW.use (hex) ?_); conv => whnf))
      all_goals
        (try rw [cat])
        repeat (first | rw [if_pos (by omega)] at hR hu | rw [if_neg (by omega)] at hR hu)
        refine LoopW.sub (fin _ (by first | omega | (simp only [List.length_cons, List.length_nil] at hu ⊢; omega) | (show (6 : Nat) ≤ 10; omega)) hR) (by repeat (first | exact True.intro | refine And.intro (by first | exact VLe.refl _ | fail) ?_)) (by repeat (first | exact True.intro | refine And.intro (by decide) ?_))
theorem ref5_Quote (s : Str) (hs : s.length ≤ 65536) : AbsCall PP GG F.ref5_Quote [.p (.str s), .p (.bool false)] [] ⟨.ret (.p (.str (quoteS s))), [], []⟩ := by
  have hsl := startsL_len s.length s 0
  refine absCall_of (pol := polG) mixP F.ref5_Quote_is ?_
  conv => whnf
  repeat' (first
   | ((first | with_reducible refine Br.dec (fun hb => ?_) (fun hb => ?_) | with_reducible refine Br.ndec (fun hb => ?_) (fun hb => ?_)) <;> (try dsimp only at hb) <;> (try simp only [ZZ] at hb) <;> (first | omega | (conv => whnf)))
   | ((first | with_reducible refine Br.tt rfl ?_ | with_reducible refine Br.ff rfl ?_ | with_reducible refine Br.ff (isEmptyCons _ _) ?_); conv => whnf)
   | (refine Side.mk ?_ ?_; (focus (first | omega | (dsimp only [InR]; omega) | (dsimp only [Int.reduceToNat, IntKind.bits, Int.reducePow, InR]; omega) | (simp [PV.cells, PV.leaf, byteP]; done) | (constructor <;> omega))); conv => whnf)
   | (refine Br.mk (fun hb => ?_) (fun hb => ?_) <;> (try dsimp only at hb) <;> (try simp only [ZZ] at hb) <;> (first | omega | (conv => whnf)))
   | ((first | refine Src.whole ⟨rfl, rfl⟩ ?_ | refine FrzV.whole ?_); conv => whnf)
   | ((first | refine CallW.use (ref1_Starts s hs) ?_); conv => whnf))
  refine LoopW.cl ?_
  refine LoopW.sub (rquote_loop s hs ([34] ++ quoteL s.length s) (startsL s.length s 0) (by omega) _ (fun hl => ?_) s.length 0 0 [34] (by omega) (by omega) rfl rfl (by simp)) (by repeat (first | exact True.intro | refine And.intro (by first | exact VLe.refl _ | fail) ?_)) (by repeat (first | exact True.intro | refine And.intro (by decide) ?_))
  conv => whnf
  repeat' (first
   | ((first | with_reducible refine Br.dec (fun hb => ?_) (fun hb => ?_) | with_reducible refine Br.ndec (fun hb => ?_) (fun hb => ?_)) <;> (try dsimp only at hb) <;> (try simp only [ZZ] at hb) <;> (first | omega | (conv => whnf)))
   | ((first | with_reducible refine Br.tt rfl ?_ | with_reducible refine Br.ff rfl ?_ | with_reducible refine Br.ff (isEmptyCons _ _) ?_); conv => whnf)
   | (refine Side.mk ?_ ?_; (focus (first | omega | (dsimp only [InR]; omega) | (dsimp only [Int.reduceToNat, IntKind.bits, Int.reducePow, InR]; omega) | (show _ + 1 ≤ _; omega) | (simp [PV.cells, PV.leaf, byteP]; done) | (constructor <;> omega))); conv => whnf)
   | (refine Br.mk (fun hb => ?_) (fun hb => ?_) <;> (try dsimp only at hb) <;> (try simp only [ZZ] at hb) <;> (first | omega | (conv => whnf)))
   | ((first | refine Src.whole ⟨rfl, rfl⟩ ?_ | refine FrzV.whole ?_); conv => whnf))
  exact CLe.eq rfl
end Go.Proofs.YtaoejccgdpppgaaGreatDoor
end

section
namespace Go.Am
open Go
def escR (r : Int) : Str :=
  if r = 34 then [92, 34] else if r = 92 then [92, 92] else if r = 8 then [92, 98] else if r = 12 then [92, 102] else if r = 10 then [92, 110] else if r = 13 then [92, 114] else if r = 9 then [92, 116] else
  if r < 32 then 92 :: 117 :: hex2 r.toNat else utfEnc r
def letR (s : Str) : Int := if (utfTake s).2 = 0 then 65533 else (utfTake s).1
theorem utfTake_enc (s : Str) (h : (utfTake s).2 ≠ 0) : utfEnc (utfTake s).1 = s.take (utfTake s).2.toNat := by
  cases s with
  | nil => exact absurd rfl h
  | cons c cs =>
    unfold utfTake at h ⊢
    simp only [] at h ⊢
    split
    · rename_i h1; rw [if_pos h1] at h; exact absurd rfl h
    · rename_i h1
      rw [if_neg h1] at h
      split
      · rename_i h2; rw [h2] at h; exact absurd rfl h
      · rename_i r h2
        rw [h2] at h
        simp only [] at h
        split
        · rename_i h3
          simp only [not_or] at h1
          exact enc_take h1.1 h1.2 h2 h3.1 h3.2
        · rename_i h3; rw [if_neg h3] at h; exact absurd rfl h
theorem enc_b0 (r : Int) (hg : utfGood r = true) : (r < 128 → utfEnc r = [UInt8.ofNat r.toNat] ∧ b0 (utfEnc r) = r.toNat) ∧ (128 ≤ r → 128 ≤ b0 (utfEnc r)) := by
  have hgn : ¬ utfGood r = false := by rw [hg]; simp
  have hr : 0 ≤ r ∧ r ≤ 1114111 := by unfold utfGood at hg; rw [decide_eq_true_eq] at hg; omega
  have big : ∀ n : Nat, n < 256 → (UInt8.ofNat n).toNat = n := fun n hn => by rw [UInt8.toNat_ofNat']; omega
  refine ⟨fun h => ?_, fun h => ?_⟩
  · have e : utfEnc r = [UInt8.ofNat r.toNat] := by unfold utfEnc; rw [if_neg hgn, if_pos h]
    refine ⟨e, ?_⟩
    rw [e]
    show (UInt8.ofNat r.toNat).toNat = _
    exact big _ (by omega)
  · unfold utfEnc
    rw [if_neg hgn, if_neg (by omega)]
    split
    · show 128 ≤ (UInt8.ofNat (192 + r.toNat / 64)).toNat
      rw [big _ (by omega)]; omega
    · split
      · show 128 ≤ (UInt8.ofNat (224 + r.toNat / 4096)).toNat
        rw [big _ (by omega)]; omega
      · show 128 ≤ (UInt8.ofNat (240 + r.toNat / 262144)).toNat
        rw [big _ (by omega)]; omega
theorem escR_eq (c : UInt8) (cs : Str) : quoteU ((c :: cs).take (stepN (c :: cs))) (utfTake (c :: cs)).2 = escR (letR (c :: cs)) := by
  unfold letR
  by_cases h0 : (utfTake (c :: cs)).2 = 0
  · rw [if_pos h0]
    unfold quoteU
    rw [if_pos h0]
    decide +kernel
  · rw [if_neg h0]
    have he := utfTake_enc _ h0
    have hn := utfTake_n (c :: cs)
    have hs : stepN (c :: cs) = (utfTake (c :: cs)).2.toNat := by unfold stepN; omega
    have hg := (utfTake_r (c :: cs)).resolve_left h0
    rw [hs, ← he]
    generalize (utfTake (c :: cs)).1 = r at *
    obtain ⟨h1, h2⟩ := enc_b0 r hg
    have hr : 0 ≤ r ∧ r ≤ 1114111 := by unfold utfGood at hg; rw [decide_eq_true_eq] at hg; omega
    unfold quoteU
    rw [if_neg h0]
    unfold escR
    by_cases hr1 : r < 128
    · obtain ⟨e1, e2⟩ := h1 hr1
      rw [e2]
      obtain ⟨n, rfl⟩ := Int.eq_ofNat_of_zero_le hr.1
      rw [Int.toNat_natCast] at e1 ⊢
      by_cases h34 : n = 34
      · subst h34; rw [e1]; rfl
      by_cases h92 : n = 92
      · subst h92; rw [e1]; rfl
      rw [if_neg (by omega)]
      repeat (first | rw [if_neg (show ¬ ((n : Int) = 34) by omega)] | rw [if_neg (show ¬ ((n : Int) = 92) by omega)])
      repeat' split
      all_goals first | rfl | omega
    · have := h2 (by omega)
      rw [if_neg (by omega), if_neg (by omega), if_neg (by omega), if_neg (by omega), if_neg (by omega), if_neg (by omega), if_neg (by omega)]
      rw [if_neg (by omega), if_neg (by omega), if_neg (by omega), if_neg (by omega), if_neg (by omega), if_neg (by omega), if_neg (by omega), if_neg (by omega)]
end Go.Am
end

section
namespace Go.Proofs.YtaoejccgdpppgaaGreatDoor
open Go Go.Am Go.RowKit
set_option maxRecDepth 100000
theorem sl_IndexByte (s : Str) (c : Int) : AbsCall PP GG F.internal_stringslite_IndexByte [.p (.str s), .p (.int .u8 c)] [] ⟨.ret (.p (.int .i64 (firstIdx ⟨s.toArray⟩ c.toNat.toUInt8))), [], []⟩ := by
  refine absCall_of (pol := polG) mixP F.internal_stringslite_IndexByte_is ?_
  conv => whnf
  repeat' (first
   | ((first | with_reducible refine Br.dec (fun hb => ?_) (fun hb => ?_) | with_reducible refine Br.ndec (fun hb => ?_) (fun hb => ?_)) <;> (try dsimp only at hb) <;> (try simp only [ZZ] at hb) <;> (first | omega | (conv => whnf)))
   | ((first | with_reducible refine Br.tt rfl ?_ | with_reducible refine Br.ff rfl ?_ | with_reducible refine Br.ff (isEmptyCons _ _) ?_); conv => whnf)
   | (refine Side.mk ?_ ?_; (focus (first | omega | (dsimp only [InR]; omega) | (dsimp only [Int.reduceToNat, IntKind.bits, Int.reducePow, InR]; omega) | (simp [PV.cells, PV.leaf, byteP]; done) | (constructor <;> omega))); conv => whnf)
   | (refine Br.mk (fun hb => ?_) (fun hb => ?_) <;> (try dsimp only at hb) <;> (try simp only [ZZ] at hb) <;> (first | omega | (conv => whnf)))
   | ((first | refine Src.whole ⟨rfl, rfl⟩ ?_ | refine FrzV.whole ?_); conv => whnf)
   | ((first | refine CallW.use (bytealg_IndexByteString s c []) ?_); conv => whnf))
  exact CLe.eq rfl
theorem strings_IndexByte (s : Str) (c : Int) : AbsCall PP GG F.strings_IndexByte [.p (.str s), .p (.int .u8 c)] [] ⟨.ret (.p (.int .i64 (firstIdx ⟨s.toArray⟩ c.toNat.toUInt8))), [], []⟩ := by
  refine absCall_of (pol := polG) mixP F.strings_IndexByte_is ?_
  conv => whnf
  repeat' (first
   | ((first | with_reducible refine Br.dec (fun hb => ?_) (fun hb => ?_) | with_reducible refine Br.ndec (fun hb => ?_) (fun hb => ?_)) <;> (try dsimp only at hb) <;> (try simp only [ZZ] at hb) <;> (first | omega | (conv => whnf)))
   | ((first | with_reducible refine Br.tt rfl ?_ | with_reducible refine Br.ff rfl ?_ | with_reducible refine Br.ff (isEmptyCons _ _) ?_); conv => whnf)
   | (refine Side.mk ?_ ?_; (focus (first | omega | (dsimp only [InR]; omega) | (dsimp only [Int.reduceToNat, IntKind.bits, Int.reducePow, InR]; omega) | (simp [PV.cells, PV.leaf, byteP]; done) | (constructor <;> omega))); conv => whnf)
   | (refine Br.mk (fun hb => ?_) (fun hb => ?_) <;> (try dsimp only at hb) <;> (try simp only [ZZ] at hb) <;> (first | omega | (conv => whnf)))
   | ((first | refine Src.whole ⟨rfl, rfl⟩ ?_ | refine FrzV.whole ?_); conv => whnf)
   | ((first | refine CallW.use (sl_IndexByte s c) ?_); conv => whnf))
  exact CLe.eq rfl
def setB : Str := [34, 92, 8, 12, 10, 13, 9]
def setI (r : Int) : Int := if r = 34 then 0 else if r = 92 then 1 else if r = 8 then 2 else if r = 12 then 3 else if r = 10 then 4 else if r = 13 then 5 else if r = 9 then 6 else -1
theorem set_all : ∀ n : Nat, n < 256 → firstIdx ⟨setB.toArray⟩ n.toUInt8 = setI n := by decide +kernel
def cap (r : Int) : Int := if 255 < r then 255 else r
theorem quote_IndexByte (r : Int) (h0 : 0 ≤ r) : AbsCall PP GG F.strings_IndexByte [.p (.str setB), .p (.int .u8 (IntKind.u8.wrap (if 255 < r then 255 else r)))] [] ⟨.ret (.p (.int .i64 (setI (cap r)))), [], []⟩ := by
  have hc : 0 ≤ cap r ∧ cap r ≤ 255 := by unfold cap; split <;> omega
  have e : IntKind.u8.wrap (cap r) = cap r := InR.wrap (by simp only [InR]; omega)
  have h := strings_IndexByte setB (cap r)
  show AbsCall PP GG F.strings_IndexByte [.p (.str setB), .p (.int .u8 (IntKind.u8.wrap (cap r)))] [] _
  obtain ⟨n, hn⟩ := Int.eq_ofNat_of_zero_le hc.1
  rw [e]
  rw [hn] at h ⊢
  rw [Int.toNat_natCast, set_all n (by omega)] at h
  exact h
theorem esc_loop (R : Str) (hRl : R.length ≤ 1000000) (K : Post)
    (h0 : K (.exit 0) [(5, .sl 0 0 (R.map byteP).length)] [.arr T.uint8 1 (R.map byteP)] []) :
    ∀ (q : Nat) (s acc : Str), s.length ≤ q → s.length ≤ 65536 → acc.length ≤ 1000000 → acc ++ quoteL q s = R →
      LoopW PP GG 64 0 (loopN F.esc_quote_c 0) [(0, .p (.str s)), (1, .p (.bool false)), (5, .sl 0 0 (acc.map byteP).length)] [.arr T.uint8 1 (acc.map byteP)] [] (PostCl 64 K) := by
  intro q
  induction q with
  | zero =>
    intro s acc hq hs ha hR
    obtain rfl := List.eq_nil_of_length_eq_zero (Nat.le_zero.1 hq)
    rw [quoteL, List.append_nil] at hR
    subst hR
    refine LoopW.round (pol := polG) mixP ?_
    conv => whnf
    repeat' (first
     | ((first | with_reducible refine Br.dec (fun hb => ?_) (fun hb => ?_) | with_reducible refine Br.ndec (fun hb => ?_) (fun hb => ?_)) <;> (try dsimp only at hb) <;> (try simp only [ZZ, List.length_nil] at hb) <;> (first | omega | (conv => whnf)))
     | ((first | with_reducible refine Br.tt rfl ?_ | with_reducible refine Br.ff rfl ?_ | with_reducible refine Br.ff (isEmptyCons _ _) ?_); conv => whnf)
     | (refine Side.mk ?_ ?_; (focus (first | omega | (dsimp only [InR]; omega) | (dsimp only [Int.reduceToNat, IntKind.bits, Int.reducePow, InR]; omega) | (simp [PV.cells, PV.leaf, byteP]; done) | (constructor <;> omega))); conv => whnf)
     | (refine Br.mk (fun hb => ?_) (fun hb => ?_) <;> (try dsimp only at hb) <;> (try simp only [ZZ, List.length_nil] at hb) <;> (first | omega | (conv => whnf)))
     | ((first | refine Src.whole ⟨rfl, rfl⟩ ?_ | refine FrzV.whole ?_); conv => whnf))
    · refine PostCl.of (h0) ?_ ?_
      · repeat (first | exact True.intro | refine And.intro (by first | exact VLe.refl _ | fail) ?_)
      · repeat (first | exact True.intro | refine And.intro (by decide) ?_)
  | succ q ih =>
    intro s acc hq hs ha hR
    cases s with
    | nil =>
      rw [quoteL, List.append_nil] at hR
      subst hR
      refine LoopW.round (pol := polG) mixP ?_
      conv => whnf
      repeat' (first
       | ((first | with_reducible refine Br.dec (fun hb => ?_) (fun hb => ?_) | with_reducible refine Br.ndec (fun hb => ?_) (fun hb => ?_)) <;> (try dsimp only at hb) <;> (try simp only [ZZ, List.length_nil] at hb) <;> (first | omega | (conv => whnf)))
       | ((first | with_reducible refine Br.tt rfl ?_ | with_reducible refine Br.ff rfl ?_ | with_reducible refine Br.ff (isEmptyCons _ _) ?_); conv => whnf)
       | (refine Side.mk ?_ ?_; (focus (first | omega | (dsimp only [InR]; omega) | (dsimp only [Int.reduceToNat, IntKind.bits, Int.reducePow, InR]; omega) | (simp [PV.cells, PV.leaf, byteP]; done) | (constructor <;> omega))); conv => whnf)
       | (refine Br.mk (fun hb => ?_) (fun hb => ?_) <;> (try dsimp only at hb) <;> (try simp only [ZZ, List.length_nil] at hb) <;> (first | omega | (conv => whnf)))
       | ((first | refine Src.whole ⟨rfl, rfl⟩ ?_ | refine FrzV.whole ?_); conv => whnf))
      · refine PostCl.of (h0) ?_ ?_
        · repeat (first | exact True.intro | refine And.intro (by first | exact VLe.refl _ | fail) ?_)
        · repeat (first | exact True.intro | refine And.intro (by decide) ?_)
    | cons c cs =>
      have hT := utf_Take (c :: cs) (by omega)
      have hn := utfTake_n (c :: cs)
      have hl : (c :: cs).length = cs.length + 1 := rfl
      have hgr := utfTake_r (c :: cs)
      rw [quoteL, escR_eq] at hR
      have hml : (acc.map byteP).length = acc.length := by simp
      by_cases h0n : (utfTake (c :: cs)).2 = 0
      · have h1 := utfTake_0 h0n
        have hs1 : stepN (c :: cs) = 1 := by unfold stepN; rw [h0n]; rfl
        rw [h0n, h1] at hT
        rw [hs1] at hR
        unfold letR at hR
        rw [if_pos h0n] at hR
        have hI := quote_IndexByte 65533 (by omega)
        have hj : setI (cap 65533) = -1 := by decide
        rw [hj] at hI
        have hP := utf_Put acc 65533 (by omega)
        refine LoopW.round (pol := polG) mixP ?_
        conv => whnf
        repeat' (first
         | ((first | with_reducible refine Br.dec (fun hb => ?_) (fun hb => ?_) | with_reducible refine Br.ndec (fun hb => ?_) (fun hb => ?_)) <;> (try dsimp only at hb) <;> (try simp only [ZZ] at hb) <;> (first | omega | (conv => whnf)))
         | ((first | with_reducible refine Br.tt rfl ?_ | with_reducible refine Br.ff rfl ?_ | with_reducible refine Br.ff (isEmptyCons _ _) ?_); conv => whnf)
         | (refine Side.mk ?_ ?_; (focus (first | omega | (dsimp only [InR]; omega) | (dsimp only [Int.reduceToNat, IntKind.bits, Int.reducePow, InR]; omega) | (simp [PV.cells, PV.leaf, byteP]; done) | (constructor <;> omega))); conv => whnf)
         | (refine Br.mk (fun hb => ?_) (fun hb => ?_) <;> (try dsimp only at hb) <;> (try simp only [ZZ] at hb) <;> (first | omega | (conv => whnf)))
         | ((first | refine Src.whole ⟨rfl, rfl⟩ ?_ | refine FrzV.whole ?_); conv => whnf)
         | ((first | refine CallW.use (hT) ?_ | refine CallW.use (hI) ?_ | refine CallW.use (hP) ?_); conv => whnf))
        · have e : escR 65533 = utfEnc 65533 := by decide +kernel
          rw [e, ← List.append_assoc] at hR
          refine LoopW.ren [1] (ih cs (acc ++ utfEnc 65533) (by omega) (by omega) (by have := congrArg List.length hR; rw [List.length_append] at this; omega) hR) (by repeat (first | exact True.intro | refine And.intro (And.intro (by first | rfl | fail) (by first | exact VLe.refl _ | fail)) ?_)) (by repeat (first | exact True.intro | refine And.intro (by decide) ?_)) (by rfl) (by rfl)
        · exact absurd trivial hb
      · obtain ⟨m, hm⟩ : ∃ m : Nat, (utfTake (c :: cs)).2 = m := ⟨(utfTake (c :: cs)).2.toNat, by omega⟩
        have hs1 : stepN (c :: cs) = m := by unfold stepN; omega
        rw [hs1] at hR
        unfold letR at hR
        rw [if_neg h0n] at hR
        have hgd := hgr.resolve_left h0n
        rw [hm] at hT hn h0n
        generalize (utfTake (c :: cs)).1 = r at *
        have hr : 0 ≤ r ∧ r ≤ 1114111 := by unfold utfGood at hgd; rw [decide_eq_true_eq] at hgd; omega
        have hI := quote_IndexByte r hr.1
        have hdl : ((c :: cs).drop m).length = (c :: cs).length - m := List.length_drop
        have fin : ∀ X : Str, acc ++ (X ++ quoteL q ((c :: cs).drop m)) = R → LoopW PP GG 64 0 (loopN F.esc_quote_c 0) [(0, .p (.str ((c :: cs).drop m))), (1, .p (.bool false)), (5, .sl 0 0 ((acc ++ X).map byteP).length)] [.arr T.uint8 1 ((acc ++ X).map byteP)] [] (PostCl 64 K) := by
          intro X h
          rw [← List.append_assoc] at h
          exact ih _ (acc ++ X) (by omega) (by omega) (by have := congrArg List.length h; rw [List.length_append] at this; omega) h
        by_cases hsp : r = 34 ∨ r = 92 ∨ r = 8 ∨ r = 12 ∨ r = 10 ∨ r = 13 ∨ r = 9
        · have app : ∀ x : UInt8, acc.map byteP ++ [PV.int .u8 92, byteP x] = (acc ++ [92, x]).map byteP := by intro x; simp [byteP]
          rcases hsp with rfl | rfl | rfl | rfl | rfl | rfl | rfl
          all_goals
            rw [show setI (cap _) = _ from by first | (show setI (cap 34) = 0; decide) | (show setI (cap 92) = 1; decide) | (show setI (cap 8) = 2; decide) | (show setI (cap 12) = 3; decide) | (show setI (cap 10) = 4; decide) | (show setI (cap 13) = 5; decide) | (show setI (cap 9) = 6; decide)] at hI
          · refine LoopW.round (pol := polG) mixP ?_
            conv => whnf
            repeat' (first
             | ((first | with_reducible refine Br.dec (fun hb => ?_) (fun hb => ?_) | with_reducible refine Br.ndec (fun hb => ?_) (fun hb => ?_)) <;> (try dsimp only at hb) <;> (try simp only [ZZ] at hb) <;> (first | omega | (conv => whnf)))
             | ((first | with_reducible refine Br.tt rfl ?_ | with_reducible refine Br.ff rfl ?_ | with_reducible refine Br.ff (isEmptyCons _ _) ?_); conv => whnf)
             | (refine Side.mk ?_ ?_; (focus (first | omega | (dsimp only [InR]; omega) | (dsimp only [Int.reduceToNat, IntKind.bits, Int.reducePow, InR]; omega) | exact ⟨by intro y hy; simp only [List.mem_cons, List.mem_nil_iff, or_false] at hy; rcases hy with rfl | rfl <;> rfl, rfl, by show (_ + 2) * 2 ≤ _; omega⟩ | (simp [PV.cells, PV.leaf, byteP]; done) | (constructor <;> omega))); conv => whnf)
             | (refine Br.mk (fun hb => ?_) (fun hb => ?_) <;> (try dsimp only at hb) <;> (try simp only [ZZ] at hb) <;> (first | omega | (conv => whnf)))
             | ((first | refine Src.whole ⟨rfl, rfl⟩ ?_ | refine FrzV.whole ?_); conv => whnf)
             | ((first | refine CallW.use (hT) ?_ | refine CallW.use (hI) ?_); conv => whnf))
            all_goals first
              | (rw [show List.map byteP acc ++ [PV.int .u8 92, byteP ((⟨#[34, 92, 98, 102, 110, 114, 116]⟩ : ByteArray).data.toList.getD (Int.toNat 0) 0)] = (acc ++ [92, 34]).map byteP from by rw [show (⟨#[34, 92, 98, 102, 110, 114, 116]⟩ : ByteArray).data.toList.getD (Int.toNat 0) 0 = 34 by decide]; exact app 34]
                 rw [show escR 34 = [92, 34] from rfl] at hR
                 refine LoopW.ren [0] (fin [92, 34] hR) (by repeat (first | exact True.intro | refine And.intro (And.intro (by first | rfl | fail) (by first | exact VLe.refl _ | fail)) ?_)) (by repeat (first | exact True.intro | refine And.intro (by decide) ?_)) (by rfl) (by rfl))
          · refine LoopW.round (pol := polG) mixP ?_
            conv => whnf
            repeat' (first
             | ((first | with_reducible refine Br.dec (fun hb => ?_) (fun hb => ?_) | with_reducible refine Br.ndec (fun hb => ?_) (fun hb => ?_)) <;> (try dsimp only at hb) <;> (try simp only [ZZ] at hb) <;> (first | omega | (conv => whnf)))
             | ((first | with_reducible refine Br.tt rfl ?_ | with_reducible refine Br.ff rfl ?_ | with_reducible refine Br.ff (isEmptyCons _ _) ?_); conv => whnf)
             | (refine Side.mk ?_ ?_; (focus (first | omega | (dsimp only [InR]; omega) | (dsimp only [Int.reduceToNat, IntKind.bits, Int.reducePow, InR]; omega) | exact ⟨by intro y hy; simp only [List.mem_cons, List.mem_nil_iff, or_false] at hy; rcases hy with rfl | rfl <;> rfl, rfl, by show (_ + 2) * 2 ≤ _; omega⟩ | (simp [PV.cells, PV.leaf, byteP]; done) | (constructor <;> omega))); conv => whnf)
             | (refine Br.mk (fun hb => ?_) (fun hb => ?_) <;> (try dsimp only at hb) <;> (try simp only [ZZ] at hb) <;> (first | omega | (conv => whnf)))
             | ((first | refine Src.whole ⟨rfl, rfl⟩ ?_ | refine FrzV.whole ?_); conv => whnf)
             | ((first | refine CallW.use (hT) ?_ | refine CallW.use (hI) ?_); conv => whnf))
            all_goals first
              | (rw [show List.map byteP acc ++ [PV.int .u8 92, byteP ((⟨#[34, 92, 98, 102, 110, 114, 116]⟩ : ByteArray).data.toList.getD (Int.toNat 1) 0)] = (acc ++ [92, 92]).map byteP from by rw [show (⟨#[34, 92, 98, 102, 110, 114, 116]⟩ : ByteArray).data.toList.getD (Int.toNat 1) 0 = 92 by decide]; exact app 92]
                 rw [show escR 92 = [92, 92] from rfl] at hR
                 refine LoopW.ren [0] (fin [92, 92] hR) (by repeat (first | exact True.intro | refine And.intro (And.intro (by first | rfl | fail) (by first | exact VLe.refl _ | fail)) ?_)) (by repeat (first | exact True.intro | refine And.intro (by decide) ?_)) (by rfl) (by rfl))
          · refine LoopW.round (pol := polG) mixP ?_
            conv => whnf
            repeat' (first
             | ((first | with_reducible refine Br.dec (fun hb => ?_) (fun hb => ?_) | with_reducible refine Br.ndec (fun hb => ?_) (fun hb => ?_)) <;> (try dsimp only at hb) <;> (try simp only [ZZ] at hb) <;> (first | omega | (conv => whnf)))
             | ((first | with_reducible refine Br.tt rfl ?_ | with_reducible refine Br.ff rfl ?_ | with_reducible refine Br.ff (isEmptyCons _ _) ?_); conv => whnf)
             | (refine Side.mk ?_ ?_; (focus (first | omega | (dsimp only [InR]; omega) | (dsimp only [Int.reduceToNat, IntKind.bits, Int.reducePow, InR]; omega) | exact ⟨by intro y hy; simp only [List.mem_cons, List.mem_nil_iff, or_false] at hy; rcases hy with rfl | rfl <;> rfl, rfl, by show (_ + 2) * 2 ≤ _; omega⟩ | (simp [PV.cells, PV.leaf, byteP]; done) | (constructor <;> omega))); conv => whnf)
             | (refine Br.mk (fun hb => ?_) (fun hb => ?_) <;> (try dsimp only at hb) <;> (try simp only [ZZ] at hb) <;> (first | omega | (conv => whnf)))
             | ((first | refine Src.whole ⟨rfl, rfl⟩ ?_ | refine FrzV.whole ?_); conv => whnf)
             | ((first | refine CallW.use (hT) ?_ | refine CallW.use (hI) ?_); conv => whnf))
            all_goals first
              | (rw [show List.map byteP acc ++ [PV.int .u8 92, byteP ((⟨#[34, 92, 98, 102, 110, 114, 116]⟩ : ByteArray).data.toList.getD (Int.toNat 2) 0)] = (acc ++ [92, 98]).map byteP from by rw [show (⟨#[34, 92, 98, 102, 110, 114, 116]⟩ : ByteArray).data.toList.getD (Int.toNat 2) 0 = 98 by decide]; exact app 98]
                 rw [show escR 8 = [92, 98] from rfl] at hR
                 refine LoopW.ren [0] (fin [92, 98] hR) (by repeat (first | exact True.intro | refine And.intro (And.intro (by first | rfl | fail) (by first | exact VLe.refl _ | fail)) ?_)) (by repeat (first | exact True.intro | refine And.intro (by decide) ?_)) (by rfl) (by rfl))
          · refine LoopW.round (pol := polG) mixP ?_
            conv => whnf
            repeat' (first
             | ((first | with_reducible refine Br.dec (fun hb => ?_) (fun hb => ?_) | with_reducible refine Br.ndec (fun hb => ?_) (fun hb => ?_)) <;> (try dsimp only at hb) <;> (try simp only [ZZ] at hb) <;> (first | omega | (conv => whnf)))
             | ((first | with_reducible refine Br.tt rfl ?_ | with_reducible refine Br.ff rfl ?_ | with_reducible refine Br.ff (isEmptyCons _ _) ?_); conv => whnf)
             | (refine Side.mk ?_ ?_; (focus (first | omega | (dsimp only [InR]; omega) | (dsimp only [Int.reduceToNat, IntKind.bits, Int.reducePow, InR]; omega) | exact ⟨by intro y hy; simp only [List.mem_cons, List.mem_nil_iff, or_false] at hy; rcases hy with rfl | rfl <;> rfl, rfl, by show (_ + 2) * 2 ≤ _; omega⟩ | (simp [PV.cells, PV.leaf, byteP]; done) | (constructor <;> omega))); conv => whnf)
             | (refine Br.mk (fun hb => ?_) (fun hb => ?_) <;> (try dsimp only at hb) <;> (try simp only [ZZ] at hb) <;> (first | omega | (conv => whnf)))
             | ((first | refine Src.whole ⟨rfl, rfl⟩ ?_ | refine FrzV.whole ?_); conv => whnf)
             | ((first | refine CallW.use (hT) ?_ | refine CallW.use (hI) ?_); conv => whnf))
            all_goals first
              | (rw [show List.map byteP acc ++ [PV.int .u8 92, byteP ((⟨#[34, 92, 98, 102, 110, 114, 116]⟩ : ByteArray).data.toList.getD (Int.toNat 3) 0)] = (acc ++ [92, 102]).map byteP from by rw [show (⟨#[34, 92, 98, 102, 110, 114, 116]⟩ : ByteArray).data.toList.getD (Int.toNat 3) 0 = 102 by decide]; exact app 102]
                 rw [show escR 12 = [92, 102] from rfl] at hR
                 refine LoopW.ren [0] (fin [92, 102] hR) (by repeat (first | exact True.intro | refine And.intro (And.intro (by first | rfl | fail) (by first | exact VLe.refl _ | fail)) ?_)) (by repeat (first | exact True.intro | refine And.intro (by decide) ?_)) (by rfl) (by rfl))
          · refine LoopW.round (pol := polG) mixP ?_
            conv => whnf
            repeat' (first
             | ((first | with_reducible refine Br.dec (fun hb => ?_) (fun hb => ?_) | with_reducible refine Br.ndec (fun hb => ?_) (fun hb => ?_)) <;> (try dsimp only at hb) <;> (try simp only [ZZ] at hb) <;> (first | omega | (conv => whnf)))
             | ((first | with_reducible refine Br.tt rfl ?_ | with_reducible refine Br.ff rfl ?_ | with_reducible refine Br.ff (isEmptyCons _ _) ?_); conv => whnf)
             | (refine Side.mk ?_ ?_; (focus (first | omega | (dsimp only [InR]; omega) | (dsimp only [Int.reduceToNat, IntKind.bits, Int.reducePow, InR]; omega) | exact ⟨by intro y hy; simp only [List.mem_cons, List.mem_nil_iff, or_false] at hy; rcases hy with rfl | rfl <;> rfl, rfl, by show (_ + 2) * 2 ≤ _; omega⟩ | (simp [PV.cells, PV.leaf, byteP]; done) | (constructor <;> omega))); conv => whnf)
             | (refine Br.mk (fun hb => ?_) (fun hb => ?_) <;> (try dsimp only at hb) <;> (try simp only [ZZ] at hb) <;> (first | omega | (conv => whnf)))
             | ((first | refine Src.whole ⟨rfl, rfl⟩ ?_ | refine FrzV.whole ?_); conv => whnf)
             | ((first | refine CallW.use (hT) ?_ | refine CallW.use (hI) ?_); conv => whnf))
            all_goals first
              | (rw [show List.map byteP acc ++ [PV.int .u8 92, byteP ((⟨#[34, 92, 98, 102, 110, 114, 116]⟩ : ByteArray).data.toList.getD (Int.toNat 4) 0)] = (acc ++ [92, 110]).map byteP from by rw [show (⟨#[34, 92, 98, 102, 110, 114, 116]⟩ : ByteArray).data.toList.getD (Int.toNat 4) 0 = 110 by decide]; exact app 110]
                 rw [show escR 10 = [92, 110] from rfl] at hR
                 refine LoopW.ren [0] (fin [92, 110] hR) (by repeat (first | exact True.intro | refine And.intro (And.intro (by first | rfl | fail) (by first | exact VLe.refl _ | fail)) ?_)) (by repeat (first | exact True.intro | refine And.intro (by decide) ?_)) (by rfl) (by rfl))
          · refine LoopW.round (pol := polG) mixP ?_
            conv => whnf
            repeat' (first
             | ((first | with_reducible refine Br.dec (fun hb => ?_) (fun hb => ?_) | with_reducible refine Br.ndec (fun hb => ?_) (fun hb => ?_)) <;> (try dsimp only at hb) <;> (try simp only [ZZ] at hb) <;> (first | omega | (conv => whnf)))
             | ((first | with_reducible refine Br.tt rfl ?_ | with_reducible refine Br.ff rfl ?_ | with_reducible refine Br.ff (isEmptyCons _ _) ?_); conv => whnf)
             | (refine Side.mk ?_ ?_; (focus (first | omega | (dsimp only [InR]; omega) | (dsimp only [Int.reduceToNat, IntKind.bits, Int.reducePow, InR]; omega) | exact ⟨by intro y hy; simp only [List.mem_cons, List.mem_nil_iff, or_false] at hy; rcases hy with rfl | rfl <;> rfl, rfl, by show (_ + 2) * 2 ≤ _; omega⟩ | (simp [PV.cells, PV.leaf, byteP]; done) | (constructor <;> omega))); conv => whnf)
             | (refine Br.mk (fun hb => ?_) (fun hb => ?_) <;> (try dsimp only at hb) <;> (try simp only [ZZ] at hb) <;> (first | omega | (conv => whnf)))
             | ((first | refine Src.whole ⟨rfl, rfl⟩ ?_ | refine FrzV.whole ?_); conv => whnf)
             | ((first | refine CallW.use (hT) ?_ | refine CallW.use (hI) ?_); conv => whnf))
            all_goals first
              | (rw [show List.map byteP acc ++ [PV.int .u8 92, byteP ((⟨#[34, 92, 98, 102, 110, 114, 116]⟩ : ByteArray).data.toList.getD (Int.toNat 5) 0)] = (acc ++ [92, 114]).map byteP from by rw [show (⟨#[34, 92, 98, 102, 110, 114, 116]⟩ : ByteArray).data.toList.getD (Int.toNat 5) 0 = 114 by decide]; exact app 114]
                 rw [show escR 13 = [92, 114] from rfl] at hR
                 refine LoopW.ren [0] (fin [92, 114] hR) (by repeat (first | exact True.intro | refine And.intro (And.intro (by first | rfl | fail) (by first | exact VLe.refl _ | fail)) ?_)) (by repeat (first | exact True.intro | refine And.intro (by decide) ?_)) (by rfl) (by rfl))
          · refine LoopW.round (pol := polG) mixP ?_
            conv => whnf
            repeat' (first
             | ((first | with_reducible refine Br.dec (fun hb => ?_) (fun hb => ?_) | with_reducible refine Br.ndec (fun hb => ?_) (fun hb => ?_)) <;> (try dsimp only at hb) <;> (try simp only [ZZ] at hb) <;> (first | omega | (conv => whnf)))
             | ((first | with_reducible refine Br.tt rfl ?_ | with_reducible refine Br.ff rfl ?_ | with_reducible refine Br.ff (isEmptyCons _ _) ?_); conv => whnf)
             | (refine Side.mk ?_ ?_; (focus (first | omega | (dsimp only [InR]; omega) | (dsimp only [Int.reduceToNat, IntKind.bits, Int.reducePow, InR]; omega) | exact ⟨by intro y hy; simp only [List.mem_cons, List.mem_nil_iff, or_false] at hy; rcases hy with rfl | rfl <;> rfl, rfl, by show (_ + 2) * 2 ≤ _; omega⟩ | (simp [PV.cells, PV.leaf, byteP]; done) | (constructor <;> omega))); conv => whnf)
             | (refine Br.mk (fun hb => ?_) (fun hb => ?_) <;> (try dsimp only at hb) <;> (try simp only [ZZ] at hb) <;> (first | omega | (conv => whnf)))
             | ((first | refine Src.whole ⟨rfl, rfl⟩ ?_ | refine FrzV.whole ?_); conv => whnf)
             | ((first | refine CallW.use (hT) ?_ | refine CallW.use (hI) ?_); conv => whnf))
            all_goals first
              | (rw [show List.map byteP acc ++ [PV.int .u8 92, byteP ((⟨#[34, 92, 98, 102, 110, 114, 116]⟩ : ByteArray).data.toList.getD (Int.toNat 6) 0)] = (acc ++ [92, 116]).map byteP from by rw [show (⟨#[34, 92, 98, 102, 110, 114, 116]⟩ : ByteArray).data.toList.getD (Int.toNat 6) 0 = 116 by decide]; exact app 116]
                 rw [show escR 9 = [92, 116] from rfl] at hR
                 refine LoopW.ren [0] (fin [92, 116] hR) (by repeat (first | exact True.intro | refine And.intro (And.intro (by first | rfl | fail) (by first | exact VLe.refl _ | fail)) ?_)) (by repeat (first | exact True.intro | refine And.intro (by decide) ?_)) (by rfl) (by rfl))
        · have hj : setI (cap r) = -1 := by
            unfold setI cap
            repeat' split
            all_goals first | rfl | omega
          rw [hj] at hI
          have hP := utf_Put acc r (by omega)
          have e1 : 32 ≤ r → escR r = utfEnc r := by
            intro h
            unfold escR
            repeat (rw [if_neg (by omega)])
          have e2 : r < 32 → escR r = 92 :: 117 :: hex2 r.toNat := by
            intro h
            unfold escR
            rw [if_neg (by omega), if_neg (by omega), if_neg (by omega), if_neg (by omega), if_neg (by omega), if_neg (by omega), if_neg (by omega), if_pos h]
          have q4 : r / 2 ^ Int.toNat 4 = r / 16 := rfl
          have i0 : iand .i64 r 15 = r % 16 := iand15 hr.1 (by omega)
          refine LoopW.round (pol := polG) mixP ?_
          conv => whnf
          repeat' (first
           | ((first | with_reducible refine Br.dec (fun hb => ?_) (fun hb => ?_) | with_reducible refine Br.ndec (fun hb => ?_) (fun hb => ?_)) <;> (try dsimp only at hb) <;> (try simp only [ZZ] at hb) <;> (first | omega | (conv => whnf)))
           | ((first | with_reducible refine Br.tt rfl ?_ | with_reducible refine Br.ff rfl ?_ | with_reducible refine Br.ff (isEmptyCons _ _) ?_); conv => whnf)
           | (refine Side.mk ?_ ?_; (focus (first | omega | (dsimp only [InR]; omega) | (dsimp only [Int.reduceToNat, IntKind.bits, Int.reducePow, InR]; omega) | (refine ⟨by rw [q4]; omega, ?_⟩; rw [q4]; show _ < (16 : Int); omega) | (rw [i0]; refine ⟨by omega, ?_⟩; show _ < (16 : Int); omega) | exact ⟨by intro y hy; simp only [List.mem_cons, List.mem_nil_iff, or_false] at hy; rcases hy with rfl | rfl | rfl | rfl | rfl | rfl <;> rfl, rfl, by show (_ + 6) * 2 ≤ _; omega⟩ | (simp [PV.cells, PV.leaf, byteP]; done) | (constructor <;> omega))); conv => whnf)
           | (refine Br.mk (fun hb => ?_) (fun hb => ?_) <;> (try dsimp only at hb) <;> (try simp only [ZZ] at hb) <;> (first | omega | (conv => whnf)))
           | ((first | refine Src.whole ⟨rfl, rfl⟩ ?_ | refine FrzV.whole ?_); conv => whnf)
           | ((first | refine CallW.use (hT) ?_ | refine CallW.use (hI) ?_ | refine CallW.use (hP) ?_); conv => whnf))
          all_goals first
            | (rw [e1 (by omega)] at hR; refine LoopW.ren [1] (fin (utfEnc r) hR) (by repeat (first | exact True.intro | refine And.intro (And.intro (by first | rfl | fail) (by first | exact VLe.refl _ | fail)) ?_)) (by repeat (first | exact True.intro | refine And.intro (by decide) ?_)) (by rfl) (by rfl))
            | skip
          rw [e2 (by omega)] at hR
          rw [show List.map byteP acc ++ [PV.int .u8 92, PV.int .u8 117, PV.int .u8 48, PV.int .u8 48, byteP ((⟨#[48, 49, 50, 51, 52, 53, 54, 55, 56, 57, 97, 98, 99, 100, 101, 102]⟩ : ByteArray).data.toList.getD (r / 2 ^ Int.toNat 4).toNat 0), byteP ((⟨#[48, 49, 50, 51, 52, 53, 54, 55, 56, 57, 97, 98, 99, 100, 101, 102]⟩ : ByteArray).data.toList.getD (iand IntKind.i64 r 15).toNat 0)] = (acc ++ (92 :: 117 :: hex2 r.toNat)).map byteP from by
            rw [i0, q4, show (r / 16).toNat = r.toNat / 16 by omega, show (r % 16).toNat = r.toNat % 16 by omega, List.map_append]; rfl]
          refine LoopW.ren [0] (fin (92 :: 117 :: hex2 r.toNat) hR) (by repeat (first | exact True.intro | refine And.intro (And.intro (by first | rfl | fail) (by first | exact VLe.refl _ | fail)) ?_)) (by repeat (first | exact True.intro | refine And.intro (by decide) ?_)) (by rfl) (by rfl)
theorem esc_quote (s : Str) (hs : s.length ≤ 65536) : AbsCall PP GG F.esc_quote [.p (.str s), .p (.bool false)] [] ⟨.ret (.p (.str (quoteS s))), [], []⟩ := by
  have hq := quoteL_len s.length s
  have hR : ([34] ++ quoteL s.length s : Str).length ≤ 1000000 := by rw [List.length_append]; simp only [List.length_cons, List.length_nil]; omega
  have hml : (([34] ++ quoteL s.length s : Str).map byteP).length = ([34] ++ quoteL s.length s : Str).length := by simp
  have hb : (([34] ++ quoteL s.length s : Str).map byteP) ++ [PV.int .u8 34] = (quoteS s).map byteP := by unfold quoteS; simp [byteP]
  refine absCall_of (pol := polG) mixP F.esc_quote_is ?_
  conv => whnf
  repeat' (first
   | ((first | with_reducible refine Br.dec (fun hb => ?_) (fun hb => ?_) | with_reducible refine Br.ndec (fun hb => ?_) (fun hb => ?_)) <;> (try dsimp only at hb) <;> (try simp only [ZZ] at hb) <;> (first | omega | (conv => whnf)))
   | ((first | with_reducible refine Br.tt rfl ?_ | with_reducible refine Br.ff rfl ?_ | with_reducible refine Br.ff (isEmptyCons _ _) ?_); conv => whnf)
   | (refine Side.mk ?_ ?_; (focus (first | omega | (dsimp only [InR]; omega) | (dsimp only [Int.reduceToNat, IntKind.bits, Int.reducePow, InR]; omega) | (simp [PV.cells, PV.leaf, byteP]; done) | (constructor <;> omega))); conv => whnf)
   | (refine Br.mk (fun hb => ?_) (fun hb => ?_) <;> (try dsimp only at hb) <;> (try simp only [ZZ] at hb) <;> (first | omega | (conv => whnf)))
   | ((first | refine Src.whole ⟨rfl, rfl⟩ ?_ | refine FrzV.whole ?_); conv => whnf))
  refine LoopW.cl ?_
  refine LoopW.sub (esc_loop ([34] ++ quoteL s.length s) hR _ ?_ s.length s [34] (by omega) hs (by simp) rfl) (by repeat (first | exact True.intro | refine And.intro (by first | exact VLe.refl _ | fail) ?_)) (by repeat (first | exact True.intro | refine And.intro (by decide) ?_))
  generalize ([34] ++ quoteL s.length s : Str) = R at *
  conv => whnf
  repeat' (first
   | ((first | with_reducible refine Br.dec (fun hb => ?_) (fun hb => ?_) | with_reducible refine Br.ndec (fun hb => ?_) (fun hb => ?_)) <;> (try dsimp only at hb) <;> (try simp only [ZZ] at hb) <;> (first | omega | (conv => whnf)))
   | ((first | with_reducible refine Br.tt rfl ?_ | with_reducible refine Br.ff rfl ?_ | with_reducible refine Br.ff (isEmptyCons _ _) ?_); conv => whnf)
   | (refine Side.mk ?_ ?_; (focus (first | omega | (dsimp only [InR]; omega) | (dsimp only [Int.reduceToNat, IntKind.bits, Int.reducePow, InR]; omega) | exact ⟨by intro y hy; simp only [List.mem_cons, List.mem_nil_iff, or_false] at hy; subst hy; rfl, rfl, by show (_ + 1) * 2 ≤ _; omega⟩ | (simp [PV.cells, PV.leaf, byteP]; done) | (constructor <;> omega))); conv => whnf)
   | (refine Br.mk (fun hb => ?_) (fun hb => ?_) <;> (try dsimp only at hb) <;> (try simp only [ZZ] at hb) <;> (first | omega | (conv => whnf)))
   | ((first | refine Src.whole ⟨rfl, rfl⟩ ?_ | refine FrzV.whole ?_); conv => whnf)
   | (refine Src.whole ⟨rfl, rfl⟩ ?_; conv => whnf)
   | (refine Bytes.mk' hb ?_; conv => whnf))
  exact CLe.eq rfl
theorem esc_Quote (s : Str) (hs : s.length ≤ 65536) : AbsCall PP GG F.esc_Quote [.p (.str s)] [] ⟨.ret (.p (.str (quoteS s))), [], []⟩ := by
  refine absCall_of (pol := polG) mixP F.esc_Quote_is ?_
  conv => whnf
  repeat' (first
   | ((first | with_reducible refine Br.dec (fun hb => ?_) (fun hb => ?_) | with_reducible refine Br.ndec (fun hb => ?_) (fun hb => ?_)) <;> (try dsimp only at hb) <;> (try simp only [ZZ] at hb) <;> (first | omega | (conv => whnf)))
   | ((first | with_reducible refine Br.tt rfl ?_ | with_reducible refine Br.ff rfl ?_ | with_reducible refine Br.ff (isEmptyCons _ _) ?_); conv => whnf)
   | (refine Side.mk ?_ ?_; (focus (first | omega | (dsimp only [InR]; omega) | (dsimp only [Int.reduceToNat, IntKind.bits, Int.reducePow, InR]; omega) | (simp [PV.cells, PV.leaf, byteP]; done) | (constructor <;> omega))); conv => whnf)
   | (refine Br.mk (fun hb => ?_) (fun hb => ?_) <;> (try dsimp only at hb) <;> (try simp only [ZZ] at hb) <;> (first | omega | (conv => whnf)))
   | ((first | refine Src.whole ⟨rfl, rfl⟩ ?_ | refine FrzV.whole ?_); conv => whnf)
   | ((first | refine CallW.use (esc_quote s hs) ?_); conv => whnf))
  exact CLe.eq rfl
end Go.Proofs.YtaoejccgdpppgaaGreatDoor
end
