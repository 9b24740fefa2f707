/-
JprintPlain. The given statement JprintPlainUptoCardSaid, proved: for every input of bulk at most 1048576, the law called with it returns true and the arguments read as they did. No further condition.
Trees alike, field by field.
The walk through the reference's likeness of trees.
The statements of layer 9: JprintApart.
Texts of letters: what is written is letters, and no byte below 32 in one line.
What is written is read back (T1).
The statements of layer 9: JprintPlain, JprintBack.
The row of JprintPlain.
-/
import Derived.Test.YtaoejccgdpppgaaGreatDoorPE
import Derived.Test.YtaoejccgdpppgaaGreatDoorPG
import Derived.Test.YtaoejccgdpppgaaGreatDoorPH
import Derived.Test.YtaoejccgdpppgaaGreatDoorPI
import Derived.Test.YtaoejccgdpppgaaGreatDoorPK
import Derived.Test.YtaoejccgdpppgaaGreatDoorPF
import Derived.Test.YtaoejccgdpppgaaGreatDoorPL

section
namespace Go.Am
end Go.Am
end

section
namespace Go.Proofs.YtaoejccgdpppgaaGreatDoor
open Go Go.Am
set_option maxRecDepth 100000
end Go.Proofs.YtaoejccgdpppgaaGreatDoor
end

section
namespace Go.Am
open Go
inductive Vd : Str → Prop
  | nil : Vd []
  | step {c : UInt8} {cs : Str} (h : (utfTake (c :: cs)).2 ≠ 0) (r : Vd ((c :: cs).drop (stepN (c :: cs)))) : Vd (c :: cs)
theorem stepN_of {s : Str} (h : (utfTake s).2 ≠ 0) : stepN s = (utfTake s).2.toNat := by unfold stepN; have := utfTake_n s; omega
theorem vd_of_scan : ∀ (q : Nat) (s : Str), s.length ≤ q → (utfScan q s 0).2 = true → Vd s
  | _, [], _, _ => .nil
  | 0, c :: cs, h, _ => by simp at h
  | q + 1, c :: cs, h, hs => by
    obtain ⟨h0, h1⟩ := scan_cons hs
    have := stepN_pos (c :: cs)
    exact .step h0 (vd_of_scan q _ (by rw [List.length_drop]; simp only [List.length_cons] at h ⊢; omega) h1)
theorem scan_of_vd {s : Str} (h : Vd s) : ∀ (q : Nat) (p : Int), (utfScan q s p).2 = true := by
  induction h with
  | nil => intro q p; cases q <;> rfl
  | @step c cs h r ih =>
    intro q p
    cases q with
    | zero => rfl
    | succ q =>
      unfold utfScan
      simp only []
      rw [if_neg h, ← stepN_of h]
      exact ih q _
theorem vd_valid {s : Str} (h : (utfValid s).2 = true) : Vd s := vd_of_scan _ _ (Nat.le_refl _) h
theorem valid_vd {s : Str} (h : Vd s) : (utfValid s).2 = true := scan_of_vd h _ _
theorem vd_str {s : Str} (h : strOk s = true) : Vd s := by
  unfold strOk at h
  rw [Bool.and_eq_true] at h
  exact vd_valid h.2
theorem Vd.app {s r : Str} (h : Vd s) (g : Vd r) : Vd (s ++ r) := by
  induction h with
  | nil => exact g
  | @step c cs h0 _ ih =>
    have e := utfTake_app r h0
    rw [List.cons_append] at e ⊢
    have hle := stepN_le c cs
    have e2 : stepN (c :: (cs ++ r)) = stepN (c :: cs) := by unfold stepN; rw [e]
    refine .step (by rw [e]; exact h0) ?_
    rw [e2, ← List.cons_append, List.drop_append_of_le_length hle]
    exact ih
theorem vd_low {c : UInt8} {s : Str} (hc : c.toNat < 128) (h : Vd s) : Vd (c :: s) := by
  have e := take_low hc s
  refine .step (by rw [e]; simp) ?_
  have : stepN (c :: s) = 1 := by unfold stepN; rw [e]; rfl
  rw [this]
  exact h
theorem vd_asc {s : Str} (h : ∀ b ∈ s, b.toNat < 128) : Vd s := by
  induction s with
  | nil => exact .nil
  | cons c s ih => exact vd_low (h c (by simp)) (ih fun b hb => h b (by simp [hb]))
theorem vd_one {c : UInt8} {cs : Str} (h : (utfTake (c :: cs)).2 ≠ 0) : Vd ((c :: cs).take (stepN (c :: cs))) := by
  have hp := utfTake_pre c cs
  have h1 := stepN_pos (c :: cs)
  obtain ⟨m, hm⟩ : ∃ m, stepN (c :: cs) = m + 1 := ⟨stepN (c :: cs) - 1, by omega⟩
  rw [hm, List.take_succ_cons] at hp ⊢
  have hs : stepN (c :: cs.take m) = stepN (c :: cs) := by unfold stepN; rw [hp]
  refine .step (by rw [hp]; exact h) ?_
  rw [hs, hm, List.drop_eq_nil_of_le (by simp only [List.length_cons, List.length_take]; omega)]
  exact .nil
theorem vd_unit {c : UInt8} {cs : Str} (h : (utfTake (c :: cs)).2 ≠ 0) : Vd (unitL (c :: cs)) := by
  rcases unit_form c cs h with ⟨hc, _, e⟩ | ⟨_, e, _⟩
  · rw [e]
    refine vd_asc ?_
    have key : ∀ k : Nat, k < 128 → ∀ b ∈ q1 (UInt8.ofNat k), b.toNat < 128 := by decide +kernel
    have := key c.toNat hc
    rwa [u8_of] at this
  · rw [e]; exact vd_one h
theorem vd_quoteL {s : Str} (h : Vd s) : ∀ q, Vd (quoteL q s) := by
  induction h with
  | nil => intro q; cases q <;> exact .nil
  | @step c cs h0 _ ih =>
    intro q
    cases q with
    | zero => exact .nil
    | succ q => exact (vd_unit h0).app (ih q)
theorem vd_quote {s : Str} (h : strOk s = true) : Vd (quoteS s) := vd_low (c := 34) (by decide) ((vd_quoteL (vd_str h) _).app (vd_asc (by decide)))
theorem vd_nc {s : Str} (h : Nc s) : Vd s := vd_asc fun b hb => by
  have := h b hb
  unfold numCh at this
  have := of_decide_eq_true this
  omega
theorem vd_line (d : Int) : Vd (lineL d) := by
  refine vd_asc ?_
  unfold lineL
  split
  · simp
  · intro b hb
    rcases List.mem_cons.1 hb with rfl | hb
    · decide
    · have : ∀ n : Nat, ∀ b ∈ Lib.repeatL [32, 32] n, b = 32 := by
        intro n
        induction n with
        | zero => simp [Lib.repeatL]
        | succ n ih =>
          intro b hb
          rcases List.mem_append.1 (show b ∈ [32, 32] ++ Lib.repeatL [32, 32] n from hb) with hb | hb
          · simpa using hb
          · exact ih b hb
      rw [this _ b hb]; decide
theorem vd_colon (d : Int) : Vd (colonL d) := by
  refine vd_asc ?_
  unfold colonL
  split <;> decide
theorem vd_printL (d : Int) : ∀ (l : List Tree) (f : Bool), (∀ x ∈ l, ∀ d, Vd (printT x d)) → Vd (printL f l d)
  | [], _, _ => .nil
  | x :: l, f, h => by
    rw [printL]
    refine Vd.app ?_ ((vd_line d).app ((h x (by simp) d).app (vd_printL d l false fun y hy => h y (by simp [hy]))))
    split
    · exact .nil
    · exact vd_asc (by decide)
theorem vd_printM (d : Int) : ∀ (l : List (Str × Tree)) (f : Bool), (∀ x ∈ l, strOk x.1 = true ∧ ∀ d, Vd (printT x.2 d)) → Vd (printM f l d)
  | [], _, _ => .nil
  | (k, x) :: l, f, h => by
    obtain ⟨h1, h2⟩ := h (k, x) (by simp)
    rw [printM, printP]
    refine Vd.app ?_ ((vd_line d).app (((vd_quote h1).app ((vd_colon d).app (h2 d))).app (vd_printM d l false fun y hy => h y (by simp [hy]))))
    split
    · exact .nil
    · exact vd_asc (by decide)
theorem vd_print : ∀ t : Tree, goodT t = true → ∀ d, Vd (printT t d) := by
  refine Tree.ind fun t hl hm hg d => ?_
  obtain ⟨h1, h2, hr, gl, gm⟩ := goodT_spec hg
  rw [printT_eq]
  split
  · exact vd_asc (by decide)
  split
  · split <;> exact vd_asc (by decide)
  split
  · exact vd_nc (nc_itoa _)
  split
  · rename_i hk
    rw [hk] at h2
    unfold nodeOk at h2
    rw [if_neg (by omega), if_neg (by omega), if_pos rfl, Bool.and_eq_true] at h2
    exact vd_nc (nc_num h2.1)
  split
  · rename_i hk
    refine vd_quote ?_
    rcases hk with hk | hk
    · rw [hk] at h2
      unfold nodeOk at h2
      rwa [if_neg (by omega), if_neg (by omega), if_neg (by omega), if_pos rfl] at h2
    · rw [hk] at h2
      unfold nodeOk at h2
      rw [if_neg (by omega), if_neg (by omega), if_neg (by omega), if_neg (by omega), if_pos rfl] at h2
      exact stamp_str h2
  split
  · split
    · exact vd_asc (by decide)
    · exact vd_low (by decide) ((vd_printM _ _ _ fun x hx => ⟨(gm x hx).1, hm x hx (gm x hx).2⟩).app ((vd_line d).app (vd_asc (by decide))))
  · split
    · exact vd_asc (by decide)
    · exact vd_low (by decide) ((vd_printL _ _ _ fun x hx => hl x hx (gl x hx)).app ((vd_line d).app (vd_asc (by decide))))
theorem ge_printL {d : Int} (hd : d < 0) : ∀ (l : List Tree) (f : Bool), (∀ x ∈ l, Ge 32 (printT x d)) → Ge 32 (printL f l d)
  | [], _, _ => Ge.nil
  | x :: l, f, h => by
    rw [printL]
    have hz : lineL d = [] := by unfold lineL; rw [if_pos hd]
    rw [hz]
    refine Ge.app ?_ (Ge.app Ge.nil ((h x (by simp)).app (ge_printL hd l false fun y hy => h y (by simp [hy]))))
    split
    · exact Ge.nil
    · exact Ge.cons (by decide) Ge.nil
theorem ge_printM {d : Int} (hd : d < 0) : ∀ (l : List (Str × Tree)) (f : Bool), (∀ x ∈ l, Ge 32 (printT x.2 d)) → Ge 32 (printM f l d)
  | [], _, _ => Ge.nil
  | (k, x) :: l, f, h => by
    rw [printM, printP]
    have hz : lineL d = [] := by unfold lineL; rw [if_pos hd]
    have hc : colonL d = [58] := by unfold colonL; rw [if_neg (by omega)]
    rw [hz, hc]
    refine Ge.app ?_ (Ge.app Ge.nil (((ge_quote k).app (Ge.app (Ge.cons (by decide) Ge.nil) (h (k, x) (by simp)))).app (ge_printM hd l false fun y hy => h y (by simp [hy]))))
    split
    · exact Ge.nil
    · exact Ge.cons (by decide) Ge.nil
theorem Ge.le {n m : Nat} {s : Str} (h : Ge n s) (hm : m ≤ n) : Ge m s := fun b hb => Nat.le_trans hm (h b hb)
theorem ge_print : ∀ t : Tree, goodT t = true → Ge 32 (printT t (-1)) := by
  refine Tree.ind fun t hl hm hg => ?_
  obtain ⟨h1, h2, hr, gl, gm⟩ := goodT_spec hg
  have hdp : deeper (-1) = -1 := rfl
  have hz : lineL (-1) = [] := rfl
  rw [printT_eq]
  split
  · exact (by decide : ∀ b ∈ ([110, 117, 108, 108] : Str), 32 ≤ b.toNat)
  split
  · split
    · exact (by decide : ∀ b ∈ ([116, 114, 117, 101] : Str), 32 ≤ b.toNat)
    · exact (by decide : ∀ b ∈ ([102, 97, 108, 115, 101] : Str), 32 ≤ b.toNat)
  split
  · exact (ge_itoa _).le (by omega)
  split
  · rename_i hk
    rw [hk] at h2
    unfold nodeOk at h2
    rw [if_neg (by omega), if_neg (by omega), if_pos rfl, Bool.and_eq_true] at h2
    exact (ge_num h2.1).le (by omega)
  split
  · exact ge_quote _
  split
  · split
    · exact (by decide : ∀ b ∈ ([123, 125] : Str), 32 ≤ b.toNat)
    · rw [hdp, hz]
      exact Ge.cons (by decide) ((ge_printM (by omega) _ _ fun x hx => hm x hx (gm x hx).2).app (Ge.app Ge.nil (Ge.cons (by decide) Ge.nil)))
  · split
    · exact (by decide : ∀ b ∈ ([91, 93] : Str), 32 ≤ b.toNat)
    · rw [hdp, hz]
      exact Ge.cons (by decide) ((ge_printL (by omega) _ _ fun x hx => hl x hx (gl x hx)).app (Ge.app Ge.nil (Ge.cons (by decide) Ge.nil)))
theorem steep_nodes : ∀ (t : Tree) (d n : Int), 0 ≤ n → (steep t d n).1 = false → t.nodes + (steep t d n).2 = n ∧ t.depth ≤ d := by
  have hL : ∀ (l : List Tree), (∀ x ∈ l, ∀ d n : Int, 0 ≤ n → (steep x d n).1 = false → x.nodes + (steep x d n).2 = n ∧ x.depth ≤ d) → ∀ d n : Int, 0 ≤ n → 0 ≤ d → (steepL l d n).1 = false → Tree.nodesL l + (steepL l d n).2 = n ∧ Tree.depthL l ≤ d := by
    intro l
    induction l with
    | nil => intro _ d n _ hd _; simp [steepL, Tree.nodesL, Tree.depthL, hd]
    | cons x l ih =>
      intro h d n hn hd hs
      rw [steepL_cons] at hs ⊢
      split at hs
      · simp at hs
      · rename_i h1
        rw [if_neg h1]
        have h2 := h x (by simp) d n hn (by simpa using h1)
        have h3 := ih (fun y hy => h y (by simp [hy])) d (steep x d n).2 (steep_ok x d n hn).1 hd hs
        simp only [Tree.nodesL, Tree.depthL]
        omega
  have hM : ∀ (l : List (Str × Tree)), (∀ x ∈ l, ∀ d n : Int, 0 ≤ n → (steep x.2 d n).1 = false → x.2.nodes + (steep x.2 d n).2 = n ∧ x.2.depth ≤ d) → ∀ d n : Int, 0 ≤ n → 0 ≤ d → (steepM l d n).1 = false → Tree.nodesM l + (steepM l d n).2 = n ∧ Tree.depthM l ≤ d := by
    intro l
    induction l with
    | nil => intro _ d n _ hd _; simp [steepM, Tree.nodesM, Tree.depthM, hd]
    | cons x l ih =>
      intro h d n hn hd hs
      rw [steepM_cons] at hs ⊢
      split at hs
      · simp at hs
      · rename_i h1
        rw [if_neg h1]
        have h2 := h x (by simp) d n hn (by simpa using h1)
        have h3 := ih (fun y hy => h y (by simp [hy])) d (steep x.2 d n).2 (steep_ok x.2 d n hn).1 hd hs
        obtain ⟨k, x⟩ := x
        simp only [Tree.nodesM, Tree.depthM, Tree.nodesP, Tree.depthP] at *
        omega
  refine Tree.ind fun t hl hm d n hn hs => ?_
  obtain ⟨k, z, s, l, m⟩ := t
  rw [steep_mk] at hs ⊢
  split at hs
  · simp at hs
  rename_i h0
  rw [if_neg h0]
  split at hs
  · simp at hs
  rename_i h1
  rw [if_neg h1]
  have ok1 : 0 ≤ (steepL l (d - 1) (n - 1)).2 := (steepL_ok (fun t _ d n hn => steep_ok t d n hn) (d - 1) (n - 1) (by omega)).1
  have h2 := hL l hl (d - 1) (n - 1) (by omega) (by omega) (by simpa using h1)
  have h3 := hM m hm (d - 1) _ ok1 (by omega) hs
  simp only [Tree.nodes, Tree.depth]
  omega
theorem parse_print {t : Tree} (hg : goodT t = true) (d : Int) (hlen : (printT t d).length ≤ 65536) (hn : t.nodes ≤ 4096) (hd : t.depth ≤ 32) : parseS (printT t d) = (unst t, 0, 0) := by
  have hv := valid_vd (vd_print t hg d)
  have hne : printT t d ≠ [] := printT_ne hg d
  have hsk : skipB (printT t d) = printT t d := by have := print_skip hg d []; rwa [List.append_nil] at this
  have hwz : whileL (printT t d) blanksB = 0 := by
    have h1 := skip_drop (printT t d)
    rw [hsk] at h1
    have h2 := congrArg List.length h1
    rw [List.length_drop] at h2
    have : 0 < (printT t d).length := List.length_pos_iff.2 hne
    omega
  have hlx := lex_tree t d [] [] hg (.inl rfl) .nil
  rw [List.append_nil, List.append_nil] at hlx
  have hj : judgeS (printT t d) = (0, 0) := by
    unfold judgeS
    rw [if_neg (by omega), if_neg (by rw [hv]; decide)]
  obtain ⟨l, hc, hl⟩ := cutL_lexes hlx ((printT t d).length + 1) (printT t d) 0 [] rfl (by omega) (by omega)
  have hcut : cutT (printT t d) = (l ++ [⟨0, [], (printT t d).length⟩], 0, 0) := by
    unfold cutT
    rw [hj, if_neg (by decide), hwz, hc, if_neg (by simp), List.nil_append]
  unfold parseS
  rw [hcut, if_pos rfl]
  unfold wholeS
  have hll : l.length = (wordsT t).length := by rw [← hl, List.length_map]
  have hr := read_tree t (3 * (l ++ [(⟨0, [], (printT t d).length⟩ : Wd)]).length + 1) (l ++ [⟨0, [], (printT t d).length⟩]) 1 0 0 [(0, [])] hg (by simp [hl, kp]) (by rw [List.length_append]; omega) (by omega) (by omega)
  rw [hr]
  simp only []
  have hat : wdAt (l ++ [(⟨0, [], (printT t d).length⟩ : Wd)]) (0 + (wordsT t).length) = ⟨0, [], (printT t d).length⟩ := by
    unfold wdAt
    rw [Nat.zero_add, ← hll]
    simp
  rw [hat, if_pos rfl]
theorem short_L : ∀ (l : List Tree) (f : Bool), (∀ x ∈ l, (printT x (-1)).length + 41000 ≤ 82000 * x.nodes) → (printL f l (-1)).length ≤ 82000 * Tree.nodesL l
  | [], f, _ => by simp [printL]
  | x :: l, f, h => by
    have h1 := h x (by simp)
    have h2 := short_L l false fun y hy => h y (by simp [hy])
    rw [printL, Tree.nodesL]
    have hz : lineL (-1) = [] := rfl
    have hf : (if f = true then ([] : Str) else [44]).length ≤ 1 := by split <;> simp
    simp only [List.length_append, hz, List.length_nil]
    omega
theorem short_M : ∀ (l : List (Str × Tree)) (f : Bool), (∀ x ∈ l, strOk x.1 = true ∧ (printT x.2 (-1)).length + 41000 ≤ 82000 * x.2.nodes) → (printM f l (-1)).length ≤ 82000 * Tree.nodesM l
  | [], f, _ => by simp [printM]
  | (k, x) :: l, f, h => by
    obtain ⟨h0, h1⟩ := h (k, x) (by simp)
    have h2 := short_M l false fun y hy => h y (by simp [hy])
    have h3 := strOk_len h0
    have h4 := quoteS_len k
    simp only [] at h1 h3
    rw [printM, printP, Tree.nodesM, Tree.nodesP]
    have hz : lineL (-1) = [] := rfl
    have hc : colonL (-1) = [58] := rfl
    have hf : (if f = true then ([] : Str) else [44]).length ≤ 1 := by split <;> simp
    simp only [List.length_append, hz, hc, List.length_nil, List.length_singleton]
    omega
theorem print_short : ∀ t : Tree, goodT t = true → (printT t (-1)).length + 41000 ≤ 82000 * t.nodes := by
  refine Tree.ind fun t hl hm hg => ?_
  obtain ⟨h1, h2, hr, gl, gm⟩ := goodT_spec hg
  have hL := short_L t.l true fun x hx => hl x hx (gl x hx)
  have hM := short_M t.m true fun x hx => ⟨(gm x hx).1, hm x hx (gm x hx).2⟩
  have hp := nodes_eq t
  have hdp : deeper (-1) = -1 := rfl
  have hz : lineL (-1) = [] := rfl
  rw [printT_eq]
  split
  · simp only [List.length_cons, List.length_nil]; omega
  split
  · split <;> (simp only [List.length_cons, List.length_nil]; omega)
  split
  · have := (numL_asc (numL_itoa hr.1 hr.2)).1
    omega
  split
  · rename_i hk
    rw [hk] at h2
    unfold nodeOk at h2
    rw [if_neg (by omega), if_neg (by omega), if_pos rfl, Bool.and_eq_true] at h2
    have := (numL_asc h2.1).1
    omega
  split
  · rename_i hk
    have hs : t.s.length ≤ 4096 := by
      rcases hk with hk | hk
      · rw [hk] at h2
        unfold nodeOk at h2
        rw [if_neg (by omega), if_neg (by omega), if_neg (by omega), if_pos rfl] at h2
        exact strOk_len h2
      · rw [hk] at h2
        unfold nodeOk at h2
        rw [if_neg (by omega), if_neg (by omega), if_neg (by omega), if_neg (by omega), if_pos rfl] at h2
        have := stampOk_len h2
        omega
    have := quoteS_len t.s
    omega
  split
  · split
    · simp only [List.length_cons, List.length_nil]; omega
    · rw [hdp, hz]
      simp only [List.length_cons, List.length_append, List.length_nil]
      omega
  · split
    · simp only [List.length_cons, List.length_nil]; omega
    · rw [hdp, hz]
      simp only [List.length_cons, List.length_append, List.length_nil]
      omega
end Go.Am
end

section
namespace Go.Proofs.YtaoejccgdpppgaaGreatDoor
open Go Go.Am
set_option maxRecDepth 100000
theorem plain_scan (v : PV) (s : Str) (hs : s.length ≤ 70368744177664) (hge : Ge 32 s) (K : Post) (h0 : K (.exit 0) [(1, .ptr 0 0), (3, .p (.str s))] [.var T.api_Value (.p v)] []) :
    ∀ (q i : Nat), i + q = s.length → LoopW PP GG 42 0 (loopN F.law9_JprintPlain_c 0) [(1, .ptr 0 0), (3, .p (.str s)), (4, .p (.int .i64 i))] [.var T.api_Value (.p v)] [] (PostCl 42 K) := by
  intro q
  induction q with
  | zero =>
    intro i hi
    refine LoopW.round (pol := polG) mixP ?_
    conv => whnf
    repeat' ((first
     | ((with_reducible first | refine Br.dec ?_ ?_ | refine Br.ndec ?_ ?_) <;> intro hb <;> (try simp only [ZZ] at hb) <;> (first | omega | skip))
     | (with_reducible first | refine Br.tt rfl ?_ | refine Br.ff rfl ?_ | refine Br.ff (isEmptyCons _ _) ?_)
     | (refine Side.mk ?_ ?_; focus (first | omega | (dsimp only [InR, Int.reduceToNat, IntKind.bits, Int.reducePow]; omega) | (simp [CC]; done) | (constructor <;> omega)))
     | (refine Br.mk ?_ ?_ <;> intro hb <;> (try simp only [ZZ] at hb) <;> (first | omega | skip))
     | refine Src.whole ⟨rfl, rfl⟩ ?_ | refine FrzV.whole ?_) <;> conv => whnf)
    · refine PostCl.of (h0) ?_ ?_
      · repeat first | exact trivial | refine ⟨VLe.refl _, ?_⟩
      · repeat first | exact trivial | refine ⟨by decide, ?_⟩
  | succ q ih =>
    intro i hi
    obtain ⟨x, hx⟩ : ∃ x, s[i]? = some x := ⟨_, List.getElem?_eq_getElem (show i < s.length by omega)⟩
    have hgd : s.getD (i : Int).toNat 0 = x := by rw [Int.toNat_natCast]; exact getD_of hx
    have hxg : 32 ≤ x.toNat := hge x (List.mem_of_getElem? hx)
    refine LoopW.round (pol := polG) mixP ?_
    conv => whnf
    repeat' ((first
     | ((with_reducible first | refine Br.dec ?_ ?_ | refine Br.ndec ?_ ?_) <;> intro hb <;> (try simp only [And.intro @hgd (ZZ)] at hb) <;> (first | omega | skip))
     | (with_reducible first | refine Br.tt rfl ?_ | refine Br.ff rfl ?_ | refine Br.ff (isEmptyCons _ _) ?_)
     | (refine Side.mk ?_ ?_; focus (first | omega | (dsimp only [InR, Int.reduceToNat, IntKind.bits, Int.reducePow]; omega) | (simp [CC]; done) | (constructor <;> omega)))
     | (refine Br.mk ?_ ?_ <;> intro hb <;> (try simp only [And.intro @hgd (ZZ)] at hb) <;> (first | omega | skip))
     | refine Src.whole ⟨rfl, rfl⟩ ?_ | refine FrzV.whole ?_) <;> conv => whnf)
    refine LoopW.sub (ih (i + 1) (by omega)) (by repeat first | exact trivial | refine ⟨VLe.refl _, ?_⟩) (by repeat first | exact trivial | refine ⟨by decide, ?_⟩)
theorem law9_JprintPlain (t : Tree) (hw : t.wt ≤ 1100000) (ho : okT t = true) : AbsCall PP GG F.law9_JprintPlain [.p t.enc] [] ⟨.ret (.p (.bool true)), [], []⟩ := by
  have hC := jprint_Compact t hw ho
  rw [textT_eq] at hC
  have hH := ref1_Heavy t 200 32 (by omega) (by omega) (by omega)
  have hV := ref1_Value t (by omega)
  have hsc := plain_scan t.enc
  cases hh : (steep t 32 200).1 with
  | true =>
    rw [hh] at hH
    rw [Tree.enc_eta t] at hH ⊢
    refine absCall_of (pol := polG) mixP F.law9_JprintPlain_is ?_
    conv => whnf
    repeat' ((first
     | ((with_reducible first | refine Br.dec ?_ ?_ | refine Br.ndec ?_ ?_) <;> intro hb <;> (try simp only [ZZ] at hb) <;> (first | omega | contradiction | skip))
     | (with_reducible first | refine Br.tt rfl ?_ | refine Br.ff rfl ?_ | refine Br.ff (isEmptyCons _ _) ?_)
     | (refine Side.mk ?_ ?_; focus (first | omega | (dsimp only [InR, Int.reduceToNat, IntKind.bits, Int.reducePow]; omega) | (simp [CC]; done) | (constructor <;> omega)))
     | with_reducible refine Br.not ?_
     | (with_reducible first | refine Br.tt (by assumption) ?_ | refine Br.ff (by assumption) ?_)
     | (refine Br.mk ?_ ?_ <;> intro hb <;> (try simp only [ZZ] at hb) <;> (first | omega | contradiction | skip))
     | refine Src.whole ⟨rfl, rfl⟩ ?_ | refine FrzV.whole ?_
     | refine CallW.use (law9_awake) ?_
     | refine CallW.use (hH) ?_) <;> conv => whnf)
    all_goals exact CLe.retP rfl
  | false =>
  rw [hh] at hH
  cases hg : (!(steep t 32 4096).1 && plainT t) with
  | false =>
    rw [hg] at hV
    rw [Tree.enc_eta t] at hH hV ⊢
    refine absCall_of (pol := polG) mixP F.law9_JprintPlain_is ?_
    conv => whnf
    repeat' ((first
     | ((with_reducible first | refine Br.dec ?_ ?_ | refine Br.ndec ?_ ?_) <;> intro hb <;> (try simp only [ZZ] at hb) <;> (first | omega | contradiction | skip))
     | (with_reducible first | refine Br.tt rfl ?_ | refine Br.ff rfl ?_ | refine Br.ff (isEmptyCons _ _) ?_)
     | (refine Side.mk ?_ ?_; focus (first | omega | (dsimp only [InR, Int.reduceToNat, IntKind.bits, Int.reducePow]; omega) | (simp [CC]; done) | (constructor <;> omega)))
     | with_reducible refine Br.not ?_
     | (with_reducible first | refine Br.tt (by assumption) ?_ | refine Br.ff (by assumption) ?_)
     | (refine Br.mk ?_ ?_ <;> intro hb <;> (try simp only [ZZ] at hb) <;> (first | omega | contradiction | skip))
     | refine Src.whole ⟨rfl, rfl⟩ ?_ | refine FrzV.whole ?_
     | refine CallW.use (law9_awake) ?_
     | refine CallW.use (hH) ?_
     | refine CallW.use (hV) ?_) <;> conv => whnf)
    all_goals exact CLe.retP rfl
  | true =>
    rw [hg] at hC hV
    rw [if_pos rfl] at hC
    rw [Bool.and_eq_true] at hg
    have hgt : goodT t = true := by unfold goodT; rw [hg.2, ho]; rfl
    have hwp := t.wt_pos
    have hl1 := printT_len t (by omega) (-1) (by omega) hgt (by omega)
    have hge := ge_print t hgt
    have hvd := valid_vd (vd_print t hgt (-1))
    have hne := printT_ne hgt (-1)
    have hst := steep_nodes t 32 200 (by omega) hh
    have hso := (steep_ok t 32 200 (by omega)).1
    have hpp := fun h => parse_print hgt (-1) h (by omega) (by omega)
    have hsh := print_short t hgt
    rw [show dd false 0 = -1 from rfl] at hC
    generalize printT t (-1) = s at *
    have hpos : 0 < s.length := List.length_pos_iff.2 hne
    have hRV := ref1_Valid s (by omega)
    have hrv : refValid s < 0 := by have := refValid_neg s; rw [hvd] at this; exact of_decide_eq_true this
    have hlp := hsc s (by omega) hge
    rw [Tree.enc_eta t] at hC hH hV hlp ⊢
    by_cases hL : s.length ≤ 65536
    · have hPV := jread_Valid s (by omega)
      rw [hpp hL] at hPV
      refine absCall_of (pol := polG) mixP F.law9_JprintPlain_is ?_
      conv => whnf
      repeat' ((first
       | ((with_reducible first | refine Br.dec ?_ ?_ | refine Br.ndec ?_ ?_) <;> intro hb <;> (try simp only [ZZ] at hb) <;> (first | omega | contradiction | skip))
       | (with_reducible first | refine Br.tt rfl ?_ | refine Br.ff rfl ?_ | refine Br.ff (isEmptyCons _ _) ?_)
       | (refine Side.mk ?_ ?_; focus (first | omega | (dsimp only [InR, Int.reduceToNat, IntKind.bits, Int.reducePow]; omega) | (simp [CC]; done) | (constructor <;> omega)))
       | with_reducible refine Br.not ?_
       | (with_reducible first | refine Br.tt (by assumption) ?_ | refine Br.ff (by assumption) ?_)
       | (refine Br.mk ?_ ?_ <;> intro hb <;> (try simp only [ZZ] at hb) <;> (first | omega | contradiction | skip))
       | refine Src.whole ⟨rfl, rfl⟩ ?_ | refine FrzV.whole ?_
       | refine CallW.use (law9_awake) ?_
       | refine CallW.use (hH) ?_
       | refine CallW.use (hV) ?_
       | refine CallW.use (hC) ?_) <;> conv => whnf)
      refine LoopW.cl ?_
      refine LoopW.sub (hlp _ ?_ s.length 0 (by omega)) (by repeat first | exact trivial | refine ⟨VLe.refl _, ?_⟩) (by repeat first | exact trivial | refine ⟨by decide, ?_⟩)
      conv => whnf
      repeat' ((first
       | ((with_reducible first | refine Br.dec ?_ ?_ | refine Br.ndec ?_ ?_) <;> intro hb <;> (try simp only [ZZ] at hb) <;> (first | omega | contradiction | skip))
       | (with_reducible first | refine Br.tt rfl ?_ | refine Br.ff rfl ?_ | refine Br.ff (isEmptyCons _ _) ?_)
       | (refine Side.mk ?_ ?_; focus (first | omega | (dsimp only [InR, Int.reduceToNat, IntKind.bits, Int.reducePow]; omega) | (simp [CC]; done) | (constructor <;> omega)))
       | with_reducible refine Br.not ?_
       | (with_reducible first | refine Br.tt (by assumption) ?_ | refine Br.ff (by assumption) ?_)
       | (refine Br.mk ?_ ?_ <;> intro hb <;> (try simp only [ZZ] at hb) <;> (first | omega | contradiction | skip))
       | refine Src.whole ⟨rfl, rfl⟩ ?_ | refine FrzV.whole ?_
       | refine CallW.use (hRV) ?_
       | refine CallW.use (hPV) ?_) <;> conv => whnf)
      all_goals
        first
        | exact CLe.retP rfl
        | (refine CLe.retP ?_; (simp [hne]; done))
    · refine absCall_of (pol := polG) mixP F.law9_JprintPlain_is ?_
      conv => whnf
      repeat' ((first
       | ((with_reducible first | refine Br.dec ?_ ?_ | refine Br.ndec ?_ ?_) <;> intro hb <;> (try simp only [ZZ] at hb) <;> (first | omega | contradiction | skip))
       | (with_reducible first | refine Br.tt rfl ?_ | refine Br.ff rfl ?_ | refine Br.ff (isEmptyCons _ _) ?_)
       | (refine Side.mk ?_ ?_; focus (first | omega | (dsimp only [InR, Int.reduceToNat, IntKind.bits, Int.reducePow]; omega) | (simp [CC]; done) | (constructor <;> omega)))
       | with_reducible refine Br.not ?_
       | (with_reducible first | refine Br.tt (by assumption) ?_ | refine Br.ff (by assumption) ?_)
       | (refine Br.mk ?_ ?_ <;> intro hb <;> (try simp only [ZZ] at hb) <;> (first | omega | contradiction | skip))
       | refine Src.whole ⟨rfl, rfl⟩ ?_ | refine FrzV.whole ?_
       | refine CallW.use (law9_awake) ?_
       | refine CallW.use (hH) ?_
       | refine CallW.use (hV) ?_
       | refine CallW.use (hC) ?_) <;> conv => whnf)
      refine LoopW.cl ?_
      refine LoopW.sub (hlp _ ?_ s.length 0 (by omega)) (by repeat first | exact trivial | refine ⟨VLe.refl _, ?_⟩) (by repeat first | exact trivial | refine ⟨by decide, ?_⟩)
      conv => whnf
      repeat' ((first
       | ((with_reducible first | refine Br.dec ?_ ?_ | refine Br.ndec ?_ ?_) <;> intro hb <;> (try simp only [ZZ] at hb) <;> (first | omega | contradiction | skip))
       | (with_reducible first | refine Br.tt rfl ?_ | refine Br.ff rfl ?_ | refine Br.ff (isEmptyCons _ _) ?_)
       | (refine Side.mk ?_ ?_; focus (first | omega | (dsimp only [InR, Int.reduceToNat, IntKind.bits, Int.reducePow]; omega) | (simp [CC]; done) | (constructor <;> omega)))
       | with_reducible refine Br.not ?_
       | (with_reducible first | refine Br.tt (by assumption) ?_ | refine Br.ff (by assumption) ?_)
       | (refine Br.mk ?_ ?_ <;> intro hb <;> (try simp only [ZZ] at hb) <;> (first | omega | contradiction | skip))
       | refine Src.whole ⟨rfl, rfl⟩ ?_ | refine FrzV.whole ?_
       | refine CallW.use (hRV) ?_) <;> conv => whnf)
      all_goals
        first
        | exact CLe.retP rfl
        | (refine CLe.retP ?_; (simp [hne]; omega))
end Go.Proofs.YtaoejccgdpppgaaGreatDoor
end

section
namespace Go.Proofs.YtaoejccgdpppgaaGreatDoor
open Go.ChangeShapes Go.WideShapes Go.ChangeAt Go.RowKit Go.Am
set_option maxRecDepth 100000
theorem jprintPlain_contract (H : Type) (enc : TypeId × Value → H) (W : World) (args : Array Value) (ds gs : List (DataW H)) (before : List MemPlace)
    (hW : DataW.Whole enc PP Tryz.f9.params.toList Rows.jprintPlainSpec.vars false W args.toList ds gs before) (hL : laidMetH PP Rows.jprintPlainRow.laid W) (hk : Rows.uptoBulkAll ds ≤ 1048576) :
    Calls PP F.law9_JprintPlain args W fun e W' => ∃ v, e = .returned v ∧ Rows.jprintPlainSpec.post enc PP Tryz.f9 false true false false W args v W' := by
  have hW' := hW
  have hlt := hW.lt
  obtain ⟨p, q, hA0, hV, rfl, hfz, hnd⟩ := hW
  have hA : DataW.TrodAll enc PP W 0 (fun _ => true) true Tryz.f9.params.toList args.toList ds p := hA0
  rw [Tryz.params9] at hA
  obtain ⟨v0, vs0, d0, ds0, p0, q0, hargs, rfl, rfl, h0, r0⟩ := trodAll_cons hA
  obtain ⟨rfl, rfl, rfl⟩ := trodAll_nil r0
  obtain rfl : args = #[v0] := by cases args; simp_all
  obtain ⟨rfl, rfl⟩ := trodVars_none hV
  clear hA0
  simp only [List.append_nil] at hW' hlt
  simp only [Rows.uptoBulkAll] at hk
  obtain ⟨t0, hr0, hok0, hwt0⟩ := tree_rel h0
  refine (law_call (f := F.law9_JprintPlain) (ds := [t0.enc]) (vs := [v0]) Tryz.func9 (by kernel_rfl) rfl (fun i x y hx hy => ?_) (gok_of hL (by rw [pow10_lit]; rfl) rfl rfl) (law9_JprintPlain t0 (by omega) hok0)).mono fun e W' ⟨he, hb⟩ => ?_
  · rcases i with _ | i
    · cases hx; cases hy; exact hr0
    · simp at hx
  · subst he
    have b := Tryz.underlying4
    exact ⟨_, rfl, post_of_below (pa := p0) (pv := []) hW' (fun _ _ _ => trodAll_cons_mk (shut_bool b _) trodAll_mk0)
      (fun sp hs => trodAll_mk1 (tree_stays h0 hb (fun x hx => hlt x (by simp [hx])) (fun x hx => hs x (by simp [hx]))))
      (fun _ _ => rfl) (by simp) hb (ok_one (by kernel_rfl) rfl (okWide_bool_mk b _))⟩
theorem jprintPlain_reads (os : Os) {H : Type} (enc : TypeId × Value → H) : ∃ places, DataW.whole enc PP ((World.laidAll PP os Rows.jprintPlainUptoRow.laid).forCall (fun _ _ => 0) ⟨#[], #[nullV], []⟩).memory Tryz.f9.params.toList Rows.jprintPlainSpec.vars false (#[nullV] : Array Value).toList 8 = some ([nullD], [], places) :=
  ⟨[], by kernel_rfl⟩
theorem jprintPlain_lifted (os : Os) (started : os.Started) (H : Type) (enc : TypeId × Value → H) (Fi : Stop.Interp) :
    ReturnsInHanded {} Tryz.checked os F.law9_JprintPlain .any ((Rows.OpenSpec.upto Rows.jprintPlainSpec).preRow enc PP Tryz.f9 Rows.jprintPlainUptoRow.domain false Rows.jprintPlainUptoRow.laid) (((Rows.OpenSpec.upto Rows.jprintPlainSpec).at Fi).post enc PP Tryz.f9 false true false false) := by
  obtain ⟨places, hx⟩ := jprintPlain_reads os enc
  refine returnsInHanded_of_row (C := Tryz.checked) (s := Rows.OpenSpec.upto Rows.jprintPlainSpec) own started (by kernel_rfl) Tryz.func9
    (witness_row_atRef (enc := enc) (C := Tryz.checked) false (World.laidAll PP os Rows.jprintPlainUptoRow.laid) #[nullV] (World.laidAll_os _ _ _) (by kernel_rfl) (by kernel_rfl) (by kernel_rfl)
      (OpenSpec.preRow_of_cond 8 hx (by kernel_rfl) (fun k hk => by cases hk; kernel_rfl) (by kernel_rfl) (laidMet_laidAll _ (by kernel_rfl) (by kernel_rfl)))) ?_
  intro W base args ds gs before hval hW _ hcond _ hL _ _
  have hk := of_decide_eq_true (hcond _ rfl)
  refine jprintPlain_contract H enc W args ds gs before hW hL (Nat.le_trans ?_ hk)
  rw [bulk_append]
  exact Nat.le_add_right _ _
theorem jprintPlain_said : Rows.JprintPlainUptoSaid :=
  OpenClaim.holds_of_cond F.law9_JprintPlain Tryz.f9 rfl rfl rfl rfl rfl rfl rfl ⟨rfl, rfl, rfl, rfl, rfl⟩ rfl rfl rfl rfl rfl (by kernel_rfl) Tryz.func9 (by kernel_rfl)
    (of_decide_eq_true (by kernel_rfl)) (by unfold Func.isWrapper; first | (rw [if_pos (by decide +kernel)]; kernel_rfl) | (rw [if_neg (by decide +kernel)]; exact ⟨rfl, rfl⟩))
    (fun os started H enc _ Fi => by rw [OpenClaim.pre_eq_preRow]; exact jprintPlain_lifted os started H enc Fi)
theorem jprintPlain_plain (f : FuncId) (fn : Func) (hf : Tryz.pinned.checked.prog.funcNamed "dragoman/dragomanlaw9.JprintPlain" = some f) (hfn : Tryz.pinned.checked.prog.funcs[f]? = some fn) :
    true = Tryz.pinned.checked.prog.looks [] ∧ ∀ (j : Nat) t, fn.params[j]? = some t → Tryz.pinned.checked.prog.wantsStandIn t = false := by
  obtain rfl : f = F.law9_JprintPlain := Option.some.inj ((show PP.funcNamed "dragoman/dragomanlaw9.JprintPlain" = some F.law9_JprintPlain by kernel_rfl).symm.trans hf) |>.symm
  obtain rfl : fn = Tryz.f9 := (Option.some.inj (Tryz.func9.symm.trans hfn)).symm
  refine ⟨by kernel_rfl, fun j t ht => ?_⟩
  rw [Tryz.params9] at ht
  obtain rfl : t = T.api_Value := by simpa using Array.mem_of_getElem? ht
  exact (show PP.wantsStandIn T.api_Value = false by kernel_rfl)
theorem jprintPlain_card : Rows.JprintPlainUptoCardSaid :=
  Claim7.holds_tied_plain_at .later [] _ _ _ _ jprintPlain_said (fun _ h => by cases h) (by kernel_rfl) (fun _ h => by cases h) jprintPlainUpto_row_tie rfl ⟨rfl, rfl⟩ (by kernel_rfl) rfl jprintPlain_plain (by kernel_rfl)
end Go.Proofs.YtaoejccgdpppgaaGreatDoor
end
