/-
JreadNests. The given statement JreadNestsUptoCardSaid, proved: for every input of bulk at most 1048576, the law called with it returns true and the arguments read as they did. No further condition.
What closed texts say.
What the eighth layer's first law holds.
Texts of letters: what is written is letters, and no byte below 32 in one line.
What is written is read back (T1).
Texts whose words are known, read.
The eighth layer's laws: the known ones, numbers.
How deep a tree is: the reference's walk.
Values in values, so and so deep: as texts, read.
Rows of noughts as texts, read.
The eighth layer's laws: how deep, how many.
The row of JreadNests.
-/
import Derived.Test.YtoinkmogdfjmmaaGreatDoorPI
import Derived.WalkKit
import Derived.Test.YtoinkmogdfjmmaaGreatDoorPH
import Derived.Test.YtoinkmogdfjmmaaGreatDoorPF

section
namespace Go.Am
open Go
abbrev jrw1 : Str := [123, 34, 98, 34, 58, 49, 44, 34, 97, 34, 58, 91, 93, 125]
theorem jrp1 : parseS jrw1 = (.mk 6 0 [] [] [([97], .mk 5 0 [] [] []), ([98], .mk 2 1 [] [] [])], 0, 0) := by kernel_rfl
theorem jrf1 : faultE jrw1 (0, 0) = noFault := by kernel_rfl
theorem jrp2 : parseS [91, 49, 44, 93] = (.mk 0 0 [] [] [], 4, 3) := by kernel_rfl
theorem jrf2 : faultE [91, 49, 44, 93] (4, 3) = .agg [.int .i64 4, .int .i64 3, .int .i64 1, .int .i64 4] := by kernel_rfl
theorem jrp3 : (parseS [110, 117, 108, 108]).2 = (0, 0) := by kernel_rfl
end Go.Am
namespace Go.Am
end Go.Am
end

section
namespace Go.Proofs.YtoinkmogdfjmmaaGreatDoor
open Go Go.Am Go.RowKit
set_option maxRecDepth 100000
noncomputable def faultFs : List Field := (structF PP T.api_Fault).getD []
theorem faultF : structF PP T.api_Fault = some faultFs := by kernel_rfl
theorem StructE.fault {a b c d a' b' c' d' : Int} {Q : Bool → Prop} (q : Q (decide (a = a') && (decide (b = b') && (decide (c = c') && (decide (d = d') && true))))) :
    StructE PP T.api_Fault [.int .i64 a, .int .i64 b, .int .i64 c, .int .i64 d] [.int .i64 a', .int .i64 b', .int .i64 c', .int .i64 d'] Q := .mk faultF (by kernel_rfl) q
theorem StructE.same {a b c d : Int} {Q : Bool → Prop} (q : Q true) : StructE PP T.api_Fault [.int .i64 a, .int .i64 b, .int .i64 c, .int .i64 d] [.int .i64 a, .int .i64 b, .int .i64 c, .int .i64 d] Q   := StructE.fault (by simpa using q)
theorem StructE.other {a b c d a' b' c' d' : Int} {Q : Bool → Prop} (h : ¬ a = a') (q : Q false) :
    StructE PP T.api_Fault [.int .i64 a, .int .i64 b, .int .i64 c, .int .i64 d] [.int .i64 a', .int .i64 b', .int .i64 c', .int .i64 d'] Q   := StructE.fault (by simpa [h] using q)
theorem ElemZ.litE {l : List PV} {i n : Nat} {K : PV → Prop} {d : PV} (h : l[i]? = some d) (hc : d.cells.length = n) (k : K d) : ElemZ l i n K := ⟨d, h, hc, k⟩
theorem law8_awake : AbsCall PP GG F.law8_awake [] [] ⟨.ret (.p (.bool true)), [], []⟩ := by
  have h1 := jread_Parse jrw1 (by decide)
  rw [jrp1, jrf1, Tree.enc_eta] at h1
  simp only [Tree.kind, Tree.n, Tree.s, Tree.l, Tree.m, Tree.encM, Tree.encL, Tree.encP, Tree.enc, PV.cells, noFault] at h1
  have h2 := jread_Parse [91, 49, 44, 93] (by decide)
  rw [jrp2, jrf2, Tree.enc_eta] at h2
  simp only [Tree.kind, Tree.n, Tree.s, Tree.l, Tree.m, Tree.encM, Tree.encL, Tree.encP, Tree.enc, PV.cells, noFault] at h2
  have h3 := jread_Valid [110, 117, 108, 108] (by decide)
  rw [jrp3] at h3
  rw [show decide (((0, 0) : Int × Int).1 = 0) = true from rfl] at h3
  have hlen2 : ∀ x y : PV, (([x, y] : List PV).length : Int) = 2 := fun _ _ => rfl
  refine absCall_of (pol := polG) mixP F.law8_awake_is ?_
  conv => whnf
  repeat' ((first
   | ((with_reducible first | refine Br.dec ?_ ?_ | refine Br.ndec ?_ ?_) <;> intro hb <;> (try simp only [And.intro @hlen2 (ZZ)] at hb) <;> (first | omega | skip))
   | (with_reducible first | refine Br.tt rfl ?_ | refine Br.ff rfl ?_ | refine Br.ff (isEmptyCons _ _) ?_)
   | (refine Side.mk ?_ ?_; focus (first | omega | (dsimp only [InR, Int.reduceToNat, IntKind.bits, Int.reducePow]; omega) | exact ⟨rfl, rfl⟩ | (simp [CC]; done) | (constructor <;> omega)))
   | (refine Br.mk ?_ ?_ <;> intro hb <;> (try simp only [And.intro @hlen2 (ZZ)] at hb) <;> (first | omega | skip))
   | refine Src.whole ⟨rfl, rfl⟩ ?_ | refine FrzV.whole ?_
   | refine CallW.use (h1) ?_
   | refine CallW.use (h2) ?_
   | refine CallW.use (h3) ?_
   | (refine StructE.same ?_)
   | (refine StructE.other (by decide) ?_)
   | (refine ElemZ.litE rfl rfl ?_)) <;> conv => whnf)
  all_goals first | exact CLe.retP rfl | exact absurd trivial (by assumption)
end Go.Proofs.YtoinkmogdfjmmaaGreatDoor
end

section
namespace Go.Am
open Go
inductive Vd : Str → Prop
  | nil : Vd []
  | step {c : UInt8} {cs : Str} (h : (utfTake (c :: cs)).2 ≠ 0) (r : Vd ((c :: cs).drop (stepN (c :: cs)))) : Vd (c :: cs)
theorem stepN_of {s : Str} (h : (utfTake s).2 ≠ 0) : stepN s = (utfTake s).2.toNat := by unfold stepN; have := utfTake_n s; omega
theorem vd_of_scan : ∀ (q : Nat) (s : Str), s.length ≤ q → (utfScan q s 0).2 = true → Vd s
  | _, [], _, _ => .nil
  | 0, c :: cs, h, _ => by simp at h
  | q + 1, c :: cs, h, hs => by
    obtain ⟨h0, h1⟩ := scan_cons hs
    have := stepN_pos (c :: cs)
    exact .step h0 (vd_of_scan q _ (by rw [List.length_drop]; simp only [List.length_cons] at h ⊢; omega) h1)
theorem scan_of_vd {s : Str} (h : Vd s) : ∀ (q : Nat) (p : Int), (utfScan q s p).2 = true := by
  induction h with
  | nil => intro q p; cases q <;> rfl
  | @step c cs h r ih =>
    intro q p
    cases q with
    | zero => rfl
    | succ q =>
      unfold utfScan
      simp only []
      rw [if_neg h, ← stepN_of h]
      exact ih q _
theorem vd_valid {s : Str} (h : (utfValid s).2 = true) : Vd s := vd_of_scan _ _ (Nat.le_refl _) h
theorem valid_vd {s : Str} (h : Vd s) : (utfValid s).2 = true := scan_of_vd h _ _
theorem vd_str {s : Str} (h : strOk s = true) : Vd s := by
  unfold strOk at h
  rw [Bool.and_eq_true] at h
  exact vd_valid h.2
theorem Vd.app {s r : Str} (h : Vd s) (g : Vd r) : Vd (s ++ r) := by
  induction h with
  | nil => exact g
  | @step c cs h0 _ ih =>
    have e := utfTake_app r h0
    rw [List.cons_append] at e ⊢
    have hle := stepN_le c cs
    have e2 : stepN (c :: (cs ++ r)) = stepN (c :: cs) := by unfold stepN; rw [e]
    refine .step (by rw [e]; exact h0) ?_
    rw [e2, ← List.cons_append, List.drop_append_of_le_length hle]
    exact ih
theorem vd_low {c : UInt8} {s : Str} (hc : c.toNat < 128) (h : Vd s) : Vd (c :: s) := by
  have e := take_low hc s
  refine .step (by rw [e]; simp) ?_
  have : stepN (c :: s) = 1 := by unfold stepN; rw [e]; rfl
  rw [this]
  exact h
theorem vd_asc {s : Str} (h : ∀ b ∈ s, b.toNat < 128) : Vd s := by
  induction s with
  | nil => exact .nil
  | cons c s ih => exact vd_low (h c (by simp)) (ih fun b hb => h b (by simp [hb]))
theorem vd_one {c : UInt8} {cs : Str} (h : (utfTake (c :: cs)).2 ≠ 0) : Vd ((c :: cs).take (stepN (c :: cs))) := by
  have hp := utfTake_pre c cs
  have h1 := stepN_pos (c :: cs)
  obtain ⟨m, hm⟩ : ∃ m, stepN (c :: cs) = m + 1 := ⟨stepN (c :: cs) - 1, by omega⟩
  rw [hm, List.take_succ_cons] at hp ⊢
  have hs : stepN (c :: cs.take m) = stepN (c :: cs) := by unfold stepN; rw [hp]
  refine .step (by rw [hp]; exact h) ?_
  rw [hs, hm, List.drop_eq_nil_of_le (by simp only [List.length_cons, List.length_take]; omega)]
  exact .nil
theorem vd_unit {c : UInt8} {cs : Str} (h : (utfTake (c :: cs)).2 ≠ 0) : Vd (unitL (c :: cs)) := by
  rcases unit_form c cs h with ⟨hc, _, e⟩ | ⟨_, e, _⟩
  · rw [e]
    refine vd_asc ?_
    have key : ∀ k : Nat, k < 128 → ∀ b ∈ q1 (UInt8.ofNat k), b.toNat < 128 := by decide +kernel
    have := key c.toNat hc
    rwa [u8_of] at this
  · rw [e]; exact vd_one h
theorem vd_quoteL {s : Str} (h : Vd s) : ∀ q, Vd (quoteL q s) := by
  induction h with
  | nil => intro q; cases q <;> exact .nil
  | @step c cs h0 _ ih =>
    intro q
    cases q with
    | zero => exact .nil
    | succ q => exact (vd_unit h0).app (ih q)
theorem vd_quote {s : Str} (h : strOk s = true) : Vd (quoteS s) := vd_low (c := 34) (by decide) ((vd_quoteL (vd_str h) _).app (vd_asc (by decide)))
theorem vd_nc {s : Str} (h : Nc s) : Vd s := vd_asc fun b hb => by
  have := h b hb
  unfold numCh at this
  have := of_decide_eq_true this
  omega
theorem vd_line (d : Int) : Vd (lineL d) := by
  refine vd_asc ?_
  unfold lineL
  split
  · simp
  · intro b hb
    rcases List.mem_cons.1 hb with rfl | hb
    · decide
    · have : ∀ n : Nat, ∀ b ∈ Lib.repeatL [32, 32] n, b = 32 := by
        intro n
        induction n with
        | zero => simp [Lib.repeatL]
        | succ n ih =>
          intro b hb
          rcases List.mem_append.1 (show b ∈ [32, 32] ++ Lib.repeatL [32, 32] n from hb) with hb | hb
          · simpa using hb
          · exact ih b hb
      rw [this _ b hb]; decide
theorem vd_colon (d : Int) : Vd (colonL d) := by
  refine vd_asc ?_
  unfold colonL
  split <;> decide
theorem vd_printL (d : Int) : ∀ (l : List Tree) (f : Bool), (∀ x ∈ l, ∀ d, Vd (printT x d)) → Vd (printL f l d)
  | [], _, _ => .nil
  | x :: l, f, h => by
    rw [printL]
    refine Vd.app ?_ ((vd_line d).app ((h x (by simp) d).app (vd_printL d l false fun y hy => h y (by simp [hy]))))
    split
    · exact .nil
    · exact vd_asc (by decide)
theorem vd_printM (d : Int) : ∀ (l : List (Str × Tree)) (f : Bool), (∀ x ∈ l, strOk x.1 = true ∧ ∀ d, Vd (printT x.2 d)) → Vd (printM f l d)
  | [], _, _ => .nil
  | (k, x) :: l, f, h => by
    obtain ⟨h1, h2⟩ := h (k, x) (by simp)
    rw [printM, printP]
    refine Vd.app ?_ ((vd_line d).app (((vd_quote h1).app ((vd_colon d).app (h2 d))).app (vd_printM d l false fun y hy => h y (by simp [hy]))))
    split
    · exact .nil
    · exact vd_asc (by decide)
theorem vd_print : ∀ t : Tree, goodT t = true → ∀ d, Vd (printT t d) := by
  refine Tree.ind fun t hl hm hg d => ?_
  obtain ⟨h1, h2, hr, gl, gm⟩ := goodT_spec hg
  rw [printT_eq]
  split
  · exact vd_asc (by decide)
  split
  · split <;> exact vd_asc (by decide)
  split
  · exact vd_nc (nc_itoa _)
  split
  · rename_i hk
    rw [hk] at h2
    unfold nodeOk at h2
    rw [if_neg (by omega), if_neg (by omega), if_pos rfl, Bool.and_eq_true] at h2
    exact vd_nc (nc_num h2.1)
  split
  · rename_i hk
    refine vd_quote ?_
    rcases hk with hk | hk
    · rw [hk] at h2
      unfold nodeOk at h2
      rwa [if_neg (by omega), if_neg (by omega), if_neg (by omega), if_pos rfl] at h2
    · rw [hk] at h2
      unfold nodeOk at h2
      rw [if_neg (by omega), if_neg (by omega), if_neg (by omega), if_neg (by omega), if_pos rfl] at h2
      exact stamp_str h2
  split
  · split
    · exact vd_asc (by decide)
    · exact vd_low (by decide) ((vd_printM _ _ _ fun x hx => ⟨(gm x hx).1, hm x hx (gm x hx).2⟩).app ((vd_line d).app (vd_asc (by decide))))
  · split
    · exact vd_asc (by decide)
    · exact vd_low (by decide) ((vd_printL _ _ _ fun x hx => hl x hx (gl x hx)).app ((vd_line d).app (vd_asc (by decide))))
theorem Ge.le {n m : Nat} {s : Str} (h : Ge n s) (hm : m ≤ n) : Ge m s := fun b hb => Nat.le_trans hm (h b hb)
theorem parse_print {t : Tree} (hg : goodT t = true) (d : Int) (hlen : (printT t d).length ≤ 65536) (hn : t.nodes ≤ 4096) (hd : t.depth ≤ 32) : parseS (printT t d) = (unst t, 0, 0) := by
  have hv := valid_vd (vd_print t hg d)
  have hne : printT t d ≠ [] := printT_ne hg d
  have hsk : skipB (printT t d) = printT t d := by have := print_skip hg d []; rwa [List.append_nil] at this
  have hwz : whileL (printT t d) blanksB = 0 := by
    have h1 := skip_drop (printT t d)
    rw [hsk] at h1
    have h2 := congrArg List.length h1
    rw [List.length_drop] at h2
    have : 0 < (printT t d).length := List.length_pos_iff.2 hne
    omega
  have hlx := lex_tree t d [] [] hg (.inl rfl) .nil
  rw [List.append_nil, List.append_nil] at hlx
  have hj : judgeS (printT t d) = (0, 0) := by
    unfold judgeS
    rw [if_neg (by omega), if_neg (by rw [hv]; decide)]
  obtain ⟨l, hc, hl⟩ := cutL_lexes hlx ((printT t d).length + 1) (printT t d) 0 [] rfl (by omega) (by omega)
  have hcut : cutT (printT t d) = (l ++ [⟨0, [], (printT t d).length⟩], 0, 0) := by
    unfold cutT
    rw [hj, if_neg (by decide), hwz, hc, if_neg (by simp), List.nil_append]
  unfold parseS
  rw [hcut, if_pos rfl]
  unfold wholeS
  have hll : l.length = (wordsT t).length := by rw [← hl, List.length_map]
  have hr := read_tree t (3 * (l ++ [(⟨0, [], (printT t d).length⟩ : Wd)]).length + 1) (l ++ [⟨0, [], (printT t d).length⟩]) 1 0 0 [(0, [])] hg (by simp [hl, kp]) (by rw [List.length_append]; omega) (by omega) (by omega)
  rw [hr]
  simp only []
  have hat : wdAt (l ++ [(⟨0, [], (printT t d).length⟩ : Wd)]) (0 + (wordsT t).length) = ⟨0, [], (printT t d).length⟩ := by
    unfold wdAt
    rw [Nat.zero_add, ← hll]
    simp
  rw [hat, if_pos rfl]
theorem unst_id : ∀ t : Tree, stampT t = false → unst t = t := by
  have hL : ∀ l : List Tree, (∀ x ∈ l, unst x = x) → unstL l = l := by
    intro l
    induction l with
    | nil => intro _; rfl
    | cons x l ih => intro h; rw [unstL, h x (by simp), ih fun y hy => h y (by simp [hy])]
  have hM : ∀ l : List (Str × Tree), (∀ x ∈ l, unst x.2 = x.2) → unstM l = l := by
    intro l
    induction l with
    | nil => intro _; rfl
    | cons x l ih =>
      intro h
      obtain ⟨k, y⟩ := x
      rw [unstM, unstP, h (k, y) (by simp), ih fun y hy => h y (by simp [hy])]
  refine Tree.ind fun t hl hm h => ?_
  obtain ⟨h1, h2, h3⟩ := stampT_spec h
  rw [unst_eq, if_neg h1, hL t.l fun x hx => hl x hx (h2 x hx), hM t.m fun x hx => hm x hx (h3 x hx)]
  exact t.eta.symm
theorem cut_lexes {t : Str} {ws : List (Int × Str)} (hv : (utfValid t).2 = true) (hlen : t.length ≤ 65536) (hx : Lexes (skipB t) ws) : ∃ l : List Wd, l.map kp = ws ∧ cutT t = (l ++ [⟨0, [], t.length⟩], 0, 0) := by
  have hj : judgeS t = (0, 0) := by
    unfold judgeS
    rw [if_neg (by omega), if_neg (by rw [hv]; decide)]
  obtain ⟨l, hc, hl⟩ := cutL_lexes hx (t.length + 1) t (whileL t blanksB) [] (skip_drop t) (whileL_le _ _) (by omega)
  refine ⟨l, hl, ?_⟩
  unfold cutT
  rw [hj, if_neg (by decide), hc, if_neg (by simp), List.nil_append]
theorem parse_wrong {t : Str} {l : List Wd} (hc : cutT t = (l ++ [⟨0, [], t.length⟩], 0, 0)) {e : Int × Int} (hr : valR (3 * (l.length + 1) + 1) (l ++ [⟨0, [], t.length⟩]) 1 0 0 = .error e) :
    parseS t = (.mk 0 0 [] [] [], e) := by
  unfold parseS
  rw [hc, if_pos rfl]
  unfold wholeS
  rw [List.length_append, List.length_singleton, hr]
end Go.Am
end

section
namespace Go.Proofs.YtoinkmogdfjmmaaGreatDoor
open Go Go.Am Go.RowKit
set_option maxRecDepth 100000
end Go.Proofs.YtoinkmogdfjmmaaGreatDoor
end

section
namespace Go.Proofs.YtoinkmogdfjmmaaGreatDoor
open Go Go.Am
set_option maxRecDepth 100000
def DeepIs (t : Tree) : Prop := t.depth ≤ 1000000 → AbsCall PP GG F.ref1_Deep [.p t.enc] [] ⟨.ret (.p (.int .i64 t.depth)), [], []⟩
theorem deep_loopL (t : Tree) (R : Nat) (hR : R ≤ 1000000) (K : Post) (hl : ∀ x ∈ t.l, DeepIs x) (hw : t.wt ≤ 4000000)
    (h0 : K (.exit 0) [(1, .ptr 0 0), (3, .p (.int .i64 R))] [.var T.api_Value (.p t.enc)] []) :
    ∀ (q i e : Nat), i + q = t.l.length → max e (Tree.depthL (t.l.drop i)) = R →
      LoopW PP GG 45 0 (loopN F.ref1_Deep_c 0) [(1, .ptr 0 0), (3, .p (.int .i64 e)), (4, .p (.int .i64 i))] [.var T.api_Value (.p t.enc)] [] (PostCl 45 K) := by
  rw [Tree.enc_eta t] at h0 ⊢
  have hwl := t.wt_ll
  have hlen : (Tree.encL t.l).length = t.l.length := Tree.encL_length _
  intro q
  induction q with
  | zero =>
    intro i e hi he
    rw [List.drop_eq_nil_of_le (by omega), Tree.depthL] at he
    obtain rfl : e = R := by omega
    refine LoopW.round (pol := polG) mixP ?_
    conv => whnf
    repeat' ((first
     | ((with_reducible first | refine Br.dec ?_ ?_ | refine Br.ndec ?_ ?_) <;> intro hb <;> (try simp only [And.intro @hlen (ZZ)] at hb) <;> (first | omega | skip))
     | (with_reducible first | refine Br.tt rfl ?_ | refine Br.ff rfl ?_ | refine Br.ff (isEmptyCons _ _) ?_)
     | (refine Side.mk ?_ ?_; focus (first | omega | (dsimp only [InR, Int.reduceToNat, IntKind.bits, Int.reducePow]; omega) | (simp [CC]; done) | (constructor <;> omega)))
     | (refine Br.mk ?_ ?_ <;> intro hb <;> (try simp only [And.intro @hlen (ZZ)] at hb) <;> (first | omega | skip))
     | refine Src.whole ⟨rfl, rfl⟩ ?_ | refine FrzV.whole ?_) <;> conv => whnf)
    · refine PostCl.of (h0) ?_ ?_
      · repeat first | exact trivial | refine ⟨VLe.refl _, ?_⟩
      · repeat first | exact trivial | refine ⟨by decide, ?_⟩
  | succ q ih =>
    intro i e hi he
    obtain ⟨x, hx⟩ : ∃ x, t.l[i]? = some x := ⟨_, List.getElem?_eq_getElem (show i < t.l.length by omega)⟩
    rw [drop_cons hx, Tree.depthL] at he
    have hxm : x ∈ t.l := List.mem_of_getElem? hx
    have hsp := hl x hxm (by omega)
    refine LoopW.round (pol := polG) mixP ?_
    conv => whnf
    repeat' ((first
     | ((with_reducible first | refine Br.dec ?_ ?_ | refine Br.ndec ?_ ?_) <;> intro hb <;> (try simp only [And.intro @hlen (ZZ)] at hb) <;> (first | omega | skip))
     | (with_reducible first | refine Br.tt rfl ?_ | refine Br.ff rfl ?_ | refine Br.ff (isEmptyCons _ _) ?_)
     | (refine Side.mk ?_ ?_; focus (first | omega | (dsimp only [InR, Int.reduceToNat, IntKind.bits, Int.reducePow]; omega) | exact ⟨(Tree.enc_cells x).symm, (Tree.enc_isAgg x).symm⟩ | (simp [CC]; done) | (constructor <;> omega)))
     | (refine Br.mk ?_ ?_ <;> intro hb <;> (try simp only [And.intro @hlen (ZZ)] at hb) <;> (first | omega | skip))
     | refine Src.whole ⟨rfl, rfl⟩ ?_ | refine FrzV.whole ?_
     | refine CallW.use (hsp) ?_
     | (refine ElemZ.tree (by simpa using hx) ?_)) <;> conv => whnf)
    · refine LoopW.sub (ih (i + 1) x.depth (by omega) (by omega)) (by repeat first | exact trivial | refine ⟨VLe.refl _, ?_⟩) (by repeat first | exact trivial | refine ⟨by decide, ?_⟩)
    · refine LoopW.sub (ih (i + 1) e (by omega) (by omega)) (by repeat first | exact trivial | refine ⟨VLe.refl _, ?_⟩) (by repeat first | exact trivial | refine ⟨by decide, ?_⟩)
theorem deep_loopM (t : Tree) (R : Nat) (hR : R ≤ 1000000) (K : Post) (hl : ∀ x ∈ t.m, DeepIs x.2) (hw : t.wt ≤ 4000000)
    (h0 : K (.exit 2) [(3, .p (.int .i64 R))] [.var T.api_Value (.p t.enc)] []) :
    ∀ (q i e : Nat), i + q = t.m.length → max e (Tree.depthM (t.m.drop i)) = R →
      LoopW PP GG 45 0 (loopN F.ref1_Deep_c 1) [(1, .ptr 0 0), (3, .p (.int .i64 e)), (6, .p (.int .i64 i))] [.var T.api_Value (.p t.enc)] [] (PostCl 45 K) := by
  rw [Tree.enc_eta t] at h0 ⊢
  have hwl := t.wt_ml
  have hlen : (Tree.encM t.m).length = t.m.length := Tree.encM_length _
  intro q
  induction q with
  | zero =>
    intro i e hi he
    rw [List.drop_eq_nil_of_le (by omega), Tree.depthM] at he
    obtain rfl : e = R := by omega
    refine LoopW.round (pol := polG) mixP ?_
    conv => whnf
    repeat' ((first
     | ((with_reducible first | refine Br.dec ?_ ?_ | refine Br.ndec ?_ ?_) <;> intro hb <;> (try simp only [And.intro @hlen (ZZ)] at hb) <;> (first | omega | skip))
     | (with_reducible first | refine Br.tt rfl ?_ | refine Br.ff rfl ?_ | refine Br.ff (isEmptyCons _ _) ?_)
     | (refine Side.mk ?_ ?_; focus (first | omega | (dsimp only [InR, Int.reduceToNat, IntKind.bits, Int.reducePow]; omega) | (simp [CC]; done) | (constructor <;> omega)))
     | (refine Br.mk ?_ ?_ <;> intro hb <;> (try simp only [And.intro @hlen (ZZ)] at hb) <;> (first | omega | skip))
     | refine Src.whole ⟨rfl, rfl⟩ ?_ | refine FrzV.whole ?_) <;> conv => whnf)
    · refine PostCl.of (h0) ?_ ?_
      · repeat first | exact trivial | refine ⟨VLe.refl _, ?_⟩
      · repeat first | exact trivial | refine ⟨by decide, ?_⟩
  | succ q ih =>
    intro i e hi he
    obtain ⟨x, hx⟩ : ∃ x, t.m[i]? = some x := ⟨_, List.getElem?_eq_getElem (show i < t.m.length by omega)⟩
    have hxm : x ∈ t.m := List.mem_of_getElem? hx
    obtain ⟨k, y⟩ := x
    rw [drop_cons hx, Tree.depthM, Tree.depthP] at he
    have hsp := hl (k, y) hxm (by simp only []; omega)
    simp only [] at hsp
    rw [Tree.enc_eta y] at hsp
    refine LoopW.round (pol := polG) mixP ?_
    conv => whnf
    repeat' ((first
     | ((with_reducible first | refine Br.dec ?_ ?_ | refine Br.ndec ?_ ?_) <;> intro hb <;> (try simp only [And.intro @hlen (ZZ)] at hb) <;> (first | omega | skip))
     | (with_reducible first | refine Br.tt rfl ?_ | refine Br.ff rfl ?_ | refine Br.ff (isEmptyCons _ _) ?_)
     | (refine Side.mk ?_ ?_; focus (first | omega | (dsimp only [InR, Int.reduceToNat, IntKind.bits, Int.reducePow]; omega) | exact ⟨rfl, rfl⟩ | (simp [CC]; done) | (constructor <;> omega)))
     | (refine Br.mk ?_ ?_ <;> intro hb <;> (try simp only [And.intro @hlen (ZZ)] at hb) <;> (first | omega | skip))
     | refine Src.whole ⟨rfl, rfl⟩ ?_ | refine FrzV.whole ?_
     | refine CallW.use (hsp) ?_
     | (refine ElemZ.pair (p := (k, y)) (by simpa using hx) ?_; (rw [Tree.encP, Tree.enc_eta y]; conv => whnf))) <;> conv => whnf)
    · refine LoopW.sub (ih (i + 1) y.depth (by omega) (by omega)) (by repeat first | exact trivial | refine ⟨VLe.refl _, ?_⟩) (by repeat first | exact trivial | refine ⟨by decide, ?_⟩)
    · refine LoopW.sub (ih (i + 1) e (by omega) (by omega)) (by repeat first | exact trivial | refine ⟨VLe.refl _, ?_⟩) (by repeat first | exact trivial | refine ⟨by decide, ?_⟩)
theorem ref1_Deep : ∀ t : Tree, t.wt ≤ 4000000 → DeepIs t := by
  refine Tree.indW fun t hw hl hm hd => ?_
  have hs : t.depth = 1 + max (Tree.depthL t.l) (Tree.depthM t.m) := by cases t; rw [Tree.depth]; rfl
  refine absCall_of (pol := polG) mixP F.ref1_Deep_is ?_
  conv => whnf
  repeat' ((first
   | ((with_reducible first | refine Br.dec ?_ ?_ | refine Br.ndec ?_ ?_) <;> intro hb <;> (try simp only [ZZ] at hb) <;> (first | omega | skip))
   | (with_reducible first | refine Br.tt rfl ?_ | refine Br.ff rfl ?_ | refine Br.ff (isEmptyCons _ _) ?_)
   | (refine Side.mk ?_ ?_; focus (first | omega | (dsimp only [InR, Int.reduceToNat, IntKind.bits, Int.reducePow]; omega) | (simp [CC]; done) | (constructor <;> omega)))
   | (refine Br.mk ?_ ?_ <;> intro hb <;> (try simp only [ZZ] at hb) <;> (first | omega | skip))
   | refine Src.whole ⟨rfl, rfl⟩ ?_ | refine FrzV.whole ?_) <;> conv => whnf)
  refine LoopW.cl ?_
  refine LoopW.sub (deep_loopL t (Tree.depthL t.l) (by omega) _ (fun x hx => (hl x hx).2) hw ?_ t.l.length 0 0 (by omega) (by simp)) (by repeat first | exact trivial | refine ⟨VLe.refl _, ?_⟩) (by repeat first | exact trivial | refine ⟨by decide, ?_⟩)
  conv => whnf
  repeat' ((first
   | ((with_reducible first | refine Br.dec ?_ ?_ | refine Br.ndec ?_ ?_) <;> intro hb <;> (try simp only [ZZ] at hb) <;> (first | omega | skip))
   | (with_reducible first | refine Br.tt rfl ?_ | refine Br.ff rfl ?_ | refine Br.ff (isEmptyCons _ _) ?_)
   | (refine Side.mk ?_ ?_; focus (first | omega | (dsimp only [InR, Int.reduceToNat, IntKind.bits, Int.reducePow]; omega) | (simp [CC]; done) | (constructor <;> omega)))
   | (refine Br.mk ?_ ?_ <;> intro hb <;> (try simp only [ZZ] at hb) <;> (first | omega | skip))
   | refine Src.whole ⟨rfl, rfl⟩ ?_ | refine FrzV.whole ?_) <;> conv => whnf)
  refine LoopW.cl ?_
  refine LoopW.sub (deep_loopM t (max (Tree.depthL t.l) (Tree.depthM t.m)) (by omega) _ (fun x hx => (hm x hx).2.2) hw ?_ t.m.length 0 (Tree.depthL t.l) (by omega) (by simp)) (by repeat first | exact trivial | refine ⟨VLe.refl _, ?_⟩) (by repeat first | exact trivial | refine ⟨by decide, ?_⟩)
  conv => whnf
  repeat' ((first
   | ((with_reducible first | refine Br.dec ?_ ?_ | refine Br.ndec ?_ ?_) <;> intro hb <;> (try simp only [ZZ] at hb) <;> (first | omega | skip))
   | (with_reducible first | refine Br.tt rfl ?_ | refine Br.ff rfl ?_ | refine Br.ff (isEmptyCons _ _) ?_)
   | (refine Side.mk ?_ ?_; focus (first | omega | (dsimp only [InR, Int.reduceToNat, IntKind.bits, Int.reducePow]; omega) | (simp [CC]; done) | (constructor <;> omega)))
   | (refine Br.mk ?_ ?_ <;> intro hb <;> (try simp only [ZZ] at hb) <;> (first | omega | skip))
   | refine Src.whole ⟨rfl, rfl⟩ ?_ | refine FrzV.whole ?_) <;> conv => whnf)
  have e : ((t.depth : Nat) : Int) = ((max (Tree.depthL t.l) (Tree.depthM t.m) : Nat) : Int) + 1 := by rw [hs]; omega
  rw [e]
  exact CLe.eq rfl
end Go.Proofs.YtoinkmogdfjmmaaGreatDoor
end

section
namespace Go.Am
open Go
def nestT (b : Bool) : Nat → Tree
  | 0 => .mk 2 1 [] [] []
  | n + 1 => if b = true then .mk 6 0 [] [] [([107], nestT b n)] else .mk 5 0 [] [nestT b n] []
def openS (b : Bool) : Str := if b = true then [123, 34, 107, 34, 58] else [91]
def shutS (b : Bool) : Str := if b = true then [125] else [93]
def rep (s : Str) : Nat → Str
  | 0 => []
  | n + 1 => rep s n ++ s
theorem rep_comm (s : Str) : ∀ n, s ++ rep s n = rep s n ++ s
  | 0 => by simp [rep]
  | n + 1 => by rw [rep, ← List.append_assoc, rep_comm s n]
theorem rep_len (s : Str) : ∀ n, (rep s n).length = n * s.length
  | 0 => by simp [rep]
  | n + 1 => by rw [rep, List.length_append, rep_len s n, Nat.succ_mul]
theorem nest_print (b : Bool) : ∀ n, printT (nestT b n) (-1) = rep (openS b) n ++ (49 :: rep (shutS b) n)
  | 0 => by rw [nestT, printT]; simp [rep]; decide +kernel
  | n + 1 => by
    have ih := nest_print b n
    cases b with
    | true =>
      have e1 : rep (openS true) (n + 1) = openS true ++ rep (openS true) n := by rw [rep, rep_comm]
      rw [nestT, if_pos rfl, printT_eq, e1, rep]
      simp only [Tree.kind, Tree.m, Tree.n]
      rw [show deeper (-1) = -1 from rfl, printM, printP, ih, printM]
      simp [openS, shutS, show lineL (-1) = [] from rfl, show colonL (-1) = [58] from rfl, show quoteS [107] = [34, 107, 34] by decide]
    | false =>
      have e1 : rep (openS false) (n + 1) = openS false ++ rep (openS false) n := by rw [rep, rep_comm]
      rw [nestT, if_neg (by decide), printT_eq, e1, rep]
      simp only [Tree.kind, Tree.l, Tree.n]
      rw [show deeper (-1) = -1 from rfl, printL, ih, printL]
      simp [openS, shutS, show lineL (-1) = [] from rfl]
theorem nest_good (b : Bool) : ∀ n, goodT (nestT b n) = true ∧ stampT (nestT b n) = false ∧ (nestT b n).nodes = n + 1 ∧ (nestT b n).depth = n + 1
  | 0 => by
    rw [nestT]
    exact ⟨by decide +kernel, by decide +kernel, rfl, rfl⟩
  | n + 1 => by
    obtain ⟨h1, h2, h3, h4⟩ := nest_good b n
    unfold goodT at h1
    rw [Bool.and_eq_true] at h1
    cases b with
    | true =>
      rw [nestT, if_pos rfl]
      refine ⟨?_, ?_, ?_, ?_⟩
      · unfold goodT
        rw [plainT, okT]
        simp [ownBad, nodeOk, plainL, plainM, plainP, okL, okM, okQ, h1.1, h1.2, show strOk [107] = true by decide]
      · simp [stampT, stampL, stampM, stampP, h2]
      · simp [Tree.nodes, Tree.nodesL, Tree.nodesM, Tree.nodesP, h3]; omega
      · simp [Tree.depth, Tree.depthL, Tree.depthM, Tree.depthP, h4]; omega
    | false =>
      rw [nestT, if_neg (by decide)]
      refine ⟨?_, ?_, ?_, ?_⟩
      · unfold goodT
        rw [plainT, okT]
        simp [ownBad, nodeOk, plainL, plainM, okL, okM, h1.1, h1.2]
      · simp [stampT, stampL, stampM, h2]
      · simp [Tree.nodes, Tree.nodesL, Tree.nodesM, h3]; omega
      · simp [Tree.depth, Tree.depthL, Tree.depthM, h4]; omega
theorem nest_words (b : Bool) (n : Nat) : wordsT (nestT b (n + 1)) = (if b = true then (1, [123]) :: (2, [107]) :: (1, [58]) :: (wordsT (nestT b n) ++ [(1, [125])]) else (1, [91]) :: (wordsT (nestT b n) ++ [(1, [93])])) := by
  cases b with
  | true =>
    rw [nestT, if_pos rfl, if_pos rfl, wordsT]
    simp [wordsM, wordsP]
  | false =>
    rw [nestT, if_neg (by decide), if_neg (by decide), wordsT]
    simp [wordsL]
theorem nest_deep (b : Bool) : ∀ (n q : Nat) (ws : List Wd) (d : Int) (i : Nat) (m : Int) (rest : List (Int × Str)), (ws.drop i).map kp = wordsT (nestT b n) ++ rest → 3 * n + 1 ≤ q → 33 ≤ d + n → d ≤ 33 → ∃ a, valR q ws d i m = .error (2, a)
  | 0, q, ws, d, i, m, rest, h, hq, h1, h2 => by
    obtain ⟨q, rfl⟩ : ∃ p, q = p + 1 := ⟨q - 1, by omega⟩
    rw [show wordsT (nestT b 0) = [(3, Lib.itoa 1)] from rfl] at h
    obtain ⟨w1, w2, _⟩ := wd_cons h
    exact ⟨_, by rw [valR, if_neg (by omega), if_pos (.inr (by omega))]⟩
  | n + 1, q, ws, d, i, m, rest, h, hq, h1, h2 => by
    obtain ⟨q, rfl⟩ : ∃ p, q = p + 1 + 1 + 1 := ⟨q - 3, by omega⟩
    rw [nest_words] at h
    cases b with
    | true =>
      rw [if_pos rfl] at h
      simp only [List.cons_append, List.append_assoc] at h
      obtain ⟨w1, w2, w3⟩ := wd_cons h
      by_cases hd : 4096 < m + 1 ∨ 32 < d
      · exact ⟨_, by rw [valR, if_neg (by rw [w1, w2]; simp), if_pos hd]⟩
      obtain ⟨v1, v2, v3⟩ := wd_cons w3
      obtain ⟨u1, u2, u3⟩ := wd_cons v3
      obtain ⟨a, ha⟩ := nest_deep true n q ws (d + 1) (i + 1 + 2) (m + 1) _ u3 (by omega) (by omega) (by omega)
      refine ⟨a, ?_⟩
      rw [valR, if_neg (by rw [w1, w2]; simp), if_neg hd, isS_at h, if_neg (by decide), isS_at h, if_pos (by decide), pairsR, isS_at w3, if_neg (by decide), entriesR, if_neg (by rw [v1]; decide), if_neg (by simp [hasK]), isS_at v3, if_neg (by decide), ha]
    | false =>
      rw [if_neg (by decide), List.cons_append] at h
      obtain ⟨w1, w2, w3⟩ := wd_cons h
      by_cases hd : 4096 < m + 1 ∨ 32 < d
      · exact ⟨_, by rw [valR, if_neg (by rw [w1, w2]; simp), if_pos hd]⟩
      rw [List.append_assoc] at w3
      obtain ⟨a, ha⟩ := nest_deep false n q ws (d + 1) (i + 1) (m + 1) _ w3 (by omega) (by omega) (by omega)
      obtain ⟨k, s, r, e, _, hk⟩ := words_head (t := nestT false n)
      have hs : isS (wdAt ws (i + 1)) [93] = false := by
        rw [e, List.cons_append] at w3
        rw [isS_at w3, decide_eq_false]
        rintro ⟨h1, h2⟩
        rcases hk h1 with h | h <;> rw [h] at h2 <;> exact absurd h2 (by decide)
      refine ⟨a, ?_⟩
      rw [valR, if_neg (by rw [w1, w2]; simp), if_neg hd, isS_at h, if_pos (by decide), listR, hs, if_neg (by decide), itemsR, ha]
theorem parse_nest (b : Bool) (n : Nat) (hn : n ≤ 40) : parseS (rep (openS b) n ++ (49 :: rep (shutS b) n)) = if n < 32 then (nestT b n, 0, 0) else (.mk 0 0 [] [] [], 2, (parseS (rep (openS b) n ++ (49 :: rep (shutS b) n))).2.2) := by
  obtain ⟨h1, h2, h3, h4⟩ := nest_good b n
  have hl : (printT (nestT b n) (-1)).length ≤ 65536 := by
    rw [nest_print, List.length_append, List.length_cons, rep_len, rep_len]
    have e1 : (openS b).length ≤ 5 := by cases b <;> decide
    have e2 : (shutS b).length ≤ 5 := by cases b <;> decide
    have := Nat.mul_le_mul hn e1
    have := Nat.mul_le_mul hn e2
    omega
  rw [← nest_print]
  split
  · rw [parse_print h1 (-1) hl (by omega) (by omega), unst_id _ h2]
  · have hv := valid_vd (vd_print (nestT b n) h1 (-1))
    have hlx := lex_tree (nestT b n) (-1) [] [] h1 (.inl rfl) .nil
    rw [List.append_nil, List.append_nil] at hlx
    have hsk : skipB (printT (nestT b n) (-1)) = printT (nestT b n) (-1) := by have := print_skip h1 (-1) []; rwa [List.append_nil] at this
    obtain ⟨l, hm, hc⟩ := cut_lexes hv hl (by rw [hsk]; exact hlx)
    have hwl : ∀ n, n + 1 ≤ (wordsT (nestT b n)).length := by
      intro n
      induction n with
      | zero => rw [show wordsT (nestT b 0) = [(3, Lib.itoa 1)] from rfl]; simp
      | succ n ih => rw [nest_words]; split <;> simp <;> omega
    have hll : l.length = (wordsT (nestT b n)).length := by rw [← hm, List.length_map]
    have := hwl n
    obtain ⟨a, ha⟩ := nest_deep b n (3 * (l.length + 1) + 1) (l ++ [⟨0, [], ((printT (nestT b n) (-1)).length : Int)⟩]) 1 0 0 [(0, [])] (by simp [hm, kp]) (by omega) (by omega) (by omega)
    rw [parse_wrong hc ha]
def noughtT : Tree := .mk 2 0 [] [] []
def rowT (m : Nat) : Tree := .mk 5 0 [] (List.replicate (m + 1) noughtT) []
theorem zero_print : printT noughtT (-1) = [48] := by unfold noughtT; rw [printT]; simp; decide +kernel
theorem row_printL : ∀ m, printL false (List.replicate m noughtT) (-1) = rep [44, 48] m
  | 0 => rfl
  | m + 1 => by
    rw [List.replicate_succ, printL, zero_print, row_printL m, rep, ← rep_comm]
    simp [show lineL (-1) = [] from rfl]
theorem rep_turn : ∀ m, (48 : UInt8) :: rep [44, 48] m = rep [48, 44] m ++ [48]
  | 0 => rfl
  | m + 1 => by
    rw [rep, rep, ← List.cons_append, rep_turn m]
    simp
theorem row_print (m : Nat) : printT (rowT m) (-1) = 91 :: (rep [48, 44] m ++ [48, 93]) := by
  have h := row_printL m
  have e : rep [48, 44] m ++ [48, 93] = (rep [48, 44] m ++ [48]) ++ [93] := by simp
  rw [e, ← rep_turn]
  unfold rowT
  rw [printT_eq]
  simp only [Tree.kind, Tree.l, Tree.n]
  rw [List.replicate_succ, show deeper (-1) = -1 from rfl, printL, zero_print, h]
  simp [show lineL (-1) = [] from rfl]
theorem row_all : ∀ m, plainL (List.replicate m noughtT) = true ∧ okL (List.replicate m noughtT) = true ∧ stampL (List.replicate m noughtT) = false ∧ Tree.nodesL (List.replicate m noughtT) = m ∧ Tree.depthL (List.replicate m noughtT) ≤ 1
  | 0 => ⟨rfl, rfl, rfl, rfl, by simp [Tree.depthL]⟩
  | m + 1 => by
    obtain ⟨h1, h2, h3, h4, h5⟩ := row_all m
    rw [List.replicate_succ]
    refine ⟨?_, ?_, ?_, ?_, ?_⟩
    · rw [plainL, h1, show plainT noughtT = true by unfold noughtT; decide +kernel]; rfl
    · rw [okL, h2, show okT noughtT = true by unfold noughtT; decide +kernel]; rfl
    · rw [stampL, h3, show stampT noughtT = false by unfold noughtT; decide +kernel]; rfl
    · rw [Tree.nodesL, h4, show Tree.nodes noughtT = 1 from rfl]; omega
    · rw [Tree.depthL, show Tree.depth noughtT = 1 from rfl]; omega
theorem row_good (m : Nat) : goodT (rowT m) = true ∧ stampT (rowT m) = false ∧ (rowT m).nodes = m + 2 ∧ (rowT m).depth ≤ 2 := by
  obtain ⟨h1, h2, h3, h4, h5⟩ := row_all (m + 1)
  unfold rowT
  refine ⟨?_, ?_, ?_, ?_⟩
  · unfold goodT
    rw [plainT, okT]
    simp [ownBad, nodeOk, plainM, okM, h1, h2]
  · simp [stampT, stampM, h3]
  · simp only [Tree.nodes, Tree.nodesM, h4]; omega
  · simp only [Tree.depth, Tree.depthM]; omega
theorem row_many : ∀ (k q : Nat) (ws : List Wd) (d : Int) (i : Nat) (n : Int) (acc : List Tree) (rest : List (Int × Str)), (ws.drop i).map kp = wordsT noughtT ++ (wordsL false (List.replicate k noughtT) ++ rest) → 3 * k + 2 ≤ q → 4096 < n + k + 1 →
    ∃ a, itemsR q ws d i n acc = .error (2, a)
  | k, q, ws, d, i, n, acc, rest, h, hq, hn => by
    obtain ⟨q, rfl⟩ : ∃ p, q = p + 1 + 1 := ⟨q - 2, by omega⟩
    have hz : wordsT noughtT = [(3, [48])] := by unfold noughtT; rw [wordsT]; simp; decide +kernel
    rw [hz] at h
    simp only [List.cons_append, List.nil_append] at h
    obtain ⟨w1, w2, w3⟩ := wd_cons h
    by_cases hd : 4096 < n + 1 ∨ 32 < d + 1
    · exact ⟨(wdAt ws i).a, by rw [itemsR, valR, if_neg (by omega), if_pos hd]⟩
    match k, hq, hn, w3 with
    | 0, hq, hn, w3 => omega
    | k + 1, hq, hn, w3 =>
      rw [List.replicate_succ, wordsL, if_neg (by decide)] at w3
      simp only [List.cons_append, List.nil_append, List.append_assoc] at w3
      obtain ⟨v1, v2, v3⟩ := wd_cons w3
      obtain ⟨a, ha⟩ := row_many k (q + 1) ws d (i + 1 + 1) (n + 1) (acc ++ [plainW (wdAt ws i)]) rest v3 (by omega) (by omega)
      refine ⟨a, ?_⟩
      rw [itemsR, valR, if_neg (by omega), if_neg hd, isS_at h, if_neg (by decide), isS_at h, if_neg (by decide)]
      simp only []
      rw [isS_at w3, if_neg (by decide), isS_at w3, if_pos (by decide), ha]
theorem parse_row (m : Nat) (hm : m ≤ 4200) : parseS (91 :: (rep [48, 44] m ++ [48, 93])) = if m + 2 ≤ 4096 then (rowT m, 0, 0) else (.mk 0 0 [] [] [], 2, (parseS (91 :: (rep [48, 44] m ++ [48, 93]))).2.2) := by
  obtain ⟨h1, h2, h3, h4⟩ := row_good m
  have hl : (printT (rowT m) (-1)).length ≤ 65536 := by
    rw [row_print, List.length_cons, List.length_append, rep_len]
    simp only [List.length_cons, List.length_nil]
    omega
  rw [← row_print]
  split
  · rw [parse_print h1 (-1) hl (by omega) (by omega), unst_id _ h2]
  · have hv := valid_vd (vd_print (rowT m) h1 (-1))
    have hlx := lex_tree (rowT m) (-1) [] [] h1 (.inl rfl) .nil
    rw [List.append_nil, List.append_nil] at hlx
    have hsk : skipB (printT (rowT m) (-1)) = printT (rowT m) (-1) := by have := print_skip h1 (-1) []; rwa [List.append_nil] at this
    obtain ⟨l, hm', hc⟩ := cut_lexes hv hl (by rw [hsk]; exact hlx)
    have hw : wordsT (rowT m) = (1, [91]) :: (wordsT noughtT ++ (wordsL false (List.replicate m noughtT) ++ [(1, [93])])) := by
      unfold rowT
      rw [wordsT, List.replicate_succ]
      simp [wordsL]
    have hwl : ∀ k, (wordsL false (List.replicate k noughtT)).length = 2 * k := by
      intro k
      induction k with
      | zero => rfl
      | succ k ih =>
        rw [List.replicate_succ, wordsL, if_neg (by decide)]
        have hz : (wordsT noughtT).length = 1 := by unfold noughtT; rw [wordsT]; simp
        simp only [List.length_append, List.length_cons, List.length_nil, ih, hz]
        omega
    have hll : l.length = 2 * m + 3 := by
      have : l.length = (wordsT (rowT m)).length := by rw [← hm', List.length_map]
      have hz : (wordsT noughtT).length = 1 := by unfold noughtT; rw [wordsT]; simp
      rw [this, hw]
      simp only [List.length_append, List.length_cons, List.length_nil, hwl, hz]
      omega
    have hk : ((l ++ [(⟨0, [], ((printT (rowT m) (-1)).length : Int)⟩ : Wd)]).drop 0).map kp = (1, [91]) :: (wordsT noughtT ++ (wordsL false (List.replicate m noughtT) ++ [(1, [93]), (0, [])])) := by
      simp [hm', hw, kp]
    obtain ⟨w1, w2, w3⟩ := wd_cons hk
    obtain ⟨q, hq⟩ : ∃ q, 3 * (l.length + 1) + 1 = q + 1 + 1 := ⟨3 * (l.length + 1) - 1, by omega⟩
    obtain ⟨a, ha⟩ := row_many m q _ 1 (0 + 1) (0 + 1) [] _ w3 (by omega) (by omega)
    have hz : wordsT noughtT = [(3, [48])] := by unfold noughtT; rw [wordsT]; simp; decide +kernel
    refine (parse_wrong (e := (2, a)) hc ?_).trans ?_
    · rw [hq, valR, if_neg (by rw [w1, w2]; simp), if_neg (by omega), isS_at hk, if_pos (by decide), listR]
      rw [hz] at w3
      simp only [List.cons_append, List.nil_append] at w3
      rw [isS_at w3, if_neg (by decide), ha]
    · rw [parse_wrong (e := (2, a)) hc]
      rw [hq, valR, if_neg (by rw [w1, w2]; simp), if_neg (by omega), isS_at hk, if_pos (by decide), listR]
      rw [hz] at w3
      simp only [List.cons_append, List.nil_append] at w3
      rw [isS_at w3, if_neg (by decide), ha]
theorem nest_wt (b : Bool) : ∀ n, (nestT b n).wt ≤ 20 * (n + 1)
  | 0 => by rw [nestT]; decide
  | n + 1 => by
    have ih := nest_wt b n
    cases b with
    | true => rw [nestT, if_pos rfl]; simp only [Tree.wt, Tree.wtL, Tree.wtM, Tree.wtP, List.length_cons, List.length_nil]; omega
    | false => rw [nestT, if_neg (by decide)]; simp only [Tree.wt, Tree.wtL, Tree.wtM, List.length_cons, List.length_nil]; omega
end Go.Am
end

section
namespace Go.Proofs.YtoinkmogdfjmmaaGreatDoor
open Go Go.Am Go.RowKit
set_option maxRecDepth 100000
theorem nests_loop (N : Nat) (m : Int) (o s : Str) (hN : N ≤ 40) (ho : o.length ≤ 5) (hs : s.length ≤ 5) (K : Post)
    (h0 : K (.exit 0) [(0, .p (.int .i64 N)), (2, .p (.int .i64 m)), (9, .p (.str (rep o N))), (10, .p (.str (rep s N)))] [] []) :
    ∀ (q i : Nat), i + q = N → LoopW PP GG 129 0 (loopN F.law8_JreadNests_c 0) [(0, .p (.int .i64 N)), (2, .p (.int .i64 m)), (7, .p (.str o)), (8, .p (.str s)), (9, .p (.str (rep o i))), (10, .p (.str (rep s i))), (11, .p (.int .i64 i))] [] [] (PostCl 129 K) := by
  intro q
  induction q with
  | zero =>
    intro i hi
    obtain rfl : i = N := by omega
    refine LoopW.round (pol := polG) mixP ?_
    conv => whnf
    repeat' ((first
     | ((with_reducible first | refine Br.dec ?_ ?_ | refine Br.ndec ?_ ?_) <;> intro hb <;> (try simp only [ZZ] at hb) <;> (first | omega | skip))
     | (with_reducible first | refine Br.tt rfl ?_ | refine Br.ff rfl ?_ | refine Br.ff (isEmptyCons _ _) ?_)
     | (refine Side.mk ?_ ?_; focus (first | omega | (dsimp only [InR, Int.reduceToNat, IntKind.bits, Int.reducePow]; omega) | (simp [CC]; done) | (constructor <;> omega)))
     | (refine Br.mk ?_ ?_ <;> intro hb <;> (try simp only [ZZ] at hb) <;> (first | omega | skip))
     | refine Src.whole ⟨rfl, rfl⟩ ?_ | refine FrzV.whole ?_) <;> conv => whnf)
    · refine PostCl.of (h0) ?_ ?_
      · repeat first | exact trivial | refine ⟨VLe.refl _, ?_⟩
      · repeat first | exact trivial | refine ⟨by decide, ?_⟩
  | succ q ih =>
    intro i hi
    have e1 : (rep o i).length ≤ 1000 := by rw [rep_len]; exact Nat.le_trans (Nat.mul_le_mul (show i ≤ 40 by omega) ho) (by omega)
    have e2 : (rep s i).length ≤ 1000 := by rw [rep_len]; exact Nat.le_trans (Nat.mul_le_mul (show i ≤ 40 by omega) hs) (by omega)
    have hl := ih (i + 1) (by omega)
    rw [rep, rep] at hl
    refine LoopW.round (pol := polG) mixP ?_
    conv => whnf
    repeat' ((first
     | ((with_reducible first | refine Br.dec ?_ ?_ | refine Br.ndec ?_ ?_) <;> intro hb <;> (try simp only [ZZ] at hb) <;> (first | omega | skip))
     | (with_reducible first | refine Br.tt rfl ?_ | refine Br.ff rfl ?_ | refine Br.ff (isEmptyCons _ _) ?_)
     | (refine Side.mk ?_ ?_; focus (first | omega | (dsimp only [InR, Int.reduceToNat, IntKind.bits, Int.reducePow]; omega) | (simp [CC]; done) | (constructor <;> omega)))
     | (refine Br.mk ?_ ?_ <;> intro hb <;> (try simp only [ZZ] at hb) <;> (first | omega | skip))
     | refine Src.whole ⟨rfl, rfl⟩ ?_ | refine FrzV.whole ?_) <;> conv => whnf)
    refine LoopW.sub (hl) (by repeat first | exact trivial | refine ⟨VLe.refl _, ?_⟩) (by repeat first | exact trivial | refine ⟨by decide, ?_⟩)
theorem nests_row (m : Nat) (hm : m ≤ 4200) (K : Post)
    (h0 : K (.exit 2) [(2, .p (.int .i64 m)), (14, .sl 0 0 ((rep [48, 44] m).map byteP).length)] [.arr T.uint8 1 ((rep [48, 44] m).map byteP)] []) :
    ∀ (q i : Nat), i + q = m → LoopW PP GG 129 0 (loopN F.law8_JreadNests_c 1) [(2, .p (.int .i64 m)), (14, .sl 0 0 ((rep [48, 44] i).map byteP).length), (15, .p (.int .i64 i))] [.arr T.uint8 1 ((rep [48, 44] i).map byteP)] [] (PostCl 129 K) := by
  intro q
  induction q with
  | zero =>
    intro i hi
    obtain rfl : i = m := by omega
    refine LoopW.round (pol := polG) mixP ?_
    conv => whnf
    repeat' ((first
     | ((with_reducible first | refine Br.dec ?_ ?_ | refine Br.ndec ?_ ?_) <;> intro hb <;> (try simp only [ZZ] at hb) <;> (first | omega | skip))
     | (with_reducible first | refine Br.tt rfl ?_ | refine Br.ff rfl ?_ | refine Br.ff (isEmptyCons _ _) ?_)
     | (refine Side.mk ?_ ?_; focus (first | omega | (dsimp only [InR, Int.reduceToNat, IntKind.bits, Int.reducePow]; omega) | (simp [CC]; done) | (constructor <;> omega)))
     | (refine Br.mk ?_ ?_ <;> intro hb <;> (try simp only [ZZ] at hb) <;> (first | omega | skip))
     | refine Src.whole ⟨rfl, rfl⟩ ?_ | refine FrzV.whole ?_) <;> conv => whnf)
    · refine PostCl.of (h0) ?_ ?_
      · repeat first | exact trivial | refine ⟨VLe.refl _, ?_⟩
      · repeat first | exact trivial | refine ⟨by decide, ?_⟩
  | succ q ih =>
    intro i hi
    have hlen : ((rep [48, 44] i).map byteP).length = 2 * i := by rw [List.length_map, rep_len]; simp only [List.length_cons, List.length_nil]; omega
    have e : (rep [48, 44] i).map byteP ++ [PV.int .u8 48, PV.int .u8 44] = (rep [48, 44] (i + 1)).map byteP := by rw [rep, List.map_append]; rfl
    refine LoopW.round (pol := polG) mixP ?_
    conv => whnf
    repeat' ((first
     | ((with_reducible first | refine Br.dec ?_ ?_ | refine Br.ndec ?_ ?_) <;> intro hb <;> (try simp only [ZZ] at hb) <;> (first | omega | skip))
     | (with_reducible first | refine Br.tt rfl ?_ | refine Br.ff rfl ?_ | refine Br.ff (isEmptyCons _ _) ?_)
     | (refine Side.mk ?_ ?_; focus (first | omega | (dsimp only [InR, Int.reduceToNat, IntKind.bits, Int.reducePow]; omega) | (refine ⟨by simp [PV.cells], rfl, ?_⟩; simp only [hlen, List.length_cons, List.length_nil]; omega) | (simp [CC]; done) | (constructor <;> omega)))
     | (refine Br.mk ?_ ?_ <;> intro hb <;> (try simp only [ZZ] at hb) <;> (first | omega | skip))
     | refine Src.whole ⟨rfl, rfl⟩ ?_ | refine FrzV.whole ?_) <;> conv => whnf)
    rw [e]
    refine LoopW.ren [0] (ih (i + 1) (by omega)) (by repeat first | exact trivial | refine ⟨⟨rfl, VLe.refl _⟩, ?_⟩) (by repeat first | exact trivial | refine ⟨by decide, ?_⟩) rfl rfl
theorem parse_ok (t : Str) (ht : t.length ≤ 1000000) (x : Tree) (h : parseS t = (x, 0, 0)) :
    AbsCall PP GG F.jread_Parse [.p (.str t)] [] ⟨.ret (.tup [.p (.agg [.int .i64 x.kind, .int .i64 x.n, .str x.s, .lst false (Tree.encL x.l), .lst false (Tree.encM x.m)]), .p (.agg [.int .i64 0, .int .i64 0, .int .i64 0, .int .i64 0])]), [], []⟩ := by
  have hP := jread_Parse t ht
  rw [h, Tree.enc_eta] at hP
  exact hP
theorem parse_bad (t : Str) (ht : t.length ≤ 1000000) (e a : Int) (he : ¬ e = 0) (h : parseS t = (.mk 0 0 [] [] [], e, a)) :
    ∃ c1 c2 c3, AbsCall PP GG F.jread_Parse [.p (.str t)] [] ⟨.ret (.tup [.p (.agg [.int .i64 0, .int .i64 0, .str [], .lst false [], .lst false []]), .p (.agg [.int .i64 e, .int .i64 c1, .int .i64 c2, .int .i64 c3])]), [], []⟩ := by
  have hP := jread_Parse t ht
  rw [h, Tree.enc_eta] at hP
  dsimp only [] at hP
  rw [faultE, if_neg he, faultP] at hP
  exact ⟨_, _, _, hP⟩
theorem nests_facts (N M : Nat) (b : Bool) (h2 : N ≤ 40) (h4 : M ≤ 4200) :
    (rep (openS b) N).length ≤ 1000 ∧ (rep (shutS b) N).length ≤ 1000 ∧ (rep [48, 44] M).length ≤ 9000 ∧ ((rep (openS b) N ++ [49]) ++ rep (shutS b) N).length ≤ 1000000 ∧ (([91] ++ rep [48, 44] M) ++ [48, 93]).length ≤ 1000000 ∧
    (Tree.encL (rowT M).l).length = M + 1 := by
  have l1 : (rep (openS b) N).length ≤ 1000 := by rw [rep_len]; exact Nat.le_trans (Nat.mul_le_mul (show N ≤ 40 by omega) (show (openS b).length ≤ 5 by cases b <;> decide)) (by omega)
  have l2 : (rep (shutS b) N).length ≤ 1000 := by rw [rep_len]; exact Nat.le_trans (Nat.mul_le_mul (show N ≤ 40 by omega) (show (shutS b).length ≤ 5 by cases b <;> decide)) (by omega)
  have l3 : (rep [48, 44] M).length ≤ 9000 := by rw [rep_len]; simp only [List.length_cons, List.length_nil]; omega
  refine ⟨l1, l2, l3, ?_, ?_, ?_⟩
  · simp only [List.length_append, List.length_cons, List.length_nil]; omega
  · simp only [List.length_append, List.length_cons, List.length_nil]; omega
  · rw [Tree.encL_length]; simp [rowT, Tree.l]
theorem nests_p1 (N : Nat) (b : Bool) (h2 : N ≤ 40) : parseS ((rep (openS b) N ++ [49]) ++ rep (shutS b) N) = if N < 32 then (nestT b N, 0, 0) else (.mk 0 0 [] [] [], 2, (parseS ((rep (openS b) N ++ [49]) ++ rep (shutS b) N)).2.2) := by
  have p1 := parse_nest b N (by omega)
  rwa [show rep (openS b) N ++ (49 :: rep (shutS b) N) = (rep (openS b) N ++ [49]) ++ rep (shutS b) N by simp] at p1
theorem nests_p2 (M : Nat) (h4 : M ≤ 4200) : parseS (([91] ++ rep [48, 44] M) ++ [48, 93]) = if M + 2 ≤ 4096 then (rowT M, 0, 0) else (.mk 0 0 [] [] [], 2, (parseS (([91] ++ rep [48, 44] M) ++ [48, 93])).2.2) := by
  have p2 := parse_row M (by omega)
  rwa [show (91 :: (rep [48, 44] M ++ [48, 93]) : Str) = ([91] ++ rep [48, 44] M) ++ [48, 93] by simp] at p2
theorem nests_deep (N : Nat) (b : Bool) (h2 : N ≤ 40) : AbsCall PP GG F.ref1_Deep [.p (.agg [.int .i64 (nestT b N).kind, .int .i64 (nestT b N).n, .str (nestT b N).s, .lst false (Tree.encL (nestT b N).l), .lst false (Tree.encM (nestT b N).m)])] [] ⟨.ret (.p (.int .i64 ((N + 1 : Nat) : Int))), [], []⟩ := by
  obtain ⟨g1, g2, g3, g4⟩ := nest_good b N
  have hD := ref1_Deep (nestT b N) (by have := nest_wt b N; omega) (by omega)
  rwa [g4, Tree.enc_eta] at hD
set_option maxHeartbeats 1000000 in
theorem nests_false_in_in (N M : Nat) (h2 : N ≤ 40) (h4 : M ≤ 4200) (hN : N < 32) (hM : M + 2 ≤ 4096) : AbsCall PP GG F.law8_JreadNests [.p (.int .i64 N), .p (.bool false), .p (.int .i64 M)] [] ⟨.ret (.p (.bool true)), [], []⟩ := by
  obtain ⟨l1, l2, l3, len1, len2, hll⟩ := nests_facts N M false h2 h4
  have p1 := nests_p1 N false h2
  have p2 := nests_p2 M h4
  rw [if_pos hN] at p1
  rw [if_pos hM] at p2
  have hdN : decide ((N : Int) < 32) = true := decide_eq_true (by omega)
  have hdM : decide ((M : Int) + 2 ≤ 4096) = true := decide_eq_true (by omega)
  have hP1 := parse_ok _ len1 _ p1
  have hD := nests_deep N false h2
  have hP2 := parse_ok _ len2 _ p2
  refine absCall_of (pol := polG) mixP F.law8_JreadNests_is ?_
  conv => whnf
  repeat' ((first
   | ((with_reducible first | refine Br.dec ?_ ?_ | refine Br.ndec ?_ ?_) <;> intro hb <;> (try simp only [ZZ] at hb) <;> (first | omega | contradiction | skip))
   | (with_reducible first | refine Br.tt rfl ?_ | refine Br.ff rfl ?_ | refine Br.ff (isEmptyCons _ _) ?_)
   | (refine Side.mk ?_ ?_; focus (first | omega | (dsimp only [InR, Int.reduceToNat, IntKind.bits, Int.reducePow]; omega) | (simp [CC]; done) | (constructor <;> omega)))
   | with_reducible refine Br.not ?_
   | (with_reducible first | refine Br.tt (by assumption) ?_ | refine Br.ff (by assumption) ?_)
   | (refine Br.mk ?_ ?_ <;> intro hb <;> (try simp only [ZZ] at hb) <;> (first | omega | contradiction | skip))
   | refine Src.whole ⟨rfl, rfl⟩ ?_ | refine FrzV.whole ?_
   | refine CallW.use (law8_awake) ?_) <;> conv => whnf)
  refine LoopW.cl ?_
  refine LoopW.sub (nests_loop N M [91] [93] (by omega) (by decide) (by decide) _ ?_ N 0 (by omega)) (by repeat first | exact trivial | refine ⟨VLe.refl _, ?_⟩) (by repeat first | exact trivial | refine ⟨by decide, ?_⟩)
  conv => whnf
  repeat' ((first
   | ((with_reducible first | refine Br.dec ?_ ?_ | refine Br.ndec ?_ ?_) <;> intro hb <;> (try simp only [ZZ] at hb) <;> (first | omega | contradiction | skip))
   | (with_reducible first | refine Br.tt rfl ?_ | refine Br.ff rfl ?_ | refine Br.ff (isEmptyCons _ _) ?_)
   | (refine Side.mk ?_ ?_; focus (first | omega | (dsimp only [InR, Int.reduceToNat, IntKind.bits, Int.reducePow]; omega) | (show (rep (openS false) N).length + 1 ≤ _; omega) | (simp only [List.length_append]; show (rep (openS false) N).length + 1 + (rep (shutS false) N).length ≤ _; omega) | exact ⟨rfl, rfl⟩ | (simp [CC]; done) | (constructor <;> omega)))
   | with_reducible refine Br.not ?_
   | (with_reducible first | refine Br.tt (by assumption) ?_ | refine Br.ff (by assumption) ?_)
   | (refine Br.mk ?_ ?_ <;> intro hb <;> (try simp only [ZZ] at hb) <;> (first | omega | contradiction | skip))
   | refine Src.whole ⟨rfl, rfl⟩ ?_ | refine FrzV.whole ?_
   | refine CallW.use (hP1) ?_
   | refine CallW.use (hD) ?_) <;> conv => whnf)
  all_goals first | (rw [hdN] at hb; exact absurd hb (by decide)) | exact absurd trivial hb | (exfalso; omega) | skip
  refine LoopW.cl ?_
  refine LoopW.ren [2] (nests_row M (by omega) _ ?_ M 0 (by omega)) (by repeat first | exact trivial | refine ⟨⟨rfl, VLe.refl _⟩, ?_⟩) (by repeat first | exact trivial | refine ⟨by decide, ?_⟩) rfl rfl
  conv => whnf
  repeat' ((first
   | ((with_reducible first | refine Br.dec ?_ ?_ | refine Br.ndec ?_ ?_) <;> intro hb <;> (try simp only [And.intro @hll (ZZ)] at hb) <;> (first | omega | contradiction | skip))
   | (with_reducible first | refine Br.tt rfl ?_ | refine Br.ff rfl ?_ | refine Br.ff (isEmptyCons _ _) ?_)
   | (refine Side.mk ?_ ?_; focus (first | omega | (dsimp only [InR, Int.reduceToNat, IntKind.bits, Int.reducePow]; omega) | (show 1 + (rep [48, 44] M).length ≤ _; omega) | (simp only [List.length_append]; show 1 + (rep [48, 44] M).length + 2 ≤ _; omega) | exact ⟨rfl, rfl⟩ | (simp [CC]; done) | (constructor <;> omega)))
   | with_reducible refine Br.not ?_
   | (with_reducible first | refine Br.tt (by assumption) ?_ | refine Br.ff (by assumption) ?_)
   | (refine Br.mk ?_ ?_ <;> intro hb <;> (try simp only [And.intro @hll (ZZ)] at hb) <;> (first | omega | contradiction | skip))
   | refine Src.whole ⟨rfl, rfl⟩ ?_ | refine FrzV.whole ?_
   | refine CallW.use (hP2) ?_
   | (refine Bytes.mk' rfl ?_)) <;> conv => whnf)
  all_goals first | exact CLe.retP rfl | exact CLe.retP (by rw [hll]; simp) | (rw [hdM] at hb; exact absurd hb (by decide)) | exact absurd trivial hb | (exfalso; omega)
set_option maxHeartbeats 1000000 in
theorem nests_true_in_in (N M : Nat) (h2 : N ≤ 40) (h4 : M ≤ 4200) (hN : N < 32) (hM : M + 2 ≤ 4096) : AbsCall PP GG F.law8_JreadNests [.p (.int .i64 N), .p (.bool true), .p (.int .i64 M)] [] ⟨.ret (.p (.bool true)), [], []⟩ := by
  obtain ⟨l1, l2, l3, len1, len2, hll⟩ := nests_facts N M true h2 h4
  have p1 := nests_p1 N true h2
  have p2 := nests_p2 M h4
  rw [if_pos hN] at p1
  rw [if_pos hM] at p2
  have hdN : decide ((N : Int) < 32) = true := decide_eq_true (by omega)
  have hdM : decide ((M : Int) + 2 ≤ 4096) = true := decide_eq_true (by omega)
  have hP1 := parse_ok _ len1 _ p1
  have hD := nests_deep N true h2
  have hP2 := parse_ok _ len2 _ p2
  refine absCall_of (pol := polG) mixP F.law8_JreadNests_is ?_
  conv => whnf
  repeat' ((first
   | ((with_reducible first | refine Br.dec ?_ ?_ | refine Br.ndec ?_ ?_) <;> intro hb <;> (try simp only [ZZ] at hb) <;> (first | omega | contradiction | skip))
   | (with_reducible first | refine Br.tt rfl ?_ | refine Br.ff rfl ?_ | refine Br.ff (isEmptyCons _ _) ?_)
   | (refine Side.mk ?_ ?_; focus (first | omega | (dsimp only [InR, Int.reduceToNat, IntKind.bits, Int.reducePow]; omega) | (simp [CC]; done) | (constructor <;> omega)))
   | with_reducible refine Br.not ?_
   | (with_reducible first | refine Br.tt (by assumption) ?_ | refine Br.ff (by assumption) ?_)
   | (refine Br.mk ?_ ?_ <;> intro hb <;> (try simp only [ZZ] at hb) <;> (first | omega | contradiction | skip))
   | refine Src.whole ⟨rfl, rfl⟩ ?_ | refine FrzV.whole ?_
   | refine CallW.use (law8_awake) ?_) <;> conv => whnf)
  refine LoopW.cl ?_
  refine LoopW.sub (nests_loop N M [123, 34, 107, 34, 58] [125] (by omega) (by decide) (by decide) _ ?_ N 0 (by omega)) (by repeat first | exact trivial | refine ⟨VLe.refl _, ?_⟩) (by repeat first | exact trivial | refine ⟨by decide, ?_⟩)
  conv => whnf
  repeat' ((first
   | ((with_reducible first | refine Br.dec ?_ ?_ | refine Br.ndec ?_ ?_) <;> intro hb <;> (try simp only [ZZ] at hb) <;> (first | omega | contradiction | skip))
   | (with_reducible first | refine Br.tt rfl ?_ | refine Br.ff rfl ?_ | refine Br.ff (isEmptyCons _ _) ?_)
   | (refine Side.mk ?_ ?_; focus (first | omega | (dsimp only [InR, Int.reduceToNat, IntKind.bits, Int.reducePow]; omega) | (show (rep (openS true) N).length + 1 ≤ _; omega) | (simp only [List.length_append]; show (rep (openS true) N).length + 1 + (rep (shutS true) N).length ≤ _; omega) | exact ⟨rfl, rfl⟩ | (simp [CC]; done) | (constructor <;> omega)))
   | with_reducible refine Br.not ?_
   | (with_reducible first | refine Br.tt (by assumption) ?_ | refine Br.ff (by assumption) ?_)
   | (refine Br.mk ?_ ?_ <;> intro hb <;> (try simp only [ZZ] at hb) <;> (first | omega | contradiction | skip))
   | refine Src.whole ⟨rfl, rfl⟩ ?_ | refine FrzV.whole ?_
   | refine CallW.use (hP1) ?_
   | refine CallW.use (hD) ?_) <;> conv => whnf)
  all_goals first | (rw [hdN] at hb; exact absurd hb (by decide)) | exact absurd trivial hb | (exfalso; omega) | skip
  refine LoopW.cl ?_
  refine LoopW.ren [2] (nests_row M (by omega) _ ?_ M 0 (by omega)) (by repeat first | exact trivial | refine ⟨⟨rfl, VLe.refl _⟩, ?_⟩) (by repeat first | exact trivial | refine ⟨by decide, ?_⟩) rfl rfl
  conv => whnf
  repeat' ((first
   | ((with_reducible first | refine Br.dec ?_ ?_ | refine Br.ndec ?_ ?_) <;> intro hb <;> (try simp only [And.intro @hll (ZZ)] at hb) <;> (first | omega | contradiction | skip))
   | (with_reducible first | refine Br.tt rfl ?_ | refine Br.ff rfl ?_ | refine Br.ff (isEmptyCons _ _) ?_)
   | (refine Side.mk ?_ ?_; focus (first | omega | (dsimp only [InR, Int.reduceToNat, IntKind.bits, Int.reducePow]; omega) | (show 1 + (rep [48, 44] M).length ≤ _; omega) | (simp only [List.length_append]; show 1 + (rep [48, 44] M).length + 2 ≤ _; omega) | exact ⟨rfl, rfl⟩ | (simp [CC]; done) | (constructor <;> omega)))
   | with_reducible refine Br.not ?_
   | (with_reducible first | refine Br.tt (by assumption) ?_ | refine Br.ff (by assumption) ?_)
   | (refine Br.mk ?_ ?_ <;> intro hb <;> (try simp only [And.intro @hll (ZZ)] at hb) <;> (first | omega | contradiction | skip))
   | refine Src.whole ⟨rfl, rfl⟩ ?_ | refine FrzV.whole ?_
   | refine CallW.use (hP2) ?_
   | (refine Bytes.mk' rfl ?_)) <;> conv => whnf)
  all_goals first | exact CLe.retP rfl | exact CLe.retP (by rw [hll]; simp) | (rw [hdM] at hb; exact absurd hb (by decide)) | exact absurd trivial hb | (exfalso; omega)
set_option maxHeartbeats 1000000 in
theorem nests_false_in_out (N M : Nat) (h2 : N ≤ 40) (h4 : M ≤ 4200) (hN : N < 32) (hM : ¬ M + 2 ≤ 4096) : AbsCall PP GG F.law8_JreadNests [.p (.int .i64 N), .p (.bool false), .p (.int .i64 M)] [] ⟨.ret (.p (.bool true)), [], []⟩ := by
  obtain ⟨l1, l2, l3, len1, len2, hll⟩ := nests_facts N M false h2 h4
  have p1 := nests_p1 N false h2
  have p2 := nests_p2 M h4
  rw [if_pos hN] at p1
  rw [if_neg hM] at p2
  have hdN : decide ((N : Int) < 32) = true := decide_eq_true (by omega)
  have hdM : decide ((M : Int) + 2 ≤ 4096) = false := decide_eq_false (by omega)
  have hP1 := parse_ok _ len1 _ p1
  have hD := nests_deep N false h2
  obtain ⟨b1, b2, b3, hP2⟩ := parse_bad _ len2 2 _ (by decide) p2
  refine absCall_of (pol := polG) mixP F.law8_JreadNests_is ?_
  conv => whnf
  repeat' ((first
   | ((with_reducible first | refine Br.dec ?_ ?_ | refine Br.ndec ?_ ?_) <;> intro hb <;> (try simp only [ZZ] at hb) <;> (first | omega | contradiction | skip))
   | (with_reducible first | refine Br.tt rfl ?_ | refine Br.ff rfl ?_ | refine Br.ff (isEmptyCons _ _) ?_)
   | (refine Side.mk ?_ ?_; focus (first | omega | (dsimp only [InR, Int.reduceToNat, IntKind.bits, Int.reducePow]; omega) | (simp [CC]; done) | (constructor <;> omega)))
   | with_reducible refine Br.not ?_
   | (with_reducible first | refine Br.tt (by assumption) ?_ | refine Br.ff (by assumption) ?_)
   | (refine Br.mk ?_ ?_ <;> intro hb <;> (try simp only [ZZ] at hb) <;> (first | omega | contradiction | skip))
   | refine Src.whole ⟨rfl, rfl⟩ ?_ | refine FrzV.whole ?_
   | refine CallW.use (law8_awake) ?_) <;> conv => whnf)
  refine LoopW.cl ?_
  refine LoopW.sub (nests_loop N M [91] [93] (by omega) (by decide) (by decide) _ ?_ N 0 (by omega)) (by repeat first | exact trivial | refine ⟨VLe.refl _, ?_⟩) (by repeat first | exact trivial | refine ⟨by decide, ?_⟩)
  conv => whnf
  repeat' ((first
   | ((with_reducible first | refine Br.dec ?_ ?_ | refine Br.ndec ?_ ?_) <;> intro hb <;> (try simp only [ZZ] at hb) <;> (first | omega | contradiction | skip))
   | (with_reducible first | refine Br.tt rfl ?_ | refine Br.ff rfl ?_ | refine Br.ff (isEmptyCons _ _) ?_)
   | (refine Side.mk ?_ ?_; focus (first | omega | (dsimp only [InR, Int.reduceToNat, IntKind.bits, Int.reducePow]; omega) | (show (rep (openS false) N).length + 1 ≤ _; omega) | (simp only [List.length_append]; show (rep (openS false) N).length + 1 + (rep (shutS false) N).length ≤ _; omega) | exact ⟨rfl, rfl⟩ | (simp [CC]; done) | (constructor <;> omega)))
   | with_reducible refine Br.not ?_
   | (with_reducible first | refine Br.tt (by assumption) ?_ | refine Br.ff (by assumption) ?_)
   | (refine Br.mk ?_ ?_ <;> intro hb <;> (try simp only [ZZ] at hb) <;> (first | omega | contradiction | skip))
   | refine Src.whole ⟨rfl, rfl⟩ ?_ | refine FrzV.whole ?_
   | refine CallW.use (hP1) ?_
   | refine CallW.use (hD) ?_) <;> conv => whnf)
  all_goals first | (rw [hdN] at hb; exact absurd hb (by decide)) | exact absurd trivial hb | (exfalso; omega) | skip
  refine LoopW.cl ?_
  refine LoopW.ren [2] (nests_row M (by omega) _ ?_ M 0 (by omega)) (by repeat first | exact trivial | refine ⟨⟨rfl, VLe.refl _⟩, ?_⟩) (by repeat first | exact trivial | refine ⟨by decide, ?_⟩) rfl rfl
  conv => whnf
  repeat' ((first
   | ((with_reducible first | refine Br.dec ?_ ?_ | refine Br.ndec ?_ ?_) <;> intro hb <;> (try simp only [And.intro @hll (ZZ)] at hb) <;> (first | omega | contradiction | skip))
   | (with_reducible first | refine Br.tt rfl ?_ | refine Br.ff rfl ?_ | refine Br.ff (isEmptyCons _ _) ?_)
   | (refine Side.mk ?_ ?_; focus (first | omega | (dsimp only [InR, Int.reduceToNat, IntKind.bits, Int.reducePow]; omega) | (show 1 + (rep [48, 44] M).length ≤ _; omega) | (simp only [List.length_append]; show 1 + (rep [48, 44] M).length + 2 ≤ _; omega) | exact ⟨rfl, rfl⟩ | (simp [CC]; done) | (constructor <;> omega)))
   | with_reducible refine Br.not ?_
   | (with_reducible first | refine Br.tt (by assumption) ?_ | refine Br.ff (by assumption) ?_)
   | (refine Br.mk ?_ ?_ <;> intro hb <;> (try simp only [And.intro @hll (ZZ)] at hb) <;> (first | omega | contradiction | skip))
   | refine Src.whole ⟨rfl, rfl⟩ ?_ | refine FrzV.whole ?_
   | refine CallW.use (hP2) ?_
   | (refine Bytes.mk' rfl ?_)) <;> conv => whnf)
  all_goals first | exact CLe.retP rfl | exact CLe.retP (by rw [hll]; simp) | (rw [hdM] at hb; exact absurd hb (by decide)) | exact absurd trivial hb | (exfalso; omega)
set_option maxHeartbeats 1000000 in
theorem nests_true_in_out (N M : Nat) (h2 : N ≤ 40) (h4 : M ≤ 4200) (hN : N < 32) (hM : ¬ M + 2 ≤ 4096) : AbsCall PP GG F.law8_JreadNests [.p (.int .i64 N), .p (.bool true), .p (.int .i64 M)] [] ⟨.ret (.p (.bool true)), [], []⟩ := by
  obtain ⟨l1, l2, l3, len1, len2, hll⟩ := nests_facts N M true h2 h4
  have p1 := nests_p1 N true h2
  have p2 := nests_p2 M h4
  rw [if_pos hN] at p1
  rw [if_neg hM] at p2
  have hdN : decide ((N : Int) < 32) = true := decide_eq_true (by omega)
  have hdM : decide ((M : Int) + 2 ≤ 4096) = false := decide_eq_false (by omega)
  have hP1 := parse_ok _ len1 _ p1
  have hD := nests_deep N true h2
  obtain ⟨b1, b2, b3, hP2⟩ := parse_bad _ len2 2 _ (by decide) p2
  refine absCall_of (pol := polG) mixP F.law8_JreadNests_is ?_
  conv => whnf
  repeat' ((first
   | ((with_reducible first | refine Br.dec ?_ ?_ | refine Br.ndec ?_ ?_) <;> intro hb <;> (try simp only [ZZ] at hb) <;> (first | omega | contradiction | skip))
   | (with_reducible first | refine Br.tt rfl ?_ | refine Br.ff rfl ?_ | refine Br.ff (isEmptyCons _ _) ?_)
   | (refine Side.mk ?_ ?_; focus (first | omega | (dsimp only [InR, Int.reduceToNat, IntKind.bits, Int.reducePow]; omega) | (simp [CC]; done) | (constructor <;> omega)))
   | with_reducible refine Br.not ?_
   | (with_reducible first | refine Br.tt (by assumption) ?_ | refine Br.ff (by assumption) ?_)
   | (refine Br.mk ?_ ?_ <;> intro hb <;> (try simp only [ZZ] at hb) <;> (first | omega | contradiction | skip))
   | refine Src.whole ⟨rfl, rfl⟩ ?_ | refine FrzV.whole ?_
   | refine CallW.use (law8_awake) ?_) <;> conv => whnf)
  refine LoopW.cl ?_
  refine LoopW.sub (nests_loop N M [123, 34, 107, 34, 58] [125] (by omega) (by decide) (by decide) _ ?_ N 0 (by omega)) (by repeat first | exact trivial | refine ⟨VLe.refl _, ?_⟩) (by repeat first | exact trivial | refine ⟨by decide, ?_⟩)
  conv => whnf
  repeat' ((first
   | ((with_reducible first | refine Br.dec ?_ ?_ | refine Br.ndec ?_ ?_) <;> intro hb <;> (try simp only [ZZ] at hb) <;> (first | omega | contradiction | skip))
   | (with_reducible first | refine Br.tt rfl ?_ | refine Br.ff rfl ?_ | refine Br.ff (isEmptyCons _ _) ?_)
   | (refine Side.mk ?_ ?_; focus (first | omega | (dsimp only [InR, Int.reduceToNat, IntKind.bits, Int.reducePow]; omega) | (show (rep (openS true) N).length + 1 ≤ _; omega) | (simp only [List.length_append]; show (rep (openS true) N).length + 1 + (rep (shutS true) N).length ≤ _; omega) | exact ⟨rfl, rfl⟩ | (simp [CC]; done) | (constructor <;> omega)))
   | with_reducible refine Br.not ?_
   | (with_reducible first | refine Br.tt (by assumption) ?_ | refine Br.ff (by assumption) ?_)
   | (refine Br.mk ?_ ?_ <;> intro hb <;> (try simp only [ZZ] at hb) <;> (first | omega | contradiction | skip))
   | refine Src.whole ⟨rfl, rfl⟩ ?_ | refine FrzV.whole ?_
   | refine CallW.use (hP1) ?_
   | refine CallW.use (hD) ?_) <;> conv => whnf)
  all_goals first | (rw [hdN] at hb; exact absurd hb (by decide)) | exact absurd trivial hb | (exfalso; omega) | skip
  refine LoopW.cl ?_
  refine LoopW.ren [2] (nests_row M (by omega) _ ?_ M 0 (by omega)) (by repeat first | exact trivial | refine ⟨⟨rfl, VLe.refl _⟩, ?_⟩) (by repeat first | exact trivial | refine ⟨by decide, ?_⟩) rfl rfl
  conv => whnf
  repeat' ((first
   | ((with_reducible first | refine Br.dec ?_ ?_ | refine Br.ndec ?_ ?_) <;> intro hb <;> (try simp only [And.intro @hll (ZZ)] at hb) <;> (first | omega | contradiction | skip))
   | (with_reducible first | refine Br.tt rfl ?_ | refine Br.ff rfl ?_ | refine Br.ff (isEmptyCons _ _) ?_)
   | (refine Side.mk ?_ ?_; focus (first | omega | (dsimp only [InR, Int.reduceToNat, IntKind.bits, Int.reducePow]; omega) | (show 1 + (rep [48, 44] M).length ≤ _; omega) | (simp only [List.length_append]; show 1 + (rep [48, 44] M).length + 2 ≤ _; omega) | exact ⟨rfl, rfl⟩ | (simp [CC]; done) | (constructor <;> omega)))
   | with_reducible refine Br.not ?_
   | (with_reducible first | refine Br.tt (by assumption) ?_ | refine Br.ff (by assumption) ?_)
   | (refine Br.mk ?_ ?_ <;> intro hb <;> (try simp only [And.intro @hll (ZZ)] at hb) <;> (first | omega | contradiction | skip))
   | refine Src.whole ⟨rfl, rfl⟩ ?_ | refine FrzV.whole ?_
   | refine CallW.use (hP2) ?_
   | (refine Bytes.mk' rfl ?_)) <;> conv => whnf)
  all_goals first | exact CLe.retP rfl | exact CLe.retP (by rw [hll]; simp) | (rw [hdM] at hb; exact absurd hb (by decide)) | exact absurd trivial hb | (exfalso; omega)
set_option maxHeartbeats 1000000 in
theorem nests_false_out_in (N M : Nat) (h2 : N ≤ 40) (h4 : M ≤ 4200) (hN : ¬ N < 32) (hM : M + 2 ≤ 4096) : AbsCall PP GG F.law8_JreadNests [.p (.int .i64 N), .p (.bool false), .p (.int .i64 M)] [] ⟨.ret (.p (.bool true)), [], []⟩ := by
  obtain ⟨l1, l2, l3, len1, len2, hll⟩ := nests_facts N M false h2 h4
  have p1 := nests_p1 N false h2
  have p2 := nests_p2 M h4
  rw [if_neg hN] at p1
  rw [if_pos hM] at p2
  have hdN : decide ((N : Int) < 32) = false := decide_eq_false (by omega)
  have hdM : decide ((M : Int) + 2 ≤ 4096) = true := decide_eq_true (by omega)
  obtain ⟨c1, c2, c3, hP1⟩ := parse_bad _ len1 2 _ (by decide) p1
  have hP2 := parse_ok _ len2 _ p2
  refine absCall_of (pol := polG) mixP F.law8_JreadNests_is ?_
  conv => whnf
  repeat' ((first
   | ((with_reducible first | refine Br.dec ?_ ?_ | refine Br.ndec ?_ ?_) <;> intro hb <;> (try simp only [ZZ] at hb) <;> (first | omega | contradiction | skip))
   | (with_reducible first | refine Br.tt rfl ?_ | refine Br.ff rfl ?_ | refine Br.ff (isEmptyCons _ _) ?_)
   | (refine Side.mk ?_ ?_; focus (first | omega | (dsimp only [InR, Int.reduceToNat, IntKind.bits, Int.reducePow]; omega) | (simp [CC]; done) | (constructor <;> omega)))
   | with_reducible refine Br.not ?_
   | (with_reducible first | refine Br.tt (by assumption) ?_ | refine Br.ff (by assumption) ?_)
   | (refine Br.mk ?_ ?_ <;> intro hb <;> (try simp only [ZZ] at hb) <;> (first | omega | contradiction | skip))
   | refine Src.whole ⟨rfl, rfl⟩ ?_ | refine FrzV.whole ?_
   | refine CallW.use (law8_awake) ?_) <;> conv => whnf)
  refine LoopW.cl ?_
  refine LoopW.sub (nests_loop N M [91] [93] (by omega) (by decide) (by decide) _ ?_ N 0 (by omega)) (by repeat first | exact trivial | refine ⟨VLe.refl _, ?_⟩) (by repeat first | exact trivial | refine ⟨by decide, ?_⟩)
  conv => whnf
  repeat' ((first
   | ((with_reducible first | refine Br.dec ?_ ?_ | refine Br.ndec ?_ ?_) <;> intro hb <;> (try simp only [ZZ] at hb) <;> (first | omega | contradiction | skip))
   | (with_reducible first | refine Br.tt rfl ?_ | refine Br.ff rfl ?_ | refine Br.ff (isEmptyCons _ _) ?_)
   | (refine Side.mk ?_ ?_; focus (first | omega | (dsimp only [InR, Int.reduceToNat, IntKind.bits, Int.reducePow]; omega) | (show (rep (openS false) N).length + 1 ≤ _; omega) | (simp only [List.length_append]; show (rep (openS false) N).length + 1 + (rep (shutS false) N).length ≤ _; omega) | exact ⟨rfl, rfl⟩ | (simp [CC]; done) | (constructor <;> omega)))
   | with_reducible refine Br.not ?_
   | (with_reducible first | refine Br.tt (by assumption) ?_ | refine Br.ff (by assumption) ?_)
   | (refine Br.mk ?_ ?_ <;> intro hb <;> (try simp only [ZZ] at hb) <;> (first | omega | contradiction | skip))
   | refine Src.whole ⟨rfl, rfl⟩ ?_ | refine FrzV.whole ?_
   | refine CallW.use (hP1) ?_) <;> conv => whnf)
  all_goals first | (rw [hdN] at hb; exact absurd hb (by decide)) | exact absurd trivial hb | (exfalso; omega) | skip
  refine LoopW.cl ?_
  refine LoopW.ren [2] (nests_row M (by omega) _ ?_ M 0 (by omega)) (by repeat first | exact trivial | refine ⟨⟨rfl, VLe.refl _⟩, ?_⟩) (by repeat first | exact trivial | refine ⟨by decide, ?_⟩) rfl rfl
  conv => whnf
  repeat' ((first
   | ((with_reducible first | refine Br.dec ?_ ?_ | refine Br.ndec ?_ ?_) <;> intro hb <;> (try simp only [And.intro @hll (ZZ)] at hb) <;> (first | omega | contradiction | skip))
   | (with_reducible first | refine Br.tt rfl ?_ | refine Br.ff rfl ?_ | refine Br.ff (isEmptyCons _ _) ?_)
   | (refine Side.mk ?_ ?_; focus (first | omega | (dsimp only [InR, Int.reduceToNat, IntKind.bits, Int.reducePow]; omega) | (show 1 + (rep [48, 44] M).length ≤ _; omega) | (simp only [List.length_append]; show 1 + (rep [48, 44] M).length + 2 ≤ _; omega) | exact ⟨rfl, rfl⟩ | (simp [CC]; done) | (constructor <;> omega)))
   | with_reducible refine Br.not ?_
   | (with_reducible first | refine Br.tt (by assumption) ?_ | refine Br.ff (by assumption) ?_)
   | (refine Br.mk ?_ ?_ <;> intro hb <;> (try simp only [And.intro @hll (ZZ)] at hb) <;> (first | omega | contradiction | skip))
   | refine Src.whole ⟨rfl, rfl⟩ ?_ | refine FrzV.whole ?_
   | refine CallW.use (hP2) ?_
   | (refine Bytes.mk' rfl ?_)) <;> conv => whnf)
  all_goals first | exact CLe.retP rfl | exact CLe.retP (by rw [hll]; simp) | (rw [hdM] at hb; exact absurd hb (by decide)) | exact absurd trivial hb | (exfalso; omega)
set_option maxHeartbeats 1000000 in
theorem nests_true_out_in (N M : Nat) (h2 : N ≤ 40) (h4 : M ≤ 4200) (hN : ¬ N < 32) (hM : M + 2 ≤ 4096) : AbsCall PP GG F.law8_JreadNests [.p (.int .i64 N), .p (.bool true), .p (.int .i64 M)] [] ⟨.ret (.p (.bool true)), [], []⟩ := by
  obtain ⟨l1, l2, l3, len1, len2, hll⟩ := nests_facts N M true h2 h4
  have p1 := nests_p1 N true h2
  have p2 := nests_p2 M h4
  rw [if_neg hN] at p1
  rw [if_pos hM] at p2
  have hdN : decide ((N : Int) < 32) = false := decide_eq_false (by omega)
  have hdM : decide ((M : Int) + 2 ≤ 4096) = true := decide_eq_true (by omega)
  obtain ⟨c1, c2, c3, hP1⟩ := parse_bad _ len1 2 _ (by decide) p1
  have hP2 := parse_ok _ len2 _ p2
  refine absCall_of (pol := polG) mixP F.law8_JreadNests_is ?_
  conv => whnf
  repeat' ((first
   | ((with_reducible first | refine Br.dec ?_ ?_ | refine Br.ndec ?_ ?_) <;> intro hb <;> (try simp only [ZZ] at hb) <;> (first | omega | contradiction | skip))
   | (with_reducible first | refine Br.tt rfl ?_ | refine Br.ff rfl ?_ | refine Br.ff (isEmptyCons _ _) ?_)
   | (refine Side.mk ?_ ?_; focus (first | omega | (dsimp only [InR, Int.reduceToNat, IntKind.bits, Int.reducePow]; omega) | (simp [CC]; done) | (constructor <;> omega)))
   | with_reducible refine Br.not ?_
   | (with_reducible first | refine Br.tt (by assumption) ?_ | refine Br.ff (by assumption) ?_)
   | (refine Br.mk ?_ ?_ <;> intro hb <;> (try simp only [ZZ] at hb) <;> (first | omega | contradiction | skip))
   | refine Src.whole ⟨rfl, rfl⟩ ?_ | refine FrzV.whole ?_
   | refine CallW.use (law8_awake) ?_) <;> conv => whnf)
  refine LoopW.cl ?_
  refine LoopW.sub (nests_loop N M [123, 34, 107, 34, 58] [125] (by omega) (by decide) (by decide) _ ?_ N 0 (by omega)) (by repeat first | exact trivial | refine ⟨VLe.refl _, ?_⟩) (by repeat first | exact trivial | refine ⟨by decide, ?_⟩)
  conv => whnf
  repeat' ((first
   | ((with_reducible first | refine Br.dec ?_ ?_ | refine Br.ndec ?_ ?_) <;> intro hb <;> (try simp only [ZZ] at hb) <;> (first | omega | contradiction | skip))
   | (with_reducible first | refine Br.tt rfl ?_ | refine Br.ff rfl ?_ | refine Br.ff (isEmptyCons _ _) ?_)
   | (refine Side.mk ?_ ?_; focus (first | omega | (dsimp only [InR, Int.reduceToNat, IntKind.bits, Int.reducePow]; omega) | (show (rep (openS true) N).length + 1 ≤ _; omega) | (simp only [List.length_append]; show (rep (openS true) N).length + 1 + (rep (shutS true) N).length ≤ _; omega) | exact ⟨rfl, rfl⟩ | (simp [CC]; done) | (constructor <;> omega)))
   | with_reducible refine Br.not ?_
   | (with_reducible first | refine Br.tt (by assumption) ?_ | refine Br.ff (by assumption) ?_)
   | (refine Br.mk ?_ ?_ <;> intro hb <;> (try simp only [ZZ] at hb) <;> (first | omega | contradiction | skip))
   | refine Src.whole ⟨rfl, rfl⟩ ?_ | refine FrzV.whole ?_
   | refine CallW.use (hP1) ?_) <;> conv => whnf)
  all_goals first | (rw [hdN] at hb; exact absurd hb (by decide)) | exact absurd trivial hb | (exfalso; omega) | skip
  refine LoopW.cl ?_
  refine LoopW.ren [2] (nests_row M (by omega) _ ?_ M 0 (by omega)) (by repeat first | exact trivial | refine ⟨⟨rfl, VLe.refl _⟩, ?_⟩) (by repeat first | exact trivial | refine ⟨by decide, ?_⟩) rfl rfl
  conv => whnf
  repeat' ((first
   | ((with_reducible first | refine Br.dec ?_ ?_ | refine Br.ndec ?_ ?_) <;> intro hb <;> (try simp only [And.intro @hll (ZZ)] at hb) <;> (first | omega | contradiction | skip))
   | (with_reducible first | refine Br.tt rfl ?_ | refine Br.ff rfl ?_ | refine Br.ff (isEmptyCons _ _) ?_)
   | (refine Side.mk ?_ ?_; focus (first | omega | (dsimp only [InR, Int.reduceToNat, IntKind.bits, Int.reducePow]; omega) | (show 1 + (rep [48, 44] M).length ≤ _; omega) | (simp only [List.length_append]; show 1 + (rep [48, 44] M).length + 2 ≤ _; omega) | exact ⟨rfl, rfl⟩ | (simp [CC]; done) | (constructor <;> omega)))
   | with_reducible refine Br.not ?_
   | (with_reducible first | refine Br.tt (by assumption) ?_ | refine Br.ff (by assumption) ?_)
   | (refine Br.mk ?_ ?_ <;> intro hb <;> (try simp only [And.intro @hll (ZZ)] at hb) <;> (first | omega | contradiction | skip))
   | refine Src.whole ⟨rfl, rfl⟩ ?_ | refine FrzV.whole ?_
   | refine CallW.use (hP2) ?_
   | (refine Bytes.mk' rfl ?_)) <;> conv => whnf)
  all_goals first | exact CLe.retP rfl | exact CLe.retP (by rw [hll]; simp) | (rw [hdM] at hb; exact absurd hb (by decide)) | exact absurd trivial hb | (exfalso; omega)
set_option maxHeartbeats 1000000 in
theorem nests_false_out_out (N M : Nat) (h2 : N ≤ 40) (h4 : M ≤ 4200) (hN : ¬ N < 32) (hM : ¬ M + 2 ≤ 4096) : AbsCall PP GG F.law8_JreadNests [.p (.int .i64 N), .p (.bool false), .p (.int .i64 M)] [] ⟨.ret (.p (.bool true)), [], []⟩ := by
  obtain ⟨l1, l2, l3, len1, len2, hll⟩ := nests_facts N M false h2 h4
  have p1 := nests_p1 N false h2
  have p2 := nests_p2 M h4
  rw [if_neg hN] at p1
  rw [if_neg hM] at p2
  have hdN : decide ((N : Int) < 32) = false := decide_eq_false (by omega)
  have hdM : decide ((M : Int) + 2 ≤ 4096) = false := decide_eq_false (by omega)
  obtain ⟨c1, c2, c3, hP1⟩ := parse_bad _ len1 2 _ (by decide) p1
  obtain ⟨b1, b2, b3, hP2⟩ := parse_bad _ len2 2 _ (by decide) p2
  refine absCall_of (pol := polG) mixP F.law8_JreadNests_is ?_
  conv => whnf
  repeat' ((first
   | ((with_reducible first | refine Br.dec ?_ ?_ | refine Br.ndec ?_ ?_) <;> intro hb <;> (try simp only [ZZ] at hb) <;> (first | omega | contradiction | skip))
   | (with_reducible first | refine Br.tt rfl ?_ | refine Br.ff rfl ?_ | refine Br.ff (isEmptyCons _ _) ?_)
   | (refine Side.mk ?_ ?_; focus (first | omega | (dsimp only [InR, Int.reduceToNat, IntKind.bits, Int.reducePow]; omega) | (simp [CC]; done) | (constructor <;> omega)))
   | with_reducible refine Br.not ?_
   | (with_reducible first | refine Br.tt (by assumption) ?_ | refine Br.ff (by assumption) ?_)
   | (refine Br.mk ?_ ?_ <;> intro hb <;> (try simp only [ZZ] at hb) <;> (first | omega | contradiction | skip))
   | refine Src.whole ⟨rfl, rfl⟩ ?_ | refine FrzV.whole ?_
   | refine CallW.use (law8_awake) ?_) <;> conv => whnf)
  refine LoopW.cl ?_
  refine LoopW.sub (nests_loop N M [91] [93] (by omega) (by decide) (by decide) _ ?_ N 0 (by omega)) (by repeat first | exact trivial | refine ⟨VLe.refl _, ?_⟩) (by repeat first | exact trivial | refine ⟨by decide, ?_⟩)
  conv => whnf
  repeat' ((first
   | ((with_reducible first | refine Br.dec ?_ ?_ | refine Br.ndec ?_ ?_) <;> intro hb <;> (try simp only [ZZ] at hb) <;> (first | omega | contradiction | skip))
   | (with_reducible first | refine Br.tt rfl ?_ | refine Br.ff rfl ?_ | refine Br.ff (isEmptyCons _ _) ?_)
   | (refine Side.mk ?_ ?_; focus (first | omega | (dsimp only [InR, Int.reduceToNat, IntKind.bits, Int.reducePow]; omega) | (show (rep (openS false) N).length + 1 ≤ _; omega) | (simp only [List.length_append]; show (rep (openS false) N).length + 1 + (rep (shutS false) N).length ≤ _; omega) | exact ⟨rfl, rfl⟩ | (simp [CC]; done) | (constructor <;> omega)))
   | with_reducible refine Br.not ?_
   | (with_reducible first | refine Br.tt (by assumption) ?_ | refine Br.ff (by assumption) ?_)
   | (refine Br.mk ?_ ?_ <;> intro hb <;> (try simp only [ZZ] at hb) <;> (first | omega | contradiction | skip))
   | refine Src.whole ⟨rfl, rfl⟩ ?_ | refine FrzV.whole ?_
   | refine CallW.use (hP1) ?_) <;> conv => whnf)
  all_goals first | (rw [hdN] at hb; exact absurd hb (by decide)) | exact absurd trivial hb | (exfalso; omega) | skip
  refine LoopW.cl ?_
  refine LoopW.ren [2] (nests_row M (by omega) _ ?_ M 0 (by omega)) (by repeat first | exact trivial | refine ⟨⟨rfl, VLe.refl _⟩, ?_⟩) (by repeat first | exact trivial | refine ⟨by decide, ?_⟩) rfl rfl
  conv => whnf
  repeat' ((first
   | ((with_reducible first | refine Br.dec ?_ ?_ | refine Br.ndec ?_ ?_) <;> intro hb <;> (try simp only [And.intro @hll (ZZ)] at hb) <;> (first | omega | contradiction | skip))
   | (with_reducible first | refine Br.tt rfl ?_ | refine Br.ff rfl ?_ | refine Br.ff (isEmptyCons _ _) ?_)
   | (refine Side.mk ?_ ?_; focus (first | omega | (dsimp only [InR, Int.reduceToNat, IntKind.bits, Int.reducePow]; omega) | (show 1 + (rep [48, 44] M).length ≤ _; omega) | (simp only [List.length_append]; show 1 + (rep [48, 44] M).length + 2 ≤ _; omega) | exact ⟨rfl, rfl⟩ | (simp [CC]; done) | (constructor <;> omega)))
   | with_reducible refine Br.not ?_
   | (with_reducible first | refine Br.tt (by assumption) ?_ | refine Br.ff (by assumption) ?_)
   | (refine Br.mk ?_ ?_ <;> intro hb <;> (try simp only [And.intro @hll (ZZ)] at hb) <;> (first | omega | contradiction | skip))
   | refine Src.whole ⟨rfl, rfl⟩ ?_ | refine FrzV.whole ?_
   | refine CallW.use (hP2) ?_
   | (refine Bytes.mk' rfl ?_)) <;> conv => whnf)
  all_goals first | exact CLe.retP rfl | exact CLe.retP (by rw [hll]; simp) | (rw [hdM] at hb; exact absurd hb (by decide)) | exact absurd trivial hb | (exfalso; omega)
set_option maxHeartbeats 1000000 in
theorem nests_true_out_out (N M : Nat) (h2 : N ≤ 40) (h4 : M ≤ 4200) (hN : ¬ N < 32) (hM : ¬ M + 2 ≤ 4096) : AbsCall PP GG F.law8_JreadNests [.p (.int .i64 N), .p (.bool true), .p (.int .i64 M)] [] ⟨.ret (.p (.bool true)), [], []⟩ := by
  obtain ⟨l1, l2, l3, len1, len2, hll⟩ := nests_facts N M true h2 h4
  have p1 := nests_p1 N true h2
  have p2 := nests_p2 M h4
  rw [if_neg hN] at p1
  rw [if_neg hM] at p2
  have hdN : decide ((N : Int) < 32) = false := decide_eq_false (by omega)
  have hdM : decide ((M : Int) + 2 ≤ 4096) = false := decide_eq_false (by omega)
  obtain ⟨c1, c2, c3, hP1⟩ := parse_bad _ len1 2 _ (by decide) p1
  obtain ⟨b1, b2, b3, hP2⟩ := parse_bad _ len2 2 _ (by decide) p2
  refine absCall_of (pol := polG) mixP F.law8_JreadNests_is ?_
  conv => whnf
  repeat' ((first
   | ((with_reducible first | refine Br.dec ?_ ?_ | refine Br.ndec ?_ ?_) <;> intro hb <;> (try simp only [ZZ] at hb) <;> (first | omega | contradiction | skip))
   | (with_reducible first | refine Br.tt rfl ?_ | refine Br.ff rfl ?_ | refine Br.ff (isEmptyCons _ _) ?_)
   | (refine Side.mk ?_ ?_; focus (first | omega | (dsimp only [InR, Int.reduceToNat, IntKind.bits, Int.reducePow]; omega) | (simp [CC]; done) | (constructor <;> omega)))
   | with_reducible refine Br.not ?_
   | (with_reducible first | refine Br.tt (by assumption) ?_ | refine Br.ff (by assumption) ?_)
   | (refine Br.mk ?_ ?_ <;> intro hb <;> (try simp only [ZZ] at hb) <;> (first | omega | contradiction | skip))
   | refine Src.whole ⟨rfl, rfl⟩ ?_ | refine FrzV.whole ?_
   | refine CallW.use (law8_awake) ?_) <;> conv => whnf)
  refine LoopW.cl ?_
  refine LoopW.sub (nests_loop N M [123, 34, 107, 34, 58] [125] (by omega) (by decide) (by decide) _ ?_ N 0 (by omega)) (by repeat first | exact trivial | refine ⟨VLe.refl _, ?_⟩) (by repeat first | exact trivial | refine ⟨by decide, ?_⟩)
  conv => whnf
  repeat' ((first
   | ((with_reducible first | refine Br.dec ?_ ?_ | refine Br.ndec ?_ ?_) <;> intro hb <;> (try simp only [ZZ] at hb) <;> (first | omega | contradiction | skip))
   | (with_reducible first | refine Br.tt rfl ?_ | refine Br.ff rfl ?_ | refine Br.ff (isEmptyCons _ _) ?_)
   | (refine Side.mk ?_ ?_; focus (first | omega | (dsimp only [InR, Int.reduceToNat, IntKind.bits, Int.reducePow]; omega) | (show (rep (openS true) N).length + 1 ≤ _; omega) | (simp only [List.length_append]; show (rep (openS true) N).length + 1 + (rep (shutS true) N).length ≤ _; omega) | exact ⟨rfl, rfl⟩ | (simp [CC]; done) | (constructor <;> omega)))
   | with_reducible refine Br.not ?_
   | (with_reducible first | refine Br.tt (by assumption) ?_ | refine Br.ff (by assumption) ?_)
   | (refine Br.mk ?_ ?_ <;> intro hb <;> (try simp only [ZZ] at hb) <;> (first | omega | contradiction | skip))
   | refine Src.whole ⟨rfl, rfl⟩ ?_ | refine FrzV.whole ?_
   | refine CallW.use (hP1) ?_) <;> conv => whnf)
  all_goals first | (rw [hdN] at hb; exact absurd hb (by decide)) | exact absurd trivial hb | (exfalso; omega) | skip
  refine LoopW.cl ?_
  refine LoopW.ren [2] (nests_row M (by omega) _ ?_ M 0 (by omega)) (by repeat first | exact trivial | refine ⟨⟨rfl, VLe.refl _⟩, ?_⟩) (by repeat first | exact trivial | refine ⟨by decide, ?_⟩) rfl rfl
  conv => whnf
  repeat' ((first
   | ((with_reducible first | refine Br.dec ?_ ?_ | refine Br.ndec ?_ ?_) <;> intro hb <;> (try simp only [And.intro @hll (ZZ)] at hb) <;> (first | omega | contradiction | skip))
   | (with_reducible first | refine Br.tt rfl ?_ | refine Br.ff rfl ?_ | refine Br.ff (isEmptyCons _ _) ?_)
   | (refine Side.mk ?_ ?_; focus (first | omega | (dsimp only [InR, Int.reduceToNat, IntKind.bits, Int.reducePow]; omega) | (show 1 + (rep [48, 44] M).length ≤ _; omega) | (simp only [List.length_append]; show 1 + (rep [48, 44] M).length + 2 ≤ _; omega) | exact ⟨rfl, rfl⟩ | (simp [CC]; done) | (constructor <;> omega)))
   | with_reducible refine Br.not ?_
   | (with_reducible first | refine Br.tt (by assumption) ?_ | refine Br.ff (by assumption) ?_)
   | (refine Br.mk ?_ ?_ <;> intro hb <;> (try simp only [And.intro @hll (ZZ)] at hb) <;> (first | omega | contradiction | skip))
   | refine Src.whole ⟨rfl, rfl⟩ ?_ | refine FrzV.whole ?_
   | refine CallW.use (hP2) ?_
   | (refine Bytes.mk' rfl ?_)) <;> conv => whnf)
  all_goals first | exact CLe.retP rfl | exact CLe.retP (by rw [hll]; simp) | (rw [hdM] at hb; exact absurd hb (by decide)) | exact absurd trivial hb | (exfalso; omega)
theorem law8_JreadNests (n : Int) (b : Bool) (m : Int) : AbsCall PP GG F.law8_JreadNests [.p (.int .i64 n), .p (.bool b), .p (.int .i64 m)] [] ⟨.ret (.p (.bool true)), [], []⟩ := by
  by_cases hg : (0 ≤ n ∧ n ≤ 40) ∧ (0 ≤ m ∧ m ≤ 4200)
  case neg =>
    refine absCall_of (pol := polG) mixP F.law8_JreadNests_is ?_
    conv => whnf
    repeat' ((first
     | ((with_reducible first | refine Br.dec ?_ ?_ | refine Br.ndec ?_ ?_) <;> intro hb <;> (try simp only [ZZ] at hb) <;> (first | omega | contradiction | skip))
     | (with_reducible first | refine Br.tt rfl ?_ | refine Br.ff rfl ?_ | refine Br.ff (isEmptyCons _ _) ?_)
     | (refine Side.mk ?_ ?_; focus (first | omega | (dsimp only [InR, Int.reduceToNat, IntKind.bits, Int.reducePow]; omega) | (simp [CC]; done) | (constructor <;> omega)))
     | with_reducible refine Br.not ?_
     | (with_reducible first | refine Br.tt (by assumption) ?_ | refine Br.ff (by assumption) ?_)
     | (refine Br.mk ?_ ?_ <;> intro hb <;> (try simp only [ZZ] at hb) <;> (first | omega | contradiction | skip))
     | refine Src.whole ⟨rfl, rfl⟩ ?_ | refine FrzV.whole ?_
     | refine CallW.use (law8_awake) ?_) <;> conv => whnf)
    all_goals first | exact CLe.retP rfl | omega
  obtain ⟨⟨h1, h2⟩, h3, h4⟩ := hg
  obtain ⟨N, rfl⟩ := Int.eq_ofNat_of_zero_le h1
  obtain ⟨M, rfl⟩ := Int.eq_ofNat_of_zero_le h3
  by_cases hN : N < 32 <;> by_cases hM : M + 2 ≤ 4096 <;> cases b
  · exact nests_false_in_in N M (by omega) (by omega) hN hM
  · exact nests_true_in_in N M (by omega) (by omega) hN hM
  · exact nests_false_in_out N M (by omega) (by omega) hN hM
  · exact nests_true_in_out N M (by omega) (by omega) hN hM
  · exact nests_false_out_in N M (by omega) (by omega) hN hM
  · exact nests_true_out_in N M (by omega) (by omega) hN hM
  · exact nests_false_out_out N M (by omega) (by omega) hN hM
  · exact nests_true_out_out N M (by omega) (by omega) hN hM
end Go.Proofs.YtoinkmogdfjmmaaGreatDoor
end

section
namespace Go.Proofs.YtoinkmogdfjmmaaGreatDoor
open Go.ChangeShapes Go.WideShapes Go.ChangeAt Go.RowKit Go.Am
set_option maxRecDepth 100000
theorem jreadNests_contract (H : Type) (enc : TypeId × Value → H) (W : World) (base : Nat) (args : Array Value) (ds gs : List (DataW H)) (before : List MemPlace)
    (hval : ∀ (j : Nat) t v, Tryz.f5.params[j]? = some t → args[j]? = some v → Value.okWide PP W .any base t v)
    (hW : DataW.Whole enc PP Tryz.f5.params.toList Rows.jreadNestsSpec.vars false W args.toList ds gs before) (hL : laidMetH PP Rows.jreadNestsRow.laid W) (hk : Rows.uptoBulkAll ds ≤ 1048576) :
    Calls PP F.law8_JreadNests args W fun e W' => ∃ v, e = .returned v ∧ Rows.jreadNestsSpec.post enc PP Tryz.f5 false true false false W args v W' := by
  have hW' := hW
  have hlt := hW.lt
  obtain ⟨p, q, hA0, hV, rfl, hfz, hnd⟩ := hW
  have hA : DataW.TrodAll enc PP W 0 (fun _ => true) true Tryz.f5.params.toList args.toList ds p := hA0
  rw [Tryz.params5] at hA
  obtain ⟨v0, vs0, d0, ds0, p0, q0, hargs, rfl, rfl, h0, r0⟩ := trodAll_cons hA
  obtain ⟨v1, vs1, d1, ds1, p1, q1, rfl, rfl, rfl, h1, r1⟩ := trodAll_cons r0
  obtain ⟨v2, vs2, d2, ds2, p2, q2, rfl, rfl, rfl, h2, r2⟩ := trodAll_cons r1
  obtain ⟨rfl, rfl, rfl⟩ := trodAll_nil r2
  obtain rfl : args = #[v0, v1, v2] := by cases args; simp_all
  obtain ⟨rfl, rfl⟩ := trodVars_none hV
  clear hA0
  obtain ⟨t0, rfl, rfl, rfl, ha0, hb0⟩ := int_arg (t := T.int) c_int (hval 0 T.int v0 (by kernel_rfl) rfl) h0
  obtain ⟨t1, rfl, rfl, rfl⟩ := bool_arg (hval 1 T.bool v1 (by kernel_rfl) rfl) h1
  obtain ⟨t2, rfl, rfl, rfl, ha2, hb2⟩ := int_arg (t := T.int) c_int (hval 2 T.int v2 (by kernel_rfl) rfl) h2
  simp only [List.append_nil] at hW' hlt
  simp only [Rows.uptoBulkAll, Rows.uptoBulk] at hk
  refine (law_call (f := F.law8_JreadNests) (ds := [.int .i64 t0, .bool t1, .int .i64 t2]) (vs := [.int .i64 t0, .bool t1, .int .i64 t2]) Tryz.func5 (by kernel_rfl) rfl (fun i x y hx hy => ?_) (gok_of hL (by rw [pow10_lit]; rfl) rfl rfl) (law8_JreadNests t0 t1 t2 )).mono fun e W1 ⟨he, hb⟩ => ?_
  · rcases i with _ | _ | _ | i
    · cases hx; cases hy; exact .int .i64 t0
    · cases hx; cases hy; exact .bool t1
    · cases hx; cases hy; exact .int .i64 t2
    · simp at hx
  · subst he
    have b := Tryz.underlying4
    exact ⟨_, rfl, post_of_below (pa := []) (pv := []) hW' (fun _ _ _ => trodAll_cons_mk (shut_bool b _) trodAll_mk0)
      (fun sp hs => trodAll_mk3 (arg_stays readI rowI h0 hb (by simp) (by simp)) (arg_stays readB rowB h1 hb (by simp) (by simp)) (arg_stays readI rowI h2 hb (by simp) (by simp)))
      (fun _ _ => rfl) (by simp) hb (ok_one (by kernel_rfl) rfl (okWide_bool_mk b _))⟩
theorem jreadNests_reads (os : Os) {H : Type} (enc : TypeId × Value → H) : ∃ places, DataW.whole enc PP ((World.laidAll PP os Rows.jreadNestsUptoRow.laid).forCall (fun _ _ => 0) ⟨#[], #[.int .i64 0, .bool false, .int .i64 0], []⟩).memory Tryz.f5.params.toList Rows.jreadNestsSpec.vars false (#[.int .i64 0, .bool false, .int .i64 0] : Array Value).toList 8 = some ([.lit (.int .i64 0), .lit (.bool false), .lit (.int .i64 0)], [], places) :=
  ⟨[], by kernel_rfl⟩
theorem jreadNests_lifted (os : Os) (started : os.Started) (H : Type) (enc : TypeId × Value → H) (Fi : Stop.Interp) :
    ReturnsInHanded {} Tryz.checked os F.law8_JreadNests .any ((Rows.OpenSpec.upto Rows.jreadNestsSpec).preRow enc PP Tryz.f5 Rows.jreadNestsUptoRow.domain false Rows.jreadNestsUptoRow.laid) (((Rows.OpenSpec.upto Rows.jreadNestsSpec).at Fi).post enc PP Tryz.f5 false true false false) := by
  obtain ⟨places, hx⟩ := jreadNests_reads os enc
  refine returnsInHanded_of_row (C := Tryz.checked) (s := Rows.OpenSpec.upto Rows.jreadNestsSpec) own started (by kernel_rfl) Tryz.func5
    (witness_row_atRef (enc := enc) (C := Tryz.checked) false (World.laidAll PP os Rows.jreadNestsUptoRow.laid) #[.int .i64 0, .bool false, .int .i64 0] (World.laidAll_os _ _ _) (by kernel_rfl) (by kernel_rfl) (by kernel_rfl)
      (OpenSpec.preRow_of_cond 8 hx (by kernel_rfl) (fun k hk => by cases hk; kernel_rfl) (by kernel_rfl) (laidMet_laidAll _ (by kernel_rfl) (by kernel_rfl)))) ?_
  intro W base args ds gs before hval hW _ hcond _ hL _ _
  have hk := of_decide_eq_true (hcond _ rfl)
  refine jreadNests_contract H enc W base args ds gs before hval hW hL (Nat.le_trans ?_ hk)
  rw [bulk_append]
  exact Nat.le_add_right _ _
theorem jreadNests_said : Rows.JreadNestsUptoSaid :=
  OpenClaim.holds_of_cond F.law8_JreadNests Tryz.f5 rfl rfl rfl rfl rfl rfl rfl ⟨rfl, rfl, rfl, rfl, rfl⟩ rfl rfl rfl rfl rfl (by kernel_rfl) Tryz.func5 (by kernel_rfl)
    (of_decide_eq_true (by kernel_rfl)) (by unfold Func.isWrapper; first | (rw [if_pos (by decide +kernel)]; kernel_rfl) | (rw [if_neg (by decide +kernel)]; exact ⟨rfl, rfl⟩))
    (fun os started H enc _ Fi => by rw [OpenClaim.pre_eq_preRow]; exact jreadNests_lifted os started H enc Fi)
theorem jreadNests_plain (f : FuncId) (fn : Func) (hf : Tryz.pinned.checked.prog.funcNamed "dragoman/dragomanlaw8.JreadNests" = some f) (hfn : Tryz.pinned.checked.prog.funcs[f]? = some fn) :
    true = Tryz.pinned.checked.prog.looks [] ∧ ∀ (j : Nat) t, fn.params[j]? = some t → Tryz.pinned.checked.prog.wantsStandIn t = false := by
  obtain rfl : f = F.law8_JreadNests := Option.some.inj ((show PP.funcNamed "dragoman/dragomanlaw8.JreadNests" = some F.law8_JreadNests by kernel_rfl).symm.trans hf) |>.symm
  obtain rfl : fn = Tryz.f5 := (Option.some.inj (Tryz.func5.symm.trans hfn)).symm
  refine ⟨by kernel_rfl, fun j t ht => ?_⟩
  rw [Tryz.params5] at ht
  rcases (show t = T.int ∨ t = T.bool ∨ t = T.int by simpa using Array.mem_of_getElem? ht) with rfl | rfl | rfl
  · exact (show PP.wantsStandIn T.int = false by kernel_rfl)
  · exact (show PP.wantsStandIn T.bool = false by kernel_rfl)
  · exact (show PP.wantsStandIn T.int = false by kernel_rfl)
theorem jreadNests_card : Rows.JreadNestsUptoCardSaid :=
  Claim7.holds_tied_plain_at .later [] _ _ _ _ jreadNests_said (fun _ h => by cases h) (by kernel_rfl) (fun _ h => by cases h) jreadNestsUpto_row_tie rfl ⟨rfl, rfl⟩ (by kernel_rfl) rfl jreadNests_plain (by kernel_rfl)
end Go.Proofs.YtoinkmogdfjmmaaGreatDoor
end
