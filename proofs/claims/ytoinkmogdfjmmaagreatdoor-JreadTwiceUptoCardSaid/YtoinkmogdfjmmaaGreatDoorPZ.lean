/-
A key that stands twice in one map of a JSON text is told at the second one; in two maps it may stand (dragomanlaw8.JreadTwice answers true), for all keys and numbers up to the row's bulk.
Pairs in any order, read.
Trees alike, field by field.
What is read of a text may be: its words.
What is read of a text may be: its trees.
Maps of ints with their pairs in any order: what their text says.
A key twice in one map: where it is told.
A key, and others beside it: the texts of the law on keys twice.
The eighth layer's laws: a key twice.
From what a row says of its arguments to what the machine knows of them: numbers, letters, lists, structs.
What a row says of an argument that is a tree.
What a row's list of variables gives.
What all rows need.
What rows need of arguments that are strings, whole numbers, bools.
The row of JreadTwice.
-/
import Derived.Test.YtoinkmogdfjmmaaGreatDoorPJ
import Derived.Test.YtoinkmogdfjmmaaGreatDoorPF
import Derived.Lib.ParseIntBTie
import Derived.Test.YtoinkmogdfjmmaaGreatDoorPD
import Derived.ChangeAnyMap
import Derived.Test.YtoinkmogdfjmmaaGreatDoorPI
import Derived.Test.YtoinkmogdfjmmaaGreatDoorPE
import Derived.Test.YtoinkmogdfjmmaaGreatDoorRows
import Derived.LaidLaws
import Derived.LaidSub
import Derived.Lib.LaidTab
import Derived.Deep.DeepHandedRow
import Derived.Test.YtoinkmogdfjmmaaGreatDoorCards
import Derived.Test.YtoinkmogdfjmmaaGreatDoorTie
import Derived.WalkKit
import Derived.ProofKit
import Derived.OpenShut
import Derived.Deep.DeepWitnessRowRef
import Derived.MakeChecks
import Derived.Carry
import Derived.Lay

section
namespace Go.Am
open Go
theorem read_entriesD (ws : List Wd) (d : Int) (rest : List (Int × Str)) : ∀ (m : List (Str × Tree)) (k : Str) (x : Tree) (acc : List (Str × Tree)) (q i : Nat) (n : Int), (∀ y ∈ (k, x) :: m, ReadAt y.2 ∧ goodT y.2 = true ∧ d + 1 + y.2.depth ≤ 33) →
    (acc ++ (k, x) :: m).Pairwise (fun p q => p.1 ≠ q.1) → (ws.drop i).map kp = (2, k) :: (1, [58]) :: (wordsT x ++ (wordsM false m ++ (1, [125]) :: rest)) → 3 * ((wordsT x).length + (wordsM false m).length + 2) + 1 ≤ q → n + x.nodes + Tree.nodesM m ≤ 4096 →
    ∀ acc' : List (Str × Tree), acc'.map (·.1) = acc.map (·.1) →
    entriesR q ws d i n acc' = .ok (.mk 6 0 [] [] (sortP (acc' ++ (k, unst x) :: unstM m)), i + 2 + (wordsT x).length + (wordsM false m).length + 1, n + x.nodes + Tree.nodesM m)
  | [], k, x, acc, q, i, n, hy, hup, h, hq, hn, acc', he => by
    obtain ⟨h1, h2, h3⟩ : ReadAt x ∧ goodT x = true ∧ d + 1 + x.depth ≤ 33 := hy (k, x) (by simp)
    obtain ⟨q, rfl⟩ : ∃ p, q = p + 1 := ⟨q - 1, by omega⟩
    simp only [wordsM, List.nil_append, List.length_nil, Tree.nodesM] at h hq hn ⊢
    obtain ⟨w1, w2, w3⟩ := wd_cons h
    have w4 := (wd_cons w3).2.2
    have hno : hasK acc' k = false := hasK_no fun p hp => by
      have : p.1 ∈ acc.map (·.1) := he ▸ List.mem_map_of_mem hp
      obtain ⟨p', hp', e⟩ := List.mem_map.1 this
      rw [← e]
      exact (List.pairwise_append.1 hup).2.2 p' hp' (k, x) (by simp)
    rw [entriesR, w1, if_neg (by decide), w2, hno, if_neg (by decide), isS_at w3, if_neg (by decide), h1 q ws (d + 1) (i + 2) n _ h2 w4 (by omega) (by omega) h3]
    have hz := wd_app w4
    simp only []
    rw [show i + 2 + (wordsT x).length = i + 1 + 1 + (wordsT x).length by omega, isS_at hz, if_pos (by decide)]
    simp [unstM]
  | (k', y) :: m, k, x, acc, q, i, n, hy, hup, h, hq, hn, acc', he => by
    obtain ⟨h1, h2, h3⟩ : ReadAt x ∧ goodT x = true ∧ d + 1 + x.depth ≤ 33 := hy (k, x) (by simp)
    obtain ⟨q, rfl⟩ : ∃ p, q = p + 1 := ⟨q - 1, by omega⟩
    rw [wordsM, if_neg (by decide), wordsP] at h hq ⊢
    simp only [List.append_assoc, List.cons_append, List.nil_append, List.length_append, List.length_cons, List.length_nil, Tree.nodesM, Tree.nodesP] at h hq hn ⊢
    obtain ⟨w1, w2, w3⟩ := wd_cons h
    have w4 := (wd_cons w3).2.2
    have hno : hasK acc' k = false := hasK_no fun p hp => by
      have : p.1 ∈ acc.map (·.1) := he ▸ List.mem_map_of_mem hp
      obtain ⟨p', hp', e⟩ := List.mem_map.1 this
      rw [← e]
      exact (List.pairwise_append.1 hup).2.2 p' hp' (k, x) (by simp)
    rw [entriesR, w1, if_neg (by decide), w2, hno, if_neg (by decide), isS_at w3, if_neg (by decide), h1 q ws (d + 1) (i + 2) n _ h2 w4 (by omega) (by omega) h3]
    have hz := wd_app w4
    have hc := (wd_cons hz).2.2
    simp only []
    rw [show i + 2 + (wordsT x).length = i + 1 + 1 + (wordsT x).length by omega, isS_at hz, if_neg (by decide), isS_at hz, if_pos (by decide)]
    rw [read_entriesD ws d rest m k' y (acc ++ [(k, x)]) q _ _ (fun z hz => hy z (by simp at hz ⊢; exact .inr hz)) (by simpa using hup) hc (by omega) (by omega) (acc' ++ [(k, unst x)]) (by simp [he])]
    refine congrArg Except.ok (Prod.ext ?_ (Prod.ext ?_ ?_))
    · simp [unstM, unstP]
    · simp only []; omega
    · simp only []; omega
theorem parse_pairs {ps : List (Str × Tree)} (hk : ∀ p ∈ ps, strOk p.1 = true ∧ goodT p.2 = true ∧ p.2.depth ≤ 31) (hp : ps.Pairwise (fun p q => p.1 ≠ q.1)) (hn : Tree.nodesM ps ≤ 4095) (hv : (utfValid (123 :: (printM true ps (-1) ++ [125]))).2 = true)
    (hl : (123 :: (printM true ps (-1) ++ [125])).length ≤ 65536) : parseS (123 :: (printM true ps (-1) ++ [125])) = (.mk 6 0 [] [] (sortP (unstM ps)), 0, 0) := by
  have hx : Lexes (123 :: (printM true ps (-1) ++ [125])) ((1, [123]) :: (wordsM true ps ++ [(1, [125])])) := by
    refine .sign 123 (by decide) ?_
    have := lexM (-1) (-1) [] [] .nil ps true fun x hx => ⟨lex_tree x.2, (hk x hx).1, (hk x hx).2.1⟩
    exact this
  have hsk : skipB (123 :: (printM true ps (-1) ++ [125])) = 123 :: (printM true ps (-1) ++ [125]) := skip_sign 123 _ (by decide)
  obtain ⟨l, hm, hc⟩ := cut_lexes hv hl (by rw [hsk]; exact hx)
  have hll : l.length = (wordsM true ps).length + 2 := by rw [← List.length_map (f := kp), hm]; simp
  have h0 : ((l ++ [(⟨0, [], ((123 :: (printM true ps (-1) ++ [125])).length : Int)⟩ : Wd)]).drop 0).map kp = (1, [123]) :: (wordsM true ps ++ [(1, [125]), (0, [])]) := by simp [hm, kp]
  obtain ⟨w1, w2, w3⟩ := wd_cons h0
  obtain ⟨q, hq⟩ : ∃ q, 3 * (l.length + 1) + 1 = q + 1 + 1 := ⟨3 * (l.length + 1) - 1, by omega⟩
  cases ps with
  | nil =>
    simp only [wordsM, List.nil_append] at w3 hll
    refine parse_whole (m := 1) hc ?_
    rw [hq, valR, if_neg (by rw [w1, w2]; simp), if_neg (by omega), isS_at h0, if_neg (by decide), isS_at h0, if_pos (by decide), pairsR, isS_at w3, if_pos (by decide)]
    rw [hll]
    rfl
  | cons p ps =>
    obtain ⟨k, x⟩ := p
    rw [wordsM, if_pos rfl, wordsP] at w3 hll
    simp only [List.nil_append, List.cons_append, List.append_assoc] at w3
    simp only [List.nil_append, List.length_cons, List.length_append] at hll
    rw [Tree.nodesM, Tree.nodesP] at hn
    have hr := read_entriesD _ 1 [(0, [])] ps k x [] q (0 + 1) (0 + 1) (fun y hy => ⟨read_tree y.2, (hk y hy).2.1, by have := (hk y hy).2.2; omega⟩) hp w3 (by omega) (by omega) [] rfl
    refine parse_whole (m := 0 + 1 + x.nodes + Tree.nodesM ps) hc ?_
    rw [hq, valR, if_neg (by rw [w1, w2]; simp), if_neg (by omega), isS_at h0, if_neg (by decide), isS_at h0, if_pos (by decide), pairsR, isS_at w3, if_neg (by simp), hr]
    refine congrArg Except.ok (Prod.ext ?_ (Prod.ext ?_ ?_))
    · simp [unstM, unstP]
    · simp only []; omega
    · rfl
end Go.Am
namespace Go.Am
end Go.Am
namespace Go.Am
theorem printM_snoc (d : Int) (p : Str × Tree) : ∀ (l : List (Str × Tree)) (f : Bool), printM f (l ++ [p]) d = printM f l d ++ ((if f = true ∧ l = [] then [] else [44]) ++ (lineL d ++ printP p d))
  | [], f => by
    cases f <;> simp [printM]
  | x :: l, f => by
    rw [List.cons_append, printM, printM_snoc d p l false, printM]
    simp
end Go.Am
end

section
namespace Go.Am
end Go.Am
end

section
namespace Go.Am
open Go
theorem good_mk {k n : Int} {s : Str} {l : List Tree} {m : List (Str × Tree)} (h1 : ¬ ownBad k n s.length l.length m.length) (h2 : nodeOk k n s = true) (h3 : -9223372036854775808 ≤ n ∧ n ≤ 9223372036854775807)
    (h4 : ∀ x ∈ l, goodT x = true) (h5 : ∀ p ∈ m, strOk p.1 = true ∧ goodT p.2 = true) (h6 : Up m) : goodT (.mk k n s l m) = true := by
  have e : ∀ x : Tree, goodT x = true → plainT x = true ∧ okT x = true := fun x hx => by unfold goodT at hx; rwa [Bool.and_eq_true] at hx
  have hl : plainL l = true ∧ okL l = true := by
    clear h1
    induction l with
    | nil => exact ⟨rfl, rfl⟩
    | cons x l ih =>
      obtain ⟨g1, g2⟩ := e x (h4 x (by simp))
      obtain ⟨g3, g4⟩ := ih fun y hy => h4 y (by simp [hy])
      rw [plainL, okL, g1, g2, g3, g4]
      exact ⟨rfl, rfl⟩
  have hm : ∀ (m : List (Str × Tree)) (o : Option Str), (∀ p ∈ m, strOk p.1 = true ∧ goodT p.2 = true) → Up m → (∀ p ∈ m, ∀ j, o = some j → j < p.1) → plainM o m = true ∧ okM m = true := by
    intro m
    induction m with
    | nil => intro o _ _ _; exact ⟨rfl, rfl⟩
    | cons p m ih =>
      intro o h5 h6 h7
      obtain ⟨k, x⟩ := p
      obtain ⟨g0, gx⟩ := h5 (k, x) (by simp)
      obtain ⟨g1, g2⟩ := e x gx
      obtain ⟨u1, u2⟩ := List.pairwise_cons.1 h6
      obtain ⟨g3, g4⟩ := ih (some k) (fun y hy => h5 y (by simp [hy])) u2 (fun p hp j hj => by cases hj; exact u1 p hp)
      cases o with
      | none => simp [plainM, plainP, okM, okQ, g0, g1, g2, g3, g4]
      | some j =>
        have hj : leqS k j = false := by
          have := h7 (k, x) (by simp) j rfl
          cases hl : leqS k j with
          | false => rfl
          | true => exact absurd ((leqS_iff _ _).1 hl) (List.not_le.2 this)
        simp [plainM, plainP, okM, okQ, g0, g1, g2, g3, g4, hj]
  obtain ⟨m1, m2⟩ := hm m none h5 h6 (by simp)
  unfold goodT
  rw [Bool.and_eq_true, plainT_eq, okT_eq]
  refine ⟨?_, ?_⟩
  · show (if ownBad k n s.length l.length m.length then false else nodeOk k n s && (plainL l && plainM none m)) = true
    rw [if_neg h1, h2, hl.1, m1]; rfl
  · show (decide (-9223372036854775808 ≤ n ∧ n ≤ 9223372036854775807) && (okL l && okM m)) = true
    rw [decide_eq_true h3, hl.2, m2]; rfl
def intV (z : Int) : Tree := .mk 2 z [] [] []
def In64 (z : Int) : Prop := -9223372036854775808 ≤ z ∧ z ≤ 9223372036854775807
theorem intV_good {z : Int} (h : In64 z) : goodT (intV z) = true := by
  unfold In64 at h
  unfold intV goodT
  rw [plainT, okT]
  simp [ownBad, nodeOk, plainL, plainM, okL, okM, h.1, h.2]
theorem intV_print (z d : Int) : printT (intV z) d = Lib.itoa z := by unfold intV; rw [printT]; simp
theorem intV_sizes (z : Int) : (intV z).nodes = 1 ∧ (intV z).depth = 1 ∧ (intV z).wt = 1 := by
  refine ⟨?_, ?_, ?_⟩
  · simp [intV, Tree.nodes, Tree.nodesL, Tree.nodesM]
  · simp [intV, Tree.depth, Tree.depthL, Tree.depthM]
  · simp [intV, Tree.wt, Tree.wtL, Tree.wtM]
theorem tail_M2 (d' : Int) {R : Str} (hR : TailR R) : ∀ l : List (Str × Tree), TailR (printM false l d' ++ R)
  | [] => by rw [printM, List.nil_append]; exact hR
  | x :: l => by rw [printM, if_neg (by simp)]; exact .inr ⟨44, _, rfl, by decide⟩
theorem lexMt {W : Str} (d' : Int) {R : Str} {ws : List (Int × Str)} (hR : TailR R) (hws : LexTo W (skipB R) ws) : ∀ (l : List (Str × Tree)) (f : Bool), (∀ x ∈ l, strOk x.1 = true ∧ goodT x.2 = true) →
    LexTo W (skipB (printM f l d' ++ R)) (wordsM f l ++ ws)
  | [], f, _ => hws
  | (k, x) :: l, f, h => by
    obtain ⟨hk, hg⟩ := h (k, x) (by simp)
    have ih := lexMt d' hR hws l false fun y hy => h y (by simp [hy])
    have h1 := lex_tree x W d' (printM false l d' ++ R) _ hg (tail_M2 d' hR l) ih
    have h2 : LexTo W (quoteS k ++ (colonL d' ++ (printT x d' ++ (printM false l d' ++ R)))) ((2, k) :: (1, [58]) :: (wordsT x ++ (wordsM false l ++ ws))) := by
      refine .cons (tok_str k _ hk) (by simp [quoteS]) ?_
      have hc : skipB (colonL d' ++ (printT x d' ++ (printM false l d' ++ R))) = colonL d' ++ (printT x d' ++ (printM false l d' ++ R)) := by
        unfold colonL; split <;> exact skip_sign 58 _ (by decide)
      rw [hc]
      unfold colonL
      split
      · refine .sign 58 (by decide) ?_
        show LexTo W (skipB (32 :: (printT x d' ++ _))) _
        have : ∀ Y, skipB (32 :: Y) = skipB Y := fun Y => by unfold skipB; rw [List.dropWhile_cons, if_pos (by decide)]
        rw [this, print_skip hg]
        exact h1
      · refine .sign 58 (by decide) ?_
        show LexTo W (skipB (printT x d' ++ _)) _
        rw [print_skip hg]
        exact h1
    have hq : ∀ Y, skipB (quoteS k ++ Y) = quoteS k ++ Y := fun Y => by unfold quoteS; exact skip_ne _ (by decide)
    rw [printM, wordsM, printP, wordsP]
    cases f with
    | true =>
      rw [if_pos rfl, if_pos rfl, List.nil_append, List.nil_append, List.append_assoc, skip_line]
      simp only [List.append_assoc, List.cons_append] at h2 ⊢
      rw [hq]
      exact h2
    | false =>
      rw [if_neg (by decide), if_neg (by decide)]
      simp only [List.append_assoc, List.cons_append, List.nil_append] at h2 ⊢
      rw [skip_sign 44 _ (by decide)]
      refine .sign 44 (by decide) ?_
      rw [skip_line, hq]
      exact h2
theorem entries_go (ws : List Wd) (d : Int) (rest : List (Int × Str)) : ∀ (m : List (Str × Tree)) (k : Str) (x : Tree) (acc : List (Str × Tree)) (q i : Nat) (n : Int), (∀ y ∈ (k, x) :: m, goodT y.2 = true ∧ d + 1 + y.2.depth ≤ 33) →
    (acc ++ (k, x) :: m).Pairwise (fun p q => p.1 ≠ q.1) → (ws.drop i).map kp = (2, k) :: (1, [58]) :: (wordsT x ++ (wordsM false m ++ (1, [44]) :: rest)) → 3 * ((wordsT x).length + (wordsM false m).length + 2) + 1 ≤ q → n + x.nodes + Tree.nodesM m ≤ 4096 →
    ∀ acc' : List (Str × Tree), acc'.map (·.1) = acc.map (·.1) →
    ∃ p, entriesR q ws d i n acc' = entriesR (p + 1) ws d (i + 2 + (wordsT x).length + (wordsM false m).length + 1) (n + x.nodes + Tree.nodesM m) (acc' ++ (k, unst x) :: unstM m)
  | [], k, x, acc, q, i, n, hy, hup, h, hq, hn, acc', he => by
    obtain ⟨h2, h3⟩ : goodT x = true ∧ d + 1 + x.depth ≤ 33 := hy (k, x) (by simp)
    obtain ⟨q, rfl⟩ : ∃ p, q = p + 2 := ⟨q - 2, by omega⟩
    simp only [wordsM, List.nil_append, List.length_nil, Tree.nodesM] at h hq hn ⊢
    obtain ⟨w1, w2, w3⟩ := wd_cons h
    have w4 := (wd_cons w3).2.2
    have hno : hasK acc' k = false := hasK_no fun p hp => by
      have : p.1 ∈ acc.map (·.1) := he ▸ List.mem_map_of_mem hp
      obtain ⟨p', hp', e⟩ := List.mem_map.1 this
      rw [← e]
      exact (List.pairwise_append.1 hup).2.2 p' hp' (k, x) (by simp)
    rw [entriesR, w1, if_neg (by decide), w2, hno, if_neg (by decide), isS_at w3, if_neg (by decide), read_tree x (q + 1) ws (d + 1) (i + 2) n _ h2 w4 (by omega) (by omega) h3]
    have hz := wd_app w4
    simp only []
    rw [show i + 2 + (wordsT x).length = i + 1 + 1 + (wordsT x).length by omega, isS_at hz, if_neg (by decide), isS_at hz, if_pos (by decide)]
    exact ⟨q, by simp [unstM]⟩
  | (k', y) :: m, k, x, acc, q, i, n, hy, hup, h, hq, hn, acc', he => by
    obtain ⟨h2, h3⟩ : goodT x = true ∧ d + 1 + x.depth ≤ 33 := hy (k, x) (by simp)
    obtain ⟨q, rfl⟩ : ∃ p, q = p + 1 := ⟨q - 1, by omega⟩
    rw [wordsM, if_neg (by decide), wordsP] at h hq ⊢
    simp only [List.append_assoc, List.cons_append, List.nil_append, List.length_append, List.length_cons, List.length_nil, Tree.nodesM, Tree.nodesP] at h hq hn ⊢
    obtain ⟨w1, w2, w3⟩ := wd_cons h
    have w4 := (wd_cons w3).2.2
    have hno : hasK acc' k = false := hasK_no fun p hp => by
      have : p.1 ∈ acc.map (·.1) := he ▸ List.mem_map_of_mem hp
      obtain ⟨p', hp', e⟩ := List.mem_map.1 this
      rw [← e]
      exact (List.pairwise_append.1 hup).2.2 p' hp' (k, x) (by simp)
    rw [entriesR, w1, if_neg (by decide), w2, hno, if_neg (by decide), isS_at w3, if_neg (by decide), read_tree x q ws (d + 1) (i + 2) n _ h2 w4 (by omega) (by omega) h3]
    have hz := wd_app w4
    have hc := (wd_cons hz).2.2
    simp only []
    rw [show i + 2 + (wordsT x).length = i + 1 + 1 + (wordsT x).length by omega, isS_at hz, if_neg (by decide), isS_at hz, if_pos (by decide)]
    obtain ⟨p, hp⟩ := entries_go ws d rest m k' y (acc ++ [(k, x)]) q (i + 1 + 1 + (wordsT x).length + 1) (n + x.nodes) (fun z hz => hy z (by simp at hz ⊢; exact .inr hz)) (by simpa using hup) hc (by omega) (by omega) (acc' ++ [(k, unst x)]) (by simp [he])
    refine ⟨p, ?_⟩
    rw [hp]
    congr 1
    · omega
    · omega
    · simp [unstM, unstP]
theorem unstM_hasK {m : List (Str × Tree)} {k : Str} (h : k ∈ m.map (·.1)) : hasK (unstM m) k = true := by
  rw [hasK_mem, unstM_keys]; exact h
theorem parse_twice {ps : List (Str × Tree)} (hk : ∀ p ∈ ps, strOk p.1 = true ∧ goodT p.2 = true ∧ p.2.depth ≤ 31) (hp : ps.Pairwise (fun p q => p.1 ≠ q.1)) (hn : Tree.nodesM ps ≤ 4090) {k : Str} (hin : k ∈ ps.map (·.1)) (hks : strOk k = true)
    (hl : (123 :: (printM true ps (-1) ++ (44 :: (quoteS k ++ [58, 50, 125])))).length ≤ 65536) :
    parseS (123 :: (printM true ps (-1) ++ (44 :: (quoteS k ++ [58, 50, 125])))) = (.mk 0 0 [] [] [], 5, (((123 :: printM true ps (-1)).length + 1 : Nat) : Int)) := by
  generalize hT : (123 :: (printM true ps (-1) ++ (44 :: (quoteS k ++ [58, 50, 125]))) : Str) = T at *
  have hq : ∀ Y, skipB (quoteS k ++ Y) = quoteS k ++ Y := fun Y => by unfold quoteS; exact skip_ne _ (by decide)
  have hx : LexTo (quoteS k ++ [58, 50, 125]) T ((1, [123]) :: (wordsM true ps ++ [(1, [44])])) := by
    rw [← hT]
    refine .sign 123 (by decide) ?_
    refine lexMt (-1) (.inr ⟨44, _, rfl, by decide⟩) ?_ ps true fun x hx => ⟨(hk x hx).1, (hk x hx).2.1⟩
    rw [skip_sign 44 _ (by decide)]
    refine .sign 44 (by decide) ?_
    rw [hq]
    exact .nil
  have hx2 : Lexes (skipB [58, 50, 125]) [(1, [58]), (3, [50]), (1, [125])] := by
    rw [skip_sign 58 _ (by decide)]
    refine .sign 58 (by decide) ?_
    rw [skip_ne [125] (by decide)]
    refine .cons (tok_num [50] [125] (by decide +kernel) (.inr ⟨125, [], rfl, by decide⟩)) (by simp) ?_
    rw [skip_sign 125 _ (by decide)]
    exact .sign 125 (by decide) .nil
  have hv : (utfValid T).2 = true := by
    rw [← hT]
    refine valid_vd (vd_low (by decide) (Vd.app (vd_printM _ _ _ fun x hx => ⟨(hk x hx).1, vd_print _ (hk x hx).2.1⟩) (vd_low (by decide) (Vd.app (vd_quote hks) (vd_asc (by decide))))))
  have hj : judgeS T = (0, 0) := by
    unfold judgeS
    rw [if_neg (by omega), if_neg (by rw [hv]; decide)]
  have hsk : whileL T blanksB = 0 := by rw [← hT]; rfl
  obtain ⟨l1, b, p, e1, e2, e3, e4, e5, e6⟩ := cutL_to hx (T.length + 1) T 0 [] rfl (Nat.zero_le _) (by omega)
  have hbl := congrArg List.length e3
  rw [List.length_drop] at hbl
  have hqp : 0 < (quoteS k).length := by simp [quoteS]
  simp only [List.length_append, List.length_cons, List.length_nil] at hbl
  have hbT : b = (123 :: printM true ps (-1)).length + 1 := by
    have := congrArg List.length hT
    simp only [List.length_append, List.length_cons, List.length_nil] at this ⊢
    omega
  obtain ⟨c, f1, f2, f3, f4⟩ := tok_str k [58, 50, 125] hks T b (by omega) e3
  have hw := whileL_le (T.drop c) blanksB
  rw [List.length_drop] at hw
  obtain ⟨p, rfl⟩ : ∃ r, p = r + 1 := ⟨p - 1, by omega⟩
  obtain ⟨l2, g1, g2⟩ := cutL_lexes hx2 p T (c + whileL (T.drop c) blanksB) ([] ++ l1 ++ [⟨2, k, b⟩]) (by rw [← List.drop_drop, skip_drop, f4]) (by omega) (by omega)
  have hc : cutT T = ((l1 ++ ⟨2, k, b⟩ :: l2) ++ [⟨0, [], T.length⟩], 0, 0) := by
    unfold cutT
    have : cutL (T.length + 1) T (whileL T blanksB) [] = (l1 ++ ⟨2, k, b⟩ :: l2, 0, 0) := by
      rw [hsk, e1, cutL, if_neg (by omega), f1]
      simp only [ne_eq, not_true_eq_false, if_false, Int.toNat_natCast]
      rw [g1]
      simp
    rw [hj, if_neg (by decide), this, if_neg (by simp)]
  have hl1 : l1.length = (wordsM true ps).length + 2 := by rw [← List.length_map (f := kp), e2]; simp
  have hl2 : l2.length = 3 := by rw [← List.length_map (f := kp), g2]; rfl
  generalize hws : (l1 ++ ⟨2, k, (b : Int)⟩ :: l2) ++ [(⟨0, [], T.length⟩ : Wd)] = ws at hc
  have h0 : (ws.drop 0).map kp = (1, [123]) :: (wordsM true ps ++ (1, [44]) :: [(2, k), (1, [58]), (3, [50]), (1, [125]), (0, [])]) := by
    rw [← hws, List.drop_zero, List.map_append, List.map_append, List.map_cons, e2, g2]
    simp [kp]
  have hat : wdAt ws l1.length = ⟨2, k, b⟩ := by rw [← hws]; simp [wdAt]
  obtain ⟨w1, w2, w3⟩ := wd_cons h0
  rw [← hws] at hc
  have hr : valR (3 * ((l1 ++ (⟨2, k, (b : Int)⟩ : Wd) :: l2).length + 1) + 1) ws 1 0 0 = .error (5, (b : Int)) := by
    obtain ⟨q, hq, hq2⟩ : ∃ q, 3 * ((l1 ++ (⟨2, k, (b : Int)⟩ : Wd) :: l2).length + 1) + 1 = q + 1 + 1 ∧ 3 * (wordsM true ps).length + 15 ≤ q := ⟨3 * ((l1 ++ (⟨2, k, (b : Int)⟩ : Wd) :: l2).length + 1) + 1 - 2, by simp only [List.length_append, List.length_cons]; omega, by simp only [List.length_append, List.length_cons]; omega⟩
    cases ps with
    | nil => simp at hin
    | cons p0 ps =>
      obtain ⟨k0, x0⟩ := p0
      rw [wordsM, if_pos rfl, wordsP] at w3 hl1 hq2
      simp only [List.nil_append, List.cons_append, List.append_assoc] at w3
      simp only [List.nil_append, List.length_cons, List.length_append] at hl1 hq2
      rw [Tree.nodesM, Tree.nodesP] at hn
      obtain ⟨p', hp'⟩ := entries_go ws 1 _ ps k0 x0 [] q (0 + 1) (0 + 1) (fun y hy => ⟨(hk y hy).2.1, by have := (hk y hy).2.2; omega⟩) hp w3 (by omega) (by omega) [] rfl
      rw [hq, valR, if_neg (by rw [w1, w2]; simp), if_neg (by omega), isS_at h0, if_neg (by decide), isS_at h0, if_pos (by decide), pairsR, isS_at w3, if_neg (by simp), hp', entriesR]
      rw [show 0 + 1 + 2 + (wordsT x0).length + (wordsM false ps).length + 1 = l1.length by omega, hat]
      rw [if_neg (by simp), if_pos]
      have := unstM_hasK hin
      rwa [unstM, unstP] at this
  rw [← hws] at hr
  rw [parse_wrong hc hr, hbT]
def k2S (key : Str) (i : Nat) : Str := if 110 :: Lib.itoa (i : Int) = key then [109] else 110 :: Lib.itoa (i : Int)
def boxT (key : Str) : Tree := .mk 6 0 [] [] [(key, intV 1)]
def twP (key : Str) (i : Nat) : Str × Tree := (k2S key i, boxT key)
def twPs (key : Str) (n : Nat) : List (Str × Tree) := (key, intV 0) :: (List.range n).map (twP key)
theorem twPs_succ (key : Str) (n : Nat) : twPs key (n + 1) = twPs key n ++ [twP key n] := by
  unfold twPs
  rw [List.range_succ, List.map_append]
  rfl
theorem digit_facts : ∀ i : Nat, i ≤ 10 → strOk (110 :: Lib.itoa (i : Int)) = true ∧ quoteS (110 :: Lib.itoa (i : Int)) = 34 :: (110 :: Lib.itoa (i : Int)) ++ [34] ∧ (Lib.itoa (i : Int)).length ≤ 2 := by decide +kernel
theorem digit_inj : ∀ i : Nat, i ≤ 10 → ∀ j : Nat, j ≤ 10 → Lib.itoa (i : Int) = Lib.itoa (j : Int) → i = j := by decide +kernel
theorem k2_ok (key : Str) {i : Nat} (h : i ≤ 10) : strOk (k2S key i) = true ∧ quoteS (k2S key i) = 34 :: (k2S key i ++ [34]) ∧ (k2S key i).length ≤ 3 ∧ k2S key i ≠ key := by
  obtain ⟨h1, h2, h3⟩ := digit_facts i h
  unfold k2S
  split
  · rename_i e
    exact ⟨by decide +kernel, by decide +kernel, by decide, by rw [← e]; intro h; cases h⟩
  · rename_i e
    exact ⟨h1, h2, by simp only [List.length_cons]; omega, e⟩
theorem k2_inj {key : Str} {i j : Nat} (hi : i ≤ 10) (hj : j ≤ 10) (h : k2S key i = k2S key j) : i = j := by
  unfold k2S at h
  split at h
  · rename_i e1
    split at h
    · rename_i e2
      rw [← e2] at e1
      exact digit_inj i hi j hj (by injection e1)
    · cases h
  · split at h
    · cases h
    · exact digit_inj i hi j hj (by injection h)
theorem boxT_good {key : Str} (h : strOk key = true) : goodT (boxT key) = true ∧ (boxT key).nodes = 2 ∧ (boxT key).depth = 2 := by
  refine ⟨good_mk (by simp [ownBad]) (by simp [nodeOk]) (by decide) (by simp) (fun p hp => ?_) (by simp [Up]), ?_, ?_⟩
  · obtain rfl : p = (key, intV 1) := by simpa using hp
    exact ⟨h, intV_good (by unfold In64; omega)⟩
  · simp [boxT, Tree.nodes, Tree.nodesL, Tree.nodesM, Tree.nodesP, (intV_sizes 1).1]
  · simp [boxT, Tree.depth, Tree.depthL, Tree.depthM, Tree.depthP, (intV_sizes 1).2.1]
theorem boxT_print (key : Str) : printT (boxT key) (-1) = 123 :: (quoteS key ++ [58, 49, 125]) := by
  unfold boxT
  rw [printT]
  simp only [show ¬ (6 : Int) = 0 by decide, show ¬ (6 : Int) = 1 by decide, show ¬ (6 : Int) = 2 by decide, show ¬ (6 : Int) = 3 by decide, show ¬ ((6 : Int) = 4 ∨ (6 : Int) = 7) by decide, if_false, if_true]
  rw [if_neg (by simp), printM, printP, printM, intV_print]
  have : Lib.itoa 1 = [49] := by decide +kernel
  rw [this]
  simp [lineL, deeper, colonL]
theorem tw_facts {key : Str} (hk : strOk key = true) {n : Nat} (hn : n ≤ 10) : (∀ p ∈ twPs key n, strOk p.1 = true ∧ goodT p.2 = true ∧ p.2.depth ≤ 31) ∧ (twPs key n).Pairwise (fun p q => p.1 ≠ q.1) ∧ Tree.nodesM (twPs key n) ≤ 4090 := by
  refine ⟨fun p hp => ?_, ?_, ?_⟩
  · rcases List.mem_cons.1 hp with rfl | hp
    · exact ⟨hk, intV_good (by unfold In64; omega), by rw [(intV_sizes 0).2.1]; omega⟩
    · obtain ⟨i, hi, rfl⟩ := List.mem_map.1 hp
      have := List.mem_range.1 hi
      obtain ⟨g1, g2, g3⟩ := boxT_good hk
      exact ⟨(k2_ok key (by omega)).1, g1, by show (boxT key).depth ≤ 31; omega⟩
  · unfold twPs
    rw [List.pairwise_cons]
    refine ⟨fun q hq => ?_, ?_⟩
    · obtain ⟨i, hi, rfl⟩ := List.mem_map.1 hq
      have := List.mem_range.1 hi
      exact fun e => (k2_ok key (by omega : i ≤ 10)).2.2.2 e.symm
    · rw [List.pairwise_map, List.pairwise_iff_getElem]
      intro i j hi hj hij e
      simp only [List.getElem_range, List.length_range] at e hi hj
      have := k2_inj (by omega) (by omega) e
      omega
  · have key2 : ∀ l : List Nat, Tree.nodesM (l.map (twP key)) = 2 * l.length := by
      intro l
      induction l with
      | nil => rfl
      | cons a l ih =>
        rw [List.map_cons]
        show Tree.nodesM ((k2S key a, boxT key) :: _) = _
        rw [Tree.nodesM, Tree.nodesP, ih, (boxT_good hk).2.1, List.length_cons]
        omega
    unfold twPs
    rw [Tree.nodesM, Tree.nodesP, key2, (intV_sizes 0).1, List.length_range]
    omega
def twS (key : Str) (n : Nat) : Str := 123 :: printM true (twPs key n) (-1)
theorem twS_zero (key : Str) : twS key 0 = 123 :: (quoteS key ++ [58, 48]) := by
  unfold twS twPs
  simp only [List.range_zero, List.map_nil]
  rw [printM, printP, printM, intV_print]
  have : Lib.itoa 0 = [48] := by decide +kernel
  rw [this]
  simp [lineL, colonL]
theorem twS_succ (key : Str) {n : Nat} (hn : n ≤ 10) : twS key (n + 1) = ((((twS key n ++ [44, 34]) ++ k2S key n) ++ [34, 58, 123]) ++ quoteS key) ++ [58, 49, 125] := by
  unfold twS
  rw [twPs_succ, printM_snoc]
  unfold twP
  rw [printP, boxT_print, (k2_ok key hn).2.1]
  simp [lineL, colonL, twPs]
theorem twS_len {key : Str} (hk : key.length ≤ 60) : ∀ n : Nat, n ≤ 11 → (twS key n).length ≤ 700 * (n + 1)
  | 0, _ => by
    have := quoteS_len key
    rw [twS_zero]
    simp only [List.length_cons, List.length_append, List.length_nil]
    omega
  | n + 1, h => by
    have := quoteS_len key
    have ih := twS_len hk n (by omega)
    have := (k2_ok key (show n ≤ 10 by omega)).2.2.1
    rw [twS_succ key (by omega)]
    simp only [List.length_cons, List.length_append, List.length_nil]
    omega
theorem tw_parse {key : Str} (hk : strOk key = true) (hl : key.length ≤ 60) {n : Nat} (hn : n ≤ 10) : (∃ x, parseS (twS key n ++ [125]) = (x, 0, 0)) ∧ parseS (((twS key n ++ [44]) ++ quoteS key) ++ [58, 50, 125]) = (.mk 0 0 [] [] [], 5, (((twS key n).length + 1 : Nat) : Int)) := by
  obtain ⟨h1, h2, h3⟩ := tw_facts hk hn
  have hlen := twS_len hl n (by omega)
  have hq := quoteS_len key
  unfold twS at hlen ⊢
  constructor
  · have := parse_pairs h1 h2 (by omega) (valid_vd (vd_low (by decide) (Vd.app (vd_printM _ _ _ fun x hx => ⟨(h1 x hx).1, vd_print _ (h1 x hx).2.1⟩) (vd_asc (by decide))))) (by simp only [List.length_cons, List.length_append, List.length_nil] at hlen ⊢; omega)
    rw [List.cons_append]
    exact ⟨_, this⟩
  · have := parse_twice h1 h2 (by omega) (k := key) (by simp [twPs]) hk (by simp only [List.length_cons, List.length_append, List.length_nil] at hlen ⊢; omega)
    rw [← this]
    simp
end Go.Am
end

section
namespace Go.Proofs.YtoinkmogdfjmmaaGreatDoor
open Go Go.Am Go.RowKit
set_option maxRecDepth 100000
theorem law8_key2 (key : Str) (i : Nat) (hi : i ≤ 10) : AbsCall PP GG F.law8_key2 [.p (.str key), .p (.int .i64 i)] [] ⟨.ret (.p (.str (k2S key i))), [], []⟩ := by
  have hT := ref1_Text (i : Int) (by omega) (by omega)
  have hl := (digit_facts i hi).2.2
  unfold k2S
  by_cases h : 110 :: Lib.itoa (i : Int) = key
  · rw [if_pos h]
    have h' : [110] ++ Lib.itoa (i : Int) = key := h
    refine absCall_of (pol := polG) mixP F.law8_key2_is ?_
    conv => whnf
    repeat' ((first
     | ((with_reducible first | refine Br.dec ?_ ?_ | refine Br.ndec ?_ ?_) <;> intro hb <;> (try simp only [ZZ] at hb) <;> (first | omega | contradiction | skip))
     | (with_reducible first | refine Br.tt rfl ?_ | refine Br.ff rfl ?_ | refine Br.ff (isEmptyCons _ _) ?_)
     | ((with_reducible first | refine Side.mk ?_ ?_ | refine WrapW.mk ?_ ?_); focus (first | omega | (dsimp only [InR, Int.reduceToNat, IntKind.bits, Int.reducePow]; omega) | (show 1 + (Lib.itoa (i : Int)).length ≤ _; omega) | (simp [CC]; done) | (constructor <;> omega)))
     | with_reducible refine Br.not ?_
     | (with_reducible first | refine Br.tt (by assumption) ?_ | refine Br.ff (by assumption) ?_)
     | (refine Br.mk ?_ ?_ <;> intro hb <;> (try simp only [ZZ] at hb) <;> (first | omega | contradiction | skip))
     | refine Src.whole ⟨rfl, rfl⟩ ?_ | refine FrzV.whole ?_
     | refine CallW.use (hT) ?_) <;> conv => whnf)
    all_goals first | exact CLe.retP rfl | exact absurd h' (by assumption)
  · rw [if_neg h]
    have h' : ¬ [110] ++ Lib.itoa (i : Int) = key := h
    refine absCall_of (pol := polG) mixP F.law8_key2_is ?_
    conv => whnf
    repeat' ((first
     | ((with_reducible first | refine Br.dec ?_ ?_ | refine Br.ndec ?_ ?_) <;> intro hb <;> (try simp only [ZZ] at hb) <;> (first | omega | contradiction | skip))
     | (with_reducible first | refine Br.tt rfl ?_ | refine Br.ff rfl ?_ | refine Br.ff (isEmptyCons _ _) ?_)
     | ((with_reducible first | refine Side.mk ?_ ?_ | refine WrapW.mk ?_ ?_); focus (first | omega | (dsimp only [InR, Int.reduceToNat, IntKind.bits, Int.reducePow]; omega) | (show 1 + (Lib.itoa (i : Int)).length ≤ _; omega) | (simp [CC]; done) | (constructor <;> omega)))
     | with_reducible refine Br.not ?_
     | (with_reducible first | refine Br.tt (by assumption) ?_ | refine Br.ff (by assumption) ?_)
     | (refine Br.mk ?_ ?_ <;> intro hb <;> (try simp only [ZZ] at hb) <;> (first | omega | contradiction | skip))
     | refine Src.whole ⟨rfl, rfl⟩ ?_ | refine FrzV.whole ?_
     | refine CallW.use (hT) ?_) <;> conv => whnf)
    all_goals first | exact CLe.retP rfl | exact absurd (by assumption) h'
theorem twice_loop (key : Str) (hk : strOk key = true) (hl : key.length ≤ 60) (N : Nat) (hN : N ≤ 10) (K : Post)
    (h0 : K (.exit 0) [(0, .p (.str key)), (5, .p (.str (quoteS key))), (6, .p (.str (twS key N)))] [] []) :
    ∀ (q i : Nat), i + q = N → LoopW PP GG 82 0 (loopN F.law8_JreadTwice_c 0) [(0, .p (.str key)), (1, .p (.int .i64 N)), (5, .p (.str (quoteS key))), (6, .p (.str (twS key i))), (7, .p (.int .i64 i))] [] [] (PostCl 82 K) := by
  intro q
  induction q with
  | zero =>
    intro i hi
    obtain rfl : i = N := by omega
    refine LoopW.round (pol := polG) mixP ?_
    conv => whnf
    repeat' ((first
     | ((with_reducible first | refine Br.dec ?_ ?_ | refine Br.ndec ?_ ?_) <;> intro hb <;> (try simp only [ZZ] at hb) <;> (first | omega | skip))
     | (with_reducible first | refine Br.tt rfl ?_ | refine Br.ff rfl ?_ | refine Br.ff (isEmptyCons _ _) ?_)
     | ((with_reducible first | refine Side.mk ?_ ?_ | refine WrapW.mk ?_ ?_); focus (first | omega | (dsimp only [InR, Int.reduceToNat, IntKind.bits, Int.reducePow]; omega) | (simp [CC]; done) | (constructor <;> omega)))
     | (refine Br.mk ?_ ?_ <;> intro hb <;> (try simp only [ZZ] at hb) <;> (first | omega | skip))
     | refine Src.whole ⟨rfl, rfl⟩ ?_ | refine FrzV.whole ?_) <;> conv => whnf)
    · refine PostCl.of (h0) ?_ ?_
      · repeat first | exact trivial | refine ⟨VLe.refl _, ?_⟩
      · repeat first | exact trivial | refine ⟨by decide, ?_⟩
  | succ q ih =>
    intro i hi
    have h2 := law8_key2 key i (by omega)
    have hq := quoteS_len key
    have hk2 := (k2_ok key (show i ≤ 10 by omega)).2.2.1
    have hlen := twS_len hl i (by omega)
    have hn := ih (i + 1) (by omega)
    rw [twS_succ key (by omega)] at hn
    refine LoopW.round (pol := polG) mixP ?_
    conv => whnf
    repeat' ((first
     | ((with_reducible first | refine Br.dec ?_ ?_ | refine Br.ndec ?_ ?_) <;> intro hb <;> (try simp only [ZZ] at hb) <;> (first | omega | skip))
     | (with_reducible first | refine Br.tt rfl ?_ | refine Br.ff rfl ?_ | refine Br.ff (isEmptyCons _ _) ?_)
     | ((with_reducible first | refine Side.mk ?_ ?_ | refine WrapW.mk ?_ ?_); focus (first | omega | (dsimp only [InR, Int.reduceToNat, IntKind.bits, Int.reducePow]; omega) | (simp only [List.length_append, List.length_cons, List.length_nil]; omega) | (simp [CC]; done) | (constructor <;> omega)))
     | (refine Br.mk ?_ ?_ <;> intro hb <;> (try simp only [ZZ] at hb) <;> (first | omega | skip))
     | refine Src.whole ⟨rfl, rfl⟩ ?_ | refine FrzV.whole ?_
     | refine CallW.use (h2) ?_) <;> conv => whnf)
    refine LoopW.sub (hn) (by repeat first | exact trivial | refine ⟨VLe.refl _, ?_⟩) (by repeat first | exact trivial | refine ⟨by decide, ?_⟩)
theorem law8_JreadTwice (key : Str) (n : Int) (hkl : key.length ≤ 1073741824) : AbsCall PP GG F.law8_JreadTwice [.p (.str key), .p (.int .i64 n)] [] ⟨.ret (.p (.bool true)), [], []⟩ := by
  have hS := ref1_Str key hkl
  by_cases hg : strOk key = true ∧ key.length ≤ 60 ∧ 0 ≤ n ∧ n ≤ 10
  case neg =>
    refine absCall_of (pol := polG) mixP F.law8_JreadTwice_is ?_
    conv => whnf
    repeat' ((first
     | ((with_reducible first | refine Br.dec ?_ ?_ | refine Br.ndec ?_ ?_) <;> intro hb <;> (try simp only [ZZ] at hb) <;> (first | omega | contradiction | skip))
     | (with_reducible first | refine Br.tt rfl ?_ | refine Br.ff rfl ?_ | refine Br.ff (isEmptyCons _ _) ?_)
     | ((with_reducible first | refine Side.mk ?_ ?_ | refine WrapW.mk ?_ ?_); focus (first | omega | (dsimp only [InR, Int.reduceToNat, IntKind.bits, Int.reducePow]; omega) | (simp [CC]; done) | (constructor <;> omega)))
     | with_reducible refine Br.not ?_
     | (with_reducible first | refine Br.tt (by assumption) ?_ | refine Br.ff (by assumption) ?_)
     | (refine Br.mk ?_ ?_ <;> intro hb <;> (try simp only [ZZ] at hb) <;> (first | omega | contradiction | skip))
     | refine Src.whole ⟨rfl, rfl⟩ ?_ | refine FrzV.whole ?_
     | refine CallW.use (law8_awake) ?_
     | refine CallW.use (hS) ?_) <;> conv => whnf)
    all_goals first | exact CLe.retP rfl | exact absurd ⟨by assumption, by omega, by omega, by omega⟩ hg
  obtain ⟨hk, hl, h1, h2⟩ := hg
  obtain ⟨N, rfl⟩ := Int.eq_ofNat_of_zero_le h1
  rw [hk] at hS
  have hP := ref8_Print (.mk 4 0 key [] []) (by simp only [Tree.wt, Tree.wtL, Tree.wtM]; omega) (-1) (by omega) (by simp only [Tree.wt, Tree.wtL, Tree.wtM]; omega)
    (by unfold goodT; rw [plainT, okT]; simp [ownBad, nodeOk, plainL, plainM, okL, okM, hk]) (by rw [printT]; simp only []; have := quoteS_len key; simp; omega)
  rw [show printT (.mk 4 0 key [] []) (-1) = quoteS key by rw [printT]; simp] at hP
  replace hP := AbsCall.args hP (args := [.p (.agg [.int .i64 4, .int .i64 0, .str key, .nils, .nils]), .p (.int .i64 (-1))]) ⟨tree_nils 4 0 key, VLe.refl _, trivial⟩
  have hq := quoteS_len key
  obtain ⟨⟨x, p1⟩, p2⟩ := tw_parse hk hl (show N ≤ 10 by omega)
  have hlen := twS_len hl N (by omega)
  have hP1 := jread_Parse (twS key N ++ [125]) (by simp only [List.length_append, List.length_cons, List.length_nil]; omega)
  rw [p1, show faultE (twS key N ++ [125]) (0, 0) = noFault from rfl, Tree.enc_eta] at hP1
  have hP2 := jread_Parse (((twS key N ++ [44]) ++ quoteS key) ++ [58, 50, 125]) (by simp only [List.length_append, List.length_cons, List.length_nil]; omega)
  have hc : clampL (((twS key N ++ [44]) ++ quoteS key) ++ [58, 50, 125]) (((twS key N).length + 1 : Nat) : Int) = ((twS key N).length : Int) + 1 := by
    unfold clampL
    simp only [List.length_append, List.length_cons, List.length_nil]
    omega
  rw [p2, faultE, if_neg (show ¬ (5 : Int) = 0 by decide), faultP, hc, Tree.enc_eta] at hP2
  simp only [Tree.kind, Tree.n, Tree.s, Tree.l, Tree.m, Tree.encM, Tree.encL] at hP2
  unfold noFault at hP1
  have hlp := fun K h0 => twice_loop key hk hl N (by omega) K h0 N 0 (by omega)
  simp only [twS_zero] at hlp
  refine absCall_of (pol := polG) mixP F.law8_JreadTwice_is ?_
  conv => whnf
  repeat' ((first
   | ((with_reducible first | refine Br.dec ?_ ?_ | refine Br.ndec ?_ ?_) <;> intro hb <;> (try simp only [ZZ] at hb) <;> (first | omega | contradiction | skip))
   | (with_reducible first | refine Br.tt rfl ?_ | refine Br.ff rfl ?_ | refine Br.ff (isEmptyCons _ _) ?_)
   | ((with_reducible first | refine Side.mk ?_ ?_ | refine WrapW.mk ?_ ?_); focus (first | omega | (dsimp only [InR, Int.reduceToNat, IntKind.bits, Int.reducePow]; omega) | (simp only [List.length_append, List.length_cons, List.length_nil]; omega) | exact ⟨rfl, rfl⟩ | (simp [CC]; done) | (constructor <;> omega)))
   | with_reducible refine Br.not ?_
   | (with_reducible first | refine Br.tt (by assumption) ?_ | refine Br.ff (by assumption) ?_)
   | (refine Br.mk ?_ ?_ <;> intro hb <;> (try simp only [ZZ] at hb) <;> (first | omega | contradiction | skip))
   | refine Src.whole ⟨rfl, rfl⟩ ?_ | refine FrzV.whole ?_
   | refine CallW.use (law8_awake) ?_
   | refine CallW.use (hS) ?_
   | refine CallW.use (hP) ?_) <;> conv => whnf)
  refine LoopW.cl ?_
  refine LoopW.sub (hlp _ ?_) (by repeat first | exact trivial | refine ⟨VLe.refl _, ?_⟩) (by repeat first | exact trivial | refine ⟨by decide, ?_⟩)
  conv => whnf
  repeat' ((first
   | ((with_reducible first | refine Br.dec ?_ ?_ | refine Br.ndec ?_ ?_) <;> intro hb <;> (try simp only [ZZ] at hb) <;> (first | omega | contradiction | skip))
   | (with_reducible first | refine Br.tt rfl ?_ | refine Br.ff rfl ?_ | refine Br.ff (isEmptyCons _ _) ?_)
   | ((with_reducible first | refine Side.mk ?_ ?_ | refine WrapW.mk ?_ ?_); focus (first | omega | (dsimp only [InR, Int.reduceToNat, IntKind.bits, Int.reducePow]; omega) | (simp only [List.length_append, List.length_cons, List.length_nil]; omega) | exact ⟨rfl, rfl⟩ | (simp [CC]; done) | (constructor <;> omega)))
   | with_reducible refine Br.not ?_
   | (with_reducible first | refine Br.tt (by assumption) ?_ | refine Br.ff (by assumption) ?_)
   | (refine Br.mk ?_ ?_ <;> intro hb <;> (try simp only [ZZ] at hb) <;> (first | omega | contradiction | skip))
   | refine Src.whole ⟨rfl, rfl⟩ ?_ | refine FrzV.whole ?_
   | refine CallW.use (hP1) ?_
   | refine CallW.use (hP2) ?_
   | (refine StructE.same ?_)) <;> conv => whnf)
  all_goals exact CLe.retP (by simp)
end Go.Proofs.YtoinkmogdfjmmaaGreatDoor
end

section
namespace Go.Am
open Go Go.RowKit
section
variable {H : Type} {enc : TypeId × Value → H} {P : Program} {W : World} {sp : Nat → Bool} {held : Bool}
structure RdE (W : World) (cs : List Value) (x : PV) : Prop where
  len : x.cells.length = cs.length
  leaf : ∀ c ∈ x.cells, c.leaf = true
  rel : ∀ (i : Nat) a b, x.cells[i]? = some a → cs[i]? = some b → PRel (fun _ => False) W a b
theorem RdE.one {x : PV} {v : Value} (hx : x.cells = [x]) (hl : x.leaf = true) (h : PRel (fun _ => False) W x v) : RdE W [v] x := by
  refine ⟨by rw [hx]; rfl, fun c hc => ?_, fun i a b ha hb => ?_⟩
  · rw [hx, List.mem_singleton] at hc; subst hc; exact hl
  · rw [hx] at ha
    cases i with
    | zero => simp at ha hb; subst ha; subst hb; exact h
    | succ i => simp at ha
theorem add_zero (a : Addr) : a.add 0 = a := by unfold Addr.add; rw [if_pos rfl]
theorem RdE.append {c1 c2 : List Value} {l1 l2 : List PV} (h1 : RdE W c1 (.agg l1)) (h2 : RdE W c2 (.agg l2)) : RdE W (c1 ++ c2) (.agg (l1 ++ l2)) := by
  have e1 : l1.length = c1.length := h1.len
  have e2 : l2.length = c2.length := h2.len
  refine ⟨by show (l1 ++ l2).length = _; simp [e1, e2], fun c hc => ?_, fun i a b ha hb => ?_⟩
  · rcases List.mem_append.1 hc with h | h
    · exact h1.leaf c h
    · exact h2.leaf c h
  · change (l1 ++ l2)[i]? = some a at ha
    by_cases hi : i < l1.length
    · rw [List.getElem?_append_left hi] at ha
      rw [List.getElem?_append_left (by omega)] at hb
      exact h1.rel i a b ha hb
    · rw [List.getElem?_append_right (by omega)] at ha
      rw [List.getElem?_append_right (by omega)] at hb
      exact h2.rel (i - l1.length) a b ha (by rw [e1]; exact hb)
theorem RdE.cells {c : List Value} {x : PV} (h : RdE W c x) : RdE W c (.agg x.cells) := ⟨h.len, h.leaf, h.rel⟩
theorem RdE.value {cs : List Value} {l : List PV} (h : RdE W cs (.agg l)) {v : Value} (hv : v = .agg cs.toArray) : PRel (fun _ => False) W (.agg l) v := by
  subst hv
  exact .agg l cs h.len h.rel
end
end Go.Am
end

section
namespace Go.Proofs.YtoinkmogdfjmmaaGreatDoor
open Go Go.Am Go.RowKit
set_option maxRecDepth 100000
section
variable {H : Type} {enc : TypeId × Value → H} {W : World} {sp : Nat → Bool} {held : Bool}
theorem c_int : PP.underlying T.int = some (.int .i64) := by kernel_rfl
theorem c_str : PP.underlying T.string = some .string := by kernel_rfl
end
end Go.Proofs.YtoinkmogdfjmmaaGreatDoor
end

section
namespace Go.Proofs.YtoinkmogdfjmmaaGreatDoor
open Go Go.Am Go.RowKit
set_option maxRecDepth 100000
theorem sentinel {W : World} {name : String} {g : Nat} {text : List UInt8} (hg : PP.globalNamed name = some g) (ht : (PP.globals[g]?).map (·.type) = some T.error)
    (h : laidMet PP [(name, .iface "*errors.errorString" (.ptr (.agg [.lit (.string text)])))] W) :
    PRel (fun _ => False) W (.cptr (.iface T.ptr_errors_errorString .anyp)) (.pointer (some ⟨g, 0, none⟩)) ∧ ∃ c t fr, W.heap[g]? = some (.cells c t fr) ∧ c.size = 1 := by
  obtain ⟨ps, hv, _, hok⟩ := h
  obtain ⟨g', t, cs, fuel, p, q, h1, h2, h3, h4, _, rfl⟩ := hv
  rw [hg] at h1
  cases h1
  rw [ht] at h2
  cases h2
  unfold World.var? at h3
  rw [hg] at h3
  simp only [Option.bind_some] at h3
  split at h3
  case h_2 => cases h3
  rename_i cs' t' fr hw
  cases h3
  have hcell : ∀ u v, cs.toList = [.iface u v] → Value.okWide PP W .any 0 u v := by
    intro u v he
    have hcs : cs = #[.iface u v] := by apply Array.ext'; simpa using he
    subst hcs
    refine (hok g 0 ?_).2 u v ?_
    · simp [MemPlace.row]
    · unfold World.cell?
      rw [hw]
      simp
  obtain ⟨a, s, he, _⟩ := errorString_of_trod (ti := T.error) (tp := T.ptr_errors_errorString) (te := T.errors_errorString) (ts := T.string) Tryz.underlying127
    (typeName_ptr_named (nm := "errors.errorString") (by kernel_rfl) (by kernel_rfl) (by decide)) Tryz.underlying187 Tryz.underlying189 rfl rfl Tryz.underlying9 (by kernel_rfl) (by kernel_rfl) h4 hcell
  have hcs : cs = #[.iface T.ptr_errors_errorString (.pointer (some a))] := by apply Array.ext'; simpa using he
  subst hcs
  refine ⟨.cptr _ g 0 (fun _ => .iface T.ptr_errors_errorString (.pointer (some a))) (fun h => h) (Array.getElem?_eq_some_iff.1 hw).1 (fun x hx => ?_) (fun k hk => ?_) (fun k x hx => ?_), _, _, _, hw, rfl⟩
  · simp only [PV.cells, List.mem_singleton] at hx; subst hx; rfl
  · simp only [PV.cells, List.length_singleton] at hk
    have : k = 0 := by omega
    subst this
    unfold World.cell?
    rw [hw]
    simp
  · cases k with
    | zero => simp only [PV.cells, List.getElem?_cons_zero, Option.some.injEq] at hx; subst hx; exact .iface _ _ _ (.anyp _)
    | succ k => simp [PV.cells] at hx
theorem gPowType : (PP.globals[Gl.internal_strconv_uint64pow10]?).map (·.type) = some T.arr20_uint64 := by kernel_rfl
theorem gok_of {W : World} {l : List (String × DataW Unit)} (h : laidMetH PP l W)
    (h1 : l.filter (fun x => x.1 == "internal/strconv.uint64pow10") = [("internal/strconv.uint64pow10", Lib.tabData .u64 Lib.pow10Tab)])
    (h2 : l.filter (fun x => x.1 == "strconv.ErrSyntax") = [("strconv.ErrSyntax", Rows.laid_strconv_ErrSyntax)])
    (h3 : l.filter (fun x => x.1 == "strconv.ErrRange") = [("strconv.ErrRange", Rows.laid_strconv_ErrRange)]) : GOk GG (fun _ => False) W := by
  intro g d hd
  unfold GG at hd
  split at hd
  · rename_i hg
    have hg := Nat.eq_of_beq_eq_true hg
    subst hg
    cases hd
    have q := laidMetH.filter (fun x => x.1 == "internal/strconv.uint64pow10") h
    rw [h1] at q
    have q : laidMet PP [("internal/strconv.uint64pow10", Lib.tabData .u64 Lib.pow10Tab)] W := q
    have := tab_gok (Lib.tabIs_of_head (n := 20) (e := T.uint64) (rest := []) gPow gPowType (by kernel_rfl) (by kernel_rfl) (by kernel_rfl) (by kernel_rfl) q) gPow
    rw [pow10_lit] at this
    exact this
  · split at hd
    · rename_i hg
      have hg := Nat.eq_of_beq_eq_true hg
      subst hg
      cases hd
      have q := laidMetH.filter (fun x => x.1 == "strconv.ErrSyntax") h
      rw [h2] at q
      exact sentinel (name := "strconv.ErrSyntax") (by kernel_rfl) (by kernel_rfl) q
    · split at hd
      · rename_i hg
        have hg := Nat.eq_of_beq_eq_true hg
        subst hg
        cases hd
        have q := laidMetH.filter (fun x => x.1 == "strconv.ErrRange") h
        rw [h3] at q
        exact sentinel (name := "strconv.ErrRange") (by kernel_rfl) (by kernel_rfl) q
      · cases hd
theorem stNil (W : World) : St (fun _ => False) ⟨fun _ => 0, fun _ => 0, fun _ => 0⟩ W [] :=
  ⟨fun n => by simp [Heap.at]; exact .dead, fun n h => by simp [Heap.at, HO.live] at h, fun n m h => by simp [Heap.at, HO.live] at h, fun b h => h.elim⟩
theorem law_call {f : FuncId} {fn : Func} (hf : PP.funcs[f]? = some fn) (hb : fn.body.isSome = true) {ds : List PV} {vs : List Value} {W : World} (hlen : ds.length = vs.length) (hr : ∀ (i : Nat) x y, ds[i]? = some x → vs[i]? = some y → PRel (fun _ => False) W x y)
    (hG : GOk GG (fun _ => False) W) (h : AbsCall PP GG f (ds.map V.p) [] ⟨.ret (.p (.bool true)), [], []⟩) :
    Calls PP f vs.toArray W fun e w' => e = .returned (.bool true) ∧ Below W.heap.size W w' := by
  have := h (fun _ => False) ⟨fun _ => 0, fun _ => 0, fun _ => 0⟩ W vs (stNil W) ⟨by simpa using hlen, fun i x y hx hy => by
    rw [List.getElem?_map, Option.map_eq_some_iff] at hx
    obtain ⟨d, hd, rfl⟩ := hx
    exact .p _ _ (hr i d y hd hy)⟩ hG
  obtain ⟨c, hb⟩ := Option.isSome_iff_exists.1 hb
  refine (CallTo.calls hf (ngP f fn hf) hb this).mono ?_
  rintro e w' ⟨B', L', hfs, _, ho⟩
  refine ⟨?_, below_of_FS hfs⟩
  unfold OutRel at ho
  split at ho
  · rename_i r v h1; cases h1; cases ho.of_p; rfl
  · rename_i h1; cases h1
  · exact ho.elim
end Go.Proofs.YtoinkmogdfjmmaaGreatDoor
end

section
namespace Go.Proofs.YtoinkmogdfjmmaaGreatDoor
open Go.ChangeShapes Go.WideShapes Go.ChangeAt Go.RowKit Go.Am
set_option maxRecDepth 100000
theorem own : ownKnob PP.godebug = none := by kernel_rfl
theorem laidOutP : laidOutB PP = true := by kernel_rfl
theorem bulk_append {H : Type} (l r : List (DataW H)) : Rows.uptoBulkAll (l ++ r) = Rows.uptoBulkAll l + Rows.uptoBulkAll r := by
  induction l with
  | nil => simp [Rows.uptoBulkAll]
  | cons x l ih => simp only [List.cons_append, Rows.uptoBulkAll, ih]; omega
theorem str_arg {H : Type} {enc : TypeId × Value → H} {W : World} {base : Nat} {sp : Nat → Bool} {held : Bool} {v : Value} {d : DataW H} {ps : List MemPlace} (hval : Value.okWide PP W .any base T.string v) (h : DataW.Trod enc PP W 0 sp held T.string v d ps) :
    ∃ s : Str, v = .string ⟨s.toArray⟩ ∧ d = .lit (.string s) ∧ ps = [] := by
  obtain ⟨s, rfl, rfl, rfl, _⟩ := ChangeMaps.open_string c_str hval h
  exact ⟨s.data.toList, by simp, rfl, rfl⟩
theorem int_arg {H : Type} {enc : TypeId × Value → H} {W : World} {base : Nat} {sp : Nat → Bool} {held : Bool} {t : TypeId} (ht : PP.underlying t = some (.int .i64)) {v : Value} {d : DataW H} {ps : List MemPlace} (hval : Value.okWide PP W .any base t v) (h : DataW.Trod enc PP W 0 sp held t v d ps) :
    ∃ n : Int, v = .int .i64 n ∧ d = .lit (.int .i64 n) ∧ ps = [] ∧ -9223372036854775808 ≤ n ∧ n ≤ 9223372036854775807 := by
  obtain ⟨n, rfl, rfl, rfl, hw⟩ := open_int ht hval h
  refine ⟨n, rfl, rfl, rfl, ?_⟩
  simp [Lit.wf, IntKind.min, IntKind.max, IntKind.signed, IntKind.bits] at hw
  omega
theorem readS : PP.readableRec T.string = true := by kernel_rfl
theorem rowS : T.string < PP.types.size := of_decide_eq_true (by kernel_rfl)
theorem readI : PP.readableRec T.int = true := by kernel_rfl
theorem rowI : T.int < PP.types.size := of_decide_eq_true (by kernel_rfl)
theorem arg_stays {t : TypeId} (hr : PP.readableRec t = true) (ht : t < PP.types.size) {H : Type} {enc : TypeId × Value → H} {W W' : World} {v : Value} {d : DataW H} {ps : List MemPlace} (h : DataW.Trod enc PP W 0 (fun _ => true) true t v d ps) (hb : Below W.heap.size W W') (hlt : ∀ x ∈ ps, x.block < W.heap.size)
    {sp : Nat → Bool} (hs : ∀ x ∈ ps, sp x.block = true) : DataW.Trod enc PP W' 0 sp true t v d ps :=
  WideElems.Trod_stays laidOutP hr ht h (fun x hx => hb.same (hlt x hx)) hs
theorem jreadTwice_contract (H : Type) (enc : TypeId × Value → H) (W : World) (base : Nat) (args : Array Value) (ds gs : List (DataW H)) (before : List MemPlace)
    (hval : ∀ (j : Nat) t v, Tryz.f8.params[j]? = some t → args[j]? = some v → Value.okWide PP W .any base t v)
    (hW : DataW.Whole enc PP Tryz.f8.params.toList Rows.jreadTwiceSpec.vars false W args.toList ds gs before) (hL : laidMetH PP Rows.jreadTwiceRow.laid W) (hk : Rows.uptoBulkAll ds ≤ 1048576) :
    Calls PP F.law8_JreadTwice args W fun e W' => ∃ v, e = .returned v ∧ Rows.jreadTwiceSpec.post enc PP Tryz.f8 false true false false W args v W' := by
  have hW' := hW
  have hlt := hW.lt
  obtain ⟨p, q, hA0, hV, rfl, hfz, hnd⟩ := hW
  have hA : DataW.TrodAll enc PP W 0 (fun _ => true) true Tryz.f8.params.toList args.toList ds p := hA0
  rw [Tryz.params8] at hA
  obtain ⟨v0, vs0, d0, ds0, p0, q0, hargs, rfl, rfl, h0, r0⟩ := trodAll_cons hA
  obtain ⟨v1, vs1, d1, ds1, p1, q1, rfl, rfl, rfl, h1, r1⟩ := trodAll_cons r0
  obtain ⟨rfl, rfl, rfl⟩ := trodAll_nil r1
  obtain rfl : args = #[v0, v1] := by cases args; simp_all
  obtain ⟨rfl, rfl⟩ := trodVars_none hV
  clear hA0
  obtain ⟨t0, rfl, rfl, rfl⟩ := str_arg (hval 0 T.string v0 (by kernel_rfl) rfl) h0
  obtain ⟨t1, rfl, rfl, rfl, ha1, hb1⟩ := int_arg (t := T.int) c_int (hval 1 T.int v1 (by kernel_rfl) rfl) h1
  simp only [List.append_nil] at hW' hlt
  simp only [Rows.uptoBulkAll, Rows.uptoBulk] at hk
  refine (law_call (f := F.law8_JreadTwice) (ds := [.str t0, .int .i64 t1]) (vs := [.string ⟨t0.toArray⟩, .int .i64 t1]) Tryz.func8 (by kernel_rfl) rfl (fun i x y hx hy => ?_) (gok_of hL (by rw [pow10_lit]; rfl) rfl rfl) (law8_JreadTwice t0 t1 (by omega))).mono fun e W1 ⟨he, hb⟩ => ?_
  · rcases i with _ | _ | i
    · cases hx; cases hy; exact .str t0
    · cases hx; cases hy; exact .int .i64 t1
    · simp at hx
  · subst he
    have b := Tryz.underlying4
    exact ⟨_, rfl, post_of_below (pa := []) (pv := []) hW' (fun _ _ _ => trodAll_cons_mk (shut_bool b _) trodAll_mk0)
      (fun sp hs => trodAll_mk2 (arg_stays readS rowS h0 hb (by simp) (by simp)) (arg_stays readI rowI h1 hb (by simp) (by simp)))
      (fun _ _ => rfl) (by simp) hb (ok_one (by kernel_rfl) rfl (okWide_bool_mk b _))⟩
theorem jreadTwice_reads (os : Os) {H : Type} (enc : TypeId × Value → H) : ∃ places, DataW.whole enc PP ((World.laidAll PP os Rows.jreadTwiceUptoRow.laid).forCall (fun _ _ => 0) ⟨#[], #[.string ⟨#[]⟩, .int .i64 0], []⟩).memory Tryz.f8.params.toList Rows.jreadTwiceSpec.vars false (#[.string ⟨#[]⟩, .int .i64 0] : Array Value).toList 8 = some ([.lit (.string []), .lit (.int .i64 0)], [], places) :=
  ⟨[], by kernel_rfl⟩
theorem jreadTwice_lifted (os : Os) (started : os.Started) (H : Type) (enc : TypeId × Value → H) (Fi : Stop.Interp) :
    ReturnsInHanded {} Tryz.checked os F.law8_JreadTwice .any ((Rows.OpenSpec.upto Rows.jreadTwiceSpec).preRow enc PP Tryz.f8 Rows.jreadTwiceUptoRow.domain false Rows.jreadTwiceUptoRow.laid) (((Rows.OpenSpec.upto Rows.jreadTwiceSpec).at Fi).post enc PP Tryz.f8 false true false false) := by
  obtain ⟨places, hx⟩ := jreadTwice_reads os enc
  refine returnsInHanded_of_row (C := Tryz.checked) (s := Rows.OpenSpec.upto Rows.jreadTwiceSpec) own started (by kernel_rfl) Tryz.func8
    (witness_row_atRef (enc := enc) (C := Tryz.checked) false (World.laidAll PP os Rows.jreadTwiceUptoRow.laid) #[.string ⟨#[]⟩, .int .i64 0] (World.laidAll_os _ _ _) (by kernel_rfl) (by kernel_rfl) (by kernel_rfl)
      (OpenSpec.preRow_of_cond 8 hx (by kernel_rfl) (fun k hk => by cases hk; kernel_rfl) (by kernel_rfl) (laidMet_laidAll _ (by kernel_rfl) (by kernel_rfl)))) ?_
  intro W base args ds gs before hval hW _ hcond _ hL _ _
  have hk := of_decide_eq_true (hcond _ rfl)
  refine jreadTwice_contract H enc W base args ds gs before hval hW hL (Nat.le_trans ?_ hk)
  rw [bulk_append]
  exact Nat.le_add_right _ _
theorem jreadTwice_said : Rows.JreadTwiceUptoSaid :=
  OpenClaim.holds_of_cond F.law8_JreadTwice Tryz.f8 rfl rfl rfl rfl rfl rfl rfl ⟨rfl, rfl, rfl, rfl, rfl⟩ rfl rfl rfl rfl rfl (by kernel_rfl) Tryz.func8 (by kernel_rfl)
    (of_decide_eq_true (by kernel_rfl)) (by unfold Func.isWrapper; first | (rw [if_pos (by decide +kernel)]; kernel_rfl) | (rw [if_neg (by decide +kernel)]; exact ⟨rfl, rfl⟩))
    (fun os started H enc _ Fi => by rw [OpenClaim.pre_eq_preRow]; exact jreadTwice_lifted os started H enc Fi)
theorem jreadTwice_plain (f : FuncId) (fn : Func) (hf : Tryz.pinned.checked.prog.funcNamed "dragoman/dragomanlaw8.JreadTwice" = some f) (hfn : Tryz.pinned.checked.prog.funcs[f]? = some fn) :
    true = Tryz.pinned.checked.prog.looks [] ∧ ∀ (j : Nat) t, fn.params[j]? = some t → Tryz.pinned.checked.prog.wantsStandIn t = false := by
  obtain rfl : f = F.law8_JreadTwice := Option.some.inj ((show PP.funcNamed "dragoman/dragomanlaw8.JreadTwice" = some F.law8_JreadTwice by kernel_rfl).symm.trans hf) |>.symm
  obtain rfl : fn = Tryz.f8 := (Option.some.inj (Tryz.func8.symm.trans hfn)).symm
  refine ⟨by kernel_rfl, fun j t ht => ?_⟩
  rw [Tryz.params8] at ht
  rcases (show t = T.string ∨ t = T.int by simpa using Array.mem_of_getElem? ht) with rfl | rfl
  · exact (show PP.wantsStandIn T.string = false by kernel_rfl)
  · exact (show PP.wantsStandIn T.int = false by kernel_rfl)
theorem jreadTwice_card : Rows.JreadTwiceUptoCardSaid :=
  Claim7.holds_tied_plain_at .later [] _ _ _ _ jreadTwice_said (fun _ h => by cases h) (by kernel_rfl) (fun _ h => by cases h) jreadTwiceUpto_row_tie rfl ⟨rfl, rfl⟩ (by kernel_rfl) rfl jreadTwice_plain (by kernel_rfl)
end Go.Proofs.YtoinkmogdfjmmaaGreatDoor
end
