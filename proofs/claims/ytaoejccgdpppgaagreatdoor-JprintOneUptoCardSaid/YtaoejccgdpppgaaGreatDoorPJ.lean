/-
The walk through the reader of JSON: lists.
-/
import Derived.Test.YtaoejccgdpppgaaGreatDoorPI
import Derived.Test.YtaoejccgdpppgaaGreatDoorPG
import Derived.Test.YtaoejccgdpppgaaGreatDoorPE
import Derived.Sort.KeysCollected
import Derived.Shelf.SlIter.Nil
import Derived.Shelf.SortM.Plain
import Derived.Shelf.SortM.SortNone
import Derived.Test.YtaoejccgdpppgaaGreatDoorProg
import Derived.Recover

section
namespace Go.Proofs.YtaoejccgdpppgaaGreatDoor
open Go Go.Am Go.RowKit
set_option maxRecDepth 100000
theorem take_yes {ws : List Wd} {j : Nat} {n : Int} {s : Str} (hat : ws[j]? = some (wdAt ws j)) (hl : ws.length ≤ 1073741824) (h : isS (wdAt ws j) s = true) :
    AbsCall PP GG F.jread_reader_take [.ptr 0 0, .p (.str s)] [jrO ws j n] ⟨.ret (.p (.bool true)), [jrO ws (j + 1 : Nat) n], []⟩ := by
  have := reader_take ws j n (wdAt ws j) hat hl s
  rw [if_pos (isS_k h), decide_eq_true (isS_k h)] at this
  exact this
theorem take_no {ws : List Wd} {j : Nat} {n : Int} {s : Str} (hat : ws[j]? = some (wdAt ws j)) (hl : ws.length ≤ 1073741824) (h : isS (wdAt ws j) s = false) :
    AbsCall PP GG F.jread_reader_take [.ptr 0 0, .p (.str s)] [jrO ws j n] ⟨.ret (.p (.bool false)), [jrO ws j n], []⟩ := by
  have := reader_take ws j n (wdAt ws j) hat hl s
  have hn := of_decide_eq_false h
  rw [if_neg hn, decide_eq_false hn] at this
  exact this
theorem want_yes {ws : List Wd} {j : Nat} {n : Int} {s : Str} (hat : ws[j]? = some (wdAt ws j)) (hl : ws.length ≤ 1073741824) (h : isS (wdAt ws j) s = true) :
    AbsCall PP GG F.jread_reader_want [.ptr 0 0, .p (.str s)] [jrO ws j n] ⟨.ret (.tup []), [jrO ws (j + 1 : Nat) n], []⟩ := reader_want_ok ws j n (wdAt ws j) hat hl s (isS_k h)
theorem want_no {ws : List Wd} {j : Nat} {n : Int} {s : Str} (hat : ws[j]? = some (wdAt ws j)) (hl : ws.length ≤ 1073741824) (h : isS (wdAt ws j) s = false) :
    AbsCall PP GG F.jread_reader_want [.ptr 0 0, .p (.str s)] [jrO ws j n] ⟨.pan (wrongP 4 (wdAt ws j).a), [.dead], []⟩ := reader_wantD ws j n (wdAt ws j) hat hl s (of_decide_eq_false h)
theorem tree_side (x : Tree) : ∀ y : PV, y ∈ [x.enc] → y.cells.length = 5 ∧ ∀ c : PV, c ∈ y.cells → c.leaf = true := by
  intro y hy
  rw [List.mem_singleton.1 hy]
  exact ⟨Tree.enc_cells x, Tree.enc_leaf x⟩
theorem tree_side1 (x : Tree) : ∀ y : PV, y ∈ [x.enc] → y.cells.length = 5 := fun y hy => (tree_side x y hy).1
def zO : HO := .var T.api_Value (.p (.agg [.int .i64 0, .int .i64 0, .str [], .nils, .nils]))
def lsV (m : Nat) : V := .agg [.p (.int .i64 5), .p (.int .i64 0), .p (.str []), .sl 3 0 m, .p .nils]
theorem lsV_frz (l : List Tree) : V.frz 3 (Tree.encL l) (lsV (Tree.encL l).length) = .p (.agg [.int .i64 5, .int .i64 0, .str [], .lst false (Tree.encL l), .nils]) := by
  simp [lsV, V.frz, V.frzL, V.mk, allP, PV.leaf]
def lsV1 : V := .agg [.p (.int .i64 5), .p (.int .i64 0), .p (.str []), .sl 4 0 1, .p .nils]
theorem lsV1_frz (x : Tree) : V.frz 4 [x.enc] lsV1 = .p (.agg [.int .i64 5, .int .i64 0, .str [], .lst false [x.enc], .nils]) := by
  simp [lsV1, V.frz, V.frzL, V.mk, allP, PV.leaf]
theorem tree_ls (l : List Tree) : VLe (.p (.agg [.int .i64 5, .int .i64 0, .str [], .lst false (Tree.encL l), .nils])) (.p (Tree.mk 5 0 [] l []).enc) :=
  (PLe.agg (show LeL [.int .i64 5, .int .i64 0, .str [], .lst false (Tree.encL l), .nils] [.int .i64 5, .int .i64 0, .str [], .lst false (Tree.encL l), .lst false []] from ⟨PLe.refl _, PLe.refl _, PLe.refl _, PLe.refl _, PLe.nils false, trivial⟩)).p
theorem items_loop (ws : List Wd) (hw : WsOk ws) (Q : Nat) (hv : ∀ q, q < Q → ValAt ws q) (d : Int) (hd0 : 0 ≤ d) (hd : d ≤ 32) (R : RR) (K : Post)
    (h0 : ∀ (l : List Tree) (j : Nat) (m : Int), R = .ok (.mk 5 0 [] l [], j, m) → ∀ es : List PV, K .ret [(4, .ptr 1 0)] [jrO ws j m, .var T.api_Value (lsV (Tree.encL l).length), .var T.api_Value (lsV (Tree.encL l).length), .arr T.api_Value 5 (Tree.encL l), .arr T.api_Value 5 es] [])
    (hp : ∀ e a : Int, R = .error (e, a) → ∀ H : Heap, K (.pan (wrongP e a)) [] (.dead :: H) []) :
    ∀ (q : Nat) (i : Nat) (n : Int) (acc : List Tree), q ≤ Q → i < ws.length → 3 * (ws.length - i) + 2 ≤ q → 0 ≤ n → n ≤ 4096 → acc ≠ [] → acc.length ≤ n → itemsR q ws d i n acc = R →
      LoopW PP GG 24 1 (loopN F.jread_reader_list_c 0) [(0, .ptr 0 0), (1, .p (.int .i64 d)), (4, .ptr 1 0), (5, .ptr 2 0)] [jrO ws i n, zO, .var T.api_Value (lsV (Tree.encL acc).length), .arr T.api_Value 5 (Tree.encL acc)] [] (PostCl 24 K) := by
  intro q
  induction q with
  | zero => intro i n acc hq hi hf; omega
  | succ q ih =>
    intro i n acc hq hi hf hn0 hn1 hne hacc hR
    have hml : (Tree.encL acc).length = acc.length := Tree.encL_length acc
    have hV := hv q (by omega) (d + 1) i n hi (by omega) (by omega) (by omega) hn0 hn1
    have hok := (okR_all hw q).1 (d + 1) i n hi
    have hws := hw.len
    have hl : ws.length ≤ 1073741824 := by omega
    rw [itemsR] at hR
    cases hr : valR q ws (d + 1) i n with
    | error e =>
      rw [hr] at hV hR
      obtain ⟨e, a⟩ := e
      refine LoopW.round (pol := polG) mixP ?_
      conv => whnf
      repeat' ((first
       | ((with_reducible first | refine Br.dec ?_ ?_ | refine Br.ndec ?_ ?_) <;> intro hb <;> (try simp only [ZZ] at hb) <;> (first | omega | contradiction | skip))
       | (with_reducible first | refine Br.tt rfl ?_ | refine Br.ff rfl ?_ | refine Br.ff (isEmptyCons _ _) ?_)
       | (refine Side.mk ?_ ?_; focus (first | omega | (dsimp only [InR, Int.reduceToNat, IntKind.bits, Int.reducePow]; omega) | (simp [CC]; done) | (constructor <;> omega)))
       | with_reducible refine Br.not ?_
       | (with_reducible first | refine Br.tt (by assumption) ?_ | refine Br.ff (by assumption) ?_)
       | (refine Br.mk ?_ ?_ <;> intro hb <;> (try simp only [ZZ] at hb) <;> (first | omega | contradiction | skip))
       | refine Src.whole ⟨rfl, rfl⟩ ?_ | refine FrzV.whole ?_
       | refine CallW.use (hV) ?_) <;> conv => whnf)
      · refine PostCl.of (hp e a hR.symm _) ?_ ?_
        · repeat first | exact trivial | refine ⟨VLe.refl _, ?_⟩
        · repeat first | exact trivial | refine ⟨by decide, ?_⟩
    | ok x =>
      obtain ⟨x, j, m⟩ := x
      rw [hr] at hV hR hok
      obtain ⟨g1, g2, g3, g4⟩ := hok
      have hat := (hw.at g2).1
      have hend := hw.end_ j g2
      dsimp only [] at hR
      cases h93 : isS (wdAt ws j) [93] with
      | true =>
        rw [if_pos h93] at hR
        have hT := take_yes (n := m) hat hl h93
        refine LoopW.round (pol := polG) mixP ?_
        conv => whnf
        repeat' ((first
         | ((with_reducible first | refine Br.dec ?_ ?_ | refine Br.ndec ?_ ?_) <;> intro hb <;> (try simp only [And.intro @hml (ZZ)] at hb) <;> (first | omega | contradiction | skip))
         | (with_reducible first | refine Br.tt rfl ?_ | refine Br.ff rfl ?_ | refine Br.ff (isEmptyCons _ _) ?_)
         | (refine Side.mk ?_ ?_; focus (first | omega | (dsimp only [InR, Int.reduceToNat, IntKind.bits, Int.reducePow]; omega) | exact tree_side _ | exact ⟨tree_side1 _, rfl, by show (_ + 1) * 160 ≤ _; omega⟩ | (simp [CC]; done) | (constructor <;> omega)))
         | with_reducible refine Br.not ?_
         | (with_reducible first | refine Br.tt (by assumption) ?_ | refine Br.ff (by assumption) ?_)
         | (refine Br.mk ?_ ?_ <;> intro hb <;> (try simp only [And.intro @hml (ZZ)] at hb) <;> (first | omega | contradiction | skip))
         | refine Src.whole ⟨rfl, rfl⟩ ?_ | refine FrzV.whole ?_
         | refine CallW.use (hV) ?_
         | refine CallW.use (hT) ?_) <;> conv => whnf)
        rw [show Tree.encL acc ++ [x.enc] = Tree.encL (acc ++ [x]) by simp [Tree.encL_eq]]
        · refine PostCl.of (h0 _ (j + 1) m hR.symm _) ?_ ?_
          · repeat first | exact trivial | refine ⟨VLe.refl _, ?_⟩
          · repeat first | exact trivial | refine ⟨by decide, ?_⟩
      | false =>
        rw [if_neg (by rw [h93]; decide)] at hR
        have hT := take_no (n := m) hat hl h93
        cases h44 : isS (wdAt ws j) [44] with
        | true =>
          rw [if_pos h44] at hR
          have hW := want_yes (n := m) hat hl h44
          refine LoopW.round (pol := polG) mixP ?_
          conv => whnf
          repeat' ((first
           | ((with_reducible first | refine Br.dec ?_ ?_ | refine Br.ndec ?_ ?_) <;> intro hb <;> (try simp only [And.intro @hml (ZZ)] at hb) <;> (first | omega | contradiction | skip))
           | (with_reducible first | refine Br.tt rfl ?_ | refine Br.ff rfl ?_ | refine Br.ff (isEmptyCons _ _) ?_)
           | (refine Side.mk ?_ ?_; focus (first | omega | (dsimp only [InR, Int.reduceToNat, IntKind.bits, Int.reducePow]; omega) | exact tree_side _ | exact ⟨tree_side1 _, rfl, by show (_ + 1) * 160 ≤ _; omega⟩ | (simp [CC]; done) | (constructor <;> omega)))
           | with_reducible refine Br.not ?_
           | (with_reducible first | refine Br.tt (by assumption) ?_ | refine Br.ff (by assumption) ?_)
           | (refine Br.mk ?_ ?_ <;> intro hb <;> (try simp only [And.intro @hml (ZZ)] at hb) <;> (first | omega | contradiction | skip))
           | refine Src.whole ⟨rfl, rfl⟩ ?_ | refine FrzV.whole ?_
           | refine CallW.use (hV) ?_
           | refine CallW.use (hT) ?_
           | refine CallW.use (hW) ?_) <;> conv => whnf)
          rw [show Tree.encL acc ++ [x.enc] = Tree.encL (acc ++ [x]) by simp [Tree.encL_eq]]
          refine LoopW.ren [0, 1, 2, 3] (ih (j + 1) m (acc ++ [x]) (by omega) (hend (by rw [(isS_k h44).1]; decide)) (by omega) (by omega) g4 (by simp) (by rw [List.length_append, List.length_singleton]; omega) hR) (by repeat first | exact trivial | refine ⟨⟨rfl, VLe.refl _⟩, ?_⟩) (by repeat first | exact trivial | refine ⟨by decide, ?_⟩) rfl rfl
        | false =>
          rw [if_neg (by rw [h44]; decide)] at hR
          have hW := want_no (n := m) hat hl h44
          refine LoopW.round (pol := polG) mixP ?_
          conv => whnf
          repeat' ((first
           | ((with_reducible first | refine Br.dec ?_ ?_ | refine Br.ndec ?_ ?_) <;> intro hb <;> (try simp only [And.intro @hml (ZZ)] at hb) <;> (first | omega | contradiction | skip))
           | (with_reducible first | refine Br.tt rfl ?_ | refine Br.ff rfl ?_ | refine Br.ff (isEmptyCons _ _) ?_)
           | (refine Side.mk ?_ ?_; focus (first | omega | (dsimp only [InR, Int.reduceToNat, IntKind.bits, Int.reducePow]; omega) | exact tree_side _ | exact ⟨tree_side1 _, rfl, by show (_ + 1) * 160 ≤ _; omega⟩ | (simp [CC]; done) | (constructor <;> omega)))
           | with_reducible refine Br.not ?_
           | (with_reducible first | refine Br.tt (by assumption) ?_ | refine Br.ff (by assumption) ?_)
           | (refine Br.mk ?_ ?_ <;> intro hb <;> (try simp only [And.intro @hml (ZZ)] at hb) <;> (first | omega | contradiction | skip))
           | refine Src.whole ⟨rfl, rfl⟩ ?_ | refine FrzV.whole ?_
           | refine CallW.use (hV) ?_
           | refine CallW.use (hT) ?_
           | refine CallW.use (hW) ?_) <;> conv => whnf)
          · refine PostCl.of (hp _ _ hR.symm _) ?_ ?_
            · repeat first | exact trivial | refine ⟨VLe.refl _, ?_⟩
            · repeat first | exact trivial | refine ⟨by decide, ?_⟩
theorem items_first (ws : List Wd) (hw : WsOk ws) (Q : Nat) (hv : ∀ q, q < Q → ValAt ws q) (d : Int) (hd0 : 0 ≤ d) (hd : d ≤ 32) (R : RR) (K : Post)
    (h0 : ∀ (l : List Tree) (j : Nat) (m : Int), R = .ok (.mk 5 0 [] l [], j, m) → ∀ es : List PV, K .ret [(4, .ptr 1 0)] [jrO ws j m, .var T.api_Value (lsV (Tree.encL l).length), .var T.api_Value (lsV (Tree.encL l).length), .arr T.api_Value 5 (Tree.encL l), .arr T.api_Value 5 es] [])
    (h1 : ∀ (x : Tree) (j : Nat) (m : Int), R = .ok (.mk 5 0 [] [x] [], j, m) → ∀ es : List PV, K .ret [(4, .ptr 1 0)] [jrO ws j m, .var T.api_Value lsV1, .var T.api_Value lsV1, .arr T.api_Value 5 es, .arr T.api_Value 5 [x.enc]] [])
    (hp : ∀ e a : Int, R = .error (e, a) → ∀ H : Heap, K (.pan (wrongP e a)) [] (.dead :: H) [])
    (q : Nat) (i : Nat) (n : Int) (hq : q + 1 ≤ Q) (hi : i < ws.length) (hf : 3 * (ws.length - i) + 2 ≤ q + 1) (hn0 : 0 ≤ n) (hn1 : n ≤ 4096) (hR : itemsR (q + 1) ws d i n [] = R) :
      LoopW PP GG 24 1 (loopN F.jread_reader_list_c 0) [(0, .ptr 0 0), (1, .p (.int .i64 d)), (4, .ptr 1 0), (5, .ptr 2 0)] [jrO ws i n, zO, .var T.api_Value (.p (.agg [.int .i64 5, .int .i64 0, .str [], .nils, .nils]))] [] (PostCl 24 K) := by
  have ih := items_loop ws hw Q hv d hd0 hd R K h0 hp q
  have hV := hv q (by omega) (d + 1) i n hi (by omega) (by omega) (by omega) hn0 hn1
  have hok := (okR_all hw q).1 (d + 1) i n hi
  have hws := hw.len
  have hl : ws.length ≤ 1073741824 := by omega
  rw [itemsR] at hR
  cases hr : valR q ws (d + 1) i n with
  | error e =>
    rw [hr] at hV hR
    obtain ⟨e, a⟩ := e
    refine LoopW.round (pol := polG) mixP ?_
    conv => whnf
    repeat' ((first
     | ((with_reducible first | refine Br.dec ?_ ?_ | refine Br.ndec ?_ ?_) <;> intro hb <;> (try simp only [ZZ] at hb) <;> (first | omega | contradiction | skip))
     | (with_reducible first | refine Br.tt rfl ?_ | refine Br.ff rfl ?_ | refine Br.ff (isEmptyCons _ _) ?_)
     | (refine Side.mk ?_ ?_; focus (first | omega | (dsimp only [InR, Int.reduceToNat, IntKind.bits, Int.reducePow]; omega) | (simp [CC]; done) | (constructor <;> omega)))
     | with_reducible refine Br.not ?_
     | (with_reducible first | refine Br.tt (by assumption) ?_ | refine Br.ff (by assumption) ?_)
     | (refine Br.mk ?_ ?_ <;> intro hb <;> (try simp only [ZZ] at hb) <;> (first | omega | contradiction | skip))
     | refine Src.whole ⟨rfl, rfl⟩ ?_ | refine FrzV.whole ?_
     | refine CallW.use (hV) ?_) <;> conv => whnf)
    · refine PostCl.of (hp e a hR.symm _) ?_ ?_
      · repeat first | exact trivial | refine ⟨VLe.refl _, ?_⟩
      · repeat first | exact trivial | refine ⟨by decide, ?_⟩
  | ok x =>
    obtain ⟨x, j, m⟩ := x
    rw [hr] at hV hR hok
    obtain ⟨g1, g2, g3, g4⟩ := hok
    have hat := (hw.at g2).1
    have hend := hw.end_ j g2
    dsimp only [] at hR
    cases h93 : isS (wdAt ws j) [93] with
    | true =>
      rw [if_pos h93] at hR
      have hT := take_yes (n := m) hat hl h93
      refine LoopW.round (pol := polG) mixP ?_
      conv => whnf
      repeat' ((first
       | ((with_reducible first | refine Br.dec ?_ ?_ | refine Br.ndec ?_ ?_) <;> intro hb <;> (try simp only [ZZ] at hb) <;> (first | omega | contradiction | skip))
       | (with_reducible first | refine Br.tt rfl ?_ | refine Br.ff rfl ?_ | refine Br.ff (isEmptyCons _ _) ?_)
       | (refine Side.mk ?_ ?_; focus (first | omega | (dsimp only [InR, Int.reduceToNat, IntKind.bits, Int.reducePow]; omega) | exact tree_side _ | exact ⟨tree_side1 _, by show 1 * 160 ≤ _; omega⟩ | (simp [CC]; done) | (constructor <;> omega)))
       | with_reducible refine Br.not ?_
       | (with_reducible first | refine Br.tt (by assumption) ?_ | refine Br.ff (by assumption) ?_)
       | (refine Br.mk ?_ ?_ <;> intro hb <;> (try simp only [ZZ] at hb) <;> (first | omega | contradiction | skip))
       | refine Src.whole ⟨rfl, rfl⟩ ?_ | refine FrzV.whole ?_
       | refine CallW.use (hV) ?_
       | refine CallW.use (hT) ?_) <;> conv => whnf)
      · refine PostCl.of (h1 _ (j + 1) m hR.symm _) ?_ ?_
        · repeat first | exact trivial | refine ⟨VLe.refl _, ?_⟩
        · repeat first | exact trivial | refine ⟨by decide, ?_⟩
    | false =>
      rw [if_neg (by rw [h93]; decide)] at hR
      have hT := take_no (n := m) hat hl h93
      cases h44 : isS (wdAt ws j) [44] with
      | true =>
        rw [if_pos h44] at hR
        have hW := want_yes (n := m) hat hl h44
        refine LoopW.round (pol := polG) mixP ?_
        conv => whnf
        repeat' ((first
         | ((with_reducible first | refine Br.dec ?_ ?_ | refine Br.ndec ?_ ?_) <;> intro hb <;> (try simp only [ZZ] at hb) <;> (first | omega | contradiction | skip))
         | (with_reducible first | refine Br.tt rfl ?_ | refine Br.ff rfl ?_ | refine Br.ff (isEmptyCons _ _) ?_)
         | (refine Side.mk ?_ ?_; focus (first | omega | (dsimp only [InR, Int.reduceToNat, IntKind.bits, Int.reducePow]; omega) | exact tree_side _ | exact ⟨tree_side1 _, by show 1 * 160 ≤ _; omega⟩ | (simp [CC]; done) | (constructor <;> omega)))
         | with_reducible refine Br.not ?_
         | (with_reducible first | refine Br.tt (by assumption) ?_ | refine Br.ff (by assumption) ?_)
         | (refine Br.mk ?_ ?_ <;> intro hb <;> (try simp only [ZZ] at hb) <;> (first | omega | contradiction | skip))
         | refine Src.whole ⟨rfl, rfl⟩ ?_ | refine FrzV.whole ?_
         | refine CallW.use (hV) ?_
         | refine CallW.use (hT) ?_
         | refine CallW.use (hW) ?_) <;> conv => whnf)
        refine LoopW.ren [0, 1, 2, 4] (ih (j + 1) m [x] (by omega) (hend (by rw [(isS_k h44).1]; decide)) (by omega) (by omega) g4 (by simp) (by rw [List.length_singleton]; omega) hR) (by repeat first | exact trivial | refine ⟨⟨rfl, VLe.refl _⟩, ?_⟩) (by repeat first | exact trivial | refine ⟨by decide, ?_⟩) rfl rfl
      | false =>
        rw [if_neg (by rw [h44]; decide)] at hR
        have hW := want_no (n := m) hat hl h44
        refine LoopW.round (pol := polG) mixP ?_
        conv => whnf
        repeat' ((first
         | ((with_reducible first | refine Br.dec ?_ ?_ | refine Br.ndec ?_ ?_) <;> intro hb <;> (try simp only [ZZ] at hb) <;> (first | omega | contradiction | skip))
         | (with_reducible first | refine Br.tt rfl ?_ | refine Br.ff rfl ?_ | refine Br.ff (isEmptyCons _ _) ?_)
         | (refine Side.mk ?_ ?_; focus (first | omega | (dsimp only [InR, Int.reduceToNat, IntKind.bits, Int.reducePow]; omega) | exact tree_side _ | exact ⟨tree_side1 _, by show 1 * 160 ≤ _; omega⟩ | (simp [CC]; done) | (constructor <;> omega)))
         | with_reducible refine Br.not ?_
         | (with_reducible first | refine Br.tt (by assumption) ?_ | refine Br.ff (by assumption) ?_)
         | (refine Br.mk ?_ ?_ <;> intro hb <;> (try simp only [ZZ] at hb) <;> (first | omega | contradiction | skip))
         | refine Src.whole ⟨rfl, rfl⟩ ?_ | refine FrzV.whole ?_
         | refine CallW.use (hV) ?_
         | refine CallW.use (hT) ?_
         | refine CallW.use (hW) ?_) <;> conv => whnf)
        · refine PostCl.of (hp _ _ hR.symm _) ?_ ?_
          · repeat first | exact trivial | refine ⟨VLe.refl _, ?_⟩
          · repeat first | exact trivial | refine ⟨by decide, ?_⟩
theorem reader_list_step (ws : List Wd) (hw : WsOk ws) (q : Nat) (hv : ∀ p, p < q + 1 → ValAt ws p) : ListAt ws (q + 1) := by
  intro d i n hi hq h0 h1 h2 h3
  have hat := (hw.at hi).1
  have hws := hw.len
  have hl : ws.length ≤ 1073741824 := by omega
  have hend := hw.end_ i hi
  rw [listR]
  cases h93 : isS (wdAt ws i) [93] with
  | true =>
    rw [if_pos rfl]
    have hT := take_yes (n := n) hat hl h93
    refine absCall_of (pol := polG) mixP F.jread_reader_list_is ?_
    conv => whnf
    repeat' ((first
     | ((with_reducible first | refine Br.dec ?_ ?_ | refine Br.ndec ?_ ?_) <;> intro hb <;> (try simp only [ZZ] at hb) <;> (first | omega | contradiction | skip))
     | (with_reducible first | refine Br.tt rfl ?_ | refine Br.ff rfl ?_ | refine Br.ff (isEmptyCons _ _) ?_)
     | (refine Side.mk ?_ ?_; focus (first | omega | (dsimp only [InR, Int.reduceToNat, IntKind.bits, Int.reducePow]; omega) | (simp [CC]; done) | (constructor <;> omega)))
     | with_reducible refine Br.not ?_
     | (with_reducible first | refine Br.tt (by assumption) ?_ | refine Br.ff (by assumption) ?_)
     | (refine Br.mk ?_ ?_ <;> intro hb <;> (try simp only [ZZ] at hb) <;> (first | omega | contradiction | skip))
     | refine Src.whole ⟨rfl, rfl⟩ ?_ | refine FrzV.whole ?_
     | refine CallW.use (hT) ?_) <;> conv => whnf)
    exact CLe.ret (tree_nils 5 0 [])
  | false =>
    rw [if_neg (by decide)]
    have hT := take_no (n := n) hat hl h93
    obtain ⟨p, rfl⟩ : ∃ p, q = p + 1 := ⟨q - 1, by omega⟩
    have hlp := items_first ws hw (p + 1) (fun r hr => hv r (by omega)) d h0 h1 (itemsR (p + 1) ws d i n [])
    have hok := (okR_all hw (p + 1)).2.2.1 d i n [] hi h3
    generalize hR : itemsR (p + 1) ws d i n [] = R at *
    refine absCall_of (pol := polG) mixP F.jread_reader_list_is ?_
    conv => whnf
    repeat' ((first
     | ((with_reducible first | refine Br.dec ?_ ?_ | refine Br.ndec ?_ ?_) <;> intro hb <;> (try simp only [ZZ] at hb) <;> (first | omega | contradiction | skip))
     | (with_reducible first | refine Br.tt rfl ?_ | refine Br.ff rfl ?_ | refine Br.ff (isEmptyCons _ _) ?_)
     | (refine Side.mk ?_ ?_; focus (first | omega | (dsimp only [InR, Int.reduceToNat, IntKind.bits, Int.reducePow]; omega) | (simp [CC]; done) | (constructor <;> omega)))
     | with_reducible refine Br.not ?_
     | (with_reducible first | refine Br.tt (by assumption) ?_ | refine Br.ff (by assumption) ?_)
     | (refine Br.mk ?_ ?_ <;> intro hb <;> (try simp only [ZZ] at hb) <;> (first | omega | contradiction | skip))
     | refine Src.whole ⟨rfl, rfl⟩ ?_ | refine FrzV.whole ?_
     | refine CallW.use (hT) ?_) <;> conv => whnf)
    refine LoopW.cl ?_
    refine LoopW.ren [0, 1, 2] (hlp _ (fun l j m h es => ?_) (fun x j m h es => ?_) (fun e a h H => ?_) p i n (Nat.le_refl _) hi (by omega) h2 h3 hR) (by repeat first | exact trivial | refine ⟨⟨rfl, VLe.refl _⟩, ?_⟩) (by repeat first | exact trivial | refine ⟨by decide, ?_⟩) rfl rfl
    all_goals conv => whnf
    · subst h
      refine FrzV.mk (.p (.agg [.int .i64 5, .int .i64 0, .str [], .lst false (Tree.encL l), .nils])) (lsV_frz l) ?_
      conv => whnf
      refine FrzO.mk (.var T.api_Value (.p (.agg [.int .i64 5, .int .i64 0, .str [], .lst false (Tree.encL l), .nils]))) (congrArg (HO.var T.api_Value) (lsV_frz l)) ?_
      conv => whnf
      refine FrzO.mk (.var T.api_Value (.p (.agg [.int .i64 5, .int .i64 0, .str [], .lst false (Tree.encL l), .nils]))) (congrArg (HO.var T.api_Value) (lsV_frz l)) ?_
      conv => whnf
      exact CLe.ret (tree_ls l)
    · subst h
      refine FrzV.mk (.p (.agg [.int .i64 5, .int .i64 0, .str [], .lst false [x.enc], .nils])) (lsV1_frz x) ?_
      conv => whnf
      refine FrzO.mk (.var T.api_Value (.p (.agg [.int .i64 5, .int .i64 0, .str [], .lst false ([x.enc]), .nils]))) (congrArg (HO.var T.api_Value) (lsV1_frz x)) ?_
      conv => whnf
      refine FrzO.mk (.var T.api_Value (.p (.agg [.int .i64 5, .int .i64 0, .str [], .lst false ([x.enc]), .nils]))) (congrArg (HO.var T.api_Value) (lsV1_frz x)) ?_
      conv => whnf
      exact CLe.ret (tree_ls [x])
    · subst h
      exact CLe.refl _
end Go.Proofs.YtaoejccgdpppgaaGreatDoor
end

section
namespace Go.Am
open Go
def Ge (n : Nat) (s : Str) : Prop := ∀ b ∈ s, n ≤ b.toNat
theorem Ge.app {n : Nat} {s r : Str} (h1 : Ge n s) (h2 : Ge n r) : Ge n (s ++ r) := fun b hb => (List.mem_append.1 hb).elim (h1 b) (h2 b)
theorem Ge.cons {n : Nat} {c : UInt8} {s : Str} (h1 : n ≤ c.toNat) (h2 : Ge n s) : Ge n (c :: s) := fun b hb => (List.mem_cons.1 hb).elim (fun e => by rw [e]; exact h1) (h2 b)
theorem Ge.nil {n : Nat} : Ge n [] := fun b hb => by cases hb
def NoB (s : Str) : Prop := ∀ b ∈ s, b.toNat ≠ 32
theorem NoB.l {s r : Str} (h : NoB (s ++ r)) : NoB s := fun b hb => h b (List.mem_append_left _ hb)
theorem NoB.r {s r : Str} (h : NoB (s ++ r)) : NoB r := fun b hb => h b (List.mem_append_right _ hb)
theorem NoB.t {c : UInt8} {s : Str} (h : NoB (c :: s)) : NoB s := fun b hb => h b (List.mem_cons_of_mem _ hb)
end Go.Am
end

section
namespace Go.Am
end Go.Am
end

section
namespace Go.Am
open Go
def q1 (c : UInt8) : Str := quoteU [c] 1
theorem q1_head : ∀ k : Nat, k < 128 → ∃ a y, q1 (UInt8.ofNat k) = a :: y ∧ a ≠ 34 ∧ a.toNat < 128 := by
  have h : ∀ k : Nat, k < 128 → (match q1 (UInt8.ofNat k) with | a :: _ => decide (a ≠ 34 ∧ a.toNat < 128) | [] => false) = true := by decide +kernel
  intro k hk
  have := h k hk
  split at this
  · rename_i a y e
    rw [decide_eq_true_eq] at this
    exact ⟨a, y, e, this.1, this.2⟩
  · cases this
theorem q1_prefix : ∀ k : Nat, k < 128 → ∀ j : Nat, j < 128 → (q1 (UInt8.ofNat k)).isPrefixOf (q1 (UInt8.ofNat j)) = true → k = j := by decide +kernel
theorem take_len (c : UInt8) (cs : Str) (h : (utfTake (c :: cs)).2 ≠ 0) : (utfTake (c :: cs)).2 = (utfBegins c.toNat).1 := by
  unfold utfTake at h ⊢
  simp only [] at h ⊢
  split
  · rename_i h1; rw [if_pos h1] at h; exact absurd rfl h
  · rename_i h1
    rw [if_neg h1] at h
    split
    · rename_i h2; rw [h2] at h; exact absurd rfl h
    · rename_i r h2
      rw [h2] at h
      simp only [] at h
      split
      · rfl
      · rename_i h3; rw [if_neg h3] at h; exact absurd rfl h
def unitL (s : Str) : Str := quoteU (s.take (stepN s)) (utfTake s).2
theorem unit_form (c : UInt8) (cs : Str) (h : (utfTake (c :: cs)).2 ≠ 0) :
    (c.toNat < 128 ∧ (c :: cs).take (stepN (c :: cs)) = [c] ∧ unitL (c :: cs) = q1 c) ∨
    (128 ≤ c.toNat ∧ unitL (c :: cs) = (c :: cs).take (stepN (c :: cs)) ∧ ((c :: cs).take (stepN (c :: cs))).length = (utfBegins c.toNat).1.toNat ∧ 1 ≤ (utfBegins c.toNat).1) := by
  have hn := utfTake_n (c :: cs)
  have hk := take_len c cs h
  have hs : stepN (c :: cs) = (utfTake (c :: cs)).2.toNat := by unfold stepN; omega
  by_cases hc : c.toNat < 128
  · refine .inl ⟨hc, ?_, ?_⟩
    · have : (utfBegins c.toNat).1 = 1 := by unfold utfBegins; rw [if_pos hc]
      rw [hs, hk, this]; rfl
    · have : (utfBegins c.toNat).1 = 1 := by unfold utfBegins; rw [if_pos hc]
      unfold unitL
      rw [hs, hk, this]; rfl
  · refine .inr ⟨by omega, ?_, ?_, by omega⟩
    · unfold unitL
      have hb : b0 ((c :: cs).take (stepN (c :: cs))) = c.toNat := by
        rw [hs]
        obtain ⟨k, hk2⟩ : ∃ k, (utfTake (c :: cs)).2.toNat = k + 1 := ⟨(utfTake (c :: cs)).2.toNat - 1, by omega⟩
        rw [hk2]; rfl
      unfold quoteU
      rw [if_neg h, hb]
      repeat (rw [if_neg (by omega)])
    · rw [List.length_take, hs, hk]
      have : (utfTake (c :: cs)).2 ≤ (c :: cs).length := by omega
      omega
theorem u8_of (c : UInt8) : UInt8.ofNat c.toNat = c := by simp
theorem unit_head (c : UInt8) (cs : Str) (h : (utfTake (c :: cs)).2 ≠ 0) : ∃ a y, unitL (c :: cs) = a :: y ∧ a ≠ 34 ∧ (a.toNat < 128 ↔ c.toNat < 128) := by
  rcases unit_form c cs h with ⟨h1, _, h3⟩ | ⟨h1, h2, h3, h4⟩
  · obtain ⟨a, y, e, h5, h6⟩ := q1_head c.toNat h1
    rw [u8_of] at e
    exact ⟨a, y, by rw [h3, e], h5, by omega⟩
  · obtain ⟨k, hk⟩ : ∃ k, stepN (c :: cs) = k + 1 := ⟨stepN (c :: cs) - 1, by have := stepN_pos (c :: cs); omega⟩
    refine ⟨c, cs.take k, by rw [h2, hk]; rfl, ?_, Iff.rfl⟩
    rintro rfl
    exact absurd h1 (by decide)
theorem unit_inj (c : UInt8) (cs : Str) (e : UInt8) (es : Str) (h1 : (utfTake (c :: cs)).2 ≠ 0) (h2 : (utfTake (e :: es)).2 ≠ 0) (X Y : Str) (h : unitL (c :: cs) ++ X = unitL (e :: es) ++ Y) :
    (c :: cs).take (stepN (c :: cs)) = (e :: es).take (stepN (e :: es)) ∧ X = Y := by
  rcases unit_form c cs h1 with ⟨a1, a2, a3⟩ | ⟨a1, a2, a3, a4⟩ <;> rcases unit_form e es h2 with ⟨b1, b2, b3⟩ | ⟨b1, b2, b3, b4⟩
  · rw [a3, b3] at h
    have key : ∀ (c e : UInt8) (X Y : Str), c.toNat < 128 → e.toNat < 128 → (q1 c).length ≤ (q1 e).length → q1 c ++ X = q1 e ++ Y → c = e ∧ X = Y := by
      intro c e X Y hc he hl h
      have hp : q1 c <+: q1 e := List.prefix_of_prefix_length_le ⟨X, h⟩ ⟨Y, rfl⟩ hl
      have := q1_prefix c.toNat hc e.toNat he (by rw [u8_of, u8_of]; exact List.isPrefixOf_iff_prefix.2 hp)
      have hce : c = e := UInt8.toNat_inj.1 this
      subst hce
      exact ⟨rfl, List.append_cancel_left h⟩
    rcases Nat.le_total (q1 c).length (q1 e).length with hl | hl
    · obtain ⟨rfl, rfl⟩ := key c e X Y a1 b1 hl h
      exact ⟨by rw [a2, b2], rfl⟩
    · obtain ⟨rfl, rfl⟩ := key e c Y X b1 a1 hl h.symm
      exact ⟨by rw [a2, b2], rfl⟩
  · obtain ⟨x, y, e1, _, e2⟩ := unit_head c cs h1
    obtain ⟨x', y', e1', _, e2'⟩ := unit_head e es h2
    rw [e1, e1'] at h
    have := (List.cons.inj h).1
    subst this
    omega
  · obtain ⟨x, y, e1, _, e2⟩ := unit_head c cs h1
    obtain ⟨x', y', e1', _, e2'⟩ := unit_head e es h2
    rw [e1, e1'] at h
    have := (List.cons.inj h).1
    subst this
    omega
  · rw [a2, b2] at h
    have hce : c = e := by
      obtain ⟨k, hk⟩ : ∃ k, stepN (c :: cs) = k + 1 := ⟨stepN (c :: cs) - 1, by have := stepN_pos (c :: cs); omega⟩
      obtain ⟨j, hj⟩ : ∃ k, stepN (e :: es) = k + 1 := ⟨stepN (e :: es) - 1, by have := stepN_pos (e :: es); omega⟩
      rw [hk, hj] at h
      exact (List.cons.inj h).1
    subst hce
    exact List.append_inj h (by rw [a3, b3])
theorem scan_at (q : Nat) : ∀ (s : Str) (p r : Int), (utfScan q s p).2 = (utfScan q s r).2 := by
  induction q with
  | zero => intro s p r; rfl
  | succ q ih =>
    intro s p r
    cases s with
    | nil => rfl
    | cons c cs =>
      unfold utfScan
      simp only []
      split
      · rfl
      · exact ih _ _ _
theorem scan_cons {q : Nat} {c : UInt8} {cs : Str} {p : Int} (h : (utfScan (q + 1) (c :: cs) p).2 = true) : (utfTake (c :: cs)).2 ≠ 0 ∧ (utfScan q ((c :: cs).drop (stepN (c :: cs))) 0).2 = true := by
  unfold utfScan at h
  simp only [] at h
  split at h
  · cases h
  · rename_i h0
    refine ⟨h0, ?_⟩
    have hn := utfTake_n (c :: cs)
    have hs : stepN (c :: cs) = (utfTake (c :: cs)).2.toNat := by unfold stepN; omega
    rw [hs, scan_at q _ 0]
    exact h
theorem quoteL_inj : ∀ (q : Nat) (s : Str) (q' : Nat) (s' R R' : Str), s.length ≤ q → s'.length ≤ q' → (utfScan q s 0).2 = true → (utfScan q' s' 0).2 = true → quoteL q s ++ 34 :: R = quoteL q' s' ++ 34 :: R' → s = s' ∧ R = R' := by
  intro q
  induction q with
  | zero =>
    intro s q' s' R R' hl hl' hv hv' h
    obtain rfl := List.eq_nil_of_length_eq_zero (Nat.le_zero.1 hl)
    cases q' with
    | zero =>
      obtain rfl := List.eq_nil_of_length_eq_zero (Nat.le_zero.1 hl')
      exact ⟨rfl, by simpa [quoteL] using h⟩
    | succ q' =>
      cases s' with
      | nil => exact ⟨rfl, by simpa [quoteL] using h⟩
      | cons e es =>
        obtain ⟨a, y, e1, e2, _⟩ := unit_head e es (scan_cons hv').1
        rw [quoteL, quoteL] at h
        change [] ++ 34 :: R = (unitL (e :: es) ++ _) ++ 34 :: R' at h
        rw [e1] at h
        exact absurd (List.cons.inj h).1.symm e2
  | succ q ih =>
    intro s q' s' R R' hl hl' hv hv' h
    cases s with
    | nil =>
      cases q' with
      | zero =>
        obtain rfl := List.eq_nil_of_length_eq_zero (Nat.le_zero.1 hl')
        exact ⟨rfl, by simpa [quoteL] using h⟩
      | succ q' =>
        cases s' with
        | nil => exact ⟨rfl, by simpa [quoteL] using h⟩
        | cons e es =>
          obtain ⟨a, y, e1, e2, _⟩ := unit_head e es (scan_cons hv').1
          rw [quoteL, quoteL] at h
          change [] ++ 34 :: R = (unitL (e :: es) ++ _) ++ 34 :: R' at h
          rw [e1] at h
          exact absurd (List.cons.inj h).1.symm e2
    | cons c cs =>
      obtain ⟨v1, v2⟩ := scan_cons hv
      cases q' with
      | zero =>
        obtain rfl := List.eq_nil_of_length_eq_zero (Nat.le_zero.1 hl')
        obtain ⟨a, y, e1, e2, _⟩ := unit_head c cs v1
        rw [quoteL, quoteL] at h
        change (unitL (c :: cs) ++ _) ++ 34 :: R = [] ++ 34 :: R' at h
        rw [e1] at h
        exact absurd (List.cons.inj h).1 e2
      | succ q' =>
        cases s' with
        | nil =>
          obtain ⟨a, y, e1, e2, _⟩ := unit_head c cs v1
          rw [quoteL, quoteL] at h
          change (unitL (c :: cs) ++ _) ++ 34 :: R = [] ++ 34 :: R' at h
          rw [e1] at h
          exact absurd (List.cons.inj h).1 e2
        | cons e es =>
          obtain ⟨w1, w2⟩ := scan_cons hv'
          rw [quoteL, quoteL] at h
          change (unitL (c :: cs) ++ _) ++ 34 :: R = (unitL (e :: es) ++ _) ++ 34 :: R' at h
          rw [List.append_assoc, List.append_assoc] at h
          obtain ⟨h1, h2⟩ := unit_inj c cs e es v1 w1 _ _ h
          have p1 := stepN_pos (c :: cs)
          have p2 := stepN_pos (e :: es)
          obtain ⟨h3, h4⟩ := ih _ q' _ R R' (by rw [List.length_drop]; omega) (by rw [List.length_drop]; omega) v2 w2 h2
          refine ⟨?_, h4⟩
          rw [← List.take_append_drop (stepN (c :: cs)) (c :: cs), ← List.take_append_drop (stepN (e :: es)) (e :: es), h1, h3]
theorem quoteS_inj {s s' R R' : Str} (hv : strOk s = true) (hv' : strOk s' = true) (h : quoteS s ++ R = quoteS s' ++ R') : s = s' ∧ R = R' := by
  unfold strOk at hv hv'
  rw [Bool.and_eq_true] at hv hv'
  unfold quoteS at h
  simp only [List.cons_append, List.append_assoc, List.singleton_append] at h
  have h := (List.cons.inj h).2
  exact quoteL_inj _ _ _ _ _ _ (Nat.le_refl _) (Nat.le_refl _) hv.2 hv'.2 h
def numCh (b : UInt8) : Bool := decide ((48 ≤ b.toNat ∧ b.toNat ≤ 57) ∨ b.toNat = 43 ∨ b.toNat = 45 ∨ b.toNat = 46 ∨ b.toNat = 101 ∨ b.toNat = 69)
def Nc (s : Str) : Prop := ∀ b ∈ s, numCh b = true
theorem Nc.app {s r : Str} (h1 : Nc s) (h2 : Nc r) : Nc (s ++ r) := fun b hb => (List.mem_append.1 hb).elim (h1 b) (h2 b)
theorem Nc.cons {c : UInt8} {s : Str} (h1 : numCh c = true) (h2 : Nc s) : Nc (c :: s) := fun b hb => (List.mem_cons.1 hb).elim (fun e => by rw [e]; exact h1) (h2 b)
theorem Nc.nil : Nc [] := fun b hb => by cases hb
theorem nc_dig {s : Str} (h : ∀ b ∈ s, dig b = true) : Nc s := fun b hb => by
  have := h b hb
  unfold dig at this
  rw [decide_eq_true_eq] at this
  unfold numCh
  rw [decide_eq_true_eq]
  exact .inl this
theorem nc_run {s : Str} (h : Nc (s.drop (runL s))) : Nc s := by
  have := Nc.app (nc_dig (take_dig s)) h
  rwa [List.take_append_drop] at this
theorem nc_cons {s : Str} (h1 : b0 s = 43 ∨ b0 s = 45 ∨ b0 s = 46 ∨ b0 s = 101 ∨ b0 s = 69) (h : Nc (s.drop 1)) : Nc s := by
  cases s with
  | nil => exact Nc.nil
  | cons c s => exact Nc.cons (by unfold numCh; rw [decide_eq_true_eq]; exact .inr (by simpa [b0] using h1)) (by simpa using h)
theorem nc_E {neg : Bool} {w f p d : Str} (h : (partsE neg w f p d).2.2.2.2 = true) : Nc d := by
  unfold partsE at h
  split at h
  · cases h
  · rename_i hc
    exact nc_dig (runL_dig (by omega))
theorem nc_D {neg : Bool} {w f s : Str} (h : (partsD neg w f s).2.2.2.2 = true) : Nc s := by
  unfold partsD at h
  split at h
  · rename_i h0
    obtain rfl := List.eq_nil_of_length_eq_zero h0
    exact Nc.nil
  · split at h
    · cases h
    · refine nc_cons (by omega) ?_
      split at h
      · exact nc_cons (by omega) (nc_E h)
      · exact nc_E h
theorem nc_C {neg : Bool} {w s : Str} (h : (partsC neg w s).2.2.2.2 = true) : Nc s := by
  unfold partsC at h
  split at h
  · split at h
    · cases h
    · exact nc_cons (by omega) (nc_run (nc_D h))
  · exact nc_D h
theorem nc_B {neg : Bool} {s : Str} (h : (partsB neg s).2.2.2.2 = true) : Nc s := by
  unfold partsB at h
  split at h
  · cases h
  · exact nc_run (nc_C h)
theorem nc_num {s : Str} (h : numL s = true) : Nc s := by
  rw [numL_eq] at h
  unfold okP at h
  simp only [Bool.and_eq_true, decide_eq_true_eq] at h
  have h := h.1.1
  unfold numParts at h
  split at h
  · exact nc_cons (by omega) (nc_B h)
  · exact nc_B h
theorem dig_u8 {m : Nat} (h : m < 10) : dig (UInt8.ofNat (48 + m)) = true := by
  unfold dig
  rw [UInt8.toNat_ofNat', Nat.mod_eq_of_lt (by omega), decide_eq_true_eq]
  omega
theorem digits_dig : ∀ n : Nat, ∀ b ∈ Lib.decDigits n, dig b = true := by
  intro n
  induction n using Nat.strongRecOn with
  | ind n ih =>
    intro b hb
    rw [Lib.decDigits] at hb
    split at hb
    · rename_i h
      rw [List.mem_singleton] at hb
      subst hb
      exact dig_u8 h
    · rcases List.mem_append.1 hb with hb | hb
      · exact ih _ (by omega) b hb
      · rw [List.mem_singleton] at hb
        subst hb
        exact dig_u8 (by omega)
theorem nc_itoa (z : Int) : Nc (Lib.itoa z) := by
  by_cases h : 0 ≤ z
  · obtain ⟨u, rfl⟩ := Int.eq_ofNat_of_zero_le h
    rw [Lib.itoa_nonneg]
    exact nc_dig (digits_dig u)
  · obtain ⟨u, hu⟩ := Int.eq_ofNat_of_zero_le (show 0 ≤ -z by omega)
    rw [show z = -(u : Int) by omega, Lib.itoa_neg u (by omega)]
    exact Nc.cons (by decide) (nc_dig (digits_dig u))
theorem valN_app : ∀ (s r : Str) (a : Nat), valN (s ++ r) a = valN r (valN s a)
  | [], r, a => rfl
  | b :: s, r, a => by rw [List.cons_append, valN, valN, valN_app s r]
theorem valN_digits : ∀ n : Nat, valN (Lib.decDigits n) 0 = n := by
  intro n
  induction n using Nat.strongRecOn with
  | ind n ih =>
    rw [Lib.decDigits]
    split
    · rename_i h
      rw [valN, valN, UInt8.toNat_ofNat', Nat.mod_eq_of_lt (by omega)]
      omega
    · rename_i h
      rw [valN_app, ih _ (by omega), valN, valN, UInt8.toNat_ofNat', Nat.mod_eq_of_lt (by omega)]
      omega
theorem digits_ne (n : Nat) : Lib.decDigits n ≠ [] := by rw [Lib.decDigits]; split <;> simp
theorem parse_digits {u : Nat} (h : u ≤ 2 ^ 63) : Lib.parseUintB 64 (Lib.decDigits u) = .ok u := by
  unfold Lib.parseUintB
  rw [if_neg (digits_ne u), parseU_val rfl _ 0 (digits_dig u) (by omega), valN_digits, if_pos (by omega)]
theorem parse_itoa {z : Int} (h0 : -9223372036854775808 ≤ z) (h1 : z ≤ 9223372036854775807) : Lib.parseIntB 64 (Lib.itoa z) = .ok z := by
  by_cases h : 0 ≤ z
  · obtain ⟨u, rfl⟩ := Int.eq_ofNat_of_zero_le h
    rw [Lib.itoa_nonneg]
    have hp := parse_digits (u := u) (by omega)
    have hd := digits_dig u
    generalize Lib.decDigits u = s at *
    cases s with
    | nil => simp [Lib.parseUintB] at hp
    | cons c s =>
      have hdc := hd c (by simp)
      unfold dig at hdc
      rw [decide_eq_true_eq] at hdc
      rw [Lib.parseIntB_plain 64 c s (by omega) (by omega), hp]
      simp only [Lib.signlessC]
      rw [if_neg (by omega)]
  · obtain ⟨u, hu⟩ := Int.eq_ofNat_of_zero_le (show 0 ≤ -z by omega)
    rw [show z = -(u : Int) by omega, Lib.itoa_neg u (by omega), Lib.parseIntB_minus, parse_digits (by omega)]
    simp only [Lib.signedC]
    rw [if_neg (by omega)]
theorem itoa_inj {z y : Int} (hz : -9223372036854775808 ≤ z ∧ z ≤ 9223372036854775807) (hy : -9223372036854775808 ≤ y ∧ y ≤ 9223372036854775807) (h : Lib.itoa z = Lib.itoa y) : z = y := by
  have h1 := parse_itoa hz.1 hz.2
  rw [h, parse_itoa hy.1 hy.2] at h1
  injection h1 with h1
  exact h1.symm
theorem refInt_itoa {z : Int} (hz : -9223372036854775808 ≤ z ∧ z ≤ 9223372036854775807) (hn : numL (Lib.itoa z) = true) : (refIntL (Lib.itoa z)).2 = true := by
  rw [← decIntL_eq]
  unfold decIntL
  have hp := parse_itoa hz.1 hz.2
  rw [if_neg, hp]
  simp only [not_or]
  refine ⟨by simp [hn], ?_, ?_⟩
  · intro hc
    obtain ⟨b, hb, hb2⟩ := (containsAny_iff _ _).1 hc
    by_cases h : 0 ≤ z
    · obtain ⟨u, rfl⟩ := Int.eq_ofNat_of_zero_le h
      rw [Lib.itoa_nonneg] at hb
      exact dig_dotE (digits_dig u b hb) hb2
    · obtain ⟨u, hu⟩ := Int.eq_ofNat_of_zero_le (show 0 ≤ -z by omega)
      rw [show z = -(u : Int) by omega, Lib.itoa_neg u (by omega)] at hb
      rcases List.mem_cons.1 hb with rfl | hb
      · revert hb2; decide
      · exact dig_dotE (digits_dig u b hb) hb2
  · intro h
    rw [h] at hp
    have h0 : z = 0 := by
      have h2 : Lib.parseIntB 64 [45, 48] = .ok 0 := by decide
      rw [h2] at hp
      injection hp with hp
      exact hp.symm
    subst h0
    have h3 := itoa_small (u := 0) (by omega)
    rw [show ((0 : Nat) : Int) = 0 from rfl, h] at h3
    revert h3; decide
def TailR (R : Str) : Prop := R = [] ∨ ∃ a y, R = a :: y ∧ (a = 10 ∨ a = 44 ∨ a = 93 ∨ a = 125)
theorem tail_while {s R : Str} (hs : Nc s) (hR : TailR R) : (s ++ R).takeWhile numCh = s := by
  rw [List.takeWhile_append_of_pos hs]
  rcases hR with rfl | ⟨a, y, rfl, h⟩
  · simp
  · rw [List.takeWhile_cons, if_neg, List.append_nil]
    rcases h with rfl | rfl | rfl | rfl <;> decide
theorem num_split {s s' R R' : Str} (hs : Nc s) (hs' : Nc s') (hR : TailR R) (hR' : TailR R') (h : s ++ R = s' ++ R') : s = s' ∧ R = R' := by
  have h1 := tail_while hs hR
  rw [h, tail_while hs' hR'] at h1
  subst h1
  exact ⟨rfl, List.append_cancel_left h⟩
mutual
def stampT : Tree → Bool
  | .mk k _ _ l m => decide (k = 7) || (stampL l || stampM m)
def stampL : List Tree → Bool
  | [] => false
  | t :: l => stampT t || stampL l
def stampM : List (Str × Tree) → Bool
  | [] => false
  | p :: m => stampP p || stampM m
def stampP : Str × Tree → Bool
  | (_, t) => stampT t
end
theorem stampT_eq (t : Tree) : stampT t = (decide (t.kind = 7) || (stampL t.l || stampM t.m)) := by cases t; rw [stampT]; rfl
theorem stampL_mem : ∀ {l : List Tree}, stampL l = false → ∀ x ∈ l, stampT x = false
  | [], _, x, hx => by cases hx
  | t :: l, h, x, hx => by
    rw [stampL, Bool.or_eq_false_iff] at h
    rcases List.mem_cons.1 hx with rfl | hx
    · exact h.1
    · exact stampL_mem h.2 x hx
theorem stampM_mem : ∀ {l : List (Str × Tree)}, stampM l = false → ∀ x ∈ l, stampT x.2 = false
  | [], _, x, hx => by cases hx
  | (k, t) :: l, h, x, hx => by
    rw [stampM, stampP, Bool.or_eq_false_iff] at h
    rcases List.mem_cons.1 hx with rfl | hx
    · exact h.1
    · exact stampM_mem h.2 x hx
theorem stampT_spec {t : Tree} (h : stampT t = false) : t.kind ≠ 7 ∧ (∀ x ∈ t.l, stampT x = false) ∧ ∀ x ∈ t.m, stampT x.2 = false := by
  rw [stampT_eq, Bool.or_eq_false_iff, Bool.or_eq_false_iff, decide_eq_false_iff_not] at h
  exact ⟨h.1, stampL_mem h.2.1, stampM_mem h.2.2⟩
theorem own_fields {t : Tree} (h : ¬ ownBad t.kind t.n t.s.length t.l.length t.m.length) :
    (t.kind ≠ 1 → t.kind ≠ 2 → t.n = 0) ∧ (t.kind ≠ 3 → t.kind ≠ 4 → t.kind ≠ 7 → t.s = []) ∧ (t.kind ≠ 5 → t.l = []) ∧ (t.kind ≠ 6 → t.m = []) := by
  unfold ownBad at h
  refine ⟨fun h1 h2 => by omega, fun h1 h2 h3 => List.eq_nil_of_length_eq_zero (by omega), fun h1 => List.eq_nil_of_length_eq_zero (by omega), fun h1 => List.eq_nil_of_length_eq_zero (by omega)⟩
theorem Tree.ext' {t u : Tree} (h1 : t.kind = u.kind) (h2 : t.n = u.n) (h3 : t.s = u.s) (h4 : t.l = u.l) (h5 : t.m = u.m) : t = u := by rw [t.eta, u.eta, h1, h2, h3, h4, h5]
def cls (a : UInt8) : Int := if a = 110 then 0 else if a = 116 ∨ a = 102 then 1 else if numCh a = true then 2 else if a = 34 then 4 else if a = 91 then 5 else if a = 123 then 6 else 9
def kindC (k : Int) : Int := if k = 3 then 2 else k
theorem good_kinds {t : Tree} (hg : goodT t = true) (hs : stampT t = false) : t.kind = 0 ∨ (t.kind = 1 ∧ (t.n = 0 ∨ t.n = 1)) ∨ t.kind = 2 ∨ (t.kind = 3 ∧ numL t.s = true ∧ (refIntL t.s).2 = false) ∨ (t.kind = 4 ∧ strOk t.s = true) ∨ t.kind = 5 ∨ t.kind = 6 := by
  obtain ⟨_, h, _, _, _⟩ := goodT_spec hg
  have h7 := (stampT_spec hs).1
  unfold nodeOk at h
  by_cases c0 : t.kind = 0 ∨ t.kind = 2
  · omega
  rw [if_neg c0] at h
  by_cases c1 : t.kind = 1
  · rw [if_pos c1, decide_eq_true_eq] at h; omega
  rw [if_neg c1] at h
  by_cases c3 : t.kind = 3
  · rw [if_pos c3, Bool.and_eq_true] at h; exact .inr (.inr (.inr (.inl ⟨c3, h.1, by simpa using h.2⟩)))
  rw [if_neg c3] at h
  by_cases c4 : t.kind = 4
  · rw [if_pos c4] at h; exact .inr (.inr (.inr (.inr (.inl ⟨c4, h⟩))))
  rw [if_neg c4, if_neg h7, decide_eq_true_eq] at h
  omega
theorem p0 {t : Tree} (hk : t.kind = 0) (d : Int) : printT t d = [110, 117, 108, 108] := by rw [printT_eq, if_pos hk]
theorem p1 {t : Tree} (hk : t.kind = 1) (d : Int) : printT t d = if t.n = 1 then [116, 114, 117, 101] else [102, 97, 108, 115, 101] := by rw [printT_eq, if_neg (by omega), if_pos hk]
theorem p2 {t : Tree} (hk : t.kind = 2) (d : Int) : printT t d = Lib.itoa t.n := by rw [printT_eq, if_neg (by omega), if_neg (by omega), if_pos hk]
theorem p3 {t : Tree} (hk : t.kind = 3) (d : Int) : printT t d = t.s := by rw [printT_eq, if_neg (by omega), if_neg (by omega), if_neg (by omega), if_pos hk]
theorem p4 {t : Tree} (hk : t.kind = 4) (d : Int) : printT t d = quoteS t.s := by rw [printT_eq, if_neg (by omega), if_neg (by omega), if_neg (by omega), if_neg (by omega), if_pos (Or.inl hk)]
theorem p5 {t : Tree} (hk : t.kind = 5) (d : Int) : printT t d = if t.l.length = 0 then [91, 93] else 91 :: (printL true t.l (deeper d) ++ (lineL d ++ [93])) := by rw [printT_eq, if_neg (by omega), if_neg (by omega), if_neg (by omega), if_neg (by omega), if_neg (by omega), if_neg (by omega)]
theorem p6 {t : Tree} (hk : t.kind = 6) (d : Int) : printT t d = if t.m.length = 0 then [123, 125] else 123 :: (printM true t.m (deeper d) ++ (lineL d ++ [125])) := by rw [printT_eq, if_neg (by omega), if_neg (by omega), if_neg (by omega), if_neg (by omega), if_neg (by omega), if_pos hk]
theorem cls_num {a : UInt8} (h : numCh a = true) : cls a = 2 := by
  have key : ∀ k : Nat, k < 256 → numCh (UInt8.ofNat k) = true → cls (UInt8.ofNat k) = 2 := by decide +kernel
  have := key a.toNat a.toNat_lt
  rw [u8_of] at this
  exact this h
theorem nc_head {s : Str} (hs : Nc s) (hn : s ≠ []) : ∃ a y, s = a :: y ∧ cls a = 2 := by
  cases s with
  | nil => exact absurd rfl hn
  | cons a y => exact ⟨a, y, rfl, cls_num (hs a (by simp))⟩
theorem head_cls {t : Tree} (hg : goodT t = true) (hs : stampT t = false) (d : Int) : ∃ a y, printT t d = a :: y ∧ cls a = kindC t.kind := by
  rw [printT_eq]
  rcases good_kinds hg hs with hk | ⟨hk, hn⟩ | hk | ⟨hk, hn, _⟩ | ⟨hk, hn⟩ | hk | hk
  · rw [hk]; exact ⟨110, _, rfl, by decide⟩
  · rw [hk]
    rcases hn with hn | hn <;> rw [hn]
    · exact ⟨102, _, rfl, by decide⟩
    · exact ⟨116, _, rfl, by decide⟩
  · rw [hk, if_neg (by omega), if_neg (by omega), if_pos rfl]
    obtain ⟨a, y, h1, h2⟩ := nc_head (nc_itoa t.n) (itoa_ne t.n)
    exact ⟨a, y, h1, h2⟩
  · rw [hk, if_neg (by omega), if_neg (by omega), if_neg (by omega), if_pos rfl]
    obtain ⟨a, y, h1, h2⟩ := nc_head (nc_num hn) (numL_ne hn)
    exact ⟨a, y, h1, h2⟩
  · rw [hk, if_neg (by omega), if_neg (by omega), if_neg (by omega), if_neg (by omega), if_pos (by omega)]
    exact ⟨34, _, rfl, by decide⟩
  · rw [hk, if_neg (by omega), if_neg (by omega), if_neg (by omega), if_neg (by omega), if_neg (by omega), if_neg (by omega)]
    split
    · exact ⟨91, _, rfl, by decide⟩
    · exact ⟨91, _, rfl, by decide⟩
  · rw [hk, if_neg (by omega), if_neg (by omega), if_neg (by omega), if_neg (by omega), if_neg (by omega), if_pos rfl]
    split
    · exact ⟨123, _, rfl, by decide⟩
    · exact ⟨123, _, rfl, by decide⟩
theorem line_head (d : Int) (z : UInt8) (R : Str) : (lineL d ++ z :: R = z :: R) ∨ ∃ y, lineL d ++ z :: R = 10 :: y := by
  unfold lineL
  split
  · exact .inl rfl
  · exact .inr ⟨_, rfl⟩
def InjAt (t : Tree) : Prop := ∀ (u : Tree) (d : Int) (R R' : Str), goodT t = true → goodT u = true → stampT t = false → stampT u = false → TailR R → TailR R' → printT t d ++ R = printT u d ++ R' → t = u ∧ R = R'
theorem tail_L (d' d : Int) (z : UInt8) (hz : z = 93 ∨ z = 125) (R : Str) : ∀ l : List Tree, TailR (printL false l d' ++ (lineL d ++ z :: R))
  | [] => by
    rw [printL, List.nil_append]
    rcases line_head d z R with h | ⟨y, h⟩
    · rw [h]; exact .inr ⟨z, R, rfl, by rcases hz with rfl | rfl <;> decide⟩
    · rw [h]; exact .inr ⟨10, y, rfl, by decide⟩
  | x :: l => by rw [printL, if_neg (by simp)]; exact .inr ⟨44, _, rfl, by decide⟩
theorem tail_M (d' d : Int) (z : UInt8) (hz : z = 93 ∨ z = 125) (R : Str) : ∀ l : List (Str × Tree), TailR (printM false l d' ++ (lineL d ++ z :: R))
  | [] => by
    rw [printM, List.nil_append]
    rcases line_head d z R with h | ⟨y, h⟩
    · rw [h]; exact .inr ⟨z, R, rfl, by rcases hz with rfl | rfl <;> decide⟩
    · rw [h]; exact .inr ⟨10, y, rfl, by decide⟩
  | x :: l => by rw [printM, if_neg (by simp)]; exact .inr ⟨44, _, rfl, by decide⟩
theorem line_44 (d : Int) (z : UInt8) (hz : z = 93 ∨ z = 125) (R Y : Str) : lineL d ++ z :: R ≠ 44 :: Y := by
  intro h
  rcases line_head d z R with h2 | ⟨y, h2⟩
  · rw [h2] at h
    have := (List.cons.inj h).1
    rcases hz with rfl | rfl <;> revert this <;> decide
  · rw [h2] at h
    have := (List.cons.inj h).1
    revert this; decide
theorem injL (d' d : Int) (z : UInt8) (hz : z = 93 ∨ z = 125) : ∀ (l l' : List Tree) (R R' : Str), (∀ x ∈ l, InjAt x ∧ goodT x = true ∧ stampT x = false) → (∀ x ∈ l', goodT x = true ∧ stampT x = false) →
    printL false l d' ++ (lineL d ++ z :: R) = printL false l' d' ++ (lineL d ++ z :: R') → l = l' ∧ R = R'
  | [], [], R, R', _, _, h => by
    rw [printL, List.nil_append, List.nil_append] at h
    have := List.append_cancel_left h
    exact ⟨rfl, (List.cons.inj this).2⟩
  | [], y :: l', R, R', _, _, h => by
    rw [printL, printL, List.nil_append, if_neg (by simp)] at h
    exact absurd h (line_44 d z hz R _)
  | x :: l, [], R, R', _, _, h => by
    rw [printL, printL, List.nil_append, if_neg (by simp)] at h
    exact absurd h.symm (line_44 d z hz R' _)
  | x :: l, y :: l', R, R', hl, hl', h => by
    rw [printL, printL, if_neg (by simp)] at h
    simp only [List.append_assoc] at h
    have h := List.append_cancel_left (List.append_cancel_left h)
    obtain ⟨hx, hg, hs⟩ := hl x (by simp)
    obtain ⟨hg', hs'⟩ := hl' y (by simp)
    obtain ⟨rfl, h2⟩ := hx y d' _ _ hg hg' hs hs' (tail_L d' d z hz R l) (tail_L d' d z hz R' l') h
    obtain ⟨rfl, rfl⟩ := injL d' d z hz l l' R R' (fun x hx => hl x (by simp [hx])) (fun x hx => hl' x (by simp [hx])) h2
    exact ⟨rfl, rfl⟩
theorem injM (d' d : Int) (z : UInt8) (hz : z = 93 ∨ z = 125) : ∀ (l l' : List (Str × Tree)) (R R' : Str), (∀ x ∈ l, InjAt x.2 ∧ strOk x.1 = true ∧ goodT x.2 = true ∧ stampT x.2 = false) → (∀ x ∈ l', strOk x.1 = true ∧ goodT x.2 = true ∧ stampT x.2 = false) →
    printM false l d' ++ (lineL d ++ z :: R) = printM false l' d' ++ (lineL d ++ z :: R') → l = l' ∧ R = R'
  | [], [], R, R', _, _, h => by
    rw [printM, List.nil_append, List.nil_append] at h
    have := List.append_cancel_left h
    exact ⟨rfl, (List.cons.inj this).2⟩
  | [], y :: l', R, R', _, _, h => by
    rw [printM, printM, List.nil_append, if_neg (by simp)] at h
    exact absurd h (line_44 d z hz R _)
  | x :: l, [], R, R', _, _, h => by
    rw [printM, printM, List.nil_append, if_neg (by simp)] at h
    exact absurd h.symm (line_44 d z hz R' _)
  | (k, x) :: l, (k', y) :: l', R, R', hl, hl', h => by
    rw [printM, printM, printP, printP, if_neg (by simp)] at h
    simp only [List.append_assoc] at h
    have h := List.append_cancel_left (List.append_cancel_left h)
    obtain ⟨hx, hk, hg, hs⟩ := hl (k, x) (by simp)
    obtain ⟨hk', hg', hs'⟩ := hl' (k', y) (by simp)
    simp only [] at hx hk hg hs hk' hg' hs'
    obtain ⟨rfl, h1⟩ := quoteS_inj hk hk' h
    obtain ⟨rfl, h2⟩ := hx y d' _ _ hg hg' hs hs' (tail_M d' d z hz R l) (tail_M d' d z hz R' l') (List.append_cancel_left h1)
    obtain ⟨rfl, rfl⟩ := injM d' d z hz l l' R R' (fun x hx => hl x (by simp [hx])) (fun x hx => hl' x (by simp [hx])) h2
    exact ⟨rfl, rfl⟩
theorem open_ne (d' : Int) (X Y : Str) (z : UInt8) (hz : z = 93 ∨ z = 125) (hX : ∃ a y, X = a :: y ∧ cls a ≤ 6) : lineL d' ++ X ≠ z :: Y := by
  obtain ⟨a, y, rfl, ha⟩ := hX
  intro h
  have hc : cls z = 9 := by rcases hz with rfl | rfl <;> decide
  rcases line_head d' a y with h2 | ⟨y', h2⟩
  · rw [h2] at h
    have := (List.cons.inj h).1
    subst this
    omega
  · rw [h2] at h
    have := (List.cons.inj h).1
    subst this
    rcases hz with h3 | h3 <;> revert h3 <;> decide
theorem kindC_le {t : Tree} (hg : goodT t = true) (hs : stampT t = false) : kindC t.kind ≤ 6 := by
  unfold kindC
  rcases good_kinds hg hs with hk | ⟨hk, _⟩ | hk | ⟨hk, _⟩ | ⟨hk, _⟩ | hk | hk <;> rw [hk] <;> decide
theorem inj_tree : ∀ t : Tree, InjAt t := by
  refine Tree.ind fun t hl hm u d R R' hg hg' hs hs' hR hR' h => ?_
  obtain ⟨a, y, e1, c1⟩ := head_cls hg hs d
  obtain ⟨a', y', e2, c2⟩ := head_cls hg' hs' d
  have hc : kindC t.kind = kindC u.kind := by
    rw [e1, e2] at h
    have := (List.cons.inj h).1
    subst this
    rw [← c1, ← c2]
  clear e1 e2 c1 c2
  obtain ⟨o1, _, r1, gl1, gm1⟩ := goodT_spec hg
  obtain ⟨o2, _, r2, gl2, gm2⟩ := goodT_spec hg'
  obtain ⟨fn1, fs1, fl1, fm1⟩ := own_fields o1
  obtain ⟨fn2, fs2, fl2, fm2⟩ := own_fields o2
  obtain ⟨_, sl1, sm1⟩ := stampT_spec hs
  obtain ⟨_, sl2, sm2⟩ := stampT_spec hs'
  have k1 := good_kinds hg hs
  have k2 := good_kinds hg' hs'
  unfold kindC at hc
  -- a number's text
  have num : ∀ {v : Tree} {x : Str}, (v.kind = 2 ∧ x = Lib.itoa v.n) ∨ (v.kind = 3 ∧ x = v.s ∧ numL v.s = true) → Nc x := by
    rintro v x (⟨_, rfl⟩ | ⟨_, rfl, hn⟩)
    · exact nc_itoa _
    · exact nc_num hn
  rcases k1 with hk | ⟨hk, hn⟩ | hk | ⟨hk, hn, hi⟩ | ⟨hk, hn⟩ | hk | hk
  · have hu : u.kind = 0 := by rw [hk] at hc; split at hc <;> split at hc <;> omega
    rw [p0 hk, p0 hu] at h
    exact ⟨Tree.ext' (by omega) (by rw [fn1 (by omega) (by omega), fn2 (by omega) (by omega)]) (by rw [fs1 (by omega) (by omega) (by omega), fs2 (by omega) (by omega) (by omega)]) (by rw [fl1 (by omega), fl2 (by omega)]) (by rw [fm1 (by omega), fm2 (by omega)]), List.append_cancel_left h⟩
  · have hu : u.kind = 1 := by rw [hk] at hc; split at hc <;> split at hc <;> omega
    have hnu : u.n = 0 ∨ u.n = 1 := by
      rcases k2 with q | q | q | q | q | q | q <;> omega
    rw [p1 hk, p1 hu] at h
    have hh : t.n = u.n ∧ R = R' := by
      rcases hn with hn | hn <;> rcases hnu with hnu | hnu <;> rw [hn, hnu] at h ⊢
      · exact ⟨rfl, List.append_cancel_left h⟩
      · exact absurd (List.cons.inj (h : (102 : UInt8) :: _ = 116 :: _)).1 (by decide)
      · exact absurd (List.cons.inj (h : (116 : UInt8) :: _ = 102 :: _)).1 (by decide)
      · exact ⟨rfl, List.append_cancel_left h⟩
    exact ⟨Tree.ext' (by omega) hh.1 (by rw [fs1 (by omega) (by omega) (by omega), fs2 (by omega) (by omega) (by omega)]) (by rw [fl1 (by omega), fl2 (by omega)]) (by rw [fm1 (by omega), fm2 (by omega)]), hh.2⟩
  · have hu : u.kind = 2 ∨ u.kind = 3 := by rw [hk] at hc; split at hc <;> split at hc <;> omega
    rw [p2 hk] at h
    rcases hu with hu | hu
    · rw [p2 hu] at h
      obtain ⟨h1, h2⟩ := num_split (nc_itoa _) (nc_itoa _) hR hR' h
      exact ⟨Tree.ext' (by omega) (itoa_inj r1 r2 h1) (by rw [fs1 (by omega) (by omega) (by omega), fs2 (by omega) (by omega) (by omega)]) (by rw [fl1 (by omega), fl2 (by omega)]) (by rw [fm1 (by omega), fm2 (by omega)]), h2⟩
    · obtain ⟨hnu, hiu⟩ : numL u.s = true ∧ (refIntL u.s).2 = false := by
        rcases k2 with q | q | q | q | q | q | q <;> first | omega | exact q.2
      rw [p3 hu] at h
      obtain ⟨h1, h2⟩ := num_split (nc_itoa _) (nc_num hnu) hR hR' h
      rw [← h1] at hnu hiu
      rw [refInt_itoa r1 hnu] at hiu
      cases hiu
  · have hu : u.kind = 2 ∨ u.kind = 3 := by rw [hk] at hc; split at hc <;> split at hc <;> omega
    rw [p3 hk] at h
    rcases hu with hu | hu
    · rw [p2 hu] at h
      obtain ⟨h1, h2⟩ := num_split (nc_num hn) (nc_itoa _) hR hR' h
      rw [h1] at hn hi
      rw [refInt_itoa r2 hn] at hi
      cases hi
    · have hnu : numL u.s = true := by
        rcases k2 with q | q | q | q | q | q | q <;> first | omega | exact q.2.1
      rw [p3 hu] at h
      obtain ⟨h1, h2⟩ := num_split (nc_num hn) (nc_num hnu) hR hR' h
      exact ⟨Tree.ext' (by omega) (by rw [fn1 (by omega) (by omega), fn2 (by omega) (by omega)]) h1 (by rw [fl1 (by omega), fl2 (by omega)]) (by rw [fm1 (by omega), fm2 (by omega)]), h2⟩
  · have hu : u.kind = 4 := by rw [hk] at hc; split at hc <;> split at hc <;> omega
    have hnu : strOk u.s = true := by
      rcases k2 with q | q | q | q | q | q | q <;> first | omega | exact q.2
    rw [p4 hk, p4 hu] at h
    obtain ⟨h1, h2⟩ := quoteS_inj hn hnu h
    exact ⟨Tree.ext' (by omega) (by rw [fn1 (by omega) (by omega), fn2 (by omega) (by omega)]) h1 (by rw [fl1 (by omega), fl2 (by omega)]) (by rw [fm1 (by omega), fm2 (by omega)]), h2⟩
  · have hu : u.kind = 5 := by rw [hk] at hc; split at hc <;> split at hc <;> omega
    have hh : t.l = u.l ∧ R = R' := by
      rw [p5 hk, p5 hu] at h
      have ht : ∀ x ∈ t.l, InjAt x ∧ goodT x = true ∧ stampT x = false := fun x hx => ⟨hl x hx, gl1 x hx, sl1 x hx⟩
      have hu : ∀ x ∈ u.l, goodT x = true ∧ stampT x = false := fun x hx => ⟨gl2 x hx, sl2 x hx⟩
      generalize t.l = lt at *
      generalize u.l = lu at *
      cases lt with
      | nil =>
        cases lu with
        | nil => exact ⟨rfl, List.append_cancel_left h⟩
        | cons x l' =>
          rw [if_pos List.length_nil, if_neg (by simp), printL, if_pos rfl, List.nil_append] at h
          simp only [List.cons_append, List.append_assoc, List.nil_append] at h
          have h := (List.cons.inj h).2
          obtain ⟨a, y, e, c⟩ := head_cls (hu x (by simp)).1 (hu x (by simp)).2 (deeper d)
          exact absurd h.symm (open_ne _ _ _ 93 (by decide) ⟨a, y ++ _, by rw [e]; rfl, by have := kindC_le (hu x (by simp)).1 (hu x (by simp)).2; omega⟩)
      | cons x l =>
        cases lu with
        | nil =>
          rw [if_neg (by simp), if_pos List.length_nil, printL, if_pos rfl, List.nil_append] at h
          simp only [List.cons_append, List.append_assoc, List.nil_append] at h
          have h := (List.cons.inj h).2
          obtain ⟨a, y, e, c⟩ := head_cls (ht x (by simp)).2.1 (ht x (by simp)).2.2 (deeper d)
          exact absurd h (open_ne _ _ _ 93 (by decide) ⟨a, y ++ _, by rw [e]; rfl, by have := kindC_le (ht x (by simp)).2.1 (ht x (by simp)).2.2; omega⟩)
        | cons x' l' =>
          rw [if_neg (by simp), if_neg (by simp), printL, printL, if_pos rfl, List.nil_append] at h
          simp only [List.cons_append, List.append_assoc, List.nil_append] at h
          have h := List.append_cancel_left (List.cons.inj h).2
          obtain ⟨hx, q1, q2⟩ := ht x (by simp)
          obtain ⟨q3, q4⟩ := hu x' (by simp)
          obtain ⟨rfl, h2⟩ := hx x' (deeper d) _ _ q1 q3 q2 q4 (tail_L _ d 93 (by decide) R l) (tail_L _ d 93 (by decide) R' l') h
          obtain ⟨rfl, rfl⟩ := injL (deeper d) d 93 (by decide) l l' R R' (fun x hx => ht x (by simp [hx])) (fun x hx => hu x (by simp [hx])) h2
          exact ⟨rfl, rfl⟩
    exact ⟨Tree.ext' (by omega) (by rw [fn1 (by omega) (by omega), fn2 (by omega) (by omega)]) (by rw [fs1 (by omega) (by omega) (by omega), fs2 (by omega) (by omega) (by omega)]) hh.1 (by rw [fm1 (by omega), fm2 (by omega)]), hh.2⟩
  · have hu : u.kind = 6 := by rw [hk] at hc; split at hc <;> split at hc <;> omega
    have hh : t.m = u.m ∧ R = R' := by
      rw [p6 hk, p6 hu] at h
      have ht : ∀ x ∈ t.m, InjAt x.2 ∧ strOk x.1 = true ∧ goodT x.2 = true ∧ stampT x.2 = false := fun x hx => ⟨hm x hx, (gm1 x hx).1, (gm1 x hx).2, sm1 x hx⟩
      have hu : ∀ x ∈ u.m, strOk x.1 = true ∧ goodT x.2 = true ∧ stampT x.2 = false := fun x hx => ⟨(gm2 x hx).1, (gm2 x hx).2, sm2 x hx⟩
      generalize t.m = lt at *
      generalize u.m = lu at *
      cases lt with
      | nil =>
        cases lu with
        | nil => exact ⟨rfl, List.append_cancel_left h⟩
        | cons x l' =>
          obtain ⟨k', x⟩ := x
          rw [if_pos List.length_nil, if_neg (by simp), printM, printP, if_pos rfl, List.nil_append] at h
          simp only [List.cons_append, List.append_assoc, List.nil_append] at h
          have h := (List.cons.inj h).2
          exact absurd h.symm (open_ne _ _ _ 125 (by decide) ⟨34, _, rfl, by decide⟩)
      | cons x l =>
        obtain ⟨k, x⟩ := x
        cases lu with
        | nil =>
          rw [if_neg (by simp), if_pos List.length_nil, printM, printP, if_pos rfl, List.nil_append] at h
          simp only [List.cons_append, List.append_assoc, List.nil_append] at h
          have h := (List.cons.inj h).2
          exact absurd h (open_ne _ _ _ 125 (by decide) ⟨34, _, rfl, by decide⟩)
        | cons x' l' =>
          obtain ⟨k', x'⟩ := x'
          rw [if_neg (by simp), if_neg (by simp), printM, printM, printP, printP, if_pos rfl, List.nil_append] at h
          simp only [List.cons_append, List.append_assoc, List.nil_append] at h
          have h := List.append_cancel_left (List.cons.inj h).2
          obtain ⟨hx, q0, q1, q2⟩ := ht (k, x) (by simp)
          obtain ⟨q5, q3, q4⟩ := hu (k', x') (by simp)
          simp only [] at hx q0 q1 q2 q3 q4 q5
          obtain ⟨rfl, h1⟩ := quoteS_inj q0 q5 h
          obtain ⟨rfl, h2⟩ := hx x' (deeper d) _ _ q1 q3 q2 q4 (tail_M _ d 125 (by decide) R l) (tail_M _ d 125 (by decide) R' l') (List.append_cancel_left h1)
          obtain ⟨rfl, rfl⟩ := injM (deeper d) d 125 (by decide) l l' R R' (fun x hx => ht x (by simp [hx])) (fun x hx => hu x (by simp [hx])) h2
          exact ⟨rfl, rfl⟩
    exact ⟨Tree.ext' (by omega) (by rw [fn1 (by omega) (by omega), fn2 (by omega) (by omega)]) (by rw [fs1 (by omega) (by omega) (by omega), fs2 (by omega) (by omega) (by omega)]) (by rw [fl1 (by omega), fl2 (by omega)]) hh.1, hh.2⟩
theorem print_inj {t u : Tree} (hg : goodT t = true) (hg' : goodT u = true) (hs : stampT t = false) (hs' : stampT u = false) (d : Int) : printT t d = printT u d ↔ t = u := by
  refine ⟨fun h => ?_, fun h => by rw [h]⟩
  exact (inj_tree t u d [] [] hg hg' hs hs' (.inl rfl) (.inl rfl) (by rw [h])).1
def Tok (u : Str) (k : Int) (s : Str) (v : Str) : Prop := ∀ (t : Str) (a : Nat), a < t.length → t.drop a = u → ∃ b : Nat, wordL t a = (⟨k, s, a⟩, (b : Int), 0, 0) ∧ a < b ∧ b ≤ t.length ∧ t.drop b = v
theorem getD_drop (t : Str) (a : Nat) : t.getD a 0 = (t.drop a).getD 0 0 := by simp [List.getD, List.getElem?_drop]
theorem sign_iff : ∀ n : Nat, n < 256 → (0 ≤ firstIdx ⟨signs.toArray⟩ n.toUInt8 ↔ signs.contains n.toUInt8 = true) := by decide +kernel
theorem sign_b (c : UInt8) : 0 ≤ firstIdx ⟨signs.toArray⟩ c ↔ signs.contains c = true := by
  have := sign_iff c.toNat (UInt8.toNat_lt c)
  rwa [show c.toNat.toUInt8 = c by simp] at this
theorem drop_lt {t u v : Str} {a : Nat} (ha : a ≤ t.length) (h : t.drop a = u ++ v) : a + u.length ≤ t.length ∧ t.drop (a + u.length) = v := by
  have hl := congrArg List.length h
  rw [List.length_drop, List.length_append] at hl
  refine ⟨by omega, ?_⟩
  rw [← List.drop_drop, h, List.drop_left]
theorem tok_sign (c : UInt8) (v : Str) (hc : signs.contains c = true) : Tok (c :: v) 1 [c] v := by
  intro t a ha h
  have hg : t.getD a 0 = c := by rw [getD_drop, h]; rfl
  obtain ⟨h1, h2⟩ := drop_lt (u := [c]) (v := v) (by omega) h
  refine ⟨a + 1, ?_, by omega, h1, h2⟩
  unfold wordL
  rw [if_pos (by rw [hg]; exact (sign_b c).2 hc), h]
  rfl
theorem takeL_app : ∀ (q : Nat) (s R : Str) (r x : Int), takeL q s r = some x → takeL q (s ++ R) r = some x
  | 0, _, _, _, _, h => h
  | q + 1, [], _, _, _, h => by simp [takeL] at h
  | q + 1, b :: s, R, r, x, h => by
    rw [takeL] at h
    rw [List.cons_append, takeL]
    split at h
    · rename_i hc; rw [if_pos hc]; exact takeL_app q s R _ x h
    · cases h
theorem utfTake_app {s : Str} (R : Str) (h : (utfTake s).2 ≠ 0) : utfTake (s ++ R) = utfTake s := by
  cases s with
  | nil => exact absurd rfl h
  | cons c cs =>
    unfold utfTake at h ⊢
    simp only [List.cons_append] at h ⊢
    split at h
    · exact absurd rfl h
    · rename_i h1
      rw [if_neg (by simp only [List.length_cons, List.length_append] at h1 ⊢; omega), if_neg h1]
      split at h
      · exact absurd rfl h
      · rename_i r h2
        rw [takeL_app _ _ R _ _ h2]
theorem small_good : ∀ k : Nat, k < 128 → utfGood (k : Int) = true ∧ utfEnc (k : Int) = [UInt8.ofNat k] := by decide +kernel
theorem take_low {c : UInt8} (hc : c.toNat < 128) (R : Str) : utfTake (c :: R) = ((c.toNat : Int), 1) := by
  have h2 : utfBegins c.toNat = (1, (c.toNat : Int)) := by unfold utfBegins; rw [if_pos hc]
  have h3 := (small_good c.toNat hc).1
  have h4 : utfSize (c.toNat : Int) = 1 := by unfold utfSize; rw [if_pos (by omega)]
  unfold utfTake
  simp only [h2, List.length_cons]
  rw [if_neg (by omega)]
  simp only [show Int.toNat 1 - 1 = 0 from rfl, takeL]
  rw [if_pos ⟨h3, h4⟩]
def skipB (u : Str) : Str := u.dropWhile (blanksB.contains ·)
inductive Lexes : Str → List (Int × Str) → Prop
  | nil : Lexes [] []
  | cons {u v : Str} {k : Int} {s : Str} {ws : List (Int × Str)} (h : Tok u k s v) (hne : u ≠ []) (r : Lexes (skipB v) ws) : Lexes u ((k, s) :: ws)
def kp (w : Wd) : Int × Str := (w.k, w.s)
theorem Lexes.sign (c : UInt8) {X : Str} {ws : List (Int × Str)} (h : signs.contains c = true) (r : Lexes (skipB X) ws) : Lexes (c :: X) ((1, [c]) :: ws) :=
  .cons (tok_sign c X h) (by simp) r
theorem bless_iff : ∀ (x y : Str), Op.bytesLess x y = true ↔ x < y
  | x, [] => by cases x <;> simp [Op.bytesLess]
  | [], b :: y => by simp [Op.bytesLess]
  | a :: x, b :: y => by
    have ih := bless_iff x y
    rw [List.cons_lt_cons_iff, Op.bytesLess, Bool.or_eq_true, Bool.and_eq_true, decide_eq_true_eq, beq_iff_eq, ih]
theorem leqS_iff (x y : Str) : leqS x y = true ↔ x ≤ y := by
  unfold leqS
  rw [Bool.or_eq_true, bless_iff, decide_eq_true_eq]
  constructor
  · rintro (h | rfl)
    · exact List.le_of_lt h
    · exact List.le_refl _
  · intro h
    by_cases e : x = y
    · exact .inr e
    · left
      by_cases hl : x < y
      · exact hl
      · exact absurd (List.le_antisymm h (List.not_lt.1 hl)) e
def Up (m : List (Str × Tree)) : Prop := m.Pairwise fun p q => p.1 < q.1
end Go.Am
end

section
namespace Go.Am
open Go Go.Maps Go.WideAt Go.MapKept Go.WideShapes
open Go.WideElems (Fit rd rg)
theorem keyOf_string {P : Program} {K : TypeId} (hK : P.underlying K = some .string) {s : ByteArray} (h : s.size ≤ maxLen) : keyOf P K (.string s) = some (.string s.data.toList) := by
  simp [keyOf, hK, mapKey, h]
section
variable {P : Program} {B : Nat → Prop} {L : Loc} {w : World}
theorem own_of_mp {K : TypeId} {n : Nat} {ss : List (List UInt8)} {vs : MV} (hK : P.underlying K = some .string) (h : HRel B L w n (.mp (ss.map .str) vs)) (hnd : ss.Nodup) (hlen : ss.length ≤ maxLen) (hstr : ∀ s ∈ ss, s.length ≤ maxLen) :
    ∃ D0 : DataW Unit, w.ownsMap P K (fun _ => some (.nil, [])) (L.blk n) ss.length D0 ∧ Maps.size D0 = ss.length ∧ (strKeys D0).Perm ss := by
  cases h with
  | mp _ _ ms clock hw hl hlv hk hv hn =>
    rw [List.length_map] at hl
    have hkey : ∀ (i : Nat) (e : MapEntry), ms[i]? = some e → ∃ s, ss[i]? = some s ∧ e.key = .string ⟨s.toArray⟩ ∧ e.born < clock := by
      intro i e he
      have hi : i < ms.size := (Array.getElem?_eq_some_iff.1 he).1
      have hs : ss[i]? = some ss[i] := by simp [show i < ss.length by omega]
      have := hk i (.str ss[i]) e (by rw [List.getElem?_map, hs]; rfl) he
      refine ⟨ss[i], hs, ?_, this.2⟩
      have h1 := this.1
      generalize e.key = kv at h1
      cases h1
      rfl
    have hkeys : ms.toList.map (·.key) = ss.map fun s => Value.string ⟨s.toArray⟩ := by
      apply List.ext_getElem?
      intro i
      rw [List.getElem?_map, List.getElem?_map]
      cases he : ms[i]? with
      | none =>
        have : ss[i]? = none := by
          rw [List.getElem?_eq_none_iff, hl]
          simpa using he
        simp [he, this]
      | some e =>
        obtain ⟨s, h1, h2, _⟩ := hkey i e he
        simp [he, h1, h2]
    have hrd : ∀ e ∈ ms.toList, ∃ s ∈ ss, e.key = .string ⟨s.toArray⟩ ∧ rd P K (fun _ => some ((.nil : DataW Unit), [])) e = some (.string s, .nil) := by
      intro e he
      obtain ⟨i, hi, rfl⟩ := List.getElem_of_mem he
      obtain ⟨s, h1, h2, _⟩ := hkey i ms.toList[i] (by rw [← Array.getElem?_toList, List.getElem?_eq_getElem hi])
      have hm := List.mem_of_getElem? h1
      refine ⟨s, hm, h2, ?_⟩
      have hko := keyOf_string hK (s := ⟨s.toArray⟩) (by simpa [ByteArray.size] using hstr s hm)
      unfold rd
      rw [h2, hko]
      rfl
    have hrg : ms.toList.map (rg P K fun _ => some ((.nil : DataW Unit), [])) = ss.map fun s => (Lit.string s, DataW.nil) := by
      apply List.ext_getElem?
      intro i
      rw [List.getElem?_map, List.getElem?_map]
      cases he : ms[i]? with
      | none =>
        have : ss[i]? = none := by
          rw [List.getElem?_eq_none_iff, hl]
          simpa using he
        simp [he, this]
      | some e =>
        obtain ⟨s, h1, h2, _⟩ := hkey i e he
        have hm := List.mem_of_getElem? h1
        have hko := keyOf_string hK (s := ⟨s.toArray⟩) (by simpa [ByteArray.size] using hstr s hm)
        have hr : rd P K (fun _ => some ((.nil : DataW Unit), [])) e = some (.string s, .nil) := by simp [rd, h2, hko]
        simp [he, h1, rg, hr]
    refine ⟨_, ⟨ms, clock, hw, ⟨by omega, ⟨?_, ?_, ?_⟩, ?_⟩, by omega, rfl⟩, ?_, ?_⟩
    · intro e he
      obtain ⟨i, hi, rfl⟩ := List.getElem_of_mem he
      obtain ⟨_, _, _, h3⟩ := hkey i ms.toList[i] (by rw [← Array.getElem?_toList, List.getElem?_eq_getElem hi])
      exact h3
    · refine List.pairwise_iff_getElem.2 fun i j hi hj hij e => ?_
      rw [List.length_map] at hi hj
      simp only [List.getElem_map] at e
      have := hn i j ms.toList[i] ms.toList[j] (by rw [← Array.getElem?_toList, List.getElem?_eq_getElem hi]) (by rw [← Array.getElem?_toList, List.getElem?_eq_getElem hj]) e
      omega
    · rw [hkeys]
      refine List.pairwise_map.2 (List.Pairwise.imp ?_ hnd)
      intro a b hab e
      injection e with e
      injection e with e
      exact hab (by simpa using congrArg Array.toList e)
    · intro e he
      obtain ⟨s, _, _, h⟩ := hrd e he
      exact ⟨_, h⟩
    · rw [size_eq, length_sorted, hrg, List.length_map]
    · rw [hrg]
      show ((List.foldr DataW.insert [] (ss.map fun s => (Lit.string s, DataW.nil))).map fun p => strOf p.1).Perm ss
      have := (sorted_perm (ss.map fun s => (Lit.string s, (DataW.nil : DataW Unit)))).map fun p => strOf p.1
      rw [List.map_map] at this
      simpa [Function.comp_def, strOf] using this
end
end Go.Am
end

section
namespace Go.Am
open Go
theorem insK_perm (k : Str) (x : Tree) : ∀ m : List (Str × Tree), (insK k x m).Perm ((k, x) :: m)
  | [] => List.Perm.refl _
  | p :: m => by
    rw [insK]
    split
    · exact List.Perm.refl _
    · exact ((insK_perm k x m).cons p).trans (List.Perm.swap _ _ _)
theorem sortP_perm : ∀ m : List (Str × Tree), (sortP m).Perm m
  | [] => List.Perm.refl _
  | p :: m => by
    rw [sortP]
    exact (insK_perm _ _ _).trans ((sortP_perm m).cons p)
theorem insK_pw (k : Str) (x : Tree) : ∀ {m : List (Str × Tree)}, m.Pairwise (fun p q => p.1 ≤ q.1) → (insK k x m).Pairwise (fun p q => p.1 ≤ q.1)
  | [], _ => by simp [insK]
  | p :: m, h => by
    obtain ⟨h1, h2⟩ := List.pairwise_cons.1 h
    rw [insK]
    split
    · rename_i hl
      have hl := (leqS_iff _ _).1 hl
      refine List.pairwise_cons.2 ⟨fun q hq => ?_, h⟩
      rcases List.mem_cons.1 hq with rfl | hq
      · exact hl
      · exact List.le_trans hl (h1 q hq)
    · rename_i hl
      have hl : p.1 ≤ k := by
        rw [leqS_iff] at hl
        rcases List.le_total k p.1 with h | h
        · exact absurd h hl
        · exact h
      refine List.pairwise_cons.2 ⟨fun q hq => ?_, insK_pw k x h2⟩
      rcases List.mem_cons.1 ((insK_perm k x m).mem_iff.1 hq) with rfl | hq
      · exact hl
      · exact h1 q hq
theorem sortP_pw : ∀ m : List (Str × Tree), (sortP m).Pairwise (fun p q => p.1 ≤ q.1)
  | [] => List.Pairwise.nil
  | p :: m => insK_pw _ _ (sortP_pw m)
theorem sortP_len (m : List (Str × Tree)) : (sortP m).length = m.length := (sortP_perm m).length_eq
theorem sorted_keys_eq {m : List (Str × Tree)} {ss : List Str} (h : ss.Perm (m.map (·.1))) : ss.mergeSort (fun x y => decide (x ≤ y)) = (sortP m).map (·.1) := by
  have tr : ∀ a b c : List UInt8, decide (a ≤ b) = true → decide (b ≤ c) = true → decide (a ≤ c) = true := fun a b c h1 h2 => by simp only [decide_eq_true_eq] at *; exact List.le_trans h1 h2
  have htot : ∀ a b : List UInt8, (decide (a ≤ b) || decide (b ≤ a)) = true := fun a b => by simp only [Bool.or_eq_true, decide_eq_true_eq]; exact List.le_total a b
  refine List.Perm.eq_of_pairwise (le := fun a b => a ≤ b) (fun a b _ _ h1 h2 => List.le_antisymm h1 h2) ?_ ?_ ?_
  · exact (List.pairwise_mergeSort tr htot ss).imp fun h => by simpa using h
  · exact List.pairwise_map.2 (sortP_pw m)
  · exact ((List.mergeSort_perm ss _).trans h).trans ((sortP_perm m).map _).symm
theorem keyAt_map {ss : List Str} {k : Str} : ∀ {i : Nat}, ss.Nodup → ss[i]? = some k → keyAt (.str k) (ss.map .str) = some i := by
  intro i hnd hi
  unfold keyAt
  have hlt := (List.getElem?_eq_some_iff.1 hi).1
  refine List.findIdx?_eq_some_iff_getElem.2 ⟨by simpa using hlt, ?_, fun j hj => ?_⟩
  · simp [keyB, (List.getElem?_eq_some_iff.1 hi).2]
  · have : ss[j] ≠ k := by
      rw [← (List.getElem?_eq_some_iff.1 hi).2]
      exact List.pairwise_iff_getElem.1 hnd j i (by omega) hlt hj
    simp [keyB, Ne.symm this]
theorem keyAt_none {ss : List Str} {k : Str} (h : ¬ k ∈ ss) : keyAt (.str k) (ss.map .str) = none := by
  unfold keyAt
  rw [List.findIdx?_eq_none_iff]
  intro x hx
  obtain ⟨s, hs, rfl⟩ := List.mem_map.1 hx
  simp only [keyB, decide_eq_false_iff_not]
  exact fun e => h (e ▸ hs)
theorem hasK_mem (m : List (Str × Tree)) (k : Str) : hasK m k = true ↔ k ∈ m.map (·.1) := by
  unfold hasK
  rw [List.any_eq_true, List.mem_map]
  simp
end Go.Am
end

section
namespace Go.Proofs
open Go.RowKit Go.Maps Go.Sort Go.Shelf
def Tryz.keys129_ren : Go.Shelf.Ren := ⟨fun | 7 => 129 | 10 => 156 | n => n, fun | 23 => 133 | 26 => 9 | 3 => 27 | 28 => 156 | 0 => 0 | 27 => 155 | 33 => 42 | 4 => 4 | n => n, fun | n => n⟩
theorem Tryz.keys129 : Go.Proofs.SlLaysZ.n7 Tryz.prog Tryz.keys129_ren := {
  mixed := by kernel_rfl
  f7 := ⟨Tryz.f129.name, by decide, Tryz.func129.trans (congrArg some (by kernel_rfl))⟩
  f10 := ⟨Tryz.f156.name, by decide, Tryz.func156.trans (congrArg some (by kernel_rfl))⟩
  t0 := Tryz.underlying0
  a0 := Tryz.isAgg0
  z0 := Tryz.sizeOf0
  v0 := Tryz.zeroValue0
  t4 := Tryz.underlying4
  a4 := Tryz.isAgg4
  z4 := Tryz.sizeOf4
  v4 := Tryz.zeroValue4
  t23 := Tryz.underlying133
  a23 := Tryz.isAgg133
  z23 := Tryz.sizeOf133
  v23 := Tryz.zeroValue133
  t26 := Tryz.underlying9
  a26 := Tryz.isAgg9
  z26 := Tryz.sizeOf9
  v26 := Tryz.zeroValue9
  t27 := Tryz.underlying155
  a27 := Tryz.isAgg155
  z27 := Tryz.sizeOf155
  v27 := Tryz.zeroValue155
  t28 := Tryz.underlying156
  a28 := Tryz.isAgg156
  z28 := Tryz.sizeOf156
  v28 := Tryz.zeroValue156
  t33 := Tryz.underlying42
  a33 := Tryz.isAgg42
  z33 := Tryz.sizeOf42
  v33 := Tryz.zeroValue42 }
def Tryz.sorted128_ren : Go.Shelf.Ren := ⟨fun | 6 => 128 | 8 => 154 | 9 => 155 | 11 => 179 | 13 => 181 | 12 => 180 | 23 => 197 | 24 => 159 | 14 => 188 | 15 => 189 | 16 => 190 | 17 => 191 | 18 => 192 | 19 => 193 | 20 => 194 | 21 => 195 | 22 => 196 | 25 => 199 | 26 => 200 | 27 => 201 | 28 => 202 | 29 => 203 | 30 => 204 | 31 => 205 | n => n, fun | 26 => 9 | 28 => 156 | 24 => 153 | 0 => 0 | 3 => 3 | 37 => 106 | 48 => 181 | 50 => 160 | 4 => 4 | 40 => 207 | 39 => 206 | 45 => 107 | 5 => 5 | 9 => 9 | 51 => 214 | 55 => 218 | 57 => 220 | 58 => 57 | 33 => 42 | n => n, fun | n => n⟩
theorem Tryz.sorted128 : Go.Proofs.SlLaysZ.n6 Tryz.prog Tryz.sorted128_ren := {
  mixed := by kernel_rfl
  f6 := ⟨Tryz.f128.name, by decide, Tryz.func128.trans (congrArg some (by kernel_rfl))⟩
  f8 := ⟨Tryz.f154.name, by decide, Tryz.func154.trans (congrArg some (by kernel_rfl))⟩
  f11 := ⟨Tryz.f179.name, by decide, Tryz.func179.trans (congrArg some (by kernel_rfl))⟩
  t0 := Tryz.underlying0
  a0 := Tryz.isAgg0
  z0 := Tryz.sizeOf0
  v0 := Tryz.zeroValue0
  t24 := Tryz.underlying153
  a24 := Tryz.isAgg153
  z24 := Tryz.sizeOf153
  v24 := Tryz.zeroValue153
  t26 := Tryz.underlying9
  a26 := Tryz.isAgg9
  z26 := Tryz.sizeOf9
  v26 := Tryz.zeroValue9
  t28 := Tryz.underlying156
  a28 := Tryz.isAgg156
  z28 := Tryz.sizeOf156
  v28 := Tryz.zeroValue156
  i26 := by kernel_rfl }
def Tryz.sort155_ren : Go.Shelf.Ren := ⟨fun | 6 => 155 | 8 => 181 | 9 => 180 | 19 => 197 | 20 => 159 | 21 => 188 | 22 => 189 | 23 => 190 | 24 => 191 | 25 => 192 | 26 => 193 | 27 => 194 | 28 => 195 | 29 => 196 | 36 => 199 | 31 => 200 | 32 => 201 | 37 => 202 | 38 => 203 | 39 => 204 | 41 => 205 | n => n, fun | 27 => 153 | 29 => 9 | 3 => 3 | 32 => 106 | 26 => 153 | 0 => 0 | 44 => 181 | 46 => 160 | 4 => 4 | 36 => 207 | 35 => 206 | 41 => 107 | 5 => 5 | 9 => 9 | 53 => 214 | 57 => 218 | 63 => 220 | 64 => 57 | n => n, fun | n => n⟩
theorem Tryz.sort155 : Go.Proofs.SlLaysM.n6 Tryz.prog Tryz.sort155_ren := {
  mixed := by kernel_rfl
  f6 := ⟨Tryz.f155.name, by decide, Tryz.func155.trans (congrArg some (by kernel_rfl))⟩
  f8 := Tryz.func181.trans (congrArg some (by kernel_rfl))
  f9 := ⟨Tryz.f180.name, by decide, Tryz.func180.trans (congrArg some (by kernel_rfl))⟩
  f19 := Tryz.func197.trans (congrArg some (by kernel_rfl))
  f20 := Tryz.func159.trans (congrArg some (by kernel_rfl))
  f21 := ⟨Tryz.f188.name, by decide, Tryz.func188.trans (congrArg some (by kernel_rfl))⟩
  f22 := ⟨Tryz.f189.name, by decide, Tryz.func189.trans (congrArg some (by kernel_rfl))⟩
  f23 := ⟨Tryz.f190.name, by decide, Tryz.func190.trans (congrArg some (by kernel_rfl))⟩
  f24 := ⟨Tryz.f191.name, by decide, Tryz.func191.trans (congrArg some (by kernel_rfl))⟩
  f25 := ⟨Tryz.f192.name, by decide, Tryz.func192.trans (congrArg some (by kernel_rfl))⟩
  f26 := ⟨Tryz.f193.name, by decide, Tryz.func193.trans (congrArg some (by kernel_rfl))⟩
  f27 := ⟨Tryz.f194.name, by decide, Tryz.func194.trans (congrArg some (by kernel_rfl))⟩
  f28 := ⟨Tryz.f195.name, by decide, Tryz.func195.trans (congrArg some (by kernel_rfl))⟩
  f29 := ⟨Tryz.f196.name, by decide, Tryz.func196.trans (congrArg some (by kernel_rfl))⟩
  f31 := Tryz.func200.trans (congrArg some (by kernel_rfl))
  f32 := Tryz.func201.trans (congrArg some (by kernel_rfl))
  f36 := ⟨Tryz.f199.name, by decide, Tryz.func199.trans (congrArg some (by kernel_rfl))⟩
  f37 := ⟨Tryz.f202.name, by decide, Tryz.func202.trans (congrArg some (by kernel_rfl))⟩
  f38 := ⟨Tryz.f203.name, by decide, Tryz.func203.trans (congrArg some (by kernel_rfl))⟩
  f39 := ⟨Tryz.f204.name, by decide, Tryz.func204.trans (congrArg some (by kernel_rfl))⟩
  f41 := ⟨Tryz.f205.name, by decide, Tryz.func205.trans (congrArg some (by kernel_rfl))⟩
  t0 := Tryz.underlying0
  a0 := Tryz.isAgg0
  z0 := Tryz.sizeOf0
  v0 := Tryz.zeroValue0
  t3 := Tryz.underlying3
  a3 := Tryz.isAgg3
  z3 := Tryz.sizeOf3
  v3 := Tryz.zeroValue3
  t4 := Tryz.underlying4
  a4 := Tryz.isAgg4
  z4 := Tryz.sizeOf4
  v4 := Tryz.zeroValue4
  t5 := Tryz.underlying5
  a5 := Tryz.isAgg5
  z5 := Tryz.sizeOf5
  v5 := Tryz.zeroValue5
  t9 := Tryz.underlying9
  a9 := Tryz.isAgg9
  z9 := Tryz.sizeOf9
  v9 := Tryz.zeroValue9
  t26 := Tryz.underlying153
  a26 := Tryz.isAgg153
  z26 := Tryz.sizeOf153
  v26 := Tryz.zeroValue153
  t27 := Tryz.underlying153
  a27 := Tryz.isAgg153
  z27 := Tryz.sizeOf153
  v27 := Tryz.zeroValue153
  t29 := Tryz.underlying9
  a29 := Tryz.isAgg9
  z29 := Tryz.sizeOf9
  v29 := Tryz.zeroValue9
  t32 := Tryz.underlying106
  a32 := Tryz.isAgg106
  z32 := Tryz.sizeOf106
  v32 := Tryz.zeroValue106
  t35 := Tryz.underlying206
  a35 := Tryz.isAgg206
  z35 := Tryz.sizeOf206
  v35 := Tryz.zeroValue206
  t36 := Tryz.underlying207
  a36 := Tryz.isAgg207
  z36 := Tryz.sizeOf207
  v36 := Tryz.zeroValue207
  t41 := Tryz.underlying107
  a41 := Tryz.isAgg107
  z41 := Tryz.sizeOf107
  v41 := Tryz.zeroValue107
  t44 := Tryz.underlying181
  a44 := Tryz.isAgg181
  z44 := Tryz.sizeOf181
  v44 := Tryz.zeroValue181
  t46 := Tryz.underlying160
  a46 := Tryz.isAgg160
  z46 := Tryz.sizeOf160
  v46 := Tryz.zeroValue160
  t53 := Tryz.underlying214
  a53 := Tryz.isAgg214
  z53 := Tryz.sizeOf214
  v53 := Tryz.zeroValue214
  t57 := Tryz.underlying218
  a57 := Tryz.isAgg218
  z57 := Tryz.sizeOf218
  v57 := Tryz.zeroValue218
  t63 := Tryz.underlying220
  a63 := Tryz.isAgg220
  z63 := Tryz.sizeOf220
  v63 := Tryz.zeroValue220
  t64 := Tryz.underlying57
  a64 := Tryz.isAgg57
  z64 := Tryz.sizeOf57
  v64 := Tryz.zeroValue57 }
theorem Tryz.sorts128 (m : Nat) : AnyZ.SortsIn Tryz.prog Tryz.sorted128_ren Fence.wide m :=
  ⟨fun blk off cap ss W hH hblk hsz => callsIn_wide.2 (AnyM.slices_Sort_string Tryz.sort155 blk off cap ss W hH hblk hsz),
   fun p cap W => callsIn_wide.2 (AnyM.slices_Sort_string_none Tryz.sort155 p cap W)⟩
theorem Tryz.sorted_keys {H : Type} (Bm b nn : Nat) (D0 : DataW H) (R : Value → Option (DataW H × List MemPlace)) (w : World) (hBm : Bm < w.heap.size) (hm : w.cell? ⟨Bm, 0, none⟩ = some (.map (some b)))
    (hown : w.ownsMap Tryz.prog 9 R b nn D0) (hmax : Maps.size D0 ≤ maxLen) (hbytes : Maps.size D0 * 16 ≤ 140737488355328) :
    Calls Tryz.prog 128 #[.func (.func 156) #[] #[.pointer (some ⟨Bm, 0, none⟩)]] w fun e w' => ∃ (v : Value) (ss : List (List UInt8)), e = .returned v ∧ ss.Perm (strKeys D0) ∧
      w'.ownsRow w.heap.size 9 1 v ss.length ((ss.mergeSort (fun x y => decide (x ≤ y))).map encStr) ∧ (v = .slice none 0 0 ↔ ss = []) ∧ Below w.heap.size w w' := by
  have hseq : SeqGives Fence.wide 2 Tryz.prog 156 #[.pointer (some ⟨Bm, 0, none⟩)] encStr (fun ss => ss.Perm (strKeys D0)) (Maps.size D0) w :=
    AnyZ.keys_gives (ρ := Tryz.keys129_ren) { Tryz.keys129 with } Fence.wide _ trivial rfl (by omega) Bm b nn D0 _ hBm hm hown
  exact (callsIn_wide (n := 5)).1 (AnyZ.sorted_in Tryz.sorted128 Fence.wide 5 trivial trivial trivial trivial rfl (by omega) (Tryz.sorts128 _) (enters_of Tryz.func155 (by kernel_rfl) rfl) 156 #[.pointer (some ⟨Bm, 0, none⟩)] trivial (enters_of Tryz.func156 (by kernel_rfl) rfl) _ _ hmax hbytes _ hseq)
end Go.Proofs
end

section
namespace Go.Proofs.YtaoejccgdpppgaaGreatDoor
open Go Go.Am Go.RowKit
set_option maxRecDepth 100000
def mpO (m : List (Str × Tree)) : HO := .mp ((m.map (·.1)).map .str) (.pure (m.map fun p => p.2.enc))
theorem maps_Keys (ks : List PV) (l : List PV) : AbsCall PP GG F.maps_Keys_map_string_api_Value_string_api_Value [.mapr 0] [.mp ks (.pure l)] ⟨.ret (.func (.func F.maps_Keys_map_string_api_Value_string_api_Value_1) [.ptr 1 0]), [.mp ks (.pure l), .var T.map_string_api_Value (.mapr 0)], []⟩ := by
  refine absCall_of (pol := polG) mixP F.maps_Keys_map_string_api_Value_string_api_Value_is ?_
  conv => whnf
  exact CLe.refl _
theorem key_str : PP.underlying T.string = some .string := by kernel_rfl
theorem row_strs {B : Nat → Prop} {w : World} {base : Nat} {v : Value} {n : Nat} {ss : List Str} (hB : ∀ b, B b → b < base) (h : w.ownsRow base T.string 1 v n (ss.map Go.Proofs.encStr)) : PRel B w (.lst false (ss.map .str)) v := by
  obtain ⟨h1, h2⟩ := h
  rw [List.length_map] at h1
  rcases h2 with ⟨rfl, h3⟩ | ⟨g, cap, cur, rfl, hg, hw, hn, hc, hz, ht⟩
  · obtain rfl : ss = [] := List.eq_nil_of_length_eq_zero (by omega)
    exact .lst0 false none 0 (fun h => by cases h)
  · have hn' : n = (ss.map PV.str).length := by rw [List.length_map]; omega
    subst hn'
    have hfl := flat_strs ss
    have hgt : g < w.heap.size := (Array.getElem?_eq_some_iff.1 hw).1
    refine .lst false (ss.map .str) g 0 cap 1 (fun k => cur.getD k undef) (fun hb => by have := hB g hb; omega) hgt (Nat.le_refl _) ?_ ?_ hn (fun h => by cases h) ?_ ?_
    · intro x hx; obtain ⟨s, _, rfl⟩ := List.mem_map.1 hx; rfl
    · rw [hfl]; intro x hx; obtain ⟨s, _, rfl⟩ := List.mem_map.1 hx; rfl
    · intro k hk
      rw [hfl] at hk
      have hlt : k < cur.size := by omega
      simp [World.cell?, hw, hlt]
    · intro k x hx
      rw [hfl, List.getElem?_map] at hx
      obtain ⟨s, hs, rfl⟩ := Option.map_eq_some_iff.1 hx
      have hk : k < ss.length := (List.getElem?_eq_some_iff.1 hs).1
      have := congrArg (·[k]?) ht
      simp only [List.getElem?_map, hs, Option.map_some] at this
      rw [List.getElem?_take, if_pos (by rw [List.length_map]; omega), Array.getElem?_toList] at this
      have hlt : k < cur.size := by rw [List.length_map] at hn; omega
      rw [show cur.getD k undef = Go.Proofs.encStr s by simp [Array.getD, hlt] at this ⊢; exact this]
      exact .str s
theorem slices_Sorted (m : List (Str × Tree)) (hnd : (m.map (·.1)).Nodup) (hlen : m.length ≤ 1048576) (hstr : ∀ p ∈ m, p.1.length ≤ 1048576) :
    AbsCall PP GG F.slices_Sorted_string [.func (.func F.maps_Keys_map_string_api_Value_string_api_Value_1) [.ptr 0 0]] [.var T.map_string_api_Value (.mapr 1), mpO m] ⟨.ret (.p (.lst false (((sortP m).map (·.1)).map .str))), [.var T.map_string_api_Value (.mapr 1), mpO m], []⟩ := by
  refine absBelow fun B L w vs hst ha hg => ?_
  obtain ⟨v, rfl, hv⟩ := vrel1 ha
  have hr0 := hst.rel 0
  have hr1 := hst.rel 1
  have ho0 := hst.own 0 trivial
  obtain ⟨D0, hown, hsz, hperm⟩ := own_of_mp (P := PP) (K := T.string) key_str (show HRel B L w 1 (.mp ((m.map (·.1)).map .str) (.pure (m.map fun p => p.2.enc))) from hr1) hnd (by rw [List.length_map]; exact Nat.le_trans hlen (by decide)) (by
    intro s hs
    obtain ⟨p, hp, rfl⟩ := List.mem_map.1 hs
    exact Nat.le_trans (hstr p hp) (by decide))
  rw [List.length_map] at hsz
  have hcell : w.cell? ⟨L.blk 0, 0, none⟩ = some (.map (some (L.blk 1))) := by
    cases (show HRel B L w 0 (.var T.map_string_api_Value (.mapr 1)) from hr0) with
    | var _ c t fr hw hfr hl h =>
      have hc : c.size = 1 := hl.symm
      have h0 := h 0 (.mapr 1) c[0] rfl (by simp [hc])
      generalize hx : c[0] = x at h0
      cases h0
      simp [World.cell?, hw, hc, hx]
  have hv' : v = .func (.func F.maps_Keys_map_string_api_Value_string_api_Value_1) #[] #[.pointer (some ⟨L.blk 0, 0, none⟩)] := by
    cases hv with
    | func f l c hl h =>
      rcases c with _ | ⟨a, _ | ⟨b, c⟩⟩
      · simp at hl
      · have := h 0 _ a rfl rfl
        cases this
        rfl
      · simp at hl
  subst hv'
  refine CallTo.of_calls Tryz.func128 (by kernel_rfl) rfl ((Tryz.sorted_keys (L.blk 0) (L.blk 1) _ D0 _ w ho0.2 hcell hown (by rw [hsz]; exact Nat.le_trans hlen (by decide)) (by rw [hsz]; omega)).mono ?_)
  rintro e w' ⟨x, ss, rfl, hp, hrow, _, hb⟩
  refine ⟨hb, x, rfl, .p _ _ ?_⟩
  rw [sorted_keys_eq (hp.trans hperm)] at hrow
  exact row_strs (base := w.heap.size) hst.bnd hrow
theorem keys_ok (k : Str) (ss : List Str) : keysOk PP T.string (.str k) (ss.map .str) := by
  have h : ∀ s : Str, keyIs PP T.string (.str s) = true := fun s => by simp only [keyIs, key_str]
  refine ⟨h k, List.all_eq_true.2 fun x hx => ?_⟩
  obtain ⟨s, _, rfl⟩ := List.mem_map.1 hx
  exact h s
theorem get_mp {m : List (Str × Tree)} (hnd : (m.map (·.1)).Nodup) {p : Str × Tree} (hp : p ∈ m) : getM (.str p.1) ((m.map (·.1)).map .str) (.pure (m.map fun p => p.2.enc)) = some (.p p.2.enc) := by
  obtain ⟨i, hi⟩ := List.getElem?_of_mem hp
  unfold getM
  rw [keyAt_map (i := i) hnd (by rw [List.getElem?_map, hi]; rfl)]
  simp only [MV.toL, Option.bind_some, List.getElem?_map, hi]
  rfl
def mpV (n m : Nat) : V := .agg [.p (.int .i64 6), .p (.int .i64 0), .p (.str []), .p .nils, .sl n 0 m]
theorem mpV_frz (n : Nat) (m : List (Str × Tree)) : V.frz n (Tree.encM m) (mpV n (Tree.encM m).length) = .p (.agg [.int .i64 6, .int .i64 0, .str [], .nils, .lst false (Tree.encM m)]) := by
  simp [mpV, V.frz, V.frzL, V.mk, allP, PV.leaf]
theorem tree_mp (m : List (Str × Tree)) : VLe (.p (.agg [.int .i64 6, .int .i64 0, .str [], .nils, .lst false (Tree.encM m)])) (.p (Tree.mk 6 0 [] [] m).enc) :=
  (PLe.agg (show LeL [.int .i64 6, .int .i64 0, .str [], .nils, .lst false (Tree.encM m)] [.int .i64 6, .int .i64 0, .str [], .lst false [], .lst false (Tree.encM m)] from ⟨PLe.refl _, PLe.refl _, PLe.refl _, PLe.nils false, PLe.refl _, trivial⟩)).p
theorem pair_side (p : Str × Tree) : ∀ y : PV, y ∈ [Tree.encP p] → y.cells.length = 6 ∧ ∀ c : PV, c ∈ y.cells → c.leaf = true := by
  intro y hy
  rw [List.mem_singleton.1 hy]
  exact ⟨Tree.encP_cells p, Tree.encP_leaf p⟩
theorem pair_side1 (p : Str × Tree) : ∀ y : PV, y ∈ [Tree.encP p] → y.cells.length = 6 := fun y hy => (pair_side p y hy).1
theorem made_loop (m : List (Str × Tree)) (hnd : (m.map (·.1)).Nodup) (hlen : m.length ≤ 1048576) (K : Post)
    (h0 : K (.exit 0) [(2, .ptr 1 0), (3, .ptr 2 0)] [mpO m, zO, .var T.api_Value (mpV 3 (Tree.encM (sortP m)).length), .arr T.api_Pair 6 (Tree.encM (sortP m))] []) :
    ∀ (r i : Nat), i + r = (sortP m).length → LoopW PP GG 27 1 (loopN F.jread_made_c 0) [(0, .mapr 0), (2, .ptr 1 0), (3, .ptr 2 0), (9, .p (.lst false (((sortP m).map (·.1)).map .str))), (10, .p (.int .i64 (sortP m).length)), (11, .p (.int .i64 i))]
      [mpO m, zO, .var T.api_Value (mpV 3 (Tree.encM ((sortP m).take i)).length), .arr T.api_Pair 6 (Tree.encM ((sortP m).take i))] [] (PostCl 27 K) := by
  have hsl := sortP_len m
  intro r
  induction r with
  | zero =>
    intro i hi
    obtain rfl : i = (sortP m).length := by omega
    rw [List.take_length]
    refine LoopW.round (pol := polG) mixP ?_
    conv => whnf
    repeat' ((first
     | ((with_reducible first | refine Br.dec ?_ ?_ | refine Br.ndec ?_ ?_) <;> intro hb <;> (try simp only [ZZ] at hb) <;> (first | omega | contradiction | skip))
     | (with_reducible first | refine Br.tt rfl ?_ | refine Br.ff rfl ?_ | refine Br.ff (isEmptyCons _ _) ?_)
     | (refine Side.mk ?_ ?_; focus (first | omega | (dsimp only [InR, Int.reduceToNat, IntKind.bits, Int.reducePow]; omega) | (simp [CC]; done) | (constructor <;> omega)))
     | with_reducible refine Br.not ?_
     | (with_reducible first | refine Br.tt (by assumption) ?_ | refine Br.ff (by assumption) ?_)
     | (refine Br.mk ?_ ?_ <;> intro hb <;> (try simp only [ZZ] at hb) <;> (first | omega | contradiction | skip))
     | refine Src.whole ⟨rfl, rfl⟩ ?_ | refine FrzV.whole ?_) <;> conv => whnf)
    · refine PostCl.of (h0) ?_ ?_
      · repeat first | exact trivial | refine ⟨VLe.refl _, ?_⟩
      · repeat first | exact trivial | refine ⟨by decide, ?_⟩
  | succ r ih =>
    intro i hi
    have hil : i < (sortP m).length := by omega
    have hml : (Tree.encM ((sortP m).take i)).length = i := by rw [Tree.encM_length, List.length_take]; omega
    obtain ⟨k, t, hp⟩ : ∃ k t, (sortP m)[i]? = some (k, t) := ⟨(sortP m)[i].1, (sortP m)[i].2, by simp [hil]⟩
    have hpm : (k, t) ∈ m := (sortP_perm m).mem_iff.1 (List.mem_of_getElem? hp)
    have hg := get_mp hnd hpm
    have hks := keys_ok k (m.map (·.1))
    have hkl : (((sortP m).map (·.1)).map PV.str)[i]? = some (.str k) := by rw [List.getElem?_map, List.getElem?_map, hp]; rfl
    have htk : (sortP m).take (i + 1) = (sortP m).take i ++ [(k, t)] := by rw [List.take_add_one, hp]; rfl
    have ih := ih (i + 1) (by omega)
    rw [htk] at ih
    obtain ⟨a, b, c, d, e⟩ := t
    refine LoopW.round (pol := polG) mixP ?_
    conv => whnf
    repeat' ((first
     | ((with_reducible first | refine Br.dec ?_ ?_ | refine Br.ndec ?_ ?_) <;> intro hb <;> (try simp only [And.intro @hml (ZZ)] at hb) <;> (first | omega | contradiction | skip))
     | (with_reducible first | refine Br.tt rfl ?_ | refine Br.ff rfl ?_ | refine Br.ff (isEmptyCons _ _) ?_)
     | (refine Side.mk ?_ ?_; focus (first | omega | (dsimp only [InR, Int.reduceToNat, IntKind.bits, Int.reducePow]; omega) | exact ⟨rfl, rfl⟩ | exact pair_side (k, .mk a b c d e) | exact ⟨pair_side1 (k, .mk a b c d e), rfl, by show (_ + 1) * 192 ≤ _; omega⟩ | (simp [CC]; done) | (constructor <;> omega)))
     | with_reducible refine Br.not ?_
     | (with_reducible first | refine Br.tt (by assumption) ?_ | refine Br.ff (by assumption) ?_)
     | (refine Br.mk ?_ ?_ <;> intro hb <;> (try simp only [And.intro @hml (ZZ)] at hb) <;> (first | omega | contradiction | skip))
     | refine Src.whole ⟨rfl, rfl⟩ ?_ | refine FrzV.whole ?_
     | ((refine ElemZ.mk (.str k) (by simpa using hkl) rfl ?_; conv => whnf))
     | ((refine MapG.mk _ hks hg ?_; conv => whnf))) <;> conv => whnf)
    rw [Tree.encM_append] at ih
    refine LoopW.ren [0, 1, 2, 3] (ih) (by repeat first | exact trivial | refine ⟨⟨rfl, VLe.refl _⟩, ?_⟩) (by repeat first | exact trivial | refine ⟨by decide, ?_⟩) rfl rfl
theorem made_first (m : List (Str × Tree)) (hnd : (m.map (·.1)).Nodup) (hlen : m.length ≤ 1048576) (K : Post) (o : HO)
    (hz : sortP m = [] → K (.exit 0) [(2, .ptr 1 0), (3, .ptr 2 0)] [mpO m, zO, .var T.api_Value (.p (.agg [.int .i64 6, .int .i64 0, .str [], .nils, .nils]))] [])
    (h0 : K (.exit 0) [(2, .ptr 1 0), (3, .ptr 2 0)] [mpO m, zO, .var T.api_Value (mpV 3 (Tree.encM (sortP m)).length), .arr T.api_Pair 6 (Tree.encM (sortP m))] []) :
    LoopW PP GG 27 1 (loopN F.jread_made_c 0) [(0, .mapr 0), (2, .ptr 1 0), (3, .ptr 2 0), (9, .p (.lst false (((sortP m).map (·.1)).map .str))), (10, .p (.int .i64 (sortP m).length)), (11, .p (.int .i64 0))]
      [mpO m, zO, .var T.api_Value (.p (.agg [.int .i64 6, .int .i64 0, .str [], .nils, .nils]))] [] (PostCl 27 K) := by
  have hsl := sortP_len m
  have hlp := made_loop m hnd hlen K h0
  cases hs : sortP m with
  | nil =>
    refine LoopW.round (pol := polG) mixP ?_
    conv => whnf
    repeat' ((first
     | ((with_reducible first | refine Br.dec ?_ ?_ | refine Br.ndec ?_ ?_) <;> intro hb <;> (try simp only [ZZ] at hb) <;> (first | omega | contradiction | skip))
     | (with_reducible first | refine Br.tt rfl ?_ | refine Br.ff rfl ?_ | refine Br.ff (isEmptyCons _ _) ?_)
     | (refine Side.mk ?_ ?_; focus (first | omega | (dsimp only [InR, Int.reduceToNat, IntKind.bits, Int.reducePow]; omega) | (simp [CC]; done) | (constructor <;> omega)))
     | with_reducible refine Br.not ?_
     | (with_reducible first | refine Br.tt (by assumption) ?_ | refine Br.ff (by assumption) ?_)
     | (refine Br.mk ?_ ?_ <;> intro hb <;> (try simp only [ZZ] at hb) <;> (first | omega | contradiction | skip))
     | refine Src.whole ⟨rfl, rfl⟩ ?_ | refine FrzV.whole ?_) <;> conv => whnf)
    · refine PostCl.of (hz hs) ?_ ?_
      · repeat first | exact trivial | refine ⟨VLe.refl _, ?_⟩
      · repeat first | exact trivial | refine ⟨by decide, ?_⟩
  | cons p l =>
    obtain ⟨k, t⟩ := p
    have hp : (sortP m)[0]? = some (k, t) := by rw [hs]; rfl
    have hpm : (k, t) ∈ m := (sortP_perm m).mem_iff.1 (List.mem_of_getElem? hp)
    have hg := get_mp hnd hpm
    have hks := keys_ok k (m.map (·.1))
    have hlp := hlp l.length 1 (by rw [hs, List.length_cons]; omega)
    rw [hs] at hlp
    have hll : ((k, t) :: l).length = l.length + 1 := rfl
    obtain ⟨a, b, c, d, e⟩ := t
    refine LoopW.round (pol := polG) mixP ?_
    conv => whnf
    repeat' ((first
     | ((with_reducible first | refine Br.dec ?_ ?_ | refine Br.ndec ?_ ?_) <;> intro hb <;> (try simp only [And.intro @hll (ZZ)] at hb) <;> (first | omega | contradiction | skip))
     | (with_reducible first | refine Br.tt rfl ?_ | refine Br.ff rfl ?_ | refine Br.ff (isEmptyCons _ _) ?_)
     | (refine Side.mk ?_ ?_; focus (first | omega | (dsimp only [InR, Int.reduceToNat, IntKind.bits, Int.reducePow]; omega) | exact ⟨rfl, rfl⟩ | exact pair_side (k, .mk a b c d e) | exact ⟨pair_side1 (k, .mk a b c d e), by show 1 * 192 ≤ _; omega⟩ | (simp [CC]; done) | (constructor <;> omega)))
     | with_reducible refine Br.not ?_
     | (with_reducible first | refine Br.tt (by assumption) ?_ | refine Br.ff (by assumption) ?_)
     | (refine Br.mk ?_ ?_ <;> intro hb <;> (try simp only [And.intro @hll (ZZ)] at hb) <;> (first | omega | contradiction | skip))
     | refine Src.whole ⟨rfl, rfl⟩ ?_ | refine FrzV.whole ?_
     | ((refine ElemZ.mk (.str k) rfl rfl ?_; conv => whnf))
     | ((refine MapG.mk _ hks hg ?_; conv => whnf))) <;> conv => whnf)
    refine LoopW.ren [0, 1, 2, 4] (hlp) (by repeat first | exact trivial | refine ⟨⟨rfl, VLe.refl _⟩, ?_⟩) (by repeat first | exact trivial | refine ⟨by decide, ?_⟩) rfl rfl
theorem jread_made (m : List (Str × Tree)) (hnd : (m.map (·.1)).Nodup) (hlen : m.length ≤ 1048576) (hstr : ∀ p ∈ m, p.1.length ≤ 1048576) :
    AbsCall PP GG F.jread_made [.mapr 0] [mpO m] ⟨.ret (.p (Tree.mk 6 0 [] [] (sortP m)).enc), [mpO m], []⟩ := by
  have hK := maps_Keys ((m.map (·.1)).map .str) (m.map fun p => p.2.enc)
  have hS := slices_Sorted m hnd hlen hstr
  have hsl := sortP_len m
  have hml : (((sortP m).map (·.1)).map PV.str).length = (sortP m).length := by simp
  refine absCall_of (pol := polG) mixP F.jread_made_is ?_
  conv => whnf
  repeat' ((first
   | ((with_reducible first | refine Br.dec ?_ ?_ | refine Br.ndec ?_ ?_) <;> intro hb <;> (try simp only [And.intro @hml (ZZ)] at hb) <;> (first | omega | contradiction | skip))
   | (with_reducible first | refine Br.tt rfl ?_ | refine Br.ff rfl ?_ | refine Br.ff (isEmptyCons _ _) ?_)
   | (refine Side.mk ?_ ?_; focus (first | omega | (dsimp only [InR, Int.reduceToNat, IntKind.bits, Int.reducePow]; omega) | (simp [CC]; done) | (constructor <;> omega)))
   | with_reducible refine Br.not ?_
   | (with_reducible first | refine Br.tt (by assumption) ?_ | refine Br.ff (by assumption) ?_)
   | (refine Br.mk ?_ ?_ <;> intro hb <;> (try simp only [And.intro @hml (ZZ)] at hb) <;> (first | omega | contradiction | skip))
   | refine Src.whole ⟨rfl, rfl⟩ ?_ | refine FrzV.whole ?_
   | refine CallW.use (hK) ?_
   | refine CallW.use (hS) ?_) <;> conv => whnf)
  rw [hml]
  refine LoopW.cl ?_
  refine LoopW.ren [0, 1, 2] (made_first m hnd hlen _ (.dead) (fun h => ?_) ?_) (by repeat first | exact trivial | refine ⟨⟨rfl, VLe.refl _⟩, ?_⟩) (by repeat first | exact trivial | refine ⟨by decide, ?_⟩) rfl rfl
  all_goals conv => whnf
  · rw [h]
    exact CLe.ret (tree_nils 6 0 [])
  · refine FrzV.mk _ (mpV_frz 3 (sortP m)) ?_
    conv => whnf
    refine FrzO.mk _ (congrArg (HO.var T.api_Value) (mpV_frz 3 (sortP m))) ?_
    conv => whnf
    refine FrzO.mk _ (congrArg (HO.var T.api_Value) (mpV_frz 3 (sortP m))) ?_
    conv => whnf
    exact CLe.ret (tree_mp (sortP m))
theorem put_mk {acc : List (Str × Tree)} {k : Str} (h : ¬ k ∈ acc.map (·.1)) (x : Tree) : putMK (.str k) ((acc.map (·.1)).map .str) = ((acc ++ [(k, x)]).map (·.1)).map .str := by
  unfold putMK
  rw [keyAt_none h]
  simp
theorem put_mv {acc : List (Str × Tree)} {k : Str} (h : ¬ k ∈ acc.map (·.1)) (x : Tree) : putMV (.str k) ((acc.map (·.1)).map .str) (.pure (acc.map fun p => p.2.enc)) (.p x.enc) = .pure ((acc ++ [(k, x)]).map fun p => p.2.enc) := by
  unfold putMV
  rw [keyAt_none h]
  simp
theorem get_none {acc : List (Str × Tree)} {k : Str} (h : ¬ k ∈ acc.map (·.1)) (vs : MV) : getM (.str k) ((acc.map (·.1)).map .str) vs = none := by
  unfold getM
  rw [keyAt_none h]
  rfl
theorem entries_loop (ws : List Wd) (hw : WsOk ws) (Q : Nat) (hv : ∀ q, q < Q → ValAt ws q) (d : Int) (hd0 : 0 ≤ d) (hd : d ≤ 32) (R : RR) (K : Post)
    (h0 : ∀ (t : Tree) (j : Nat) (m : Int), R = .ok (t, j, m) → ∀ H : Heap, K .ret [(4, .ptr 1 0)] (jrO ws j m :: .var T.api_Value (.p t.enc) :: H) [])
    (hp : ∀ e a : Int, R = .error (e, a) → ∀ H : Heap, K (.pan (wrongP e a)) [] (.dead :: H) []) :
    ∀ (q : Nat) (i : Nat) (n : Int) (acc : List (Str × Tree)), q ≤ Q → i < ws.length → 3 * (ws.length - i) + 2 ≤ q → 0 ≤ n → n ≤ 4096 → acc.length ≤ n → (acc.map (·.1)).Nodup → (∀ p ∈ acc, p.1.length ≤ 65536) → entriesR q ws d i n acc = R →
      LoopW PP GG 53 1 (loopN F.jread_reader_pairs_c 0) [(0, .ptr 0 0), (1, .p (.int .i64 d)), (4, .ptr 1 0), (5, .mapr 2)] [jrO ws i n, zO, mpO acc] [] (PostCl 53 K) := by
  intro q
  induction q with
  | zero => intro i n acc hq hi hf; omega
  | succ q ih =>
    intro i n acc hq hi hf hn0 hn1 hacc hnd hstr hR
    obtain ⟨hat, hmem⟩ := hw.at hi
    have hend := hw.end_ i hi
    have hws := hw.len
    have hl : ws.length ≤ 1073741824 := by omega
    have htx := (hw.text _ hmem).1
    have hW0 := reader_word ws i n _ hat hl
    rw [entriesR] at hR
    have hF4 := reader_failD ws i n 4 _ hat hl
    have hF5 := reader_failD ws i n 5 _ hat hl
    by_cases hk : (wdAt ws i).k = 2
    · rw [if_neg (by simp [hk])] at hR
      have hi1 := hend (by rw [hk]; decide)
      have hat1 := (hw.at hi1).1
      have hks := keys_ok (wdAt ws i).s (acc.map (·.1))
      generalize hwd : wdAt ws i = w at *
      obtain ⟨k, s, a⟩ := w
      simp only [] at hk htx hR hks
      subst hk
      cases hh : hasK acc s with
      | true =>
        rw [if_pos hh] at hR
        obtain ⟨⟨k', t⟩, hpm, he⟩ := List.mem_map.1 ((hasK_mem acc s).1 hh)
        simp only [] at he
        subst he
        have hg := get_mp hnd hpm
        obtain ⟨b, c, e, f, g⟩ := t
        refine LoopW.round (pol := polG) mixP ?_
        conv => whnf
        repeat' ((first
         | ((with_reducible first | refine Br.dec ?_ ?_ | refine Br.ndec ?_ ?_) <;> intro hb <;> (try simp only [ZZ] at hb) <;> (first | omega | contradiction | skip))
         | (with_reducible first | refine Br.tt rfl ?_ | refine Br.ff rfl ?_ | refine Br.ff (isEmptyCons _ _) ?_)
         | (refine Side.mk ?_ ?_; focus (first | omega | (dsimp only [InR, Int.reduceToNat, IntKind.bits, Int.reducePow]; omega) | (simp [CC]; done) | (constructor <;> omega)))
         | with_reducible refine Br.not ?_
         | (with_reducible first | refine Br.tt (by assumption) ?_ | refine Br.ff (by assumption) ?_)
         | (refine Br.mk ?_ ?_ <;> intro hb <;> (try simp only [ZZ] at hb) <;> (first | omega | contradiction | skip))
         | refine Src.whole ⟨rfl, rfl⟩ ?_ | refine FrzV.whole ?_
         | refine CallW.use (hW0) ?_
         | refine CallW.use (hF5) ?_
         | ((refine MapG.mk _ hks hg ?_; conv => whnf))) <;> conv => whnf)
        · refine PostCl.of (hp _ _ hR.symm _) ?_ ?_
          · repeat first | exact trivial | refine ⟨VLe.refl _, ?_⟩
          · repeat first | exact trivial | refine ⟨by decide, ?_⟩
      | false =>
        rw [if_neg (by rw [hh]; decide)] at hR
        have hnm : ¬ s ∈ acc.map (·.1) := fun h => by rw [(hasK_mem acc s).2 h] at hh; cases hh
        have hg := get_none hnm (.pure (acc.map fun p => p.2.enc))
        have hU := put_mk hnm
        have hUv := put_mv hnm
        cases h58 : isS (wdAt ws (i + 1)) [58] with
        | false =>
          rw [if_pos h58] at hR
          have hC := want_no (n := n) hat1 hl h58
          refine LoopW.round (pol := polG) mixP ?_
          conv => whnf
          repeat' ((first
           | ((with_reducible first | refine Br.dec ?_ ?_ | refine Br.ndec ?_ ?_) <;> intro hb <;> (try simp only [ZZ] at hb) <;> (first | omega | contradiction | skip))
           | (with_reducible first | refine Br.tt rfl ?_ | refine Br.ff rfl ?_ | refine Br.ff (isEmptyCons _ _) ?_)
           | (refine Side.mk ?_ ?_; focus (first | omega | (dsimp only [InR, Int.reduceToNat, IntKind.bits, Int.reducePow]; omega) | (simp [CC]; done) | (constructor <;> omega)))
           | with_reducible refine Br.not ?_
           | (with_reducible first | refine Br.tt (by assumption) ?_ | refine Br.ff (by assumption) ?_)
           | (refine Br.mk ?_ ?_ <;> intro hb <;> (try simp only [ZZ] at hb) <;> (first | omega | contradiction | skip))
           | refine Src.whole ⟨rfl, rfl⟩ ?_ | refine FrzV.whole ?_
           | refine CallW.use (hW0) ?_
           | refine CallW.use (hC) ?_
           | ((refine MapG.mk _ hks hg ?_; conv => whnf))) <;> conv => whnf)
          · refine PostCl.of (hp _ _ hR.symm _) ?_ ?_
            · repeat first | exact trivial | refine ⟨VLe.refl _, ?_⟩
            · repeat first | exact trivial | refine ⟨by decide, ?_⟩
        | true =>
          rw [if_neg (by rw [h58]; decide)] at hR
          have hC := want_yes (n := n) hat1 hl h58
          have hi2 := hw.end_ (i + 1) hi1 (by rw [(isS_k h58).1]; decide)
          have hV := hv q (by omega) (d + 1) (i + 2) n hi2 (by omega) (by omega) (by omega) hn0 hn1
          have hok := (okR_all hw q).1 (d + 1) (i + 2) n hi2
          cases hr : valR q ws (d + 1) (i + 2) n with
          | error e =>
            rw [hr] at hV hR
            obtain ⟨e, a⟩ := e
            refine LoopW.round (pol := polG) mixP ?_
            conv => whnf
            repeat' ((first
             | ((with_reducible first | refine Br.dec ?_ ?_ | refine Br.ndec ?_ ?_) <;> intro hb <;> (try simp only [ZZ] at hb) <;> (first | omega | contradiction | skip))
             | (with_reducible first | refine Br.tt rfl ?_ | refine Br.ff rfl ?_ | refine Br.ff (isEmptyCons _ _) ?_)
             | (refine Side.mk ?_ ?_; focus (first | omega | (dsimp only [InR, Int.reduceToNat, IntKind.bits, Int.reducePow]; omega) | (simp [CC]; done) | (constructor <;> omega)))
             | with_reducible refine Br.not ?_
             | (with_reducible first | refine Br.tt (by assumption) ?_ | refine Br.ff (by assumption) ?_)
             | (refine Br.mk ?_ ?_ <;> intro hb <;> (try simp only [ZZ] at hb) <;> (first | omega | contradiction | skip))
             | refine Src.whole ⟨rfl, rfl⟩ ?_ | refine FrzV.whole ?_
             | refine CallW.use (hW0) ?_
             | refine CallW.use (hC) ?_
             | refine CallW.use (hV) ?_
             | ((refine MapG.mk _ hks hg ?_; conv => whnf))) <;> conv => whnf)
            · refine PostCl.of (hp _ _ hR.symm _) ?_ ?_
              · repeat first | exact trivial | refine ⟨VLe.refl _, ?_⟩
              · repeat first | exact trivial | refine ⟨by decide, ?_⟩
          | ok x =>
            obtain ⟨x, j, m⟩ := x
            rw [hr] at hV hR hok
            obtain ⟨g1, g2, g3, g4⟩ := hok
            have hatj := (hw.at g2).1
            have hnd' : ((acc ++ [(s, x)]).map (·.1)).Nodup := by
              rw [List.map_append, List.map_cons, List.map_nil]
              refine List.nodup_append.2 ⟨hnd, by simp, ?_⟩
              intro a ha b hb
              rw [List.mem_singleton.1 hb]
              exact fun e => hnm (by rw [← show a = s from e]; exact ha)
            have hstr' : ∀ p ∈ acc ++ [(s, x)], p.1.length ≤ 65536 := by
              intro p hp
              rcases List.mem_append.1 hp with hp | hp
              · exact hstr p hp
              · rw [List.mem_singleton.1 hp]; exact htx
            have hal : (acc ++ [(s, x)]).length ≤ m := by rw [List.length_append, List.length_singleton]; omega
            have hU := hU x
            have hUv := hUv x
            dsimp only [] at hR
            cases h125 : isS (wdAt ws j) [125] with
            | true =>
              rw [if_pos h125] at hR
              have hT := take_yes (n := m) hatj hl h125
              have hM := jread_made (acc ++ [(s, x)]) hnd' (by omega) (fun p hp => Nat.le_trans (hstr' p hp) (by decide))
              refine LoopW.round (pol := polG) mixP ?_
              conv => whnf
              repeat' ((first
               | ((with_reducible first | refine Br.dec ?_ ?_ | refine Br.ndec ?_ ?_) <;> intro hb <;> (try simp only [ZZ] at hb) <;> (first | omega | contradiction | skip))
               | (with_reducible first | refine Br.tt rfl ?_ | refine Br.ff rfl ?_ | refine Br.ff (isEmptyCons _ _) ?_)
               | (refine Side.mk ?_ ?_; focus (first | omega | (dsimp only [InR, Int.reduceToNat, IntKind.bits, Int.reducePow]; omega) | (simp [CC]; done) | (constructor <;> omega)))
               | with_reducible refine Br.not ?_
               | (with_reducible first | refine Br.tt (by assumption) ?_ | refine Br.ff (by assumption) ?_)
               | (refine Br.mk ?_ ?_ <;> intro hb <;> (try simp only [ZZ] at hb) <;> (first | omega | contradiction | skip))
               | refine Src.whole ⟨rfl, rfl⟩ ?_ | refine FrzV.whole ?_
               | refine CallW.use (hW0) ?_
               | refine CallW.use (hC) ?_
               | refine CallW.use (hV) ?_
               | refine CallW.use (hT) ?_
               | refine CallW.use (hM) ?_
               | ((refine MapG.mk _ hks hg ?_; conv => whnf))
               | ((refine MapU.mk _ _ hks hU hUv ?_; conv => whnf))) <;> conv => whnf)
              · refine PostCl.of (h0 _ (j + 1) m hR.symm _) ?_ ?_
                · repeat first | exact trivial | refine ⟨VLe.refl _, ?_⟩
                · repeat first | exact trivial | refine ⟨by decide, ?_⟩
            | false =>
              rw [if_neg (by rw [h125]; decide)] at hR
              have hT := take_no (n := m) hatj hl h125
              cases h44 : isS (wdAt ws j) [44] with
              | true =>
                rw [if_pos h44] at hR
                have hW := want_yes (n := m) hatj hl h44
                refine LoopW.round (pol := polG) mixP ?_
                conv => whnf
                repeat' ((first
                 | ((with_reducible first | refine Br.dec ?_ ?_ | refine Br.ndec ?_ ?_) <;> intro hb <;> (try simp only [ZZ] at hb) <;> (first | omega | contradiction | skip))
                 | (with_reducible first | refine Br.tt rfl ?_ | refine Br.ff rfl ?_ | refine Br.ff (isEmptyCons _ _) ?_)
                 | (refine Side.mk ?_ ?_; focus (first | omega | (dsimp only [InR, Int.reduceToNat, IntKind.bits, Int.reducePow]; omega) | (simp [CC]; done) | (constructor <;> omega)))
                 | with_reducible refine Br.not ?_
                 | (with_reducible first | refine Br.tt (by assumption) ?_ | refine Br.ff (by assumption) ?_)
                 | (refine Br.mk ?_ ?_ <;> intro hb <;> (try simp only [ZZ] at hb) <;> (first | omega | contradiction | skip))
                 | refine Src.whole ⟨rfl, rfl⟩ ?_ | refine FrzV.whole ?_
                 | refine CallW.use (hW0) ?_
                 | refine CallW.use (hC) ?_
                 | refine CallW.use (hV) ?_
                 | refine CallW.use (hT) ?_
                 | refine CallW.use (hW) ?_
                 | ((refine MapG.mk _ hks hg ?_; conv => whnf))
                 | ((refine MapU.mk _ _ hks hU hUv ?_; conv => whnf))) <;> conv => whnf)
                refine LoopW.ren [0, 1, 2] (ih (j + 1) m (acc ++ [(s, x)]) (by omega) (hw.end_ j g2 (by rw [(isS_k h44).1]; decide)) (by omega) (by omega) g4 hal hnd' hstr' hR) (by repeat first | exact trivial | refine ⟨⟨rfl, VLe.refl _⟩, ?_⟩) (by repeat first | exact trivial | refine ⟨by decide, ?_⟩) rfl rfl
              | false =>
                rw [if_neg (by rw [h44]; decide)] at hR
                have hW := want_no (n := m) hatj hl h44
                refine LoopW.round (pol := polG) mixP ?_
                conv => whnf
                repeat' ((first
                 | ((with_reducible first | refine Br.dec ?_ ?_ | refine Br.ndec ?_ ?_) <;> intro hb <;> (try simp only [ZZ] at hb) <;> (first | omega | contradiction | skip))
                 | (with_reducible first | refine Br.tt rfl ?_ | refine Br.ff rfl ?_ | refine Br.ff (isEmptyCons _ _) ?_)
                 | (refine Side.mk ?_ ?_; focus (first | omega | (dsimp only [InR, Int.reduceToNat, IntKind.bits, Int.reducePow]; omega) | (simp [CC]; done) | (constructor <;> omega)))
                 | with_reducible refine Br.not ?_
                 | (with_reducible first | refine Br.tt (by assumption) ?_ | refine Br.ff (by assumption) ?_)
                 | (refine Br.mk ?_ ?_ <;> intro hb <;> (try simp only [ZZ] at hb) <;> (first | omega | contradiction | skip))
                 | refine Src.whole ⟨rfl, rfl⟩ ?_ | refine FrzV.whole ?_
                 | refine CallW.use (hW0) ?_
                 | refine CallW.use (hC) ?_
                 | refine CallW.use (hV) ?_
                 | refine CallW.use (hT) ?_
                 | refine CallW.use (hW) ?_
                 | ((refine MapG.mk _ hks hg ?_; conv => whnf))
                 | ((refine MapU.mk _ _ hks hU hUv ?_; conv => whnf))) <;> conv => whnf)
                · refine PostCl.of (hp _ _ hR.symm _) ?_ ?_
                  · repeat first | exact trivial | refine ⟨VLe.refl _, ?_⟩
                  · repeat first | exact trivial | refine ⟨by decide, ?_⟩
    · rw [if_pos hk] at hR
      generalize hwd : wdAt ws i = w at *
      obtain ⟨k, s, a⟩ := w
      simp only [] at hk
      refine LoopW.round (pol := polG) mixP ?_
      conv => whnf
      repeat' ((first
       | ((with_reducible first | refine Br.dec ?_ ?_ | refine Br.ndec ?_ ?_) <;> intro hb <;> (try simp only [ZZ] at hb) <;> (first | omega | contradiction | skip))
       | (with_reducible first | refine Br.tt rfl ?_ | refine Br.ff rfl ?_ | refine Br.ff (isEmptyCons _ _) ?_)
       | (refine Side.mk ?_ ?_; focus (first | omega | (dsimp only [InR, Int.reduceToNat, IntKind.bits, Int.reducePow]; omega) | (simp [CC]; done) | (constructor <;> omega)))
       | with_reducible refine Br.not ?_
       | (with_reducible first | refine Br.tt (by assumption) ?_ | refine Br.ff (by assumption) ?_)
       | (refine Br.mk ?_ ?_ <;> intro hb <;> (try simp only [ZZ] at hb) <;> (first | omega | contradiction | skip))
       | refine Src.whole ⟨rfl, rfl⟩ ?_ | refine FrzV.whole ?_
       | refine CallW.use (hW0) ?_
       | refine CallW.use (hF4) ?_) <;> conv => whnf)
      · refine PostCl.of (hp _ _ hR.symm _) ?_ ?_
        · repeat first | exact trivial | refine ⟨VLe.refl _, ?_⟩
        · repeat first | exact trivial | refine ⟨by decide, ?_⟩
theorem reader_pairs_step (ws : List Wd) (hw : WsOk ws) (q : Nat) (hv : ∀ p, p < q + 1 → ValAt ws p) : PairsAt ws (q + 1) := by
  intro d i n hi hq h0 h1 h2 h3
  have hat := (hw.at hi).1
  have hws := hw.len
  have hl : ws.length ≤ 1073741824 := by omega
  rw [pairsR]
  cases h93 : isS (wdAt ws i) [125] with
  | true =>
    rw [if_pos rfl]
    have hT := take_yes (n := n) hat hl h93
    have hM := jread_made [] (by simp) (by simp) (by simp)
    refine absCall_of (pol := polG) mixP F.jread_reader_pairs_is ?_
    conv => whnf
    repeat' ((first
     | ((with_reducible first | refine Br.dec ?_ ?_ | refine Br.ndec ?_ ?_) <;> intro hb <;> (try simp only [ZZ] at hb) <;> (first | omega | contradiction | skip))
     | (with_reducible first | refine Br.tt rfl ?_ | refine Br.ff rfl ?_ | refine Br.ff (isEmptyCons _ _) ?_)
     | (refine Side.mk ?_ ?_; focus (first | omega | (dsimp only [InR, Int.reduceToNat, IntKind.bits, Int.reducePow]; omega) | (simp [CC]; done) | (constructor <;> omega)))
     | with_reducible refine Br.not ?_
     | (with_reducible first | refine Br.tt (by assumption) ?_ | refine Br.ff (by assumption) ?_)
     | (refine Br.mk ?_ ?_ <;> intro hb <;> (try simp only [ZZ] at hb) <;> (first | omega | contradiction | skip))
     | refine Src.whole ⟨rfl, rfl⟩ ?_ | refine FrzV.whole ?_
     | refine CallW.use (hT) ?_
     | refine CallW.use (hM) ?_) <;> conv => whnf)
    exact CLe.refl _
  | false =>
    rw [if_neg (by decide)]
    have hT := take_no (n := n) hat hl h93
    have hlp := entries_loop ws hw q (fun r hr => hv r (by omega)) d h0 h1 (entriesR q ws d i n [])
    generalize hR : entriesR q ws d i n [] = R at *
    refine absCall_of (pol := polG) mixP F.jread_reader_pairs_is ?_
    conv => whnf
    repeat' ((first
     | ((with_reducible first | refine Br.dec ?_ ?_ | refine Br.ndec ?_ ?_) <;> intro hb <;> (try simp only [ZZ] at hb) <;> (first | omega | contradiction | skip))
     | (with_reducible first | refine Br.tt rfl ?_ | refine Br.ff rfl ?_ | refine Br.ff (isEmptyCons _ _) ?_)
     | (refine Side.mk ?_ ?_; focus (first | omega | (dsimp only [InR, Int.reduceToNat, IntKind.bits, Int.reducePow]; omega) | (simp [CC]; done) | (constructor <;> omega)))
     | with_reducible refine Br.not ?_
     | (with_reducible first | refine Br.tt (by assumption) ?_ | refine Br.ff (by assumption) ?_)
     | (refine Br.mk ?_ ?_ <;> intro hb <;> (try simp only [ZZ] at hb) <;> (first | omega | contradiction | skip))
     | refine Src.whole ⟨rfl, rfl⟩ ?_ | refine FrzV.whole ?_
     | refine CallW.use (hT) ?_) <;> conv => whnf)
    refine LoopW.cl ?_
    refine LoopW.ren [0, 1, 2] (hlp _ (fun t j m h H => ?_) (fun e a h H => ?_) q i n [] (Nat.le_refl _) hi (by omega) h2 h3 (by simpa using h2) (by simp) (by simp) hR) (by repeat first | exact trivial | refine ⟨⟨rfl, VLe.refl _⟩, ?_⟩) (by repeat first | exact trivial | refine ⟨by decide, ?_⟩) rfl rfl
    all_goals conv => whnf
    · subst h
      obtain ⟨x1, x2, x3, x4, x5⟩ := t
      exact CLe.refl _
    · subst h
      exact CLe.refl _
theorem reader_all (ws : List Wd) (hw : WsOk ws) : ∀ q, (∀ p, p < q + 1 → ValAt ws p) := by
  intro q
  induction q with
  | zero =>
    intro p hp d i n hi hq
    omega
  | succ q ih =>
    intro p hp
    rcases Nat.lt_or_ge p (q + 1) with h | h
    · exact ih p h
    · obtain rfl : p = q + 1 := by omega
      refine reader_value_step ws hw q ?_ ?_
      · rcases q with _ | q
        · intro d i n hi hq; omega
        · exact reader_list_step ws hw q fun p hp => ih p (by omega)
      · rcases q with _ | q
        · intro d i n hi hq; omega
        · exact reader_pairs_step ws hw q fun p hp => ih p (by omega)
theorem reader_value (ws : List Wd) (hw : WsOk ws) (q : Nat) : ValAt ws q := reader_all ws hw q q (by omega)
def seqL : Code → Code
  | .seq a _ => a
  | c => c
def seqR : Code → Code
  | .seq _ b => b
  | c => c
noncomputable abbrev whole_cl : Code := F.jread_whole_1_c.getD .skip
theorem cl_shape : ∃ o0 o1 : Oper, whole_cl = .seq (.region 0 #[o0, o1] false) (seqR whole_cl) ∧ o0.op = .call ⟨.builtin .recover, #[], #[]⟩ ∧ o0.dst = some 6 ∧ o0.guard = none ∧ o1.op = .assign (.tmp 6) ∧ o1.dst = some 3 ∧ o1.guard = none :=
  ⟨_, _, rfl, rfl, rfl, rfl, rfl, rfl, rfl⟩
theorem cl_run {B : Nat → Prop} {L : Am.Loc} {w : World} {vs : List Value} {H : Heap} (hst : St B L w H) (ha : VRelL B L w [.ptr 0 0, .ptr 1 0, .ptr 2 0] vs) (hg : GOk GG B w) (x : V) (y : Value) (hy : VRel B L w x y) (u u' : FrameMode)
    (hrec : ∀ (c₀ : Frame) (cs : List Frame), c₀.mode = u → recoverD (c₀ :: cs) = some (y, { c₀ with mode := u' } :: cs) ∨ (recoverD (c₀ :: cs) = none ∧ y = .nilIface ∧ u' = u))
    (K : Post) (hW : W PP GG polG 23 4 (seqR whole_cl) [(3, x), (6, x), (0, .ptr 0 0), (1, .ptr 1 0), (2, .ptr 2 0)] H [] K) (hK : ∀ ex σ H' mv', K ex σ H' mv' → ex = .normal ∧ mv' = []) :
    CallsD PP F.jread_whole_1 vs.toArray u w fun e u2 w' => (∃ r, e = .returned r) ∧ u2 = u' ∧ ∃ ex σ H' B' L', K ex σ H' [] ∧ FS 4 B L w H [] B' L' w' H' [] ∧ St B' L' w' H' := by
  obtain ⟨⟨fn, hfn, hbody, hnt, hrs, hname⟩, _, hok⟩ := F.jread_whole_1_is
  obtain ⟨o0, o1, hc, h0, hd0, hg0, h1, hd1, hg1⟩ := cl_shape
  refine callsD_of_wpS hfn hbody fun c₀ cs hm => ?_
  show whole_cl.wpS PP _ _ _ _
  have hargs : vs.length = 3 := ha.1.symm
  have he : ERel B L w (toEnv 23 [(0, .ptr 0 0), (1, .ptr 1 0), (2, .ptr 2 0)]) (vs.toArray ++ Array.replicate (fn.ntmps - vs.toArray.size) undef) := by
    have e : (vs.toArray ++ Array.replicate (fn.ntmps - vs.toArray.size) undef).toList = vs ++ List.replicate 20 undef := by
      rw [Array.toList_append, Array.toList_replicate, List.size_toArray, hargs, hnt]
    have e2 : toEnv 23 [(0, .ptr 0 0), (1, .ptr 1 0), (2, .ptr 2 0)] = [.ptr 0 0, .ptr 1 0, .ptr 2 0] ++ List.replicate 20 V.junk := rfl
    rw [e2]
    unfold ERel
    rw [e]
    refine ha.append ⟨by simp, fun i x y hx _ => ?_⟩
    rw [List.getElem?_replicate] at hx
    split at hx
    · cases hx; exact .junk _
    · cases hx
  generalize vs.toArray ++ Array.replicate (fn.ntmps - vs.toArray.size) undef = tmps at he
  -- what comes behind the recover
  have rest : ∀ cs', cs' = { c₀ with mode := u' } :: cs → ((seqR whole_cl).wpS PP (bodyPostS PP fn c₀ cs fun e u2 w' => (∃ r, e = .returned r) ∧ u2 = u' ∧ ∃ ex σ H' B' L', K ex σ H' [] ∧ FS 4 B L w H [] B' L' w' H' [] ∧ St B' L' w' H')
      ((({ tmps := tmps, defers := [] } : Act).put (some 6) y).put (some 3) y) cs' w) := by
    intro cs' hcs
    refine wpS_of_wp ?_
    have he1 := (he.put (a := { tmps := tmps, defers := [] }) (some 6) hy).put (a := ({ tmps := tmps, defers := [] } : Act).put (some 6) y) (some 3) hy
    simp only [putO, toEnv_set] at he1
    have hb : Bdd 23 ([(3, x), (6, x), (0, .ptr 0 0), (1, .ptr 1 0), (2, .ptr 2 0)] : Env) := BddL.bdd ⟨by decide, by decide, by decide, by decide, by decide, trivial⟩
    refine W_sound mixP _ hW hb hst he1 hg fun e a' w' hp => ?_
    obtain ⟨ex, σ1, H1, mv1, hK1, hb1, B1, L1, hfs, he2, hst1, hk1, hd1, hm1⟩ := hp
    obtain ⟨rfl, rfl⟩ := hK _ _ _ _ hK1
    cases e with
    | normal =>
      obtain ⟨v, hv, _⟩ := results_run (fr := ⟨toEnv 23 σ1, H1, 4, []⟩) (fn := fn) (vs := []) hst1 he2 (by rw [hrs]; rfl)
      exact ⟨hd1, u', hcs, v, hv, ⟨v, rfl⟩, rfl, _, _, _, B1, L1, hK1, hfs, hst1⟩
    | _ => exact hm1.elim
  rw [hc]
  refine wpS_seq (wpS_region ?_)
  have hl : List.range (#[o0, o1] : Array Oper).size = [0, 1] := rfl
  rw [hl]
  have hsz : tmps.size = 23 := by have := he.1; simp at this; rw [← this]; rfl
  have e0 : (execOp ({ tmps := tmps, defers := [] } : Act).eval o0).run PP w = .ok .recover w := by
    simp [execOp, h0, resolve, invoke, builtin, Result.andThen]
  have e1 : ∀ z : Value, (execOp (({ tmps := tmps, defers := [] } : Act).put (some 6) z).eval o1).run PP w = .ok (.value z) w := by
    intro z
    simp [execOp, h1, Act.eval, Act.put, Array.getD, hsz]
  have ho0 : (#[o0, o1] : Array Oper)[0]? = some o0 := rfl
  have ho1 : (#[o0, o1] : Array Oper)[1]? = some o1 := rfl
  rcases hrec c₀ cs hm with hr | ⟨hr, rfl, rfl⟩
  · simp only [wpOpsS, ho0, ho1, Region.wanted, hg0, hg1, if_true, e0, hr, hd0, e1, Oper.upon_value, hd1, Exit.thenS]
    exact rest _ rfl
  · simp only [wpOpsS, ho0, ho1, Region.wanted, hg0, hg1, if_true, e0, hr, hd0, e1, Oper.upon_value, hd1, Exit.thenS]
    exact rest _ (by rw [← hm])
def whH (t : Str) (v f : PV) (o : HO) : Heap := [.var T.string (.p (.str t)), .var T.api_Value (.p v), .var T.api_Fault (.p f), o]
def whE (t : Str) (v f : PV) : Post := fun ex _ H mv => ex = .normal ∧ mv = [] ∧ ∃ o, H = [.var T.string (.p (.str t)), .var T.api_Value (.p v), .var T.api_Fault (.p f), .dead, o]
theorem cl_none (t : Str) (v f : PV) {B : Nat → Prop} {L : Am.Loc} {w : World} {vs : List Value} (hst : St B L w (whH t v f .dead)) (ha : VRelL B L w [.ptr 0 0, .ptr 1 0, .ptr 2 0] vs) (hg : GOk GG B w) :
    CallsD PP F.jread_whole_1 vs.toArray .returning w fun e u2 w' => (∃ r, e = .returned r) ∧ u2 = .returning ∧ ∃ ex σ H' B' L', whE t v f ex σ H' [] ∧ FS 4 B L w (whH t v f .dead) [] B' L' w' H' [] ∧ St B' L' w' H' := by
  refine cl_run hst ha hg (.p .nili) .nilIface (.p _ _ .nili) .returning .returning (fun c₀ cs hm => .inr ⟨?_, rfl, rfl⟩) (whE t v f) ?_ (fun ex σ H' mv' h => ⟨h.1, h.2.1⟩)
  · simp [recoverD, hm]
  · unfold whH
    conv => whnf
    repeat' ((first
     | ((with_reducible first | refine Br.dec ?_ ?_ | refine Br.ndec ?_ ?_) <;> intro hb <;> (try simp only [ZZ] at hb) <;> (first | omega | contradiction | skip))
     | (with_reducible first | refine Br.tt rfl ?_ | refine Br.ff rfl ?_ | refine Br.ff (isEmptyCons _ _) ?_)
     | (refine Side.mk ?_ ?_; focus (first | omega | (dsimp only [InR, Int.reduceToNat, IntKind.bits, Int.reducePow]; omega) | (simp [CC]; done) | (constructor <;> omega)))
     | with_reducible refine Br.not ?_
     | (with_reducible first | refine Br.tt (by assumption) ?_ | refine Br.ff (by assumption) ?_)
     | (refine Br.mk ?_ ?_ <;> intro hb <;> (try simp only [ZZ] at hb) <;> (first | omega | contradiction | skip))
     | refine Src.whole ⟨rfl, rfl⟩ ?_ | refine FrzV.whole ?_) <;> conv => whnf)
    exact ⟨rfl, rfl, _, rfl⟩
theorem cl_some (t : Str) (ht : t.length ≤ 1073741824) (e a : Int) (ha0 : -1073741824 ≤ a ∧ a ≤ 1073741824) (a1 a2 a3 a4 a5 : PV) {B : Nat → Prop} {L : Am.Loc} {w : World} {vs : List Value} (hst : St B L w (whH t (.agg [a1, a2, a3, a4, a5]) noFault .dead)) (ha : VRelL B L w [.ptr 0 0, .ptr 1 0, .ptr 2 0] vs) (hg : GOk GG B w) (y : Value) (hy : VRel B L w (wrongP e a) y) :
    CallsD PP F.jread_whole_1 vs.toArray (.panicking [⟨y, false, false⟩]) w fun e' u2 w' => (∃ r, e' = .returned r) ∧ u2 = .panicking [⟨y, true, false⟩] ∧ ∃ ex σ H' B' L', whE t (.agg [.int .i64 0, .int .i64 0, .str [], .nils, .nils]) (faultP t a e) ex σ H' [] ∧ FS 4 B L w (whH t (.agg [a1, a2, a3, a4, a5]) noFault .dead) [] B' L' w' H' [] ∧ St B' L' w' H' := by
  have hF := place_Fault t a e ha0 ht
  refine cl_run hst ha hg (wrongP e a) y hy (.panicking [⟨y, false, false⟩]) (.panicking [⟨y, true, false⟩]) (fun c₀ cs hm => .inl ?_) (whE t (.agg [.int .i64 0, .int .i64 0, .str [], .nils, .nils]) (faultP t a e)) ?_ (fun ex σ H' mv' h => ⟨h.1, h.2.1⟩)
  · simp [recoverD, hm]
  · unfold whH noFault
    conv => whnf
    repeat' ((first
     | ((with_reducible first | refine Br.dec ?_ ?_ | refine Br.ndec ?_ ?_) <;> intro hb <;> (try simp only [ZZ] at hb) <;> (first | omega | contradiction | skip))
     | (with_reducible first | refine Br.tt rfl ?_ | refine Br.ff rfl ?_ | refine Br.ff (isEmptyCons _ _) ?_)
     | (refine Side.mk ?_ ?_; focus (first | omega | (dsimp only [InR, Int.reduceToNat, IntKind.bits, Int.reducePow]; omega) | (simp [CC]; done) | (constructor <;> omega)))
     | with_reducible refine Br.not ?_
     | (with_reducible first | refine Br.tt (by assumption) ?_ | refine Br.ff (by assumption) ?_)
     | (refine Br.mk ?_ ?_ <;> intro hb <;> (try simp only [ZZ] at hb) <;> (first | omega | contradiction | skip))
     | refine Src.whole ⟨rfl, rfl⟩ ?_ | refine FrzV.whole ?_
     | refine CallW.use (hF) ?_) <;> conv => whnf)
    exact ⟨rfl, rfl, _, rfl⟩
end Go.Proofs.YtaoejccgdpppgaaGreatDoor
end
