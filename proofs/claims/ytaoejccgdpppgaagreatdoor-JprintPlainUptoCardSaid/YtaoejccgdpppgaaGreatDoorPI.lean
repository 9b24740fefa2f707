/-
The walk through the printer: values.
-/
import Derived.Test.YtaoejccgdpppgaaGreatDoorPH
import Derived.Test.YtaoejccgdpppgaaGreatDoorPF
import Derived.Test.YtaoejccgdpppgaaGreatDoorPG
import Derived.Shelf.Strings.Search3
import Derived.Shelf.Strings.Count
import Derived.Shelf.Strings.LastIndex
import Derived.Shelf.Strings.IndexAnyAll
import Derived.Shelf.Strings.SlTrimAscii
import Derived.Test.YtaoejccgdpppgaaGreatDoorProg
import Derived.Test.YtaoejccgdpppgaaGreatDoorPE
import Derived.Lib.SlTrimSet
import Derived.Lib.IndexAny
import Derived.Lib.LastIndexByte

section
namespace Go.Proofs.YtaoejccgdpppgaaGreatDoor
open Go Go.Am
set_option maxRecDepth 100000
def PrIs (t : Tree) : Prop := ∀ (b : Bool) (d : Int) (acc : Str), 0 ≤ d → d + t.wt ≤ 6000000 → goodT t = true → acc.length + (printT t (dd b d)).length ≤ 70368744177664 →
  AbsCall PP GG F.jprint_printer_value [.ptr 0 0, .p t.enc, .p (.int .i64 d)] (prO b (some acc)) ⟨.ret (.tup []), prO b (some (acc ++ printT t (dd b d))), [1]⟩
theorem one_L (t : Tree) (hw : t.wt ≤ 4000000) (b : Bool) (d : Int) (hd : 0 ≤ d) (hd2 : d + t.wt ≤ 6000000) (hl : ∀ x ∈ t.l, PrIs x) (hg : ∀ x ∈ t.l, goodT x = true) :
    OneIs F.jprint_printer_value_1 b t.enc d (t.l.map fun x => printT x (dd b (d + 1))) := by
  intro i p acc hp hacc
  rw [List.getElem?_map, Option.map_eq_some_iff] at hp
  obtain ⟨x, hx, rfl⟩ := hp
  have hxm : x ∈ t.l := List.mem_of_getElem? hx
  have hxw := Tree.wt_l hxm
  have hwl := t.wt_ll
  have hsp := hl x hxm b (d + 1) acc (by omega) (by omega) (hg x hxm) hacc
  rw [Tree.enc_eta t]
  rw [Tree.enc_eta x] at hsp
  refine absCall_of (pol := polG) mixP F.jprint_printer_value_1_is ?_
  conv => whnf
  repeat' ((first
   | ((with_reducible first | refine Br.dec ?_ ?_ | refine Br.ndec ?_ ?_) <;> intro hb <;> (try simp only [ZZ] at hb) <;> (first | omega | contradiction | skip))
   | (with_reducible first | refine Br.tt rfl ?_ | refine Br.ff rfl ?_ | refine Br.ff (isEmptyCons _ _) ?_)
   | (refine Side.mk ?_ ?_; focus (first | omega | (dsimp only [InR, Int.reduceToNat, IntKind.bits, Int.reducePow]; omega) | exact ⟨rfl, rfl⟩ | (simp [CC]; done) | (constructor <;> omega)))
   | with_reducible refine Br.not ?_
   | (with_reducible first | refine Br.tt (by assumption) ?_ | refine Br.ff (by assumption) ?_)
   | (refine Br.mk ?_ ?_ <;> intro hb <;> (try simp only [ZZ] at hb) <;> (first | omega | contradiction | skip))
   | refine Src.whole ⟨rfl, rfl⟩ ?_ | refine FrzV.whole ?_
   | refine CallW.use (hsp) ?_
   | (refine ElemZ.tree (by simpa using hx) ?_; (rw [Tree.enc_eta x]; conv => whnf))) <;> conv => whnf)
  exact CLe.eq rfl
theorem printer_pair (k : Str) (hk : k.length ≤ 65536) (y : Tree) (_hw : y.wt ≤ 4000000) (b : Bool) (d : Int) (hd : 0 ≤ d) (hd2 : d + y.wt ≤ 6000000) (hp : PrIs y) (hg : goodT y = true) (acc : Str) (hl : acc.length + (printP (k, y) (dd b d)).length ≤ 70368744177664) :
    AbsCall PP GG F.jprint_printer_pair [.ptr 0 0, .p (Tree.encP (k, y)), .p (.int .i64 d)] (prO b (some acc)) ⟨.ret (.tup []), prO b (some (acc ++ printP (k, y) (dd b d))), [1]⟩ := by
  rw [printP] at hl ⊢
  simp only [List.length_append] at hl
  have hq := esc_Quote k hk
  rw [encP_flat]
  cases b with
  | true =>
    have e : colonL (dd true d) = [58, 32] := by unfold colonL dd; rw [if_pos rfl, if_pos hd]
    rw [e] at hl ⊢
    simp only [List.length_cons, List.length_nil] at hl
    have hw1 := WriteString_old true acc (quoteS k ++ [58]) (by rw [List.length_append]; show _ + (_ + 1) ≤ _; omega)
    have hw2 := WriteString_old true (acc ++ (quoteS k ++ [58])) [32] (by simp only [List.length_append]; show _ + (_ + 1) + 1 ≤ _; omega)
    have hv := hp true d (acc ++ (quoteS k ++ [58]) ++ [32]) hd hd2 hg (by simp only [List.length_append]; show _ + (_ + 1) + 1 + _ ≤ _; omega)
    rw [Tree.enc_eta y] at hv
    refine absCall_of (pol := polG) mixP F.jprint_printer_pair_is ?_
    conv => whnf
    repeat' ((first
     | ((with_reducible first | refine Br.dec ?_ ?_ | refine Br.ndec ?_ ?_) <;> intro hb <;> (try simp only [ZZ] at hb) <;> (first | omega | contradiction | skip))
     | (with_reducible first | refine Br.tt rfl ?_ | refine Br.ff rfl ?_ | refine Br.ff (isEmptyCons _ _) ?_)
     | (refine Side.mk ?_ ?_; focus (first | omega | (dsimp only [InR, Int.reduceToNat, IntKind.bits, Int.reducePow]; omega) | (show _ + 1 ≤ _; omega) | exact ⟨rfl, rfl⟩ | (simp [CC]; done) | (constructor <;> omega)))
     | with_reducible refine Br.not ?_
     | (with_reducible first | refine Br.tt (by assumption) ?_ | refine Br.ff (by assumption) ?_)
     | (refine Br.mk ?_ ?_ <;> intro hb <;> (try simp only [ZZ] at hb) <;> (first | omega | contradiction | skip))
     | refine Src.whole ⟨rfl, rfl⟩ ?_ | refine FrzV.whole ?_
     | refine CallW.use (hq) ?_
     | refine CallW.use (hw1) ?_
     | refine CallW.use (hw2) ?_
     | refine CallW.use (hv) ?_) <;> conv => whnf)
    exact CLe.eq (by simp only [prO, List.append_assoc]; rfl)
  | false =>
    have e : colonL (dd false d) = [58] := rfl
    rw [e] at hl ⊢
    simp only [List.length_cons, List.length_nil] at hl
    have hw1 := WriteString_old false acc (quoteS k ++ [58]) (by rw [List.length_append]; show _ + (_ + 1) ≤ _; omega)
    have hv := hp false d (acc ++ (quoteS k ++ [58])) hd hd2 hg (by simp only [List.length_append]; show _ + (_ + 1) + _ ≤ _; omega)
    rw [Tree.enc_eta y] at hv
    refine absCall_of (pol := polG) mixP F.jprint_printer_pair_is ?_
    conv => whnf
    repeat' ((first
     | ((with_reducible first | refine Br.dec ?_ ?_ | refine Br.ndec ?_ ?_) <;> intro hb <;> (try simp only [ZZ] at hb) <;> (first | omega | contradiction | skip))
     | (with_reducible first | refine Br.tt rfl ?_ | refine Br.ff rfl ?_ | refine Br.ff (isEmptyCons _ _) ?_)
     | (refine Side.mk ?_ ?_; focus (first | omega | (dsimp only [InR, Int.reduceToNat, IntKind.bits, Int.reducePow]; omega) | (show _ + 1 ≤ _; omega) | exact ⟨rfl, rfl⟩ | (simp [CC]; done) | (constructor <;> omega)))
     | with_reducible refine Br.not ?_
     | (with_reducible first | refine Br.tt (by assumption) ?_ | refine Br.ff (by assumption) ?_)
     | (refine Br.mk ?_ ?_ <;> intro hb <;> (try simp only [ZZ] at hb) <;> (first | omega | contradiction | skip))
     | refine Src.whole ⟨rfl, rfl⟩ ?_ | refine FrzV.whole ?_
     | refine CallW.use (hq) ?_
     | refine CallW.use (hw1) ?_
     | refine CallW.use (hv) ?_) <;> conv => whnf)
    exact CLe.eq (by simp only [prO, List.append_assoc]; rfl)
theorem one_M (t : Tree) (hw : t.wt ≤ 4000000) (b : Bool) (d : Int) (hd : 0 ≤ d) (hd2 : d + t.wt ≤ 6000000) (hl : ∀ x ∈ t.m, PrIs x.2) (hg : ∀ x ∈ t.m, strOk x.1 = true ∧ goodT x.2 = true) :
    OneIs F.jprint_printer_value_2 b t.enc d (t.m.map fun x => printP x (dd b (d + 1))) := by
  intro i p acc hp hacc
  rw [List.getElem?_map, Option.map_eq_some_iff] at hp
  obtain ⟨⟨k, y⟩, hx, rfl⟩ := hp
  have hxm : (k, y) ∈ t.m := List.mem_of_getElem? hx
  have hxw := Tree.wt_m hxm
  have hwl := t.wt_ml
  have hgx := hg _ hxm
  have hks := strOk_len hgx.1
  simp only [] at hxw hgx hks
  have hsp := printer_pair k (by omega) y (by omega) b (d + 1) (by omega) (by omega) (hl _ hxm) hgx.2 acc hacc
  rw [Tree.enc_eta t]
  rw [encP_flat] at hsp
  refine absCall_of (pol := polG) mixP F.jprint_printer_value_2_is ?_
  conv => whnf
  repeat' ((first
   | ((with_reducible first | refine Br.dec ?_ ?_ | refine Br.ndec ?_ ?_) <;> intro hb <;> (try simp only [ZZ] at hb) <;> (first | omega | contradiction | skip))
   | (with_reducible first | refine Br.tt rfl ?_ | refine Br.ff rfl ?_ | refine Br.ff (isEmptyCons _ _) ?_)
   | (refine Side.mk ?_ ?_; focus (first | omega | (dsimp only [InR, Int.reduceToNat, IntKind.bits, Int.reducePow]; omega) | exact ⟨rfl, rfl⟩ | (simp [CC]; done) | (constructor <;> omega)))
   | with_reducible refine Br.not ?_
   | (with_reducible first | refine Br.tt (by assumption) ?_ | refine Br.ff (by assumption) ?_)
   | (refine Br.mk ?_ ?_ <;> intro hb <;> (try simp only [ZZ] at hb) <;> (first | omega | contradiction | skip))
   | refine Src.whole ⟨rfl, rfl⟩ ?_ | refine FrzV.whole ?_
   | refine CallW.use (hsp) ?_
   | (refine ElemZ.pairE (k := k) (y := y) (by simpa using hx) ?_)) <;> conv => whnf)
  exact CLe.eq rfl
theorem printL_join (l : List Tree) (d : Int) : ∀ f, printL f l d = joinP d f (l.map fun x => printT x d) := by
  induction l with
  | nil => intro f; rfl
  | cons x l ih => intro f; rw [printL, List.map_cons, joinP, ih]
theorem printM_join (l : List (Str × Tree)) (d : Int) : ∀ f, printM f l d = joinP d f (l.map fun x => printP x d) := by
  induction l with
  | nil => intro f; rfl
  | cons x l ih => intro f; rw [printM, List.map_cons, joinP, ih]
theorem kind_cases {t : Tree} (h : nodeOk t.kind t.n t.s = true) : t.kind = 0 ∨ (t.kind = 1 ∧ (t.n = 0 ∨ t.n = 1)) ∨ t.kind = 2 ∨ (t.kind = 3 ∧ numL t.s = true) ∨ ((t.kind = 4 ∨ t.kind = 7) ∧ t.s.length ≤ 4096) ∨ t.kind = 5 ∨ t.kind = 6 := by
  unfold nodeOk at h
  repeat' split at h
  · omega
  · rw [decide_eq_true_eq] at h; omega
  · rw [Bool.and_eq_true] at h; exact .inr (.inr (.inr (.inl ⟨by assumption, h.1⟩)))
  · have := strOk_len h; omega
  · have := stampOk_len h; omega
  · rw [decide_eq_true_eq] at h; omega
theorem deeper_dd (b : Bool) (d : Int) (h : 0 ≤ d) : deeper (dd b d) = dd b (d + 1) := by
  unfold deeper dd
  cases b with
  | true => simp [h]
  | false => simp
theorem printT_parts (t : Tree) (b : Bool) (d : Int) (h : 0 ≤ d) : (t.kind = 5 → printT t (dd b d) = partsS b d [91] [93] (t.l.map fun x => printT x (dd b (d + 1)))) ∧ (t.kind = 6 → printT t (dd b d) = partsS b d [123] [125] (t.m.map fun x => printP x (dd b (d + 1)))) := by
  constructor
  · intro hk
    rw [printT_eq, hk]
    simp only [partsS, deeper_dd b d h, printL_join, List.length_map]
    by_cases hn : t.l.length = 0
    · have := List.eq_nil_of_length_eq_zero hn
      simp [this, joinP]
    · simp [hn]
  · intro hk
    rw [printT_eq, hk]
    simp only [partsS, deeper_dd b d h, printM_join, List.length_map]
    by_cases hn : t.m.length = 0
    · have := List.eq_nil_of_length_eq_zero hn
      simp [this, joinP]
    · simp [hn]
theorem printer_value : ∀ t : Tree, t.wt ≤ 4000000 → PrIs t := by
  refine Tree.indW fun t hw hl hm b d acc hd hd2 hg hacc => ?_
  obtain ⟨hb, hn, hr, hgl, hgm⟩ := goodT_spec hg
  have hP := printT_eq t (dd b d)
  have hPP := printT_parts t b d hd
  have hL := one_L t hw b d hd hd2 (fun x hx => (hl x hx).2) hgl
  have hM := one_M t hw b d hd hd2 (fun x hx => (hm x hx).2.2) hgm
  have hwl := t.wt_ll
  have hwm := t.wt_ml
  have hel : (Tree.encL t.l).length = t.l.length := Tree.encL_length _
  have hem : (Tree.encM t.m).length = t.m.length := Tree.encM_length _
  rcases kind_cases hn with hk | ⟨hk, hkn⟩ | hk | ⟨hk, hnum⟩ | ⟨hk, hsl⟩ | hk | hk
  · rw [hk, if_pos rfl] at hP
    rw [hP] at hacc ⊢
    rw [Tree.enc_eta t, hk]
    have hw1 := WriteString_old b acc [110, 117, 108, 108] (by first | omega | decide)
    refine absCall_of (pol := polG) mixP F.jprint_printer_value_is ?_
    conv => whnf
    repeat' ((first
     | ((with_reducible first | refine Br.dec ?_ ?_ | refine Br.ndec ?_ ?_) <;> intro hb <;> (try simp only [ZZ] at hb) <;> (first | omega | contradiction | skip))
     | (with_reducible first | refine Br.tt rfl ?_ | refine Br.ff rfl ?_ | refine Br.ff (isEmptyCons _ _) ?_)
     | (refine Side.mk ?_ ?_; focus (first | omega | (dsimp only [InR, Int.reduceToNat, IntKind.bits, Int.reducePow]; omega) | (simp [CC]; done) | (constructor <;> omega)))
     | with_reducible refine Br.not ?_
     | (with_reducible first | refine Br.tt (by assumption) ?_ | refine Br.ff (by assumption) ?_)
     | (refine Br.mk ?_ ?_ <;> intro hb <;> (try simp only [ZZ] at hb) <;> (first | omega | contradiction | skip))
     | refine Src.whole ⟨rfl, rfl⟩ ?_ | refine FrzV.whole ?_
     | refine CallW.use (hw1) ?_) <;> conv => whnf)
    exact CLe.eq rfl
  · rw [hk, if_neg (by omega), if_pos rfl] at hP
    rcases hkn with hkn | hkn
    · rw [hkn, if_neg (by omega)] at hP
      rw [hP] at hacc ⊢
      rw [Tree.enc_eta t, hk, hkn]
      have hw1 := WriteString_old b acc [102, 97, 108, 115, 101] (by first | omega | decide)
      refine absCall_of (pol := polG) mixP F.jprint_printer_value_is ?_
      conv => whnf
      repeat' ((first
       | ((with_reducible first | refine Br.dec ?_ ?_ | refine Br.ndec ?_ ?_) <;> intro hb <;> (try simp only [ZZ] at hb) <;> (first | omega | contradiction | skip))
       | (with_reducible first | refine Br.tt rfl ?_ | refine Br.ff rfl ?_ | refine Br.ff (isEmptyCons _ _) ?_)
       | (refine Side.mk ?_ ?_; focus (first | omega | (dsimp only [InR, Int.reduceToNat, IntKind.bits, Int.reducePow]; omega) | (simp [CC]; done) | (constructor <;> omega)))
       | with_reducible refine Br.not ?_
       | (with_reducible first | refine Br.tt (by assumption) ?_ | refine Br.ff (by assumption) ?_)
       | (refine Br.mk ?_ ?_ <;> intro hb <;> (try simp only [ZZ] at hb) <;> (first | omega | contradiction | skip))
       | refine Src.whole ⟨rfl, rfl⟩ ?_ | refine FrzV.whole ?_
       | refine CallW.use (hw1) ?_) <;> conv => whnf)
      exact CLe.eq rfl
    · rw [hkn, if_pos rfl] at hP
      rw [hP] at hacc ⊢
      rw [Tree.enc_eta t, hk, hkn]
      have hw1 := WriteString_old b acc [116, 114, 117, 101] (by first | omega | decide)
      refine absCall_of (pol := polG) mixP F.jprint_printer_value_is ?_
      conv => whnf
      repeat' ((first
       | ((with_reducible first | refine Br.dec ?_ ?_ | refine Br.ndec ?_ ?_) <;> intro hb <;> (try simp only [ZZ] at hb) <;> (first | omega | contradiction | skip))
       | (with_reducible first | refine Br.tt rfl ?_ | refine Br.ff rfl ?_ | refine Br.ff (isEmptyCons _ _) ?_)
       | (refine Side.mk ?_ ?_; focus (first | omega | (dsimp only [InR, Int.reduceToNat, IntKind.bits, Int.reducePow]; omega) | (simp [CC]; done) | (constructor <;> omega)))
       | with_reducible refine Br.not ?_
       | (with_reducible first | refine Br.tt (by assumption) ?_ | refine Br.ff (by assumption) ?_)
       | (refine Br.mk ?_ ?_ <;> intro hb <;> (try simp only [ZZ] at hb) <;> (first | omega | contradiction | skip))
       | refine Src.whole ⟨rfl, rfl⟩ ?_ | refine FrzV.whole ?_
       | refine CallW.use (hw1) ?_) <;> conv => whnf)
      exact CLe.eq rfl
  · rw [hk, if_neg (by omega), if_neg (by omega), if_pos rfl] at hP
    rw [hP] at hacc ⊢
    rw [Tree.enc_eta t, hk]
    have hw1 := WriteString_old b acc (Lib.itoa t.n) (by omega)
    refine absCall_of (pol := polG) mixP F.jprint_printer_value_is ?_
    conv => whnf
    repeat' ((first
     | ((with_reducible first | refine Br.dec ?_ ?_ | refine Br.ndec ?_ ?_) <;> intro hb <;> (try simp only [ZZ] at hb) <;> (first | omega | contradiction | skip))
     | (with_reducible first | refine Br.tt rfl ?_ | refine Br.ff rfl ?_ | refine Br.ff (isEmptyCons _ _) ?_)
     | (refine Side.mk ?_ ?_; focus (first | omega | (dsimp only [InR, Int.reduceToNat, IntKind.bits, Int.reducePow]; omega) | (simp [CC]; done) | (constructor <;> omega)))
     | with_reducible refine Br.not ?_
     | (with_reducible first | refine Br.tt (by assumption) ?_ | refine Br.ff (by assumption) ?_)
     | (refine Br.mk ?_ ?_ <;> intro hb <;> (try simp only [ZZ] at hb) <;> (first | omega | contradiction | skip))
     | refine Src.whole ⟨rfl, rfl⟩ ?_ | refine FrzV.whole ?_
     | refine CallW.use (hw1) ?_
     | refine CallW.use (dec_Text t.n hr) ?_) <;> conv => whnf)
    exact CLe.eq rfl
  · rw [hk, if_neg (by omega), if_neg (by omega), if_neg (by omega), if_pos rfl] at hP
    rw [hP] at hacc ⊢
    rw [Tree.enc_eta t, hk]
    have hw1 := WriteString_old b acc t.s (by omega)
    refine absCall_of (pol := polG) mixP F.jprint_printer_value_is ?_
    conv => whnf
    repeat' ((first
     | ((with_reducible first | refine Br.dec ?_ ?_ | refine Br.ndec ?_ ?_) <;> intro hb <;> (try simp only [ZZ] at hb) <;> (first | omega | contradiction | skip))
     | (with_reducible first | refine Br.tt rfl ?_ | refine Br.ff rfl ?_ | refine Br.ff (isEmptyCons _ _) ?_)
     | (refine Side.mk ?_ ?_; focus (first | omega | (dsimp only [InR, Int.reduceToNat, IntKind.bits, Int.reducePow]; omega) | (simp [CC]; done) | (constructor <;> omega)))
     | with_reducible refine Br.not ?_
     | (with_reducible first | refine Br.tt (by assumption) ?_ | refine Br.ff (by assumption) ?_)
     | (refine Br.mk ?_ ?_ <;> intro hb <;> (try simp only [ZZ] at hb) <;> (first | omega | contradiction | skip))
     | refine Src.whole ⟨rfl, rfl⟩ ?_ | refine FrzV.whole ?_
     | refine CallW.use (hw1) ?_) <;> conv => whnf)
    exact CLe.eq rfl
  · rw [if_neg (by omega), if_neg (by omega), if_neg (by omega), if_neg (by omega), if_pos hk] at hP
    rw [hP] at hacc ⊢
    have hw1 := WriteString_old b acc (quoteS t.s) (by omega)
    have hq := esc_Quote t.s (by omega)
    rcases hk with hk | hk
    · rw [Tree.enc_eta t, hk]
      refine absCall_of (pol := polG) mixP F.jprint_printer_value_is ?_
      conv => whnf
      repeat' ((first
       | ((with_reducible first | refine Br.dec ?_ ?_ | refine Br.ndec ?_ ?_) <;> intro hb <;> (try simp only [ZZ] at hb) <;> (first | omega | contradiction | skip))
       | (with_reducible first | refine Br.tt rfl ?_ | refine Br.ff rfl ?_ | refine Br.ff (isEmptyCons _ _) ?_)
       | (refine Side.mk ?_ ?_; focus (first | omega | (dsimp only [InR, Int.reduceToNat, IntKind.bits, Int.reducePow]; omega) | (simp [CC]; done) | (constructor <;> omega)))
       | with_reducible refine Br.not ?_
       | (with_reducible first | refine Br.tt (by assumption) ?_ | refine Br.ff (by assumption) ?_)
       | (refine Br.mk ?_ ?_ <;> intro hb <;> (try simp only [ZZ] at hb) <;> (first | omega | contradiction | skip))
       | refine Src.whole ⟨rfl, rfl⟩ ?_ | refine FrzV.whole ?_
       | refine CallW.use (hw1) ?_
       | refine CallW.use (hq) ?_) <;> conv => whnf)
      exact CLe.eq rfl
    · rw [Tree.enc_eta t, hk]
      refine absCall_of (pol := polG) mixP F.jprint_printer_value_is ?_
      conv => whnf
      repeat' ((first
       | ((with_reducible first | refine Br.dec ?_ ?_ | refine Br.ndec ?_ ?_) <;> intro hb <;> (try simp only [ZZ] at hb) <;> (first | omega | contradiction | skip))
       | (with_reducible first | refine Br.tt rfl ?_ | refine Br.ff rfl ?_ | refine Br.ff (isEmptyCons _ _) ?_)
       | (refine Side.mk ?_ ?_; focus (first | omega | (dsimp only [InR, Int.reduceToNat, IntKind.bits, Int.reducePow]; omega) | (simp [CC]; done) | (constructor <;> omega)))
       | with_reducible refine Br.not ?_
       | (with_reducible first | refine Br.tt (by assumption) ?_ | refine Br.ff (by assumption) ?_)
       | (refine Br.mk ?_ ?_ <;> intro hb <;> (try simp only [ZZ] at hb) <;> (first | omega | contradiction | skip))
       | refine Src.whole ⟨rfl, rfl⟩ ?_ | refine FrzV.whole ?_
       | refine CallW.use (hw1) ?_
       | refine CallW.use (hq) ?_) <;> conv => whnf)
      exact CLe.eq rfl
  · rw [hPP.1 hk] at hacc ⊢
    have hp := parts_old F.jprint_printer_value_1 b t.enc d hd (by omega) [91] [93] _ (by rw [List.length_map]; omega) hL acc hacc
    rw [Tree.enc_eta t] at hp ⊢
    rw [List.length_map, ← hel] at hp
    rw [hk] at hp ⊢
    refine absCall_of (pol := polG) mixP F.jprint_printer_value_is ?_
    conv => whnf
    repeat' ((first
     | ((with_reducible first | refine Br.dec ?_ ?_ | refine Br.ndec ?_ ?_) <;> intro hb <;> (try simp only [ZZ] at hb) <;> (first | omega | contradiction | skip))
     | (with_reducible first | refine Br.tt rfl ?_ | refine Br.ff rfl ?_ | refine Br.ff (isEmptyCons _ _) ?_)
     | (refine Side.mk ?_ ?_; focus (first | omega | (dsimp only [InR, Int.reduceToNat, IntKind.bits, Int.reducePow]; omega) | (simp [CC]; done) | (constructor <;> omega)))
     | with_reducible refine Br.not ?_
     | (with_reducible first | refine Br.tt (by assumption) ?_ | refine Br.ff (by assumption) ?_)
     | (refine Br.mk ?_ ?_ <;> intro hb <;> (try simp only [ZZ] at hb) <;> (first | omega | contradiction | skip))
     | refine Src.whole ⟨rfl, rfl⟩ ?_ | refine FrzV.whole ?_
     | refine CallW.use (hp) ?_) <;> conv => whnf)
    exact CLe.eq rfl
  · rw [hPP.2 hk] at hacc ⊢
    have hp := parts_old F.jprint_printer_value_2 b t.enc d hd (by omega) [123] [125] _ (by rw [List.length_map]; omega) hM acc hacc
    rw [Tree.enc_eta t] at hp ⊢
    rw [List.length_map, ← hem] at hp
    rw [hk] at hp ⊢
    refine absCall_of (pol := polG) mixP F.jprint_printer_value_is ?_
    conv => whnf
    repeat' ((first
     | ((with_reducible first | refine Br.dec ?_ ?_ | refine Br.ndec ?_ ?_) <;> intro hb <;> (try simp only [ZZ] at hb) <;> (first | omega | contradiction | skip))
     | (with_reducible first | refine Br.tt rfl ?_ | refine Br.ff rfl ?_ | refine Br.ff (isEmptyCons _ _) ?_)
     | (refine Side.mk ?_ ?_; focus (first | omega | (dsimp only [InR, Int.reduceToNat, IntKind.bits, Int.reducePow]; omega) | (simp [CC]; done) | (constructor <;> omega)))
     | with_reducible refine Br.not ?_
     | (with_reducible first | refine Br.tt (by assumption) ?_ | refine Br.ff (by assumption) ?_)
     | (refine Br.mk ?_ ?_ <;> intro hb <;> (try simp only [ZZ] at hb) <;> (first | omega | contradiction | skip))
     | refine Src.whole ⟨rfl, rfl⟩ ?_ | refine FrzV.whole ?_
     | refine CallW.use (hp) ?_) <;> conv => whnf)
    exact CLe.eq rfl
theorem printer_value_new (t : Tree) (hw : t.wt ≤ 4000000) (b : Bool) (d : Int) (hd : 0 ≤ d) (hd2 : d + t.wt ≤ 6000000) (hg : goodT t = true) (hacc : (printT t (dd b d)).length ≤ 70368744177664) :
    AbsCall PP GG F.jprint_printer_value [.ptr 0 0, .p t.enc, .p (.int .i64 d)] (prO b none) ⟨.ret (.tup []), prO b (some (printT t (dd b d))), []⟩ := by
  obtain ⟨hb, hn, hr, hgl, hgm⟩ := goodT_spec hg
  have hP := printT_eq t (dd b d)
  have hPP := printT_parts t b d hd
  have hL := one_L t hw b d hd hd2 (fun x hx => printer_value x (by have := Tree.wt_l hx; omega)) hgl
  have hM := one_M t hw b d hd hd2 (fun x hx => printer_value x.2 (by have := Tree.wt_m hx; omega)) hgm
  have hwl := t.wt_ll
  have hwm := t.wt_ml
  have hel : (Tree.encL t.l).length = t.l.length := Tree.encL_length _
  have hem : (Tree.encM t.m).length = t.m.length := Tree.encM_length _
  rcases kind_cases hn with hk | ⟨hk, hkn⟩ | hk | ⟨hk, hnum⟩ | ⟨hk, hsl⟩ | hk | hk
  · rw [hk, if_pos rfl] at hP
    rw [hP] at hacc ⊢
    rw [Tree.enc_eta t, hk]
    have hw1 := WriteString_new b [110, 117, 108, 108] (by simp) (by first | omega | decide)
    refine absCall_of (pol := polG) mixP F.jprint_printer_value_is ?_
    conv => whnf
    repeat' ((first
     | ((with_reducible first | refine Br.dec ?_ ?_ | refine Br.ndec ?_ ?_) <;> intro hb <;> (try simp only [ZZ] at hb) <;> (first | omega | contradiction | skip))
     | (with_reducible first | refine Br.tt rfl ?_ | refine Br.ff rfl ?_ | refine Br.ff (isEmptyCons _ _) ?_)
     | (refine Side.mk ?_ ?_; focus (first | omega | (dsimp only [InR, Int.reduceToNat, IntKind.bits, Int.reducePow]; omega) | (simp [CC]; done) | (constructor <;> omega)))
     | with_reducible refine Br.not ?_
     | (with_reducible first | refine Br.tt (by assumption) ?_ | refine Br.ff (by assumption) ?_)
     | (refine Br.mk ?_ ?_ <;> intro hb <;> (try simp only [ZZ] at hb) <;> (first | omega | contradiction | skip))
     | refine Src.whole ⟨rfl, rfl⟩ ?_ | refine FrzV.whole ?_
     | refine CallW.use (hw1) ?_) <;> conv => whnf)
    exact CLe.eq rfl
  · rw [hk, if_neg (by omega), if_pos rfl] at hP
    rcases hkn with hkn | hkn
    · rw [hkn, if_neg (by omega)] at hP
      rw [hP] at hacc ⊢
      rw [Tree.enc_eta t, hk, hkn]
      have hw1 := WriteString_new b [102, 97, 108, 115, 101] (by simp) (by first | omega | decide)
      refine absCall_of (pol := polG) mixP F.jprint_printer_value_is ?_
      conv => whnf
      repeat' ((first
       | ((with_reducible first | refine Br.dec ?_ ?_ | refine Br.ndec ?_ ?_) <;> intro hb <;> (try simp only [ZZ] at hb) <;> (first | omega | contradiction | skip))
       | (with_reducible first | refine Br.tt rfl ?_ | refine Br.ff rfl ?_ | refine Br.ff (isEmptyCons _ _) ?_)
       | (refine Side.mk ?_ ?_; focus (first | omega | (dsimp only [InR, Int.reduceToNat, IntKind.bits, Int.reducePow]; omega) | (simp [CC]; done) | (constructor <;> omega)))
       | with_reducible refine Br.not ?_
       | (with_reducible first | refine Br.tt (by assumption) ?_ | refine Br.ff (by assumption) ?_)
       | (refine Br.mk ?_ ?_ <;> intro hb <;> (try simp only [ZZ] at hb) <;> (first | omega | contradiction | skip))
       | refine Src.whole ⟨rfl, rfl⟩ ?_ | refine FrzV.whole ?_
       | refine CallW.use (hw1) ?_) <;> conv => whnf)
      exact CLe.eq rfl
    · rw [hkn, if_pos rfl] at hP
      rw [hP] at hacc ⊢
      rw [Tree.enc_eta t, hk, hkn]
      have hw1 := WriteString_new b [116, 114, 117, 101] (by simp) (by first | omega | decide)
      refine absCall_of (pol := polG) mixP F.jprint_printer_value_is ?_
      conv => whnf
      repeat' ((first
       | ((with_reducible first | refine Br.dec ?_ ?_ | refine Br.ndec ?_ ?_) <;> intro hb <;> (try simp only [ZZ] at hb) <;> (first | omega | contradiction | skip))
       | (with_reducible first | refine Br.tt rfl ?_ | refine Br.ff rfl ?_ | refine Br.ff (isEmptyCons _ _) ?_)
       | (refine Side.mk ?_ ?_; focus (first | omega | (dsimp only [InR, Int.reduceToNat, IntKind.bits, Int.reducePow]; omega) | (simp [CC]; done) | (constructor <;> omega)))
       | with_reducible refine Br.not ?_
       | (with_reducible first | refine Br.tt (by assumption) ?_ | refine Br.ff (by assumption) ?_)
       | (refine Br.mk ?_ ?_ <;> intro hb <;> (try simp only [ZZ] at hb) <;> (first | omega | contradiction | skip))
       | refine Src.whole ⟨rfl, rfl⟩ ?_ | refine FrzV.whole ?_
       | refine CallW.use (hw1) ?_) <;> conv => whnf)
      exact CLe.eq rfl
  · rw [hk, if_neg (by omega), if_neg (by omega), if_pos rfl] at hP
    rw [hP] at hacc ⊢
    rw [Tree.enc_eta t, hk]
    have hne := itoa_ne t.n
    have hw1 := WriteString_new b (Lib.itoa t.n) hne (by omega)
    refine absCall_of (pol := polG) mixP F.jprint_printer_value_is ?_
    conv => whnf
    repeat' ((first
     | ((with_reducible first | refine Br.dec ?_ ?_ | refine Br.ndec ?_ ?_) <;> intro hb <;> (try simp only [ZZ] at hb) <;> (first | omega | contradiction | skip))
     | (with_reducible first | refine Br.tt rfl ?_ | refine Br.ff rfl ?_ | refine Br.ff (isEmptyCons _ _) ?_)
     | (refine Side.mk ?_ ?_; focus (first | omega | (dsimp only [InR, Int.reduceToNat, IntKind.bits, Int.reducePow]; omega) | (simp [CC]; done) | (constructor <;> omega)))
     | with_reducible refine Br.not ?_
     | (with_reducible first | refine Br.tt (by assumption) ?_ | refine Br.ff (by assumption) ?_)
     | (refine Br.mk ?_ ?_ <;> intro hb <;> (try simp only [ZZ] at hb) <;> (first | omega | contradiction | skip))
     | refine Src.whole ⟨rfl, rfl⟩ ?_ | refine FrzV.whole ?_
     | refine CallW.use (hw1) ?_
     | refine CallW.use (dec_Text t.n hr) ?_) <;> conv => whnf)
    exact CLe.eq rfl
  · rw [hk, if_neg (by omega), if_neg (by omega), if_neg (by omega), if_pos rfl] at hP
    rw [hP] at hacc ⊢
    rw [Tree.enc_eta t, hk]
    have hw1 := WriteString_new b t.s (numL_ne hnum) (by omega)
    refine absCall_of (pol := polG) mixP F.jprint_printer_value_is ?_
    conv => whnf
    repeat' ((first
     | ((with_reducible first | refine Br.dec ?_ ?_ | refine Br.ndec ?_ ?_) <;> intro hb <;> (try simp only [ZZ] at hb) <;> (first | omega | contradiction | skip))
     | (with_reducible first | refine Br.tt rfl ?_ | refine Br.ff rfl ?_ | refine Br.ff (isEmptyCons _ _) ?_)
     | (refine Side.mk ?_ ?_; focus (first | omega | (dsimp only [InR, Int.reduceToNat, IntKind.bits, Int.reducePow]; omega) | (simp [CC]; done) | (constructor <;> omega)))
     | with_reducible refine Br.not ?_
     | (with_reducible first | refine Br.tt (by assumption) ?_ | refine Br.ff (by assumption) ?_)
     | (refine Br.mk ?_ ?_ <;> intro hb <;> (try simp only [ZZ] at hb) <;> (first | omega | contradiction | skip))
     | refine Src.whole ⟨rfl, rfl⟩ ?_ | refine FrzV.whole ?_
     | refine CallW.use (hw1) ?_) <;> conv => whnf)
    exact CLe.eq rfl
  · rw [if_neg (by omega), if_neg (by omega), if_neg (by omega), if_neg (by omega), if_pos hk] at hP
    rw [hP] at hacc ⊢
    have hw1 := WriteString_new b (quoteS t.s) (by simp [quoteS]) (by omega)
    have hq := esc_Quote t.s (by omega)
    rcases hk with hk | hk
    · rw [Tree.enc_eta t, hk]
      refine absCall_of (pol := polG) mixP F.jprint_printer_value_is ?_
      conv => whnf
      repeat' ((first
       | ((with_reducible first | refine Br.dec ?_ ?_ | refine Br.ndec ?_ ?_) <;> intro hb <;> (try simp only [ZZ] at hb) <;> (first | omega | contradiction | skip))
       | (with_reducible first | refine Br.tt rfl ?_ | refine Br.ff rfl ?_ | refine Br.ff (isEmptyCons _ _) ?_)
       | (refine Side.mk ?_ ?_; focus (first | omega | (dsimp only [InR, Int.reduceToNat, IntKind.bits, Int.reducePow]; omega) | (simp [CC]; done) | (constructor <;> omega)))
       | with_reducible refine Br.not ?_
       | (with_reducible first | refine Br.tt (by assumption) ?_ | refine Br.ff (by assumption) ?_)
       | (refine Br.mk ?_ ?_ <;> intro hb <;> (try simp only [ZZ] at hb) <;> (first | omega | contradiction | skip))
       | refine Src.whole ⟨rfl, rfl⟩ ?_ | refine FrzV.whole ?_
       | refine CallW.use (hw1) ?_
       | refine CallW.use (hq) ?_) <;> conv => whnf)
      exact CLe.eq rfl
    · rw [Tree.enc_eta t, hk]
      refine absCall_of (pol := polG) mixP F.jprint_printer_value_is ?_
      conv => whnf
      repeat' ((first
       | ((with_reducible first | refine Br.dec ?_ ?_ | refine Br.ndec ?_ ?_) <;> intro hb <;> (try simp only [ZZ] at hb) <;> (first | omega | contradiction | skip))
       | (with_reducible first | refine Br.tt rfl ?_ | refine Br.ff rfl ?_ | refine Br.ff (isEmptyCons _ _) ?_)
       | (refine Side.mk ?_ ?_; focus (first | omega | (dsimp only [InR, Int.reduceToNat, IntKind.bits, Int.reducePow]; omega) | (simp [CC]; done) | (constructor <;> omega)))
       | with_reducible refine Br.not ?_
       | (with_reducible first | refine Br.tt (by assumption) ?_ | refine Br.ff (by assumption) ?_)
       | (refine Br.mk ?_ ?_ <;> intro hb <;> (try simp only [ZZ] at hb) <;> (first | omega | contradiction | skip))
       | refine Src.whole ⟨rfl, rfl⟩ ?_ | refine FrzV.whole ?_
       | refine CallW.use (hw1) ?_
       | refine CallW.use (hq) ?_) <;> conv => whnf)
      exact CLe.eq rfl
  · rw [hPP.1 hk] at hacc ⊢
    have hp := parts_new F.jprint_printer_value_1 b t.enc d hd (by omega) [91] [93] (by simp) _ (by rw [List.length_map]; omega) hL hacc
    rw [Tree.enc_eta t] at hp ⊢
    rw [List.length_map, ← hel] at hp
    rw [hk] at hp ⊢
    refine absCall_of (pol := polG) mixP F.jprint_printer_value_is ?_
    conv => whnf
    repeat' ((first
     | ((with_reducible first | refine Br.dec ?_ ?_ | refine Br.ndec ?_ ?_) <;> intro hb <;> (try simp only [ZZ] at hb) <;> (first | omega | contradiction | skip))
     | (with_reducible first | refine Br.tt rfl ?_ | refine Br.ff rfl ?_ | refine Br.ff (isEmptyCons _ _) ?_)
     | (refine Side.mk ?_ ?_; focus (first | omega | (dsimp only [InR, Int.reduceToNat, IntKind.bits, Int.reducePow]; omega) | (simp [CC]; done) | (constructor <;> omega)))
     | with_reducible refine Br.not ?_
     | (with_reducible first | refine Br.tt (by assumption) ?_ | refine Br.ff (by assumption) ?_)
     | (refine Br.mk ?_ ?_ <;> intro hb <;> (try simp only [ZZ] at hb) <;> (first | omega | contradiction | skip))
     | refine Src.whole ⟨rfl, rfl⟩ ?_ | refine FrzV.whole ?_
     | refine CallW.use (hp) ?_) <;> conv => whnf)
    exact CLe.eq rfl
  · rw [hPP.2 hk] at hacc ⊢
    have hp := parts_new F.jprint_printer_value_2 b t.enc d hd (by omega) [123] [125] (by simp) _ (by rw [List.length_map]; omega) hM hacc
    rw [Tree.enc_eta t] at hp ⊢
    rw [List.length_map, ← hem] at hp
    rw [hk] at hp ⊢
    refine absCall_of (pol := polG) mixP F.jprint_printer_value_is ?_
    conv => whnf
    repeat' ((first
     | ((with_reducible first | refine Br.dec ?_ ?_ | refine Br.ndec ?_ ?_) <;> intro hb <;> (try simp only [ZZ] at hb) <;> (first | omega | contradiction | skip))
     | (with_reducible first | refine Br.tt rfl ?_ | refine Br.ff rfl ?_ | refine Br.ff (isEmptyCons _ _) ?_)
     | (refine Side.mk ?_ ?_; focus (first | omega | (dsimp only [InR, Int.reduceToNat, IntKind.bits, Int.reducePow]; omega) | (simp [CC]; done) | (constructor <;> omega)))
     | with_reducible refine Br.not ?_
     | (with_reducible first | refine Br.tt (by assumption) ?_ | refine Br.ff (by assumption) ?_)
     | (refine Br.mk ?_ ?_ <;> intro hb <;> (try simp only [ZZ] at hb) <;> (first | omega | contradiction | skip))
     | refine Src.whole ⟨rfl, rfl⟩ ?_ | refine FrzV.whole ?_
     | refine CallW.use (hp) ?_) <;> conv => whnf)
    exact CLe.eq rfl
end Go.Proofs.YtaoejccgdpppgaaGreatDoor
end

section
namespace Go.Am
open Go
def JLaw (t : Tree) : Prop := ∀ d n : Int, 1 ≤ d → d ≤ 33 → 0 ≤ n → n ≤ 4096 →
  (judgeT t d n).1 = (!(steep t (33 - d) (4096 - n)).1 && plainT t) ∧ ((judgeT t d n).1 = true → (judgeT t d n).2 = 4096 - (steep t (33 - d) (4096 - n)).2)
def JLawL (l : List Tree) : Prop := ∀ d n : Int, 1 ≤ d → d ≤ 33 → 0 ≤ n → n ≤ 4096 →
  (judgeL l d n).1 = (!(steepL l (33 - d) (4096 - n)).1 && plainL l) ∧ ((judgeL l d n).1 = true → (judgeL l d n).2 = 4096 - (steepL l (33 - d) (4096 - n)).2)
def JLawM (l : List (Str × Tree)) : Prop := ∀ (o : Option Str) (d n : Int), 1 ≤ d → d ≤ 33 → 0 ≤ n → n ≤ 4096 →
  (judgeM o l d n).1 = (!(steepM l (33 - d) (4096 - n)).1 && plainM o l) ∧ ((judgeM o l d n).1 = true → (judgeM o l d n).2 = 4096 - (steepM l (33 - d) (4096 - n)).2)
theorem jcomb {a b : Bool × Int} {p q : Bool} (f g : Int → Bool × Int) (h1 : a.1 = (!b.1 && p) ∧ (a.1 = true → a.2 = 4096 - b.2))
    (h2 : a.1 = true → (f a.2).1 = (!(g b.2).1 && q) ∧ ((f a.2).1 = true → (f a.2).2 = 4096 - (g b.2).2)) :
    (if a.1 = false then (false, a.2) else f a.2).1 = (!(if b.1 = true then (true, 0) else g b.2).1 && (p && q)) ∧ ((if a.1 = false then (false, a.2) else f a.2).1 = true → (if a.1 = false then (false, a.2) else f a.2).2 = 4096 - (if b.1 = true then (true, 0) else g b.2).2) := by
  obtain ⟨a1, a2⟩ := a
  obtain ⟨b1, b2⟩ := b
  simp only [] at h1 h2 ⊢
  obtain ⟨rfl, h3⟩ := h1
  cases b1 with
  | true => exact ⟨rfl, fun h => by cases h⟩
  | false =>
    cases p with
    | false => exact ⟨by simp, fun h => by cases h⟩
    | true => exact h2 rfl
theorem jlawL : ∀ l : List Tree, (∀ x ∈ l, JLaw x) → JLawL l
  | [], _, d, n, _, _, _, _ => by
    rw [judgeL, steepL, plainL]
    exact ⟨rfl, fun _ => by simp only []; omega⟩
  | t :: l, hl, d, n, hd, hd2, hn, hn2 => by
    have h1 := hl t (by simp) d n hd hd2 hn hn2
    have hb := judge_bound t d n hn (by omega)
    rw [judgeL_cons, steepL_cons, plainL]
    refine jcomb (fun n => judgeL l d n) (fun n => steepL l (33 - d) n) h1 fun hj => ?_
    have h2 := jlawL l (fun x hx => hl x (by simp [hx])) d (judgeT t d n).2 hd hd2 (by omega) (hb.2.2 hj)
    have e : 4096 - (judgeT t d n).2 = (steep t (33 - d) (4096 - n)).2 := by have := h1.2 hj; omega
    rw [e] at h2
    exact h2
theorem jlawM : ∀ l : List (Str × Tree), (∀ x ∈ l, JLaw x.2) → JLawM l
  | [], _, o, d, n, _, _, _, _ => by
    rw [judgeM, steepM, plainM]
    exact ⟨rfl, fun _ => by simp only []; omega⟩
  | (k, t) :: l, hl, o, d, n, hd, hd2, hn, hn2 => by
    have h1 := hl (k, t) (by simp) d n hd hd2 hn hn2
    simp only [] at h1
    have hb := judge_bound t d n hn (by omega)
    have key : ∀ b : Bool, (if b = true ∨ strOk k = false then (false, n) else if (judgeT t d n).1 = false then (false, (judgeT t d n).2) else judgeM (some k) l d (judgeT t d n).2).1 =
          (!(if (steep t (33 - d) (4096 - n)).1 = true then (true, 0) else steepM l (33 - d) (steep t (33 - d) (4096 - n)).2).1 && ((strOk k && (!b && plainT t)) && plainM (some k) l)) ∧
        ((if b = true ∨ strOk k = false then (false, n) else if (judgeT t d n).1 = false then (false, (judgeT t d n).2) else judgeM (some k) l d (judgeT t d n).2).1 = true →
          (if b = true ∨ strOk k = false then (false, n) else if (judgeT t d n).1 = false then (false, (judgeT t d n).2) else judgeM (some k) l d (judgeT t d n).2).2 = 4096 - (if (steep t (33 - d) (4096 - n)).1 = true then (true, 0) else steepM l (33 - d) (steep t (33 - d) (4096 - n)).2).2) := by
      intro b
      by_cases hc : b = true ∨ strOk k = false
      · rw [if_pos hc]
        refine ⟨?_, fun h => by cases h⟩
        have : (strOk k && (!b && plainT t)) = false := by
          rcases hc with h | h
          · rw [h]; simp
          · rw [h]; simp
        rw [this]
        simp
      · rw [if_neg hc]
        obtain ⟨c1, c2⟩ := not_or.1 hc
        have c1 : b = false := by simpa using c1
        have c2 : strOk k = true := by simpa using c2
        rw [c1, c2]
        simp only [Bool.not_false, Bool.true_and]
        refine jcomb (fun n => judgeM (some k) l d n) (fun n => steepM l (33 - d) n) h1 fun hj => ?_
        have h2 := jlawM l (fun x hx => hl x (by simp [hx])) (some k) d (judgeT t d n).2 hd hd2 (by omega) (hb.2.2 hj)
        have e : 4096 - (judgeT t d n).2 = (steep t (33 - d) (4096 - n)).2 := by have := h1.2 hj; omega
        rw [e] at h2
        exact h2
    rw [judgeM_cons, steepM_cons, plainM]
    cases o with
    | none => exact key false
    | some p => exact key (leqS k p)
theorem jlaw : ∀ t : Tree, JLaw t := by
  refine Tree.ind fun t hl hm d n hd hd2 hn hn2 => ?_
  have hL := jlawL t.l hl
  have hM := jlawM t.m hm
  rw [judgeT_eq, plainT_eq]
  rw [show steep t (33 - d) (4096 - n) = if 33 - d < 1 ∨ 4096 - n < 1 then (true, 0) else if (steepL t.l (33 - d - 1) (4096 - n - 1)).1 = true then (true, 0) else steepM t.m (33 - d - 1) (steepL t.l (33 - d - 1) (4096 - n - 1)).2 from by cases t; exact steep_mk _ _ _ _ _ _ _]
  by_cases h0 : 33 - d < 1 ∨ 4096 - n < 1
  · rw [if_pos h0, if_pos (by omega)]
    exact ⟨rfl, fun h => by cases h⟩
  · rw [if_neg h0]
    have hown : ownT t.kind t.n t.s t.l.length t.m.length = (decide (¬ ownBad t.kind t.n t.s.length t.l.length t.m.length) && nodeOk t.kind t.n t.s) := rfl
    by_cases hb : ownBad t.kind t.n t.s.length t.l.length t.m.length
    · rw [if_pos (Or.inr (Or.inr (by rw [hown, decide_eq_false (fun h => h hb), Bool.false_and]))), if_pos hb]
      exact ⟨by simp, fun h => by cases h⟩
    · rw [if_neg hb]
      rw [decide_eq_true hb, Bool.true_and] at hown
      cases hk : nodeOk t.kind t.n t.s with
      | false =>
        rw [if_pos (Or.inr (Or.inr (by rw [hown, hk])))]
        exact ⟨by simp, fun h => by cases h⟩
      | true =>
        rw [if_neg (by rw [hown, hk]; simp only [not_or]; exact ⟨by omega, by omega, by simp⟩), Bool.true_and]
        have h1 := hL (d + 1) (n + 1) (by omega) (by omega) (by omega) (by omega)
        rw [show 33 - (d + 1) = 33 - d - 1 by omega, show 4096 - (n + 1) = 4096 - n - 1 by omega] at h1
        have hbd := judgeL_bound t.l (d + 1) (n + 1) (by omega) (by omega)
        refine jcomb (fun n => judgeM none t.m (d + 1) n) (fun n => steepM t.m (33 - d - 1) n) h1 fun hj => ?_
        have h2 := hM none (d + 1) (judgeL t.l (d + 1) (n + 1)).2 (by omega) (by omega) (hbd hj).1 (hbd hj).2
        have e : 4096 - (judgeL t.l (d + 1) (n + 1)).2 = (steepL t.l (33 - d - 1) (4096 - n - 1)).2 := by have := h1.2 hj; omega
        rw [show 33 - (d + 1) = 33 - d - 1 by omega, e] at h2
        exact h2
theorem judge_law (t : Tree) : (judgeT t 1 0).1 = (!(steep t 32 4096).1 && plainT t) := (jlaw t 1 0 (by omega) (by omega) (by omega) (by omega)).1
end Go.Am
end

section
namespace Go.Proofs.YtaoejccgdpppgaaGreatDoor
open Go Go.Am
set_option maxRecDepth 100000
def textT (t : Tree) (b : Bool) : Str := if (judgeT t 1 0).1 = true then printT t (dd b 0) else []
theorem textT_eq (t : Tree) (b : Bool) : textT t b = if (!(steep t 32 4096).1 && plainT t) = true then printT t (dd b 0) else [] := by unfold textT; rw [judge_law]
theorem jprint_text (t : Tree) (hw : t.wt ≤ 1100000) (ho : okT t = true) (b : Bool) : AbsCall PP GG F.jprint_text [.p t.enc, .p (.bool b)] [] ⟨.ret (.p (.str (textT t b))), [], []⟩ := by
  have hG := value_Good t (by omega)
  unfold textT
  cases hj : (judgeT t 1 0).1 with
  | false =>
    rw [hj] at hG
    rw [if_neg (by simp)]
    rw [Tree.enc_eta t] at hG ⊢
    refine absCall_of (pol := polG) mixP F.jprint_text_is ?_
    conv => whnf
    repeat' ((first
     | ((with_reducible first | refine Br.dec ?_ ?_ | refine Br.ndec ?_ ?_) <;> intro hb <;> (try simp only [ZZ] at hb) <;> (first | omega | contradiction | skip))
     | (with_reducible first | refine Br.tt rfl ?_ | refine Br.ff rfl ?_ | refine Br.ff (isEmptyCons _ _) ?_)
     | (refine Side.mk ?_ ?_; focus (first | omega | (dsimp only [InR, Int.reduceToNat, IntKind.bits, Int.reducePow]; omega) | (simp [CC]; done) | (constructor <;> omega)))
     | with_reducible refine Br.not ?_
     | (with_reducible first | refine Br.tt (by assumption) ?_ | refine Br.ff (by assumption) ?_)
     | (refine Br.mk ?_ ?_ <;> intro hb <;> (try simp only [ZZ] at hb) <;> (first | omega | contradiction | skip))
     | refine Src.whole ⟨rfl, rfl⟩ ?_ | refine FrzV.whole ?_
     | refine CallW.use (hG) ?_) <;> conv => whnf)
    exact CLe.eq rfl
  | true =>
    rw [hj] at hG
    rw [if_pos rfl]
    have hp : plainT t = true := by
      rw [judge_law, Bool.and_eq_true] at hj
      exact hj.2
    have hg : goodT t = true := by unfold goodT; rw [hp, ho]; rfl
    have hlen := printT_len t (by omega) (dd b 0) (by unfold dd; split <;> omega) hg (by have := t.wt_pos; unfold dd; split <;> omega)
    have hne : printT t (dd b 0) ≠ [] := printT_ne hg _
    have hv := printer_value_new t (by omega) b 0 (by omega) (by omega) hg (by omega)
    have hS := Builder_String b (printT t (dd b 0)) hne (by omega)
    rw [Tree.enc_eta t] at hG hv ⊢
    refine absCall_of (pol := polG) mixP F.jprint_text_is ?_
    conv => whnf
    repeat' ((first
     | ((with_reducible first | refine Br.dec ?_ ?_ | refine Br.ndec ?_ ?_) <;> intro hb <;> (try simp only [ZZ] at hb) <;> (first | omega | contradiction | skip))
     | (with_reducible first | refine Br.tt rfl ?_ | refine Br.ff rfl ?_ | refine Br.ff (isEmptyCons _ _) ?_)
     | (refine Side.mk ?_ ?_; focus (first | omega | (dsimp only [InR, Int.reduceToNat, IntKind.bits, Int.reducePow]; omega) | (simp [CC]; done) | (constructor <;> omega)))
     | with_reducible refine Br.not ?_
     | (with_reducible first | refine Br.tt (by assumption) ?_ | refine Br.ff (by assumption) ?_)
     | (refine Br.mk ?_ ?_ <;> intro hb <;> (try simp only [ZZ] at hb) <;> (first | omega | contradiction | skip))
     | refine Src.whole ⟨rfl, rfl⟩ ?_ | refine FrzV.whole ?_
     | refine CallW.use (hG) ?_
     | refine CallW.use (hv) ?_
     | refine CallW.use (hS) ?_) <;> conv => whnf)
    exact CLe.eq rfl
theorem jprint_Compact (t : Tree) (hw : t.wt ≤ 1100000) (ho : okT t = true) : AbsCall PP GG F.jprint_Compact [.p t.enc] [] ⟨.ret (.p (.str (textT t false))), [], []⟩ := by
  have h := jprint_text t hw ho false
  rw [Tree.enc_eta t] at h ⊢
  refine absCall_of (pol := polG) mixP F.jprint_Compact_is ?_
  conv => whnf
  repeat' ((first
   | ((with_reducible first | refine Br.dec ?_ ?_ | refine Br.ndec ?_ ?_) <;> intro hb <;> (try simp only [ZZ] at hb) <;> (first | omega | contradiction | skip))
   | (with_reducible first | refine Br.tt rfl ?_ | refine Br.ff rfl ?_ | refine Br.ff (isEmptyCons _ _) ?_)
   | (refine Side.mk ?_ ?_; focus (first | omega | (dsimp only [InR, Int.reduceToNat, IntKind.bits, Int.reducePow]; omega) | (simp [CC]; done) | (constructor <;> omega)))
   | with_reducible refine Br.not ?_
   | (with_reducible first | refine Br.tt (by assumption) ?_ | refine Br.ff (by assumption) ?_)
   | (refine Br.mk ?_ ?_ <;> intro hb <;> (try simp only [ZZ] at hb) <;> (first | omega | contradiction | skip))
   | refine Src.whole ⟨rfl, rfl⟩ ?_ | refine FrzV.whole ?_
   | refine CallW.use (h) ?_) <;> conv => whnf)
  exact CLe.eq rfl
theorem jprint_Indent (t : Tree) (hw : t.wt ≤ 1100000) (ho : okT t = true) : AbsCall PP GG F.jprint_Indent [.p t.enc] [] ⟨.ret (.p (.str (textT t true))), [], []⟩ := by
  have h := jprint_text t hw ho true
  rw [Tree.enc_eta t] at h ⊢
  refine absCall_of (pol := polG) mixP F.jprint_Indent_is ?_
  conv => whnf
  repeat' ((first
   | ((with_reducible first | refine Br.dec ?_ ?_ | refine Br.ndec ?_ ?_) <;> intro hb <;> (try simp only [ZZ] at hb) <;> (first | omega | contradiction | skip))
   | (with_reducible first | refine Br.tt rfl ?_ | refine Br.ff rfl ?_ | refine Br.ff (isEmptyCons _ _) ?_)
   | (refine Side.mk ?_ ?_; focus (first | omega | (dsimp only [InR, Int.reduceToNat, IntKind.bits, Int.reducePow]; omega) | (simp [CC]; done) | (constructor <;> omega)))
   | with_reducible refine Br.not ?_
   | (with_reducible first | refine Br.tt (by assumption) ?_ | refine Br.ff (by assumption) ?_)
   | (refine Br.mk ?_ ?_ <;> intro hb <;> (try simp only [ZZ] at hb) <;> (first | omega | contradiction | skip))
   | refine Src.whole ⟨rfl, rfl⟩ ?_ | refine FrzV.whole ?_
   | refine CallW.use (h) ?_) <;> conv => whnf)
  exact CLe.eq rfl
def oneT : Tree := .mk 6 0 [] [] [([97], .mk 2 1 [] [] [])]
theorem law9_one : AbsCall PP GG F.law9_one [] [] ⟨.ret (.p oneT.enc), [], []⟩ := by
  refine absCall_of (pol := polG) mixP F.law9_one_is ?_
  conv => whnf
  repeat' ((first
   | ((with_reducible first | refine Br.dec ?_ ?_ | refine Br.ndec ?_ ?_) <;> intro hb <;> (try simp only [ZZ] at hb) <;> (first | omega | contradiction | skip))
   | (with_reducible first | refine Br.tt rfl ?_ | refine Br.ff rfl ?_ | refine Br.ff (isEmptyCons _ _) ?_)
   | (refine Side.mk ?_ ?_; focus (first | omega | (dsimp only [InR, Int.reduceToNat, IntKind.bits, Int.reducePow]; omega) | (simp [CC]; done) | (constructor <;> omega)))
   | with_reducible refine Br.not ?_
   | (with_reducible first | refine Br.tt (by assumption) ?_ | refine Br.ff (by assumption) ?_)
   | (refine Br.mk ?_ ?_ <;> intro hb <;> (try simp only [ZZ] at hb) <;> (first | omega | contradiction | skip))
   | refine Src.whole ⟨rfl, rfl⟩ ?_ | refine FrzV.whole ?_
   | (refine FrzV.mk _ rfl ?_)
   | (refine FrzO.mk _ rfl ?_)) <;> conv => whnf)
  refine CLe.ret (PLe.p ?_)
  show PLe (.agg [.int .i64 6, .int .i64 0, .str [], .nils, .lst false [.agg [.str [97], .int .i64 2, .int .i64 1, .str [], .nils, .nils]]]) (.agg [.int .i64 6, .int .i64 0, .str [], .lst false [], .lst false [.agg [.str [97], .int .i64 2, .int .i64 1, .str [], .lst false [], .lst false []]]])
  refine PLe.agg ⟨PLe.refl _, PLe.refl _, PLe.refl _, PLe.nils _, PLe.lstE rfl ?_ ?_ ⟨PLe.refl _, PLe.refl _, PLe.refl _, PLe.refl _, PLe.nils _, PLe.nils _, trivial⟩, trivial⟩
  · intro sz h y hy
    have := h _ (List.mem_singleton.2 rfl)
    rw [List.mem_singleton] at hy
    subst hy
    exact this
  · intro x hx
    simp only [flat, List.flatMap_cons, List.flatMap_nil, PV.cells, List.append_nil, List.mem_cons, List.mem_nil_iff, or_false] at hx
    rcases hx with rfl | rfl | rfl | rfl | rfl | rfl <;> rfl
theorem awake_texts : textT oneT false = [123, 34, 97, 34, 58, 49, 125] ∧ textT oneT true = [123, 10, 32, 32, 34, 97, 34, 58, 32, 49, 10, 125] := by
  have h1 : Lib.itoa 1 = [49] := itoa_small (u := 1) (by omega)
  have hp : (judgeT oneT 1 0).1 = true := by decide +kernel
  unfold textT
  rw [if_pos hp, if_pos hp]
  have e : ∀ d, printT oneT d = 123 :: ((lineL (deeper d) ++ ((quoteS [97] ++ (colonL (deeper d) ++ Lib.itoa 1)) ++ [])) ++ (lineL d ++ [125])) := fun d => rfl
  rw [e, e, h1]
  exact ⟨by decide +kernel, by decide +kernel⟩
theorem law9_awake : AbsCall PP GG F.law9_awake [] [] ⟨.ret (.p (.bool true)), [], []⟩ := by
  have hC := jprint_Compact oneT (by decide) (by decide)
  have hI := jprint_Indent oneT (by decide) (by decide)
  rw [awake_texts.1] at hC
  rw [awake_texts.2] at hI
  refine absCall_of (pol := polG) mixP F.law9_awake_is ?_
  conv => whnf
  repeat' ((first
   | ((with_reducible first | refine Br.dec ?_ ?_ | refine Br.ndec ?_ ?_) <;> intro hb <;> (try simp only [ZZ] at hb) <;> (first | omega | contradiction | skip))
   | (with_reducible first | refine Br.tt rfl ?_ | refine Br.ff rfl ?_ | refine Br.ff (isEmptyCons _ _) ?_)
   | (refine Side.mk ?_ ?_; focus (first | omega | (dsimp only [InR, Int.reduceToNat, IntKind.bits, Int.reducePow]; omega) | (simp [CC]; done) | (constructor <;> omega)))
   | with_reducible refine Br.not ?_
   | (with_reducible first | refine Br.tt (by assumption) ?_ | refine Br.ff (by assumption) ?_)
   | (refine Br.mk ?_ ?_ <;> intro hb <;> (try simp only [ZZ] at hb) <;> (first | omega | contradiction | skip))
   | refine Src.whole ⟨rfl, rfl⟩ ?_ | refine FrzV.whole ?_
   | refine CallW.use (law9_one) ?_
   | refine CallW.use (hC) ?_
   | refine CallW.use (hI) ?_) <;> conv => whnf)
  all_goals exact CLe.retP rfl
end Go.Proofs.YtaoejccgdpppgaaGreatDoor
end

section
namespace Go.Proofs
open Go.Shelf
def Tryz.lays161_ren : Go.Shelf.Ren := ⟨fun | 161 => 64 | 231 => 84 | 227 => 85 | 233 => 86 | 235 => 87 | 228 => 111 | 197 => 112 | 151 => 113 | 260 => 139 | 152 => 140 | 137 => 65 | 119 => 166 | 224 => 167 | 225 => 168 | 217 => 88 | 266 => 114 | n => n, fun | 9 => 9 | 4 => 4 | 3 => 3 | 5 => 5 | 117 => 122 | 116 => 121 | 0 => 0 | 124 => 125 | 105 => 142 | 21 => 21 | 119 => 188 | 46 => 106 | 139 => 191 | 138 => 190 | n => n, fun | 3 => 2 | 4 => 3 | n => n⟩
theorem Tryz.lays161 : Go.Proofs.Lays.n161 Tryz.prog Tryz.lays161_ren := {
  mixed := by kernel_rfl
  f119 := Tryz.func166.trans (congrArg some (by kernel_rfl))
  f137 := Tryz.func65.trans (congrArg some (by kernel_rfl))
  f151 := Tryz.func113.trans (congrArg some (by kernel_rfl))
  f152 := Tryz.func140.trans (congrArg some (by kernel_rfl))
  f161 := Tryz.func64.trans (congrArg some (by kernel_rfl))
  f197 := Tryz.func112.trans (congrArg some (by kernel_rfl))
  f217 := Tryz.func88.trans (congrArg some (by kernel_rfl))
  f224 := Tryz.func167.trans (congrArg some (by kernel_rfl))
  f225 := Tryz.func168.trans (congrArg some (by kernel_rfl))
  f227 := Tryz.func85.trans (congrArg some (by kernel_rfl))
  f228 := Tryz.func111.trans (congrArg some (by kernel_rfl))
  f231 := Tryz.func84.trans (congrArg some (by kernel_rfl))
  f233 := Tryz.func86.trans (congrArg some (by kernel_rfl))
  f235 := Tryz.func87.trans (congrArg some (by kernel_rfl))
  f260 := Tryz.func139.trans (congrArg some (by kernel_rfl))
  f266 := Tryz.func114.trans (congrArg some (by kernel_rfl))
  t0 := Tryz.underlying0
  a0 := Tryz.isAgg0
  z0 := Tryz.sizeOf0
  v0 := Tryz.zeroValue0
  t3 := Tryz.underlying3
  a3 := Tryz.isAgg3
  z3 := Tryz.sizeOf3
  v3 := Tryz.zeroValue3
  t4 := Tryz.underlying4
  a4 := Tryz.isAgg4
  z4 := Tryz.sizeOf4
  v4 := Tryz.zeroValue4
  t5 := Tryz.underlying5
  a5 := Tryz.isAgg5
  z5 := Tryz.sizeOf5
  v5 := Tryz.zeroValue5
  t9 := Tryz.underlying9
  a9 := Tryz.isAgg9
  z9 := Tryz.sizeOf9
  v9 := Tryz.zeroValue9
  t21 := Tryz.underlying21
  a21 := Tryz.isAgg21
  z21 := Tryz.sizeOf21
  v21 := Tryz.zeroValue21
  t46 := Tryz.underlying106
  a46 := Tryz.isAgg106
  z46 := Tryz.sizeOf106
  v46 := Tryz.zeroValue106
  t105 := Tryz.underlying142
  a105 := Tryz.isAgg142
  z105 := Tryz.sizeOf142
  v105 := Tryz.zeroValue142
  t116 := Tryz.underlying121
  a116 := Tryz.isAgg121
  z116 := Tryz.sizeOf121
  t117 := Tryz.underlying122
  a117 := Tryz.isAgg122
  z117 := Tryz.sizeOf122
  v117 := Tryz.zeroValue122
  t119 := Tryz.underlying188
  a119 := Tryz.isAgg188
  z119 := Tryz.sizeOf188
  t124 := Tryz.underlying125
  a124 := Tryz.isAgg125
  z124 := Tryz.sizeOf125
  v124 := Tryz.zeroValue125
  t138 := Tryz.underlying190
  a138 := Tryz.isAgg190
  z138 := Tryz.sizeOf190
  v138 := Tryz.zeroValue190
  t139 := Tryz.underlying191
  a139 := Tryz.isAgg191
  z139 := Tryz.sizeOf191
  v139 := Tryz.zeroValue191
  g3 := by kernel_rfl
  g4 := by kernel_rfl }
def Tryz.lays138_ren : Go.Shelf.Ren := ⟨fun | 138 => 96 | 195 => 122 | 218 => 123 | 143 => 124 | 219 => 148 | 217 => 88 | 225 => 168 | 224 => 167 | 267 => 173 | 266 => 114 | 314 => 186 | n => n, fun | 9 => 9 | 3 => 3 | 4 => 4 | 5 => 5 | 0 => 0 | 46 => 106 | 146 => 184 | 51 => 181 | n => n, fun | 1 => 0 | n => n⟩
theorem Tryz.lays138 : Go.Proofs.Lays.n138 Tryz.prog Tryz.lays138_ren := {
  mixed := by kernel_rfl
  f138 := Tryz.func96.trans (congrArg some (by kernel_rfl))
  f143 := Tryz.func124.trans (congrArg some (by kernel_rfl))
  f195 := Tryz.func122.trans (congrArg some (by kernel_rfl))
  f217 := Tryz.func88.trans (congrArg some (by kernel_rfl))
  f218 := Tryz.func123.trans (congrArg some (by kernel_rfl))
  f219 := Tryz.func148.trans (congrArg some (by kernel_rfl))
  f224 := Tryz.func167.trans (congrArg some (by kernel_rfl))
  f225 := Tryz.func168.trans (congrArg some (by kernel_rfl))
  f266 := Tryz.func114.trans (congrArg some (by kernel_rfl))
  f267 := Tryz.func173.trans (congrArg some (by kernel_rfl))
  f314 := Tryz.func186.trans (congrArg some (by kernel_rfl))
  t0 := Tryz.underlying0
  a0 := Tryz.isAgg0
  z0 := Tryz.sizeOf0
  v0 := Tryz.zeroValue0
  t3 := Tryz.underlying3
  a3 := Tryz.isAgg3
  z3 := Tryz.sizeOf3
  v3 := Tryz.zeroValue3
  t4 := Tryz.underlying4
  a4 := Tryz.isAgg4
  z4 := Tryz.sizeOf4
  v4 := Tryz.zeroValue4
  t5 := Tryz.underlying5
  a5 := Tryz.isAgg5
  z5 := Tryz.sizeOf5
  v5 := Tryz.zeroValue5
  t9 := Tryz.underlying9
  a9 := Tryz.isAgg9
  z9 := Tryz.sizeOf9
  v9 := Tryz.zeroValue9
  t46 := Tryz.underlying106
  a46 := Tryz.isAgg106
  z46 := Tryz.sizeOf106
  v46 := Tryz.zeroValue106
  t51 := Tryz.underlying181
  a51 := Tryz.isAgg181
  z51 := Tryz.sizeOf181
  v51 := Tryz.zeroValue181
  t146 := Tryz.underlying184
  a146 := Tryz.isAgg184
  z146 := Tryz.sizeOf184
  v146 := Tryz.zeroValue184
  g1 := by kernel_rfl }
def Tryz.lays149_ren : Go.Shelf.Ren := ⟨fun | 149 => 95 | 222 => 121 | n => n, fun | 9 => 9 | 5 => 5 | 3 => 3 | 4 => 4 | n => n, fun | n => n⟩
theorem Tryz.lays149 : Go.Proofs.Lays.n149 Tryz.prog Tryz.lays149_ren := {
  mixed := by kernel_rfl
  f149 := Tryz.func95.trans (congrArg some (by kernel_rfl))
  f222 := Tryz.func121.trans (congrArg some (by kernel_rfl))
  t3 := Tryz.underlying3
  a3 := Tryz.isAgg3
  z3 := Tryz.sizeOf3
  v3 := Tryz.zeroValue3
  t4 := Tryz.underlying4
  a4 := Tryz.isAgg4
  z4 := Tryz.sizeOf4
  v4 := Tryz.zeroValue4
  t5 := Tryz.underlying5
  a5 := Tryz.isAgg5
  z5 := Tryz.sizeOf5
  v5 := Tryz.zeroValue5
  t9 := Tryz.underlying9
  a9 := Tryz.isAgg9
  z9 := Tryz.sizeOf9
  v9 := Tryz.zeroValue9 }
open Go.RowKit Go.Lib in
theorem Tryz.strings_Count_one (s : ByteArray) (c : UInt8) (w : World) :
    Calls Tryz.prog 96 #[.string s, .string ⟨#[c]⟩] w fun e w' => e = .returned (.int .i64 (Lib.countByte s.data.toList c)) ∧ w' = w := Any.strings_Count_one Tryz.lays138 s c w
open Go.RowKit Go.Lib in
theorem Tryz.strings_LastIndexByte (s : ByteArray) (c : Int) (hs : s.size < 4611686018427387904) (w : World) :
    Calls Tryz.prog 95 #[.string s, .int .u8 c] w fun e w' => e = .returned (.int .i64 (Lib.lastIndexByte s c)) ∧ w' = w := Any.strings_LastIndexByte Tryz.lays149 s c hs w
open Go.RowKit Go.Lib in
theorem Tryz.strings_IndexAny_laid (s chars : ByteArray) (w : World) (hs : s.size < 4294967281) (hcs : chars.size < 4294967281) (has : ∀ (j : Nat) b, s.data.toList[j]? = some b → b.toNat < 128) (hac : ∀ (j : Nat) b, chars.data.toList[j]? = some b → b.toNat < 128) :
    Calls Tryz.prog 120 #[.string s, .string chars] w fun e w' => e = .returned (.int .i64 (Lib.indexAny s.data.toList chars.data.toList)) ∧ Below w.heap.size w w' := Any.strings_IndexAny_laid Tryz.lays153 (by kernel_rfl) s chars w hs hcs has hac
open Go.RowKit Go.Lib in
theorem Tryz.strings_TrimLeft_laid (s cutset : ByteArray) (w : World) (hcs : cutset.size < 4294967281) (hascii : ∀ (j : Nat) b, cutset.data.toList[j]? = some b → b.toNat < 128) :
    Calls Tryz.prog 64 #[.string s, .string cutset] w fun e w' => e = .returned (.string ⟨(Lib.trimLeftS s.data.toList cutset.data.toList).toArray⟩) ∧ Below w.heap.size w w' := Any.strings_TrimLeft_laid Tryz.lays161 (by kernel_rfl) s cutset w hcs hascii
end Go.Proofs
end

section
namespace Go.Am
open Go
def clampL (s : Str) (at_ : Int) : Int := min (max at_ 0) s.length
theorem clampL_le (s : Str) (a : Int) : 0 ≤ clampL s a ∧ clampL s a ≤ s.length := by
  unfold clampL; omega
def stepI (s : Str) : Int := max (utfTake s).2 1
def countL : Nat → Str → Int
  | 0, _ => 0
  | q + 1, s => if s = [] then 0 else countL q (s.drop (stepI s).toNat) + 1
def utfCount (s : Str) : Int := countL s.length s
theorem stepI_le (s : Str) (h : s ≠ []) : 1 ≤ stepI s ∧ stepI s ≤ 4 ∧ stepI s ≤ s.length := by
  have := utfTake_n s
  have h1 : 0 < s.length := List.length_pos_iff.2 h
  unfold stepI
  omega
theorem countL_le : ∀ (q : Nat) (s : Str), s.length ≤ q → 0 ≤ countL q s ∧ countL q s ≤ s.length := by
  intro q
  induction q with
  | zero => intro s _; rw [countL]; omega
  | succ q ih =>
    intro s hs
    rw [countL]
    split
    · omega
    · rename_i h
      have h1 := stepI_le s h
      have := ih (s.drop (stepI s).toNat) (by rw [List.length_drop]; omega)
      rw [List.length_drop] at this
      omega
def aheadL (s : Str) (a : Int) : Str := s.take (clampL s a).toNat
def beginL (s : Str) (a : Int) : Int := Lib.lastIndexByte ⟨(aheadL s a).toArray⟩ 10 + 1
def placeL (s : Str) (a : Int) : Int × Int := ((Lib.countByte (aheadL s a) 10 : Int) + 1, utfCount ((aheadL s a).drop (beginL s a).toNat) + 1)
def whileL (s c : Str) : Nat := (s.takeWhile (c.contains ·)).length
theorem whileL_le (s c : Str) : whileL s c ≤ s.length := List.takeWhile_sublist _ |>.length_le
theorem while_eq (s c : Str) : (s.length : Int) - ((Lib.trimLeftS s c).length : Int) = whileL s c := by
  unfold whileL Lib.trimLeftS
  have := congrArg List.length (List.takeWhile_append_dropWhile (p := (c.contains ·)) (l := s))
  rw [List.length_append] at this
  omega
theorem trim_eq (s c : Str) : Lib.trimLeftS s c = s.drop (whileL s c) := by
  unfold whileL Lib.trimLeftS
  induction s with
  | nil => rfl
  | cons b s ih =>
    rw [List.dropWhile_cons, List.takeWhile_cons]
    split
    · rw [List.length_cons, List.drop_succ_cons, ih]
    · rfl
end Go.Am
namespace Go.Am
def e2 : Str := [101, 69]
def d10 : Str := [48, 49, 50, 51, 52, 53, 54, 55, 56, 57]
def behindE (s : Str) : Str := (s.drop (Lib.indexAny s e2 + 1).toNat).drop (whileL (s.drop (Lib.indexAny s e2 + 1).toNat) d10)
def greatL (s : Str) : Bool :=
  if Lib.indexAny s e2 < 0 then false else
  if behindE s = s.drop (Lib.indexAny s e2 + 1).toNat ∧ 0 < ((behindE s).length : Int) ∧ ((((behindE s).getD 0 0).toNat : Int) = 43 ∨ (((behindE s).getD 0 0).toNat : Int) = 45) then
    decide (((behindE s).drop 1).length ≠ 0 ∧ whileL ((behindE s).drop 1) d10 = ((behindE s).drop 1).length) && numL (s.take (Lib.indexAny s e2).toNat)
  else decide ((behindE s).length = 0 ∧ Lib.indexAny s e2 + 1 < s.length) && numL (s.take (Lib.indexAny s e2).toNat)
def jnumL (s : Str) : Int := if 400 < s.length then 2 else if numL s = true then 0 else if greatL s = true then 6 else 4
theorem indexAny_lt (s c : Str) : Lib.indexAny s c < s.length ∨ Lib.indexAny s c = -1 := by
  induction s with
  | nil => right; rfl
  | cons b s ih =>
    rw [Lib.indexAny]
    split
    · left; simp only [List.length_cons]; omega
    · split
      · right; rfl
      · rename_i h
        simp only [beq_iff_eq] at h
        left
        simp only [List.length_cons]
        omega
end Go.Am
end

section
namespace Go.Proofs.YtaoejccgdpppgaaGreatDoor
open Go Go.Am Go.RowKit
set_option maxRecDepth 100000
theorem strings_LastIndexByte (s : Str) (c : Int) (hs : s.length ≤ 1073741824) (H : Heap) :
    AbsCall PP GG F.strings_LastIndexByte [.p (.str s), .p (.int .u8 c)] H ⟨.ret (.p (.int .i64 (Lib.lastIndexByte ⟨s.toArray⟩ c))), H, []⟩ := by
  refine absBelow fun B L w vs _ ha hg => ?_
  obtain ⟨v, u, rfl, hv, hu⟩ := vrel2 ha
  obtain rfl := vstr hv
  obtain rfl := vint hu
  refine CallTo.of_calls Tryz.func95 (by kernel_rfl) rfl ((Tryz.strings_LastIndexByte ⟨s.toArray⟩ c (by simp [ByteArray.size]; omega) w).mono ?_)
  rintro e w' ⟨rfl, rfl⟩
  exact ⟨Below.refl _ _, _, rfl, .p _ _ (.int _ _)⟩
theorem strings_Count (s : Str) (c : UInt8) (H : Heap) :
    AbsCall PP GG F.strings_Count [.p (.str s), .p (.str [c])] H ⟨.ret (.p (.int .i64 (Lib.countByte s c))), H, []⟩ := by
  refine absBelow fun B L w vs _ ha hg => ?_
  obtain ⟨v, u, rfl, hv, hu⟩ := vrel2 ha
  obtain rfl := vstr hv
  obtain rfl := vstr hu
  refine CallTo.of_calls Tryz.func96 (by kernel_rfl) rfl ((Tryz.strings_Count_one ⟨s.toArray⟩ c w).mono ?_)
  rintro e w' ⟨rfl, rfl⟩
  exact ⟨Below.refl _ _, _, rfl, by simpa using VRel.p _ _ (.int _ _)⟩
theorem strings_IndexAny (s c : List UInt8) (hs : s.length < 4294967281) (hc : c.length < 4294967281) (h1 : ∀ (j : Nat) (b : UInt8), s[j]? = some b → b.toNat < 128) (h2 : ∀ (j : Nat) (b : UInt8), c[j]? = some b → b.toNat < 128) (H : Heap) :
    AbsCall PP GG F.strings_IndexAny [.p (.str s), .p (.str c)] H ⟨.ret (.p (.int .i64 (Lib.indexAny s c))), H, []⟩ := by
  refine absBelow fun B L w vs _ ha hg => ?_
  obtain ⟨v, u, rfl, hv, hu⟩ := vrel2 ha
  obtain rfl := vstr hv
  obtain rfl := vstr hu
  refine CallTo.of_calls Tryz.func120 (by kernel_rfl) rfl ((Tryz.strings_IndexAny_laid ⟨s.toArray⟩ ⟨c.toArray⟩ w (by simpa [ByteArray.size] using hs) (by simpa [ByteArray.size] using hc) (by simpa using h1) (by simpa using h2)).mono ?_)
  rintro e w' ⟨rfl, hb⟩
  exact ⟨hb, _, rfl, by simpa using VRel.p _ _ (.int _ _)⟩
theorem strings_TrimSet (s c : List UInt8) (hc : c.length < 4294967281) (h2 : ∀ (j : Nat) (b : UInt8), c[j]? = some b → b.toNat < 128) (H : Heap) :
    AbsCall PP GG F.strings_TrimLeft [.p (.str s), .p (.str c)] H ⟨.ret (.p (.str (Lib.trimLeftS s c))), H, []⟩ := by
  refine absBelow fun B L w vs _ ha hg => ?_
  obtain ⟨v, u, rfl, hv, hu⟩ := vrel2 ha
  obtain rfl := vstr hv
  obtain rfl := vstr hu
  refine CallTo.of_calls Tryz.func64 (by kernel_rfl) rfl ((Tryz.strings_TrimLeft_laid ⟨s.toArray⟩ ⟨c.toArray⟩ w (by simpa [ByteArray.size] using hc) (by simpa using h2)).mono ?_)
  rintro e w' ⟨rfl, hb⟩
  exact ⟨hb, _, rfl, by simpa using VRel.p _ _ (.str _)⟩
theorem place_clamp (s : Str) (a : Int) (ha : -1073741824 ≤ a ∧ a ≤ 1073741824) (hs : s.length ≤ 1073741824) : AbsCall PP GG F.place_clamp [.p (.str s), .p (.int .i64 a)] [] ⟨.ret (.p (.int .i64 (clampL s a))), [], []⟩ := by
  refine absCall_of (pol := polG) mixP F.place_clamp_is ?_
  conv => whnf
  repeat' ((first
   | ((with_reducible first | refine Br.dec ?_ ?_ | refine Br.ndec ?_ ?_) <;> intro hb <;> (try simp only [ZZ] at hb) <;> (first | omega | contradiction | skip))
   | (with_reducible first | refine Br.tt rfl ?_ | refine Br.ff rfl ?_ | refine Br.ff (isEmptyCons _ _) ?_)
   | (refine Side.mk ?_ ?_; focus (first | omega | (dsimp only [InR, Int.reduceToNat, IntKind.bits, Int.reducePow]; omega) | (simp [CC]; done) | (constructor <;> omega)))
   | with_reducible refine Br.not ?_
   | (with_reducible first | refine Br.tt (by assumption) ?_ | refine Br.ff (by assumption) ?_)
   | (refine Br.mk ?_ ?_ <;> intro hb <;> (try simp only [ZZ] at hb) <;> (first | omega | contradiction | skip))
   | refine Src.whole ⟨rfl, rfl⟩ ?_ | refine FrzV.whole ?_) <;> conv => whnf)
  all_goals exact CLe.retP (by unfold clampL; congr 1; omega)
theorem utf_step (s : Str) (hs : s.length ≤ 1073741824) : AbsCall PP GG F.utf_step [.p (.str s)] [] ⟨.ret (.p (.int .i64 (stepI s))), [], []⟩ := by
  have hn := utfTake_n s
  refine absCall_of (pol := polG) mixP F.utf_step_is ?_
  conv => whnf
  repeat' ((first
   | ((with_reducible first | refine Br.dec ?_ ?_ | refine Br.ndec ?_ ?_) <;> intro hb <;> (try simp only [ZZ] at hb) <;> (first | omega | contradiction | skip))
   | (with_reducible first | refine Br.tt rfl ?_ | refine Br.ff rfl ?_ | refine Br.ff (isEmptyCons _ _) ?_)
   | (refine Side.mk ?_ ?_; focus (first | omega | (dsimp only [InR, Int.reduceToNat, IntKind.bits, Int.reducePow]; omega) | (simp [CC]; done) | (constructor <;> omega)))
   | with_reducible refine Br.not ?_
   | (with_reducible first | refine Br.tt (by assumption) ?_ | refine Br.ff (by assumption) ?_)
   | (refine Br.mk ?_ ?_ <;> intro hb <;> (try simp only [ZZ] at hb) <;> (first | omega | contradiction | skip))
   | refine Src.whole ⟨rfl, rfl⟩ ?_ | refine FrzV.whole ?_
   | refine CallW.use (utf_Take s hs) ?_) <;> conv => whnf)
  all_goals exact CLe.retP (by unfold stepI; congr 1; omega)
theorem count_loop (s : Str) (hs : s.length ≤ 1073741824) (R : Int) (K : Post)
    (h0 : K (.exit 0) [(3, .p (.int .i64 R))] [] []) :
    ∀ (q i : Nat) (n : Int), s.length ≤ i + q → i ≤ s.length → 0 ≤ n → n ≤ i → countL q (s.drop i) + n = R →
      LoopW PP GG 18 0 (loopN F.utf_Count_c 0) [(0, .p (.str s)), (3, .p (.int .i64 n)), (4, .p (.int .i64 i))] [] [] (PostCl 18 K) := by
  intro q
  induction q with
  | zero =>
    intro i n hi hil hn0 hn1 hR
    rw [countL, Int.zero_add] at hR
    subst hR
    refine LoopW.round (pol := polG) mixP ?_
    conv => whnf
    repeat' ((first
     | ((with_reducible first | refine Br.dec ?_ ?_ | refine Br.ndec ?_ ?_) <;> intro hb <;> (try simp only [ZZ] at hb) <;> (first | omega | contradiction | skip))
     | (with_reducible first | refine Br.tt rfl ?_ | refine Br.ff rfl ?_ | refine Br.ff (isEmptyCons _ _) ?_)
     | (refine Side.mk ?_ ?_; focus (first | omega | (dsimp only [InR, Int.reduceToNat, IntKind.bits, Int.reducePow]; omega) | (simp [CC]; done) | (constructor <;> omega)))
     | with_reducible refine Br.not ?_
     | (with_reducible first | refine Br.tt (by assumption) ?_ | refine Br.ff (by assumption) ?_)
     | (refine Br.mk ?_ ?_ <;> intro hb <;> (try simp only [ZZ] at hb) <;> (first | omega | contradiction | skip))
     | refine Src.whole ⟨rfl, rfl⟩ ?_ | refine FrzV.whole ?_) <;> conv => whnf)
    · refine PostCl.of (h0) ?_ ?_
      · repeat first | exact trivial | refine ⟨VLe.refl _, ?_⟩
      · repeat first | exact trivial | refine ⟨by decide, ?_⟩
  | succ q ih =>
    intro i n hi hil hn0 hn1 hR
    have hdl : (s.drop i).length = s.length - i := List.length_drop
    rw [countL] at hR
    by_cases he : s.drop i = []
    · rw [if_pos he, Int.zero_add] at hR
      subst hR
      have : (s.drop i).length = 0 := by rw [he]; rfl
      refine LoopW.round (pol := polG) mixP ?_
      conv => whnf
      repeat' ((first
       | ((with_reducible first | refine Br.dec ?_ ?_ | refine Br.ndec ?_ ?_) <;> intro hb <;> (try simp only [ZZ] at hb) <;> (first | omega | contradiction | skip))
       | (with_reducible first | refine Br.tt rfl ?_ | refine Br.ff rfl ?_ | refine Br.ff (isEmptyCons _ _) ?_)
       | (refine Side.mk ?_ ?_; focus (first | omega | (dsimp only [InR, Int.reduceToNat, IntKind.bits, Int.reducePow]; omega) | (simp [CC]; done) | (constructor <;> omega)))
       | with_reducible refine Br.not ?_
       | (with_reducible first | refine Br.tt (by assumption) ?_ | refine Br.ff (by assumption) ?_)
       | (refine Br.mk ?_ ?_ <;> intro hb <;> (try simp only [ZZ] at hb) <;> (first | omega | contradiction | skip))
       | refine Src.whole ⟨rfl, rfl⟩ ?_ | refine FrzV.whole ?_) <;> conv => whnf)
      · refine PostCl.of (h0) ?_ ?_
        · repeat first | exact trivial | refine ⟨VLe.refl _, ?_⟩
        · repeat first | exact trivial | refine ⟨by decide, ?_⟩
    · rw [if_neg he] at hR
      have hst := stepI_le _ he
      have hsp := utf_step (s.drop i) (by omega)
      refine LoopW.round (pol := polG) mixP ?_
      conv => whnf
      repeat' ((first
       | ((with_reducible first | refine Br.dec ?_ ?_ | refine Br.ndec ?_ ?_) <;> intro hb <;> (try simp only [ZZ] at hb) <;> (first | omega | contradiction | skip))
       | (with_reducible first | refine Br.tt rfl ?_ | refine Br.ff rfl ?_ | refine Br.ff (isEmptyCons _ _) ?_)
       | (refine Side.mk ?_ ?_; focus (first | omega | (dsimp only [InR, Int.reduceToNat, IntKind.bits, Int.reducePow]; omega) | (simp [CC]; done) | (constructor <;> omega)))
       | with_reducible refine Br.not ?_
       | (with_reducible first | refine Br.tt (by assumption) ?_ | refine Br.ff (by assumption) ?_)
       | (refine Br.mk ?_ ?_ <;> intro hb <;> (try simp only [ZZ] at hb) <;> (first | omega | contradiction | skip))
       | refine Src.whole ⟨rfl, rfl⟩ ?_ | refine FrzV.whole ?_
       | refine CallW.use (hsp) ?_) <;> conv => whnf)
      obtain ⟨k, hk⟩ := Int.eq_ofNat_of_zero_le (show 0 ≤ stepI (s.drop i) by omega)
      rw [hk] at hst hR ⊢
      rw [Int.toNat_natCast, List.drop_drop] at hR
      refine LoopW.sub (ih (i + k) (n + 1) (by omega) (by omega) (by omega) (by omega) (by rw [← hR]; omega)) (by repeat first | exact trivial | refine ⟨VLe.refl _, ?_⟩) (by repeat first | exact trivial | refine ⟨by decide, ?_⟩)
theorem utf_Count (s : Str) (hs : s.length ≤ 1073741824) : AbsCall PP GG F.utf_Count [.p (.str s)] [] ⟨.ret (.p (.int .i64 (utfCount s))), [], []⟩ := by
  refine absCall_of (pol := polG) mixP F.utf_Count_is ?_
  conv => whnf
  refine LoopW.cl ?_
  refine LoopW.sub (count_loop s hs (utfCount s) _ ?_ s.length 0 0 (by omega) (by omega) (by omega) (by omega) (by simp [utfCount])) (by repeat first | exact trivial | refine ⟨VLe.refl _, ?_⟩) (by repeat first | exact trivial | refine ⟨by decide, ?_⟩)
  conv => whnf
  exact CLe.eq rfl
theorem place_Of (s : Str) (a : Int) (ha : -1073741824 ≤ a ∧ a ≤ 1073741824) (hs : s.length ≤ 1073741824) : AbsCall PP GG F.place_Of [.p (.str s), .p (.int .i64 a)] [] ⟨.ret (.tup [.p (.int .i64 (placeL s a).1), .p (.int .i64 (placeL s a).2)]), [], []⟩ := by
  have hc := clampL_le s a
  have hl : (aheadL s a).length = (clampL s a).toNat := by unfold aheadL; rw [List.length_take]; omega
  have hb : -1 ≤ Lib.lastIndexByte ⟨(aheadL s a).toArray⟩ 10 ∧ Lib.lastIndexByte ⟨(aheadL s a).toArray⟩ 10 < (aheadL s a).length ∨ Lib.lastIndexByte ⟨(aheadL s a).toArray⟩ 10 = -1 := by
    rcases Lib.lastIndexByte_spec ⟨(aheadL s a).toArray⟩ 10 with h | ⟨i, h1, h2, _⟩
    · right; exact h.1
    · left
      have : (ByteArray.mk (aheadL s a).toArray).size = (aheadL s a).length := by simp [ByteArray.size]
      omega
  have hcn : (Lib.countByte (aheadL s a) 10 : Int) ≤ (aheadL s a).length := by
    have := List.count_le_length (a := (10 : UInt8)) (l := aheadL s a)
    unfold Lib.countByte
    omega
  have hcl := countL_le ((aheadL s a).drop (beginL s a).toNat).length _ (Nat.le_refl _)
  change 0 ≤ utfCount _ ∧ utfCount _ ≤ _ at hcl
  rw [List.length_drop] at hcl
  unfold placeL
  unfold beginL at hcl ⊢
  unfold aheadL at *
  refine absCall_of (pol := polG) mixP F.place_Of_is ?_
  conv => whnf
  repeat' ((first
   | ((with_reducible first | refine Br.dec ?_ ?_ | refine Br.ndec ?_ ?_) <;> intro hb <;> (try simp only [ZZ] at hb) <;> (first | omega | contradiction | skip))
   | (with_reducible first | refine Br.tt rfl ?_ | refine Br.ff rfl ?_ | refine Br.ff (isEmptyCons _ _) ?_)
   | (refine Side.mk ?_ ?_; focus (first | omega | (dsimp only [InR, Int.reduceToNat, IntKind.bits, Int.reducePow]; omega) | (simp [CC]; done) | (constructor <;> omega)))
   | with_reducible refine Br.not ?_
   | (with_reducible first | refine Br.tt (by assumption) ?_ | refine Br.ff (by assumption) ?_)
   | (refine Br.mk ?_ ?_ <;> intro hb <;> (try simp only [ZZ] at hb) <;> (first | omega | contradiction | skip))
   | refine Src.whole ⟨rfl, rfl⟩ ?_ | refine FrzV.whole ?_
   | refine CallW.use (place_clamp s a ha hs) ?_
   | refine CallW.use (strings_LastIndexByte _ 10 (by simp only [List.length_take]; omega) []) ?_
   | refine CallW.use (strings_Count _ 10 []) ?_
   | refine CallW.use (utf_Count _ (by simp only [List.length_drop, List.length_take]; omega)) ?_) <;> conv => whnf)
  exact CLe.eq rfl
theorem place_Fault (s : Str) (a e : Int) (ha : -1073741824 ≤ a ∧ a ≤ 1073741824) (hs : s.length ≤ 1073741824) : AbsCall PP GG F.place_Fault [.p (.str s), .p (.int .i64 a), .p (.int .i64 e)] [] ⟨.ret (.p (.agg [.int .i64 e, .int .i64 (clampL s a), .int .i64 (placeL s a).1, .int .i64 (placeL s a).2])), [], []⟩ := by
  refine absCall_of (pol := polG) mixP F.place_Fault_is ?_
  conv => whnf
  repeat' ((first
   | ((with_reducible first | refine Br.dec ?_ ?_ | refine Br.ndec ?_ ?_) <;> intro hb <;> (try simp only [ZZ] at hb) <;> (first | omega | contradiction | skip))
   | (with_reducible first | refine Br.tt rfl ?_ | refine Br.ff rfl ?_ | refine Br.ff (isEmptyCons _ _) ?_)
   | (refine Side.mk ?_ ?_; focus (first | omega | (dsimp only [InR, Int.reduceToNat, IntKind.bits, Int.reducePow]; omega) | (simp [CC]; done) | (constructor <;> omega)))
   | with_reducible refine Br.not ?_
   | (with_reducible first | refine Br.tt (by assumption) ?_ | refine Br.ff (by assumption) ?_)
   | (refine Br.mk ?_ ?_ <;> intro hb <;> (try simp only [ZZ] at hb) <;> (first | omega | contradiction | skip))
   | refine Src.whole ⟨rfl, rfl⟩ ?_ | refine FrzV.whole ?_
   | refine CallW.use (place_Of s a ha hs) ?_
   | refine CallW.use (place_clamp s a ha hs) ?_) <;> conv => whnf)
  exact CLe.eq rfl
theorem jlex_while (s c : Str) (hs : s.length ≤ 1073741824) (hc : c.length ≤ 1000) (h2 : c.all (fun b => decide (b.toNat < 128)) = true) : AbsCall PP GG F.jlex_while [.p (.str s), .p (.str c)] [] ⟨.ret (.p (.int .i64 (whileL s c))), [], []⟩ := by
  have hw := whileL_le s c
  have he := while_eq s c
  have hT := strings_TrimSet s c (by omega) (fun j b h => by have := List.all_eq_true.1 h2 b (List.mem_of_getElem? h); simpa using this) []
  refine absCall_of (pol := polG) mixP F.jlex_while_is ?_
  conv => whnf
  repeat' ((first
   | ((with_reducible first | refine Br.dec ?_ ?_ | refine Br.ndec ?_ ?_) <;> intro hb <;> (try simp only [ZZ] at hb) <;> (first | omega | contradiction | skip))
   | (with_reducible first | refine Br.tt rfl ?_ | refine Br.ff rfl ?_ | refine Br.ff (isEmptyCons _ _) ?_)
   | (refine Side.mk ?_ ?_; focus (first | omega | (dsimp only [InR, Int.reduceToNat, IntKind.bits, Int.reducePow]; omega) | (simp [CC]; done) | (constructor <;> omega)))
   | with_reducible refine Br.not ?_
   | (with_reducible first | refine Br.tt (by assumption) ?_ | refine Br.ff (by assumption) ?_)
   | (refine Br.mk ?_ ?_ <;> intro hb <;> (try simp only [ZZ] at hb) <;> (first | omega | contradiction | skip))
   | refine Src.whole ⟨rfl, rfl⟩ ?_ | refine FrzV.whole ?_
   | refine CallW.use (hT) ?_) <;> conv => whnf)
  exact CLe.retP (by congr 1)
theorem jlex_great (s : Str) (hs : s.length ≤ 1073741824) (hasc : ∀ (j : Nat) (b : UInt8), s[j]? = some b → b.toNat < 128) : AbsCall PP GG F.jlex_great [.p (.str s)] [] ⟨.ret (.p (.bool (greatL s))), [], []⟩ := by
  have hI := strings_IndexAny s e2 (by omega) (by decide) hasc (by intro j b hb; have := List.mem_of_getElem? hb; revert this; unfold e2; simp only [List.mem_cons, List.mem_nil_iff, or_false]; rintro (rfl | rfl) <;> decide) []
  have hil := indexAny_lt s e2
  have hge := Lib.indexAny_ge e2 s
  unfold greatL
  generalize hi : Lib.indexAny s e2 = i at *
  have hP : behindE s = (s.drop (i + 1).toNat).drop (whileL (s.drop (i + 1).toNat) d10) := by unfold behindE; rw [hi]
  have hTr := strings_TrimSet (s.drop (i + 1).toNat) d10 (by decide) (by intro j b hb; have := List.mem_of_getElem? hb; revert this; unfold d10; simp only [List.mem_cons, List.mem_nil_iff, or_false]; rintro (rfl | rfl | rfl | rfl | rfl | rfl | rfl | rfl | rfl | rfl) <;> decide) []
  rw [trim_eq, ← hP] at hTr
  have hpl : (behindE s).length ≤ s.length := by rw [hP]; simp only [List.length_drop]; omega
  have hg := fun h => dec_Good (s.take i.toNat) h
  rw [decParse_ok] at hg
  have hW := fun h => jlex_while ((behindE s).drop 1) d10 h (by decide) (by decide)
  generalize behindE s = p at *
  refine absCall_of (pol := polG) mixP F.jlex_great_is ?_
  conv => whnf
  repeat' ((first
   | ((with_reducible first | refine Br.dec ?_ ?_ | refine Br.ndec ?_ ?_) <;> intro hb <;> (try simp only [ZZ] at hb) <;> (first | omega | contradiction | skip))
   | (with_reducible first | refine Br.tt rfl ?_ | refine Br.ff rfl ?_ | refine Br.ff (isEmptyCons _ _) ?_)
   | (refine Side.mk ?_ ?_; focus (first | omega | (dsimp only [InR, Int.reduceToNat, IntKind.bits, Int.reducePow]; omega) | (simp [CC]; done) | (constructor <;> omega)))
   | with_reducible refine Br.not ?_
   | (with_reducible first | refine Br.tt (by assumption) ?_ | refine Br.ff (by assumption) ?_)
   | (refine Br.mk ?_ ?_ <;> intro hb <;> (try simp only [ZZ] at hb) <;> (first | omega | contradiction | skip))
   | refine Src.whole ⟨rfl, rfl⟩ ?_ | refine FrzV.whole ?_
   | refine CallW.use (hI) ?_
   | refine CallW.use (hTr) ?_
   | refine CallW.use (hg (by simp only [List.length_take]; omega)) ?_
   | refine CallW.use (hW (by simp only [List.length_drop]; omega)) ?_) <;> conv => whnf)
  all_goals first | (rw [if_pos (by assumption)]; exact CLe.eq rfl) | rw [if_neg (by omega)]
  all_goals try simp only [Int.reduceToNat] at *
  all_goals first | rw [if_pos ⟨by assumption, by omega, by omega⟩] | rw [if_neg (by rintro ⟨_, _, _⟩; first | contradiction | omega)]
  all_goals first | (rw [decide_eq_true (by omega), Bool.true_and]; exact CLe.eq rfl) | (rw [decide_eq_false (by omega), Bool.false_and]; exact CLe.eq rfl) | skip
theorem jlex_number (s : Str) (hs : s.length ≤ 1073741824) (hasc : ∀ (j : Nat) (b : UInt8), s[j]? = some b → b.toNat < 128) : AbsCall PP GG F.jlex_number [.p (.str s)] [] ⟨.ret (.p (.int .i64 (jnumL s))), [], []⟩ := by
  have hg := dec_Good s hs
  rw [decParse_ok] at hg
  have hG := jlex_great s hs hasc
  unfold jnumL
  refine absCall_of (pol := polG) mixP F.jlex_number_is ?_
  conv => whnf
  repeat' ((first
   | ((with_reducible first | refine Br.dec ?_ ?_ | refine Br.ndec ?_ ?_) <;> intro hb <;> (try simp only [ZZ] at hb) <;> (first | omega | contradiction | skip))
   | (with_reducible first | refine Br.tt rfl ?_ | refine Br.ff rfl ?_ | refine Br.ff (isEmptyCons _ _) ?_)
   | (refine Side.mk ?_ ?_; focus (first | omega | (dsimp only [InR, Int.reduceToNat, IntKind.bits, Int.reducePow]; omega) | (simp [CC]; done) | (constructor <;> omega)))
   | with_reducible refine Br.not ?_
   | (with_reducible first | refine Br.tt (by assumption) ?_ | refine Br.ff (by assumption) ?_)
   | (refine Br.mk ?_ ?_ <;> intro hb <;> (try simp only [ZZ] at hb) <;> (first | omega | contradiction | skip))
   | refine Src.whole ⟨rfl, rfl⟩ ?_ | refine FrzV.whole ?_
   | refine CallW.use (hg) ?_
   | refine CallW.use (hG) ?_) <;> conv => whnf)
  all_goals first | (rw [if_pos (by omega)]; exact CLe.eq rfl) | rw [if_neg (by omega)]
  all_goals first | (rw [if_pos (by assumption)]; exact CLe.eq rfl) | rw [if_neg (by simp [*])]
  all_goals first | (rw [if_pos (by assumption)]; exact CLe.eq rfl) | (rw [if_neg (by simp [*])]; exact CLe.eq rfl)
end Go.Proofs.YtaoejccgdpppgaaGreatDoor
end

section
namespace Go.Am
open Go
def hexD (b : UInt8) : Option Int :=
  if 48 ≤ b.toNat ∧ b.toNat ≤ 57 then some (b.toNat - 48) else
  if 97 ≤ b.toNat ∧ b.toNat ≤ 102 then some (b.toNat - 87) else
  if 65 ≤ b.toNat ∧ b.toNat ≤ 70 then some (b.toNat - 55) else none
def hexR : Str → Int → Int × Bool
  | [], v => (v, true)
  | b :: s, v => match hexD b with
    | none => (0, false)
    | some x => hexR s (v * 16 + x)
def hexL (s : Str) : Int × Bool := if s.length < 1 ∨ 8 < s.length then (0, false) else hexR s 0
theorem hexD_lt {b : UInt8} {x : Int} (h : hexD b = some x) : 0 ≤ x ∧ x < 16 := by
  unfold hexD at h
  split at h
  · cases h; omega
  · split at h
    · cases h; omega
    · split at h
      · cases h; omega
      · cases h
theorem hexR_lt : ∀ (s : Str) (v : Int) (q : Nat), s.length ≤ q → 0 ≤ v → (hexR s v).2 = true → 0 ≤ (hexR s v).1 ∧ (hexR s v).1 < (v + 1) * 16 ^ q
  | [], v, q, _, h0, _ => by
    rw [hexR]
    have : 1 ≤ (16 : Int) ^ q := Int.pow_pos (by decide)
    refine ⟨h0, ?_⟩
    have := Int.mul_le_mul_of_nonneg_left this (show 0 ≤ v + 1 by omega)
    simp only [] at *
    omega
  | b :: s, v, 0, hq, h0, h => by simp at hq
  | b :: s, v, q + 1, hq, h0, h => by
    rw [hexR] at h ⊢
    cases hx : hexD b with
    | none => rw [hx] at h; simp at h
    | some x =>
      rw [hx] at h
      simp only [] at h ⊢
      have hb := hexD_lt hx
      have := hexR_lt s (v * 16 + x) q (by simpa using hq) (by omega) h
      refine ⟨this.1, Int.lt_of_lt_of_le this.2 ?_⟩
      rw [Int.pow_succ, Int.mul_comm (16 ^ q) 16, ← Int.mul_assoc]
      exact Int.mul_le_mul_of_nonneg_right (by omega) (Int.le_of_lt (Int.pow_pos (by decide)))
theorem pow16_le {i : Nat} (h : i ≤ 7) : (16 : Int) ^ i ≤ 16 ^ 7 := by
  have : i = 0 ∨ i = 1 ∨ i = 2 ∨ i = 3 ∨ i = 4 ∨ i = 5 ∨ i = 6 ∨ i = 7 := by omega
  rcases this with rfl | rfl | rfl | rfl | rfl | rfl | rfl | rfl <;> decide
def digL (t : Str) (a n : Nat) : Int × Bool := if t.length < a + n then (0, false) else hexL ((t.drop a).take n)
theorem digL_lt {t : Str} {a : Nat} (h : (digL t a 4).2 = true) : 0 ≤ (digL t a 4).1 ∧ (digL t a 4).1 < 65536 ∧ a + 4 ≤ t.length := by
  unfold digL at h ⊢
  split at h
  · simp at h
  · rename_i h1
    rw [if_neg h1]
    unfold hexL at h ⊢
    split at h
    · simp at h
    · rename_i h2
      rw [if_neg h2]
      have := hexR_lt ((t.drop a).take 4) 0 4 (by simp only [List.length_take]; omega) (by omega) h
      refine ⟨this.1, ?_, by omega⟩
      have := this.2
      simpa using this
def shortL (c : UInt8) : Option Int :=
  if c = 34 then some 34 else if c = 92 then some 92 else if c = 98 then some 8 else if c = 102 then some 12 else if c = 110 then some 10 else if c = 114 then some 13 else if c = 116 then some 9 else if c = 47 then some 47 else none
def putR (a : Int) (acc : Str) (x k : Int) : Bool × Int × Str := if utfGood x = true then (true, a + k, acc ++ utfEnc x) else (false, a, acc)
def escL (t : Str) (a : Nat) : Option (Int × Int) :=
  if a + 1 = t.length then none else
  match shortL (t.getD (a + 1) 0) with
  | some x => some (x, 2)
  | none => if ¬ ((t.getD (a + 1) 0).toNat : Int) = 117 ∨ (digL t (a + 2) 4).2 = false then none else
    if (digL t (a + 2) 4).1 < 55296 ∨ 56320 ≤ (digL t (a + 2) 4).1 then some ((digL t (a + 2) 4).1, 6) else
    if (digL t (a + 8) 4).2 = false ∨ ¬ (t.drop (a + 6)).take 2 = [92, 117] ∨ (digL t (a + 8) 4).1 < 56320 ∨ 57343 < (digL t (a + 8) 4).1 then none else
    some (65536 + ((digL t (a + 2) 4).1 - 55296) * 1024 + ((digL t (a + 8) 4).1 - 56320), 12)
def escAt (t : Str) (a : Nat) (acc : Str) : Bool × Int × Str := match escL t a with
  | none => (false, a, acc)
  | some (x, k) => putR a acc x k
theorem escAt_end {t : Str} {a : Nat} {acc : Str} (h : a + 1 = t.length) : escAt t a acc = (false, (a : Int), acc) := by
  unfold escAt escL
  rw [if_pos h]
theorem escAt_short {t : Str} {a : Nat} {acc : Str} (h : ¬ a + 1 = t.length) {x : Int} (hx : shortL (t.getD (a + 1) 0) = some x) : escAt t a acc = putR a acc x 2 := by
  unfold escAt escL
  rw [if_neg h, hx]
theorem escAt_u {t : Str} {a : Nat} {acc : Str} (h : ¬ a + 1 = t.length) (hx : shortL (t.getD (a + 1) 0) = none) : escAt t a acc =
    (if ¬ ((t.getD (a + 1) 0).toNat : Int) = 117 ∨ (digL t (a + 2) 4).2 = false then (false, (a : Int), acc) else
    if (digL t (a + 2) 4).1 < 55296 ∨ 56320 ≤ (digL t (a + 2) 4).1 then putR a acc (digL t (a + 2) 4).1 6 else
    if (digL t (a + 8) 4).2 = false ∨ ¬ (t.drop (a + 6)).take 2 = [92, 117] ∨ (digL t (a + 8) 4).1 < 56320 ∨ 57343 < (digL t (a + 8) 4).1 then (false, (a : Int), acc) else
    putR a acc (65536 + ((digL t (a + 2) 4).1 - 55296) * 1024 + ((digL t (a + 8) 4).1 - 56320)) 12) := by
  unfold escAt escL
  rw [if_neg h, hx]
  by_cases h1 : ¬ ((t.getD (a + 1) 0).toNat : Int) = 117 ∨ (digL t (a + 2) 4).2 = false
  · simp only [if_pos h1]
  · simp only [if_neg h1]
    by_cases h2 : (digL t (a + 2) 4).1 < 55296 ∨ 56320 ≤ (digL t (a + 2) 4).1
    · simp only [if_pos h2]
    · simp only [if_neg h2]
      by_cases h3 : (digL t (a + 8) 4).2 = false ∨ ¬ (t.drop (a + 6)).take 2 = [92, 117] ∨ (digL t (a + 8) 4).1 < 56320 ∨ 57343 < (digL t (a + 8) 4).1
      · simp only [if_pos h3]
      · simp only [if_neg h3]
theorem utfEnc_len4 (r : Int) : (utfEnc r).length ≤ 4 := by
  unfold utfEnc
  repeat' split
  all_goals simp
theorem putR_ok {a : Int} {acc : Str} {x k : Int} (h : (putR a acc x k).1 = true) : putR a acc x k = (true, a + k, acc ++ utfEnc x) := by
  unfold putR at h ⊢
  split at h
  · rename_i h1; rw [if_pos h1]
  · simp at h
theorem escAt_ok {t : Str} {a : Nat} {acc : Str} (ha : a < t.length) (h : (escAt t a acc).1 = true) :
    ∃ (k : Nat) (x : Int), escAt t a acc = (true, ((a + k : Nat) : Int), acc ++ utfEnc x) ∧ 2 ≤ k ∧ a + k ≤ t.length := by
  by_cases h1 : a + 1 = t.length
  · rw [escAt_end h1] at h
    simp at h
  · cases hs : shortL (t.getD (a + 1) 0) with
    | some x =>
      rw [escAt_short h1 hs] at h ⊢
      exact ⟨2, x, by rw [putR_ok h]; rfl, by omega, by omega⟩
    | none =>
      rw [escAt_u h1 hs] at h ⊢
      split at h
      · simp at h
      · rename_i h2
        rw [if_neg h2]
        simp only [not_or, Bool.not_eq_false] at h2
        have := digL_lt h2.2
        split at h
        · rename_i h3
          rw [if_pos h3]
          exact ⟨6, _, by rw [putR_ok h]; rfl, by omega, by omega⟩
        · rename_i h3
          rw [if_neg h3]
          split at h
          · simp at h
          · rename_i h4
            rw [if_neg h4]
            simp only [not_or, Bool.not_eq_false] at h4
            have := digL_lt h4.1
            exact ⟨12, _, by rw [putR_ok h]; rfl, by omega, by omega⟩
theorem putR_no {a : Int} {acc : Str} {x k : Int} (h : (putR a acc x k).1 = false) : (putR a acc x k).2.1 = a := by
  unfold putR at h ⊢
  split at h
  · simp at h
  · rename_i h1; rw [if_neg h1]
theorem escAt_no {t : Str} {a : Nat} {acc : Str} (h : (escAt t a acc).1 = false) : (escAt t a acc).2.1 = a := by
  unfold escAt at h ⊢
  split
  · rfl
  · rename_i h1; rw [h1] at h; exact putR_no h
def unqL : Nat → Str → Nat → Str → Str × Int × Int
  | 0, t, _, _ => ([], 0, t.length)
  | q + 1, t, a, acc =>
    if t.length ≤ a then ([], 0, t.length) else
    if ((t.getD a 0).toNat : Int) = 34 then (acc, (a : Int) + 1, -1) else
    if ((t.getD a 0).toNat : Int) < 32 then ([], 0, (a : Int)) else
    if ((t.getD a 0).toNat : Int) = 92 then
      (if (escAt t a acc).1 = true then unqL q t (escAt t a acc).2.1.toNat (escAt t a acc).2.2 else ([], 0, (a : Int)))
    else if (utfTake (t.drop a)).2 = 0 then ([], 0, (a : Int)) else unqL q t (a + (utfTake (t.drop a)).2.toNat) (acc ++ utfEnc (utfTake (t.drop a)).1)
def unquoteL (t : Str) (at_ : Int) : Str × Int × Int :=
  if at_ < 0 ∨ preB (t.drop (clampL t at_).toNat) 34 = false then ([], 0, clampL t at_) else unqL (t.length + 1) t ((clampL t at_).toNat + 1) []
end Go.Am
namespace Go.Am
theorem HLe.var1 {t : TypeId} {v u : V} (h : VLeL v.cells u.cells) : HLe [.var t v] [.var t u] := by
  obtain ⟨h1, h2⟩ := h.spec
  refine ⟨fun n B L w hr => ?_, fun n hl => ?_, rfl⟩
  · cases n with
    | zero =>
      have hr : HRel B L w 0 (.var t v) := hr
      show HRel B L w 0 (.var t u)
      cases hr with
      | var _ c _ fr hw hfr hl hh =>
        refine .var u c t fr hw hfr (by omega) fun i x y hx hy => ?_
        have hi : i < v.cells.length := by have := (List.getElem?_eq_some_iff.1 hx).1; omega
        exact h2 i v.cells[i] x (by simp [hi]) hx B L w y (hh i v.cells[i] y (by simp [hi]) hy)
    | succ n => exact hr
  · cases n with
    | zero => trivial
    | succ n => exact hl
end Go.Am
end

section
namespace Go.Proofs.YtaoejccgdpppgaaGreatDoor
open Go Go.Am Go.RowKit
set_option maxRecDepth 100000
def rdO (t : Str) (a : Int) (acc : Str) : HO := .var T.esc_reader (.p (.agg [.str t, .int .i64 a, .lst false (acc.map byteP)]))
theorem hex_loop (s : Str) (hs : s.length ≤ 8) (R : Int × Bool) (K : Post)
    (h0 : ∀ v : Int, R = (v, true) → K (.exit 0) [(4, .p (.int .i64 v))] [.arr T.uint8 1 (s.map byteP)] [])
    (hr : R = (0, false) → K .ret [(2, .p (.int .i64 0)), (3, .p (.bool false))] [.arr T.uint8 1 (s.map byteP)] []) :
    ∀ (q i : Nat) (v : Int), i + q = s.length → 0 ≤ v → v < 16 ^ i → hexR (s.drop i) v = R →
      LoopW PP GG 65 0 (loopN F.esc_Hex_c 0) [(4, .p (.int .i64 v)), (16, .sl 0 0 (s.map byteP).length), (17, .p (.int .i64 (s.map byteP).length)), (18, .p (.int .i64 i))] [.arr T.uint8 1 (s.map byteP)] [] (PostCl 65 K) := by
  have hl : (s.map byteP).length = s.length := by simp
  intro q
  induction q with
  | zero =>
    intro i v hi hv0 hv1 hR
    rw [List.drop_eq_nil_of_le (by omega), hexR] at hR
    refine LoopW.round (pol := polG) mixP ?_
    conv => whnf
    repeat' ((first
     | ((with_reducible first | refine Br.dec ?_ ?_ | refine Br.ndec ?_ ?_) <;> intro hb <;> (try simp only [And.intro @hl (ZZ)] at hb) <;> (first | omega | contradiction | skip))
     | (with_reducible first | refine Br.tt rfl ?_ | refine Br.ff rfl ?_ | refine Br.ff (isEmptyCons _ _) ?_)
     | (refine Side.mk ?_ ?_; focus (first | omega | (dsimp only [InR, Int.reduceToNat, IntKind.bits, Int.reducePow]; omega) | (simp [CC]; done) | (constructor <;> omega)))
     | with_reducible refine Br.not ?_
     | (with_reducible first | refine Br.tt (by assumption) ?_ | refine Br.ff (by assumption) ?_)
     | (refine Br.mk ?_ ?_ <;> intro hb <;> (try simp only [And.intro @hl (ZZ)] at hb) <;> (first | omega | contradiction | skip))
     | refine Src.whole ⟨rfl, rfl⟩ ?_ | refine FrzV.whole ?_) <;> conv => whnf)
    · refine PostCl.of (h0 v hR.symm) ?_ ?_
      · repeat first | exact trivial | refine ⟨VLe.refl _, ?_⟩
      · repeat first | exact trivial | refine ⟨by decide, ?_⟩
  | succ q ih =>
    intro i v hi hv0 hv1 hR
    obtain ⟨b, hbx⟩ : ∃ b, s[i]? = some b := ⟨_, List.getElem?_eq_getElem (show i < s.length by omega)⟩
    have hbl := UInt8.toNat_lt b
    have hi7 : i ≤ 7 := by omega
    have hv2 : v < 268435456 := Int.lt_of_lt_of_le hv1 (Int.le_trans (pow16_le hi7) (by decide))
    rw [drop_cons hbx, hexR] at hR
    have next : ∀ x : Int, 0 ≤ x → x < 16 → hexR (s.drop (i + 1)) (v * 16 + x) = R → LoopW PP GG 65 0 (loopN F.esc_Hex_c 0) [(4, .p (.int .i64 (v * 16 + x))), (16, .sl 0 0 (s.map byteP).length), (17, .p (.int .i64 (s.map byteP).length)), (18, .p (.int .i64 (i + 1)))] [.arr T.uint8 1 (s.map byteP)] [] (PostCl 65 K) := by
      intro x hx0 hx1 h
      exact ih (i + 1) _ (by omega) (by omega) (by rw [Int.pow_succ]; omega) h
    refine LoopW.round (pol := polG) mixP ?_
    conv => whnf
    repeat' ((first
     | ((with_reducible first | refine Br.dec ?_ ?_ | refine Br.ndec ?_ ?_) <;> intro hb <;> (try simp only [And.intro @hl (ZZ)] at hb) <;> (first | omega | contradiction | skip))
     | (with_reducible first | refine Br.tt rfl ?_ | refine Br.ff rfl ?_ | refine Br.ff (isEmptyCons _ _) ?_)
     | (refine Side.mk ?_ ?_; focus (first | omega | (dsimp only [InR, Int.reduceToNat, IntKind.bits, Int.reducePow]; omega) | exact ⟨rfl, rfl⟩ | (simp [CC]; done) | (constructor <;> omega)))
     | with_reducible refine Br.not ?_
     | (with_reducible first | refine Br.tt (by assumption) ?_ | refine Br.ff (by assumption) ?_)
     | (refine Br.mk ?_ ?_ <;> intro hb <;> (try simp only [And.intro @hl (ZZ)] at hb) <;> (first | omega | contradiction | skip))
     | refine Src.whole ⟨rfl, rfl⟩ ?_ | refine FrzV.whole ?_
     | (refine ElemA.byte (b := b) (by simpa [plus0] using hbx) ?_)) <;> conv => whnf)
    all_goals
      first
      | (rw [show hexD b = some ((b.toNat : Int) - 48) by unfold hexD; rw [if_pos (by omega)]] at hR
         rw [show ior .i64 (v * 2 ^ Int.toNat 4) ((b.toNat : Int) - 48) = v * 16 + ((b.toNat : Int) - 48) from ior_shift (q := 4) hv0 (by omega) (by omega) (by omega) (by decide)]
         refine LoopW.sub (next _ (by omega) (by omega) hR) (by repeat first | exact trivial | refine ⟨VLe.refl _, ?_⟩) (by repeat first | exact trivial | refine ⟨by decide, ?_⟩))
      | (rw [show hexD b = some ((b.toNat : Int) - 87) by unfold hexD; rw [if_neg (by omega), if_pos (by omega)]] at hR
         rw [show (b.toNat : Int) - 97 + 10 = b.toNat - 87 by omega, show ior .i64 (v * 2 ^ Int.toNat 4) ((b.toNat : Int) - 87) = v * 16 + ((b.toNat : Int) - 87) from ior_shift (q := 4) hv0 (by omega) (by omega) (by omega) (by decide)]
         refine LoopW.sub (next _ (by omega) (by omega) hR) (by repeat first | exact trivial | refine ⟨VLe.refl _, ?_⟩) (by repeat first | exact trivial | refine ⟨by decide, ?_⟩))
      | (rw [show hexD b = some ((b.toNat : Int) - 55) by unfold hexD; rw [if_neg (by omega), if_neg (by omega), if_pos (by omega)]] at hR
         rw [show (b.toNat : Int) - 65 + 10 = b.toNat - 55 by omega, show ior .i64 (v * 2 ^ Int.toNat 4) ((b.toNat : Int) - 55) = v * 16 + ((b.toNat : Int) - 55) from ior_shift (q := 4) hv0 (by omega) (by omega) (by omega) (by decide)]
         refine LoopW.sub (next _ (by omega) (by omega) hR) (by repeat first | exact trivial | refine ⟨VLe.refl _, ?_⟩) (by repeat first | exact trivial | refine ⟨by decide, ?_⟩))
      | (rw [show hexD b = none by unfold hexD; rw [if_neg (by omega), if_neg (by omega), if_neg (by omega)]] at hR
         refine PostCl.of (hr hR.symm) (by repeat first | exact trivial | refine ⟨VLe.refl _, ?_⟩) (by repeat first | exact trivial | refine ⟨by decide, ?_⟩))
theorem esc_Hex (s : Str) (hs : s.length ≤ 1073741824) : AbsCall PP GG F.esc_Hex [.p (.str s)] [] ⟨.ret (.tup [.p (.int .i64 (hexL s).1), .p (.bool (hexL s).2)]), [], []⟩ := by
  unfold hexL
  have hl : (s.map byteP).length = s.length := by simp
  refine absCall_of (pol := polG) mixP F.esc_Hex_is ?_
  conv => whnf
  repeat' ((first
   | ((with_reducible first | refine Br.dec ?_ ?_ | refine Br.ndec ?_ ?_) <;> intro hb <;> (try simp only [And.intro @hl (ZZ)] at hb) <;> (first | omega | contradiction | skip))
   | (with_reducible first | refine Br.tt rfl ?_ | refine Br.ff rfl ?_ | refine Br.ff (isEmptyCons _ _) ?_)
   | (refine Side.mk ?_ ?_; focus (first | omega | (dsimp only [InR, Int.reduceToNat, IntKind.bits, Int.reducePow]; omega) | (simp only [hl]; omega) | (simp [CC]; done) | (constructor <;> omega)))
   | with_reducible refine Br.not ?_
   | (with_reducible first | refine Br.tt (by assumption) ?_ | refine Br.ff (by assumption) ?_)
   | (refine Br.mk ?_ ?_ <;> intro hb <;> (try simp only [And.intro @hl (ZZ)] at hb) <;> (first | omega | contradiction | skip))
   | refine Src.whole ⟨rfl, rfl⟩ ?_ | refine FrzV.whole ?_) <;> conv => whnf)
  · rw [if_pos (by omega)]; exact CLe.eq rfl
  · rw [if_pos (by omega)]; exact CLe.eq rfl
  · rw [if_neg (by omega)]
    refine LoopW.cl ?_
    refine LoopW.sub (hex_loop s (by omega) (hexR s 0) _ (fun v hv => ?_) (fun hv => ?_) s.length 0 0 (by omega) (by omega) (by decide) rfl) (by repeat first | exact trivial | refine ⟨VLe.refl _, ?_⟩) (by repeat first | exact trivial | refine ⟨by decide, ?_⟩)
    · conv => whnf
      exact CLe.eq (by rw [hv])
    · conv => whnf
      exact CLe.eq (by rw [hv])
theorem InR.byte (b : UInt8) : InR .i64 (b.toNat : Int) := by
  have := UInt8.toNat_lt b
  constructor <;> omega
def setJ : Str := [34, 92, 98, 102, 110, 114, 116]
def setK : Str := [34, 92, 8, 12, 10, 13, 9]
def setF (c : UInt8) : Int := firstIdx ⟨setJ.toArray⟩ c
def shortOk (c : UInt8) : Bool :=
  if 0 ≤ setF c then decide (setF c < 7 ∧ shortL c = some ((setK.getD (setF c).toNat 0).toNat : Int)) else decide (if c.toNat = 47 then shortL c = some 47 else shortL c = none)
theorem short_all : ∀ n : Nat, n < 256 → shortOk n.toUInt8 = true := by decide +kernel
theorem short_ok (c : UInt8) : shortOk c = true := by
  have := short_all c.toNat (UInt8.toNat_lt c)
  rwa [show c.toNat.toUInt8 = c by simp] at this
theorem esc_short (c : UInt8) : AbsCall PP GG F.esc_short [.p (byteP c), .p (.bool false)] [] ⟨.ret (.tup [.p (.int .i64 ((shortL c).getD 0)), .p (.bool (shortL c).isSome)]), [], []⟩ := by
  have hI := strings_IndexByte [34, 92, 98, 102, 110, 114, 116] c.toNat
  have e : firstIdx ⟨([34, 92, 98, 102, 110, 114, 116] : Str).toArray⟩ (c.toNat : Int).toNat.toUInt8 = setF c := by
    rw [show (c.toNat : Int).toNat.toUInt8 = c by simp]
    rfl
  rw [e] at hI
  have hk := short_ok c
  unfold shortOk at hk
  have h7 : (⟨#[34, 92, 8, 12, 10, 13, 9]⟩ : ByteArray).data.toList.length = 7 := rfl
  generalize setF c = f at *
  refine absCall_of (pol := polG) mixP F.esc_short_is ?_
  conv => whnf
  by_cases h0 : 0 ≤ f
  · rw [if_pos h0, decide_eq_true_eq] at hk
    repeat' ((first
     | ((with_reducible first | refine Br.dec ?_ ?_ | refine Br.ndec ?_ ?_) <;> intro hb <;> (try simp only [ZZ] at hb) <;> (first | omega | contradiction | skip))
     | (with_reducible first | refine Br.tt rfl ?_ | refine Br.ff rfl ?_ | refine Br.ff (isEmptyCons _ _) ?_)
     | (refine Side.mk ?_ ?_; focus (first | omega | (dsimp only [InR, Int.reduceToNat, IntKind.bits, Int.reducePow]; omega) | (rw [h7]; omega) | exact InR.byte _ | (simp [CC]; done) | (constructor <;> omega)))
     | with_reducible refine Br.not ?_
     | (with_reducible first | refine Br.tt (by assumption) ?_ | refine Br.ff (by assumption) ?_)
     | (refine Br.mk ?_ ?_ <;> intro hb <;> (try simp only [ZZ] at hb) <;> (first | omega | contradiction | skip))
     | refine Src.whole ⟨rfl, rfl⟩ ?_ | refine FrzV.whole ?_
     | refine CallW.use (hI) ?_) <;> conv => whnf)
    rw [hk.2]
    exact CLe.eq rfl
  · rw [if_neg h0, decide_eq_true_eq] at hk
    repeat' ((first
     | ((with_reducible first | refine Br.dec ?_ ?_ | refine Br.ndec ?_ ?_) <;> intro hb <;> (try simp only [ZZ] at hb) <;> (first | omega | contradiction | skip))
     | (with_reducible first | refine Br.tt rfl ?_ | refine Br.ff rfl ?_ | refine Br.ff (isEmptyCons _ _) ?_)
     | (refine Side.mk ?_ ?_; focus (first | omega | (dsimp only [InR, Int.reduceToNat, IntKind.bits, Int.reducePow]; omega) | (simp [CC]; done) | (constructor <;> omega)))
     | with_reducible refine Br.not ?_
     | (with_reducible first | refine Br.tt (by assumption) ?_ | refine Br.ff (by assumption) ?_)
     | (refine Br.mk ?_ ?_ <;> intro hb <;> (try simp only [ZZ] at hb) <;> (first | omega | contradiction | skip))
     | refine Src.whole ⟨rfl, rfl⟩ ?_ | refine FrzV.whole ?_
     | refine CallW.use (hI) ?_) <;> conv => whnf)
    · rw [if_pos (by omega)] at hk
      rw [hk]
      exact CLe.eq rfl
    all_goals
      rw [if_neg (by omega)] at hk
      rw [hk]
      exact CLe.eq rfl
def polZ : Pol := { keepR := fun _ => false, byref := fun _ => false, mask := fun _ _ => none }
theorem utf_PutZ (bs : Str) (r : Int) (hs : bs.length ≤ 1073741824) : AbsCall PP GG F.utf_Put [.p (.lst false (bs.map byteP)), .p (.int .i64 r)] [] ⟨.ret (.p (.lst false ((bs ++ utfEnc r).map byteP))), [], []⟩ := by
  have hlen : (bs.map byteP).length = bs.length := by simp
  have hgr : utfGood r = true → 0 ≤ r ∧ r ≤ 1114111 := by intro hg; unfold utfGood at hg; rw [decide_eq_true_eq] at hg; omega
  refine absCall_of (pol := polZ) mixP F.utf_Put_is ?_
  conv => whnf
  repeat' ((first
   | ((with_reducible first | refine Br.dec ?_ ?_ | refine Br.ndec ?_ ?_) <;> intro hb <;> (try simp only [ZZ] at hb) <;> (first | omega | skip))
   | (with_reducible first | refine Br.tt rfl ?_ | refine Br.ff rfl ?_ | refine Br.ff (isEmptyCons _ _) ?_)
   | (refine Side.mk ?_ ?_; focus (first | omega | (dsimp only [InR, Int.reduceToNat, IntKind.bits, Int.reducePow]; omega) | exact ⟨bytes_cells bs, by simp, by simp; omega⟩ | exact ⟨by simp [PV.cells], by simp, by simp; omega⟩ | (simp [CC]; done) | (constructor <;> omega)))
   | (refine Br.mk ?_ ?_ <;> intro hb <;> (try simp only [ZZ] at hb) <;> (first | omega | skip))
   | refine Src.whole ⟨rfl, rfl⟩ ?_ | refine FrzV.whole ?_
   | refine CallW.use (utf_Good _) ?_
   | refine CallW.use (utf_size _) ?_
   | (refine Src.whole ⟨rfl, by simp⟩ ?_)) <;> conv => whnf)
  · refine CLe.retP (congrArg (PV.lst false) ?_)
    rw [show utfEnc r = [] by unfold utfEnc; rw [if_pos hb]]
    simp
  all_goals
    obtain ⟨hr0, hr1⟩ := hgr ‹utfGood r = true›
    obtain ⟨n, rfl⟩ := Int.eq_ofNat_of_zero_le hr0
    have hng : utfGood (n : Int) ≠ false := by simp_all
    refine CLe.retP (congrArg (PV.lst false) ?_)
    unfold utfEnc
    rw [if_neg hng]
    have q6 : (n : Int) / 2 ^ Int.toNat 6 = ((n / 64 : Nat) : Int) := by show (n : Int) / 64 = _; omega
    have q12 : (n : Int) / 2 ^ Int.toNat 12 = ((n / 4096 : Nat) : Int) := by show (n : Int) / 4096 = _; omega
    have q18 : (n : Int) / 2 ^ Int.toNat 18 = ((n / 262144 : Nat) : Int) := by show (n : Int) / 262144 = _; omega
    have low : ∀ m : Nat, m ≤ 1114111 → iand .i64 (m : Int) 63 = ((m % 64 : Nat) : Int) := by
      intro m hm
      rw [iand63 (by omega) (by omega)]; omega
    have by' : ∀ m : Nat, m ≤ 255 → PV.int .u8 (IntKind.u8.wrap (m : Int)) = byteP (UInt8.ofNat m) := by
      intro m hm
      have := byte_of (x := (m : Int)) (by omega) (by omega)
      simpa using this
    rw [List.map_append, show List.replicate (Int.toNat 0) (PV.int IntKind.u8 0) = [] from rfl, List.nil_append]
    congr 1
  · rw [utfSize_1] at hb
    rw [if_pos hb]
    simp only [List.map_cons, List.map_nil]
    rw [Int.toNat_natCast, by' n (by omega)]
  · rename_i h1
    rw [utfSize_1] at h1
    rw [utfSize_2] at hb
    rw [if_neg h1, if_pos hb.2]
    simp only [List.map_cons, List.map_nil]
    rw [Int.toNat_natCast, q6, low n (by omega), oct_or192 _ (by omega), oct_or128 _ (by omega), by' _ (by omega), by' _ (by omega)]
  · rename_i h1 h2
    rw [utfSize_1] at h1
    rw [utfSize_2] at h2
    rw [utfSize_3] at hb
    rw [if_neg h1, if_neg (by omega), if_pos hb.2]
    simp only [List.map_cons, List.map_nil]
    rw [Int.toNat_natCast, q6, q12, low n (by omega), low (n / 64) (by omega), oct_or224 _ (by omega), oct_or128 _ (by omega), oct_or128 _ (by omega), by' _ (by omega), by' _ (by omega), by' _ (by omega)]
  · rename_i h1 h2
    rw [utfSize_1] at h1
    rw [utfSize_2] at h2
    rw [utfSize_3] at hb
    rw [if_neg h1, if_neg (by omega), if_neg (by omega)]
    simp only [List.map_cons, List.map_nil]
    rw [Int.toNat_natCast, q6, q12, q18, low n (by omega), low (n / 64) (by omega), low (n / 4096) (by omega), oct_or240 _ (by omega), oct_or128 _ (by omega), oct_or128 _ (by omega), oct_or128 _ (by omega), by' _ (by omega), by' _ (by omega), by' _ (by omega), by' _ (by omega)]
theorem esc_start (t : Str) (a : Int) (ha : -1073741824 ≤ a ∧ a ≤ 1073741824) (hs : t.length ≤ 1073741824) : AbsCall PP GG F.esc_start [.p (.str t), .p (.int .i64 a)] [] ⟨.ret (.ptr 0 0), [rdO t (clampL t a) []], []⟩ := by
  have e : (if (t.length : Int) < (if 0 > a then 0 else a) then (t.length : Int) else if 0 > a then 0 else a) = clampL t a := by unfold clampL; omega
  refine absCall_of (pol := polG) mixP F.esc_start_is ?_
  conv => whnf
  repeat' ((first
   | ((with_reducible first | refine Br.dec ?_ ?_ | refine Br.ndec ?_ ?_) <;> intro hb <;> (try simp only [ZZ] at hb) <;> (first | omega | contradiction | skip))
   | (with_reducible first | refine Br.tt rfl ?_ | refine Br.ff rfl ?_ | refine Br.ff (isEmptyCons _ _) ?_)
   | (refine Side.mk ?_ ?_; focus (first | omega | (dsimp only [InR, Int.reduceToNat, IntKind.bits, Int.reducePow]; omega) | (simp [CC]; done) | (constructor <;> omega)))
   | with_reducible refine Br.not ?_
   | (with_reducible first | refine Br.tt (by assumption) ?_ | refine Br.ff (by assumption) ?_)
   | (refine Br.mk ?_ ?_ <;> intro hb <;> (try simp only [ZZ] at hb) <;> (first | omega | contradiction | skip))
   | refine Src.whole ⟨rfl, rfl⟩ ?_ | refine FrzV.whole ?_) <;> conv => whnf)
  rw [e]
  refine ⟨OutLe.refl _, ?_, fun _ h => h⟩
  refine HLe.var1 ⟨VLe.refl _, VLe.refl _, ?_, trivial⟩
  exact (PLe.nils false).p
theorem reader_begins (t acc : Str) (a : Int) (c : UInt8) (h0 : 0 ≤ a) (h1 : a ≤ t.length) : AbsCall PP GG F.esc_reader_begins [.ptr 0 0, .p (.str [c])] [rdO t a acc] ⟨.ret (.p (.bool (preB (t.drop a.toNat) c))), [rdO t a acc], []⟩ := by
  refine absCall_of (pol := polG) mixP F.esc_reader_begins_is ?_
  conv => whnf
  repeat' ((first
   | ((with_reducible first | refine Br.dec ?_ ?_ | refine Br.ndec ?_ ?_) <;> intro hb <;> (try simp only [ZZ] at hb) <;> (first | omega | contradiction | skip))
   | (with_reducible first | refine Br.tt rfl ?_ | refine Br.ff rfl ?_ | refine Br.ff (isEmptyCons _ _) ?_)
   | (refine Side.mk ?_ ?_; focus (first | omega | (dsimp only [InR, Int.reduceToNat, IntKind.bits, Int.reducePow]; omega) | (simp [CC]; done) | (constructor <;> omega)))
   | with_reducible refine Br.not ?_
   | (with_reducible first | refine Br.tt (by assumption) ?_ | refine Br.ff (by assumption) ?_)
   | (refine Br.mk ?_ ?_ <;> intro hb <;> (try simp only [ZZ] at hb) <;> (first | omega | contradiction | skip))
   | refine Src.whole ⟨rfl, rfl⟩ ?_ | refine FrzV.whole ?_
   | refine CallW.use (strings_HasPrefix _ c) ?_) <;> conv => whnf)
  exact CLe.eq rfl
theorem reader_put (t acc : Str) (a x k : Int) (h0 : 0 ≤ a) (h1 : a ≤ 1073741824) (hk : 0 ≤ k ∧ k ≤ 1000) (hacc : acc.length ≤ 1073741824) : AbsCall PP GG F.esc_reader_put [.ptr 0 0, .p (.int .i64 x), .p (.int .i64 k)] [rdO t a acc] ⟨.ret (.p (.bool (putR a acc x k).1)), [rdO t (putR a acc x k).2.1 (putR a acc x k).2.2], []⟩ := by
  have hP := utf_PutZ acc x hacc
  refine absCall_of (pol := polG) mixP F.esc_reader_put_is ?_
  conv => whnf
  repeat' ((first
   | ((with_reducible first | refine Br.dec ?_ ?_ | refine Br.ndec ?_ ?_) <;> intro hb <;> (try simp only [ZZ] at hb) <;> (first | omega | contradiction | skip))
   | (with_reducible first | refine Br.tt rfl ?_ | refine Br.ff rfl ?_ | refine Br.ff (isEmptyCons _ _) ?_)
   | (refine Side.mk ?_ ?_; focus (first | omega | (dsimp only [InR, Int.reduceToNat, IntKind.bits, Int.reducePow]; omega) | (simp [CC]; done) | (constructor <;> omega)))
   | with_reducible refine Br.not ?_
   | (with_reducible first | refine Br.tt (by assumption) ?_ | refine Br.ff (by assumption) ?_)
   | (refine Br.mk ?_ ?_ <;> intro hb <;> (try simp only [ZZ] at hb) <;> (first | omega | contradiction | skip))
   | refine Src.whole ⟨rfl, rfl⟩ ?_ | refine FrzV.whole ?_
   | refine CallW.use (utf_Good x) ?_
   | refine CallW.use (hP) ?_) <;> conv => whnf)
  · refine CLe.eq ?_; unfold putR; rw [if_pos hb]; rfl
  · refine CLe.eq ?_; unfold putR; rw [if_neg (by rw [hb]; simp)]; rfl
theorem reader_letter (t acc : Str) (a : Int) (h0 : 0 ≤ a) (h1 : a ≤ t.length) (hs : t.length ≤ 1073741824) (hacc : acc.length ≤ 1073741824) : AbsCall PP GG F.esc_reader_letter [.ptr 0 0] [rdO t a acc] ⟨.ret (.p (.bool (decide (0 < (utfTake (t.drop a.toNat)).2)))), [rdO t (a + (utfTake (t.drop a.toNat)).2) (acc ++ utfEnc (utfTake (t.drop a.toNat)).1)], []⟩ := by
  have hn := utfTake_n (t.drop a.toNat)
  refine absCall_of (pol := polG) mixP F.esc_reader_letter_is ?_
  conv => whnf
  repeat' ((first
   | ((with_reducible first | refine Br.dec ?_ ?_ | refine Br.ndec ?_ ?_) <;> intro hb <;> (try simp only [ZZ] at hb) <;> (first | omega | contradiction | skip))
   | (with_reducible first | refine Br.tt rfl ?_ | refine Br.ff rfl ?_ | refine Br.ff (isEmptyCons _ _) ?_)
   | (refine Side.mk ?_ ?_; focus (first | omega | (dsimp only [InR, Int.reduceToNat, IntKind.bits, Int.reducePow]; omega) | (simp [CC]; done) | (constructor <;> omega)))
   | with_reducible refine Br.not ?_
   | (with_reducible first | refine Br.tt (by assumption) ?_ | refine Br.ff (by assumption) ?_)
   | (refine Br.mk ?_ ?_ <;> intro hb <;> (try simp only [ZZ] at hb) <;> (first | omega | contradiction | skip))
   | refine Src.whole ⟨rfl, rfl⟩ ?_ | refine FrzV.whole ?_
   | refine CallW.use (utf_Take _ (by simp only [List.length_drop]; omega)) ?_
   | refine CallW.use (utf_PutZ acc _ hacc) ?_) <;> conv => whnf)
  exact CLe.eq rfl
theorem reader_digits (t acc : Str) (a : Int) (b n : Nat) (hs : t.length ≤ 1073741824) (hb : b ≤ 1073741824) (hn : n ≤ 8) : AbsCall PP GG F.esc_reader_digits [.ptr 0 0, .p (.int .i64 b), .p (.int .i64 n)] [rdO t a acc] ⟨.ret (.tup [.p (.int .i64 (digL t b n).1), .p (.bool (digL t b n).2)]), [rdO t a acc], []⟩ := by
  have hH := esc_Hex ((t.drop (b : Int).toNat).take (((b : Int) + n).toNat - (b : Int).toNat)) (by simp only [List.length_take, List.length_drop]; omega)
  unfold digL
  by_cases h : t.length < b + n
  · rw [if_pos h]
    refine absCall_of (pol := polG) mixP F.esc_reader_digits_is ?_
    conv => whnf
    repeat' ((first
     | ((with_reducible first | refine Br.dec ?_ ?_ | refine Br.ndec ?_ ?_) <;> intro hb <;> (try simp only [ZZ] at hb) <;> (first | omega | contradiction | skip))
     | (with_reducible first | refine Br.tt rfl ?_ | refine Br.ff rfl ?_ | refine Br.ff (isEmptyCons _ _) ?_)
     | (refine Side.mk ?_ ?_; focus (first | omega | (dsimp only [InR, Int.reduceToNat, IntKind.bits, Int.reducePow]; omega) | (simp [CC]; done) | (constructor <;> omega)))
     | with_reducible refine Br.not ?_
     | (with_reducible first | refine Br.tt (by assumption) ?_ | refine Br.ff (by assumption) ?_)
     | (refine Br.mk ?_ ?_ <;> intro hb <;> (try simp only [ZZ] at hb) <;> (first | omega | contradiction | skip))
     | refine Src.whole ⟨rfl, rfl⟩ ?_ | refine FrzV.whole ?_) <;> conv => whnf)
    all_goals exact CLe.eq rfl
  · rw [if_neg h]
    refine absCall_of (pol := polG) mixP F.esc_reader_digits_is ?_
    conv => whnf
    repeat' ((first
     | ((with_reducible first | refine Br.dec ?_ ?_ | refine Br.ndec ?_ ?_) <;> intro hb <;> (try simp only [ZZ] at hb) <;> (first | omega | contradiction | skip))
     | (with_reducible first | refine Br.tt rfl ?_ | refine Br.ff rfl ?_ | refine Br.ff (isEmptyCons _ _) ?_)
     | (refine Side.mk ?_ ?_; focus (first | omega | (dsimp only [InR, Int.reduceToNat, IntKind.bits, Int.reducePow]; omega) | (simp [CC]; done) | (constructor <;> omega)))
     | with_reducible refine Br.not ?_
     | (with_reducible first | refine Br.tt (by assumption) ?_ | refine Br.ff (by assumption) ?_)
     | (refine Br.mk ?_ ?_ <;> intro hb <;> (try simp only [ZZ] at hb) <;> (first | omega | contradiction | skip))
     | refine Src.whole ⟨rfl, rfl⟩ ?_ | refine FrzV.whole ?_
     | refine CallW.use (hH) ?_) <;> conv => whnf)
    refine CLe.eq ?_
    rw [show (((b : Int) + n).toNat - (b : Int).toNat) = n by omega, Int.toNat_natCast]
    rfl
theorem reader_escape (t acc : Str) (a : Nat) (h1 : a < t.length) (hs : t.length ≤ 1000000) (hacc : acc.length ≤ 1073741824) :
    AbsCall PP GG F.esc_reader_escape [.ptr 0 0] [rdO t a acc] ⟨.ret (.p (.bool (escAt t a acc).1)), [rdO t (escAt t a acc).2.1 (escAt t a acc).2.2], []⟩ := by
  have hS := esc_short (t.getD (a + 1) 0)
  have e1 : ((a : Int) + 1).toNat = a + 1 := by omega
  have e6 : ((a : Int) + 2 + 4).toNat = a + 6 := by omega
  by_cases h2 : a + 1 = t.length
  · rw [escAt_end h2]
    refine absCall_of (pol := polG) mixP F.esc_reader_escape_is ?_
    conv => whnf
    repeat' ((first
     | ((with_reducible first | refine Br.dec ?_ ?_ | refine Br.ndec ?_ ?_) <;> intro hb <;> (try simp only [ZZ] at hb) <;> (first | omega | contradiction | skip))
     | (with_reducible first | refine Br.tt rfl ?_ | refine Br.ff rfl ?_ | refine Br.ff (isEmptyCons _ _) ?_)
     | (refine Side.mk ?_ ?_; focus (first | omega | (dsimp only [InR, Int.reduceToNat, IntKind.bits, Int.reducePow]; omega) | (simp [CC]; done) | (constructor <;> omega)))
     | with_reducible refine Br.not ?_
     | (with_reducible first | refine Br.tt (by assumption) ?_ | refine Br.ff (by assumption) ?_)
     | (refine Br.mk ?_ ?_ <;> intro hb <;> (try simp only [ZZ] at hb) <;> (first | omega | contradiction | skip))
     | refine Src.whole ⟨rfl, rfl⟩ ?_ | refine FrzV.whole ?_) <;> conv => whnf)
    exact CLe.eq rfl
  · cases hsh : shortL (t.getD (a + 1) 0) with
    | some x =>
      rw [hsh] at hS
      rw [escAt_short h2 hsh]
      have hP := reader_put t acc a x 2 (by omega) (by omega) (by omega) hacc
      refine absCall_of (pol := polG) mixP F.esc_reader_escape_is ?_
      conv => whnf
      repeat' ((first
       | ((with_reducible first | refine Br.dec ?_ ?_ | refine Br.ndec ?_ ?_) <;> intro hb <;> (try simp only [ZZ] at hb) <;> (first | omega | contradiction | skip))
       | (with_reducible first | refine Br.tt rfl ?_ | refine Br.ff rfl ?_ | refine Br.ff (isEmptyCons _ _) ?_)
       | (refine Side.mk ?_ ?_; focus (first | omega | (dsimp only [InR, Int.reduceToNat, IntKind.bits, Int.reducePow]; omega) | (simp [CC]; done) | (constructor <;> omega)))
       | with_reducible refine Br.not ?_
       | (with_reducible first | refine Br.tt (by assumption) ?_ | refine Br.ff (by assumption) ?_)
       | (refine Br.mk ?_ ?_ <;> intro hb <;> (try simp only [ZZ] at hb) <;> (first | omega | contradiction | skip))
       | refine Src.whole ⟨rfl, rfl⟩ ?_ | refine FrzV.whole ?_
       | refine CallW.use (hS) ?_
       | refine CallW.use (hP) ?_) <;> conv => whnf)
      exact CLe.eq rfl
    | none =>
      rw [hsh] at hS
      have hE := escAt_u (acc := acc) h2 hsh
      have hD := reader_digits t acc a (a + 2) 4 (by omega) (by omega) (by omega)
      have hD8 := reader_digits t acc a (a + 8) 4 (by omega) (by omega) (by omega)
      have hl4 := @digL_lt t (a + 2)
      have hl8 := @digL_lt t (a + 8)
      have hP6 := fun x => reader_put t acc a x 6 (by omega) (by omega) (by omega) hacc
      have hP12 := fun x => reader_put t acc a x 12 (by omega) (by omega) (by omega) hacc
      generalize digL t (a + 2) 4 = d at *
      generalize digL t (a + 8) 4 = e at *
      obtain ⟨x, ok⟩ := d
      obtain ⟨y, ok2⟩ := e
      generalize escAt t a acc = R at *
      simp only [] at hE hl4 hl8
      have hF1 : ¬ ((t.getD (a + 1) 0).toNat : Int) = 117 → R = (false, (a : Int), acc) := fun h => by rw [hE, if_pos (Or.inl h)]
      have hF2 : ok = false → R = (false, (a : Int), acc) := fun h => by rw [hE, if_pos (Or.inr h)]
      have hX : ((t.getD (a + 1) 0).toNat : Int) = 117 → ok = true → (x < 55296 ∨ 56320 ≤ x) → R = putR a acc x 6 := fun h h' h2 => by rw [hE, if_neg (fun hh => hh.elim (fun g => g h) (fun g => by rw [h'] at g; cases g)), if_pos h2]
      have hY : ((t.getD (a + 1) 0).toNat : Int) = 117 → ok = true → ¬ x < 55296 → ¬ 56320 ≤ x → (ok2 = false ∨ ¬ (t.drop (a + 6)).take 2 = [92, 117] ∨ y < 56320 ∨ 57343 < y) → R = (false, (a : Int), acc) := fun h h' h2 h3 h4 => by rw [hE, if_neg (fun hh => hh.elim (fun g => g h) (fun g => by rw [h'] at g; cases g)), if_neg (fun hh => hh.elim h2 h3), if_pos h4]
      have hZ : ((t.getD (a + 1) 0).toNat : Int) = 117 → ok = true → ¬ x < 55296 → ¬ 56320 ≤ x → ok2 = true → (t.drop (a + 6)).take 2 = [92, 117] → ¬ y < 56320 → ¬ 57343 < y → R = putR a acc (65536 + (x - 55296) * 1024 + (y - 56320)) 12 := fun h h' h2 h3 h4 h5 h6 h7 => by rw [hE, if_neg (fun hh => hh.elim (fun g => g h) (fun g => by rw [h'] at g; cases g)), if_neg (fun hh => hh.elim h2 h3), if_neg (fun hh => hh.elim (fun g => by rw [h4] at g; cases g) (fun hh => hh.elim (fun g => g h5) (fun hh => hh.elim h6 h7)))]
      have e8 : ((a : Int) + 2 + 4 + 2).toNat = a + 8 := by omega
      have e86 : a + 8 - (a + 6) = 2 := by omega
      clear hE
      refine absCall_of (pol := polG) mixP F.esc_reader_escape_is ?_
      conv => whnf
      repeat' ((first
       | ((with_reducible first | refine Br.dec ?_ ?_ | refine Br.ndec ?_ ?_) <;> intro hb <;> (try simp only [And.intro @e1 (And.intro @e8 (And.intro @e6 (And.intro @e86 (ZZ))))] at hb) <;> (first | omega | contradiction | skip))
       | (with_reducible first | refine Br.tt rfl ?_ | refine Br.ff rfl ?_ | refine Br.ff (isEmptyCons _ _) ?_)
       | (refine Side.mk ?_ ?_; focus (first | omega | (dsimp only [InR, Int.reduceToNat, IntKind.bits, Int.reducePow]; omega) | (have := hl8 (by assumption); omega) | (simp [CC]; done) | (constructor <;> omega)))
       | with_reducible refine Br.not ?_
       | (with_reducible first | refine Br.tt (by assumption) ?_ | refine Br.ff (by assumption) ?_)
       | (refine Br.mk ?_ ?_ <;> intro hb <;> (try simp only [And.intro @e1 (And.intro @e8 (And.intro @e6 (And.intro @e86 (ZZ))))] at hb) <;> (first | omega | contradiction | skip))
       | refine Src.whole ⟨rfl, rfl⟩ ?_ | refine FrzV.whole ?_
       | refine CallW.use (hS) ?_
       | refine CallW.use (hD) ?_
       | refine CallW.use (hD8) ?_
       | refine CallW.use (hP6 _) ?_
       | refine CallW.use (hP12 _) ?_) <;> conv => whnf)
      all_goals
        first
        | rw [hF1 (by assumption)]
        | rw [hF2 (by assumption)]
        | rw [hX (by assumption) (by assumption) (.inl (by assumption))]
        | rw [hX (by assumption) (by assumption) (.inr (by assumption))]
        | rw [hY (by assumption) (by assumption) (by assumption) (by assumption) (.inl (by assumption))]
        | rw [hY (by assumption) (by assumption) (by assumption) (by assumption) (.inr (.inl (by assumption)))]
        | rw [hY (by assumption) (by assumption) (by assumption) (by assumption) (.inr (.inr (.inl (by assumption))))]
        | rw [hY (by assumption) (by assumption) (by assumption) (by assumption) (.inr (.inr (.inr (by assumption))))]
        | rw [hZ (by assumption) (by assumption) (by assumption) (by assumption) (by assumption) (by assumption) (by assumption) (by assumption)]
        | skip
        exact CLe.eq rfl
theorem unq_loop (t : Str) (hs : t.length ≤ 1000000) (R : Str × Int × Int) (K : Post)
    (h0 : R = ([], 0, (t.length : Int)) → ∀ a acc, K (.exit 0) [(0, .p (.str t))] [rdO t a acc] [])
    (hr : ∀ a acc, K .ret [(4, .p (.str R.1)), (5, .p (.int .i64 R.2.1)), (6, .p (.int .i64 R.2.2))] [rdO t a acc] []) :
    ∀ (q a : Nat) (acc : Str), t.length < a + q → acc.length ≤ 4 * a → a ≤ t.length → unqL q t a acc = R →
      LoopW PP GG 82 0 (loopN F.esc_Unquote_c 0) [(0, .p (.str t)), (7, .ptr 0 0)] [rdO t a acc] [] (PostCl 82 K) := by
  intro q
  induction q with
  | zero => intro a acc hq _ hal; omega
  | succ q ih =>
    intro a acc hq hacc hal hR
    rw [unqL] at hR
    by_cases hl : t.length ≤ a
    · rw [if_pos hl] at hR
      refine LoopW.round (pol := polG) mixP ?_
      conv => whnf
      repeat' ((first
       | ((with_reducible first | refine Br.dec ?_ ?_ | refine Br.ndec ?_ ?_) <;> intro hb <;> (try simp only [ZZ] at hb) <;> (first | omega | contradiction | skip))
       | (with_reducible first | refine Br.tt rfl ?_ | refine Br.ff rfl ?_ | refine Br.ff (isEmptyCons _ _) ?_)
       | (refine Side.mk ?_ ?_; focus (first | omega | (dsimp only [InR, Int.reduceToNat, IntKind.bits, Int.reducePow]; omega) | (simp [CC]; done) | (constructor <;> omega)))
       | with_reducible refine Br.not ?_
       | (with_reducible first | refine Br.tt (by assumption) ?_ | refine Br.ff (by assumption) ?_)
       | (refine Br.mk ?_ ?_ <;> intro hb <;> (try simp only [ZZ] at hb) <;> (first | omega | contradiction | skip))
       | refine Src.whole ⟨rfl, rfl⟩ ?_ | refine FrzV.whole ?_) <;> conv => whnf)
      · refine PostCl.of (h0 hR.symm _ _) ?_ ?_
        · repeat first | exact trivial | refine ⟨VLe.refl _, ?_⟩
        · repeat first | exact trivial | refine ⟨by decide, ?_⟩
    · rw [if_neg hl] at hR
      have hE := reader_escape t acc a (by omega) (by omega) (by omega)
      have hL := reader_letter t acc a (by omega) (by omega) (by omega) (by omega)
      have hok := @escAt_ok t a acc (by omega)
      have hno := @escAt_no t a acc
      have hn := utfTake_n (t.drop a)
      have hn1 := utfEnc_len4 (utfTake (t.drop a)).1
      rw [List.length_drop] at hn
      rw [Int.toNat_natCast] at hL
      generalize escAt t a acc = E at *
      obtain ⟨n, hn2⟩ := Int.eq_ofNat_of_zero_le (show 0 ≤ (utfTake (t.drop a)).2 by omega)
      rw [hn2] at hn hL hR
      refine LoopW.round (pol := polG) mixP ?_
      conv => whnf
      repeat' ((first
       | ((with_reducible first | refine Br.dec ?_ ?_ | refine Br.ndec ?_ ?_) <;> intro hb <;> (try simp only [And.intro @Int.toNat_natCast (ZZ)] at hb) <;> (first | omega | contradiction | skip))
       | (with_reducible first | refine Br.tt rfl ?_ | refine Br.ff rfl ?_ | refine Br.ff (isEmptyCons _ _) ?_)
       | (refine Side.mk ?_ ?_; focus (first | omega | (dsimp only [InR, Int.reduceToNat, IntKind.bits, Int.reducePow]; omega) | (simp [CC]; done) | (constructor <;> omega)))
       | with_reducible refine Br.not ?_
       | (with_reducible first | refine Br.tt (by assumption) ?_ | refine Br.ff (by assumption) ?_)
       | (refine Br.mk ?_ ?_ <;> intro hb <;> (try simp only [And.intro @Int.toNat_natCast (ZZ)] at hb) <;> (first | omega | contradiction | skip))
       | refine Src.whole ⟨rfl, rfl⟩ ?_ | refine FrzV.whole ?_
       | refine CallW.use (hE) ?_
       | refine CallW.use (hL) ?_
       | (refine Bytes.mk' rfl ?_)) <;> conv => whnf)
      · rw [if_pos (by omega)] at hR
        subst hR
        refine PostCl.of (hr _ _) ?_ ?_
        · repeat first | exact trivial | refine ⟨VLe.refl _, ?_⟩
        · repeat first | exact trivial | refine ⟨by decide, ?_⟩
      · rw [if_neg (by omega), if_pos (by omega)] at hR
        subst hR
        refine PostCl.of (hr _ _) ?_ ?_
        · repeat first | exact trivial | refine ⟨VLe.refl _, ?_⟩
        · repeat first | exact trivial | refine ⟨by decide, ?_⟩
      · obtain ⟨k, x, hEq, hk, hkl⟩ := hok hb
        rw [if_neg (by omega), if_neg (by omega), if_pos (by omega), if_pos hb] at hR
        have := utfEnc_len4 x
        subst hEq
        rw [Int.toNat_natCast] at hR
        refine LoopW.sub (ih (a + k) (acc ++ utfEnc x) (by omega) (by rw [List.length_append]; omega) (by omega) hR) (by repeat first | exact trivial | refine ⟨VLe.refl _, ?_⟩) (by repeat first | exact trivial | refine ⟨by decide, ?_⟩)
      · rw [if_neg (by omega), if_neg (by omega), if_pos (by omega), if_neg (by rw [hb]; simp)] at hR
        rw [hno hb]
        subst hR
        refine PostCl.of (hr _ _) ?_ ?_
        · repeat first | exact trivial | refine ⟨VLe.refl _, ?_⟩
        · repeat first | exact trivial | refine ⟨by decide, ?_⟩
      · rw [if_neg (by omega), if_neg (by omega), if_neg (by omega), if_pos (by omega)] at hR
        rw [show (a : Int) + (n : Int) = a by omega]
        subst hR
        refine PostCl.of (hr _ _) ?_ ?_
        · repeat first | exact trivial | refine ⟨VLe.refl _, ?_⟩
        · repeat first | exact trivial | refine ⟨by decide, ?_⟩
      · rw [if_neg (by omega), if_neg (by omega), if_neg (by omega), if_neg (by omega), Int.toNat_natCast] at hR
        refine LoopW.sub (ih (a + n) _ (by omega) (by rw [List.length_append]; omega) (by omega) hR) (by repeat first | exact trivial | refine ⟨VLe.refl _, ?_⟩) (by repeat first | exact trivial | refine ⟨by decide, ?_⟩)
theorem esc_Unquote (t : Str) (a : Int) (ha : -1073741824 ≤ a ∧ a ≤ 1073741824) (hs : t.length ≤ 1000000) : AbsCall PP GG F.esc_Unquote [.p (.str t), .p (.int .i64 a)] [] ⟨.ret (.tup [.p (.str (unquoteL t a).1), .p (.int .i64 (unquoteL t a).2.1), .p (.int .i64 (unquoteL t a).2.2)]), [], []⟩ := by
  have hS := esc_start t a ha (by omega)
  have hc := clampL_le t a
  have hB := reader_begins t [] (clampL t a) 34 hc.1 hc.2
  unfold unquoteL
  generalize clampL t a = c at *
  obtain ⟨c, rfl⟩ := Int.eq_ofNat_of_zero_le hc.1
  have hpl := @preB_len (t.drop c) 34
  rw [List.length_drop] at hpl
  rw [Int.toNat_natCast] at hB ⊢
  refine absCall_of (pol := polG) mixP F.esc_Unquote_is ?_
  conv => whnf
  repeat' ((first
   | ((with_reducible first | refine Br.dec ?_ ?_ | refine Br.ndec ?_ ?_) <;> intro hb <;> (try simp only [ZZ] at hb) <;> (first | omega | contradiction | skip))
   | (with_reducible first | refine Br.tt rfl ?_ | refine Br.ff rfl ?_ | refine Br.ff (isEmptyCons _ _) ?_)
   | (refine Side.mk ?_ ?_; focus (first | omega | (dsimp only [InR, Int.reduceToNat, IntKind.bits, Int.reducePow]; omega) | (simp [CC]; done) | (constructor <;> omega)))
   | with_reducible refine Br.not ?_
   | (with_reducible first | refine Br.tt (by assumption) ?_ | refine Br.ff (by assumption) ?_)
   | (refine Br.mk ?_ ?_ <;> intro hb <;> (try simp only [ZZ] at hb) <;> (first | omega | contradiction | skip))
   | refine Src.whole ⟨rfl, rfl⟩ ?_ | refine FrzV.whole ?_
   | refine CallW.use (hS) ?_
   | refine CallW.use (hB) ?_) <;> conv => whnf)
  · rw [if_pos (Or.inl hb)]; exact CLe.eq rfl
  · have := hpl (by assumption)
    rw [if_neg (fun hh => hh.elim (by assumption) (fun g => by simp_all))]
    refine LoopW.cl ?_
    refine LoopW.sub (unq_loop t hs (unqL (t.length + 1) t (c + 1) []) _ (fun h b acc => ?_) (fun b acc => ?_) (t.length + 1) (c + 1) [] (by omega) (by simp) (by omega) rfl) (by repeat first | exact trivial | refine ⟨VLe.refl _, ?_⟩) (by repeat first | exact trivial | refine ⟨by decide, ?_⟩)
    · conv => whnf
      exact CLe.eq (by rw [h])
    · conv => whnf
      exact CLe.eq rfl
  · rw [if_pos (Or.inr (by assumption))]; exact CLe.eq rfl
end Go.Proofs.YtaoejccgdpppgaaGreatDoor
end
