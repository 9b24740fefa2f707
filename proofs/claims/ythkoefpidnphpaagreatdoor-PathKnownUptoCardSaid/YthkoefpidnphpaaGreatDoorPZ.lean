/-
PathKnown: the closed test, evaluated by an abstract machine.
What code wants and gives; loops; functions.
What a function wants and gives.
The numbers of the functions, types and variables of this seat's program, by name; printed by a program of this work.
The machine at this seat's program: what is known of the package's variables; the library's functions that are met by a contract.
The library's functions that are met by a contract: what does not escape.
The machine at this seat: the library's functions that are met by a contract.
Three arguments.
The library's contracts that this seat's proofs of paths use (Compare, Itoa, Atoi, TrimPrefix, HasPrefix, ReplaceAll, Split, Trim), laid at its program in plain words by the kit's tool.
Trees of values, as data of the machine.
Bits of numbers that are not below nought.
Letters in bytes, as the program has them.
The reference's letters are the program's.
Numbers' texts, as the reference has them.
How values are written.
How strings are written.
Words of JSON: places in texts, rows of bytes, numbers' forms.
Numbers' texts, as the program reads them.
A JSON string read, as the program reads it.
Words of JSON, as the program cuts them.
Where words end; a text cut into words.
The program's strings are the reference's.
The program's numbers are the reference's.
The program's and the reference's reading of whole numbers agree.
Which trees may be, as the reference says.
How trees are written.
What is written in lines, without blanks and ends of lines, is what is written in one.
One byte, kept or not.
Unlike strings, unlike numbers are written unlike.
Unlike trees without stamps are written unlike.
What a printed value's text is cut into, I: single words.
JSON words read into a tree, as the program reads them: a tree, where it goes on, how many nodes there were; or an error and its place.
What was cut from a text are words that the reader may go through.
What a printed value's text is cut into, II: all its words.
Paths: steps, their texts, their order.
Paths: unlike paths are unlike texts.
The library's functions that are met by a contract, for paths.
What paths ask of the library, for the machine.
PathKnown, and what all statements of paths ask first: evaluated.
From what a row says of its arguments to what the machine knows of them: numbers, letters, lists, structs.
What a row says of an argument that is a tree.
What a row's list of variables gives.
What all rows need.
What rows need of arguments that are strings, whole numbers, bools.
The row of PathKnown.
-/
import Derived.Test.YthkoefpidnphpaaGreatDoorPE
import Derived.Test.YthkoefpidnphpaaGreatDoorProg
import Derived.KernelRfl
import Derived.Lib.AppendIntMem
import Derived.Test.YthkoefpidnphpaaGreatDoorPD
import Derived.Shelf.Small.Strs
import Derived.Shelf.Small.Wraps
import Derived.Shelf.Strconv.Itoa3
import Derived.Shelf.Strconv.Itoa4
import Derived.Shelf.LaysM
import Derived.Shelf.LaysC
import Derived.Shelf.Strconv.AtoiAll
import Derived.Shelf.Strings.Prefix
import Derived.Shelf.Strings.Split
import Derived.Shelf.Strings.Replace
import Derived.Shelf.Strings.SlTrimAscii
import Derived.Lib.ItoaLen
import Derived.Lib.Repeat
import Derived.Lib.SlTrimSet
import Derived.Lib.IndexAny
import Derived.Lib.LastIndexByte
import Derived.Lib.ParseIntBCases
import Derived.Lib.Replace
import Derived.Lib.Small
import Derived.Lib.SplitLaws
import Derived.ChangeAnyMap
import Derived.Test.YthkoefpidnphpaaGreatDoorRows
import Derived.Shelf.Vars
import Derived.LaidLaws
import Derived.LaidSub
import Derived.Lib.LaidTab
import Derived.Deep.DeepHandedRow
import Derived.Test.YthkoefpidnphpaaGreatDoorCards
import Derived.Test.YthkoefpidnphpaaGreatDoorTie
import Derived.WalkKit
import Derived.ProofKit
import Derived.OpenShut
import Derived.Deep.DeepWitnessRowRef
import Derived.MakeChecks
import Derived.Carry
import Derived.Lay

section
namespace Go.Am
open Go
section
variable (P : Program) (G : Nat → Option PV) (pol : Pol) (n k : Nat)
structure LoopW (b : Code) (σ : Env) (H : Heap) (mv : List Nat) (K : Post) : Prop where
  sound : Bdd n σ → ∀ {B : Nat → Prop} {L : Loc} {w : World} {a : Act}, St B L w H → ERel B L w (toEnv n σ) a.tmps → GOk G B w → ∀ {Q : Exit → Act → World → Prop}, (∀ e a' w', PostAt n k B L w H mv a.defers K e a' w' → Q e a' w') → LoopWp P b Q a w
def firstId : Code → Option Nat
  | .region id _ _ => some id
  | .seq a _ => firstId a
  | .block _ b => firstId b
  | .loop b => firstId b
  | _ => none
structure CutW (b : Code) (σ : Env) (H : Heap) (mv : List Nat) (K : Post) : Prop where
  sound : Bdd n σ → ∀ {B : Nat → Prop} {L : Loc} {w : World} {a : Act}, St B L w H → ERel B L w (toEnv n σ) a.tmps → GOk G B w → ∀ {Q : Exit → Act → World → Prop}, (∀ e a' w', PostAt n k B L w H mv a.defers K e a' w' → Q e a' w') → b.wp P Q a w
def W : Code → Env → Heap → List Nat → Post → Prop
  | .skip, σ, H, mv, K => K .normal σ H mv
  | .label _, σ, H, mv, K => K .normal σ H mv
  | .region _ ops draw, σ, H, mv, K => match draw with
    | false => spineK (List.range ops.size) fun l => opsW P G pol n k ops.toList l σ H mv K
    | true => regionW P G pol n k ops σ H mv K
  | .seq a b, σ, H, mv, K => W a σ H mv fun ex σ H mv => match ex with
    | .normal => match pol.cut (firstId b) with
      | true => CutW P G n k b σ H mv K
      | false => W b σ H mv K
    | ex => K ex σ H mv
  | .cond c a b, σ, H, mv, K => match evS G σ c with
    | .p (.bool t) => Br t (W a σ H mv K) (W b σ H mv K)
    | _ => False
  | .block id b, σ, H, mv, K => W b σ H mv fun ex σ H mv => match ex with
    | .exit j => match Nat.beq j id with
      | true => K .normal σ H mv
      | false => K (.exit j) σ H mv
    | ex => K ex σ H mv
  | .loop b, σ, H, mv, K => LoopW P G n k b σ H mv K
  | .exit id, σ, H, mv, K => K (.exit id) σ H mv
  | .ret, σ, H, mv, K => K .ret σ H mv
  | _, _, _, _, _ => False
end
section
variable {P : Program} {G : Nat → Option PV} {pol : Pol} {n k : Nat}
theorem W_sound (hm : P.follows .mixedOrders = true) : ∀ (c : Code) {σ : Env} {H : Heap} {mv : List Nat} {K : Post}, W P G pol n k c σ H mv K → Bdd n σ → ∀ {B : Nat → Prop} {L : Loc} {w : World} {a : Act}, St B L w H → ERel B L w (toEnv n σ) a.tmps → GOk G B w →
    ∀ {Q : Exit → Act → World → Prop}, (∀ e a' w', PostAt n k B L w H mv a.defers K e a' w' → Q e a' w') → c.wp P Q a w := by
  intro c
  induction c with
  | skip =>
    intro σ H mv K h hb B L w a hst he hg Q hQ
    exact wp_skip (hQ _ _ _ ⟨.normal, σ, H, mv, h, hb, B, L, FS.refl _ _ _ _ _ _, he, hst, rfl, rfl, trivial⟩)
  | label l =>
    intro σ H mv K h hb B L w a hst he hg Q hQ
    exact wp_label (hQ _ _ _ ⟨.normal, σ, H, mv, h, hb, B, L, FS.refl _ _ _ _ _ _, he, hst, rfl, rfl, trivial⟩)
  | region id ops draw =>
    intro σ H mv K h hb B L w a hst he hg Q hQ
    cases draw with
    | false =>
      simp only [W, spineK_eq] at h
      exact wp_region (opsW_sound _ hb h hst he hg hQ)
    | true => exact regionW_sound hm hb h hst he hg hQ
  | seq x y ihx ihy =>
    intro σ H mv K h hb B L w a hst he hg Q hQ
    refine wp_seq ?_
    refine ihx h hb hst he hg fun e a1 w1 hp => ?_
    obtain ⟨ex, σ1, H1, mv1, hK, hb1, B1, L1, hfs, he1, hst1, hk1, hd1, hm1⟩ := hp
    cases ex with
    | normal =>
      cases e with
      | normal =>
        simp only [] at hK
        split at hK
        · refine hK.sound hb1 hst1 he1 (hg.step (hfs.step hst)) fun e a2 w2 hp2 => hQ e a2 w2 ?_
          rw [hd1] at hp2
          exact PostAt.trans hfs hp2
        · refine ihy hK hb1 hst1 he1 (hg.step (hfs.step hst)) fun e a2 w2 hp2 => hQ e a2 w2 ?_
          rw [hd1] at hp2
          exact PostAt.trans hfs hp2
      | _ => exact hm1.elim
    | _ =>
      cases e with
      | normal => exact hm1.elim
      | _ => exact hQ _ _ _ ⟨_, σ1, H1, mv1, hK, hb1, B1, L1, hfs, he1, hst1, hk1, hd1, hm1⟩
  | cond c x y ihx ihy =>
    intro σ H mv K h hb B L w a hst he hg Q hQ
    unfold W at h
    split at h
    · rename_i t hc
      have hv := evalO_sound he hg c
      rw [evS_eq hb, hc] at hv
      have hp := hv.of_p
      generalize hq : a.eval c = q at hp
      cases hp
      refine wp_cond hq ?_
      cases ht : t with
      | true => rw [if_pos rfl]; exact ihx (h.t ht) hb hst he hg hQ
      | false => rw [if_neg (by simp)]; exact ihy (h.f ht) hb hst he hg hQ
    · exact h.elim
  | block id b ih =>
    intro σ H mv K h hb B L w a hst he hg Q hQ
    refine wp_block ?_
    refine ih h hb hst he hg fun e a1 w1 hp => ?_
    obtain ⟨ex, σ1, H1, mv1, hK, hb1, B1, L1, hfs, he1, hst1, hk1, hd1, hm1⟩ := hp
    cases ex with
    | exit j =>
      cases e with
      | exit i =>
        have hji : j = i := hm1
        subst hji
        simp only [] at hK
        simp only [Exit.inBlock]
        split at hK
        · rename_i hb'
          rw [if_pos (Nat.eq_of_beq_eq_true hb')]
          exact hQ _ _ _ ⟨.normal, σ1, H1, mv1, hK, hb1, B1, L1, hfs, he1, hst1, hk1, hd1, trivial⟩
        · rename_i hb'
          rw [if_neg (fun e => by rw [e] at hb'; simp at hb')]
          exact hQ _ _ _ ⟨.exit j, σ1, H1, mv1, hK, hb1, B1, L1, hfs, he1, hst1, hk1, hd1, rfl⟩
      | _ => exact hm1.elim
    | _ =>
      cases e with
      | exit i => exact hm1.elim
      | _ => exact hQ _ _ _ ⟨_, σ1, H1, mv1, hK, hb1, B1, L1, hfs, he1, hst1, hk1, hd1, hm1⟩
  | loop b ih =>
    intro σ H mv K h hb B L w a hst he hg Q hQ
    exact (h.sound hb hst he hg hQ).loop
  | exit id =>
    intro σ H mv K h hb B L w a hst he hg Q hQ
    exact wp_exit (hQ _ _ _ ⟨.exit id, σ, H, mv, h, hb, B, L, FS.refl _ _ _ _ _ _, he, hst, rfl, rfl, rfl⟩)
  | ret =>
    intro σ H mv K h hb B L w a hst he hg Q hQ
    exact wp_ret (hQ _ _ _ ⟨.ret, σ, H, mv, h, hb, B, L, FS.refl _ _ _ _ _ _, he, hst, rfl, rfl, trivial⟩)
  | _ =>
    intro σ H mv K h
    exact h.elim
theorem LoopW.round (hm : P.follows .mixedOrders = true) {b : Code} {σ : Env} {H : Heap} {mv : List Nat} {K : Post}
    (h : W P G pol n k b σ H mv fun ex σ' H' mv' => match ex with
      | .normal => LoopW P G n k b σ' H' mv' K
      | ex => K ex σ' H' mv') : LoopW P G n k b σ H mv K := by
  refine ⟨fun hb B L w a hst he hg Q hQ => LoopWp.round ?_⟩
  refine W_sound hm b h hb hst he hg fun e a1 w1 hp => ?_
  obtain ⟨ex, σ1, H1, mv1, hK, hb1, B1, L1, hfs, he1, hst1, hk1, hd1, hm1⟩ := hp
  cases ex with
  | normal =>
    cases e with
    | normal =>
      refine hK.sound hb1 hst1 he1 (hg.step (hfs.step hst)) fun e a2 w2 hp2 => hQ e a2 w2 ?_
      rw [hd1] at hp2
      exact PostAt.trans hfs hp2
    | _ => exact hm1.elim
  | _ =>
    cases e with
    | normal => exact hm1.elim
    | _ => exact hQ _ _ _ ⟨_, σ1, H1, mv1, hK, hb1, B1, L1, hfs, he1, hst1, hk1, hd1, hm1⟩
def VLe (v u : V) : Prop := ∀ (B : Nat → Prop) (L : Loc) (w : World) (x : Value), VRel B L w v x → VRel B L w u x
theorem VLe.refl (v : V) : VLe v v := fun _ _ _ _ h => h
theorem VLe.trans {a b c : V} (h : VLe a b) (g : VLe b c) : VLe a c := fun B L w x hx => g B L w x (h B L w x hx)
theorem VLe.junk (v : V) : VLe v .junk := fun _ _ _ x _ => .junk x
def PLe (d e : PV) : Prop := ∀ (B : Nat → Prop) (w : World) (x : Value), PRel B w d x → PRel B w e x
theorem PLe.refl (d : PV) : PLe d d := fun _ _ _ h => h
theorem PLe.trans {a b c : PV} (h : PLe a b) (g : PLe b c) : PLe a c := fun B w x hx => g B w x (h B w x hx)
theorem PLe.p {d e : PV} (h : PLe d e) : VLe (.p d) (.p e) := fun B _ w x hx => .p _ _ (h B w x hx.of_p)
theorem PLe.nils (ex : Bool) : PLe .nils (.lst ex []) := fun B w x h => by cases h; exact .lst0 ex none 0 (fun _ => rfl)
theorem PLe.lst (ex : Bool) (l : List PV) : PLe (.lst ex l) (.lst false l) := fun B w x h => by
  cases h with
  | lst0 ex a cap he => exact .lst0 false a cap (fun e => by cases e)
  | lst ex l b o cap sz u hb hw hz hs hf hcap he hc hr => exact .lst false l b o cap sz u hb hw hz hs hf hcap (fun e => by cases e) hc hr
def LeL : List PV → List PV → Prop
  | [], [] => True
  | d :: l, e :: m => PLe d e ∧ LeL l m
  | _, _ => False
theorem LeL.refl : ∀ (l : List PV), LeL l l
  | [] => trivial
  | d :: l => ⟨PLe.refl d, LeL.refl l⟩
theorem LeL.spec : ∀ {l m : List PV}, LeL l m → l.length = m.length ∧ ∀ (i : Nat) d e, l[i]? = some d → m[i]? = some e → PLe d e
  | [], [], _ => ⟨rfl, fun i d e h => by simp at h⟩
  | d :: l, e :: m, h => by
    obtain ⟨h1, h2⟩ := LeL.spec h.2
    refine ⟨by simp [h1], fun i x y hx hy => ?_⟩
    cases i with
    | zero => simp at hx hy; subst hx; subst hy; exact h.1
    | succ i => exact h2 i x y (by simpa using hx) (by simpa using hy)
  | [], _ :: _, h => h.elim
  | _ :: _, [], h => h.elim
theorem PLe.agg {l m : List PV} (h : LeL l m) : PLe (.agg l) (.agg m) := fun B w x hx => by
  obtain ⟨h1, h2⟩ := h.spec
  cases hx with
  | agg l c hl hr =>
    refine .agg m c (by omega) fun i e y he hy => ?_
    have hi : i < l.length := by have := (List.getElem?_eq_some_iff.1 he).1; omega
    exact h2 i l[i] e (by simp [hi]) he B w y (hr i l[i] y (by simp [hi]) hy)
theorem PLe.tup {l m : List PV} (h : LeL l m) : PLe (.tup l) (.tup m) := fun B w x hx => by
  obtain ⟨h1, h2⟩ := h.spec
  cases hx with
  | tup l c hl hr =>
    refine .tup m c (by omega) fun i e y he hy => ?_
    have hi : i < l.length := by have := (List.getElem?_eq_some_iff.1 he).1; omega
    exact h2 i l[i] e (by simp [hi]) he B w y (hr i l[i] y (by simp [hi]) hy)
def VLeL : List V → List V → Prop
  | [], [] => True
  | d :: l, e :: m => VLe d e ∧ VLeL l m
  | _, _ => False
theorem VLeL.refl : ∀ (l : List V), VLeL l l
  | [] => trivial
  | d :: l => ⟨VLe.refl d, VLeL.refl l⟩
theorem VLeL.spec : ∀ {l m : List V}, VLeL l m → l.length = m.length ∧ ∀ (i : Nat) d e, l[i]? = some d → m[i]? = some e → VLe d e
  | [], [], _ => ⟨rfl, fun i d e h => by simp at h⟩
  | d :: l, e :: m, h => by
    obtain ⟨h1, h2⟩ := VLeL.spec h.2
    refine ⟨by simp [h1], fun i x y hx hy => ?_⟩
    cases i with
    | zero => simp at hx hy; subst hx; subst hy; exact h.1
    | succ i => exact h2 i x y (by simpa using hx) (by simpa using hy)
  | [], _ :: _, h => h.elim
  | _ :: _, [], h => h.elim
theorem VLe.tup {l m : List V} (h : VLeL l m) : VLe (.tup l) (.tup m) := fun B L w x hx => by
  obtain ⟨h1, h2⟩ := h.spec
  cases hx with
  | tup l c hl hr =>
    refine .tup m c (by omega) fun i e y he hy => ?_
    have hi : i < l.length := by have := (List.getElem?_eq_some_iff.1 he).1; omega
    exact h2 i l[i] e (by simp [hi]) he B L w y (hr i l[i] y (by simp [hi]) hy)
theorem VLeL.rel {l m : List V} (h : VLeL l m) {B : Nat → Prop} {L : Loc} {w : World} {c : List Value} (hr : VRelL B L w l c) : VRelL B L w m c := by
  obtain ⟨h1, h2⟩ := h.spec
  refine ⟨by have := hr.1; omega, fun i e y he hy => ?_⟩
  have hi : i < l.length := by have := (List.getElem?_eq_some_iff.1 he).1; omega
  exact h2 i l[i] e (by simp [hi]) he B L w y (hr.2 i l[i] y (by simp [hi]) hy)
structure HLe (H H' : Heap) : Prop where
  rel : ∀ (n : Nat) (B : Nat → Prop) (L : Loc) (w : World), HRel B L w n (Heap.at H n) → HRel B L w n (Heap.at H' n)
  live : ∀ n, (Heap.at H' n).live → (Heap.at H n).live
  len : H.length = H'.length
theorem HLe.refl (H : Heap) : HLe H H := ⟨fun _ _ _ _ h => h, fun _ h => h, rfl⟩
theorem St.le {B : Nat → Prop} {L : Loc} {w : World} {H H' : Heap} (h : HLe H H') (hst : St B L w H) : St B L w H' :=
  ⟨fun n => h.rel n B L w (hst.rel n), fun n hl => hst.own n (h.live n hl), fun n m hn hm e => hst.inj n m (h.live n hn) (h.live m hm) e, hst.bnd⟩
inductive OutLe : Out → Out → Prop
  | ret {v u : V} (h : VLe v u) : OutLe (.ret v) (.ret u)
  | pan {v u : V} (h : VLe v u) : OutLe (.pan v) (.pan u)
theorem OutLe.refl : ∀ (o : Out), OutLe o o
  | .ret v => .ret (VLe.refl v)
  | .pan v => .pan (VLe.refl v)
theorem OutLe.rel {o o' : Out} (h : OutLe o o') {B : Nat → Prop} {L : Loc} {w : World} {e : Ending} (hr : OutRel B L w o e) : OutRel B L w o' e := by
  cases h with
  | ret h =>
    cases e with
    | returned x => exact h B L w x hr
    | _ => exact hr.elim
  | pan h =>
    unfold OutRel at hr ⊢
    split at hr
    · contradiction
    · rename_i e1
      cases e1
      exact h B L w _ hr
    · exact hr.elim
structure CLe (c c' : CR) : Prop where
  out : OutLe c.out c'.out
  H : HLe c.H c'.H
  mv : ∀ n, n ∈ c.mv → n ∈ c'.mv
theorem CLe.refl (c : CR) : CLe c c := ⟨OutLe.refl _, HLe.refl _, fun _ h => h⟩
theorem CLe.ret {v u : V} (h : VLe v u) {H : Heap} {mv : List Nat} : CLe ⟨.ret v, H, mv⟩ ⟨.ret u, H, mv⟩ := ⟨.ret h, HLe.refl _, fun _ h => h⟩
theorem CLe.mvs {o : Out} {H : Heap} {mv mv' : List Nat} (h : ∀ n, n ∈ mv → n ∈ mv') : CLe ⟨o, H, mv⟩ ⟨o, H, mv'⟩ := ⟨OutLe.refl _, HLe.refl _, h⟩
theorem FS.more {k : Nat} {B B' : Nat → Prop} {L L' : Loc} {w w' : World} {H H' : Heap} {mv mv' mv2 : List Nat} (h : FS k B L w H mv B' L' w' H' mv') (hm : ∀ n, n ∈ mv' → n ∈ mv2) : FS k B L w H mv B' L' w' H' mv2 :=
  ⟨h.size, h.same, h.own, h.sub, h.keep, fun n hn => hm n (h.mvs n hn), fun n hk hn => h.loc n hk fun h1 => hn (hm n h1), h.fresh⟩
theorem FS.le {k : Nat} {B B' : Nat → Prop} {L L' : Loc} {w w' : World} {H H1 H2 : Heap} {mv mv' : List Nat} (h : FS k B L w H mv B' L' w' H1 mv') (hl : HLe H1 H2) : FS k B L w H mv B' L' w' H2 mv' :=
  ⟨h.size, h.same, h.own, h.sub, h.keep, h.mvs, h.loc, fun n hn => h.fresh n (hl.live n hn)⟩
theorem AbsCall.le {f : FuncId} {args : List V} {H : Heap} {c c' : CR} (h : AbsCall P G f args H c) (hl : CLe c c') : AbsCall P G f args H c' := by
  intro B L w vs hst ha hg
  refine (h B L w vs hst ha hg).mono ?_
  rintro e w' ⟨B', L', hfs, hst', ho⟩
  exact ⟨B', L', (hfs.le hl.H).more hl.mv, hst'.le hl.H, hl.out.rel ho⟩
theorem AbsCall.args {f : FuncId} {args args' : List V} {H : Heap} {c : CR} (h : AbsCall P G f args' H c) (hl : VLeL args args') : AbsCall P G f args H c := by
  intro B L w vs hst ha hg
  exact h B L w vs hst (hl.rel ha) hg
theorem CallW.use {f : FuncId} {args : List V} {H : Heap} {K : CR → Prop} {cr : CR} (h : AbsCall P G f args H cr) (k : K cr) : CallW P G f args H K := ⟨cr, h, k⟩
def SubE (σ' : Env) (σ : Env) : Prop := ∀ t, look σ' t = .junk ∨ VLe (look σ t) (look σ' t)
theorem SubE.rel {σ σ' : Env} (h : SubE σ' σ) {B : Nat → Prop} {L : Loc} {w : World} {tmps : Array Value} (he : ERel B L w (toEnv n σ) tmps) : ERel B L w (toEnv n σ') tmps := by
  refine ⟨by have := he.1; rw [toEnv_length] at this ⊢; exact this, fun i x y hx hy => ?_⟩
  rw [toEnv_get] at hx
  split at hx
  · rename_i hi
    cases hx
    rcases h i with hj | hle
    · rw [hj]; exact .junk y
    · exact hle B L w y (he.2 i _ y (by rw [toEnv_get, if_pos hi]) hy)
  · cases hx
def BddL (n : Nat) : Env → Prop
  | [] => True
  | (i, _) :: σ => i < n ∧ BddL n σ
theorem BddL.bdd : ∀ {σ : Env}, BddL n σ → Bdd n σ
  | [], _ => fun _ _ => rfl
  | (_, v) :: _, h => (BddL.bdd h.2).cons h.1 v
def SubL (σ : Env) : Env → Prop
  | [] => True
  | (i, v) :: σ' => VLe (look σ i) v ∧ SubL σ σ'
theorem SubL.sub {σ : Env} : ∀ {σ' : Env}, SubL σ σ' → SubE σ' σ
  | [], _ => fun t => .inl rfl
  | (i, v) :: σ', h => fun t => by
    rw [look_cons]
    split
    · rename_i e; subst e; exact .inr h.1
    · exact SubL.sub h.2 t
theorem LoopW.sub {b : Code} {σ σ' : Env} {H : Heap} {mv : List Nat} {K : Post} (h : LoopW P G n k b σ' H mv K) (hs : SubL σ σ') (hb : BddL n σ') : LoopW P G n k b σ H mv K := by
  refine ⟨fun _ B L w a hst he hg Q hQ => h.sound hb.bdd hst (hs.sub.rel he) hg hQ⟩
theorem CutW.go (hm : P.follows .mixedOrders = true) {pol : Pol} {b : Code} {σ : Env} {H : Heap} {mv : List Nat} {K : Post} (h : W P G pol n k b σ H mv K) : CutW P G n k b σ H mv K :=
  ⟨fun hb _ _ _ _ hst he hg _ hQ => W_sound hm b h hb hst he hg hQ⟩
theorem CutW.sub {b : Code} {σ σ' : Env} {H : Heap} {mv : List Nat} {K : Post} (h : CutW P G n k b σ' H mv K) (hs : SubL σ σ') (hb : BddL n σ') : CutW P G n k b σ H mv K := by
  refine ⟨fun _ B L w a hst he hg Q hQ => h.sound hb.bdd hst (hs.sub.rel he) hg hQ⟩
theorem CutW.post {b : Code} {σ : Env} {H : Heap} {mv : List Nat} {K K' : Post} (h : CutW P G n k b σ H mv K') (hs : ∀ ex σ' H' mv', K' ex σ' H' mv' → ∃ σ2, SubL σ' σ2 ∧ BddL n σ2 ∧ K ex σ2 H' mv') : CutW P G n k b σ H mv K := by
  refine ⟨fun hb B L w a hst he hg Q hQ => h.sound hb hst he hg fun e a' w' hp => hQ e a' w' ?_⟩
  obtain ⟨ex, σ1, H1, mv1, hK, hb1, B1, L1, hfs, he1, hst1, hk1, hd1, hm1⟩ := hp
  obtain ⟨σ2, h1, h2, h3⟩ := hs _ _ _ _ hK
  exact ⟨ex, σ2, H1, mv1, h3, h2.bdd, B1, L1, hfs, h1.sub.rel he1, hst1, hk1, hd1, hm1⟩
theorem LoopW.post {b : Code} {σ : Env} {H : Heap} {mv : List Nat} {K K' : Post} (h : LoopW P G n k b σ H mv K') (hs : ∀ ex σ' H' mv', K' ex σ' H' mv' → ∃ σ2, SubL σ' σ2 ∧ BddL n σ2 ∧ K ex σ2 H' mv') : LoopW P G n k b σ H mv K := by
  refine ⟨fun hb B L w a hst he hg Q hQ => h.sound hb hst he hg fun e a' w' hp => hQ e a' w' ?_⟩
  obtain ⟨ex, σ1, H1, mv1, hK, hb1, B1, L1, hfs, he1, hst1, hk1, hd1, hm1⟩ := hp
  obtain ⟨σ2, h1, h2, h3⟩ := hs _ _ _ _ hK
  exact ⟨ex, σ2, H1, mv1, h3, h2.bdd, B1, L1, hfs, h1.sub.rel he1, hst1, hk1, hd1, hm1⟩
end
end Go.Am
end

section
namespace Go.Am
open Go
section
variable (P : Program) (G : Nat → Option PV) (pol : Pol)
end
section
variable {P : Program} {G : Nat → Option PV} {pol : Pol}
end
end Go.Am
namespace Go.Am
open Go
structure PostCl (n : Nat) (K : Post) (ex : Ex) (σ : Env) (H : Heap) (mv : List Nat) : Prop where
  ex : ∃ σ2, SubL σ σ2 ∧ BddL n σ2 ∧ K ex σ2 H mv
theorem PostCl.of {n : Nat} {K : Post} {ex : Ex} {σ σ2 : Env} {H : Heap} {mv : List Nat} (h : K ex σ2 H mv) (hs : SubL σ σ2) (hb : BddL n σ2) : PostCl n K ex σ H mv := ⟨⟨σ2, hs, hb, h⟩⟩
end Go.Am
namespace Go.Am
open Go
section
variable {P : Program} {G : Nat → Option PV} {n k : Nat}
def RenL (ns : List Nat) (σ : Env) : Env → Prop
  | [] => True
  | (i, v) :: σ' => ((look σ i).names.all (ns.contains ·) = true ∧ VLe ((look σ i).ren (ns.idxOf ·)) v) ∧ RenL ns σ σ'
def renOk (k : Nat) (ns : List Nat) (H : Heap) : Bool := decide (ns.take k = List.range k) && (closedN (Heap.at H) ns && decide ns.Nodup)
theorem RenL.get {ns : List Nat} {σ : Env} : ∀ {σ' : Env}, RenL ns σ σ' → ∀ t, look σ' t = .junk ∨ ((look σ t).names.all (ns.contains ·) = true ∧ VLe ((look σ t).ren (ns.idxOf ·)) (look σ' t))
  | [], _, t => .inl rfl
  | (i, v) :: σ', h, t => by
    rw [look_cons]
    split
    · rename_i e; subst e; exact .inr h.1
    · exact RenL.get h.2 t
theorem LoopW.ren {b : Code} {σ σ' : Env} {H H' : Heap} {mv : List Nat} {K : Post} (ns : List Nat) (h : LoopW P G n k b σ' H' mv K) (hs : RenL ns σ σ') (hb : BddL n σ') (hH : (ns.map fun m => (Heap.at H m).ren (ns.idxOf ·)) = H') (hc : renOk k ns H = true) : LoopW P G n k b σ H mv K := by
  subst hH
  unfold renOk at hc
  simp only [Bool.and_eq_true, decide_eq_true_eq] at hc
  obtain ⟨h1, h2, h3⟩ := hc
  refine ⟨fun hbd B L w a hst he hg Q hQ => ?_⟩
  have he' : ERel B (L.sub ns) w (toEnv n σ') a.tmps := by
    refine ⟨by have := he.1; rw [toEnv_length] at this ⊢; exact this, fun i x y hx hy => ?_⟩
    rw [toEnv_get] at hx
    split at hx
    · rename_i hi
      cases hx
      rcases hs.get i with hj | ⟨hn, hle⟩
      · rw [hj]; exact .junk y
      · refine hle B (L.sub ns) w y ((he.2 i _ y (by rw [toEnv_get, if_pos hi]) hy).ren fun m hm => L.sub_eq ?_)
        simp only [List.all_eq_true] at hn
        simpa using hn m hm
    · cases hx
  refine h.sound hb.bdd (hst.sub h3 (closedN_spec h2)) he' hg fun e a' w' hp => hQ e a' w' ?_
  exact PostAt.trans (FS.subH h1) hp
theorem CutW.ren {b : Code} {σ σ' : Env} {H H' : Heap} {mv : List Nat} {K : Post} (ns : List Nat) (h : CutW P G n k b σ' H' mv K) (hs : RenL ns σ σ') (hb : BddL n σ') (hH : (ns.map fun m => (Heap.at H m).ren (ns.idxOf ·)) = H') (hc : renOk k ns H = true) : CutW P G n k b σ H mv K := by
  subst hH
  unfold renOk at hc
  simp only [Bool.and_eq_true, decide_eq_true_eq] at hc
  obtain ⟨h1, h2, h3⟩ := hc
  refine ⟨fun hbd B L w a hst he hg Q hQ => ?_⟩
  have he' : ERel B (L.sub ns) w (toEnv n σ') a.tmps := by
    refine ⟨by have := he.1; rw [toEnv_length] at this ⊢; exact this, fun i x y hx hy => ?_⟩
    rw [toEnv_get] at hx
    split at hx
    · rename_i hi
      cases hx
      rcases hs.get i with hj | ⟨hn, hle⟩
      · rw [hj]; exact .junk y
      · refine hle B (L.sub ns) w y ((he.2 i _ y (by rw [toEnv_get, if_pos hi]) hy).ren fun m hm => L.sub_eq ?_)
        simp only [List.all_eq_true] at hn
        simpa using hn m hm
    · cases hx
  refine h.sound hb.bdd (hst.sub h3 (closedN_spec h2)) he' hg fun e a' w' hp => hQ e a' w' ?_
  exact PostAt.trans (FS.subH h1) hp
end
end Go.Am
end

section
namespace Go.Proofs.YthkoefpidnphpaaGreatDoor
open Go Go.Am
noncomputable abbrev PP : Program := Tryz.prog
theorem mixP : PP.follows .mixedOrders = true := by kernel_rfl
namespace T
abbrev int64 : Nat := 2
abbrev int : Nat := 3
abbrev bool : Nat := 4
abbrev string : Nat := 9
abbrev error : Nat := 105
abbrev uint64 : Nat := 195
abbrev ptr_errors_errorString : Nat := 219
abbrev errors_errorString : Nat := 221
abbrev arr20_uint64 : Nat := 223
end T
namespace Gl
abbrev internal_bytealg_MaxLen : Nat := 0
abbrev strconv_ErrSyntax : Nat := 1
abbrev strconv_ErrRange : Nat := 2
abbrev internal_strconv_uint64pow10 : Nat := 5
end Gl
namespace F
abbrev law5_PathKnown : Nat := 6
abbrev strings_Split : Nat := 56
abbrev strconv_Atoi : Nat := 97
abbrev strings_TrimPrefix : Nat := 98
abbrev strings_ReplaceAll : Nat := 99
abbrev strconv_Itoa : Nat := 100
abbrev strings_HasPrefix : Nat := 101
abbrev slices_Clone_api_Value_api_Value : Nat := 106
abbrev slices_Clone_api_Pair_api_Pair : Nat := 107
abbrev slices_Delete_api_Value_api_Value : Nat := 108
abbrev slices_Delete_api_Pair_api_Pair : Nat := 109
abbrev cmp_Compare_int : Nat := 114
abbrev strings_Compare : Nat := 115
abbrev strings_Trim : Nat := 141
abbrev internal_abi_NoEscape : Nat := 151
end F
end Go.Proofs.YthkoefpidnphpaaGreatDoor
end

section
namespace Go.Proofs.YthkoefpidnphpaaGreatDoor
open Go Go.Am Go.RowKit
def GG : Nat → Option PV := fun g => match Nat.beq g Gl.internal_strconv_uint64pow10 with
  | true => some (tabV .u64 ([1, 10, 100, 1000, 10000, 100000, 1000000, 10000000, 100000000, 1000000000, 10000000000, 100000000000, 1000000000000, 10000000000000, 100000000000000, 1000000000000000, 10000000000000000, 100000000000000000, 1000000000000000000, 10000000000000000000]))
  | false => match Nat.beq g Gl.strconv_ErrSyntax with
    | true => some (.iface T.ptr_errors_errorString .anyp)
    | false => match Nat.beq g Gl.strconv_ErrRange with
      | true => some (.iface T.ptr_errors_errorString .anyp)
      | false => match Nat.beq g Gl.internal_bytealg_MaxLen with
        | true => some (.anyi .i64)
        | false => none
theorem pow10_lit : Lib.pow10Tab = [1, 10, 100, 1000, 10000, 100000, 1000000, 10000000, 100000000, 1000000000, 10000000000, 100000000000, 1000000000000, 10000000000000, 100000000000000, 1000000000000000, 10000000000000000, 100000000000000000, 1000000000000000000, 10000000000000000000] := by decide
theorem gPow : PP.globalNamed "internal/strconv.uint64pow10" = some Gl.internal_strconv_uint64pow10 := by kernel_rfl
def ngOk (P : Program) : Bool := P.funcs.all fun fn => !(fn.name == "runtime.NumGoroutine")
theorem ngP (f : Nat) (fn : Func) (h : PP.funcs[f]? = some fn) : (fn.name == "runtime.NumGoroutine") = false := by
  have h0 : ngOk PP = true := by kernel_rfl
  unfold ngOk at h0
  rw [Array.all_eq_true_iff_forall_mem] at h0
  simpa using h0 fn (Array.mem_of_getElem? h)
theorem abi_NoEscape (x : V) (H : Heap) : AbsCall PP GG F.internal_abi_NoEscape [x] H ⟨.ret x, H, []⟩ :=
  abs_same (Tryz.func151) (by kernel_rfl) (by kernel_rfl) (by kernel_rfl) (by kernel_rfl) x H
end Go.Proofs.YthkoefpidnphpaaGreatDoor
end

section
namespace Go.Proofs.YthkoefpidnphpaaGreatDoor
open Go Go.Am Go.RowKit
set_option maxRecDepth 100000
def pNoEscape : List V → Heap → Option CR
  | [x], H => some ⟨.ret (x), H, []⟩
  | _, _ => none
theorem pNoEscape_ok {args : List V} {H : Heap} {cr : CR} (h : pNoEscape args H = some cr) : AbsCall PP GG F.internal_abi_NoEscape args H cr := by
  unfold pNoEscape at h
  split at h
  · cases h
    exact abi_NoEscape _ _
  · cases h
def primOf : List (Nat × (List V → Heap → Option CR)) → CallF
  | [], _, _, _ => none
  | (g, p) :: l, f, args, H => match Nat.beq f g with
    | true => p args H
    | false => primOf l f args H
theorem primOf_sound : ∀ (l : List (Nat × (List V → Heap → Option CR))), (∀ x ∈ l, ∀ args H cr, x.2 args H = some cr → AbsCall PP GG x.1 args H cr) → SoundC PP GG (primOf l)
  | [], _, f, args, H, cr, h => by cases h
  | (g, p) :: l, hl, f, args, H, cr, h => by
    simp only [primOf] at h
    split at h
    · rename_i e
      obtain rfl := Nat.eq_of_beq_eq_true e
      exact hl (f, p) (by simp) args H cr h
    · exact primOf_sound l (fun x hx => hl x (List.mem_cons_of_mem _ hx)) f args H cr h
def isT : Option CR → Bool
  | some ⟨.ret (.p (.bool true)), [], []⟩ => true
  | _ => false
theorem isT_spec {o : Option CR} (h : isT o = true) : o = some ⟨.ret (.p (.bool true)), [], []⟩ := by
  unfold isT at h
  split at h
  · rfl
  · cases h
end Go.Proofs.YthkoefpidnphpaaGreatDoor
end

section
namespace Go.Proofs.YthkoefpidnphpaaGreatDoor
open Go Go.Am Go.RowKit
theorem vrel3 {B : Nat → Prop} {L : Am.Loc} {w : World} {x y z : V} {vs : List Value} (h : VRelL B L w [x, y, z] vs) : ∃ v u t, vs = [v, u, t] ∧ VRel B L w x v ∧ VRel B L w y u ∧ VRel B L w z t := by
  match vs, h with
  | [v, u, t], h => exact ⟨v, u, t, rfl, h.2 0 _ _ rfl rfl, h.2 1 _ _ rfl rfl, h.2 2 _ _ rfl rfl⟩
  | [], h => have := h.1; simp at this
  | [_], h => have := h.1; simp at this
  | [_, _], h => have := h.1; simp at this
  | _ :: _ :: _ :: _ :: _, h => have := h.1; simp at this
end Go.Proofs.YthkoefpidnphpaaGreatDoor
end

section
namespace Go.Proofs
open Go.Shelf
def Tryz.lays160_ren : Go.Shelf.Ren := ⟨fun | 160 => 141 | 232 => 181 | 231 => 158 | 227 => 159 | 234 => 182 | 233 => 160 | 236 => 183 | 235 => 161 | 228 => 198 | 271 => 209 | 151 => 199 | 197 => 178 | 120 => 227 | 152 => 202 | 260 => 205 | 137 => 131 | 119 => 225 | 224 => 207 | 225 => 206 | 217 => 173 | 266 => 204 | n => n, fun | 9 => 9 | 4 => 4 | 3 => 3 | 5 => 5 | 117 => 170 | 116 => 169 | 0 => 0 | 124 => 173 | 21 => 21 | 105 => 178 | 46 => 150 | 119 => 211 | 139 => 214 | 138 => 213 | n => n, fun | 3 => 3 | 4 => 4 | n => n⟩
theorem Tryz.lays160 : Go.Proofs.Lays.n160 Tryz.prog Tryz.lays160_ren := {
  mixed := by kernel_rfl
  f119 := Tryz.func225.trans (congrArg some (by kernel_rfl))
  f120 := Tryz.func227.trans (congrArg some (by kernel_rfl))
  f137 := Tryz.func131.trans (congrArg some (by kernel_rfl))
  f151 := Tryz.func199.trans (congrArg some (by kernel_rfl))
  f152 := Tryz.func202.trans (congrArg some (by kernel_rfl))
  f160 := Tryz.func141.trans (congrArg some (by kernel_rfl))
  f197 := Tryz.func178.trans (congrArg some (by kernel_rfl))
  f217 := Tryz.func173.trans (congrArg some (by kernel_rfl))
  f224 := Tryz.func207.trans (congrArg some (by kernel_rfl))
  f225 := Tryz.func206.trans (congrArg some (by kernel_rfl))
  f227 := Tryz.func159.trans (congrArg some (by kernel_rfl))
  f228 := Tryz.func198.trans (congrArg some (by kernel_rfl))
  f231 := Tryz.func158.trans (congrArg some (by kernel_rfl))
  f232 := Tryz.func181.trans (congrArg some (by kernel_rfl))
  f233 := Tryz.func160.trans (congrArg some (by kernel_rfl))
  f234 := Tryz.func182.trans (congrArg some (by kernel_rfl))
  f235 := Tryz.func161.trans (congrArg some (by kernel_rfl))
  f236 := Tryz.func183.trans (congrArg some (by kernel_rfl))
  f260 := Tryz.func205.trans (congrArg some (by kernel_rfl))
  f266 := Tryz.func204.trans (congrArg some (by kernel_rfl))
  f271 := Tryz.func209.trans (congrArg some (by kernel_rfl))
  t0 := Tryz.underlying0
  a0 := Tryz.isAgg0
  z0 := Tryz.sizeOf0
  v0 := Tryz.zeroValue0
  t3 := Tryz.underlying3
  a3 := Tryz.isAgg3
  z3 := Tryz.sizeOf3
  v3 := Tryz.zeroValue3
  t4 := Tryz.underlying4
  a4 := Tryz.isAgg4
  z4 := Tryz.sizeOf4
  v4 := Tryz.zeroValue4
  t5 := Tryz.underlying5
  a5 := Tryz.isAgg5
  z5 := Tryz.sizeOf5
  v5 := Tryz.zeroValue5
  t9 := Tryz.underlying9
  a9 := Tryz.isAgg9
  z9 := Tryz.sizeOf9
  v9 := Tryz.zeroValue9
  t21 := Tryz.underlying21
  a21 := Tryz.isAgg21
  z21 := Tryz.sizeOf21
  v21 := Tryz.zeroValue21
  t46 := Tryz.underlying150
  a46 := Tryz.isAgg150
  z46 := Tryz.sizeOf150
  v46 := Tryz.zeroValue150
  t105 := Tryz.underlying178
  a105 := Tryz.isAgg178
  z105 := Tryz.sizeOf178
  v105 := Tryz.zeroValue178
  t116 := Tryz.underlying169
  a116 := Tryz.isAgg169
  z116 := Tryz.sizeOf169
  t117 := Tryz.underlying170
  a117 := Tryz.isAgg170
  z117 := Tryz.sizeOf170
  v117 := Tryz.zeroValue170
  t119 := Tryz.underlying211
  a119 := Tryz.isAgg211
  z119 := Tryz.sizeOf211
  t124 := Tryz.underlying173
  a124 := Tryz.isAgg173
  z124 := Tryz.sizeOf173
  v124 := Tryz.zeroValue173
  t138 := Tryz.underlying213
  a138 := Tryz.isAgg213
  z138 := Tryz.sizeOf213
  v138 := Tryz.zeroValue213
  t139 := Tryz.underlying214
  a139 := Tryz.isAgg214
  z139 := Tryz.sizeOf214
  v139 := Tryz.zeroValue214
  g3 := by kernel_rfl
  g4 := by kernel_rfl }
def Tryz.lays106_ren : Go.Shelf.Ren := ⟨fun | 106 => 115 | 213 => 150 | 265 => 192 | n => n, fun | 9 => 9 | 3 => 3 | n => n, fun | n => n⟩
theorem Tryz.lays106 : Go.Proofs.Lays.n106 Tryz.prog Tryz.lays106_ren := {
  mixed := by kernel_rfl
  f106 := Tryz.func115.trans (congrArg some (by kernel_rfl))
  f213 := Tryz.func150.trans (congrArg some (by kernel_rfl))
  f265 := Tryz.func192.trans (congrArg some (by kernel_rfl))
  t3 := Tryz.underlying3
  a3 := Tryz.isAgg3
  z3 := Tryz.sizeOf3
  v3 := Tryz.zeroValue3
  t9 := Tryz.underlying9
  a9 := Tryz.isAgg9
  z9 := Tryz.sizeOf9
  v9 := Tryz.zeroValue9 }
def Tryz.lays122_ren : Go.Shelf.Ren := ⟨fun | 122 => 114 | 215 => 149 | n => n, fun | 3 => 3 | 4 => 4 | n => n, fun | n => n⟩
theorem Tryz.lays122 : Go.Proofs.Lays.n122 Tryz.prog Tryz.lays122_ren := {
  mixed := by kernel_rfl
  f122 := Tryz.func114.trans (congrArg some (by kernel_rfl))
  f215 := Tryz.func149.trans (congrArg some (by kernel_rfl))
  t3 := Tryz.underlying3
  a3 := Tryz.isAgg3
  z3 := Tryz.sizeOf3
  v3 := Tryz.zeroValue3
  t4 := Tryz.underlying4
  a4 := Tryz.isAgg4
  z4 := Tryz.sizeOf4
  v4 := Tryz.zeroValue4 }
def Tryz.laysM171_ren : Go.Shelf.Ren := ⟨fun | 171 => 100 | 243 => 146 | 246 => 189 | 283 => 213 | 284 => 214 | 285 => 215 | 286 => 216 | 129 => 231 | 317 => 230 | 318 => 232 | 319 => 233 | 320 => 234 | 337 => 237 | 338 => 238 | n => n, fun | 3 => 3 | 9 => 9 | 2 => 2 | 4 => 4 | 171 => 201 | 0 => 0 | 53 => 195 | 37 => 74 | 5 => 5 | 173 => 204 | 212 => 223 | 51 => 215 | 20 => 20 | 213 => 224 | 46 => 150 | 232 => 228 | 233 => 229 | n => n, fun | 17 => 5 | 18 => 6 | 19 => 7 | n => n⟩
theorem Tryz.laysM171 : Go.Proofs.LaysM.n171 Tryz.prog Tryz.laysM171_ren := {
  mixed := by kernel_rfl
  f129 := Tryz.func231.trans (congrArg some (by kernel_rfl))
  f171 := Tryz.func100.trans (congrArg some (by kernel_rfl))
  f243 := Tryz.func146.trans (congrArg some (by kernel_rfl))
  f246 := Tryz.func189.trans (congrArg some (by kernel_rfl))
  f283 := Tryz.func213.trans (congrArg some (by kernel_rfl))
  f284 := Tryz.func214.trans (congrArg some (by kernel_rfl))
  f285 := Tryz.func215.trans (congrArg some (by kernel_rfl))
  f286 := Tryz.func216.trans (congrArg some (by kernel_rfl))
  f317 := Tryz.func230.trans (congrArg some (by kernel_rfl))
  f318 := Tryz.func232.trans (congrArg some (by kernel_rfl))
  f319 := Tryz.func233.trans (congrArg some (by kernel_rfl))
  f320 := Tryz.func234.trans (congrArg some (by kernel_rfl))
  f337 := Tryz.func237.trans (congrArg some (by kernel_rfl))
  f338 := Tryz.func238.trans (congrArg some (by kernel_rfl))
  t0 := Tryz.underlying0
  a0 := Tryz.isAgg0
  z0 := Tryz.sizeOf0
  v0 := Tryz.zeroValue0
  t2 := Tryz.underlying2
  a2 := Tryz.isAgg2
  z2 := Tryz.sizeOf2
  v2 := Tryz.zeroValue2
  t3 := Tryz.underlying3
  a3 := Tryz.isAgg3
  z3 := Tryz.sizeOf3
  v3 := Tryz.zeroValue3
  t4 := Tryz.underlying4
  a4 := Tryz.isAgg4
  z4 := Tryz.sizeOf4
  v4 := Tryz.zeroValue4
  t5 := Tryz.underlying5
  a5 := Tryz.isAgg5
  z5 := Tryz.sizeOf5
  v5 := Tryz.zeroValue5
  t9 := Tryz.underlying9
  a9 := Tryz.isAgg9
  z9 := Tryz.sizeOf9
  v9 := Tryz.zeroValue9
  t20 := Tryz.underlying20
  a20 := Tryz.isAgg20
  z20 := Tryz.sizeOf20
  v20 := Tryz.zeroValue20
  t37 := Tryz.underlying74
  a37 := Tryz.isAgg74
  z37 := Tryz.sizeOf74
  v37 := Tryz.zeroValue74
  t46 := Tryz.underlying150
  a46 := Tryz.isAgg150
  z46 := Tryz.sizeOf150
  v46 := Tryz.zeroValue150
  t51 := Tryz.underlying215
  a51 := Tryz.isAgg215
  z51 := Tryz.sizeOf215
  v51 := Tryz.zeroValue215
  t53 := Tryz.underlying195
  a53 := Tryz.isAgg195
  z53 := Tryz.sizeOf195
  v53 := Tryz.zeroValue195
  t171 := Tryz.underlying201
  a171 := Tryz.isAgg201
  z171 := Tryz.sizeOf201
  v171 := Tryz.zeroValue201
  t173 := Tryz.underlying204
  a173 := Tryz.isAgg204
  z173 := Tryz.sizeOf204
  v173 := Tryz.zeroValue204
  t212 := Tryz.underlying223
  a212 := Tryz.isAgg223
  z212 := Tryz.sizeOf223
  v212 := Tryz.zeroValue223
  t213 := Tryz.underlying224
  a213 := Tryz.isAgg224
  z213 := Tryz.sizeOf224
  t232 := Tryz.underlying228
  a232 := Tryz.isAgg228
  z232 := Tryz.sizeOf228
  v232 := Tryz.zeroValue228
  t233 := Tryz.underlying229
  a233 := Tryz.isAgg229
  z233 := Tryz.sizeOf229
  v233 := Tryz.zeroValue229
  g17 := by kernel_rfl
  g18 := by kernel_rfl
  g19 := by kernel_rfl
  i0 := by kernel_rfl
  i2 := by kernel_rfl
  i3 := by kernel_rfl
  i4 := by kernel_rfl
  i5 := by kernel_rfl
  i9 := by kernel_rfl
  i20 := by kernel_rfl
  i37 := by kernel_rfl
  i46 := by kernel_rfl
  i51 := by kernel_rfl
  i53 := by kernel_rfl
  i171 := by kernel_rfl
  i173 := by kernel_rfl
  i212 := by kernel_rfl
  i232 := by kernel_rfl
  i233 := by kernel_rfl
  m17 := by kernel_rfl
  m18 := by kernel_rfl
  m19 := by kernel_rfl }
def Tryz.laysC172_ren : Go.Shelf.Ren := ⟨fun | 172 => 97 | 244 => 142 | 245 => 143 | 247 => 184 | 279 => 185 | 280 => 186 | 281 => 187 | 282 => 188 | 287 => 210 | 316 => 211 | 171 => 100 | 205 => 212 | 321 => 228 | 322 => 229 | 243 => 146 | 246 => 189 | 283 => 213 | 284 => 214 | 285 => 215 | 286 => 216 | 129 => 231 | 317 => 230 | 318 => 232 | 319 => 233 | 320 => 234 | 337 => 237 | 338 => 238 | n => n, fun | 9 => 9 | 3 => 3 | 75 => 105 | 76 => 106 | 4 => 4 | 5 => 5 | 167 => 180 | 37 => 74 | 0 => 0 | 85 => 181 | 2 => 2 | 168 => 183 | 53 => 195 | 175 => 196 | 46 => 150 | 210 => 199 | 127 => 109 | 145 => 221 | 143 => 219 | 21 => 21 | 171 => 201 | 173 => 204 | 212 => 223 | 51 => 215 | 20 => 20 | 213 => 224 | 232 => 228 | 233 => 229 | 80 => 80 | n => n, fun | 15 => 1 | 16 => 2 | 17 => 5 | 18 => 6 | 19 => 7 | n => n⟩
theorem Tryz.laysC172 : Go.Proofs.LaysC.n172 Tryz.prog Tryz.laysC172_ren := {
  mixed := by kernel_rfl
  f129 := Tryz.func231.trans (congrArg some (by kernel_rfl))
  f171 := Tryz.func100.trans (congrArg some (by kernel_rfl))
  f172 := Tryz.func97.trans (congrArg some (by kernel_rfl))
  f205 := Tryz.func212.trans (congrArg some (by kernel_rfl))
  f243 := Tryz.func146.trans (congrArg some (by kernel_rfl))
  f244 := Tryz.func142.trans (congrArg some (by kernel_rfl))
  f245 := Tryz.func143.trans (congrArg some (by kernel_rfl))
  f246 := Tryz.func189.trans (congrArg some (by kernel_rfl))
  f247 := Tryz.func184.trans (congrArg some (by kernel_rfl))
  f279 := Tryz.func185.trans (congrArg some (by kernel_rfl))
  f280 := Tryz.func186.trans (congrArg some (by kernel_rfl))
  f281 := Tryz.func187.trans (congrArg some (by kernel_rfl))
  f282 := Tryz.func188.trans (congrArg some (by kernel_rfl))
  f283 := Tryz.func213.trans (congrArg some (by kernel_rfl))
  f284 := Tryz.func214.trans (congrArg some (by kernel_rfl))
  f285 := Tryz.func215.trans (congrArg some (by kernel_rfl))
  f286 := Tryz.func216.trans (congrArg some (by kernel_rfl))
  f287 := Tryz.func210.trans (congrArg some (by kernel_rfl))
  f316 := Tryz.func211.trans (congrArg some (by kernel_rfl))
  f317 := Tryz.func230.trans (congrArg some (by kernel_rfl))
  f318 := Tryz.func232.trans (congrArg some (by kernel_rfl))
  f319 := Tryz.func233.trans (congrArg some (by kernel_rfl))
  f320 := Tryz.func234.trans (congrArg some (by kernel_rfl))
  f321 := Tryz.func228.trans (congrArg some (by kernel_rfl))
  f322 := Tryz.func229.trans (congrArg some (by kernel_rfl))
  f337 := Tryz.func237.trans (congrArg some (by kernel_rfl))
  f338 := Tryz.func238.trans (congrArg some (by kernel_rfl))
  t0 := Tryz.underlying0
  a0 := Tryz.isAgg0
  z0 := Tryz.sizeOf0
  v0 := Tryz.zeroValue0
  t2 := Tryz.underlying2
  a2 := Tryz.isAgg2
  z2 := Tryz.sizeOf2
  v2 := Tryz.zeroValue2
  t3 := Tryz.underlying3
  a3 := Tryz.isAgg3
  z3 := Tryz.sizeOf3
  v3 := Tryz.zeroValue3
  t4 := Tryz.underlying4
  a4 := Tryz.isAgg4
  z4 := Tryz.sizeOf4
  v4 := Tryz.zeroValue4
  t5 := Tryz.underlying5
  a5 := Tryz.isAgg5
  z5 := Tryz.sizeOf5
  v5 := Tryz.zeroValue5
  t9 := Tryz.underlying9
  a9 := Tryz.isAgg9
  z9 := Tryz.sizeOf9
  v9 := Tryz.zeroValue9
  t20 := Tryz.underlying20
  a20 := Tryz.isAgg20
  z20 := Tryz.sizeOf20
  v20 := Tryz.zeroValue20
  t21 := Tryz.underlying21
  a21 := Tryz.isAgg21
  z21 := Tryz.sizeOf21
  v21 := Tryz.zeroValue21
  t37 := Tryz.underlying74
  a37 := Tryz.isAgg74
  z37 := Tryz.sizeOf74
  v37 := Tryz.zeroValue74
  t46 := Tryz.underlying150
  a46 := Tryz.isAgg150
  z46 := Tryz.sizeOf150
  v46 := Tryz.zeroValue150
  t51 := Tryz.underlying215
  a51 := Tryz.isAgg215
  z51 := Tryz.sizeOf215
  v51 := Tryz.zeroValue215
  t53 := Tryz.underlying195
  a53 := Tryz.isAgg195
  z53 := Tryz.sizeOf195
  v53 := Tryz.zeroValue195
  t75 := Tryz.underlying105
  a75 := Tryz.isAgg105
  z75 := Tryz.sizeOf105
  v75 := Tryz.zeroValue105
  t76 := Tryz.underlying106
  a76 := Tryz.isAgg106
  z76 := Tryz.sizeOf106
  v76 := Tryz.zeroValue106
  t85 := Tryz.underlying181
  a85 := Tryz.isAgg181
  z85 := Tryz.sizeOf181
  v85 := Tryz.zeroValue181
  t127 := Tryz.underlying109
  a127 := Tryz.isAgg109
  z127 := Tryz.sizeOf109
  v127 := Tryz.zeroValue109
  t143 := Tryz.underlying219
  a143 := Tryz.isAgg219
  z143 := Tryz.sizeOf219
  v143 := Tryz.zeroValue219
  t145 := Tryz.underlying221
  a145 := Tryz.isAgg221
  z145 := Tryz.sizeOf221
  v145 := Tryz.zeroValue221
  t167 := Tryz.underlying180
  a167 := Tryz.isAgg180
  z167 := Tryz.sizeOf180
  v167 := Tryz.zeroValue180
  t168 := Tryz.underlying183
  a168 := Tryz.isAgg183
  z168 := Tryz.sizeOf183
  v168 := Tryz.zeroValue183
  t171 := Tryz.underlying201
  a171 := Tryz.isAgg201
  z171 := Tryz.sizeOf201
  v171 := Tryz.zeroValue201
  t173 := Tryz.underlying204
  a173 := Tryz.isAgg204
  z173 := Tryz.sizeOf204
  v173 := Tryz.zeroValue204
  t175 := Tryz.underlying196
  a175 := Tryz.isAgg196
  z175 := Tryz.sizeOf196
  v175 := Tryz.zeroValue196
  t210 := Tryz.underlying199
  a210 := Tryz.isAgg199
  z210 := Tryz.sizeOf199
  v210 := Tryz.zeroValue199
  t212 := Tryz.underlying223
  a212 := Tryz.isAgg223
  z212 := Tryz.sizeOf223
  v212 := Tryz.zeroValue223
  t213 := Tryz.underlying224
  a213 := Tryz.isAgg224
  z213 := Tryz.sizeOf224
  t232 := Tryz.underlying228
  a232 := Tryz.isAgg228
  z232 := Tryz.sizeOf228
  v232 := Tryz.zeroValue228
  t233 := Tryz.underlying229
  a233 := Tryz.isAgg229
  z233 := Tryz.sizeOf229
  v233 := Tryz.zeroValue229
  g15 := by kernel_rfl
  g16 := by kernel_rfl
  g17 := by kernel_rfl
  g18 := by kernel_rfl
  g19 := by kernel_rfl
  t80 := Tryz.underlying80
  a80 := Tryz.isAgg80
  z80 := Tryz.sizeOf80
  v80 := Tryz.zeroValue80
  i0 := by kernel_rfl
  i2 := by kernel_rfl
  i3 := by kernel_rfl
  i4 := by kernel_rfl
  i5 := by kernel_rfl
  i9 := by kernel_rfl
  i20 := by kernel_rfl
  i21 := by kernel_rfl
  i37 := by kernel_rfl
  i46 := by kernel_rfl
  i51 := by kernel_rfl
  i53 := by kernel_rfl
  i75 := by kernel_rfl
  i76 := by kernel_rfl
  i80 := by kernel_rfl
  i85 := by kernel_rfl
  i127 := by kernel_rfl
  i143 := by kernel_rfl
  i145 := by kernel_rfl
  i167 := by kernel_rfl
  i168 := by kernel_rfl
  i171 := by kernel_rfl
  i173 := by kernel_rfl
  i175 := by kernel_rfl
  i210 := by kernel_rfl
  i212 := by kernel_rfl
  i232 := by kernel_rfl
  i233 := by kernel_rfl
  m15 := by kernel_rfl
  m16 := by kernel_rfl
  m17 := by kernel_rfl
  m18 := by kernel_rfl
  m19 := by kernel_rfl
  c0 := by kernel_rfl
  c2 := by kernel_rfl
  c3 := by kernel_rfl
  c4 := by kernel_rfl
  c5 := by kernel_rfl
  c9 := by kernel_rfl
  c20 := by kernel_rfl
  c21 := by kernel_rfl
  c37 := by kernel_rfl
  c46 := by kernel_rfl
  c51 := by kernel_rfl
  c53 := by kernel_rfl
  c75 := by kernel_rfl
  c76 := by kernel_rfl
  c80 := by kernel_rfl
  c85 := by kernel_rfl
  c127 := by kernel_rfl
  c143 := by kernel_rfl
  c145 := by kernel_rfl
  c167 := by kernel_rfl
  c168 := by kernel_rfl
  c171 := by kernel_rfl
  c173 := by kernel_rfl
  c175 := by kernel_rfl
  c210 := by kernel_rfl
  c212 := by kernel_rfl
  c213 := by kernel_rfl
  c232 := by kernel_rfl
  c233 := by kernel_rfl }
def Tryz.lays99_ren : Go.Shelf.Ren := ⟨fun | 99 => 101 | 206 => 147 | n => n, fun | 9 => 9 | 4 => 4 | 3 => 3 | n => n, fun | n => n⟩
theorem Tryz.lays99 : Go.Proofs.Lays.n99 Tryz.prog Tryz.lays99_ren := {
  mixed := by kernel_rfl
  f99 := Tryz.func101.trans (congrArg some (by kernel_rfl))
  f206 := Tryz.func147.trans (congrArg some (by kernel_rfl))
  t3 := Tryz.underlying3
  a3 := Tryz.isAgg3
  z3 := Tryz.sizeOf3
  v3 := Tryz.zeroValue3
  t4 := Tryz.underlying4
  a4 := Tryz.isAgg4
  z4 := Tryz.sizeOf4
  v4 := Tryz.zeroValue4
  t9 := Tryz.underlying9
  a9 := Tryz.isAgg9
  z9 := Tryz.sizeOf9
  v9 := Tryz.zeroValue9 }
def Tryz.lays101_ren : Go.Shelf.Ren := ⟨fun | 101 => 98 | 208 => 144 | 206 => 147 | n => n, fun | 9 => 9 | 4 => 4 | 3 => 3 | n => n, fun | n => n⟩
theorem Tryz.lays101 : Go.Proofs.Lays.n101 Tryz.prog Tryz.lays101_ren := {
  mixed := by kernel_rfl
  f101 := Tryz.func98.trans (congrArg some (by kernel_rfl))
  f206 := Tryz.func147.trans (congrArg some (by kernel_rfl))
  f208 := Tryz.func144.trans (congrArg some (by kernel_rfl))
  t3 := Tryz.underlying3
  a3 := Tryz.isAgg3
  z3 := Tryz.sizeOf3
  v3 := Tryz.zeroValue3
  t4 := Tryz.underlying4
  a4 := Tryz.isAgg4
  z4 := Tryz.sizeOf4
  v4 := Tryz.zeroValue4
  t9 := Tryz.underlying9
  a9 := Tryz.isAgg9
  z9 := Tryz.sizeOf9
  v9 := Tryz.zeroValue9 }
def Tryz.lays146_ren : Go.Shelf.Ren := ⟨fun | 146 => 56 | 221 => 95 | 268 => 138 | 138 => 139 | 143 => 140 | 195 => 177 | 197 => 178 | 218 => 179 | 219 => 180 | 260 => 205 | 217 => 173 | 225 => 206 | 224 => 207 | 267 => 208 | 266 => 204 | 314 => 226 | n => n, fun | 9 => 9 | 31 => 87 | 3 => 3 | 4 => 4 | 0 => 0 | 105 => 178 | 21 => 21 | 5 => 5 | 46 => 150 | 119 => 211 | 139 => 214 | 138 => 213 | 146 => 216 | 51 => 215 | n => n, fun | 1 => 0 | 3 => 3 | 4 => 4 | n => n⟩
theorem Tryz.lays146 : Go.Proofs.Lays.n146 Tryz.prog Tryz.lays146_ren := {
  mixed := by kernel_rfl
  f138 := Tryz.func139.trans (congrArg some (by kernel_rfl))
  f143 := Tryz.func140.trans (congrArg some (by kernel_rfl))
  f146 := Tryz.func56.trans (congrArg some (by kernel_rfl))
  f195 := Tryz.func177.trans (congrArg some (by kernel_rfl))
  f197 := Tryz.func178.trans (congrArg some (by kernel_rfl))
  f217 := Tryz.func173.trans (congrArg some (by kernel_rfl))
  f218 := Tryz.func179.trans (congrArg some (by kernel_rfl))
  f219 := Tryz.func180.trans (congrArg some (by kernel_rfl))
  f221 := Tryz.func95.trans (congrArg some (by kernel_rfl))
  f224 := Tryz.func207.trans (congrArg some (by kernel_rfl))
  f225 := Tryz.func206.trans (congrArg some (by kernel_rfl))
  f260 := Tryz.func205.trans (congrArg some (by kernel_rfl))
  f266 := Tryz.func204.trans (congrArg some (by kernel_rfl))
  f267 := Tryz.func208.trans (congrArg some (by kernel_rfl))
  f268 := Tryz.func138.trans (congrArg some (by kernel_rfl))
  f314 := Tryz.func226.trans (congrArg some (by kernel_rfl))
  t0 := Tryz.underlying0
  a0 := Tryz.isAgg0
  z0 := Tryz.sizeOf0
  v0 := Tryz.zeroValue0
  t3 := Tryz.underlying3
  a3 := Tryz.isAgg3
  z3 := Tryz.sizeOf3
  v3 := Tryz.zeroValue3
  t4 := Tryz.underlying4
  a4 := Tryz.isAgg4
  z4 := Tryz.sizeOf4
  v4 := Tryz.zeroValue4
  t5 := Tryz.underlying5
  a5 := Tryz.isAgg5
  z5 := Tryz.sizeOf5
  v5 := Tryz.zeroValue5
  t9 := Tryz.underlying9
  a9 := Tryz.isAgg9
  z9 := Tryz.sizeOf9
  v9 := Tryz.zeroValue9
  t21 := Tryz.underlying21
  a21 := Tryz.isAgg21
  z21 := Tryz.sizeOf21
  v21 := Tryz.zeroValue21
  t31 := Tryz.underlying87
  a31 := Tryz.isAgg87
  z31 := Tryz.sizeOf87
  v31 := Tryz.zeroValue87
  t46 := Tryz.underlying150
  a46 := Tryz.isAgg150
  z46 := Tryz.sizeOf150
  v46 := Tryz.zeroValue150
  t51 := Tryz.underlying215
  a51 := Tryz.isAgg215
  z51 := Tryz.sizeOf215
  v51 := Tryz.zeroValue215
  t105 := Tryz.underlying178
  a105 := Tryz.isAgg178
  z105 := Tryz.sizeOf178
  v105 := Tryz.zeroValue178
  t119 := Tryz.underlying211
  a119 := Tryz.isAgg211
  z119 := Tryz.sizeOf211
  t138 := Tryz.underlying213
  a138 := Tryz.isAgg213
  z138 := Tryz.sizeOf213
  v138 := Tryz.zeroValue213
  t139 := Tryz.underlying214
  a139 := Tryz.isAgg214
  z139 := Tryz.sizeOf214
  v139 := Tryz.zeroValue214
  t146 := Tryz.underlying216
  a146 := Tryz.isAgg216
  z146 := Tryz.sizeOf216
  v146 := Tryz.zeroValue216
  g1 := by kernel_rfl
  g3 := by kernel_rfl
  g4 := by kernel_rfl }
def Tryz.lays155_ren : Go.Shelf.Ren := ⟨fun | 155 => 99 | 154 => 145 | 138 => 139 | 165 => 153 | 143 => 140 | 166 => 72 | 197 => 178 | 169 => 45 | 195 => 177 | 218 => 179 | 240 => 116 | 241 => 193 | 219 => 180 | 260 => 205 | 276 => 151 | 277 => 218 | 217 => 173 | 225 => 206 | 224 => 207 | 267 => 208 | 266 => 204 | 314 => 226 | n => n, fun | 9 => 9 | 3 => 3 | 4 => 4 | 72 => 76 | 0 => 0 | 76 => 106 | 105 => 178 | 21 => 21 | 5 => 5 | 70 => 73 | 20 => 20 | 37 => 74 | 75 => 105 | 127 => 109 | 164 => 163 | 46 => 150 | 119 => 211 | 139 => 214 | 138 => 213 | 146 => 216 | 51 => 215 | 80 => 80 | n => n, fun | 1 => 0 | 3 => 3 | 4 => 4 | n => n⟩
theorem Tryz.lays155 : Go.Proofs.Lays.n155 Tryz.prog Tryz.lays155_ren := {
  mixed := by kernel_rfl
  f138 := Tryz.func139.trans (congrArg some (by kernel_rfl))
  f143 := Tryz.func140.trans (congrArg some (by kernel_rfl))
  f154 := Tryz.func145.trans (congrArg some (by kernel_rfl))
  f155 := Tryz.func99.trans (congrArg some (by kernel_rfl))
  f165 := Tryz.func153.trans (congrArg some (by kernel_rfl))
  f166 := Tryz.func72.trans (congrArg some (by kernel_rfl))
  f169 := Tryz.func45.trans (congrArg some (by kernel_rfl))
  f195 := Tryz.func177.trans (congrArg some (by kernel_rfl))
  f197 := Tryz.func178.trans (congrArg some (by kernel_rfl))
  f217 := Tryz.func173.trans (congrArg some (by kernel_rfl))
  f218 := Tryz.func179.trans (congrArg some (by kernel_rfl))
  f219 := Tryz.func180.trans (congrArg some (by kernel_rfl))
  f224 := Tryz.func207.trans (congrArg some (by kernel_rfl))
  f225 := Tryz.func206.trans (congrArg some (by kernel_rfl))
  f240 := Tryz.func116.trans (congrArg some (by kernel_rfl))
  f241 := Tryz.func193.trans (congrArg some (by kernel_rfl))
  f260 := Tryz.func205.trans (congrArg some (by kernel_rfl))
  f266 := Tryz.func204.trans (congrArg some (by kernel_rfl))
  f267 := Tryz.func208.trans (congrArg some (by kernel_rfl))
  f276 := Tryz.func151.trans (congrArg some (by kernel_rfl))
  f277 := Tryz.func218.trans (congrArg some (by kernel_rfl))
  f314 := Tryz.func226.trans (congrArg some (by kernel_rfl))
  t0 := Tryz.underlying0
  a0 := Tryz.isAgg0
  z0 := Tryz.sizeOf0
  v0 := Tryz.zeroValue0
  t3 := Tryz.underlying3
  a3 := Tryz.isAgg3
  z3 := Tryz.sizeOf3
  v3 := Tryz.zeroValue3
  t4 := Tryz.underlying4
  a4 := Tryz.isAgg4
  z4 := Tryz.sizeOf4
  v4 := Tryz.zeroValue4
  t5 := Tryz.underlying5
  a5 := Tryz.isAgg5
  z5 := Tryz.sizeOf5
  v5 := Tryz.zeroValue5
  t9 := Tryz.underlying9
  a9 := Tryz.isAgg9
  z9 := Tryz.sizeOf9
  v9 := Tryz.zeroValue9
  t20 := Tryz.underlying20
  a20 := Tryz.isAgg20
  z20 := Tryz.sizeOf20
  v20 := Tryz.zeroValue20
  t21 := Tryz.underlying21
  a21 := Tryz.isAgg21
  z21 := Tryz.sizeOf21
  v21 := Tryz.zeroValue21
  t37 := Tryz.underlying74
  a37 := Tryz.isAgg74
  z37 := Tryz.sizeOf74
  v37 := Tryz.zeroValue74
  t46 := Tryz.underlying150
  a46 := Tryz.isAgg150
  z46 := Tryz.sizeOf150
  v46 := Tryz.zeroValue150
  t51 := Tryz.underlying215
  a51 := Tryz.isAgg215
  z51 := Tryz.sizeOf215
  v51 := Tryz.zeroValue215
  t70 := Tryz.underlying73
  a70 := Tryz.isAgg73
  z70 := Tryz.sizeOf73
  v70 := Tryz.zeroValue73
  t72 := Tryz.underlying76
  a72 := Tryz.isAgg76
  z72 := Tryz.sizeOf76
  v72 := Tryz.zeroValue76
  t75 := Tryz.underlying105
  a75 := Tryz.isAgg105
  z75 := Tryz.sizeOf105
  v75 := Tryz.zeroValue105
  t76 := Tryz.underlying106
  a76 := Tryz.isAgg106
  z76 := Tryz.sizeOf106
  v76 := Tryz.zeroValue106
  t105 := Tryz.underlying178
  a105 := Tryz.isAgg178
  z105 := Tryz.sizeOf178
  v105 := Tryz.zeroValue178
  t119 := Tryz.underlying211
  a119 := Tryz.isAgg211
  z119 := Tryz.sizeOf211
  t127 := Tryz.underlying109
  a127 := Tryz.isAgg109
  z127 := Tryz.sizeOf109
  v127 := Tryz.zeroValue109
  t138 := Tryz.underlying213
  a138 := Tryz.isAgg213
  z138 := Tryz.sizeOf213
  v138 := Tryz.zeroValue213
  t139 := Tryz.underlying214
  a139 := Tryz.isAgg214
  z139 := Tryz.sizeOf214
  v139 := Tryz.zeroValue214
  t146 := Tryz.underlying216
  a146 := Tryz.isAgg216
  z146 := Tryz.sizeOf216
  v146 := Tryz.zeroValue216
  t164 := Tryz.underlying163
  a164 := Tryz.isAgg163
  z164 := Tryz.sizeOf163
  v164 := Tryz.zeroValue163
  g1 := by kernel_rfl
  g3 := by kernel_rfl
  g4 := by kernel_rfl }
theorem Tryz.Builder_Extra_155 : Builder.Extra Tryz.prog Tryz.lays155_ren := {
  sizeBuilder := by kernel_rfl
  liesBuilder := by kernel_rfl
  t5 := Tryz.underlying5
  a5 := Tryz.isAgg5
  z5 := Tryz.sizeOf5
  v5 := Tryz.zeroValue5
  infoByte := by kernel_rfl
  cellsByte := by kernel_rfl
  sizeByte := by kernel_rfl
  neB5 := by decide }
open Go.RowKit in
theorem Tryz.strings_Trim_laid (s cutset : ByteArray) (w : World) (hs : s.size ≤ 9223372036854775807) (hcs : cutset.size < 4294967281) (hascii : ∀ (j : Nat) b, cutset.data.toList[j]? = some b → b.toNat < 128) :
    Calls Tryz.prog 141 #[.string s, .string cutset] w fun e w' => e = .returned (.string ⟨(Lib.trimS s.data.toList cutset.data.toList).toArray⟩) ∧ Below w.heap.size w w' := Any.strings_Trim_laid Tryz.lays160 (by kernel_rfl) s cutset w hs hcs hascii
open Go.RowKit in
theorem Tryz.strings_Compare (a b : ByteArray) (w : World) :
    Calls Tryz.prog 115 #[.string a, .string b] w fun e w' => e = .returned (.int .i64 (Lib.compareBytes a.data.toList b.data.toList)) ∧ w' = w := Any.strings_Compare Tryz.lays106 a b w
open Go.RowKit in
theorem Tryz.cmp_Compare_int (x y : Int) (w : World) :
    Calls Tryz.prog 114 #[.int .i64 x, .int .i64 y] w fun e w' => e = .returned (.int .i64 (Lib.compareInt x y)) ∧ w' = w := Any.cmp_Compare_int Tryz.lays122 x y w
open Go.RowKit Go.Sort Go.Lib in
theorem Tryz.strconv_Itoa (n : Int) (h0 : -9223372036854775808 ≤ n) (h1 : n ≤ 9223372036854775807) (w : World) (htab : Lib.TabIs Tryz.prog w "internal/strconv.uint64pow10" .u64 Lib.pow10Tab) :
    Calls Tryz.prog 100 #[.int .i64 n] w fun e w' => e = .returned (.string ⟨(Lib.itoa n).toArray⟩) ∧ ∃ k os, w' = grow (w.drewN k) os := Any.strconv_Itoa Tryz.laysM171 n h0 h1 w htab
open Go.RowKit in
theorem Tryz.strconv_Atoi_ok (s : ByteArray) (hmax : s.size ≤ 9223372036854775806) (v : Int) (h : Lib.atoiAll s.data.toList = .ok v) (w : World) :
    Calls Tryz.prog 97 #[.string s] w fun e w' => e = .returned (.tuple #[.int .i64 v, .nilIface]) ∧ (w' = w ∨ ∃ t, w' = Lib.bytesWorld w 5 t) := Any.strconv_Atoi_ok Tryz.laysC172 s hmax v h w
open Go.RowKit Go.Lib in
theorem Tryz.strings_HasPrefix (s p : ByteArray) (w : World) :
    Calls Tryz.prog 101 #[.string s, .string p] w fun e w' => e = .returned (.bool (Lib.hasPrefix s.data.toList p.data.toList)) ∧ w' = w := Any.strings_HasPrefix Tryz.lays99 s p w
open Go.RowKit Go.Lib in
theorem Tryz.strings_TrimPrefix (s p : ByteArray) (w : World) :
    Calls Tryz.prog 98 #[.string s, .string p] w fun e w' => e = .returned (.string ⟨(Lib.trimPrefix s.data.toList p.data.toList).toArray⟩) ∧ w' = w := Any.strings_TrimPrefix Tryz.lays101 s p w
open Go.RowKit Go.Lib in
theorem Tryz.strings_Split (s sep : ByteArray) (m : Int) (w : World) (hs : s.size < 4294967281) (hm : w.cell? ⟨0, 0, none⟩ = some (.int .i64 m)) (h1 : 1 ≤ sep.size) :
    Calls Tryz.prog 56 #[.string s, .string sep] w fun e w' =>
      e = .returned (.slice (some ⟨w.heap.size, 0, none⟩) (Lib.countB s sep + 1) (Lib.countB s sep + 1)) ∧ w' = w.alloc (.cells ((Lib.splitB sep 0 (Lib.countB s sep) s).map Value.string).toArray 9) := Any.strings_Split Tryz.lays146 (by kernel_rfl) s sep m w hs hm h1
open Go.RowKit Go.Lib in
theorem Tryz.strings_ReplaceAll (s old new : ByteArray) (m : Int) (w : World) (hs : s.size < 4294967281) (hm : w.cell? ⟨0, 0, none⟩ = some (.int .i64 m)) (h1 : 1 ≤ old.size) (hlen : s.size + Lib.countB s old * new.size ≤ 140737488355328) :
    Calls Tryz.prog 99 #[.string s, .string old, .string new] w fun e w' =>
      e = .returned (.string ⟨(Lib.replaceAll s.data.toList old.data.toList new.data.toList).toArray⟩) ∧ Below w.heap.size w w' := Any.strings_ReplaceAll Tryz.lays155 Tryz.Builder_Extra_155 s old new m w hs hm h1 hlen
end Go.Proofs
end

section
namespace Go.Am
open Go
abbrev Str := List UInt8
inductive Tree where
  | mk (kind n : Int) (s : Str) (l : List Tree) (m : List (Str × Tree))
  deriving Inhabited
namespace Tree
def kind : Tree → Int | .mk k _ _ _ _ => k
def n : Tree → Int | .mk _ n _ _ _ => n
def s : Tree → Str | .mk _ _ s _ _ => s
def l : Tree → List Tree | .mk _ _ _ l _ => l
def m : Tree → List (Str × Tree) | .mk _ _ _ _ m => m
mutual
def enc : Tree → PV
  | .mk k n s l m => .agg [.int .i64 k, .int .i64 n, .str s, .lst false (encL l), .lst false (encM m)]
def encL : List Tree → List PV
  | [] => []
  | t :: l => enc t :: encL l
def encM : List (Str × Tree) → List PV
  | [] => []
  | p :: m => encP p :: encM m
def encP : Str × Tree → PV
  | (k, t) => .agg (.str k :: (enc t).cells)
end
mutual
def nodes : Tree → Nat
  | .mk _ _ _ l m => 1 + nodesL l + nodesM m
def nodesL : List Tree → Nat
  | [] => 0
  | t :: l => nodes t + nodesL l
def nodesM : List (Str × Tree) → Nat
  | [] => 0
  | p :: m => nodesP p + nodesM m
def nodesP : Str × Tree → Nat
  | (_, t) => nodes t
end
mutual
def depth : Tree → Nat
  | .mk _ _ _ l m => 1 + max (depthL l) (depthM m)
def depthL : List Tree → Nat
  | [] => 0
  | t :: l => max (depth t) (depthL l)
def depthM : List (Str × Tree) → Nat
  | [] => 0
  | p :: m => max (depthP p) (depthM m)
def depthP : Str × Tree → Nat
  | (_, t) => depth t
end
theorem encL_eq : ∀ l : List Tree, encL l = l.map enc
  | [] => rfl
  | t :: l => by rw [encL, encL_eq l]; rfl
theorem encL_get {l : List Tree} {i : Nat} {t : Tree} (h : l[i]? = some t) : (encL l)[i]? = some (enc t) := by rw [encL_eq, List.getElem?_map, h]; rfl
theorem enc_cells : ∀ t : Tree, (enc t).cells.length = 5
  | .mk _ _ _ _ _ => rfl
theorem nodesL_mem {l : List Tree} {t : Tree} (h : t ∈ l) : nodes t ≤ nodesL l := by
  induction l with
  | nil => simp at h
  | cons x l ih =>
    rw [nodesL]
    rcases List.mem_cons.1 h with rfl | h
    · omega
    · have := ih h; omega
theorem nodesM_mem {m : List (Str × Tree)} {p : Str × Tree} (h : p ∈ m) : nodes p.2 ≤ nodesM m := by
  induction m with
  | nil => simp at h
  | cons x l ih =>
    rw [nodesM]
    rcases List.mem_cons.1 h with rfl | h
    · obtain ⟨a, b⟩ := p; simp [nodesP]
    · have := ih h; omega
theorem nodes_l {t x : Tree} (h : x ∈ t.l) : nodes x < nodes t := by
  obtain ⟨k, n, s, l, m⟩ := t
  have := nodesL_mem (show x ∈ l from h)
  rw [nodes.eq_def (.mk k n s l m)]
  simp only []
  omega
theorem nodes_m {t : Tree} {p : Str × Tree} (h : p ∈ t.m) : nodes p.2 < nodes t := by
  obtain ⟨k, n, s, l, m⟩ := t
  have := nodesM_mem (show p ∈ m from h)
  rw [nodes.eq_def (.mk k n s l m)]
  simp only []
  omega
theorem ind {p : Tree → Prop} (h : ∀ t : Tree, (∀ x ∈ t.l, p x) → (∀ x ∈ t.m, p x.2) → p t) : ∀ t, p t := by
  intro t
  generalize hn : nodes t = q
  induction q using Nat.strongRecOn generalizing t with
  | ind q ih =>
    subst hn
    exact h t (fun x hx => ih _ (nodes_l hx) x rfl) (fun x hx => ih _ (nodes_m hx) x.2 rfl)
theorem eta (t : Tree) : t = .mk t.kind t.n t.s t.l t.m := by cases t; rfl
end Tree
theorem ElemZ.tree {l : List Tree} {i : Nat} {K : PV → Prop} {t : Tree} (h : l[i]? = some t) (k : K t.enc) : ElemZ (Tree.encL l) i 5 K := ⟨_, Tree.encL_get h, Tree.enc_cells t, k⟩
end Go.Am
namespace Go.Am
end Go.Am
namespace Go.Am
theorem Br.not {c : Bool} {A B : Prop} (h : Br c B A) : Br (!c) A B := ⟨fun e => h.f (by simpa using e), fun e => h.t (by simpa using e)⟩
end Go.Am
namespace Go.Am
end Go.Am
namespace Go.Am
namespace Tree
end Tree
end Go.Am
namespace Go.Am
end Go.Am
namespace Go.Am
def utfSize (r : Int) : Int := if r < 128 then 1 else if r < 2048 then 2 else if r < 65536 then 3 else 4
def utfGood (r : Int) : Bool := decide (0 ≤ r ∧ r ≤ 1114111 ∧ (r < 55296 ∨ 57343 < r))
def utfBegins (c : Nat) : Int × Int :=
  if c < 128 then (1, c) else if c < 192 then (0, 0) else if c < 224 then (2, (c % 64 : Nat)) else if c < 240 then (3, (c % 32 : Nat)) else if c < 248 then (4, (c % 16 : Nat)) else (0, 0)
def takeL : Nat → Str → Int → Option Int
  | 0, _, r => some r
  | _ + 1, [], _ => none
  | q + 1, b :: s, r => if 128 ≤ b.toNat ∧ b.toNat < 192 then takeL q s (r * 64 + (b.toNat % 64 : Nat)) else none
def utfTake (s : Str) : Int × Int :=
  match s with
  | [] => (0, 0)
  | c :: cs => if (utfBegins c.toNat).1 = 0 ∨ (s.length : Int) < (utfBegins c.toNat).1 then (0, 0) else
    match takeL ((utfBegins c.toNat).1.toNat - 1) cs (utfBegins c.toNat).2 with
    | none => (0, 0)
    | some r => if utfGood r = true ∧ utfSize r = (utfBegins c.toNat).1 then (r, (utfBegins c.toNat).1) else (0, 0)
def utfEnc (r : Int) : Str :=
  if utfGood r = false then [] else
  if r < 128 then [UInt8.ofNat r.toNat] else
  if r < 2048 then [UInt8.ofNat (192 + r.toNat / 64), UInt8.ofNat (128 + r.toNat % 64)] else
  if r < 65536 then [UInt8.ofNat (224 + r.toNat / 4096), UInt8.ofNat (128 + r.toNat / 64 % 64), UInt8.ofNat (128 + r.toNat % 64)] else
  [UInt8.ofNat (240 + r.toNat / 262144), UInt8.ofNat (128 + r.toNat / 4096 % 64), UInt8.ofNat (128 + r.toNat / 64 % 64), UInt8.ofNat (128 + r.toNat % 64)]
end Go.Am
namespace Go.Am
end Go.Am
namespace Go.Am
theorem CLe.arr {t : TypeId} {sz : Nat} {es es' : List PV} {mv : List Nat} (h : es = es') : CLe ⟨.ret (.sl 0 0 es.length), [.arr t sz es], mv⟩ ⟨.ret (.sl 0 0 es'.length), [.arr t sz es'], mv⟩ := by rw [h]; exact CLe.refl _
end Go.Am
namespace Go.Am
end Go.Am
namespace Go.Am
end Go.Am
namespace Go.Am
def dig (b : UInt8) : Bool := decide (48 ≤ b.toNat ∧ b.toNat ≤ 57)
def runL : Str → Nat
  | [] => 0
  | b :: s => if dig b = true then runL s + 1 else 0
abbrev Parts := Bool × Str × Str × Str × Bool
def noParts : Parts := (false, [], [], [], false)
def b0 (s : Str) : Nat := (s.getD 0 0).toNat
def partsE (neg : Bool) (w f p d : Str) : Parts := if d.length = 0 ∨ runL d ≠ d.length then noParts else (neg, w, f, p, true)
def partsD (neg : Bool) (w f s : Str) : Parts :=
  if s.length = 0 then (neg, w, f, [], true) else if b0 s ≠ 101 ∧ b0 s ≠ 69 then noParts else
  if 0 < (s.drop 1).length ∧ (b0 (s.drop 1) = 43 ∨ b0 (s.drop 1) = 45) then partsE neg w f (s.drop 1) ((s.drop 1).drop 1) else partsE neg w f (s.drop 1) (s.drop 1)
def partsC (neg : Bool) (w s : Str) : Parts :=
  if 0 < s.length ∧ b0 s = 46 then (if runL (s.drop 1) = 0 then noParts else partsD neg w ((s.drop 1).take (runL (s.drop 1))) ((s.drop 1).drop (runL (s.drop 1)))) else partsD neg w [] s
def partsB (neg : Bool) (s : Str) : Parts := if runL s = 0 ∨ (1 < runL s ∧ b0 (s.take (runL s)) = 48) then noParts else partsC neg (s.take (runL s)) (s.drop (runL s))
def numParts (s : Str) : Parts := if 0 < s.length ∧ b0 s = 45 then partsB true (s.drop 1) else partsB false s
def powL : Str → Int → Option Int
  | [], v => some v
  | b :: s, v => if dig b = true then (if 10 * v + (b.toNat - 48) > 100000 then none else powL s (10 * v + (b.toNat - 48))) else powL s v
def powerL (p : Str) : Int × Bool := match powL p 0 with
  | none => (0, false)
  | some v => if 0 < p.length ∧ b0 p = 45 then (-v, true) else (v, true)
def formL (s : Str) : Bool × Bool := ((numParts s).2.2.2.2, (numParts s).2.2.2.2 && !(powerL (numParts s).2.2.2.1).2)
def numL (s : Str) : Bool := (formL s).1 && !(formL s).2 && decide (s.length ≤ 400)
end Go.Am
namespace Go.Am
theorem CLe.parts {x : Parts} {a e : Bool} {b c d : Str} {H : Heap} {mv : List Nat} (h : x = (a, b, c, d, e)) :
    CLe ⟨.ret (.tup [.p (.bool a), .p (.str b), .p (.str c), .p (.str d), .p (.bool e)]), H, mv⟩ ⟨.ret (.tup [.p (.bool x.1), .p (.str x.2.1), .p (.str x.2.2.1), .p (.str x.2.2.2.1), .p (.bool x.2.2.2.2)]), H, mv⟩ := by subst h; exact CLe.refl _
end Go.Am
namespace Go.Am
end Go.Am
namespace Go.Am
end Go.Am
namespace Go.Am
def hexd (k : Nat) : UInt8 := [48, 49, 50, 51, 52, 53, 54, 55, 56, 57, 97, 98, 99, 100, 101, 102].getD k 0
def hex2 (n : Nat) : Str := [48, 48, hexd (n / 16), hexd (n % 16)]
def quoteU (x : Str) (n : Int) : Str :=
  if n = 0 then [239, 191, 189] else
  if b0 x = 34 ∨ b0 x = 92 then 92 :: x else
  if b0 x = 8 then [92, 98] else
  if b0 x = 9 then [92, 116] else
  if b0 x = 10 then [92, 110] else
  if b0 x = 12 then [92, 102] else
  if b0 x = 13 then [92, 114] else
  if b0 x < 32 then 92 :: 117 :: hex2 (b0 x) else x
def clampL (s : Str) (at_ : Int) : Int := min (max at_ 0) s.length
def whileL (s c : Str) : Nat := (s.takeWhile (c.contains ·)).length
end Go.Am
namespace Go.Am
def e2 : Str := [101, 69]
def d10 : Str := [48, 49, 50, 51, 52, 53, 54, 55, 56, 57]
def behindE (s : Str) : Str := (s.drop (Lib.indexAny s e2 + 1).toNat).drop (whileL (s.drop (Lib.indexAny s e2 + 1).toNat) d10)
def greatL (s : Str) : Bool :=
  if Lib.indexAny s e2 < 0 then false else
  if behindE s = s.drop (Lib.indexAny s e2 + 1).toNat ∧ 0 < ((behindE s).length : Int) ∧ ((((behindE s).getD 0 0).toNat : Int) = 43 ∨ (((behindE s).getD 0 0).toNat : Int) = 45) then
    decide (((behindE s).drop 1).length ≠ 0 ∧ whileL ((behindE s).drop 1) d10 = ((behindE s).drop 1).length) && numL (s.take (Lib.indexAny s e2).toNat)
  else decide ((behindE s).length = 0 ∧ Lib.indexAny s e2 + 1 < s.length) && numL (s.take (Lib.indexAny s e2).toNat)
def jnumL (s : Str) : Int := if 400 < s.length then 2 else if numL s = true then 0 else if greatL s = true then 6 else 4
def preB (s : Str) (p : UInt8) : Bool := decide (s.take 1 = [p])
end Go.Am
namespace Go.Am
end Go.Am
namespace Go.Am
end Go.Am
namespace Go.Am
end Go.Am
namespace Go.Am
def hexD (b : UInt8) : Option Int :=
  if 48 ≤ b.toNat ∧ b.toNat ≤ 57 then some (b.toNat - 48) else
  if 97 ≤ b.toNat ∧ b.toNat ≤ 102 then some (b.toNat - 87) else
  if 65 ≤ b.toNat ∧ b.toNat ≤ 70 then some (b.toNat - 55) else none
def hexR : Str → Int → Int × Bool
  | [], v => (v, true)
  | b :: s, v => match hexD b with
    | none => (0, false)
    | some x => hexR s (v * 16 + x)
def hexL (s : Str) : Int × Bool := if s.length < 1 ∨ 8 < s.length then (0, false) else hexR s 0
def digL (t : Str) (a n : Nat) : Int × Bool := if t.length < a + n then (0, false) else hexL ((t.drop a).take n)
def shortL (c : UInt8) : Option Int :=
  if c = 34 then some 34 else if c = 92 then some 92 else if c = 98 then some 8 else if c = 102 then some 12 else if c = 110 then some 10 else if c = 114 then some 13 else if c = 116 then some 9 else if c = 47 then some 47 else none
def putR (a : Int) (acc : Str) (x k : Int) : Bool × Int × Str := if utfGood x = true then (true, a + k, acc ++ utfEnc x) else (false, a, acc)
def escL (t : Str) (a : Nat) : Option (Int × Int) :=
  if a + 1 = t.length then none else
  match shortL (t.getD (a + 1) 0) with
  | some x => some (x, 2)
  | none => if ¬ ((t.getD (a + 1) 0).toNat : Int) = 117 ∨ (digL t (a + 2) 4).2 = false then none else
    if (digL t (a + 2) 4).1 < 55296 ∨ 56320 ≤ (digL t (a + 2) 4).1 then some ((digL t (a + 2) 4).1, 6) else
    if (digL t (a + 8) 4).2 = false ∨ ¬ (t.drop (a + 6)).take 2 = [92, 117] ∨ (digL t (a + 8) 4).1 < 56320 ∨ 57343 < (digL t (a + 8) 4).1 then none else
    some (65536 + ((digL t (a + 2) 4).1 - 55296) * 1024 + ((digL t (a + 8) 4).1 - 56320), 12)
def escAt (t : Str) (a : Nat) (acc : Str) : Bool × Int × Str := match escL t a with
  | none => (false, a, acc)
  | some (x, k) => putR a acc x k
def unqL : Nat → Str → Nat → Str → Str × Int × Int
  | 0, t, _, _ => ([], 0, t.length)
  | q + 1, t, a, acc =>
    if t.length ≤ a then ([], 0, t.length) else
    if ((t.getD a 0).toNat : Int) = 34 then (acc, (a : Int) + 1, -1) else
    if ((t.getD a 0).toNat : Int) < 32 then ([], 0, (a : Int)) else
    if ((t.getD a 0).toNat : Int) = 92 then
      (if (escAt t a acc).1 = true then unqL q t (escAt t a acc).2.1.toNat (escAt t a acc).2.2 else ([], 0, (a : Int)))
    else if (utfTake (t.drop a)).2 = 0 then ([], 0, (a : Int)) else unqL q t (a + (utfTake (t.drop a)).2.toNat) (acc ++ utfEnc (utfTake (t.drop a)).1)
def unquoteL (t : Str) (at_ : Int) : Str × Int × Int :=
  if at_ < 0 ∨ preB (t.drop (clampL t at_).toNat) 34 = false then ([], 0, clampL t at_) else unqL (t.length + 1) t ((clampL t at_).toNat + 1) []
end Go.Am
namespace Go.Am
structure Wd where
  k : Int
  s : Str
  a : Int
deriving DecidableEq
def Wd.enc (w : Wd) : PV := .agg [.int .i64 w.k, .str w.s, .int .i64 w.a]
def signs : Str := [123, 125, 91, 93, 58, 44]
def lowers : Str := [97, 98, 99, 100, 101, 102, 103, 104, 105, 106, 107, 108, 109, 110, 111, 112, 113, 114, 115, 116, 117, 118, 119, 120, 121, 122]
def numBs : Str := [48, 49, 50, 51, 52, 53, 54, 55, 56, 57, 43, 45, 46, 101, 69]
def blanksB : Str := [32, 9, 10, 13]
def wordL (t : Str) (a : Nat) : Wd × Int × Int × Int :=
  if 0 ≤ firstIdx ⟨signs.toArray⟩ (t.getD a 0) then (⟨1, (t.drop a).take 1, a⟩, (a : Int) + 1, 0, 0) else
  if ((t.getD a 0).toNat : Int) = 34 then
    (if 0 ≤ (unquoteL t a).2.2 then (⟨0, [], 0⟩, 0, 4, (unquoteL t a).2.2) else
     if 4096 < ((unquoteL t a).1.length : Int) then (⟨0, [], 0⟩, 0, 2, (a : Int)) else
     (⟨2, (unquoteL t a).1, a⟩, (unquoteL t a).2.1, 0, 0)) else
  if 97 ≤ ((t.getD a 0).toNat : Int) ∧ ((t.getD a 0).toNat : Int) ≤ 122 then
    (if ¬ (t.drop a).take (whileL (t.drop a) lowers) = [116, 114, 117, 101] ∧ ¬ (t.drop a).take (whileL (t.drop a) lowers) = [102, 97, 108, 115, 101] ∧ ¬ (t.drop a).take (whileL (t.drop a) lowers) = [110, 117, 108, 108] then (⟨0, [], 0⟩, 0, 4, (a : Int)) else
     (⟨4, (t.drop a).take (whileL (t.drop a) lowers), a⟩, (a : Int) + whileL (t.drop a) lowers, 0, 0)) else
  if whileL (t.drop a) numBs = 0 then (⟨0, [], 0⟩, 0, 4, (a : Int)) else
  if jnumL ((t.drop a).take (whileL (t.drop a) numBs)) ≠ 0 then (⟨0, [], 0⟩, 0, jnumL ((t.drop a).take (whileL (t.drop a) numBs)), (a : Int)) else
  (⟨3, (t.drop a).take (whileL (t.drop a) numBs), a⟩, (a : Int) + whileL (t.drop a) numBs, 0, 0)
def dotE : Str := [46, 101, 69]
def Whole (_s : Str) (x : Parts) (neg : Bool) (w r : Str) : Prop :=
  ((∃ b ∈ r, b ∈ dotE) ∧ (0 < x.2.2.1.length ∨ 0 < x.2.2.2.1.length)) ∨ (r = [] ∧ x = (neg, w, [], [], true))
def ownBad (k n : Int) (ls ll lm : Nat) : Prop := (k ≠ 1 ∧ k ≠ 2 ∧ n ≠ 0) ∨ (k ≠ 3 ∧ k ≠ 4 ∧ k ≠ 7 ∧ ls ≠ 0) ∨ (k ≠ 5 ∧ ll ≠ 0) ∨ (k ≠ 6 ∧ lm ≠ 0)
instance (k n : Int) (ls ll lm : Nat) : Decidable (ownBad k n ls ll lm) := by unfold ownBad; infer_instance
end Go.Am
namespace Go.Am
end Go.Am
namespace Go.Am
end Go.Am
namespace Go.Am
def Ge (n : Nat) (s : Str) : Prop := ∀ b ∈ s, n ≤ b.toNat
theorem Ge.app {n : Nat} {s r : Str} (h1 : Ge n s) (h2 : Ge n r) : Ge n (s ++ r) := fun b hb => (List.mem_append.1 hb).elim (h1 b) (h2 b)
theorem Ge.cons {n : Nat} {c : UInt8} {s : Str} (h1 : n ≤ c.toNat) (h2 : Ge n s) : Ge n (c :: s) := fun b hb => (List.mem_cons.1 hb).elim (fun e => by rw [e]; exact h1) (h2 b)
theorem Ge.nil {n : Nat} : Ge n [] := fun b hb => by cases hb
def NoB (s : Str) : Prop := ∀ b ∈ s, b.toNat ≠ 32
theorem NoB.l {s r : Str} (h : NoB (s ++ r)) : NoB s := fun b hb => h b (List.mem_append_left _ hb)
theorem NoB.r {s r : Str} (h : NoB (s ++ r)) : NoB r := fun b hb => h b (List.mem_append_right _ hb)
theorem NoB.t {c : UInt8} {s : Str} (h : NoB (c :: s)) : NoB s := fun b hb => h b (List.mem_cons_of_mem _ hb)
end Go.Am
end

section
namespace Go.Am
end Go.Am
end

section
namespace Go.Am
open Go
def q1 (c : UInt8) : Str := quoteU [c] 1
def numCh (b : UInt8) : Bool := decide ((48 ≤ b.toNat ∧ b.toNat ≤ 57) ∨ b.toNat = 43 ∨ b.toNat = 45 ∨ b.toNat = 46 ∨ b.toNat = 101 ∨ b.toNat = 69)
def Nc (s : Str) : Prop := ∀ b ∈ s, numCh b = true
theorem Nc.app {s r : Str} (h1 : Nc s) (h2 : Nc r) : Nc (s ++ r) := fun b hb => (List.mem_append.1 hb).elim (h1 b) (h2 b)
theorem Nc.cons {c : UInt8} {s : Str} (h1 : numCh c = true) (h2 : Nc s) : Nc (c :: s) := fun b hb => (List.mem_cons.1 hb).elim (fun e => by rw [e]; exact h1) (h2 b)
theorem Nc.nil : Nc [] := fun b hb => by cases hb
theorem Tree.ext' {t u : Tree} (h1 : t.kind = u.kind) (h2 : t.n = u.n) (h3 : t.s = u.s) (h4 : t.l = u.l) (h5 : t.m = u.m) : t = u := by rw [t.eta, u.eta, h1, h2, h3, h4, h5]
def Tok (u : Str) (k : Int) (s : Str) (v : Str) : Prop := ∀ (t : Str) (a : Nat), a < t.length → t.drop a = u → ∃ b : Nat, wordL t a = (⟨k, s, a⟩, (b : Int), 0, 0) ∧ a < b ∧ b ≤ t.length ∧ t.drop b = v
theorem getD_drop (t : Str) (a : Nat) : t.getD a 0 = (t.drop a).getD 0 0 := by simp [List.getD, List.getElem?_drop]
theorem sign_iff : ∀ n : Nat, n < 256 → (0 ≤ firstIdx ⟨signs.toArray⟩ n.toUInt8 ↔ signs.contains n.toUInt8 = true) := by decide +kernel
theorem sign_b (c : UInt8) : 0 ≤ firstIdx ⟨signs.toArray⟩ c ↔ signs.contains c = true := by
  have := sign_iff c.toNat (UInt8.toNat_lt c)
  rwa [show c.toNat.toUInt8 = c by simp] at this
theorem drop_lt {t u v : Str} {a : Nat} (ha : a ≤ t.length) (h : t.drop a = u ++ v) : a + u.length ≤ t.length ∧ t.drop (a + u.length) = v := by
  have hl := congrArg List.length h
  rw [List.length_drop, List.length_append] at hl
  refine ⟨by omega, ?_⟩
  rw [← List.drop_drop, h, List.drop_left]
theorem tok_sign (c : UInt8) (v : Str) (hc : signs.contains c = true) : Tok (c :: v) 1 [c] v := by
  intro t a ha h
  have hg : t.getD a 0 = c := by rw [getD_drop, h]; rfl
  obtain ⟨h1, h2⟩ := drop_lt (u := [c]) (v := v) (by omega) h
  refine ⟨a + 1, ?_, by omega, h1, h2⟩
  unfold wordL
  rw [if_pos (by rw [hg]; exact (sign_b c).2 hc), h]
  rfl
abbrev RR := Except (Int × Int) (Tree × Nat × Int)
def wdAt (ws : List Wd) (i : Nat) : Wd := (ws[i]?).getD ⟨0, [], 0⟩
structure WsOk (ws : List Wd) : Prop where
  len : ws.length ≤ 65537
  end_ : ∀ i : Nat, i < ws.length → (wdAt ws i).k ≠ 0 → i + 1 < ws.length
  text : ∀ w ∈ ws, w.s.length ≤ 65536 ∧ 0 ≤ w.k ∧ w.k ≤ 4 ∧ (w.k = 4 → w.s = [116, 114, 117, 101] ∨ w.s = [102, 97, 108, 115, 101] ∨ w.s = [110, 117, 108, 108])
  pos : ∀ w ∈ ws, 0 ≤ w.a ∧ w.a ≤ 65536
theorem WsOk.at {ws : List Wd} (h : WsOk ws) {i : Nat} (hi : i < ws.length) : ws[i]? = some (wdAt ws i) ∧ wdAt ws i ∈ ws := by
  have : ws[i]? = some ws[i] := by simp [hi]
  unfold wdAt
  rw [this]
  exact ⟨rfl, List.getElem_mem hi⟩
def okR (ws : List Wd) (i : Nat) (n : Int) : RR → Prop
  | .error _ => True
  | .ok (_, j, m) => i < j ∧ j < ws.length ∧ n ≤ m ∧ m ≤ 4096
theorem okR.up {ws : List Wd} {i j : Nat} {n m : Int} {r : RR} (hij : i ≤ j) (hnm : n ≤ m) (hr : okR ws j m r) : okR ws i n r := by
  cases r with
  | error e => trivial
  | ok x => exact ⟨by have := hr.1; omega, hr.2.1, by have := hr.2.2.1; omega, hr.2.2.2⟩
theorem WsOk.a {ws : List Wd} (h : WsOk ws) (i : Nat) : 0 ≤ (wdAt ws i).a ∧ (wdAt ws i).a ≤ 65536 := by
  unfold wdAt
  cases hi : ws[i]? with
  | none => simp
  | some w => exact h.pos w (List.mem_of_getElem? hi)
def skipB (u : Str) : Str := u.dropWhile (blanksB.contains ·)
inductive LexTo (W : Str) : Str → List (Int × Str) → Prop
  | nil : LexTo W W []
  | cons {u v : Str} {k : Int} {s : Str} {ws : List (Int × Str)} (h : Tok u k s v) (hne : u ≠ []) (r : LexTo W (skipB v) ws) : LexTo W u ((k, s) :: ws)
def kp (w : Wd) : Int × Str := (w.k, w.s)
theorem LexTo.sign {W : Str} (c : UInt8) {X : Str} {ws : List (Int × Str)} (h : signs.contains c = true) (r : LexTo W (skipB X) ws) : LexTo W (c :: X) ((1, [c]) :: ws) :=
  .cons (tok_sign c X h) (by simp) r
structure Stp where
  k : Str
  a : Int
  p : Bool
deriving DecidableEq
def Stp.enc (s : Stp) : PV := .agg [.str s.k, .int .i64 s.a, .bool s.p]
structure Ord3 {α : Type} (f : α → α → Int) (ok : α → Prop) : Prop where
  val : ∀ a b, f a b = -1 ∨ f a b = 0 ∨ f a b = 1
  anti : ∀ a b, f b a = - f a b
  zero : ∀ a b, ok a → ok b → (f a b = 0 ↔ a = b)
  same : ∀ a b c, f a b = 0 → f a c = f b c
  less : ∀ a b c, f a b = -1 → f b c = -1 → f a c = -1
theorem Ord3.trans {α : Type} {f : α → α → Int} {ok : α → Prop} (h : Ord3 f ok) (a b c : α) (e : f a b = f b c) : f a c = f a b := by
  rcases h.val a b with h1 | h1 | h1
  · rw [h1] at e ⊢; exact h.less a b c h1 e.symm
  · rw [h1] at e ⊢; rw [h.same a b c h1]; exact e.symm
  · rw [h1] at e ⊢
    have h2 := h.anti b c
    have h3 := h.anti a b
    have h4 := h.anti c a
    have := h.less c b a (by omega) (by omega)
    omega
end Go.Am
end

section
namespace Go.Proofs.YthkoefpidnphpaaGreatDoor
open Go Go.Am Go.RowKit
set_option maxRecDepth 100000
theorem strings_Compare (a b : Str) (H : Heap) : AbsCall PP GG F.strings_Compare [.p (.str a), .p (.str b)] H ⟨.ret (.p (.int .i64 (Lib.compareBytes a b))), H, []⟩ := by
  refine absBelow fun B L w vs _ ha hg => ?_
  obtain ⟨v, u, rfl, hv, hu⟩ := vrel2 ha
  obtain rfl := vstr hv
  obtain rfl := vstr hu
  refine CallTo.of_calls Tryz.func115 (by kernel_rfl) rfl ((Tryz.strings_Compare ⟨a.toArray⟩ ⟨b.toArray⟩ w).mono ?_)
  rintro e w' ⟨rfl, rfl⟩
  exact ⟨Below.refl _ _, _, rfl, .p _ _ (.int _ _)⟩
theorem cmp_Compare_int (a b : Int) (H : Heap) : AbsCall PP GG F.cmp_Compare_int [.p (.int .i64 a), .p (.int .i64 b)] H ⟨.ret (.p (.int .i64 (Lib.compareInt a b))), H, []⟩ := by
  refine absBelow fun B L w vs _ ha hg => ?_
  obtain ⟨v, u, rfl, hv, hu⟩ := vrel2 ha
  obtain rfl := vint hv
  obtain rfl := vint hu
  refine CallTo.of_calls Tryz.func114 (by kernel_rfl) rfl ((Tryz.cmp_Compare_int a b w).mono ?_)
  rintro e w' ⟨rfl, rfl⟩
  exact ⟨Below.refl _ _, _, rfl, .p _ _ (.int _ _)⟩
theorem strconv_Itoa (n : Int) (hn : -9223372036854775808 ≤ n ∧ n ≤ 9223372036854775807) (H : Heap) : AbsCall PP GG F.strconv_Itoa [.p (.int .i64 n)] H ⟨.ret (.p (.str (Lib.itoa n))), H, []⟩ := by
  refine absBelow fun B L w vs _ ha hg => ?_
  obtain ⟨v, rfl, hv⟩ := vrel1 ha
  obtain rfl := vint hv
  refine CallTo.of_calls Tryz.func100 (by kernel_rfl) rfl ((Tryz.strconv_Itoa n hn.1 hn.2 w (tab_of_gok hg (by rw [pow10_lit]; rfl) gPow)).mono ?_)
  rintro e w' ⟨rfl, k, os, rfl⟩
  exact ⟨Lib.below_grow _ _ (Nat.le_refl _) _ _, _, rfl, .p _ _ (.str _)⟩
theorem strings_Trim (s c : Str) (hs : s.length ≤ 9223372036854775807) (hc : c.length < 4294967281) (h2 : ∀ (j : Nat) (b : UInt8), c[j]? = some b → b.toNat < 128) (H : Heap) :
    AbsCall PP GG F.strings_Trim [.p (.str s), .p (.str c)] H ⟨.ret (.p (.str (Lib.trimS s c))), H, []⟩ := by
  refine absBelow fun B L w vs _ ha hg => ?_
  obtain ⟨v, u, rfl, hv, hu⟩ := vrel2 ha
  obtain rfl := vstr hv
  obtain rfl := vstr hu
  refine CallTo.of_calls Tryz.func141 (by kernel_rfl) rfl ((Tryz.strings_Trim_laid ⟨s.toArray⟩ ⟨c.toArray⟩ w (by simpa [ByteArray.size] using hs) (by simpa [ByteArray.size] using hc) (by simpa using h2)).mono ?_)
  rintro e w' ⟨rfl, hb⟩
  exact ⟨hb, _, rfl, by simpa using VRel.p _ _ (.str _)⟩
theorem strings_HasPrefix (s p : Str) (H : Heap) : AbsCall PP GG F.strings_HasPrefix [.p (.str s), .p (.str p)] H ⟨.ret (.p (.bool (Lib.hasPrefix s p))), H, []⟩ := by
  refine absBelow fun B L w vs _ ha hg => ?_
  obtain ⟨v, u, rfl, hv, hu⟩ := vrel2 ha
  obtain rfl := vstr hv
  obtain rfl := vstr hu
  refine CallTo.of_calls Tryz.func101 (by kernel_rfl) rfl ((Tryz.strings_HasPrefix ⟨s.toArray⟩ ⟨p.toArray⟩ w).mono ?_)
  rintro e w' ⟨rfl, rfl⟩
  exact ⟨Below.refl _ _, _, rfl, by simpa using VRel.p _ _ (.bool _)⟩
theorem strings_TrimPrefix (s p : Str) (H : Heap) : AbsCall PP GG F.strings_TrimPrefix [.p (.str s), .p (.str p)] H ⟨.ret (.p (.str (Lib.trimPrefix s p))), H, []⟩ := by
  refine absBelow fun B L w vs _ ha hg => ?_
  obtain ⟨v, u, rfl, hv, hu⟩ := vrel2 ha
  obtain rfl := vstr hv
  obtain rfl := vstr hu
  refine CallTo.of_calls Tryz.func98 (by kernel_rfl) rfl ((Tryz.strings_TrimPrefix ⟨s.toArray⟩ ⟨p.toArray⟩ w).mono ?_)
  rintro e w' ⟨rfl, rfl⟩
  exact ⟨Below.refl _ _, _, rfl, by simpa using VRel.p _ _ (.str _)⟩
theorem maxLen_cell {B : Nat → Prop} {w : World} (h : GOk GG B w) : ∃ m, w.cell? ⟨Gl.internal_bytealg_MaxLen, 0, none⟩ = some (.int .i64 m) := by
  obtain ⟨h1, _⟩ := h Gl.internal_bytealg_MaxLen (.anyi .i64) rfl
  cases h1 with
  | cptr d b o u hb hw hf hc hr =>
    have h0 := hr 0 (.anyi .i64) rfl
    have hc0 := hc 0 (by decide)
    generalize u 0 = v at h0 hc0
    cases h0
    exact ⟨_, hc0⟩
theorem strings_ReplaceAll (s old new : Str) (hs : s.length < 4294967281) (h1 : 1 ≤ old.length) (hl : s.length + s.length * new.length ≤ 140737488355328) (H : Heap) :
    AbsCall PP GG F.strings_ReplaceAll [.p (.str s), .p (.str old), .p (.str new)] H ⟨.ret (.p (.str (Lib.replaceAll s old new))), H, []⟩ := by
  refine absBelow fun B L w vs _ ha hg => ?_
  obtain ⟨v, u, t, rfl, hv, hu, ht⟩ := vrel3 ha
  obtain rfl := vstr hv
  obtain rfl := vstr hu
  obtain rfl := vstr ht
  obtain ⟨m, hm⟩ := maxLen_cell hg
  have hc : Lib.countB ⟨s.toArray⟩ ⟨old.toArray⟩ ≤ s.length := by
    have := Lib.countB_le ⟨old.toArray⟩ (by simpa [ByteArray.size] using h1) s.length ⟨s.toArray⟩ (by simp [ByteArray.size])
    simpa [ByteArray.size] using this
  have hc2 : Lib.countB ⟨s.toArray⟩ ⟨old.toArray⟩ * new.length ≤ s.length * new.length := Nat.mul_le_mul_right _ hc
  refine CallTo.of_calls Tryz.func99 (by kernel_rfl) rfl ((Tryz.strings_ReplaceAll ⟨s.toArray⟩ ⟨old.toArray⟩ ⟨new.toArray⟩ m w (by simpa [ByteArray.size] using hs) hm (by simpa [ByteArray.size] using h1) (by simp [ByteArray.size]; omega)).mono ?_)
  rintro e w' ⟨rfl, hb⟩
  exact ⟨hb, _, rfl, by simpa using VRel.p _ _ (.str _)⟩
theorem cell_new (w : World) (c : Array Value) (t : TypeId) (k : Nat) (v : Value) (h : c[k]? = some v) : (w.alloc (.cells c t)).cell? ⟨w.heap.size, 0 + k, none⟩ = some v := by
  have e : (w.alloc (.cells c t)).heap[w.heap.size]? = some (.cells c t) := Array.getElem?_push_size
  unfold World.cell?
  rw [e, Nat.zero_add]
  exact h
theorem size_new (w : World) (o : Obj) : w.heap.size < (w.alloc o).heap.size := by
  have : (w.alloc o).heap.size = w.heap.size + 1 := Array.size_push _
  omega
theorem strings_Split (s sep : Str) (hs : s.length < 4294967281) (h1 : 1 ≤ sep.length) (H : Heap) :
    AbsCall PP GG F.strings_Split [.p (.str s), .p (.str sep)] H ⟨.ret (.p (.lst false ((Lib.split s sep).map PV.str))), H, []⟩ := by
  refine absBelow fun B L w vs hst ha hg => ?_
  obtain ⟨v, u, rfl, hv, hu⟩ := vrel2 ha
  obtain rfl := vstr hv
  obtain rfl := vstr hu
  obtain ⟨m, hm⟩ := maxLen_cell hg
  refine CallTo.of_calls Tryz.func56 (by kernel_rfl) rfl ((Tryz.strings_Split ⟨s.toArray⟩ ⟨sep.toArray⟩ m w (by simpa [ByteArray.size] using hs) hm (by simpa [ByteArray.size] using h1)).mono ?_)
  rintro e w' ⟨rfl, rfl⟩
  have hdat := Lib.splitB_data ⟨sep.toArray⟩ 0 (Lib.countB ⟨s.toArray⟩ ⟨sep.toArray⟩) ⟨s.toArray⟩
  have hlen := Lib.splitB_all ⟨sep.toArray⟩ (by simpa [ByteArray.size] using h1) 0 (Lib.countB ⟨s.toArray⟩ ⟨sep.toArray⟩) ⟨s.toArray⟩ rfl
  have hsp : Lib.split s sep = (Lib.splitB ⟨sep.toArray⟩ 0 (Lib.countB ⟨s.toArray⟩ ⟨sep.toArray⟩) ⟨s.toArray⟩).map (·.data.toList) := by rw [hdat]; rfl
  generalize Lib.splitB ⟨sep.toArray⟩ 0 (Lib.countB ⟨s.toArray⟩ ⟨sep.toArray⟩) ⟨s.toArray⟩ = l at *
  generalize Lib.countB ⟨s.toArray⟩ ⟨sep.toArray⟩ = n at *
  have hflat : ∀ q : List Str, flat (q.map PV.str) = q.map PV.str := by
    intro q
    induction q with
    | nil => rfl
    | cons x q ih => rw [List.map_cons, flat_cons, ih]; rfl
  have hall : ∀ x ∈ (Lib.split s sep).map PV.str, x.cells.length = 1 := fun x hx => by obtain ⟨y, _, rfl⟩ := List.mem_map.1 hx; rfl
  have hlf : ∀ x ∈ flat ((Lib.split s sep).map PV.str), x.leaf = true := fun x hx => by rw [hflat] at hx; obtain ⟨y, _, rfl⟩ := List.mem_map.1 hx; rfl
  have hl : ((Lib.split s sep).map PV.str).length = n + 1 := by rw [List.length_map, hsp, List.length_map, hlen]
  have hB : ¬ B w.heap.size := fun h => absurd (hst.bnd _ h) (Nat.lt_irrefl _)
  refine ⟨(Below.refl _ _).alloc (Nat.le_refl _) _, _, rfl, .p _ _ ?_⟩
  have := PRel.lst (B := B) (w := w.alloc (.cells ((l.map Value.string).toArray) T.string)) false ((Lib.split s sep).map PV.str) w.heap.size 0 (n + 1) 1 (fun k => ((l.map Value.string)[k]?).getD undef) hB (size_new _ _) (Nat.le_refl _) hall hlf
    (by rw [hl]; exact Nat.le_refl _) (fun e => by cases e) (fun k hk => ?_) (fun k x hx => ?_)
  · rw [hl] at this
    exact this
  · rw [hflat, List.length_map, hsp, List.length_map] at hk
    refine cell_new _ _ _ _ _ ?_
    simp [hk]
  · rw [hflat, List.getElem?_map, hsp, List.getElem?_map] at hx
    cases hq : l[k]? with
    | none => rw [hq] at hx; simp at hx
    | some y =>
      rw [hq] at hx
      simp at hx
      subst hx
      simp only [List.getElem?_map, hq, Option.map_some, Option.getD_some]
      have := PRel.str (B := B) (w := w.alloc (.cells ((l.map Value.string).toArray) T.string)) y.data.toList
      simpa using this
def pCompare : List V → Heap → Option CR
  | [.p (.str a), .p (.str b)], H => some ⟨.ret (.p (.int .i64 (Lib.compareBytes a b))), H, []⟩
  | _, _ => none
theorem pCompare_ok {args : List V} {H : Heap} {cr : CR} (h : pCompare args H = some cr) : AbsCall PP GG F.strings_Compare args H cr := by
  unfold pCompare at h
  split at h
  · cases h
    exact strings_Compare _ _ _
  · cases h
def pCompareI : List V → Heap → Option CR
  | [.p (.int .i64 a), .p (.int .i64 b)], H => some ⟨.ret (.p (.int .i64 (Lib.compareInt a b))), H, []⟩
  | _, _ => none
theorem pCompareI_ok {args : List V} {H : Heap} {cr : CR} (h : pCompareI args H = some cr) : AbsCall PP GG F.cmp_Compare_int args H cr := by
  unfold pCompareI at h
  split at h
  · cases h
    exact cmp_Compare_int _ _ _
  · cases h
def pItoa : List V → Heap → Option CR
  | [.p (.int .i64 n)], H => if -9223372036854775808 ≤ n ∧ n ≤ 9223372036854775807 then some ⟨.ret (.p (.str (itoaK n))), H, []⟩ else none
  | _, _ => none
theorem pItoa_ok {args : List V} {H : Heap} {cr : CR} (h : pItoa args H = some cr) : AbsCall PP GG F.strconv_Itoa args H cr := by
  unfold pItoa at h
  split at h
  · split at h
    · rename_i hc
      cases h
      exact by rw [itoaK_eq hc.1 hc.2]; exact strconv_Itoa _ hc _
    · cases h
  · cases h
def pTrim : List V → Heap → Option CR
  | [.p (.str s), .p (.str c)], H => if s.length ≤ 9223372036854775807 ∧ c.length < 4294967281 ∧ (c.all fun b => decide (b.toNat < 128)) = true then some ⟨.ret (.p (.str (Lib.trimS s c))), H, []⟩ else none
  | _, _ => none
theorem pTrim_ok {args : List V} {H : Heap} {cr : CR} (h : pTrim args H = some cr) : AbsCall PP GG F.strings_Trim args H cr := by
  unfold pTrim at h
  split at h
  · split at h
    · rename_i hc
      cases h
      exact strings_Trim _ _ hc.1 hc.2.1 (fun j b hb => by have := List.all_eq_true.1 hc.2.2 b (List.mem_of_getElem? hb); simpa using this) _
    · cases h
  · cases h
def pHasPrefix : List V → Heap → Option CR
  | [.p (.str s), .p (.str c)], H => some ⟨.ret (.p (.bool (Lib.hasPrefix s c))), H, []⟩
  | _, _ => none
theorem pHasPrefix_ok {args : List V} {H : Heap} {cr : CR} (h : pHasPrefix args H = some cr) : AbsCall PP GG F.strings_HasPrefix args H cr := by
  unfold pHasPrefix at h
  split at h
  · cases h
    exact strings_HasPrefix _ _ _
  · cases h
def pTrimPrefix : List V → Heap → Option CR
  | [.p (.str s), .p (.str c)], H => some ⟨.ret (.p (.str (Lib.trimPrefix s c))), H, []⟩
  | _, _ => none
theorem pTrimPrefix_ok {args : List V} {H : Heap} {cr : CR} (h : pTrimPrefix args H = some cr) : AbsCall PP GG F.strings_TrimPrefix args H cr := by
  unfold pTrimPrefix at h
  split at h
  · cases h
    exact strings_TrimPrefix _ _ _
  · cases h
def pReplaceAll : List V → Heap → Option CR
  | [.p (.str s), .p (.str a), .p (.str b)], H => if s.length < 4294967281 ∧ 1 ≤ a.length ∧ s.length + s.length * b.length ≤ 140737488355328 then some ⟨.ret (.p (.str (Lib.replaceAll s a b))), H, []⟩ else none
  | _, _ => none
theorem pReplaceAll_ok {args : List V} {H : Heap} {cr : CR} (h : pReplaceAll args H = some cr) : AbsCall PP GG F.strings_ReplaceAll args H cr := by
  unfold pReplaceAll at h
  split at h
  · split at h
    · rename_i hc
      cases h
      exact strings_ReplaceAll _ _ _ hc.1 hc.2.1 hc.2.2 _
    · cases h
  · cases h
def pSplit : List V → Heap → Option CR
  | [.p (.str s), .p (.str a)], H => if s.length < 4294967281 ∧ 1 ≤ a.length then some ⟨.ret (.p (.lst false ((Lib.split s a).map PV.str))), H, []⟩ else none
  | _, _ => none
theorem pSplit_ok {args : List V} {H : Heap} {cr : CR} (h : pSplit args H = some cr) : AbsCall PP GG F.strings_Split args H cr := by
  unfold pSplit at h
  split at h
  · split at h
    · rename_i hc
      cases h
      exact strings_Split _ _ hc.1 hc.2 _
    · cases h
  · cases h
theorem strconv_Atoi (s : Str) (hs : s.length ≤ 1073741824) (n : Int) (h : Lib.atoiAll s = .ok n) (H : Heap) : AbsCall PP GG F.strconv_Atoi [.p (.str s)] H ⟨.ret (.p (.tup [.int .i64 n, .nili])), H, []⟩ := by
  refine absBelow fun B L w vs _ ha hg => ?_
  obtain ⟨v, rfl, hv⟩ := vrel1 ha
  obtain rfl := vstr hv
  refine CallTo.of_calls Tryz.func97 (by kernel_rfl) rfl ((Tryz.strconv_Atoi_ok ⟨s.toArray⟩ (by simp [ByteArray.size]; omega) n (by simpa using h) w).mono ?_)
  rintro e w' ⟨rfl, hb⟩
  refine ⟨?_, _, rfl, .p _ _ (.tup _ [.int .i64 n, .nilIface] rfl fun i x y hx hy => ?_)⟩
  · first
      | exact hb
      | (rcases hb with rfl | ⟨t, rfl⟩
         · exact Below.refl _ _
         · exact Lib.bytesWorld_below _ _ _)
  · rcases i with _ | _ | i
    · cases hx; cases hy; exact .int _ _
    · cases hx; cases hy; exact .nili
    · simp at hx
def pAtoi : List V → Heap → Option CR
  | [.p (.str s)], H => match Lib.atoiAll s with
    | .ok n => if s.length ≤ 1073741824 then some ⟨.ret (.p (.tup [.int .i64 n, .nili])), H, []⟩ else none
    | _ => none
  | _, _ => none
theorem pAtoi_ok {args : List V} {H : Heap} {cr : CR} (h : pAtoi args H = some cr) : AbsCall PP GG F.strconv_Atoi args H cr := by
  unfold pAtoi at h
  split at h
  · split at h
    · rename_i hn
      split at h
      · rename_i hc
        cases h
        exact strconv_Atoi _ hc _ hn _
      · cases h
    · cases h
  · cases h
def polQ : Pol := { keepR := fun f => Nat.beq f F.slices_Clone_api_Value_api_Value || Nat.beq f F.slices_Clone_api_Pair_api_Pair || Nat.beq f F.slices_Delete_api_Value_api_Value || Nat.beq f F.slices_Delete_api_Pair_api_Pair, byref := fun f => Nat.beq f F.slices_Delete_api_Value_api_Value || Nat.beq f F.slices_Delete_api_Pair_api_Pair, mask := fun _ _ => none }
noncomputable abbrev exP (n : Nat) : CallF := (exN PP GG polQ (primOf [(F.internal_abi_NoEscape, pNoEscape), (F.strings_Compare, pCompare), (F.cmp_Compare_int, pCompareI), (F.strconv_Itoa, pItoa), (F.strings_Trim, pTrim), (F.strings_HasPrefix, pHasPrefix), (F.strings_TrimPrefix, pTrimPrefix), (F.strings_ReplaceAll, pReplaceAll), (F.strings_Split, pSplit), (F.strconv_Atoi, pAtoi)]) (drawA PP GG polQ) n).1
theorem exP_sound (n : Nat) : SoundC PP GG (exP n) := (exN_sound (pol := polQ) ngP (primOf_sound _ (by
  intro x hx
  simp only [List.mem_cons, List.mem_nil_iff, or_false] at hx
  rcases hx with rfl | rfl | rfl | rfl | rfl | rfl | rfl | rfl | rfl | rfl <;> intro args H cr h
  · exact pNoEscape_ok h
  · exact pCompare_ok h
  · exact pCompareI_ok h
  · exact pItoa_ok h
  · exact pTrim_ok h
  · exact pHasPrefix_ok h
  · exact pTrimPrefix_ok h
  · exact pReplaceAll_ok h
  · exact pSplit_ok h
  · exact pAtoi_ok h)) (drawA_sound mixP) n).1
theorem pathKnown_run : isT (exP 60 F.law5_PathKnown [] []) = true := by decide +kernel
theorem law5_PathKnown : AbsCall PP GG F.law5_PathKnown [] [] ⟨.ret (.p (.bool true)), [], []⟩ := exP_sound 60 _ _ _ _ (isT_spec pathKnown_run)
end Go.Proofs.YthkoefpidnphpaaGreatDoor
end

section
namespace Go.Am
open Go Go.RowKit
section
variable {H : Type} {enc : TypeId × Value → H} {P : Program} {W : World} {sp : Nat → Bool} {held : Bool}
structure RdE (W : World) (cs : List Value) (x : PV) : Prop where
  len : x.cells.length = cs.length
  leaf : ∀ c ∈ x.cells, c.leaf = true
  rel : ∀ (i : Nat) a b, x.cells[i]? = some a → cs[i]? = some b → PRel (fun _ => False) W a b
theorem RdE.one {x : PV} {v : Value} (hx : x.cells = [x]) (hl : x.leaf = true) (h : PRel (fun _ => False) W x v) : RdE W [v] x := by
  refine ⟨by rw [hx]; rfl, fun c hc => ?_, fun i a b ha hb => ?_⟩
  · rw [hx, List.mem_singleton] at hc; subst hc; exact hl
  · rw [hx] at ha
    cases i with
    | zero => simp at ha hb; subst ha; subst hb; exact h
    | succ i => simp at ha
theorem add_zero (a : Addr) : a.add 0 = a := by unfold Addr.add; rw [if_pos rfl]
theorem RdE.append {c1 c2 : List Value} {l1 l2 : List PV} (h1 : RdE W c1 (.agg l1)) (h2 : RdE W c2 (.agg l2)) : RdE W (c1 ++ c2) (.agg (l1 ++ l2)) := by
  have e1 : l1.length = c1.length := h1.len
  have e2 : l2.length = c2.length := h2.len
  refine ⟨by show (l1 ++ l2).length = _; simp [e1, e2], fun c hc => ?_, fun i a b ha hb => ?_⟩
  · rcases List.mem_append.1 hc with h | h
    · exact h1.leaf c h
    · exact h2.leaf c h
  · change (l1 ++ l2)[i]? = some a at ha
    by_cases hi : i < l1.length
    · rw [List.getElem?_append_left hi] at ha
      rw [List.getElem?_append_left (by omega)] at hb
      exact h1.rel i a b ha hb
    · rw [List.getElem?_append_right (by omega)] at ha
      rw [List.getElem?_append_right (by omega)] at hb
      exact h2.rel (i - l1.length) a b ha (by rw [e1]; exact hb)
theorem RdE.cells {c : List Value} {x : PV} (h : RdE W c x) : RdE W c (.agg x.cells) := ⟨h.len, h.leaf, h.rel⟩
theorem RdE.value {cs : List Value} {l : List PV} (h : RdE W cs (.agg l)) {v : Value} (hv : v = .agg cs.toArray) : PRel (fun _ => False) W (.agg l) v := by
  subst hv
  exact .agg l cs h.len h.rel
end
end Go.Am
end

section
namespace Go.Proofs.YthkoefpidnphpaaGreatDoor
open Go Go.Am Go.RowKit
set_option maxRecDepth 100000
section
variable {H : Type} {enc : TypeId × Value → H} {W : World} {sp : Nat → Bool} {held : Bool}
end
end Go.Proofs.YthkoefpidnphpaaGreatDoor
end

section
namespace Go.Proofs.YthkoefpidnphpaaGreatDoor
open Go Go.Am Go.RowKit
set_option maxRecDepth 100000
theorem sentinel {W : World} {name : String} {g : Nat} {text : List UInt8} (hg : PP.globalNamed name = some g) (ht : (PP.globals[g]?).map (·.type) = some T.error)
    (h : laidMet PP [(name, .iface "*errors.errorString" (.ptr (.agg [.lit (.string text)])))] W) :
    PRel (fun _ => False) W (.cptr (.iface T.ptr_errors_errorString .anyp)) (.pointer (some ⟨g, 0, none⟩)) ∧ ∃ c t fr, W.heap[g]? = some (.cells c t fr) ∧ c.size = 1 := by
  obtain ⟨ps, hv, _, hok⟩ := h
  obtain ⟨g', t, cs, fuel, p, q, h1, h2, h3, h4, _, rfl⟩ := hv
  rw [hg] at h1
  cases h1
  rw [ht] at h2
  cases h2
  unfold World.var? at h3
  rw [hg] at h3
  simp only [Option.bind_some] at h3
  split at h3
  case h_2 => cases h3
  rename_i cs' t' fr hw
  cases h3
  have hcell : ∀ u v, cs.toList = [.iface u v] → Value.okWide PP W .any 0 u v := by
    intro u v he
    have hcs : cs = #[.iface u v] := by apply Array.ext'; simpa using he
    subst hcs
    refine (hok g 0 ?_).2 u v ?_
    · simp [MemPlace.row]
    · unfold World.cell?
      rw [hw]
      simp
  obtain ⟨a, s, he, _⟩ := errorString_of_trod (ti := T.error) (tp := T.ptr_errors_errorString) (te := T.errors_errorString) (ts := T.string) Tryz.underlying105
    (typeName_ptr_named (nm := "errors.errorString") (by kernel_rfl) (by kernel_rfl) (by decide)) Tryz.underlying219 Tryz.underlying221 rfl rfl Tryz.underlying9 (by kernel_rfl) (by kernel_rfl) h4 hcell
  have hcs : cs = #[.iface T.ptr_errors_errorString (.pointer (some a))] := by apply Array.ext'; simpa using he
  subst hcs
  refine ⟨.cptr _ g 0 (fun _ => .iface T.ptr_errors_errorString (.pointer (some a))) (fun h => h) (Array.getElem?_eq_some_iff.1 hw).1 (fun x hx => ?_) (fun k hk => ?_) (fun k x hx => ?_), _, _, _, hw, rfl⟩
  · simp only [PV.cells, List.mem_singleton] at hx; subst hx; rfl
  · simp only [PV.cells, List.length_singleton] at hk
    have : k = 0 := by omega
    subst this
    unfold World.cell?
    rw [hw]
    simp
  · cases k with
    | zero => simp only [PV.cells, List.getElem?_cons_zero, Option.some.injEq] at hx; subst hx; exact .iface _ _ _ (.anyp _)
    | succ k => simp [PV.cells] at hx
theorem gPowType : (PP.globals[Gl.internal_strconv_uint64pow10]?).map (·.type) = some T.arr20_uint64 := by kernel_rfl
theorem maxLen_gok {W : World} (h : W.ShapedOpen PP) : PRel (fun _ => False) W (.cptr (.anyi .i64)) (.pointer (some ⟨Gl.internal_bytealg_MaxLen, 0, none⟩)) ∧ ∃ c t fr, W.heap[Gl.internal_bytealg_MaxLen]? = some (.cells c t fr) ∧ c.size = (PV.anyi .i64).cells.length := by
  obtain ⟨m, hm⟩ := cell_of_shapedOpen_int (P := PP) (g := Gl.internal_bytealg_MaxLen) (zero := #[.int .i64 0]) (t := T.int) h (of_decide_eq_true (by kernel_rfl)) (by kernel_rfl) rfl (by kernel_rfl) (by kernel_rfl) Tryz.underlying3
  obtain ⟨cs, hh, hs, _⟩ := h.1 Gl.internal_bytealg_MaxLen #[.int .i64 0] T.int (of_decide_eq_true (by kernel_rfl)) (by kernel_rfl)
  have hw : Gl.internal_bytealg_MaxLen < W.heap.size := (Array.getElem?_eq_some_iff.1 hh).1
  refine ⟨.cptr _ _ _ (fun _ => .int .i64 m) (fun h => h) hw (fun x hx => by rw [List.mem_singleton.1 hx]; rfl) (fun k hk => ?_) (fun k x hx => ?_), cs, _, _, hh, hs⟩
  · obtain rfl : k = 0 := by simp [PV.cells] at hk; exact hk
    exact hm
  · rcases k with _ | k
    · simp [PV.cells] at hx; subst hx; exact .anyi .i64 m
    · simp [PV.cells] at hx
theorem gok_of {W : World} {l : List (String × DataW Unit)} (h : laidMetH PP l W) (hS : W.ShapedOpen PP)
    (h1 : l.filter (fun x => x.1 == "internal/strconv.uint64pow10") = [("internal/strconv.uint64pow10", Lib.tabData .u64 Lib.pow10Tab)])
    (h2 : l.filter (fun x => x.1 == "strconv.ErrSyntax") = [("strconv.ErrSyntax", Rows.laid_strconv_ErrSyntax)])
    (h3 : l.filter (fun x => x.1 == "strconv.ErrRange") = [("strconv.ErrRange", Rows.laid_strconv_ErrRange)]) : GOk GG (fun _ => False) W := by
  intro g d hd
  unfold GG at hd
  split at hd
  · rename_i hg
    have hg := Nat.eq_of_beq_eq_true hg
    subst hg
    cases hd
    have q := laidMetH.filter (fun x => x.1 == "internal/strconv.uint64pow10") h
    rw [h1] at q
    have q : laidMet PP [("internal/strconv.uint64pow10", Lib.tabData .u64 Lib.pow10Tab)] W := q
    have := tab_gok (Lib.tabIs_of_head (n := 20) (e := T.uint64) (rest := []) gPow gPowType (by kernel_rfl) (by kernel_rfl) (by kernel_rfl) (by kernel_rfl) q) gPow
    rw [pow10_lit] at this
    exact this
  · split at hd
    · rename_i hg
      have hg := Nat.eq_of_beq_eq_true hg
      subst hg
      cases hd
      have q := laidMetH.filter (fun x => x.1 == "strconv.ErrSyntax") h
      rw [h2] at q
      exact sentinel (name := "strconv.ErrSyntax") (by kernel_rfl) (by kernel_rfl) q
    · split at hd
      · rename_i hg
        have hg := Nat.eq_of_beq_eq_true hg
        subst hg
        cases hd
        have q := laidMetH.filter (fun x => x.1 == "strconv.ErrRange") h
        rw [h3] at q
        exact sentinel (name := "strconv.ErrRange") (by kernel_rfl) (by kernel_rfl) q
      · split at hd
        · rename_i hg
          have hg := Nat.eq_of_beq_eq_true hg
          subst hg
          cases hd
          exact maxLen_gok hS
        · cases hd
theorem stNil (W : World) : St (fun _ => False) ⟨fun _ => 0, fun _ => 0, fun _ => 0⟩ W [] :=
  ⟨fun n => by simp [Heap.at]; exact .dead, fun n h => by simp [Heap.at, HO.live] at h, fun n m h => by simp [Heap.at, HO.live] at h, fun b h => h.elim⟩
theorem law_call {f : FuncId} {fn : Func} (hf : PP.funcs[f]? = some fn) (hb : fn.body.isSome = true) {ds : List PV} {vs : List Value} {W : World} (hlen : ds.length = vs.length) (hr : ∀ (i : Nat) x y, ds[i]? = some x → vs[i]? = some y → PRel (fun _ => False) W x y)
    (hG : GOk GG (fun _ => False) W) (h : AbsCall PP GG f (ds.map V.p) [] ⟨.ret (.p (.bool true)), [], []⟩) :
    Calls PP f vs.toArray W fun e w' => e = .returned (.bool true) ∧ Below W.heap.size W w' := by
  have := h (fun _ => False) ⟨fun _ => 0, fun _ => 0, fun _ => 0⟩ W vs (stNil W) ⟨by simpa using hlen, fun i x y hx hy => by
    rw [List.getElem?_map, Option.map_eq_some_iff] at hx
    obtain ⟨d, hd, rfl⟩ := hx
    exact .p _ _ (hr i d y hd hy)⟩ hG
  obtain ⟨c, hb⟩ := Option.isSome_iff_exists.1 hb
  refine (CallTo.calls hf (ngP f fn hf) hb this).mono ?_
  rintro e w' ⟨B', L', hfs, _, ho⟩
  refine ⟨?_, below_of_FS hfs⟩
  unfold OutRel at ho
  split at ho
  · rename_i r v h1; cases h1; cases ho.of_p; rfl
  · rename_i h1; cases h1
  · exact ho.elim
end Go.Proofs.YthkoefpidnphpaaGreatDoor
end

section
namespace Go.Proofs.YthkoefpidnphpaaGreatDoor
open Go.ChangeShapes Go.WideShapes Go.ChangeAt Go.RowKit Go.Am
set_option maxRecDepth 100000
theorem own : ownKnob PP.godebug = none := by kernel_rfl
theorem bulk_append {H : Type} (l r : List (DataW H)) : Rows.uptoBulkAll (l ++ r) = Rows.uptoBulkAll l + Rows.uptoBulkAll r := by
  induction l with
  | nil => simp [Rows.uptoBulkAll]
  | cons x l ih => simp only [List.cons_append, Rows.uptoBulkAll, ih]; omega
theorem pathKnown_contract (H : Type) (enc : TypeId × Value → H) (W : World) (base : Nat) (args : Array Value) (ds gs : List (DataW H)) (before : List MemPlace)
    (hval : ∀ (j : Nat) t v, Tryz.f6.params[j]? = some t → args[j]? = some v → Value.okWide PP W .any base t v)
    (hW : DataW.Whole enc PP Tryz.f6.params.toList Rows.pathKnownSpec.vars false W args.toList ds gs before) (hL : laidMetH PP Rows.pathKnownRow.laid W) (hS : W.ShapedOpen PP) (hk : Rows.uptoBulkAll ds ≤ 1048576) :
    Calls PP F.law5_PathKnown args W fun e W' => ∃ v, e = .returned v ∧ Rows.pathKnownSpec.post enc PP Tryz.f6 false true false false W args v W' := by
  have hW' := hW
  have hlt := hW.lt
  obtain ⟨p, q, hA0, hV, rfl, hfz, hnd⟩ := hW
  have hA : DataW.TrodAll enc PP W 0 (fun _ => true) true Tryz.f6.params.toList args.toList ds p := hA0
  rw [Tryz.params6] at hA
  obtain ⟨hargs, rfl, rfl⟩ := trodAll_nil hA
  obtain rfl : args = #[] := by cases args; simp_all
  obtain ⟨rfl, rfl⟩ := trodVars_none hV
  clear hA0
  refine (law_call (f := F.law5_PathKnown) (ds := []) (vs := []) Tryz.func6 (by kernel_rfl) rfl (fun i x y hx hy => ?_) (gok_of hL hS (by rw [pow10_lit]; rfl) rfl rfl) (law5_PathKnown  )).mono fun e W1 ⟨he, hb⟩ => ?_
  · simp at hx
  · subst he
    have b := Tryz.underlying4
    exact ⟨_, rfl, post_of_below (pa := []) (pv := []) hW' (fun _ _ _ => trodAll_cons_mk (shut_bool b _) trodAll_mk0)
      (fun sp hs => trodAll_mk0 )
      (fun _ _ => rfl) (by simp) hb (ok_one (by kernel_rfl) rfl (okWide_bool_mk b _))⟩
theorem pathKnown_reads (os : Os) {H : Type} (enc : TypeId × Value → H) : ∃ places, DataW.whole enc PP ((World.laidAll PP os Rows.pathKnownUptoRow.laid).forCall (fun _ _ => 0) ⟨#[], #[], []⟩).memory Tryz.f6.params.toList Rows.pathKnownSpec.vars false (#[] : Array Value).toList 8 = some ([], [], places) :=
  ⟨[], by kernel_rfl⟩
theorem pathKnown_lifted (os : Os) (started : os.Started) (H : Type) (enc : TypeId × Value → H) (Fi : Stop.Interp) :
    ReturnsInHanded {} Tryz.checked os F.law5_PathKnown .any ((Rows.OpenSpec.upto Rows.pathKnownSpec).preRow enc PP Tryz.f6 Rows.pathKnownUptoRow.domain false Rows.pathKnownUptoRow.laid) (((Rows.OpenSpec.upto Rows.pathKnownSpec).at Fi).post enc PP Tryz.f6 false true false false) := by
  obtain ⟨places, hx⟩ := pathKnown_reads os enc
  refine returnsInHanded_of_row (C := Tryz.checked) (s := Rows.OpenSpec.upto Rows.pathKnownSpec) own started (by kernel_rfl) Tryz.func6
    (witness_row_atRef (enc := enc) (C := Tryz.checked) false (World.laidAll PP os Rows.pathKnownUptoRow.laid) #[] (World.laidAll_os _ _ _) (by kernel_rfl) (by kernel_rfl) (by kernel_rfl)
      (OpenSpec.preRow_of_cond 8 hx (by kernel_rfl) (fun k hk => by cases hk; kernel_rfl) (by kernel_rfl) (laidMet_laidAll _ (by kernel_rfl) (by kernel_rfl)))) ?_
  intro W base args ds gs before hval hW _ hcond _ hL hS _
  have hk := of_decide_eq_true (hcond _ rfl)
  refine pathKnown_contract H enc W base args ds gs before hval hW hL hS (Nat.le_trans ?_ hk)
  rw [bulk_append]
  exact Nat.le_add_right _ _
theorem pathKnown_said : Rows.PathKnownUptoSaid :=
  OpenClaim.holds_of_cond F.law5_PathKnown Tryz.f6 rfl rfl rfl rfl rfl rfl rfl ⟨rfl, rfl, rfl, rfl, rfl⟩ rfl rfl rfl rfl rfl (by kernel_rfl) Tryz.func6 (by kernel_rfl)
    (of_decide_eq_true (by kernel_rfl)) (by unfold Func.isWrapper; first | (rw [if_pos (by decide +kernel)]; kernel_rfl) | (rw [if_neg (by decide +kernel)]; exact ⟨rfl, rfl⟩))
    (fun os started H enc _ Fi => by rw [OpenClaim.pre_eq_preRow]; exact pathKnown_lifted os started H enc Fi)
theorem pathKnown_plain (f : FuncId) (fn : Func) (hf : Tryz.pinned.checked.prog.funcNamed "dragoman/dragomanlaw5.PathKnown" = some f) (hfn : Tryz.pinned.checked.prog.funcs[f]? = some fn) :
    true = Tryz.pinned.checked.prog.looks [] ∧ ∀ (j : Nat) t, fn.params[j]? = some t → Tryz.pinned.checked.prog.wantsStandIn t = false := by
  obtain rfl : f = F.law5_PathKnown := Option.some.inj ((show PP.funcNamed "dragoman/dragomanlaw5.PathKnown" = some F.law5_PathKnown by kernel_rfl).symm.trans hf) |>.symm
  obtain rfl : fn = Tryz.f6 := (Option.some.inj (Tryz.func6.symm.trans hfn)).symm
  refine ⟨by kernel_rfl, fun j t ht => ?_⟩
  rw [Tryz.params6] at ht
  simp at ht
theorem pathKnown_card : Rows.PathKnownUptoCardSaid :=
  Claim7.holds_tied_plain_at .later [] _ _ _ _ pathKnown_said (fun _ h => by cases h) (by kernel_rfl) (fun _ h => by cases h) pathKnownUpto_row_tie rfl ⟨rfl, rfl⟩ (by kernel_rfl) rfl pathKnown_plain (by kernel_rfl)
end Go.Proofs.YthkoefpidnphpaaGreatDoor
end
