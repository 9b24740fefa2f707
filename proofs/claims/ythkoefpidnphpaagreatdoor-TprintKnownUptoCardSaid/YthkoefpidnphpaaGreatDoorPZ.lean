/-
TprintKnown: the closed test, evaluated by an abstract machine.
What code wants and gives; loops; functions.
What a function wants and gives.
The numbers of the functions, types and variables of this seat's program, by name; printed by a program of this work.
The machine at this seat's program: what is known of the package's variables; the library's functions that are met by a contract.
The library's functions that are met by a contract: what does not escape.
The machine at this seat: the library's functions that are met by a contract.
The contract of strconv.FormatInt, laid at this seat's program in plain words by the kit's tool.
strconv.FormatInt, met by a contract.
strconv.FormatInt for the machine.
Three arguments.
More of the library's contracts that this seat's proofs use (strconv.ParseInt), laid at its program in plain words by the kit's tool.
Trees of values, as data of the machine.
Bits of numbers that are not below nought.
Letters in bytes, as the program has them.
strconv.ParseInt, met by a contract.
strconv.ParseInt for the machine.
The contract of strings.TrimLeft at an ASCII set, laid at this seat's program in plain words by the kit's tool.
strings.TrimLeft at an ASCII set, met by a contract.
strings.TrimLeft for the machine.
The contract of strings.Join, laid at this seat's program in plain words by the kit's tool.
strings.Join, met by a contract; for the machine.
What all statements of tprint ask first: evaluated.
TprintKnown: evaluated.
From what a row says of its arguments to what the machine knows of them: numbers, letters, lists, structs.
The reference's letters are the program's.
Numbers' texts, as the reference has them.
How values are written.
How strings are written.
Which trees may be, as the reference says.
How trees are written.
What a row says of an argument that is a tree.
What a row's list of variables gives.
What all rows need.
What rows need of arguments that are strings, whole numbers, bools.
The row of TprintKnown.
-/
import Derived.Test.YthkoefpidnphpaaGreatDoorPE
import Derived.Test.YthkoefpidnphpaaGreatDoorProg
import Derived.KernelRfl
import Derived.Lib.AppendIntMem
import Derived.Test.YthkoefpidnphpaaGreatDoorPD
import Derived.Shelf.Strconv.Itoa4
import Derived.Shelf.Strconv.ParseIntPublic10
import Derived.Lib.AtoiErrMem
import Derived.Shelf.Strings.SlTrimAscii
import Derived.Shelf.Strings.OnBuilder
import Derived.ChangeAnyMap
import Derived.Lib.ItoaLen
import Derived.Lib.Repeat
import Derived.Test.YthkoefpidnphpaaGreatDoorRows
import Derived.Shelf.Vars
import Derived.LaidLaws
import Derived.LaidSub
import Derived.Lib.LaidTab
import Derived.Deep.DeepHandedRow
import Derived.Test.YthkoefpidnphpaaGreatDoorCards
import Derived.Test.YthkoefpidnphpaaGreatDoorTie
import Derived.WalkKit
import Derived.ProofKit
import Derived.OpenShut
import Derived.Deep.DeepWitnessRowRef
import Derived.MakeChecks
import Derived.Carry
import Derived.Lay

section
namespace Go.Am
open Go
section
variable (P : Program) (G : Nat → Option PV) (pol : Pol) (n k : Nat)
structure LoopW (b : Code) (σ : Env) (H : Heap) (mv : List Nat) (K : Post) : Prop where
  sound : Bdd n σ → ∀ {B : Nat → Prop} {L : Loc} {w : World} {a : Act}, St B L w H → ERel B L w (toEnv n σ) a.tmps → GOk G B w → ∀ {Q : Exit → Act → World → Prop}, (∀ e a' w', PostAt n k B L w H mv a.defers K e a' w' → Q e a' w') → LoopWp P b Q a w
def firstId : Code → Option Nat
  | .region id _ _ => some id
  | .seq a _ => firstId a
  | .block _ b => firstId b
  | .loop b => firstId b
  | _ => none
structure CutW (b : Code) (σ : Env) (H : Heap) (mv : List Nat) (K : Post) : Prop where
  sound : Bdd n σ → ∀ {B : Nat → Prop} {L : Loc} {w : World} {a : Act}, St B L w H → ERel B L w (toEnv n σ) a.tmps → GOk G B w → ∀ {Q : Exit → Act → World → Prop}, (∀ e a' w', PostAt n k B L w H mv a.defers K e a' w' → Q e a' w') → b.wp P Q a w
def W : Code → Env → Heap → List Nat → Post → Prop
  | .skip, σ, H, mv, K => K .normal σ H mv
  | .label _, σ, H, mv, K => K .normal σ H mv
  | .region _ ops draw, σ, H, mv, K => match draw with
    | false => spineK (List.range ops.size) fun l => opsW P G pol n k ops.toList l σ H mv K
    | true => regionW P G pol n k ops σ H mv K
  | .seq a b, σ, H, mv, K => W a σ H mv fun ex σ H mv => match ex with
    | .normal => match pol.cut (firstId b) with
      | true => CutW P G n k b σ H mv K
      | false => W b σ H mv K
    | ex => K ex σ H mv
  | .cond c a b, σ, H, mv, K => match evS G σ c with
    | .p (.bool t) => Br t (W a σ H mv K) (W b σ H mv K)
    | _ => False
  | .block id b, σ, H, mv, K => W b σ H mv fun ex σ H mv => match ex with
    | .exit j => match Nat.beq j id with
      | true => K .normal σ H mv
      | false => K (.exit j) σ H mv
    | ex => K ex σ H mv
  | .loop b, σ, H, mv, K => LoopW P G n k b σ H mv K
  | .exit id, σ, H, mv, K => K (.exit id) σ H mv
  | .ret, σ, H, mv, K => K .ret σ H mv
  | _, _, _, _, _ => False
end
section
variable {P : Program} {G : Nat → Option PV} {pol : Pol} {n k : Nat}
theorem W_sound (hm : P.follows .mixedOrders = true) : ∀ (c : Code) {σ : Env} {H : Heap} {mv : List Nat} {K : Post}, W P G pol n k c σ H mv K → Bdd n σ → ∀ {B : Nat → Prop} {L : Loc} {w : World} {a : Act}, St B L w H → ERel B L w (toEnv n σ) a.tmps → GOk G B w →
    ∀ {Q : Exit → Act → World → Prop}, (∀ e a' w', PostAt n k B L w H mv a.defers K e a' w' → Q e a' w') → c.wp P Q a w := by
  intro c
  induction c with
  | skip =>
    intro σ H mv K h hb B L w a hst he hg Q hQ
    exact wp_skip (hQ _ _ _ ⟨.normal, σ, H, mv, h, hb, B, L, FS.refl _ _ _ _ _ _, he, hst, rfl, rfl, trivial⟩)
  | label l =>
    intro σ H mv K h hb B L w a hst he hg Q hQ
    exact wp_label (hQ _ _ _ ⟨.normal, σ, H, mv, h, hb, B, L, FS.refl _ _ _ _ _ _, he, hst, rfl, rfl, trivial⟩)
  | region id ops draw =>
    intro σ H mv K h hb B L w a hst he hg Q hQ
    cases draw with
    | false =>
      simp only [W, spineK_eq] at h
      exact wp_region (opsW_sound _ hb h hst he hg hQ)
    | true => exact regionW_sound hm hb h hst he hg hQ
  | seq x y ihx ihy =>
    intro σ H mv K h hb B L w a hst he hg Q hQ
    refine wp_seq ?_
    refine ihx h hb hst he hg fun e a1 w1 hp => ?_
    obtain ⟨ex, σ1, H1, mv1, hK, hb1, B1, L1, hfs, he1, hst1, hk1, hd1, hm1⟩ := hp
    cases ex with
    | normal =>
      cases e with
      | normal =>
        simp only [] at hK
        split at hK
        · refine hK.sound hb1 hst1 he1 (hg.step (hfs.step hst)) fun e a2 w2 hp2 => hQ e a2 w2 ?_
          rw [hd1] at hp2
          exact PostAt.trans hfs hp2
        · refine ihy hK hb1 hst1 he1 (hg.step (hfs.step hst)) fun e a2 w2 hp2 => hQ e a2 w2 ?_
          rw [hd1] at hp2
          exact PostAt.trans hfs hp2
      | _ => exact hm1.elim
    | _ =>
      cases e with
      | normal => exact hm1.elim
      | _ => exact hQ _ _ _ ⟨_, σ1, H1, mv1, hK, hb1, B1, L1, hfs, he1, hst1, hk1, hd1, hm1⟩
  | cond c x y ihx ihy =>
    intro σ H mv K h hb B L w a hst he hg Q hQ
    unfold W at h
    split at h
    · rename_i t hc
      have hv := evalO_sound he hg c
      rw [evS_eq hb, hc] at hv
      have hp := hv.of_p
      generalize hq : a.eval c = q at hp
      cases hp
      refine wp_cond hq ?_
      cases ht : t with
      | true => rw [if_pos rfl]; exact ihx (h.t ht) hb hst he hg hQ
      | false => rw [if_neg (by simp)]; exact ihy (h.f ht) hb hst he hg hQ
    · exact h.elim
  | block id b ih =>
    intro σ H mv K h hb B L w a hst he hg Q hQ
    refine wp_block ?_
    refine ih h hb hst he hg fun e a1 w1 hp => ?_
    obtain ⟨ex, σ1, H1, mv1, hK, hb1, B1, L1, hfs, he1, hst1, hk1, hd1, hm1⟩ := hp
    cases ex with
    | exit j =>
      cases e with
      | exit i =>
        have hji : j = i := hm1
        subst hji
        simp only [] at hK
        simp only [Exit.inBlock]
        split at hK
        · rename_i hb'
          rw [if_pos (Nat.eq_of_beq_eq_true hb')]
          exact hQ _ _ _ ⟨.normal, σ1, H1, mv1, hK, hb1, B1, L1, hfs, he1, hst1, hk1, hd1, trivial⟩
        · rename_i hb'
          rw [if_neg (fun e => by rw [e] at hb'; simp at hb')]
          exact hQ _ _ _ ⟨.exit j, σ1, H1, mv1, hK, hb1, B1, L1, hfs, he1, hst1, hk1, hd1, rfl⟩
      | _ => exact hm1.elim
    | _ =>
      cases e with
      | exit i => exact hm1.elim
      | _ => exact hQ _ _ _ ⟨_, σ1, H1, mv1, hK, hb1, B1, L1, hfs, he1, hst1, hk1, hd1, hm1⟩
  | loop b ih =>
    intro σ H mv K h hb B L w a hst he hg Q hQ
    exact (h.sound hb hst he hg hQ).loop
  | exit id =>
    intro σ H mv K h hb B L w a hst he hg Q hQ
    exact wp_exit (hQ _ _ _ ⟨.exit id, σ, H, mv, h, hb, B, L, FS.refl _ _ _ _ _ _, he, hst, rfl, rfl, rfl⟩)
  | ret =>
    intro σ H mv K h hb B L w a hst he hg Q hQ
    exact wp_ret (hQ _ _ _ ⟨.ret, σ, H, mv, h, hb, B, L, FS.refl _ _ _ _ _ _, he, hst, rfl, rfl, trivial⟩)
  | _ =>
    intro σ H mv K h
    exact h.elim
theorem LoopW.round (hm : P.follows .mixedOrders = true) {b : Code} {σ : Env} {H : Heap} {mv : List Nat} {K : Post}
    (h : W P G pol n k b σ H mv fun ex σ' H' mv' => match ex with
      | .normal => LoopW P G n k b σ' H' mv' K
      | ex => K ex σ' H' mv') : LoopW P G n k b σ H mv K := by
  refine ⟨fun hb B L w a hst he hg Q hQ => LoopWp.round ?_⟩
  refine W_sound hm b h hb hst he hg fun e a1 w1 hp => ?_
  obtain ⟨ex, σ1, H1, mv1, hK, hb1, B1, L1, hfs, he1, hst1, hk1, hd1, hm1⟩ := hp
  cases ex with
  | normal =>
    cases e with
    | normal =>
      refine hK.sound hb1 hst1 he1 (hg.step (hfs.step hst)) fun e a2 w2 hp2 => hQ e a2 w2 ?_
      rw [hd1] at hp2
      exact PostAt.trans hfs hp2
    | _ => exact hm1.elim
  | _ =>
    cases e with
    | normal => exact hm1.elim
    | _ => exact hQ _ _ _ ⟨_, σ1, H1, mv1, hK, hb1, B1, L1, hfs, he1, hst1, hk1, hd1, hm1⟩
def VLe (v u : V) : Prop := ∀ (B : Nat → Prop) (L : Loc) (w : World) (x : Value), VRel B L w v x → VRel B L w u x
theorem VLe.refl (v : V) : VLe v v := fun _ _ _ _ h => h
theorem VLe.trans {a b c : V} (h : VLe a b) (g : VLe b c) : VLe a c := fun B L w x hx => g B L w x (h B L w x hx)
theorem VLe.junk (v : V) : VLe v .junk := fun _ _ _ x _ => .junk x
def PLe (d e : PV) : Prop := ∀ (B : Nat → Prop) (w : World) (x : Value), PRel B w d x → PRel B w e x
theorem PLe.refl (d : PV) : PLe d d := fun _ _ _ h => h
theorem PLe.trans {a b c : PV} (h : PLe a b) (g : PLe b c) : PLe a c := fun B w x hx => g B w x (h B w x hx)
theorem PLe.p {d e : PV} (h : PLe d e) : VLe (.p d) (.p e) := fun B _ w x hx => .p _ _ (h B w x hx.of_p)
theorem PLe.nils (ex : Bool) : PLe .nils (.lst ex []) := fun B w x h => by cases h; exact .lst0 ex none 0 (fun _ => rfl)
theorem PLe.lst (ex : Bool) (l : List PV) : PLe (.lst ex l) (.lst false l) := fun B w x h => by
  cases h with
  | lst0 ex a cap he => exact .lst0 false a cap (fun e => by cases e)
  | lst ex l b o cap sz u hb hw hz hs hf hcap he hc hr => exact .lst false l b o cap sz u hb hw hz hs hf hcap (fun e => by cases e) hc hr
def LeL : List PV → List PV → Prop
  | [], [] => True
  | d :: l, e :: m => PLe d e ∧ LeL l m
  | _, _ => False
theorem LeL.refl : ∀ (l : List PV), LeL l l
  | [] => trivial
  | d :: l => ⟨PLe.refl d, LeL.refl l⟩
theorem LeL.spec : ∀ {l m : List PV}, LeL l m → l.length = m.length ∧ ∀ (i : Nat) d e, l[i]? = some d → m[i]? = some e → PLe d e
  | [], [], _ => ⟨rfl, fun i d e h => by simp at h⟩
  | d :: l, e :: m, h => by
    obtain ⟨h1, h2⟩ := LeL.spec h.2
    refine ⟨by simp [h1], fun i x y hx hy => ?_⟩
    cases i with
    | zero => simp at hx hy; subst hx; subst hy; exact h.1
    | succ i => exact h2 i x y (by simpa using hx) (by simpa using hy)
  | [], _ :: _, h => h.elim
  | _ :: _, [], h => h.elim
theorem PLe.agg {l m : List PV} (h : LeL l m) : PLe (.agg l) (.agg m) := fun B w x hx => by
  obtain ⟨h1, h2⟩ := h.spec
  cases hx with
  | agg l c hl hr =>
    refine .agg m c (by omega) fun i e y he hy => ?_
    have hi : i < l.length := by have := (List.getElem?_eq_some_iff.1 he).1; omega
    exact h2 i l[i] e (by simp [hi]) he B w y (hr i l[i] y (by simp [hi]) hy)
theorem PLe.tup {l m : List PV} (h : LeL l m) : PLe (.tup l) (.tup m) := fun B w x hx => by
  obtain ⟨h1, h2⟩ := h.spec
  cases hx with
  | tup l c hl hr =>
    refine .tup m c (by omega) fun i e y he hy => ?_
    have hi : i < l.length := by have := (List.getElem?_eq_some_iff.1 he).1; omega
    exact h2 i l[i] e (by simp [hi]) he B w y (hr i l[i] y (by simp [hi]) hy)
def VLeL : List V → List V → Prop
  | [], [] => True
  | d :: l, e :: m => VLe d e ∧ VLeL l m
  | _, _ => False
theorem VLeL.refl : ∀ (l : List V), VLeL l l
  | [] => trivial
  | d :: l => ⟨VLe.refl d, VLeL.refl l⟩
theorem VLeL.spec : ∀ {l m : List V}, VLeL l m → l.length = m.length ∧ ∀ (i : Nat) d e, l[i]? = some d → m[i]? = some e → VLe d e
  | [], [], _ => ⟨rfl, fun i d e h => by simp at h⟩
  | d :: l, e :: m, h => by
    obtain ⟨h1, h2⟩ := VLeL.spec h.2
    refine ⟨by simp [h1], fun i x y hx hy => ?_⟩
    cases i with
    | zero => simp at hx hy; subst hx; subst hy; exact h.1
    | succ i => exact h2 i x y (by simpa using hx) (by simpa using hy)
  | [], _ :: _, h => h.elim
  | _ :: _, [], h => h.elim
theorem VLe.tup {l m : List V} (h : VLeL l m) : VLe (.tup l) (.tup m) := fun B L w x hx => by
  obtain ⟨h1, h2⟩ := h.spec
  cases hx with
  | tup l c hl hr =>
    refine .tup m c (by omega) fun i e y he hy => ?_
    have hi : i < l.length := by have := (List.getElem?_eq_some_iff.1 he).1; omega
    exact h2 i l[i] e (by simp [hi]) he B L w y (hr i l[i] y (by simp [hi]) hy)
theorem VLeL.rel {l m : List V} (h : VLeL l m) {B : Nat → Prop} {L : Loc} {w : World} {c : List Value} (hr : VRelL B L w l c) : VRelL B L w m c := by
  obtain ⟨h1, h2⟩ := h.spec
  refine ⟨by have := hr.1; omega, fun i e y he hy => ?_⟩
  have hi : i < l.length := by have := (List.getElem?_eq_some_iff.1 he).1; omega
  exact h2 i l[i] e (by simp [hi]) he B L w y (hr.2 i l[i] y (by simp [hi]) hy)
structure HLe (H H' : Heap) : Prop where
  rel : ∀ (n : Nat) (B : Nat → Prop) (L : Loc) (w : World), HRel B L w n (Heap.at H n) → HRel B L w n (Heap.at H' n)
  live : ∀ n, (Heap.at H' n).live → (Heap.at H n).live
  len : H.length = H'.length
theorem HLe.refl (H : Heap) : HLe H H := ⟨fun _ _ _ _ h => h, fun _ h => h, rfl⟩
theorem St.le {B : Nat → Prop} {L : Loc} {w : World} {H H' : Heap} (h : HLe H H') (hst : St B L w H) : St B L w H' :=
  ⟨fun n => h.rel n B L w (hst.rel n), fun n hl => hst.own n (h.live n hl), fun n m hn hm e => hst.inj n m (h.live n hn) (h.live m hm) e, hst.bnd⟩
inductive OutLe : Out → Out → Prop
  | ret {v u : V} (h : VLe v u) : OutLe (.ret v) (.ret u)
  | pan {v u : V} (h : VLe v u) : OutLe (.pan v) (.pan u)
theorem OutLe.refl : ∀ (o : Out), OutLe o o
  | .ret v => .ret (VLe.refl v)
  | .pan v => .pan (VLe.refl v)
theorem OutLe.rel {o o' : Out} (h : OutLe o o') {B : Nat → Prop} {L : Loc} {w : World} {e : Ending} (hr : OutRel B L w o e) : OutRel B L w o' e := by
  cases h with
  | ret h =>
    cases e with
    | returned x => exact h B L w x hr
    | _ => exact hr.elim
  | pan h =>
    unfold OutRel at hr ⊢
    split at hr
    · contradiction
    · rename_i e1
      cases e1
      exact h B L w _ hr
    · exact hr.elim
structure CLe (c c' : CR) : Prop where
  out : OutLe c.out c'.out
  H : HLe c.H c'.H
  mv : ∀ n, n ∈ c.mv → n ∈ c'.mv
theorem CLe.refl (c : CR) : CLe c c := ⟨OutLe.refl _, HLe.refl _, fun _ h => h⟩
theorem CLe.ret {v u : V} (h : VLe v u) {H : Heap} {mv : List Nat} : CLe ⟨.ret v, H, mv⟩ ⟨.ret u, H, mv⟩ := ⟨.ret h, HLe.refl _, fun _ h => h⟩
theorem CLe.mvs {o : Out} {H : Heap} {mv mv' : List Nat} (h : ∀ n, n ∈ mv → n ∈ mv') : CLe ⟨o, H, mv⟩ ⟨o, H, mv'⟩ := ⟨OutLe.refl _, HLe.refl _, h⟩
theorem FS.more {k : Nat} {B B' : Nat → Prop} {L L' : Loc} {w w' : World} {H H' : Heap} {mv mv' mv2 : List Nat} (h : FS k B L w H mv B' L' w' H' mv') (hm : ∀ n, n ∈ mv' → n ∈ mv2) : FS k B L w H mv B' L' w' H' mv2 :=
  ⟨h.size, h.same, h.own, h.sub, h.keep, fun n hn => hm n (h.mvs n hn), fun n hk hn => h.loc n hk fun h1 => hn (hm n h1), h.fresh⟩
theorem FS.le {k : Nat} {B B' : Nat → Prop} {L L' : Loc} {w w' : World} {H H1 H2 : Heap} {mv mv' : List Nat} (h : FS k B L w H mv B' L' w' H1 mv') (hl : HLe H1 H2) : FS k B L w H mv B' L' w' H2 mv' :=
  ⟨h.size, h.same, h.own, h.sub, h.keep, h.mvs, h.loc, fun n hn => h.fresh n (hl.live n hn)⟩
theorem AbsCall.le {f : FuncId} {args : List V} {H : Heap} {c c' : CR} (h : AbsCall P G f args H c) (hl : CLe c c') : AbsCall P G f args H c' := by
  intro B L w vs hst ha hg
  refine (h B L w vs hst ha hg).mono ?_
  rintro e w' ⟨B', L', hfs, hst', ho⟩
  exact ⟨B', L', (hfs.le hl.H).more hl.mv, hst'.le hl.H, hl.out.rel ho⟩
theorem AbsCall.args {f : FuncId} {args args' : List V} {H : Heap} {c : CR} (h : AbsCall P G f args' H c) (hl : VLeL args args') : AbsCall P G f args H c := by
  intro B L w vs hst ha hg
  exact h B L w vs hst (hl.rel ha) hg
theorem CallW.use {f : FuncId} {args : List V} {H : Heap} {K : CR → Prop} {cr : CR} (h : AbsCall P G f args H cr) (k : K cr) : CallW P G f args H K := ⟨cr, h, k⟩
def SubE (σ' : Env) (σ : Env) : Prop := ∀ t, look σ' t = .junk ∨ VLe (look σ t) (look σ' t)
theorem SubE.rel {σ σ' : Env} (h : SubE σ' σ) {B : Nat → Prop} {L : Loc} {w : World} {tmps : Array Value} (he : ERel B L w (toEnv n σ) tmps) : ERel B L w (toEnv n σ') tmps := by
  refine ⟨by have := he.1; rw [toEnv_length] at this ⊢; exact this, fun i x y hx hy => ?_⟩
  rw [toEnv_get] at hx
  split at hx
  · rename_i hi
    cases hx
    rcases h i with hj | hle
    · rw [hj]; exact .junk y
    · exact hle B L w y (he.2 i _ y (by rw [toEnv_get, if_pos hi]) hy)
  · cases hx
def BddL (n : Nat) : Env → Prop
  | [] => True
  | (i, _) :: σ => i < n ∧ BddL n σ
theorem BddL.bdd : ∀ {σ : Env}, BddL n σ → Bdd n σ
  | [], _ => fun _ _ => rfl
  | (_, v) :: _, h => (BddL.bdd h.2).cons h.1 v
def SubL (σ : Env) : Env → Prop
  | [] => True
  | (i, v) :: σ' => VLe (look σ i) v ∧ SubL σ σ'
theorem SubL.sub {σ : Env} : ∀ {σ' : Env}, SubL σ σ' → SubE σ' σ
  | [], _ => fun t => .inl rfl
  | (i, v) :: σ', h => fun t => by
    rw [look_cons]
    split
    · rename_i e; subst e; exact .inr h.1
    · exact SubL.sub h.2 t
theorem LoopW.sub {b : Code} {σ σ' : Env} {H : Heap} {mv : List Nat} {K : Post} (h : LoopW P G n k b σ' H mv K) (hs : SubL σ σ') (hb : BddL n σ') : LoopW P G n k b σ H mv K := by
  refine ⟨fun _ B L w a hst he hg Q hQ => h.sound hb.bdd hst (hs.sub.rel he) hg hQ⟩
theorem CutW.go (hm : P.follows .mixedOrders = true) {pol : Pol} {b : Code} {σ : Env} {H : Heap} {mv : List Nat} {K : Post} (h : W P G pol n k b σ H mv K) : CutW P G n k b σ H mv K :=
  ⟨fun hb _ _ _ _ hst he hg _ hQ => W_sound hm b h hb hst he hg hQ⟩
theorem CutW.sub {b : Code} {σ σ' : Env} {H : Heap} {mv : List Nat} {K : Post} (h : CutW P G n k b σ' H mv K) (hs : SubL σ σ') (hb : BddL n σ') : CutW P G n k b σ H mv K := by
  refine ⟨fun _ B L w a hst he hg Q hQ => h.sound hb.bdd hst (hs.sub.rel he) hg hQ⟩
theorem CutW.post {b : Code} {σ : Env} {H : Heap} {mv : List Nat} {K K' : Post} (h : CutW P G n k b σ H mv K') (hs : ∀ ex σ' H' mv', K' ex σ' H' mv' → ∃ σ2, SubL σ' σ2 ∧ BddL n σ2 ∧ K ex σ2 H' mv') : CutW P G n k b σ H mv K := by
  refine ⟨fun hb B L w a hst he hg Q hQ => h.sound hb hst he hg fun e a' w' hp => hQ e a' w' ?_⟩
  obtain ⟨ex, σ1, H1, mv1, hK, hb1, B1, L1, hfs, he1, hst1, hk1, hd1, hm1⟩ := hp
  obtain ⟨σ2, h1, h2, h3⟩ := hs _ _ _ _ hK
  exact ⟨ex, σ2, H1, mv1, h3, h2.bdd, B1, L1, hfs, h1.sub.rel he1, hst1, hk1, hd1, hm1⟩
theorem LoopW.post {b : Code} {σ : Env} {H : Heap} {mv : List Nat} {K K' : Post} (h : LoopW P G n k b σ H mv K') (hs : ∀ ex σ' H' mv', K' ex σ' H' mv' → ∃ σ2, SubL σ' σ2 ∧ BddL n σ2 ∧ K ex σ2 H' mv') : LoopW P G n k b σ H mv K := by
  refine ⟨fun hb B L w a hst he hg Q hQ => h.sound hb hst he hg fun e a' w' hp => hQ e a' w' ?_⟩
  obtain ⟨ex, σ1, H1, mv1, hK, hb1, B1, L1, hfs, he1, hst1, hk1, hd1, hm1⟩ := hp
  obtain ⟨σ2, h1, h2, h3⟩ := hs _ _ _ _ hK
  exact ⟨ex, σ2, H1, mv1, h3, h2.bdd, B1, L1, hfs, h1.sub.rel he1, hst1, hk1, hd1, hm1⟩
end
end Go.Am
end

section
namespace Go.Am
open Go
section
variable (P : Program) (G : Nat → Option PV) (pol : Pol)
end
section
variable {P : Program} {G : Nat → Option PV} {pol : Pol}
end
end Go.Am
namespace Go.Am
open Go
structure PostCl (n : Nat) (K : Post) (ex : Ex) (σ : Env) (H : Heap) (mv : List Nat) : Prop where
  ex : ∃ σ2, SubL σ σ2 ∧ BddL n σ2 ∧ K ex σ2 H mv
theorem PostCl.of {n : Nat} {K : Post} {ex : Ex} {σ σ2 : Env} {H : Heap} {mv : List Nat} (h : K ex σ2 H mv) (hs : SubL σ σ2) (hb : BddL n σ2) : PostCl n K ex σ H mv := ⟨⟨σ2, hs, hb, h⟩⟩
end Go.Am
namespace Go.Am
open Go
section
variable {P : Program} {G : Nat → Option PV} {n k : Nat}
def RenL (ns : List Nat) (σ : Env) : Env → Prop
  | [] => True
  | (i, v) :: σ' => ((look σ i).names.all (ns.contains ·) = true ∧ VLe ((look σ i).ren (ns.idxOf ·)) v) ∧ RenL ns σ σ'
def renOk (k : Nat) (ns : List Nat) (H : Heap) : Bool := decide (ns.take k = List.range k) && (closedN (Heap.at H) ns && decide ns.Nodup)
theorem RenL.get {ns : List Nat} {σ : Env} : ∀ {σ' : Env}, RenL ns σ σ' → ∀ t, look σ' t = .junk ∨ ((look σ t).names.all (ns.contains ·) = true ∧ VLe ((look σ t).ren (ns.idxOf ·)) (look σ' t))
  | [], _, t => .inl rfl
  | (i, v) :: σ', h, t => by
    rw [look_cons]
    split
    · rename_i e; subst e; exact .inr h.1
    · exact RenL.get h.2 t
theorem LoopW.ren {b : Code} {σ σ' : Env} {H H' : Heap} {mv : List Nat} {K : Post} (ns : List Nat) (h : LoopW P G n k b σ' H' mv K) (hs : RenL ns σ σ') (hb : BddL n σ') (hH : (ns.map fun m => (Heap.at H m).ren (ns.idxOf ·)) = H') (hc : renOk k ns H = true) : LoopW P G n k b σ H mv K := by
  subst hH
  unfold renOk at hc
  simp only [Bool.and_eq_true, decide_eq_true_eq] at hc
  obtain ⟨h1, h2, h3⟩ := hc
  refine ⟨fun hbd B L w a hst he hg Q hQ => ?_⟩
  have he' : ERel B (L.sub ns) w (toEnv n σ') a.tmps := by
    refine ⟨by have := he.1; rw [toEnv_length] at this ⊢; exact this, fun i x y hx hy => ?_⟩
    rw [toEnv_get] at hx
    split at hx
    · rename_i hi
      cases hx
      rcases hs.get i with hj | ⟨hn, hle⟩
      · rw [hj]; exact .junk y
      · refine hle B (L.sub ns) w y ((he.2 i _ y (by rw [toEnv_get, if_pos hi]) hy).ren fun m hm => L.sub_eq ?_)
        simp only [List.all_eq_true] at hn
        simpa using hn m hm
    · cases hx
  refine h.sound hb.bdd (hst.sub h3 (closedN_spec h2)) he' hg fun e a' w' hp => hQ e a' w' ?_
  exact PostAt.trans (FS.subH h1) hp
theorem CutW.ren {b : Code} {σ σ' : Env} {H H' : Heap} {mv : List Nat} {K : Post} (ns : List Nat) (h : CutW P G n k b σ' H' mv K) (hs : RenL ns σ σ') (hb : BddL n σ') (hH : (ns.map fun m => (Heap.at H m).ren (ns.idxOf ·)) = H') (hc : renOk k ns H = true) : CutW P G n k b σ H mv K := by
  subst hH
  unfold renOk at hc
  simp only [Bool.and_eq_true, decide_eq_true_eq] at hc
  obtain ⟨h1, h2, h3⟩ := hc
  refine ⟨fun hbd B L w a hst he hg Q hQ => ?_⟩
  have he' : ERel B (L.sub ns) w (toEnv n σ') a.tmps := by
    refine ⟨by have := he.1; rw [toEnv_length] at this ⊢; exact this, fun i x y hx hy => ?_⟩
    rw [toEnv_get] at hx
    split at hx
    · rename_i hi
      cases hx
      rcases hs.get i with hj | ⟨hn, hle⟩
      · rw [hj]; exact .junk y
      · refine hle B (L.sub ns) w y ((he.2 i _ y (by rw [toEnv_get, if_pos hi]) hy).ren fun m hm => L.sub_eq ?_)
        simp only [List.all_eq_true] at hn
        simpa using hn m hm
    · cases hx
  refine h.sound hb.bdd (hst.sub h3 (closedN_spec h2)) he' hg fun e a' w' hp => hQ e a' w' ?_
  exact PostAt.trans (FS.subH h1) hp
end
end Go.Am
end

section
namespace Go.Proofs.YthkoefpidnphpaaGreatDoor
open Go Go.Am
noncomputable abbrev PP : Program := Tryz.prog
theorem mixP : PP.follows .mixedOrders = true := by kernel_rfl
namespace T
abbrev int64 : Nat := 2
abbrev int : Nat := 3
abbrev bool : Nat := 4
abbrev string : Nat := 9
abbrev error : Nat := 105
abbrev ptr_strconv_NumError : Nat := 183
abbrev uint64 : Nat := 195
abbrev ptr_errors_errorString : Nat := 219
abbrev errors_errorString : Nat := 221
abbrev arr20_uint64 : Nat := 223
end T
namespace Gl
abbrev internal_bytealg_MaxLen : Nat := 0
abbrev strconv_ErrSyntax : Nat := 1
abbrev strconv_ErrRange : Nat := 2
abbrev internal_strconv_uint64pow10 : Nat := 5
end Gl
namespace F
abbrev law12_TprintKnown : Nat := 3
abbrev law12_awake : Nat := 12
abbrev strings_Join : Nat := 119
abbrev strings_TrimLeft : Nat := 123
abbrev utf_Put : Nat := 132
abbrev internal_abi_NoEscape : Nat := 151
abbrev strconv_FormatInt : Nat := 152
abbrev strconv_ParseInt : Nat := 194
abbrev internal_bytealg_IndexByteString : Nat := 204
end F
end Go.Proofs.YthkoefpidnphpaaGreatDoor
end

section
namespace Go.Proofs.YthkoefpidnphpaaGreatDoor
open Go Go.Am Go.RowKit
def GG : Nat → Option PV := fun g => match Nat.beq g Gl.internal_strconv_uint64pow10 with
  | true => some (tabV .u64 ([1, 10, 100, 1000, 10000, 100000, 1000000, 10000000, 100000000, 1000000000, 10000000000, 100000000000, 1000000000000, 10000000000000, 100000000000000, 1000000000000000, 10000000000000000, 100000000000000000, 1000000000000000000, 10000000000000000000]))
  | false => match Nat.beq g Gl.strconv_ErrSyntax with
    | true => some (.iface T.ptr_errors_errorString .anyp)
    | false => match Nat.beq g Gl.strconv_ErrRange with
      | true => some (.iface T.ptr_errors_errorString .anyp)
      | false => match Nat.beq g Gl.internal_bytealg_MaxLen with
        | true => some (.anyi .i64)
        | false => none
theorem pow10_lit : Lib.pow10Tab = [1, 10, 100, 1000, 10000, 100000, 1000000, 10000000, 100000000, 1000000000, 10000000000, 100000000000, 1000000000000, 10000000000000, 100000000000000, 1000000000000000, 10000000000000000, 100000000000000000, 1000000000000000000, 10000000000000000000] := by decide
theorem gPow : PP.globalNamed "internal/strconv.uint64pow10" = some Gl.internal_strconv_uint64pow10 := by kernel_rfl
def polG : Pol := { keepR := fun f => Nat.beq f F.utf_Put, byref := fun _ => false, mask := fun _ _ => none }
def ngOk (P : Program) : Bool := P.funcs.all fun fn => !(fn.name == "runtime.NumGoroutine")
theorem ngP (f : Nat) (fn : Func) (h : PP.funcs[f]? = some fn) : (fn.name == "runtime.NumGoroutine") = false := by
  have h0 : ngOk PP = true := by kernel_rfl
  unfold ngOk at h0
  rw [Array.all_eq_true_iff_forall_mem] at h0
  simpa using h0 fn (Array.mem_of_getElem? h)
theorem bytealg_IndexByteString (s : List UInt8) (c : Int) (H : Heap) : AbsCall PP GG F.internal_bytealg_IndexByteString [.p (.str s), .p (.int .u8 c)] H ⟨.ret (.p (.int .i64 (firstIdx ⟨s.toArray⟩ c.toNat.toUInt8))), H, []⟩ :=
  abs_indexByte Tryz.func204 (by kernel_rfl) (by kernel_rfl) (by kernel_rfl) (by kernel_rfl) s c H
theorem abi_NoEscape (x : V) (H : Heap) : AbsCall PP GG F.internal_abi_NoEscape [x] H ⟨.ret x, H, []⟩ :=
  abs_same (Tryz.func151) (by kernel_rfl) (by kernel_rfl) (by kernel_rfl) (by kernel_rfl) x H
end Go.Proofs.YthkoefpidnphpaaGreatDoor
end

section
namespace Go.Proofs.YthkoefpidnphpaaGreatDoor
open Go Go.Am Go.RowKit
set_option maxRecDepth 100000
def pNoEscape : List V → Heap → Option CR
  | [x], H => some ⟨.ret (x), H, []⟩
  | _, _ => none
theorem pNoEscape_ok {args : List V} {H : Heap} {cr : CR} (h : pNoEscape args H = some cr) : AbsCall PP GG F.internal_abi_NoEscape args H cr := by
  unfold pNoEscape at h
  split at h
  · cases h
    exact abi_NoEscape _ _
  · cases h
def pIndexByteString : List V → Heap → Option CR
  | [.p (.str s), .p (.int .u8 c)], H => some ⟨.ret (.p (.int .i64 (firstIdx ⟨s.toArray⟩ c.toNat.toUInt8))), H, []⟩
  | _, _ => none
theorem pIndexByteString_ok {args : List V} {H : Heap} {cr : CR} (h : pIndexByteString args H = some cr) : AbsCall PP GG F.internal_bytealg_IndexByteString args H cr := by
  unfold pIndexByteString at h
  split at h
  · cases h
    exact bytealg_IndexByteString _ _ _
  · cases h
def primOf : List (Nat × (List V → Heap → Option CR)) → CallF
  | [], _, _, _ => none
  | (g, p) :: l, f, args, H => match Nat.beq f g with
    | true => p args H
    | false => primOf l f args H
theorem primOf_sound : ∀ (l : List (Nat × (List V → Heap → Option CR))), (∀ x ∈ l, ∀ args H cr, x.2 args H = some cr → AbsCall PP GG x.1 args H cr) → SoundC PP GG (primOf l)
  | [], _, f, args, H, cr, h => by cases h
  | (g, p) :: l, hl, f, args, H, cr, h => by
    simp only [primOf] at h
    split at h
    · rename_i e
      obtain rfl := Nat.eq_of_beq_eq_true e
      exact hl (f, p) (by simp) args H cr h
    · exact primOf_sound l (fun x hx => hl x (List.mem_cons_of_mem _ hx)) f args H cr h
def isT : Option CR → Bool
  | some ⟨.ret (.p (.bool true)), [], []⟩ => true
  | _ => false
theorem isT_spec {o : Option CR} (h : isT o = true) : o = some ⟨.ret (.p (.bool true)), [], []⟩ := by
  unfold isT at h
  split at h
  · rfl
  · cases h
end Go.Proofs.YthkoefpidnphpaaGreatDoor
end

section
namespace Go.Proofs
open Go.Shelf
def Tryz.laysM173_ren : Go.Shelf.Ren := ⟨fun | 173 => 152 | 246 => 189 | 283 => 213 | 284 => 214 | 285 => 215 | 286 => 216 | 129 => 231 | 317 => 230 | 318 => 232 | 319 => 233 | 320 => 234 | 337 => 237 | 338 => 238 | n => n, fun | 2 => 2 | 3 => 3 | 9 => 9 | 4 => 4 | 171 => 201 | 0 => 0 | 53 => 195 | 37 => 74 | 5 => 5 | 173 => 204 | 212 => 223 | 51 => 215 | 20 => 20 | 213 => 224 | 46 => 150 | 232 => 228 | 233 => 229 | n => n, fun | 17 => 5 | 18 => 6 | 19 => 7 | n => n⟩
theorem Tryz.laysM173 : Go.Proofs.LaysM.n173 Tryz.prog Tryz.laysM173_ren := {
  mixed := by kernel_rfl
  f129 := Tryz.func231.trans (congrArg some (by kernel_rfl))
  f173 := Tryz.func152.trans (congrArg some (by kernel_rfl))
  f246 := Tryz.func189.trans (congrArg some (by kernel_rfl))
  f283 := Tryz.func213.trans (congrArg some (by kernel_rfl))
  f284 := Tryz.func214.trans (congrArg some (by kernel_rfl))
  f285 := Tryz.func215.trans (congrArg some (by kernel_rfl))
  f286 := Tryz.func216.trans (congrArg some (by kernel_rfl))
  f317 := Tryz.func230.trans (congrArg some (by kernel_rfl))
  f318 := Tryz.func232.trans (congrArg some (by kernel_rfl))
  f319 := Tryz.func233.trans (congrArg some (by kernel_rfl))
  f320 := Tryz.func234.trans (congrArg some (by kernel_rfl))
  f337 := Tryz.func237.trans (congrArg some (by kernel_rfl))
  f338 := Tryz.func238.trans (congrArg some (by kernel_rfl))
  t0 := Tryz.underlying0
  a0 := Tryz.isAgg0
  z0 := Tryz.sizeOf0
  v0 := Tryz.zeroValue0
  t2 := Tryz.underlying2
  a2 := Tryz.isAgg2
  z2 := Tryz.sizeOf2
  v2 := Tryz.zeroValue2
  t3 := Tryz.underlying3
  a3 := Tryz.isAgg3
  z3 := Tryz.sizeOf3
  v3 := Tryz.zeroValue3
  t4 := Tryz.underlying4
  a4 := Tryz.isAgg4
  z4 := Tryz.sizeOf4
  v4 := Tryz.zeroValue4
  t5 := Tryz.underlying5
  a5 := Tryz.isAgg5
  z5 := Tryz.sizeOf5
  v5 := Tryz.zeroValue5
  t9 := Tryz.underlying9
  a9 := Tryz.isAgg9
  z9 := Tryz.sizeOf9
  v9 := Tryz.zeroValue9
  t20 := Tryz.underlying20
  a20 := Tryz.isAgg20
  z20 := Tryz.sizeOf20
  v20 := Tryz.zeroValue20
  t37 := Tryz.underlying74
  a37 := Tryz.isAgg74
  z37 := Tryz.sizeOf74
  v37 := Tryz.zeroValue74
  t46 := Tryz.underlying150
  a46 := Tryz.isAgg150
  z46 := Tryz.sizeOf150
  v46 := Tryz.zeroValue150
  t51 := Tryz.underlying215
  a51 := Tryz.isAgg215
  z51 := Tryz.sizeOf215
  v51 := Tryz.zeroValue215
  t53 := Tryz.underlying195
  a53 := Tryz.isAgg195
  z53 := Tryz.sizeOf195
  v53 := Tryz.zeroValue195
  t171 := Tryz.underlying201
  a171 := Tryz.isAgg201
  z171 := Tryz.sizeOf201
  v171 := Tryz.zeroValue201
  t173 := Tryz.underlying204
  a173 := Tryz.isAgg204
  z173 := Tryz.sizeOf204
  v173 := Tryz.zeroValue204
  t212 := Tryz.underlying223
  a212 := Tryz.isAgg223
  z212 := Tryz.sizeOf223
  v212 := Tryz.zeroValue223
  t213 := Tryz.underlying224
  a213 := Tryz.isAgg224
  z213 := Tryz.sizeOf224
  t232 := Tryz.underlying228
  a232 := Tryz.isAgg228
  z232 := Tryz.sizeOf228
  v232 := Tryz.zeroValue228
  t233 := Tryz.underlying229
  a233 := Tryz.isAgg229
  z233 := Tryz.sizeOf229
  v233 := Tryz.zeroValue229
  g17 := by kernel_rfl
  g18 := by kernel_rfl
  g19 := by kernel_rfl
  i0 := by kernel_rfl
  i2 := by kernel_rfl
  i3 := by kernel_rfl
  i4 := by kernel_rfl
  i5 := by kernel_rfl
  i9 := by kernel_rfl
  i20 := by kernel_rfl
  i37 := by kernel_rfl
  i46 := by kernel_rfl
  i51 := by kernel_rfl
  i53 := by kernel_rfl
  i171 := by kernel_rfl
  i173 := by kernel_rfl
  i212 := by kernel_rfl
  i232 := by kernel_rfl
  i233 := by kernel_rfl
  m17 := by kernel_rfl
  m18 := by kernel_rfl
  m19 := by kernel_rfl }
open Go.RowKit Go.Sort Go.Lib in
theorem Tryz.strconv_FormatInt_10 (n : Int) (h0 : -9223372036854775808 ≤ n) (h1 : n ≤ 9223372036854775807) (w : World) (htab : Lib.TabIs Tryz.prog w "internal/strconv.uint64pow10" .u64 Lib.pow10Tab) :
    Calls Tryz.prog 152 #[.int .i64 n, .int .i64 10] w fun e w' => e = .returned (.string ⟨(Lib.itoa n).toArray⟩) ∧ ∃ k os, w' = grow (w.drewN k) os := Any.strconv_FormatInt_10 Tryz.laysM173 n h0 h1 w htab
end Go.Proofs
end

section
namespace Go.Proofs.YthkoefpidnphpaaGreatDoor
open Go Go.Am Go.RowKit
theorem strconv_FormatInt (n : Int) (hn : -9223372036854775808 ≤ n ∧ n ≤ 9223372036854775807) (H : Heap) : AbsCall PP GG F.strconv_FormatInt [.p (.int .i64 n), .p (.int .i64 10)] H ⟨.ret (.p (.str (Lib.itoa n))), H, []⟩ := by
  refine absBelow fun B L w vs _ ha hg => ?_
  obtain ⟨v, u, rfl, hv, hu⟩ := vrel2 ha
  obtain rfl := vint hv
  obtain rfl := vint hu
  refine CallTo.of_calls Tryz.func152 (by kernel_rfl) rfl ((Tryz.strconv_FormatInt_10 n hn.1 hn.2 w (tab_of_gok hg (by rw [pow10_lit]; rfl) gPow)).mono ?_)
  rintro e w' ⟨rfl, k, os, rfl⟩
  exact ⟨Lib.below_grow _ _ (Nat.le_refl _) _ _, _, rfl, .p _ _ (.str _)⟩
end Go.Proofs.YthkoefpidnphpaaGreatDoor
end

section
namespace Go.Proofs.YthkoefpidnphpaaGreatDoor
open Go Go.Am Go.RowKit
set_option maxRecDepth 100000
def pFormatInt : List V → Heap → Option CR
  | [.p (.int .i64 n), .p (.int .i64 10)], H => if -9223372036854775808 ≤ n ∧ n ≤ 9223372036854775807 then some ⟨.ret (.p (.str (itoaK n))), H, []⟩ else none
  | _, _ => none
theorem pFormatInt_ok {args : List V} {H : Heap} {cr : CR} (h : pFormatInt args H = some cr) : AbsCall PP GG F.strconv_FormatInt args H cr := by
  unfold pFormatInt at h
  split at h
  · split at h
    · rename_i hc
      cases h
      exact by rw [itoaK_eq hc.1 hc.2]; exact strconv_FormatInt _ hc _
    · cases h
  · cases h
end Go.Proofs.YthkoefpidnphpaaGreatDoor
end

section
namespace Go.Proofs.YthkoefpidnphpaaGreatDoor
open Go Go.Am Go.RowKit
theorem vrel3 {B : Nat → Prop} {L : Am.Loc} {w : World} {x y z : V} {vs : List Value} (h : VRelL B L w [x, y, z] vs) : ∃ v u t, vs = [v, u, t] ∧ VRel B L w x v ∧ VRel B L w y u ∧ VRel B L w z t := by
  match vs, h with
  | [v, u, t], h => exact ⟨v, u, t, rfl, h.2 0 _ _ rfl rfl, h.2 1 _ _ rfl rfl, h.2 2 _ _ rfl rfl⟩
  | [], h => have := h.1; simp at this
  | [_], h => have := h.1; simp at this
  | [_, _], h => have := h.1; simp at this
  | _ :: _ :: _ :: _ :: _, h => have := h.1; simp at this
end Go.Proofs.YthkoefpidnphpaaGreatDoor
end

section
namespace Go.Proofs
open Go.Shelf
def Tryz.laysC174_ren : Go.Shelf.Ren := ⟨fun | 174 => 194 | 247 => 184 | 245 => 143 | 287 => 210 | 279 => 185 | 280 => 186 | 281 => 187 | 282 => 188 | 321 => 228 | 322 => 229 | 316 => 211 | 171 => 100 | 205 => 212 | 243 => 146 | 246 => 189 | 283 => 213 | 284 => 214 | 285 => 215 | 286 => 216 | 129 => 231 | 317 => 230 | 318 => 232 | 319 => 233 | 320 => 234 | 337 => 237 | 338 => 238 | n => n, fun | 9 => 9 | 3 => 3 | 2 => 2 | 75 => 105 | 85 => 181 | 4 => 4 | 167 => 180 | 5 => 5 | 53 => 195 | 175 => 196 | 46 => 150 | 168 => 183 | 37 => 74 | 0 => 0 | 210 => 199 | 21 => 21 | 127 => 109 | 145 => 221 | 143 => 219 | 171 => 201 | 173 => 204 | 212 => 223 | 51 => 215 | 20 => 20 | 213 => 224 | 232 => 228 | 233 => 229 | 80 => 80 | n => n, fun | 15 => 1 | 16 => 2 | 17 => 5 | 18 => 6 | 19 => 7 | n => n⟩
theorem Tryz.laysC174 : Go.Proofs.LaysC.n174 Tryz.prog Tryz.laysC174_ren := {
  mixed := by kernel_rfl
  f129 := Tryz.func231.trans (congrArg some (by kernel_rfl))
  f171 := Tryz.func100.trans (congrArg some (by kernel_rfl))
  f174 := Tryz.func194.trans (congrArg some (by kernel_rfl))
  f205 := Tryz.func212.trans (congrArg some (by kernel_rfl))
  f243 := Tryz.func146.trans (congrArg some (by kernel_rfl))
  f245 := Tryz.func143.trans (congrArg some (by kernel_rfl))
  f246 := Tryz.func189.trans (congrArg some (by kernel_rfl))
  f247 := Tryz.func184.trans (congrArg some (by kernel_rfl))
  f279 := Tryz.func185.trans (congrArg some (by kernel_rfl))
  f280 := Tryz.func186.trans (congrArg some (by kernel_rfl))
  f281 := Tryz.func187.trans (congrArg some (by kernel_rfl))
  f282 := Tryz.func188.trans (congrArg some (by kernel_rfl))
  f283 := Tryz.func213.trans (congrArg some (by kernel_rfl))
  f284 := Tryz.func214.trans (congrArg some (by kernel_rfl))
  f285 := Tryz.func215.trans (congrArg some (by kernel_rfl))
  f286 := Tryz.func216.trans (congrArg some (by kernel_rfl))
  f287 := Tryz.func210.trans (congrArg some (by kernel_rfl))
  f316 := Tryz.func211.trans (congrArg some (by kernel_rfl))
  f317 := Tryz.func230.trans (congrArg some (by kernel_rfl))
  f318 := Tryz.func232.trans (congrArg some (by kernel_rfl))
  f319 := Tryz.func233.trans (congrArg some (by kernel_rfl))
  f320 := Tryz.func234.trans (congrArg some (by kernel_rfl))
  f321 := Tryz.func228.trans (congrArg some (by kernel_rfl))
  f322 := Tryz.func229.trans (congrArg some (by kernel_rfl))
  f337 := Tryz.func237.trans (congrArg some (by kernel_rfl))
  f338 := Tryz.func238.trans (congrArg some (by kernel_rfl))
  t0 := Tryz.underlying0
  a0 := Tryz.isAgg0
  z0 := Tryz.sizeOf0
  v0 := Tryz.zeroValue0
  t2 := Tryz.underlying2
  a2 := Tryz.isAgg2
  z2 := Tryz.sizeOf2
  v2 := Tryz.zeroValue2
  t3 := Tryz.underlying3
  a3 := Tryz.isAgg3
  z3 := Tryz.sizeOf3
  v3 := Tryz.zeroValue3
  t4 := Tryz.underlying4
  a4 := Tryz.isAgg4
  z4 := Tryz.sizeOf4
  v4 := Tryz.zeroValue4
  t5 := Tryz.underlying5
  a5 := Tryz.isAgg5
  z5 := Tryz.sizeOf5
  v5 := Tryz.zeroValue5
  t9 := Tryz.underlying9
  a9 := Tryz.isAgg9
  z9 := Tryz.sizeOf9
  v9 := Tryz.zeroValue9
  t20 := Tryz.underlying20
  a20 := Tryz.isAgg20
  z20 := Tryz.sizeOf20
  v20 := Tryz.zeroValue20
  t21 := Tryz.underlying21
  a21 := Tryz.isAgg21
  z21 := Tryz.sizeOf21
  v21 := Tryz.zeroValue21
  t37 := Tryz.underlying74
  a37 := Tryz.isAgg74
  z37 := Tryz.sizeOf74
  v37 := Tryz.zeroValue74
  t46 := Tryz.underlying150
  a46 := Tryz.isAgg150
  z46 := Tryz.sizeOf150
  v46 := Tryz.zeroValue150
  t51 := Tryz.underlying215
  a51 := Tryz.isAgg215
  z51 := Tryz.sizeOf215
  v51 := Tryz.zeroValue215
  t53 := Tryz.underlying195
  a53 := Tryz.isAgg195
  z53 := Tryz.sizeOf195
  v53 := Tryz.zeroValue195
  t75 := Tryz.underlying105
  a75 := Tryz.isAgg105
  z75 := Tryz.sizeOf105
  v75 := Tryz.zeroValue105
  t85 := Tryz.underlying181
  a85 := Tryz.isAgg181
  z85 := Tryz.sizeOf181
  v85 := Tryz.zeroValue181
  t127 := Tryz.underlying109
  a127 := Tryz.isAgg109
  z127 := Tryz.sizeOf109
  v127 := Tryz.zeroValue109
  t143 := Tryz.underlying219
  a143 := Tryz.isAgg219
  z143 := Tryz.sizeOf219
  v143 := Tryz.zeroValue219
  t145 := Tryz.underlying221
  a145 := Tryz.isAgg221
  z145 := Tryz.sizeOf221
  v145 := Tryz.zeroValue221
  t167 := Tryz.underlying180
  a167 := Tryz.isAgg180
  z167 := Tryz.sizeOf180
  v167 := Tryz.zeroValue180
  t168 := Tryz.underlying183
  a168 := Tryz.isAgg183
  z168 := Tryz.sizeOf183
  v168 := Tryz.zeroValue183
  t171 := Tryz.underlying201
  a171 := Tryz.isAgg201
  z171 := Tryz.sizeOf201
  v171 := Tryz.zeroValue201
  t173 := Tryz.underlying204
  a173 := Tryz.isAgg204
  z173 := Tryz.sizeOf204
  v173 := Tryz.zeroValue204
  t175 := Tryz.underlying196
  a175 := Tryz.isAgg196
  z175 := Tryz.sizeOf196
  v175 := Tryz.zeroValue196
  t210 := Tryz.underlying199
  a210 := Tryz.isAgg199
  z210 := Tryz.sizeOf199
  v210 := Tryz.zeroValue199
  t212 := Tryz.underlying223
  a212 := Tryz.isAgg223
  z212 := Tryz.sizeOf223
  v212 := Tryz.zeroValue223
  t213 := Tryz.underlying224
  a213 := Tryz.isAgg224
  z213 := Tryz.sizeOf224
  t232 := Tryz.underlying228
  a232 := Tryz.isAgg228
  z232 := Tryz.sizeOf228
  v232 := Tryz.zeroValue228
  t233 := Tryz.underlying229
  a233 := Tryz.isAgg229
  z233 := Tryz.sizeOf229
  v233 := Tryz.zeroValue229
  g15 := by kernel_rfl
  g16 := by kernel_rfl
  g17 := by kernel_rfl
  g18 := by kernel_rfl
  g19 := by kernel_rfl
  t80 := Tryz.underlying80
  a80 := Tryz.isAgg80
  z80 := Tryz.sizeOf80
  v80 := Tryz.zeroValue80
  i0 := by kernel_rfl
  i2 := by kernel_rfl
  i3 := by kernel_rfl
  i4 := by kernel_rfl
  i5 := by kernel_rfl
  i9 := by kernel_rfl
  i20 := by kernel_rfl
  i21 := by kernel_rfl
  i37 := by kernel_rfl
  i46 := by kernel_rfl
  i51 := by kernel_rfl
  i53 := by kernel_rfl
  i75 := by kernel_rfl
  i80 := by kernel_rfl
  i85 := by kernel_rfl
  i127 := by kernel_rfl
  i143 := by kernel_rfl
  i145 := by kernel_rfl
  i167 := by kernel_rfl
  i168 := by kernel_rfl
  i171 := by kernel_rfl
  i173 := by kernel_rfl
  i175 := by kernel_rfl
  i210 := by kernel_rfl
  i212 := by kernel_rfl
  i232 := by kernel_rfl
  i233 := by kernel_rfl
  m15 := by kernel_rfl
  m16 := by kernel_rfl
  m17 := by kernel_rfl
  m18 := by kernel_rfl
  m19 := by kernel_rfl
  c0 := by kernel_rfl
  c2 := by kernel_rfl
  c3 := by kernel_rfl
  c4 := by kernel_rfl
  c5 := by kernel_rfl
  c9 := by kernel_rfl
  c20 := by kernel_rfl
  c21 := by kernel_rfl
  c37 := by kernel_rfl
  c46 := by kernel_rfl
  c51 := by kernel_rfl
  c53 := by kernel_rfl
  c75 := by kernel_rfl
  c80 := by kernel_rfl
  c85 := by kernel_rfl
  c127 := by kernel_rfl
  c143 := by kernel_rfl
  c145 := by kernel_rfl
  c167 := by kernel_rfl
  c168 := by kernel_rfl
  c171 := by kernel_rfl
  c173 := by kernel_rfl
  c175 := by kernel_rfl
  c210 := by kernel_rfl
  c212 := by kernel_rfl
  c213 := by kernel_rfl
  c232 := by kernel_rfl
  c233 := by kernel_rfl }
open Go.RowKit in
theorem Tryz.strconv_ParseInt_10_at64_ok (s : ByteArray) (hmax : s.size ≤ 9223372036854775806) (v : Int) (h : Lib.parseIntB 64 s.data.toList = .ok v) (w : World) :
    Calls Tryz.prog 194 #[.string s, .int .i64 10, .int .i64 64] w fun e w' => e = .returned (.tuple #[.int .i64 v, .nilIface]) ∧ (w' = w ∨ ∃ t, w' = Lib.bytesWorld w 5 t) := Any.strconv_ParseInt_10_at64_ok Tryz.laysC174 s hmax v h w
open Go.RowKit in
theorem Tryz.strconv_ParseInt_10_at64_other (s : ByteArray) (hlim : s.size ≤ 281474976710656) (h : (∀ v, Lib.parseIntB 64 s.data.toList ≠ .ok v) ∧ Lib.parseIntB 64 s.data.toList ≠ .range) (ev : Value) (w : World) (hv : w.cell? ⟨1, 0, none⟩ = some ev) (hev : ev = .nilIface ∨ ∃ te pe, ev = .iface te pe) :
    Calls Tryz.prog 194 #[.string s, .int .i64 10, .int .i64 64] w fun e w' => ∃ N, e = .returned (.tuple #[.int .i64 (0), .iface 183 (.pointer (some ⟨N, 0, none⟩))]) ∧ w.heap.size ≤ N ∧ w'.heap[N]? = some (.cells #[.string ⟨#[80, 97, 114, 115, 101, 73, 110, 116]⟩, .string s, ev] 199 (0, 0)) ∧ Below w.heap.size w w' := Any.strconv_ParseInt_10_at64_syntax Tryz.laysC174 s hlim (by
    cases hx : Lib.parseIntB 64 s.data.toList with
    | ok v => exact absurd hx (h.1 v)
    | range => exact absurd hx h.2
    | _ => rfl) ev w hv hev
open Go.RowKit in
theorem Tryz.strconv_ParseInt_10_at64_range (s : ByteArray) (hlim : s.size ≤ 281474976710656) (h : Lib.parseIntB 64 s.data.toList = .range) (ev : Value) (w : World) (hv : w.cell? ⟨2, 0, none⟩ = some ev) (hev : ev = .nilIface ∨ ∃ te pe, ev = .iface te pe) :
    Calls Tryz.prog 194 #[.string s, .int .i64 10, .int .i64 64] w fun e w' => ∃ N, e = .returned (.tuple #[.int .i64 (Lib.intSat 64 s.data.toList), .iface 183 (.pointer (some ⟨N, 0, none⟩))]) ∧ w.heap.size ≤ N ∧ w'.heap[N]? = some (.cells #[.string ⟨#[80, 97, 114, 115, 101, 73, 110, 116]⟩, .string s, ev] 199 (0, 0)) ∧ Below w.heap.size w w' := Any.strconv_ParseInt_10_at64_range Tryz.laysC174 s hlim h ev w hv hev
end Go.Proofs
end

section
namespace Go.Am
open Go
abbrev Str := List UInt8
inductive Tree where
  | mk (kind n : Int) (s : Str) (l : List Tree) (m : List (Str × Tree))
  deriving Inhabited
namespace Tree
def kind : Tree → Int | .mk k _ _ _ _ => k
def n : Tree → Int | .mk _ n _ _ _ => n
def s : Tree → Str | .mk _ _ s _ _ => s
def l : Tree → List Tree | .mk _ _ _ l _ => l
def m : Tree → List (Str × Tree) | .mk _ _ _ _ m => m
mutual
def enc : Tree → PV
  | .mk k n s l m => .agg [.int .i64 k, .int .i64 n, .str s, .lst false (encL l), .lst false (encM m)]
def encL : List Tree → List PV
  | [] => []
  | t :: l => enc t :: encL l
def encM : List (Str × Tree) → List PV
  | [] => []
  | p :: m => encP p :: encM m
def encP : Str × Tree → PV
  | (k, t) => .agg (.str k :: (enc t).cells)
end
mutual
def nodes : Tree → Nat
  | .mk _ _ _ l m => 1 + nodesL l + nodesM m
def nodesL : List Tree → Nat
  | [] => 0
  | t :: l => nodes t + nodesL l
def nodesM : List (Str × Tree) → Nat
  | [] => 0
  | p :: m => nodesP p + nodesM m
def nodesP : Str × Tree → Nat
  | (_, t) => nodes t
end
mutual
def depth : Tree → Nat
  | .mk _ _ _ l m => 1 + max (depthL l) (depthM m)
def depthL : List Tree → Nat
  | [] => 0
  | t :: l => max (depth t) (depthL l)
def depthM : List (Str × Tree) → Nat
  | [] => 0
  | p :: m => max (depthP p) (depthM m)
def depthP : Str × Tree → Nat
  | (_, t) => depth t
end
theorem encL_eq : ∀ l : List Tree, encL l = l.map enc
  | [] => rfl
  | t :: l => by rw [encL, encL_eq l]; rfl
theorem encL_get {l : List Tree} {i : Nat} {t : Tree} (h : l[i]? = some t) : (encL l)[i]? = some (enc t) := by rw [encL_eq, List.getElem?_map, h]; rfl
theorem enc_cells : ∀ t : Tree, (enc t).cells.length = 5
  | .mk _ _ _ _ _ => rfl
theorem nodesL_mem {l : List Tree} {t : Tree} (h : t ∈ l) : nodes t ≤ nodesL l := by
  induction l with
  | nil => simp at h
  | cons x l ih =>
    rw [nodesL]
    rcases List.mem_cons.1 h with rfl | h
    · omega
    · have := ih h; omega
theorem nodesM_mem {m : List (Str × Tree)} {p : Str × Tree} (h : p ∈ m) : nodes p.2 ≤ nodesM m := by
  induction m with
  | nil => simp at h
  | cons x l ih =>
    rw [nodesM]
    rcases List.mem_cons.1 h with rfl | h
    · obtain ⟨a, b⟩ := p; simp [nodesP]
    · have := ih h; omega
theorem nodes_l {t x : Tree} (h : x ∈ t.l) : nodes x < nodes t := by
  obtain ⟨k, n, s, l, m⟩ := t
  have := nodesL_mem (show x ∈ l from h)
  rw [nodes.eq_def (.mk k n s l m)]
  simp only []
  omega
theorem nodes_m {t : Tree} {p : Str × Tree} (h : p ∈ t.m) : nodes p.2 < nodes t := by
  obtain ⟨k, n, s, l, m⟩ := t
  have := nodesM_mem (show p ∈ m from h)
  rw [nodes.eq_def (.mk k n s l m)]
  simp only []
  omega
theorem ind {p : Tree → Prop} (h : ∀ t : Tree, (∀ x ∈ t.l, p x) → (∀ x ∈ t.m, p x.2) → p t) : ∀ t, p t := by
  intro t
  generalize hn : nodes t = q
  induction q using Nat.strongRecOn generalizing t with
  | ind q ih =>
    subst hn
    exact h t (fun x hx => ih _ (nodes_l hx) x rfl) (fun x hx => ih _ (nodes_m hx) x.2 rfl)
end Tree
theorem ElemZ.tree {l : List Tree} {i : Nat} {K : PV → Prop} {t : Tree} (h : l[i]? = some t) (k : K t.enc) : ElemZ (Tree.encL l) i 5 K := ⟨_, Tree.encL_get h, Tree.enc_cells t, k⟩
end Go.Am
namespace Go.Am
end Go.Am
namespace Go.Am
theorem Br.not {c : Bool} {A B : Prop} (h : Br c B A) : Br (!c) A B := ⟨fun e => h.f (by simpa using e), fun e => h.t (by simpa using e)⟩
end Go.Am
namespace Go.Am
end Go.Am
namespace Go.Am
namespace Tree
end Tree
end Go.Am
namespace Go.Am
end Go.Am
namespace Go.Am
end Go.Am
namespace Go.Am
end Go.Am
namespace Go.Am
theorem CLe.arr {t : TypeId} {sz : Nat} {es es' : List PV} {mv : List Nat} (h : es = es') : CLe ⟨.ret (.sl 0 0 es.length), [.arr t sz es], mv⟩ ⟨.ret (.sl 0 0 es'.length), [.arr t sz es'], mv⟩ := by rw [h]; exact CLe.refl _
end Go.Am
namespace Go.Am
end Go.Am
end

section
namespace Go.Proofs.YthkoefpidnphpaaGreatDoor
open Go Go.Am Go.RowKit
set_option maxRecDepth 100000
def intEndP (T : Nat) (sat : Int) : Lib.NumEnd Int → PV
  | .ok n => .tup [.int .i64 n, .nili]
  | .range => .tup [.int .i64 sat, .iface T .anyp]
  | _ => .tup [.int .i64 0, .iface T .anyp]
theorem err_cell {B : Nat → Prop} {w : World} (hg : GOk GG B w) (g : Nat) (h : GG g = some (.iface T.ptr_errors_errorString .anyp)) : ∃ ev, w.cell? ⟨g, 0, none⟩ = some ev ∧ (ev = .nilIface ∨ ∃ te pe, ev = .iface te pe) := by
  obtain ⟨h1, _⟩ := hg g _ h
  cases h1 with
  | cptr d b o u hb hw hf hc hr =>
    refine ⟨u 0, hc 0 (by simp [PV.cells]), .inr ?_⟩
    have := hr 0 _ rfl
    generalize u 0 = x at this
    cases this
    exact ⟨_, _, rfl⟩
theorem strconv_ParseInt (s : Str) (hs : s.length ≤ 1073741824) (H : Heap) :
    AbsCall PP GG F.strconv_ParseInt [.p (.str s), .p (.int .i64 10), .p (.int .i64 64)] H ⟨.ret (.p (intEndP T.ptr_strconv_NumError (Lib.intSat 64 s) (Lib.parseIntB 64 s))), H, []⟩ := by
  refine absBelow fun B L w vs _ ha hg => ?_
  obtain ⟨v, u, t, rfl, hv, hu, ht⟩ := vrel3 ha
  obtain rfl := vstr hv
  obtain rfl := vint hu
  obtain rfl := vint ht
  cases hp : Lib.parseIntB 64 s with
  | ok n =>
    refine CallTo.of_calls Tryz.func194 (by kernel_rfl) rfl ((Tryz.strconv_ParseInt_10_at64_ok ⟨s.toArray⟩ (by simp [ByteArray.size]; omega) n (by simpa using hp) w).mono ?_)
    rintro e w' ⟨rfl, hb⟩
    refine ⟨?_, _, rfl, .p _ _ (.tup _ [.int .i64 n, .nilIface] rfl fun i x y hx hy => ?_)⟩
    rcases hb with rfl | ⟨t, rfl⟩
    · exact Below.refl _ _
    · exact Lib.bytesWorld_below _ _ _
    · rcases i with _ | _ | i
      · cases hx; cases hy; exact .int _ _
      · cases hx; cases hy; exact .nili
      · simp at hx
  | range =>
    obtain ⟨ev, h1, h2⟩ := err_cell hg Gl.strconv_ErrRange rfl
    refine CallTo.of_calls Tryz.func194 (by kernel_rfl) rfl ((Tryz.strconv_ParseInt_10_at64_range ⟨s.toArray⟩ (by simp [ByteArray.size]; omega) (by simpa using hp) ev w h1 h2).mono ?_)
    rintro e w' ⟨N, rfl, _, _, hb⟩
    refine ⟨hb, _, rfl, .p _ _ (.tup _ [.int .i64 (Lib.intSat 64 s), .iface T.ptr_strconv_NumError (.pointer (some ⟨N, 0, none⟩))] rfl fun i x y hx hy => ?_)⟩
    rcases i with _ | _ | i
    · cases hx; cases hy; exact .int _ _
    · cases hx; cases hy; exact .iface _ _ _ (.anyp _)
    · simp at hx
  | _ =>
    obtain ⟨ev, h1, h2⟩ := err_cell hg Gl.strconv_ErrSyntax rfl
    refine CallTo.of_calls Tryz.func194 (by kernel_rfl) rfl ((Tryz.strconv_ParseInt_10_at64_other ⟨s.toArray⟩ (by simp [ByteArray.size]; omega) (by constructor <;> simp [hp]) ev w h1 h2).mono ?_)
    rintro e w' ⟨N, rfl, _, _, hb⟩
    refine ⟨hb, _, rfl, .p _ _ (.tup _ [.int .i64 0, .iface T.ptr_strconv_NumError (.pointer (some ⟨N, 0, none⟩))] rfl fun i x y hx hy => ?_)⟩
    rcases i with _ | _ | i
    · cases hx; cases hy; exact .int _ _
    · cases hx; cases hy; exact .iface _ _ _ (.anyp _)
    · simp at hx
def pParseInt : List V → Heap → Option CR
  | [.p (.str s), .p (.int .i64 10), .p (.int .i64 64)], H => if s.length ≤ 1073741824 then some ⟨.ret (.p (intEndP T.ptr_strconv_NumError (Lib.intSat 64 s) (Lib.parseIntB 64 s))), H, []⟩ else none
  | _, _ => none
theorem pParseInt_ok {args : List V} {H : Heap} {cr : CR} (h : pParseInt args H = some cr) : AbsCall PP GG F.strconv_ParseInt args H cr := by
  unfold pParseInt at h
  split at h
  · split at h
    · rename_i hc
      cases h
      exact strconv_ParseInt _ hc _
    · cases h
  · cases h
end Go.Proofs.YthkoefpidnphpaaGreatDoor
end

section
namespace Go.Proofs
open Go.Shelf
def Tryz.lays161_ren : Go.Shelf.Ren := ⟨fun | 161 => 123 | 231 => 158 | 227 => 159 | 233 => 160 | 235 => 161 | 228 => 198 | 197 => 178 | 151 => 199 | 260 => 205 | 152 => 202 | 137 => 131 | 119 => 225 | 224 => 207 | 225 => 206 | 217 => 173 | 266 => 204 | n => n, fun | 9 => 9 | 4 => 4 | 3 => 3 | 5 => 5 | 117 => 170 | 116 => 169 | 0 => 0 | 124 => 173 | 105 => 178 | 21 => 21 | 119 => 211 | 46 => 150 | 139 => 214 | 138 => 213 | n => n, fun | 3 => 3 | 4 => 4 | n => n⟩
theorem Tryz.lays161 : Go.Proofs.Lays.n161 Tryz.prog Tryz.lays161_ren := {
  mixed := by kernel_rfl
  f119 := Tryz.func225.trans (congrArg some (by kernel_rfl))
  f137 := Tryz.func131.trans (congrArg some (by kernel_rfl))
  f151 := Tryz.func199.trans (congrArg some (by kernel_rfl))
  f152 := Tryz.func202.trans (congrArg some (by kernel_rfl))
  f161 := Tryz.func123.trans (congrArg some (by kernel_rfl))
  f197 := Tryz.func178.trans (congrArg some (by kernel_rfl))
  f217 := Tryz.func173.trans (congrArg some (by kernel_rfl))
  f224 := Tryz.func207.trans (congrArg some (by kernel_rfl))
  f225 := Tryz.func206.trans (congrArg some (by kernel_rfl))
  f227 := Tryz.func159.trans (congrArg some (by kernel_rfl))
  f228 := Tryz.func198.trans (congrArg some (by kernel_rfl))
  f231 := Tryz.func158.trans (congrArg some (by kernel_rfl))
  f233 := Tryz.func160.trans (congrArg some (by kernel_rfl))
  f235 := Tryz.func161.trans (congrArg some (by kernel_rfl))
  f260 := Tryz.func205.trans (congrArg some (by kernel_rfl))
  f266 := Tryz.func204.trans (congrArg some (by kernel_rfl))
  t0 := Tryz.underlying0
  a0 := Tryz.isAgg0
  z0 := Tryz.sizeOf0
  v0 := Tryz.zeroValue0
  t3 := Tryz.underlying3
  a3 := Tryz.isAgg3
  z3 := Tryz.sizeOf3
  v3 := Tryz.zeroValue3
  t4 := Tryz.underlying4
  a4 := Tryz.isAgg4
  z4 := Tryz.sizeOf4
  v4 := Tryz.zeroValue4
  t5 := Tryz.underlying5
  a5 := Tryz.isAgg5
  z5 := Tryz.sizeOf5
  v5 := Tryz.zeroValue5
  t9 := Tryz.underlying9
  a9 := Tryz.isAgg9
  z9 := Tryz.sizeOf9
  v9 := Tryz.zeroValue9
  t21 := Tryz.underlying21
  a21 := Tryz.isAgg21
  z21 := Tryz.sizeOf21
  v21 := Tryz.zeroValue21
  t46 := Tryz.underlying150
  a46 := Tryz.isAgg150
  z46 := Tryz.sizeOf150
  v46 := Tryz.zeroValue150
  t105 := Tryz.underlying178
  a105 := Tryz.isAgg178
  z105 := Tryz.sizeOf178
  v105 := Tryz.zeroValue178
  t116 := Tryz.underlying169
  a116 := Tryz.isAgg169
  z116 := Tryz.sizeOf169
  t117 := Tryz.underlying170
  a117 := Tryz.isAgg170
  z117 := Tryz.sizeOf170
  v117 := Tryz.zeroValue170
  t119 := Tryz.underlying211
  a119 := Tryz.isAgg211
  z119 := Tryz.sizeOf211
  t124 := Tryz.underlying173
  a124 := Tryz.isAgg173
  z124 := Tryz.sizeOf173
  v124 := Tryz.zeroValue173
  t138 := Tryz.underlying213
  a138 := Tryz.isAgg213
  z138 := Tryz.sizeOf213
  v138 := Tryz.zeroValue213
  t139 := Tryz.underlying214
  a139 := Tryz.isAgg214
  z139 := Tryz.sizeOf214
  v139 := Tryz.zeroValue214
  g3 := by kernel_rfl
  g4 := by kernel_rfl }
open Go.RowKit Go.Lib in
theorem Tryz.strings_TrimLeft_laid (s cutset : ByteArray) (w : World) (hcs : cutset.size < 4294967281) (hascii : ∀ (j : Nat) b, cutset.data.toList[j]? = some b → b.toNat < 128) :
    Calls Tryz.prog 123 #[.string s, .string cutset] w fun e w' => e = .returned (.string ⟨(Lib.trimLeftS s.data.toList cutset.data.toList).toArray⟩) ∧ Below w.heap.size w w' := Any.strings_TrimLeft_laid Tryz.lays161 (by kernel_rfl) s cutset w hcs hascii
end Go.Proofs
end

section
namespace Go.Proofs.YthkoefpidnphpaaGreatDoor
open Go Go.Am Go.RowKit
set_option maxRecDepth 100000
theorem strings_TrimSet (s c : List UInt8) (hc : c.length < 4294967281) (h2 : ∀ (j : Nat) (b : UInt8), c[j]? = some b → b.toNat < 128) (H : Heap) :
    AbsCall PP GG F.strings_TrimLeft [.p (.str s), .p (.str c)] H ⟨.ret (.p (.str (Lib.trimLeftS s c))), H, []⟩ := by
  refine absBelow fun B L w vs _ ha hg => ?_
  obtain ⟨v, u, rfl, hv, hu⟩ := vrel2 ha
  obtain rfl := vstr hv
  obtain rfl := vstr hu
  refine CallTo.of_calls Tryz.func123 (by kernel_rfl) rfl ((Tryz.strings_TrimLeft_laid ⟨s.toArray⟩ ⟨c.toArray⟩ w (by simpa [ByteArray.size] using hc) (by simpa using h2)).mono ?_)
  rintro e w' ⟨rfl, hb⟩
  exact ⟨hb, _, rfl, by simpa using VRel.p _ _ (.str _)⟩
def pTrimLeft : List V → Heap → Option CR
  | [.p (.str s), .p (.str c)], H => if c.length < 4294967281 ∧ (c.all fun b => decide (b.toNat < 128)) = true then some ⟨.ret (.p (.str (Lib.trimLeftS s c))), H, []⟩ else none
  | _, _ => none
theorem pTrimLeft_ok {args : List V} {H : Heap} {cr : CR} (h : pTrimLeft args H = some cr) : AbsCall PP GG F.strings_TrimLeft args H cr := by
  unfold pTrimLeft at h
  split at h
  · split at h
    · rename_i hc
      cases h
      exact strings_TrimSet _ _ hc.1 (fun j b hb => by have := List.all_eq_true.1 hc.2 b (List.mem_of_getElem? hb); simpa using this) _
    · cases h
  · cases h
end Go.Proofs.YthkoefpidnphpaaGreatDoor
end

section
namespace Go.Proofs
open Go.Shelf
def Tryz.lays156_ren : Go.Shelf.Ren := ⟨fun | 156 => 119 | 165 => 153 | 166 => 72 | 169 => 45 | 240 => 116 | 241 => 193 | 276 => 151 | 277 => 218 | n => n, fun | 31 => 87 | 9 => 9 | 3 => 3 | 4 => 4 | 0 => 0 | 20 => 20 | 72 => 76 | 76 => 106 | 70 => 73 | 37 => 74 | 75 => 105 | 127 => 109 | 164 => 163 | 5 => 5 | 80 => 80 | n => n, fun | n => n⟩
theorem Tryz.lays156 : Go.Proofs.Lays.n156 Tryz.prog Tryz.lays156_ren := {
  mixed := by kernel_rfl
  f156 := Tryz.func119.trans (congrArg some (by kernel_rfl))
  f165 := Tryz.func153.trans (congrArg some (by kernel_rfl))
  f166 := Tryz.func72.trans (congrArg some (by kernel_rfl))
  f169 := Tryz.func45.trans (congrArg some (by kernel_rfl))
  f240 := Tryz.func116.trans (congrArg some (by kernel_rfl))
  f241 := Tryz.func193.trans (congrArg some (by kernel_rfl))
  f276 := Tryz.func151.trans (congrArg some (by kernel_rfl))
  f277 := Tryz.func218.trans (congrArg some (by kernel_rfl))
  t0 := Tryz.underlying0
  a0 := Tryz.isAgg0
  z0 := Tryz.sizeOf0
  v0 := Tryz.zeroValue0
  t3 := Tryz.underlying3
  a3 := Tryz.isAgg3
  z3 := Tryz.sizeOf3
  v3 := Tryz.zeroValue3
  t4 := Tryz.underlying4
  a4 := Tryz.isAgg4
  z4 := Tryz.sizeOf4
  v4 := Tryz.zeroValue4
  t9 := Tryz.underlying9
  a9 := Tryz.isAgg9
  z9 := Tryz.sizeOf9
  v9 := Tryz.zeroValue9
  t20 := Tryz.underlying20
  a20 := Tryz.isAgg20
  z20 := Tryz.sizeOf20
  v20 := Tryz.zeroValue20
  t31 := Tryz.underlying87
  a31 := Tryz.isAgg87
  z31 := Tryz.sizeOf87
  v31 := Tryz.zeroValue87
  t37 := Tryz.underlying74
  a37 := Tryz.isAgg74
  z37 := Tryz.sizeOf74
  v37 := Tryz.zeroValue74
  t70 := Tryz.underlying73
  a70 := Tryz.isAgg73
  z70 := Tryz.sizeOf73
  v70 := Tryz.zeroValue73
  t72 := Tryz.underlying76
  a72 := Tryz.isAgg76
  z72 := Tryz.sizeOf76
  v72 := Tryz.zeroValue76
  t75 := Tryz.underlying105
  a75 := Tryz.isAgg105
  z75 := Tryz.sizeOf105
  v75 := Tryz.zeroValue105
  t76 := Tryz.underlying106
  a76 := Tryz.isAgg106
  z76 := Tryz.sizeOf106
  v76 := Tryz.zeroValue106
  t127 := Tryz.underlying109
  a127 := Tryz.isAgg109
  z127 := Tryz.sizeOf109
  v127 := Tryz.zeroValue109
  t164 := Tryz.underlying163
  a164 := Tryz.isAgg163
  z164 := Tryz.sizeOf163
  v164 := Tryz.zeroValue163 }
theorem Tryz.Builder_Extra_156 : Builder.Extra Tryz.prog Tryz.lays156_ren := {
  sizeBuilder := by kernel_rfl
  liesBuilder := by kernel_rfl
  t5 := Tryz.underlying5
  a5 := Tryz.isAgg5
  z5 := Tryz.sizeOf5
  v5 := Tryz.zeroValue5
  infoByte := by kernel_rfl
  cellsByte := by kernel_rfl
  sizeByte := by kernel_rfl
  neB5 := by decide }
open Go.RowKit in
theorem Tryz.strings_Join_none (a : Option Addr) (c : Nat) (sep : ByteArray) (w : World) :
    Calls Tryz.prog 119 #[.slice a 0 c, .string sep] w fun e w' => e = .returned (.string ⟨#[]⟩) ∧ w' = w := Any.strings_Join_none Tryz.lays156 Tryz.Builder_Extra_156 a c sep w
open Go.RowKit in
theorem Tryz.strings_Join (bk o c : Nat) (xs : List ByteArray) (sep : ByteArray) (w : World) (hcells : ∀ (j : Nat) x, xs[j]? = some x → w.cell? ⟨bk, o + j, none⟩ = some (.string x)) (hbk : bk < w.heap.size) (hN : xs.length ≤ 140737488355328) (hcap : xs.length ≤ c) (hlen : (Lib.join (xs.map (·.data.toList)) sep.data.toList).length ≤ 140737488355328) :
    Calls Tryz.prog 119 #[.slice (some ⟨bk, o, none⟩) xs.length c, .string sep] w fun e w' => e = .returned (.string ⟨(Lib.join (xs.map (·.data.toList)) sep.data.toList).toArray⟩) ∧ Below w.heap.size w w' := Any.strings_Join Tryz.lays156 Tryz.Builder_Extra_156 bk o c xs sep w hcells hbk hN hcap hlen
end Go.Proofs
end

section
namespace Go.Proofs.YthkoefpidnphpaaGreatDoor
open Go Go.Am Go.RowKit
set_option maxRecDepth 100000
theorem flat_strs : ∀ q : List Str, flat (q.map PV.str) = q.map PV.str
  | [] => rfl
  | x :: q => by rw [List.map_cons, flat_cons, flat_strs q]; rfl
theorem strings_Join (ex : Bool) (l : List Str) (sep : Str) (h1 : l.length ≤ 140737488355328) (h2 : (Lib.join l sep).length ≤ 140737488355328) (H : Heap) :
    AbsCall PP GG F.strings_Join [.p (.lst ex (l.map PV.str)), .p (.str sep)] H ⟨.ret (.p (.str (Lib.join l sep))), H, []⟩ := by
  refine absBelow fun B L w vs hst ha hg => ?_
  obtain ⟨v, u, rfl, hv, hu⟩ := vrel2 ha
  obtain rfl := vstr hu
  have hp := hv.of_p
  generalize hq : l.map PV.str = q at hp
  cases hp with
  | lst0 ex a cap he =>
    obtain rfl : l = [] := by simpa using hq
    refine CallTo.of_calls Tryz.func119 (by kernel_rfl) rfl ((Tryz.strings_Join_none a cap ⟨sep.toArray⟩ w).mono ?_)
    rintro e w' ⟨rfl, rfl⟩
    exact ⟨Below.refl _ _, _, rfl, .p _ _ (.str _)⟩
  | lst ex l' b o cap sz u hb hw hz hs hf hcap he hc hr =>
    subst hq
    have hxs : (l.map fun s => (⟨s.toArray⟩ : ByteArray)).map (·.data.toList) = l := by
      rw [List.map_map]
      conv => rhs; rw [← List.map_id l]
      exact List.map_congr_left fun s _ => by simp
    have hlen : (l.map fun s => (⟨s.toArray⟩ : ByteArray)).length = (l.map PV.str).length := by simp
    have hJ := Tryz.strings_Join b o cap (l.map fun s => (⟨s.toArray⟩ : ByteArray)) ⟨sep.toArray⟩ w (fun j x hx => ?_) hw (by simpa using h1) (by simpa using hcap) (by rw [hxs]; simpa using h2)
    · rw [hlen, hxs] at hJ
      refine CallTo.of_calls Tryz.func119 (by kernel_rfl) rfl (hJ.mono ?_)
      rintro e w' ⟨rfl, hbl⟩
      exact ⟨hbl, _, rfl, by simpa using VRel.p _ _ (.str _)⟩
    · rw [List.getElem?_map, Option.map_eq_some_iff] at hx
      obtain ⟨s, hs', rfl⟩ := hx
      have hj : j < l.length := (List.getElem?_eq_some_iff.1 hs').1
      rw [hc j (by rw [flat_strs]; simpa using hj)]
      have := hr j (.str s) (by rw [flat_strs, List.getElem?_map, hs']; rfl)
      generalize u j = x at this
      cases this
      rfl
def strsOf : List PV → Option (List Str)
  | [] => some []
  | .str s :: l => match strsOf l with
    | some q => some (s :: q)
    | none => none
  | _ :: _ => none
theorem strsOf_spec : ∀ (l : List PV) (q : List Str), strsOf l = some q → l = q.map PV.str
  | [], q, h => by cases h; rfl
  | x :: l, q, h => by
    cases x <;> simp only [strsOf] at h <;> try (cases h; done)
    split at h
    · rename_i q' hq
      cases h
      rw [List.map_cons, ← strsOf_spec l q' hq]
    · cases h
def pJoin : List V → Heap → Option CR
  | [.p (.lst _ l), .p (.str sep)], H => match strsOf l with
    | some q => if q.length ≤ 140737488355328 ∧ (Lib.join q sep).length ≤ 140737488355328 then some ⟨.ret (.p (.str (Lib.join q sep))), H, []⟩ else none
    | none => none
  | _, _ => none
theorem pJoin_ok {args : List V} {H : Heap} {cr : CR} (h : pJoin args H = some cr) : AbsCall PP GG F.strings_Join args H cr := by
  unfold pJoin at h
  split at h
  · split at h
    · rename_i q hq
      split at h
      · rename_i hc
        cases h
        rw [strsOf_spec _ _ hq]
        exact strings_Join _ _ _ hc.1 hc.2 _
      · cases h
    · cases h
  · cases h
def primsT : List (Nat × (List V → Heap → Option CR)) := [(F.internal_abi_NoEscape, pNoEscape), (F.internal_bytealg_IndexByteString, pIndexByteString), (F.strconv_FormatInt, pFormatInt), (F.strconv_ParseInt, pParseInt), (F.strings_TrimLeft, pTrimLeft), (F.strings_Join, pJoin)]
theorem primsT_ok : ∀ x ∈ primsT, ∀ args H cr, x.2 args H = some cr → AbsCall PP GG x.1 args H cr := by
  intro x hx
  simp only [primsT, List.mem_cons, List.mem_nil_iff, or_false] at hx
  rcases hx with rfl | rfl | rfl | rfl | rfl | rfl <;> intro args H cr h
  · exact pNoEscape_ok h
  · exact pIndexByteString_ok h
  · exact pFormatInt_ok h
  · exact pParseInt_ok h
  · exact pTrimLeft_ok h
  · exact pJoin_ok h
noncomputable abbrev exT (n : Nat) : CallF := (exN PP GG polG (primOf primsT) (drawA PP GG polG) n).1
theorem exT_sound (n : Nat) : SoundC PP GG (exT n) := (exN_sound (pol := polG) ngP (primOf_sound _ primsT_ok) (drawA_sound mixP) n).1
theorem law12_awake_run : isT (exT 100 F.law12_awake [] []) = true := by decide +kernel
theorem law12_awake : AbsCall PP GG F.law12_awake [] [] ⟨.ret (.p (.bool true)), [], []⟩ := exT_sound 100 _ _ _ _ (isT_spec law12_awake_run)
def pAwakeT : List V → Heap → Option CR
  | [], [] => some ⟨.ret (.p (.bool true)), [], []⟩
  | _, _ => none
theorem pAwakeT_ok {args : List V} {H : Heap} {cr : CR} (h : pAwakeT args H = some cr) : AbsCall PP GG F.law12_awake args H cr := by
  unfold pAwakeT at h
  split at h
  · cases h
    exact law12_awake
  · cases h
noncomputable abbrev exU (n : Nat) : CallF := (exN PP GG polG (primOf ((F.law12_awake, pAwakeT) :: primsT)) (drawA PP GG polG) n).1
theorem exU_sound (n : Nat) : SoundC PP GG (exU n) := (exN_sound (pol := polG) ngP (primOf_sound _ (by
  intro x hx
  rcases List.mem_cons.1 hx with rfl | hx
  · exact fun args H cr h => pAwakeT_ok h
  · exact primsT_ok x hx)) (drawA_sound mixP) n).1
theorem tprintKnown_run : isT (exU 100 F.law12_TprintKnown [] []) = true := by decide +kernel
theorem law12_TprintKnown : AbsCall PP GG F.law12_TprintKnown [] [] ⟨.ret (.p (.bool true)), [], []⟩ := exU_sound 100 _ _ _ _ (isT_spec tprintKnown_run)
end Go.Proofs.YthkoefpidnphpaaGreatDoor
end

section
namespace Go.Am
open Go Go.RowKit
section
variable {H : Type} {enc : TypeId × Value → H} {P : Program} {W : World} {sp : Nat → Bool} {held : Bool}
structure RdE (W : World) (cs : List Value) (x : PV) : Prop where
  len : x.cells.length = cs.length
  leaf : ∀ c ∈ x.cells, c.leaf = true
  rel : ∀ (i : Nat) a b, x.cells[i]? = some a → cs[i]? = some b → PRel (fun _ => False) W a b
theorem RdE.one {x : PV} {v : Value} (hx : x.cells = [x]) (hl : x.leaf = true) (h : PRel (fun _ => False) W x v) : RdE W [v] x := by
  refine ⟨by rw [hx]; rfl, fun c hc => ?_, fun i a b ha hb => ?_⟩
  · rw [hx, List.mem_singleton] at hc; subst hc; exact hl
  · rw [hx] at ha
    cases i with
    | zero => simp at ha hb; subst ha; subst hb; exact h
    | succ i => simp at ha
theorem add_zero (a : Addr) : a.add 0 = a := by unfold Addr.add; rw [if_pos rfl]
theorem RdE.append {c1 c2 : List Value} {l1 l2 : List PV} (h1 : RdE W c1 (.agg l1)) (h2 : RdE W c2 (.agg l2)) : RdE W (c1 ++ c2) (.agg (l1 ++ l2)) := by
  have e1 : l1.length = c1.length := h1.len
  have e2 : l2.length = c2.length := h2.len
  refine ⟨by show (l1 ++ l2).length = _; simp [e1, e2], fun c hc => ?_, fun i a b ha hb => ?_⟩
  · rcases List.mem_append.1 hc with h | h
    · exact h1.leaf c h
    · exact h2.leaf c h
  · change (l1 ++ l2)[i]? = some a at ha
    by_cases hi : i < l1.length
    · rw [List.getElem?_append_left hi] at ha
      rw [List.getElem?_append_left (by omega)] at hb
      exact h1.rel i a b ha hb
    · rw [List.getElem?_append_right (by omega)] at ha
      rw [List.getElem?_append_right (by omega)] at hb
      exact h2.rel (i - l1.length) a b ha (by rw [e1]; exact hb)
theorem RdE.cells {c : List Value} {x : PV} (h : RdE W c x) : RdE W c (.agg x.cells) := ⟨h.len, h.leaf, h.rel⟩
theorem RdE.value {cs : List Value} {l : List PV} (h : RdE W cs (.agg l)) {v : Value} (hv : v = .agg cs.toArray) : PRel (fun _ => False) W (.agg l) v := by
  subst hv
  exact .agg l cs h.len h.rel
end
end Go.Am
end

section
namespace Go.Am
open Go
end Go.Am
namespace Go.Am
end Go.Am
namespace Go.Am
abbrev Parts := Bool × Str × Str × Str × Bool
end Go.Am
namespace Go.Am
theorem CLe.parts {x : Parts} {a e : Bool} {b c d : Str} {H : Heap} {mv : List Nat} (h : x = (a, b, c, d, e)) :
    CLe ⟨.ret (.tup [.p (.bool a), .p (.str b), .p (.str c), .p (.str d), .p (.bool e)]), H, mv⟩ ⟨.ret (.tup [.p (.bool x.1), .p (.str x.2.1), .p (.str x.2.2.1), .p (.str x.2.2.2.1), .p (.bool x.2.2.2.2)]), H, mv⟩ := by subst h; exact CLe.refl _
end Go.Am
namespace Go.Am
end Go.Am
namespace Go.Am
end Go.Am
namespace Go.Am
def ownBad (k n : Int) (ls ll lm : Nat) : Prop := (k ≠ 1 ∧ k ≠ 2 ∧ n ≠ 0) ∨ (k ≠ 3 ∧ k ≠ 4 ∧ k ≠ 7 ∧ ls ≠ 0) ∨ (k ≠ 5 ∧ ll ≠ 0) ∨ (k ≠ 6 ∧ lm ≠ 0)
instance (k n : Int) (ls ll lm : Nat) : Decidable (ownBad k n ls ll lm) := by unfold ownBad; infer_instance
end Go.Am
namespace Go.Am
end Go.Am
namespace Go.Am
end Go.Am
namespace Go.Am
end Go.Am
end

section
namespace Go.Proofs.YthkoefpidnphpaaGreatDoor
open Go Go.Am Go.RowKit
set_option maxRecDepth 100000
section
variable {H : Type} {enc : TypeId × Value → H} {W : World} {sp : Nat → Bool} {held : Bool}
end
end Go.Proofs.YthkoefpidnphpaaGreatDoor
end

section
namespace Go.Proofs.YthkoefpidnphpaaGreatDoor
open Go Go.Am Go.RowKit
set_option maxRecDepth 100000
theorem sentinel {W : World} {name : String} {g : Nat} {text : List UInt8} (hg : PP.globalNamed name = some g) (ht : (PP.globals[g]?).map (·.type) = some T.error)
    (h : laidMet PP [(name, .iface "*errors.errorString" (.ptr (.agg [.lit (.string text)])))] W) :
    PRel (fun _ => False) W (.cptr (.iface T.ptr_errors_errorString .anyp)) (.pointer (some ⟨g, 0, none⟩)) ∧ ∃ c t fr, W.heap[g]? = some (.cells c t fr) ∧ c.size = 1 := by
  obtain ⟨ps, hv, _, hok⟩ := h
  obtain ⟨g', t, cs, fuel, p, q, h1, h2, h3, h4, _, rfl⟩ := hv
  rw [hg] at h1
  cases h1
  rw [ht] at h2
  cases h2
  unfold World.var? at h3
  rw [hg] at h3
  simp only [Option.bind_some] at h3
  split at h3
  case h_2 => cases h3
  rename_i cs' t' fr hw
  cases h3
  have hcell : ∀ u v, cs.toList = [.iface u v] → Value.okWide PP W .any 0 u v := by
    intro u v he
    have hcs : cs = #[.iface u v] := by apply Array.ext'; simpa using he
    subst hcs
    refine (hok g 0 ?_).2 u v ?_
    · simp [MemPlace.row]
    · unfold World.cell?
      rw [hw]
      simp
  obtain ⟨a, s, he, _⟩ := errorString_of_trod (ti := T.error) (tp := T.ptr_errors_errorString) (te := T.errors_errorString) (ts := T.string) Tryz.underlying105
    (typeName_ptr_named (nm := "errors.errorString") (by kernel_rfl) (by kernel_rfl) (by decide)) Tryz.underlying219 Tryz.underlying221 rfl rfl Tryz.underlying9 (by kernel_rfl) (by kernel_rfl) h4 hcell
  have hcs : cs = #[.iface T.ptr_errors_errorString (.pointer (some a))] := by apply Array.ext'; simpa using he
  subst hcs
  refine ⟨.cptr _ g 0 (fun _ => .iface T.ptr_errors_errorString (.pointer (some a))) (fun h => h) (Array.getElem?_eq_some_iff.1 hw).1 (fun x hx => ?_) (fun k hk => ?_) (fun k x hx => ?_), _, _, _, hw, rfl⟩
  · simp only [PV.cells, List.mem_singleton] at hx; subst hx; rfl
  · simp only [PV.cells, List.length_singleton] at hk
    have : k = 0 := by omega
    subst this
    unfold World.cell?
    rw [hw]
    simp
  · cases k with
    | zero => simp only [PV.cells, List.getElem?_cons_zero, Option.some.injEq] at hx; subst hx; exact .iface _ _ _ (.anyp _)
    | succ k => simp [PV.cells] at hx
theorem gPowType : (PP.globals[Gl.internal_strconv_uint64pow10]?).map (·.type) = some T.arr20_uint64 := by kernel_rfl
theorem maxLen_gok {W : World} (h : W.ShapedOpen PP) : PRel (fun _ => False) W (.cptr (.anyi .i64)) (.pointer (some ⟨Gl.internal_bytealg_MaxLen, 0, none⟩)) ∧ ∃ c t fr, W.heap[Gl.internal_bytealg_MaxLen]? = some (.cells c t fr) ∧ c.size = (PV.anyi .i64).cells.length := by
  obtain ⟨m, hm⟩ := cell_of_shapedOpen_int (P := PP) (g := Gl.internal_bytealg_MaxLen) (zero := #[.int .i64 0]) (t := T.int) h (of_decide_eq_true (by kernel_rfl)) (by kernel_rfl) rfl (by kernel_rfl) (by kernel_rfl) Tryz.underlying3
  obtain ⟨cs, hh, hs, _⟩ := h.1 Gl.internal_bytealg_MaxLen #[.int .i64 0] T.int (of_decide_eq_true (by kernel_rfl)) (by kernel_rfl)
  have hw : Gl.internal_bytealg_MaxLen < W.heap.size := (Array.getElem?_eq_some_iff.1 hh).1
  refine ⟨.cptr _ _ _ (fun _ => .int .i64 m) (fun h => h) hw (fun x hx => by rw [List.mem_singleton.1 hx]; rfl) (fun k hk => ?_) (fun k x hx => ?_), cs, _, _, hh, hs⟩
  · obtain rfl : k = 0 := by simp [PV.cells] at hk; exact hk
    exact hm
  · rcases k with _ | k
    · simp [PV.cells] at hx; subst hx; exact .anyi .i64 m
    · simp [PV.cells] at hx
theorem gok_of {W : World} {l : List (String × DataW Unit)} (h : laidMetH PP l W) (hS : W.ShapedOpen PP)
    (h1 : l.filter (fun x => x.1 == "internal/strconv.uint64pow10") = [("internal/strconv.uint64pow10", Lib.tabData .u64 Lib.pow10Tab)])
    (h2 : l.filter (fun x => x.1 == "strconv.ErrSyntax") = [("strconv.ErrSyntax", Rows.laid_strconv_ErrSyntax)])
    (h3 : l.filter (fun x => x.1 == "strconv.ErrRange") = [("strconv.ErrRange", Rows.laid_strconv_ErrRange)]) : GOk GG (fun _ => False) W := by
  intro g d hd
  unfold GG at hd
  split at hd
  · rename_i hg
    have hg := Nat.eq_of_beq_eq_true hg
    subst hg
    cases hd
    have q := laidMetH.filter (fun x => x.1 == "internal/strconv.uint64pow10") h
    rw [h1] at q
    have q : laidMet PP [("internal/strconv.uint64pow10", Lib.tabData .u64 Lib.pow10Tab)] W := q
    have := tab_gok (Lib.tabIs_of_head (n := 20) (e := T.uint64) (rest := []) gPow gPowType (by kernel_rfl) (by kernel_rfl) (by kernel_rfl) (by kernel_rfl) q) gPow
    rw [pow10_lit] at this
    exact this
  · split at hd
    · rename_i hg
      have hg := Nat.eq_of_beq_eq_true hg
      subst hg
      cases hd
      have q := laidMetH.filter (fun x => x.1 == "strconv.ErrSyntax") h
      rw [h2] at q
      exact sentinel (name := "strconv.ErrSyntax") (by kernel_rfl) (by kernel_rfl) q
    · split at hd
      · rename_i hg
        have hg := Nat.eq_of_beq_eq_true hg
        subst hg
        cases hd
        have q := laidMetH.filter (fun x => x.1 == "strconv.ErrRange") h
        rw [h3] at q
        exact sentinel (name := "strconv.ErrRange") (by kernel_rfl) (by kernel_rfl) q
      · split at hd
        · rename_i hg
          have hg := Nat.eq_of_beq_eq_true hg
          subst hg
          cases hd
          exact maxLen_gok hS
        · cases hd
theorem stNil (W : World) : St (fun _ => False) ⟨fun _ => 0, fun _ => 0, fun _ => 0⟩ W [] :=
  ⟨fun n => by simp [Heap.at]; exact .dead, fun n h => by simp [Heap.at, HO.live] at h, fun n m h => by simp [Heap.at, HO.live] at h, fun b h => h.elim⟩
theorem law_call {f : FuncId} {fn : Func} (hf : PP.funcs[f]? = some fn) (hb : fn.body.isSome = true) {ds : List PV} {vs : List Value} {W : World} (hlen : ds.length = vs.length) (hr : ∀ (i : Nat) x y, ds[i]? = some x → vs[i]? = some y → PRel (fun _ => False) W x y)
    (hG : GOk GG (fun _ => False) W) (h : AbsCall PP GG f (ds.map V.p) [] ⟨.ret (.p (.bool true)), [], []⟩) :
    Calls PP f vs.toArray W fun e w' => e = .returned (.bool true) ∧ Below W.heap.size W w' := by
  have := h (fun _ => False) ⟨fun _ => 0, fun _ => 0, fun _ => 0⟩ W vs (stNil W) ⟨by simpa using hlen, fun i x y hx hy => by
    rw [List.getElem?_map, Option.map_eq_some_iff] at hx
    obtain ⟨d, hd, rfl⟩ := hx
    exact .p _ _ (hr i d y hd hy)⟩ hG
  obtain ⟨c, hb⟩ := Option.isSome_iff_exists.1 hb
  refine (CallTo.calls hf (ngP f fn hf) hb this).mono ?_
  rintro e w' ⟨B', L', hfs, _, ho⟩
  refine ⟨?_, below_of_FS hfs⟩
  unfold OutRel at ho
  split at ho
  · rename_i r v h1; cases h1; cases ho.of_p; rfl
  · rename_i h1; cases h1
  · exact ho.elim
end Go.Proofs.YthkoefpidnphpaaGreatDoor
end

section
namespace Go.Proofs.YthkoefpidnphpaaGreatDoor
open Go.ChangeShapes Go.WideShapes Go.ChangeAt Go.RowKit Go.Am
set_option maxRecDepth 100000
theorem own : ownKnob PP.godebug = none := by kernel_rfl
theorem bulk_append {H : Type} (l r : List (DataW H)) : Rows.uptoBulkAll (l ++ r) = Rows.uptoBulkAll l + Rows.uptoBulkAll r := by
  induction l with
  | nil => simp [Rows.uptoBulkAll]
  | cons x l ih => simp only [List.cons_append, Rows.uptoBulkAll, ih]; omega
theorem tprintKnown_contract (H : Type) (enc : TypeId × Value → H) (W : World) (base : Nat) (args : Array Value) (ds gs : List (DataW H)) (before : List MemPlace)
    (hval : ∀ (j : Nat) t v, Tryz.f3.params[j]? = some t → args[j]? = some v → Value.okWide PP W .any base t v)
    (hW : DataW.Whole enc PP Tryz.f3.params.toList Rows.tprintKnownSpec.vars false W args.toList ds gs before) (hL : laidMetH PP Rows.tprintKnownRow.laid W) (hS : W.ShapedOpen PP) (hk : Rows.uptoBulkAll ds ≤ 1048576) :
    Calls PP F.law12_TprintKnown args W fun e W' => ∃ v, e = .returned v ∧ Rows.tprintKnownSpec.post enc PP Tryz.f3 false true false false W args v W' := by
  have hW' := hW
  have hlt := hW.lt
  obtain ⟨p, q, hA0, hV, rfl, hfz, hnd⟩ := hW
  have hA : DataW.TrodAll enc PP W 0 (fun _ => true) true Tryz.f3.params.toList args.toList ds p := hA0
  rw [Tryz.params3] at hA
  obtain ⟨hargs, rfl, rfl⟩ := trodAll_nil hA
  obtain rfl : args = #[] := by cases args; simp_all
  obtain ⟨rfl, rfl⟩ := trodVars_none hV
  clear hA0
  refine (law_call (f := F.law12_TprintKnown) (ds := []) (vs := []) Tryz.func3 (by kernel_rfl) rfl (fun i x y hx hy => ?_) (gok_of hL hS (by rw [pow10_lit]; rfl) rfl rfl) (law12_TprintKnown  )).mono fun e W1 ⟨he, hb⟩ => ?_
  · simp at hx
  · subst he
    have b := Tryz.underlying4
    exact ⟨_, rfl, post_of_below (pa := []) (pv := []) hW' (fun _ _ _ => trodAll_cons_mk (shut_bool b _) trodAll_mk0)
      (fun sp hs => trodAll_mk0 )
      (fun _ _ => rfl) (by simp) hb (ok_one (by kernel_rfl) rfl (okWide_bool_mk b _))⟩
theorem tprintKnown_reads (os : Os) {H : Type} (enc : TypeId × Value → H) : ∃ places, DataW.whole enc PP ((World.laidAll PP os Rows.tprintKnownUptoRow.laid).forCall (fun _ _ => 0) ⟨#[], #[], []⟩).memory Tryz.f3.params.toList Rows.tprintKnownSpec.vars false (#[] : Array Value).toList 8 = some ([], [], places) :=
  ⟨[], by kernel_rfl⟩
theorem tprintKnown_lifted (os : Os) (started : os.Started) (H : Type) (enc : TypeId × Value → H) (Fi : Stop.Interp) :
    ReturnsInHanded {} Tryz.checked os F.law12_TprintKnown .any ((Rows.OpenSpec.upto Rows.tprintKnownSpec).preRow enc PP Tryz.f3 Rows.tprintKnownUptoRow.domain false Rows.tprintKnownUptoRow.laid) (((Rows.OpenSpec.upto Rows.tprintKnownSpec).at Fi).post enc PP Tryz.f3 false true false false) := by
  obtain ⟨places, hx⟩ := tprintKnown_reads os enc
  refine returnsInHanded_of_row (C := Tryz.checked) (s := Rows.OpenSpec.upto Rows.tprintKnownSpec) own started (by kernel_rfl) Tryz.func3
    (witness_row_atRef (enc := enc) (C := Tryz.checked) false (World.laidAll PP os Rows.tprintKnownUptoRow.laid) #[] (World.laidAll_os _ _ _) (by kernel_rfl) (by kernel_rfl) (by kernel_rfl)
      (OpenSpec.preRow_of_cond 8 hx (by kernel_rfl) (fun k hk => by cases hk; kernel_rfl) (by kernel_rfl) (laidMet_laidAll _ (by kernel_rfl) (by kernel_rfl)))) ?_
  intro W base args ds gs before hval hW _ hcond _ hL hS _
  have hk := of_decide_eq_true (hcond _ rfl)
  refine tprintKnown_contract H enc W base args ds gs before hval hW hL hS (Nat.le_trans ?_ hk)
  rw [bulk_append]
  exact Nat.le_add_right _ _
theorem tprintKnown_said : Rows.TprintKnownUptoSaid :=
  OpenClaim.holds_of_cond F.law12_TprintKnown Tryz.f3 rfl rfl rfl rfl rfl rfl rfl ⟨rfl, rfl, rfl, rfl, rfl⟩ rfl rfl rfl rfl rfl (by kernel_rfl) Tryz.func3 (by kernel_rfl)
    (of_decide_eq_true (by kernel_rfl)) (by unfold Func.isWrapper; first | (rw [if_pos (by decide +kernel)]; kernel_rfl) | (rw [if_neg (by decide +kernel)]; exact ⟨rfl, rfl⟩))
    (fun os started H enc _ Fi => by rw [OpenClaim.pre_eq_preRow]; exact tprintKnown_lifted os started H enc Fi)
theorem tprintKnown_plain (f : FuncId) (fn : Func) (hf : Tryz.pinned.checked.prog.funcNamed "dragoman/dragomanlaw12.TprintKnown" = some f) (hfn : Tryz.pinned.checked.prog.funcs[f]? = some fn) :
    true = Tryz.pinned.checked.prog.looks [] ∧ ∀ (j : Nat) t, fn.params[j]? = some t → Tryz.pinned.checked.prog.wantsStandIn t = false := by
  obtain rfl : f = F.law12_TprintKnown := Option.some.inj ((show PP.funcNamed "dragoman/dragomanlaw12.TprintKnown" = some F.law12_TprintKnown by kernel_rfl).symm.trans hf) |>.symm
  obtain rfl : fn = Tryz.f3 := (Option.some.inj (Tryz.func3.symm.trans hfn)).symm
  refine ⟨by kernel_rfl, fun j t ht => ?_⟩
  rw [Tryz.params3] at ht
  simp at ht
theorem tprintKnown_card : Rows.TprintKnownUptoCardSaid :=
  Claim7.holds_tied_plain_at .later [] _ _ _ _ tprintKnown_said (fun _ h => by cases h) (by kernel_rfl) (fun _ h => by cases h) tprintKnownUpto_row_tie rfl ⟨rfl, rfl⟩ (by kernel_rfl) rfl tprintKnown_plain (by kernel_rfl)
end Go.Proofs.YthkoefpidnphpaaGreatDoor
end
