/-
What code wants and gives; loops; functions.
-/
import Derived.Test.YthkoefpidnphpaaGreatDoorPE
import Derived.Test.YthkoefpidnphpaaGreatDoorProg
import Derived.KernelRfl
import Derived.Lib.AppendIntMem
import Derived.Shelf.Small.Strs
import Derived.Shelf.Small.Wraps
import Derived.Shelf.Strconv.Itoa3
import Derived.Shelf.Strconv.Itoa4
import Derived.Shelf.LaysM
import Derived.Shelf.LaysC
import Derived.Shelf.Strconv.AtoiAll
import Derived.Shelf.Strings.Prefix
import Derived.Shelf.Strings.Split
import Derived.Shelf.Strings.Replace
import Derived.Shelf.Strings.SlTrimAscii
import Derived.Lib.ItoaLen
import Derived.Lib.Repeat
import Derived.Lib.SlTrimSet
import Derived.Lib.IndexAny
import Derived.Lib.LastIndexByte
import Derived.Lib.ParseIntBCases

section
namespace Go.Am
open Go
section
variable (P : Program) (G : Nat → Option PV) (pol : Pol) (n k : Nat)
structure LoopW (b : Code) (σ : Env) (H : Heap) (mv : List Nat) (K : Post) : Prop where
  sound : Bdd n σ → ∀ {B : Nat → Prop} {L : Loc} {w : World} {a : Act}, St B L w H → ERel B L w (toEnv n σ) a.tmps → GOk G B w → ∀ {Q : Exit → Act → World → Prop}, (∀ e a' w', PostAt n k B L w H mv a.defers K e a' w' → Q e a' w') → LoopWp P b Q a w
def firstId : Code → Option Nat
  | .region id _ _ => some id
  | .seq a _ => firstId a
  | .block _ b => firstId b
  | .loop b => firstId b
  | _ => none
structure CutW (b : Code) (σ : Env) (H : Heap) (mv : List Nat) (K : Post) : Prop where
  sound : Bdd n σ → ∀ {B : Nat → Prop} {L : Loc} {w : World} {a : Act}, St B L w H → ERel B L w (toEnv n σ) a.tmps → GOk G B w → ∀ {Q : Exit → Act → World → Prop}, (∀ e a' w', PostAt n k B L w H mv a.defers K e a' w' → Q e a' w') → b.wp P Q a w
def W : Code → Env → Heap → List Nat → Post → Prop
  | .skip, σ, H, mv, K => K .normal σ H mv
  | .label _, σ, H, mv, K => K .normal σ H mv
  | .region _ ops draw, σ, H, mv, K => match draw with
    | false => spineK (List.range ops.size) fun l => opsW P G pol n k ops.toList l σ H mv K
    | true => regionW P G pol n k ops σ H mv K
  | .seq a b, σ, H, mv, K => W a σ H mv fun ex σ H mv => match ex with
    | .normal => match pol.cut (firstId b) with
      | true => CutW P G n k b σ H mv K
      | false => W b σ H mv K
    | ex => K ex σ H mv
  | .cond c a b, σ, H, mv, K => match evS G σ c with
    | .p (.bool t) => Br t (W a σ H mv K) (W b σ H mv K)
    | _ => False
  | .block id b, σ, H, mv, K => W b σ H mv fun ex σ H mv => match ex with
    | .exit j => match Nat.beq j id with
      | true => K .normal σ H mv
      | false => K (.exit j) σ H mv
    | ex => K ex σ H mv
  | .loop b, σ, H, mv, K => LoopW P G n k b σ H mv K
  | .exit id, σ, H, mv, K => K (.exit id) σ H mv
  | .ret, σ, H, mv, K => K .ret σ H mv
  | _, _, _, _, _ => False
end
section
variable {P : Program} {G : Nat → Option PV} {pol : Pol} {n k : Nat}
theorem W_sound (hm : P.follows .mixedOrders = true) : ∀ (c : Code) {σ : Env} {H : Heap} {mv : List Nat} {K : Post}, W P G pol n k c σ H mv K → Bdd n σ → ∀ {B : Nat → Prop} {L : Loc} {w : World} {a : Act}, St B L w H → ERel B L w (toEnv n σ) a.tmps → GOk G B w →
    ∀ {Q : Exit → Act → World → Prop}, (∀ e a' w', PostAt n k B L w H mv a.defers K e a' w' → Q e a' w') → c.wp P Q a w := by
  intro c
  induction c with
  | skip =>
    intro σ H mv K h hb B L w a hst he hg Q hQ
    exact wp_skip (hQ _ _ _ ⟨.normal, σ, H, mv, h, hb, B, L, FS.refl _ _ _ _ _ _, he, hst, rfl, rfl, trivial⟩)
  | label l =>
    intro σ H mv K h hb B L w a hst he hg Q hQ
    exact wp_label (hQ _ _ _ ⟨.normal, σ, H, mv, h, hb, B, L, FS.refl _ _ _ _ _ _, he, hst, rfl, rfl, trivial⟩)
  | region id ops draw =>
    intro σ H mv K h hb B L w a hst he hg Q hQ
    cases draw with
    | false =>
      simp only [W, spineK_eq] at h
      exact wp_region (opsW_sound _ hb h hst he hg hQ)
    | true => exact regionW_sound hm hb h hst he hg hQ
  | seq x y ihx ihy =>
    intro σ H mv K h hb B L w a hst he hg Q hQ
    refine wp_seq ?_
    refine ihx h hb hst he hg fun e a1 w1 hp => ?_
    obtain ⟨ex, σ1, H1, mv1, hK, hb1, B1, L1, hfs, he1, hst1, hk1, hd1, hm1⟩ := hp
    cases ex with
    | normal =>
      cases e with
      | normal =>
        simp only [] at hK
        split at hK
        · refine hK.sound hb1 hst1 he1 (hg.step (hfs.step hst)) fun e a2 w2 hp2 => hQ e a2 w2 ?_
          rw [hd1] at hp2
          exact PostAt.trans hfs hp2
        · refine ihy hK hb1 hst1 he1 (hg.step (hfs.step hst)) fun e a2 w2 hp2 => hQ e a2 w2 ?_
          rw [hd1] at hp2
          exact PostAt.trans hfs hp2
      | _ => exact hm1.elim
    | _ =>
      cases e with
      | normal => exact hm1.elim
      | _ => exact hQ _ _ _ ⟨_, σ1, H1, mv1, hK, hb1, B1, L1, hfs, he1, hst1, hk1, hd1, hm1⟩
  | cond c x y ihx ihy =>
    intro σ H mv K h hb B L w a hst he hg Q hQ
    unfold W at h
    split at h
    · rename_i t hc
      have hv := evalO_sound he hg c
      rw [evS_eq hb, hc] at hv
      have hp := hv.of_p
      generalize hq : a.eval c = q at hp
      cases hp
      refine wp_cond hq ?_
      cases ht : t with
      | true => rw [if_pos rfl]; exact ihx (h.t ht) hb hst he hg hQ
      | false => rw [if_neg (by simp)]; exact ihy (h.f ht) hb hst he hg hQ
    · exact h.elim
  | block id b ih =>
    intro σ H mv K h hb B L w a hst he hg Q hQ
    refine wp_block ?_
    refine ih h hb hst he hg fun e a1 w1 hp => ?_
    obtain ⟨ex, σ1, H1, mv1, hK, hb1, B1, L1, hfs, he1, hst1, hk1, hd1, hm1⟩ := hp
    cases ex with
    | exit j =>
      cases e with
      | exit i =>
        have hji : j = i := hm1
        subst hji
        simp only [] at hK
        simp only [Exit.inBlock]
        split at hK
        · rename_i hb'
          rw [if_pos (Nat.eq_of_beq_eq_true hb')]
          exact hQ _ _ _ ⟨.normal, σ1, H1, mv1, hK, hb1, B1, L1, hfs, he1, hst1, hk1, hd1, trivial⟩
        · rename_i hb'
          rw [if_neg (fun e => by rw [e] at hb'; simp at hb')]
          exact hQ _ _ _ ⟨.exit j, σ1, H1, mv1, hK, hb1, B1, L1, hfs, he1, hst1, hk1, hd1, rfl⟩
      | _ => exact hm1.elim
    | _ =>
      cases e with
      | exit i => exact hm1.elim
      | _ => exact hQ _ _ _ ⟨_, σ1, H1, mv1, hK, hb1, B1, L1, hfs, he1, hst1, hk1, hd1, hm1⟩
  | loop b ih =>
    intro σ H mv K h hb B L w a hst he hg Q hQ
    exact (h.sound hb hst he hg hQ).loop
  | exit id =>
    intro σ H mv K h hb B L w a hst he hg Q hQ
    exact wp_exit (hQ _ _ _ ⟨.exit id, σ, H, mv, h, hb, B, L, FS.refl _ _ _ _ _ _, he, hst, rfl, rfl, rfl⟩)
  | ret =>
    intro σ H mv K h hb B L w a hst he hg Q hQ
    exact wp_ret (hQ _ _ _ ⟨.ret, σ, H, mv, h, hb, B, L, FS.refl _ _ _ _ _ _, he, hst, rfl, rfl, trivial⟩)
  | _ =>
    intro σ H mv K h
    exact h.elim
theorem LoopW.round (hm : P.follows .mixedOrders = true) {b : Code} {σ : Env} {H : Heap} {mv : List Nat} {K : Post}
    (h : W P G pol n k b σ H mv fun ex σ' H' mv' => match ex with
      | .normal => LoopW P G n k b σ' H' mv' K
      | ex => K ex σ' H' mv') : LoopW P G n k b σ H mv K := by
  refine ⟨fun hb B L w a hst he hg Q hQ => LoopWp.round ?_⟩
  refine W_sound hm b h hb hst he hg fun e a1 w1 hp => ?_
  obtain ⟨ex, σ1, H1, mv1, hK, hb1, B1, L1, hfs, he1, hst1, hk1, hd1, hm1⟩ := hp
  cases ex with
  | normal =>
    cases e with
    | normal =>
      refine hK.sound hb1 hst1 he1 (hg.step (hfs.step hst)) fun e a2 w2 hp2 => hQ e a2 w2 ?_
      rw [hd1] at hp2
      exact PostAt.trans hfs hp2
    | _ => exact hm1.elim
  | _ =>
    cases e with
    | normal => exact hm1.elim
    | _ => exact hQ _ _ _ ⟨_, σ1, H1, mv1, hK, hb1, B1, L1, hfs, he1, hst1, hk1, hd1, hm1⟩
def VLe (v u : V) : Prop := ∀ (B : Nat → Prop) (L : Loc) (w : World) (x : Value), VRel B L w v x → VRel B L w u x
theorem VLe.refl (v : V) : VLe v v := fun _ _ _ _ h => h
theorem VLe.trans {a b c : V} (h : VLe a b) (g : VLe b c) : VLe a c := fun B L w x hx => g B L w x (h B L w x hx)
theorem VLe.junk (v : V) : VLe v .junk := fun _ _ _ x _ => .junk x
def PLe (d e : PV) : Prop := ∀ (B : Nat → Prop) (w : World) (x : Value), PRel B w d x → PRel B w e x
theorem PLe.refl (d : PV) : PLe d d := fun _ _ _ h => h
theorem PLe.trans {a b c : PV} (h : PLe a b) (g : PLe b c) : PLe a c := fun B w x hx => g B w x (h B w x hx)
theorem PLe.p {d e : PV} (h : PLe d e) : VLe (.p d) (.p e) := fun B _ w x hx => .p _ _ (h B w x hx.of_p)
theorem PLe.nils (ex : Bool) : PLe .nils (.lst ex []) := fun B w x h => by cases h; exact .lst0 ex none 0 (fun _ => rfl) (fun _ => rfl)
theorem PLe.lst (ex : Bool) (l : List PV) : PLe (.lst ex l) (.lst false l) := fun B w x h => by
  cases h with
  | lst0 ex a cap he hn => exact .lst0 false a cap (fun e => by cases e) hn
  | lst ex l b o cap sz u hb hw hz hs hf hcap he hc hr => exact .lst false l b o cap sz u hb hw hz hs hf hcap (fun e => by cases e) hc hr
def LeL : List PV → List PV → Prop
  | [], [] => True
  | d :: l, e :: m => PLe d e ∧ LeL l m
  | _, _ => False
theorem LeL.refl : ∀ (l : List PV), LeL l l
  | [] => trivial
  | d :: l => ⟨PLe.refl d, LeL.refl l⟩
theorem LeL.spec : ∀ {l m : List PV}, LeL l m → l.length = m.length ∧ ∀ (i : Nat) d e, l[i]? = some d → m[i]? = some e → PLe d e
  | [], [], _ => ⟨rfl, fun i d e h => by simp at h⟩
  | d :: l, e :: m, h => by
    obtain ⟨h1, h2⟩ := LeL.spec h.2
    refine ⟨by simp [h1], fun i x y hx hy => ?_⟩
    cases i with
    | zero => simp at hx hy; subst hx; subst hy; exact h.1
    | succ i => exact h2 i x y (by simpa using hx) (by simpa using hy)
  | [], _ :: _, h => h.elim
  | _ :: _, [], h => h.elim
theorem PLe.agg {l m : List PV} (h : LeL l m) : PLe (.agg l) (.agg m) := fun B w x hx => by
  obtain ⟨h1, h2⟩ := h.spec
  cases hx with
  | agg l c hl hr =>
    refine .agg m c (by omega) fun i e y he hy => ?_
    have hi : i < l.length := by have := (List.getElem?_eq_some_iff.1 he).1; omega
    exact h2 i l[i] e (by simp [hi]) he B w y (hr i l[i] y (by simp [hi]) hy)
theorem PLe.tup {l m : List PV} (h : LeL l m) : PLe (.tup l) (.tup m) := fun B w x hx => by
  obtain ⟨h1, h2⟩ := h.spec
  cases hx with
  | tup l c hl hr =>
    refine .tup m c (by omega) fun i e y he hy => ?_
    have hi : i < l.length := by have := (List.getElem?_eq_some_iff.1 he).1; omega
    exact h2 i l[i] e (by simp [hi]) he B w y (hr i l[i] y (by simp [hi]) hy)
def VLeL : List V → List V → Prop
  | [], [] => True
  | d :: l, e :: m => VLe d e ∧ VLeL l m
  | _, _ => False
theorem VLeL.refl : ∀ (l : List V), VLeL l l
  | [] => trivial
  | d :: l => ⟨VLe.refl d, VLeL.refl l⟩
theorem VLeL.spec : ∀ {l m : List V}, VLeL l m → l.length = m.length ∧ ∀ (i : Nat) d e, l[i]? = some d → m[i]? = some e → VLe d e
  | [], [], _ => ⟨rfl, fun i d e h => by simp at h⟩
  | d :: l, e :: m, h => by
    obtain ⟨h1, h2⟩ := VLeL.spec h.2
    refine ⟨by simp [h1], fun i x y hx hy => ?_⟩
    cases i with
    | zero => simp at hx hy; subst hx; subst hy; exact h.1
    | succ i => exact h2 i x y (by simpa using hx) (by simpa using hy)
  | [], _ :: _, h => h.elim
  | _ :: _, [], h => h.elim
theorem VLe.tup {l m : List V} (h : VLeL l m) : VLe (.tup l) (.tup m) := fun B L w x hx => by
  obtain ⟨h1, h2⟩ := h.spec
  cases hx with
  | tup l c hl hr =>
    refine .tup m c (by omega) fun i e y he hy => ?_
    have hi : i < l.length := by have := (List.getElem?_eq_some_iff.1 he).1; omega
    exact h2 i l[i] e (by simp [hi]) he B L w y (hr i l[i] y (by simp [hi]) hy)
theorem VLeL.rel {l m : List V} (h : VLeL l m) {B : Nat → Prop} {L : Loc} {w : World} {c : List Value} (hr : VRelL B L w l c) : VRelL B L w m c := by
  obtain ⟨h1, h2⟩ := h.spec
  refine ⟨by have := hr.1; omega, fun i e y he hy => ?_⟩
  have hi : i < l.length := by have := (List.getElem?_eq_some_iff.1 he).1; omega
  exact h2 i l[i] e (by simp [hi]) he B L w y (hr.2 i l[i] y (by simp [hi]) hy)
structure HLe (H H' : Heap) : Prop where
  rel : ∀ (n : Nat) (B : Nat → Prop) (L : Loc) (w : World), HRel B L w n (Heap.at H n) → HRel B L w n (Heap.at H' n)
  live : ∀ n, (Heap.at H' n).live → (Heap.at H n).live
  len : H.length = H'.length
theorem HLe.refl (H : Heap) : HLe H H := ⟨fun _ _ _ _ h => h, fun _ h => h, rfl⟩
theorem St.le {B : Nat → Prop} {L : Loc} {w : World} {H H' : Heap} (h : HLe H H') (hst : St B L w H) : St B L w H' :=
  ⟨fun n => h.rel n B L w (hst.rel n), fun n hl => hst.own n (h.live n hl), fun n m hn hm e => hst.inj n m (h.live n hn) (h.live m hm) e, hst.bnd⟩
inductive OutLe : Out → Out → Prop
  | ret {v u : V} (h : VLe v u) : OutLe (.ret v) (.ret u)
  | pan {v u : V} (h : VLe v u) : OutLe (.pan v) (.pan u)
theorem OutLe.refl : ∀ (o : Out), OutLe o o
  | .ret v => .ret (VLe.refl v)
  | .pan v => .pan (VLe.refl v)
theorem OutLe.rel {o o' : Out} (h : OutLe o o') {B : Nat → Prop} {L : Loc} {w : World} {e : Ending} (hr : OutRel B L w o e) : OutRel B L w o' e := by
  cases h with
  | ret h =>
    cases e with
    | returned x => exact h B L w x hr
    | _ => exact hr.elim
  | pan h =>
    unfold OutRel at hr ⊢
    split at hr
    · contradiction
    · rename_i e1
      cases e1
      exact h B L w _ hr
    · exact hr.elim
structure CLe (c c' : CR) : Prop where
  out : OutLe c.out c'.out
  H : HLe c.H c'.H
  mv : ∀ n, n ∈ c.mv → n ∈ c'.mv
theorem CLe.refl (c : CR) : CLe c c := ⟨OutLe.refl _, HLe.refl _, fun _ h => h⟩
theorem CLe.ret {v u : V} (h : VLe v u) {H : Heap} {mv : List Nat} : CLe ⟨.ret v, H, mv⟩ ⟨.ret u, H, mv⟩ := ⟨.ret h, HLe.refl _, fun _ h => h⟩
theorem CLe.mvs {o : Out} {H : Heap} {mv mv' : List Nat} (h : ∀ n, n ∈ mv → n ∈ mv') : CLe ⟨o, H, mv⟩ ⟨o, H, mv'⟩ := ⟨OutLe.refl _, HLe.refl _, h⟩
theorem FS.more {k : Nat} {B B' : Nat → Prop} {L L' : Loc} {w w' : World} {H H' : Heap} {mv mv' mv2 : List Nat} (h : FS k B L w H mv B' L' w' H' mv') (hm : ∀ n, n ∈ mv' → n ∈ mv2) : FS k B L w H mv B' L' w' H' mv2 :=
  ⟨h.size, h.same, h.own, h.sub, h.keep, fun n hn => hm n (h.mvs n hn), fun n hk hn => h.loc n hk fun h1 => hn (hm n h1), h.fresh⟩
theorem FS.le {k : Nat} {B B' : Nat → Prop} {L L' : Loc} {w w' : World} {H H1 H2 : Heap} {mv mv' : List Nat} (h : FS k B L w H mv B' L' w' H1 mv') (hl : HLe H1 H2) : FS k B L w H mv B' L' w' H2 mv' :=
  ⟨h.size, h.same, h.own, h.sub, h.keep, h.mvs, h.loc, fun n hn => h.fresh n (hl.live n hn)⟩
theorem AbsCall.le {f : FuncId} {args : List V} {H : Heap} {c c' : CR} (h : AbsCall P G f args H c) (hl : CLe c c') : AbsCall P G f args H c' := by
  intro B L w vs hst ha hg
  refine (h B L w vs hst ha hg).mono ?_
  rintro e w' ⟨B', L', hfs, hst', ho⟩
  exact ⟨B', L', (hfs.le hl.H).more hl.mv, hst'.le hl.H, hl.out.rel ho⟩
theorem AbsCall.args {f : FuncId} {args args' : List V} {H : Heap} {c : CR} (h : AbsCall P G f args' H c) (hl : VLeL args args') : AbsCall P G f args H c := by
  intro B L w vs hst ha hg
  exact h B L w vs hst (hl.rel ha) hg
theorem CallW.use {f : FuncId} {args : List V} {H : Heap} {K : CR → Prop} {cr : CR} (h : AbsCall P G f args H cr) (k : K cr) : CallW P G f args H K := ⟨cr, h, k⟩
def SubE (σ' : Env) (σ : Env) : Prop := ∀ t, look σ' t = .junk ∨ VLe (look σ t) (look σ' t)
theorem SubE.rel {σ σ' : Env} (h : SubE σ' σ) {B : Nat → Prop} {L : Loc} {w : World} {tmps : Array Value} (he : ERel B L w (toEnv n σ) tmps) : ERel B L w (toEnv n σ') tmps := by
  refine ⟨by have := he.1; rw [toEnv_length] at this ⊢; exact this, fun i x y hx hy => ?_⟩
  rw [toEnv_get] at hx
  split at hx
  · rename_i hi
    cases hx
    rcases h i with hj | hle
    · rw [hj]; exact .junk y
    · exact hle B L w y (he.2 i _ y (by rw [toEnv_get, if_pos hi]) hy)
  · cases hx
def BddL (n : Nat) : Env → Prop
  | [] => True
  | (i, _) :: σ => i < n ∧ BddL n σ
theorem BddL.bdd : ∀ {σ : Env}, BddL n σ → Bdd n σ
  | [], _ => fun _ _ => rfl
  | (_, v) :: _, h => (BddL.bdd h.2).cons h.1 v
def SubL (σ : Env) : Env → Prop
  | [] => True
  | (i, v) :: σ' => VLe (look σ i) v ∧ SubL σ σ'
theorem SubL.sub {σ : Env} : ∀ {σ' : Env}, SubL σ σ' → SubE σ' σ
  | [], _ => fun t => .inl rfl
  | (i, v) :: σ', h => fun t => by
    rw [look_cons]
    split
    · rename_i e; subst e; exact .inr h.1
    · exact SubL.sub h.2 t
theorem LoopW.sub {b : Code} {σ σ' : Env} {H : Heap} {mv : List Nat} {K : Post} (h : LoopW P G n k b σ' H mv K) (hs : SubL σ σ') (hb : BddL n σ') : LoopW P G n k b σ H mv K := by
  refine ⟨fun _ B L w a hst he hg Q hQ => h.sound hb.bdd hst (hs.sub.rel he) hg hQ⟩
theorem CutW.go (hm : P.follows .mixedOrders = true) {pol : Pol} {b : Code} {σ : Env} {H : Heap} {mv : List Nat} {K : Post} (h : W P G pol n k b σ H mv K) : CutW P G n k b σ H mv K :=
  ⟨fun hb _ _ _ _ hst he hg _ hQ => W_sound hm b h hb hst he hg hQ⟩
theorem CutW.sub {b : Code} {σ σ' : Env} {H : Heap} {mv : List Nat} {K : Post} (h : CutW P G n k b σ' H mv K) (hs : SubL σ σ') (hb : BddL n σ') : CutW P G n k b σ H mv K := by
  refine ⟨fun _ B L w a hst he hg Q hQ => h.sound hb.bdd hst (hs.sub.rel he) hg hQ⟩
theorem CutW.post {b : Code} {σ : Env} {H : Heap} {mv : List Nat} {K K' : Post} (h : CutW P G n k b σ H mv K') (hs : ∀ ex σ' H' mv', K' ex σ' H' mv' → ∃ σ2, SubL σ' σ2 ∧ BddL n σ2 ∧ K ex σ2 H' mv') : CutW P G n k b σ H mv K := by
  refine ⟨fun hb B L w a hst he hg Q hQ => h.sound hb hst he hg fun e a' w' hp => hQ e a' w' ?_⟩
  obtain ⟨ex, σ1, H1, mv1, hK, hb1, B1, L1, hfs, he1, hst1, hk1, hd1, hm1⟩ := hp
  obtain ⟨σ2, h1, h2, h3⟩ := hs _ _ _ _ hK
  exact ⟨ex, σ2, H1, mv1, h3, h2.bdd, B1, L1, hfs, h1.sub.rel he1, hst1, hk1, hd1, hm1⟩
theorem LoopW.post {b : Code} {σ : Env} {H : Heap} {mv : List Nat} {K K' : Post} (h : LoopW P G n k b σ H mv K') (hs : ∀ ex σ' H' mv', K' ex σ' H' mv' → ∃ σ2, SubL σ' σ2 ∧ BddL n σ2 ∧ K ex σ2 H' mv') : LoopW P G n k b σ H mv K := by
  refine ⟨fun hb B L w a hst he hg Q hQ => h.sound hb hst he hg fun e a' w' hp => hQ e a' w' ?_⟩
  obtain ⟨ex, σ1, H1, mv1, hK, hb1, B1, L1, hfs, he1, hst1, hk1, hd1, hm1⟩ := hp
  obtain ⟨σ2, h1, h2, h3⟩ := hs _ _ _ _ hK
  exact ⟨ex, σ2, H1, mv1, h3, h2.bdd, B1, L1, hfs, h1.sub.rel he1, hst1, hk1, hd1, hm1⟩
end
end Go.Am
end

section
namespace Go.Am
open Go
section
variable (P : Program) (G : Nat → Option PV) (pol : Pol)
def resultsK : List ResultVar → Env → Heap → (List V → Prop) → Prop
  | [], _, _, K => K []
  | .tmp t :: l, σ, H, K => (look σ t).fK fun v => resultsK l σ H fun vs => K (v :: vs)
  | .cell a t :: l, σ, H, K => match loadA P (Heap.at H) t (look σ a) with
    | some v => v.fK fun v => resultsK l σ H fun vs => K (v :: vs)
    | none => False
def backR (k : Nat) (u : V) (H : Heap) (K : V → Heap → Prop) : Prop :=
  spineK (reachL (Heap.at H) 200 (List.range k ++ u.names) []) fun ns =>
    match decide (ns.take k = List.range k) && (u.names.all (ns.contains ·) && (closedN (Heap.at H) ns && decide ns.Nodup)) with
    | true => (u.ren (ns.idxOf ·)).fK fun u' => heapK (ns.map fun m => (Heap.at H m).ren (ns.idxOf ·)) fun H' => K u' H'
    | false => False
def finishK (f : FuncId) (k : Nat) (v : V) (H : Heap) (K : V → Heap → Prop) : Prop :=
  match pol.keepR f with
  | true => backR k v H K
  | false => spineK (v.names.filter fun m => decide (k ≤ m) && isArr (Heap.at H m)) fun fz => match fz with
    | [] => backR k v H K
    | fz => frzAllK fz [(0, v)] H fun σ1 H1 => backR k (look σ1 0) H1 K
def argsE : Nat → List V → Env
  | _, [] => []
  | i, v :: l => (i, v) :: argsE (i + 1) l
def bodyW (f : FuncId) (c : Code) (ntmps : Nat) (rs : List ResultVar) (args : List V) (H : Heap) (Q : CR → Prop) : Prop :=
  W P G pol ntmps (lenH H) c (argsE 0 args) H [] fun ex σ' H' mv' => match ex with
    | .normal => resultsK P rs σ' H' fun vs => finishK pol f (lenH H) (tupV vs) H' fun v H'' => Q ⟨.ret v, H'', mv'⟩
    | .ret => resultsK P rs σ' H' fun vs => finishK pol f (lenH H) (tupV vs) H' fun v H'' => Q ⟨.ret v, H'', mv'⟩
    | .pan v => finishK pol f (lenH H) v H' fun v H'' => Q ⟨.pan v, H'', mv'⟩
    | _ => False
end
section
variable {P : Program} {G : Nat → Option PV} {pol : Pol}
theorem resultsK_spec {n k : Nat} {mv : List Nat} {H : Heap} {σ : Env} (hb : Bdd n σ) : ∀ (rs : List ResultVar) {K : List V → Prop}, (∀ t, .tmp t ∈ rs → t < n) → (∀ a t, .cell a t ∈ rs → a < n) → resultsK P rs σ H K →
    ∃ vs, resultsA P ⟨toEnv n σ, H, k, mv⟩ rs = some vs ∧ K vs
  | [], K, _, _, h => ⟨[], rfl, h⟩
  | .tmp t :: l, K, h1, h2, h => by
    simp only [resultsK, V.fK_eq] at h
    obtain ⟨vs, g1, g2⟩ := resultsK_spec (k := k) (mv := mv) hb l (fun t ht => h1 t (List.mem_cons_of_mem _ ht)) (fun a t ht => h2 a t (List.mem_cons_of_mem _ ht)) h
    refine ⟨_, ?_, g2⟩
    have := h1 t (by simp)
    simp only [resultsA, toEnv_get, if_pos this, g1]
  | .cell a t :: l, K, h1, h2, h => by
    simp only [resultsK] at h
    split at h
    case h_2 => exact h.elim
    rename_i v hv
    rw [V.fK_eq] at h
    obtain ⟨vs, g1, g2⟩ := resultsK_spec (k := k) (mv := mv) hb l (fun t ht => h1 t (List.mem_cons_of_mem _ ht)) (fun a t ht => h2 a t (List.mem_cons_of_mem _ ht)) h
    refine ⟨_, ?_, g2⟩
    have := h2 a t (by simp)
    simp only [resultsA, toEnv_get, if_pos this, g1, hv]
theorem backR_spec {k : Nat} {u : V} {H : Heap} {K : V → Heap → Prop} (h : backR k u H K) : ∃ v' H', (let ns := reachL (Heap.at H) 200 (List.range k ++ u.names) []
    if ns.take k = List.range k ∧ u.names.all (ns.contains ·) = true ∧ closedN (Heap.at H) ns = true ∧ ns.Nodup then
      some (u.ren (ns.idxOf ·), ns.map fun n => (Heap.at H n).ren (ns.idxOf ·))
    else none) = some (v', H') ∧ K v' H' := by
  unfold backR at h
  rw [spineK_eq] at h
  split at h
  case h_2 => exact h.elim
  rename_i hc
  simp only [Bool.and_eq_true, decide_eq_true_eq] at hc
  rw [V.fK_eq, heapK_eq] at h
  exact ⟨_, _, if_pos hc, h⟩
theorem finishK_spec {f : FuncId} {k : Nat} {mv : List Nat} {env : List V} {v : V} {H : Heap} {K : V → Heap → Prop} (h : finishK pol f k v H K) : ∃ v' H', finish pol f ⟨env, H, k, mv⟩ v = some (v', H') ∧ K v' H' := by
  unfold finishK at h
  unfold finish
  simp only []
  split at h
  · rename_i hp
    rw [if_pos hp]
    exact backR_spec h
  · rename_i hp
    rw [if_neg (by rw [hp]; simp)]
    rw [spineK_eq] at h
    have e0 : ([v] : List V) = toEnv 1 [(0, v)] := rfl
    have plain : Fr.freezeAll ⟨[v], H, k, mv⟩ (v.names.filter fun n => decide (k ≤ n) && isArr (Heap.at H n)) = ⟨[v], H, k, mv⟩ → backR k v H K → ∃ v' H',
        (match (Fr.freezeAll ⟨[v], H, k, mv⟩ (v.names.filter fun n => decide (k ≤ n) && isArr (Heap.at H n))).env with
        | [u] =>
          if (reachL (Heap.at (Fr.freezeAll ⟨[v], H, k, mv⟩ (v.names.filter fun n => decide (k ≤ n) && isArr (Heap.at H n))).H) 200 (List.range k ++ u.names) []).take k = List.range k ∧
              u.names.all ((reachL (Heap.at (Fr.freezeAll ⟨[v], H, k, mv⟩ (v.names.filter fun n => decide (k ≤ n) && isArr (Heap.at H n))).H) 200 (List.range k ++ u.names) []).contains ·) = true ∧
              closedN (Heap.at (Fr.freezeAll ⟨[v], H, k, mv⟩ (v.names.filter fun n => decide (k ≤ n) && isArr (Heap.at H n))).H) (reachL (Heap.at (Fr.freezeAll ⟨[v], H, k, mv⟩ (v.names.filter fun n => decide (k ≤ n) && isArr (Heap.at H n))).H) 200 (List.range k ++ u.names) []) = true ∧
              (reachL (Heap.at (Fr.freezeAll ⟨[v], H, k, mv⟩ (v.names.filter fun n => decide (k ≤ n) && isArr (Heap.at H n))).H) 200 (List.range k ++ u.names) []).Nodup then
            some (u.ren ((reachL (Heap.at (Fr.freezeAll ⟨[v], H, k, mv⟩ (v.names.filter fun n => decide (k ≤ n) && isArr (Heap.at H n))).H) 200 (List.range k ++ u.names) []).idxOf ·),
              (reachL (Heap.at (Fr.freezeAll ⟨[v], H, k, mv⟩ (v.names.filter fun n => decide (k ≤ n) && isArr (Heap.at H n))).H) 200 (List.range k ++ u.names) []).map fun n => (Heap.at (Fr.freezeAll ⟨[v], H, k, mv⟩ (v.names.filter fun n => decide (k ≤ n) && isArr (Heap.at H n))).H n).ren
                ((reachL (Heap.at (Fr.freezeAll ⟨[v], H, k, mv⟩ (v.names.filter fun n => decide (k ≤ n) && isArr (Heap.at H n))).H) 200 (List.range k ++ u.names) []).idxOf ·))
          else none
        | _ => none) = some (v', H') ∧ K v' H' := by
      intro hf hb
      rw [hf]
      exact backR_spec hb
    split at h
    · rename_i hns
      exact plain (by rw [hns]; rfl) h
    · rename_i fz hns
      have hbd : Bdd 1 [(0, v)] := (fun t ht => by rw [look_cons, if_neg (by omega)]; rfl)
      obtain ⟨σ1, H1, h1, h2, h3⟩ := frzAllK_eq (n := 1) (k := k) (mv := mv) _ _ _ _ hbd h
      rw [e0, h1]
      have e1 : toEnv 1 σ1 = [look σ1 0] := rfl
      simp only [e1]
      exact backR_spec h3
theorem look_argsE : ∀ (l : List V) (i t : Nat), look (argsE i l) t = if i ≤ t then (l[t - i]?).getD .junk else .junk
  | [], i, t => by simp [argsE, look]
  | v :: l, i, t => by
    rw [argsE, look_cons]
    split
    · rename_i e; subst e; simp
    · rename_i e
      rw [look_argsE l (i + 1) t]
      split
      · rename_i h
        rw [if_pos (by omega)]
        obtain ⟨j, hj⟩ : ∃ j, t - i = j + 1 := ⟨t - i - 1, by omega⟩
        rw [hj, show t - (i + 1) = j by omega]
        rfl
      · rename_i h
        rw [if_neg (by omega)]
theorem argsE_env {args : List V} {n : Nat} (h : args.length ≤ n) : args ++ List.replicate (n - args.length) V.junk = toEnv n (argsE 0 args) := by
  apply List.ext_getElem?
  intro i
  rw [toEnv_get, look_argsE]
  simp only [Nat.zero_le, if_true, Nat.sub_zero]
  rw [List.getElem?_append]
  split
  · rename_i hi
    rw [if_pos (by omega), List.getElem?_eq_getElem hi]; rfl
  · rename_i hi
    rw [List.getElem?_replicate]
    split
    · rename_i h2
      rw [if_pos (by omega), List.getElem?_eq_none (by omega)]; rfl
    · rename_i h2
      rw [if_neg (by omega)]
theorem argsE_bdd {args : List V} {n : Nat} (h : args.length ≤ n) : Bdd n (argsE 0 args) := by
  intro t ht
  rw [look_argsE]
  simp only [Nat.zero_le, if_true, Nat.sub_zero]
  rw [List.getElem?_eq_none (by omega)]; rfl
def rsOk (n : Nat) : List ResultVar → Bool
  | [] => true
  | .tmp t :: l => Nat.blt t n && rsOk n l
  | .cell a _ :: l => Nat.blt a n && rsOk n l
theorem rsOk_spec {n : Nat} : ∀ {rs : List ResultVar}, rsOk n rs = true → (∀ t, .tmp t ∈ rs → t < n) ∧ ∀ a t, .cell a t ∈ rs → a < n
  | [], _ => ⟨fun t h => by simp at h, fun a t h => by simp at h⟩
  | .tmp t :: l, h => by
    simp only [rsOk, Bool.and_eq_true, Nat.blt_eq] at h
    obtain ⟨h1, h2⟩ := rsOk_spec h.2
    refine ⟨fun t' ht => ?_, fun a t' ht => ?_⟩
    · rcases List.mem_cons.1 ht with e | ht
      · cases e; exact h.1
      · exact h1 t' ht
    · rcases List.mem_cons.1 ht with e | ht
      · cases e
      · exact h2 a t' ht
  | .cell a t :: l, h => by
    simp only [rsOk, Bool.and_eq_true, Nat.blt_eq] at h
    obtain ⟨h1, h2⟩ := rsOk_spec h.2
    refine ⟨fun t' ht => ?_, fun a' t' ht => ?_⟩
    · rcases List.mem_cons.1 ht with e | ht
      · cases e
      · exact h1 t' ht
    · rcases List.mem_cons.1 ht with e | ht
      · cases e; exact h.1
      · exact h2 a' t' ht
structure FnIs (P : Program) (f : FuncId) (c : Code) (ntmps nargs : Nat) (rs : List ResultVar) : Prop where
  ex : ∃ fn, P.funcs[f]? = some fn ∧ fn.body = some c ∧ fn.ntmps = ntmps ∧ fn.results.toList = rs ∧ (fn.name == "runtime.NumGoroutine") = false
  args : nargs ≤ ntmps
  rs : rsOk ntmps rs = true
theorem absCall_of (hm : P.follows .mixedOrders = true) {f : FuncId} {c : Code} {ntmps : Nat} {rs : List ResultVar} {args : List V} {H : Heap} {cr : CR} (hf : FnIs P f c ntmps args.length rs)
    (h : bodyW P G pol f c ntmps rs args H fun cr' => CLe cr' cr) : AbsCall P G f args H cr := by
  obtain ⟨⟨fn, hfn, hbody, hnt, hrs, hname⟩, hargs, hok⟩ := hf
  subst hnt
  intro B L w vs hst ha hg
  refine .inl ⟨enters hfn hname hbody _ w, calls_of_wp hfn hbody ?_⟩
  have he : ERel B L w (toEnv fn.ntmps (argsE 0 args)) (vs.toArray ++ Array.replicate (fn.ntmps - vs.toArray.size) undef) := by
    have e : (vs.toArray ++ Array.replicate (fn.ntmps - vs.toArray.size) undef).toList = vs ++ List.replicate (fn.ntmps - args.length) undef := by
      rw [Array.toList_append, Array.toList_replicate, List.size_toArray, ha.1]
    rw [← argsE_env hargs]
    unfold ERel
    rw [e]
    refine ha.append ⟨by simp, fun i x y hx _ => ?_⟩
    rw [List.getElem?_replicate] at hx
    split at hx
    · cases hx; exact .junk _
    · cases hx
  unfold bodyW at h
  rw [lenH_eq] at h
  obtain ⟨ok1, ok2⟩ := rsOk_spec hok
  refine W_sound hm c h (argsE_bdd hargs) (a := { tmps := vs.toArray ++ Array.replicate (fn.ntmps - vs.toArray.size) undef, defers := [] }) hst he hg fun e a' w' hp => ?_
  obtain ⟨ex, σ1, H1, mv1, hK, hb1, B1, L1, hfs, he1, hst1, hk1, hd1, hm1⟩ := hp
  have good : (resultsK P rs σ1 H1 fun vs => finishK pol f H.length (tupV vs) H1 fun v H'' => CLe ⟨.ret v, H'', mv1⟩ cr) →
      a'.defers = [] ∧ ∃ v, (results fn a'.tmps).run P w' = .ok v w' ∧ ∃ B' L', FS H.length B L w H [] B' L' w' cr.H cr.mv ∧ St B' L' w' cr.H ∧ OutRel B' L' w' cr.out (.returned v) := by
    intro hr
    obtain ⟨vs', g1, g2⟩ := resultsK_spec (k := H.length) (mv := mv1) hb1 rs ok1 ok2 hr
    obtain ⟨v', H', g3, g4⟩ := finishK_spec (mv := mv1) (env := toEnv fn.ntmps σ1) g2
    rw [← hrs] at g1
    obtain ⟨u, hu, hru⟩ := results_run (fn := fn) hst1 he1 g1
    obtain ⟨B2, L2, hfs2, hst2, hr2⟩ := finish_sound hst1 hru g3
    exact ⟨hd1, u, hu, B2, L2, ((hfs.trans hfs2).le g4.H).more g4.mv, hst2.le g4.H, g4.out.rel hr2⟩
  cases ex with
  | normal =>
    cases e with
    | normal => exact good hK
    | _ => exact hm1.elim
  | ret =>
    cases e with
    | ret => exact good hK
    | _ => exact hm1.elim
  | pan v =>
    simp only [] at hK
    obtain ⟨v', H', g3, g4⟩ := finishK_spec (mv := mv1) (env := toEnv fn.ntmps σ1) hK
    obtain ⟨u, rfl, hu⟩ := ExMatch.pan_inv hm1
    obtain ⟨B2, L2, hfs2, hst2, hr2⟩ := finish_sound hst1 hu g3
    refine ⟨hd1, B2, L2, ((hfs.trans hfs2).le g4.H).more g4.mv, hst2.le g4.H, ?_⟩
    · exact g4.out.rel (e := .panicked [⟨u, false, false⟩]) hr2
  | exit id => exact hK.elim
end
end Go.Am
namespace Go.Am
open Go
def loopsOf : Code → List Code
  | .loop b => b :: loopsOf b
  | .seq a b => loopsOf a ++ loopsOf b
  | .cond _ a b => loopsOf a ++ loopsOf b
  | .block _ b => loopsOf b
  | _ => []
def loopN (c : Option Code) (i : Nat) : Code := ((loopsOf (c.getD .skip))[i]?).getD .skip
def tailOf (id : Nat) : Code → Option Code
  | .seq a b => match firstId b with
    | some i => match Nat.beq i id with
      | true => some b
      | false => match tailOf id a with
        | some c => some c
        | none => tailOf id b
    | none => match tailOf id a with
      | some c => some c
      | none => tailOf id b
  | .cond _ a b => match tailOf id a with
    | some c => some c
    | none => tailOf id b
  | .block _ b => tailOf id b
  | .loop b => tailOf id b
  | _ => none
def tailN (c : Option Code) (i : Nat) : Code := (tailOf i (c.getD .skip)).getD .skip
def cutAt (l : List Nat) (o : Option Nat) : Bool := match o with
  | some i => l.any (Nat.beq i)
  | none => false
structure PostCl (n : Nat) (K : Post) (ex : Ex) (σ : Env) (H : Heap) (mv : List Nat) : Prop where
  ex : ∃ σ2, SubL σ σ2 ∧ BddL n σ2 ∧ K ex σ2 H mv
theorem PostCl.of {n : Nat} {K : Post} {ex : Ex} {σ σ2 : Env} {H : Heap} {mv : List Nat} (h : K ex σ2 H mv) (hs : SubL σ σ2) (hb : BddL n σ2) : PostCl n K ex σ H mv := ⟨⟨σ2, hs, hb, h⟩⟩
theorem LoopW.cl {P : Program} {G : Nat → Option PV} {n k : Nat} {b : Code} {σ : Env} {H : Heap} {mv : List Nat} {K : Post} (h : LoopW P G n k b σ H mv (PostCl n K)) : LoopW P G n k b σ H mv K :=
  h.post fun _ _ _ _ h => h.ex
theorem CutW.cl {P : Program} {G : Nat → Option PV} {n k : Nat} {b : Code} {σ : Env} {H : Heap} {mv : List Nat} {K : Post} (h : CutW P G n k b σ H mv (PostCl n K)) : CutW P G n k b σ H mv K :=
  h.post fun _ _ _ _ h => h.ex
end Go.Am
namespace Go.Am
open Go
section
variable {P : Program} {G : Nat → Option PV} {n k : Nat}
def RenL (ns : List Nat) (σ : Env) : Env → Prop
  | [] => True
  | (i, v) :: σ' => ((look σ i).names.all (ns.contains ·) = true ∧ VLe ((look σ i).ren (ns.idxOf ·)) v) ∧ RenL ns σ σ'
def renOk (k : Nat) (ns : List Nat) (H : Heap) : Bool := decide (ns.take k = List.range k) && (closedN (Heap.at H) ns && decide ns.Nodup)
theorem RenL.get {ns : List Nat} {σ : Env} : ∀ {σ' : Env}, RenL ns σ σ' → ∀ t, look σ' t = .junk ∨ ((look σ t).names.all (ns.contains ·) = true ∧ VLe ((look σ t).ren (ns.idxOf ·)) (look σ' t))
  | [], _, t => .inl rfl
  | (i, v) :: σ', h, t => by
    rw [look_cons]
    split
    · rename_i e; subst e; exact .inr h.1
    · exact RenL.get h.2 t
theorem LoopW.ren {b : Code} {σ σ' : Env} {H H' : Heap} {mv : List Nat} {K : Post} (ns : List Nat) (h : LoopW P G n k b σ' H' mv K) (hs : RenL ns σ σ') (hb : BddL n σ') (hH : (ns.map fun m => (Heap.at H m).ren (ns.idxOf ·)) = H') (hc : renOk k ns H = true) : LoopW P G n k b σ H mv K := by
  subst hH
  unfold renOk at hc
  simp only [Bool.and_eq_true, decide_eq_true_eq] at hc
  obtain ⟨h1, h2, h3⟩ := hc
  refine ⟨fun hbd B L w a hst he hg Q hQ => ?_⟩
  have he' : ERel B (L.sub ns) w (toEnv n σ') a.tmps := by
    refine ⟨by have := he.1; rw [toEnv_length] at this ⊢; exact this, fun i x y hx hy => ?_⟩
    rw [toEnv_get] at hx
    split at hx
    · rename_i hi
      cases hx
      rcases hs.get i with hj | ⟨hn, hle⟩
      · rw [hj]; exact .junk y
      · refine hle B (L.sub ns) w y ((he.2 i _ y (by rw [toEnv_get, if_pos hi]) hy).ren fun m hm => L.sub_eq ?_)
        simp only [List.all_eq_true] at hn
        simpa using hn m hm
    · cases hx
  refine h.sound hb.bdd (hst.sub h3 (closedN_spec h2)) he' hg fun e a' w' hp => hQ e a' w' ?_
  exact PostAt.trans (FS.subH h1) hp
theorem CutW.ren {b : Code} {σ σ' : Env} {H H' : Heap} {mv : List Nat} {K : Post} (ns : List Nat) (h : CutW P G n k b σ' H' mv K) (hs : RenL ns σ σ') (hb : BddL n σ') (hH : (ns.map fun m => (Heap.at H m).ren (ns.idxOf ·)) = H') (hc : renOk k ns H = true) : CutW P G n k b σ H mv K := by
  subst hH
  unfold renOk at hc
  simp only [Bool.and_eq_true, decide_eq_true_eq] at hc
  obtain ⟨h1, h2, h3⟩ := hc
  refine ⟨fun hbd B L w a hst he hg Q hQ => ?_⟩
  have he' : ERel B (L.sub ns) w (toEnv n σ') a.tmps := by
    refine ⟨by have := he.1; rw [toEnv_length] at this ⊢; exact this, fun i x y hx hy => ?_⟩
    rw [toEnv_get] at hx
    split at hx
    · rename_i hi
      cases hx
      rcases hs.get i with hj | ⟨hn, hle⟩
      · rw [hj]; exact .junk y
      · refine hle B (L.sub ns) w y ((he.2 i _ y (by rw [toEnv_get, if_pos hi]) hy).ren fun m hm => L.sub_eq ?_)
        simp only [List.all_eq_true] at hn
        simpa using hn m hm
    · cases hx
  refine h.sound hb.bdd (hst.sub h3 (closedN_spec h2)) he' hg fun e a' w' hp => hQ e a' w' ?_
  exact PostAt.trans (FS.subH h1) hp
end
end Go.Am
end

section
namespace Go.Proofs.YthkoefpidnphpaaGreatDoor
open Go Go.Am
noncomputable abbrev PP : Program := Tryz.prog
theorem mixP : PP.follows .mixedOrders = true := by kernel_rfl
namespace T
abbrev int64 : Nat := 2
abbrev int : Nat := 3
abbrev bool : Nat := 4
abbrev uint8 : Nat := 5
abbrev string : Nat := 9
abbrev api_Kind : Nat := 23
abbrev sl_api_Value : Nat := 24
abbrev sl_api_Pair : Nat := 25
abbrev api_Value : Nat := 27
abbrev api_Pair : Nat := 30
abbrev sl_path_Step : Nat := 40
abbrev path_Step : Nat := 48
abbrev path_walker : Nat := 100
abbrev error : Nat := 105
abbrev uint64 : Nat := 195
abbrev ptr_errors_errorString : Nat := 219
abbrev errors_errorString : Nat := 221
abbrev arr20_uint64 : Nat := 223
end T
namespace Gl
abbrev internal_bytealg_MaxLen : Nat := 0
abbrev strconv_ErrSyntax : Nat := 1
abbrev strconv_ErrRange : Nat := 2
abbrev internal_strconv_uint64pow10 : Nat := 5
end Gl
namespace F
abbrev law5_PathOthers : Nat := 10
noncomputable abbrev law5_PathOthers_c : Option Code := Tryz.f10.body
theorem law5_PathOthers_is : FnIs PP 10 (Tryz.f10.body.getD .skip) 127 3 Tryz.f10.results.toList := ⟨⟨_, Tryz.func10, by kernel_rfl, by kernel_rfl, rfl, by kernel_rfl⟩, by decide, by kernel_rfl⟩
abbrev ref1_Heavy : Nat := 18
theorem ref1_Heavy_is : FnIs PP 18 (Tryz.f18.body.getD .skip) 17 3 Tryz.f18.results.toList := ⟨⟨_, Tryz.func18, by kernel_rfl, by kernel_rfl, rfl, by kernel_rfl⟩, by decide, by kernel_rfl⟩
abbrev ref1_Same : Nat := 23
noncomputable abbrev ref1_Same_c : Option Code := Tryz.f23.body
theorem ref1_Same_is : FnIs PP 23 (Tryz.f23.body.getD .skip) 118 3 Tryz.f23.results.toList := ⟨⟨_, Tryz.func23, by kernel_rfl, by kernel_rfl, rfl, by kernel_rfl⟩, by decide, by kernel_rfl⟩
abbrev law5_awake : Nat := 24
abbrev path_Get : Nat := 26
noncomputable abbrev path_Get_c : Option Code := Tryz.f26.body
theorem path_Get_is : FnIs PP 26 (Tryz.f26.body.getD .skip) 26 2 Tryz.f26.results.toList := ⟨⟨_, Tryz.func26, by kernel_rfl, by kernel_rfl, rfl, by kernel_rfl⟩, by decide, by kernel_rfl⟩
abbrev path_Set : Nat := 28
theorem path_Set_is : FnIs PP 28 (Tryz.f28.body.getD .skip) 22 3 Tryz.f28.results.toList := ⟨⟨_, Tryz.func28, by kernel_rfl, by kernel_rfl, rfl, by kernel_rfl⟩, by decide, by kernel_rfl⟩
abbrev path_Drop : Nat := 29
theorem path_Drop_is : FnIs PP 29 (Tryz.f29.body.getD .skip) 19 2 Tryz.f29.results.toList := ⟨⟨_, Tryz.func29, by kernel_rfl, by kernel_rfl, rfl, by kernel_rfl⟩, by decide, by kernel_rfl⟩
abbrev ref1_Value : Nat := 30
theorem ref1_Value_is : FnIs PP 30 (Tryz.f30.body.getD .skip) 10 1 Tryz.f30.results.toList := ⟨⟨_, Tryz.func30, by kernel_rfl, by kernel_rfl, rfl, by kernel_rfl⟩, by decide, by kernel_rfl⟩
abbrev path_All : Nat := 37
theorem path_All_is : FnIs PP 37 (Tryz.f37.body.getD .skip) 13 1 Tryz.f37.results.toList := ⟨⟨_, Tryz.func37, by kernel_rfl, by kernel_rfl, rfl, by kernel_rfl⟩, by decide, by kernel_rfl⟩
abbrev law5_begins : Nat := 43
noncomputable abbrev law5_begins_c : Option Code := Tryz.f43.body
theorem law5_begins_is : FnIs PP 43 (Tryz.f43.body.getD .skip) 26 2 Tryz.f43.results.toList := ⟨⟨_, Tryz.func43, by kernel_rfl, by kernel_rfl, rfl, by kernel_rfl⟩, by decide, by kernel_rfl⟩
abbrev ref1_steep : Nat := 48
noncomputable abbrev ref1_steep_c : Option Code := Tryz.f48.body
theorem ref1_steep_is : FnIs PP 48 (Tryz.f48.body.getD .skip) 66 3 Tryz.f48.results.toList := ⟨⟨_, Tryz.func48, by kernel_rfl, by kernel_rfl, rfl, by kernel_rfl⟩, by decide, by kernel_rfl⟩
abbrev strings_Split : Nat := 56
abbrev path_find : Nat := 59
theorem path_find_is : FnIs PP 59 (Tryz.f59.body.getD .skip) 41 2 Tryz.f59.results.toList := ⟨⟨_, Tryz.func59, by kernel_rfl, by kernel_rfl, rfl, by kernel_rfl⟩, by decide, by kernel_rfl⟩
abbrev path_part : Nat := 60
theorem path_part_is : FnIs PP 60 (Tryz.f60.body.getD .skip) 19 2 Tryz.f60.results.toList := ⟨⟨_, Tryz.func60, by kernel_rfl, by kernel_rfl, rfl, by kernel_rfl⟩, by decide, by kernel_rfl⟩
abbrev path_set : Nat := 61
theorem path_set_is : FnIs PP 61 (Tryz.f61.body.getD .skip) 51 3 Tryz.f61.results.toList := ⟨⟨_, Tryz.func61, by kernel_rfl, by kernel_rfl, rfl, by kernel_rfl⟩, by decide, by kernel_rfl⟩
abbrev value_Copy : Nat := 62
noncomputable abbrev value_Copy_c : Option Code := Tryz.f62.body
theorem value_Copy_is : FnIs PP 62 (Tryz.f62.body.getD .skip) 50 1 Tryz.f62.results.toList := ⟨⟨_, Tryz.func62, by kernel_rfl, by kernel_rfl, rfl, by kernel_rfl⟩, by decide, by kernel_rfl⟩
abbrev path_drop : Nat := 63
theorem path_drop_is : FnIs PP 63 (Tryz.f63.body.getD .skip) 60 2 Tryz.f63.results.toList := ⟨⟨_, Tryz.func63, by kernel_rfl, by kernel_rfl, rfl, by kernel_rfl⟩, by decide, by kernel_rfl⟩
abbrev ref1_plain : Nat := 64
noncomputable abbrev ref1_plain_c : Option Code := Tryz.f64.body
theorem ref1_plain_is : FnIs PP 64 (Tryz.f64.body.getD .skip) 160 1 Tryz.f64.results.toList := ⟨⟨_, Tryz.func64, by kernel_rfl, by kernel_rfl, rfl, by kernel_rfl⟩, by decide, by kernel_rfl⟩
abbrev ref1_Str : Nat := 65
theorem ref1_Str_is : FnIs PP 65 (Tryz.f65.body.getD .skip) 11 1 Tryz.f65.results.toList := ⟨⟨_, Tryz.func65, by kernel_rfl, by kernel_rfl, rfl, by kernel_rfl⟩, by decide, by kernel_rfl⟩
abbrev path_walker_walk : Nat := 69
noncomputable abbrev path_walker_walk_c : Option Code := Tryz.f69.body
theorem path_walker_walk_is : FnIs PP 69 (Tryz.f69.body.getD .skip) 57 3 Tryz.f69.results.toList := ⟨⟨_, Tryz.func69, by kernel_rfl, by kernel_rfl, rfl, by kernel_rfl⟩, by decide, by kernel_rfl⟩
abbrev ref1_Take : Nat := 87
noncomputable abbrev ref1_Take_c : Option Code := Tryz.f87.body
theorem ref1_Take_is : FnIs PP 87 (Tryz.f87.body.getD .skip) 79 1 Tryz.f87.results.toList := ⟨⟨_, Tryz.func87, by kernel_rfl, by kernel_rfl, rfl, by kernel_rfl⟩, by decide, by kernel_rfl⟩
abbrev ref1_Number : Nat := 92
theorem ref1_Number_is : FnIs PP 92 (Tryz.f92.body.getD .skip) 20 1 Tryz.f92.results.toList := ⟨⟨_, Tryz.func92, by kernel_rfl, by kernel_rfl, rfl, by kernel_rfl⟩, by decide, by kernel_rfl⟩
abbrev strconv_Atoi : Nat := 97
abbrev strings_TrimPrefix : Nat := 98
abbrev strings_ReplaceAll : Nat := 99
abbrev strconv_Itoa : Nat := 100
abbrev strings_HasPrefix : Nat := 101
abbrev slices_IndexFunc_api_Pair_api_Pair : Nat := 102
noncomputable abbrev slices_IndexFunc_api_Pair_api_Pair_c : Option Code := Tryz.f102.body
theorem slices_IndexFunc_api_Pair_api_Pair_is : FnIs PP 102 (Tryz.f102.body.getD .skip) 19 2 Tryz.f102.results.toList := ⟨⟨_, Tryz.func102, by kernel_rfl, by kernel_rfl, rfl, by kernel_rfl⟩, by decide, by kernel_rfl⟩
abbrev path_find_1 : Nat := 103
theorem path_find_1_is : FnIs PP 103 (Tryz.f103.body.getD .skip) 9 2 Tryz.f103.results.toList := ⟨⟨_, Tryz.func103, by kernel_rfl, by kernel_rfl, rfl, by kernel_rfl⟩, by decide, by kernel_rfl⟩
abbrev path_with : Nat := 105
theorem path_with_is : FnIs PP 105 (Tryz.f105.body.getD .skip) 30 3 Tryz.f105.results.toList := ⟨⟨_, Tryz.func105, by kernel_rfl, by kernel_rfl, rfl, by kernel_rfl⟩, by decide, by kernel_rfl⟩
abbrev slices_Clone_api_Value_api_Value : Nat := 106
theorem slices_Clone_api_Value_api_Value_is : FnIs PP 106 (Tryz.f106.body.getD .skip) 8 1 Tryz.f106.results.toList := ⟨⟨_, Tryz.func106, by kernel_rfl, by kernel_rfl, rfl, by kernel_rfl⟩, by decide, by kernel_rfl⟩
abbrev slices_Clone_api_Pair_api_Pair : Nat := 107
theorem slices_Clone_api_Pair_api_Pair_is : FnIs PP 107 (Tryz.f107.body.getD .skip) 8 1 Tryz.f107.results.toList := ⟨⟨_, Tryz.func107, by kernel_rfl, by kernel_rfl, rfl, by kernel_rfl⟩, by decide, by kernel_rfl⟩
abbrev slices_Delete_api_Value_api_Value : Nat := 108
theorem slices_Delete_api_Value_api_Value_is : FnIs PP 108 (Tryz.f108.body.getD .skip) 33 3 Tryz.f108.results.toList := ⟨⟨_, Tryz.func108, by kernel_rfl, by kernel_rfl, rfl, by kernel_rfl⟩, by decide, by kernel_rfl⟩
abbrev slices_Delete_api_Pair_api_Pair : Nat := 109
theorem slices_Delete_api_Pair_api_Pair_is : FnIs PP 109 (Tryz.f109.body.getD .skip) 33 3 Tryz.f109.results.toList := ⟨⟨_, Tryz.func109, by kernel_rfl, by kernel_rfl, rfl, by kernel_rfl⟩, by decide, by kernel_rfl⟩
abbrev ref1_Int : Nat := 110
noncomputable abbrev ref1_Int_c : Option Code := Tryz.f110.body
theorem ref1_Int_is : FnIs PP 110 (Tryz.f110.body.getD .skip) 59 1 Tryz.f110.results.toList := ⟨⟨_, Tryz.func110, by kernel_rfl, by kernel_rfl, rfl, by kernel_rfl⟩, by decide, by kernel_rfl⟩
abbrev ref1_Stamp : Nat := 111
noncomputable abbrev ref1_Stamp_c : Option Code := Tryz.f111.body
theorem ref1_Stamp_is : FnIs PP 111 (Tryz.f111.body.getD .skip) 28 1 Tryz.f111.results.toList := ⟨⟨_, Tryz.func111, by kernel_rfl, by kernel_rfl, rfl, by kernel_rfl⟩, by decide, by kernel_rfl⟩
abbrev ref1_Valid : Nat := 112
noncomputable abbrev ref1_Valid_c : Option Code := Tryz.f112.body
theorem ref1_Valid_is : FnIs PP 112 (Tryz.f112.body.getD .skip) 23 1 Tryz.f112.results.toList := ⟨⟨_, Tryz.func112, by kernel_rfl, by kernel_rfl, rfl, by kernel_rfl⟩, by decide, by kernel_rfl⟩
abbrev slices_Clip_path_Step_path_Step : Nat := 113
theorem slices_Clip_path_Step_path_Step_is : FnIs PP 113 (Tryz.f113.body.getD .skip) 9 1 Tryz.f113.results.toList := ⟨⟨_, Tryz.func113, by kernel_rfl, by kernel_rfl, rfl, by kernel_rfl⟩, by decide, by kernel_rfl⟩
abbrev cmp_Compare_int : Nat := 114
abbrev strings_Compare : Nat := 115
abbrev utf_Put : Nat := 132
theorem utf_Put_is : FnIs PP 132 (Tryz.f132.body.getD .skip) 77 2 Tryz.f132.results.toList := ⟨⟨_, Tryz.func132, by kernel_rfl, by kernel_rfl, rfl, by kernel_rfl⟩, by decide, by kernel_rfl⟩
abbrev ref1_Put : Nat := 133
theorem ref1_Put_is : FnIs PP 133 (Tryz.f133.body.getD .skip) 64 1 Tryz.f133.results.toList := ⟨⟨_, Tryz.func133, by kernel_rfl, by kernel_rfl, rfl, by kernel_rfl⟩, by decide, by kernel_rfl⟩
abbrev ref1_Form : Nat := 135
theorem ref1_Form_is : FnIs PP 135 (Tryz.f135.body.getD .skip) 30 1 Tryz.f135.results.toList := ⟨⟨_, Tryz.func135, by kernel_rfl, by kernel_rfl, rfl, by kernel_rfl⟩, by decide, by kernel_rfl⟩
abbrev ref1_parts : Nat := 136
noncomputable abbrev ref1_parts_c : Option Code := Tryz.f136.body
theorem ref1_parts_is : FnIs PP 136 (Tryz.f136.body.getD .skip) 106 1 Tryz.f136.results.toList := ⟨⟨_, Tryz.func136, by kernel_rfl, by kernel_rfl, rfl, by kernel_rfl⟩, by decide, by kernel_rfl⟩
abbrev ref1_power : Nat := 137
noncomputable abbrev ref1_power_c : Option Code := Tryz.f137.body
theorem ref1_power_is : FnIs PP 137 (Tryz.f137.body.getD .skip) 36 1 Tryz.f137.results.toList := ⟨⟨_, Tryz.func137, by kernel_rfl, by kernel_rfl, rfl, by kernel_rfl⟩, by decide, by kernel_rfl⟩
abbrev strings_Trim : Nat := 141
abbrev internal_abi_NoEscape : Nat := 151
abbrev utf_Good : Nat := 171
theorem utf_Good_is : FnIs PP 171 (Tryz.f171.body.getD .skip) 17 1 Tryz.f171.results.toList := ⟨⟨_, Tryz.func171, by kernel_rfl, by kernel_rfl, rfl, by kernel_rfl⟩, by decide, by kernel_rfl⟩
abbrev utf_size : Nat := 172
theorem utf_size_is : FnIs PP 172 (Tryz.f172.body.getD .skip) 12 1 Tryz.f172.results.toList := ⟨⟨_, Tryz.func172, by kernel_rfl, by kernel_rfl, rfl, by kernel_rfl⟩, by decide, by kernel_rfl⟩
abbrev ref1_Good : Nat := 174
theorem ref1_Good_is : FnIs PP 174 (Tryz.f174.body.getD .skip) 17 1 Tryz.f174.results.toList := ⟨⟨_, Tryz.func174, by kernel_rfl, by kernel_rfl, rfl, by kernel_rfl⟩, by decide, by kernel_rfl⟩
abbrev ref1_run : Nat := 175
noncomputable abbrev ref1_run_c : Option Code := Tryz.f175.body
theorem ref1_run_is : FnIs PP 175 (Tryz.f175.body.getD .skip) 17 1 Tryz.f175.results.toList := ⟨⟨_, Tryz.func175, by kernel_rfl, by kernel_rfl, rfl, by kernel_rfl⟩, by decide, by kernel_rfl⟩
abbrev ref1_digit : Nat := 176
theorem ref1_digit_is : FnIs PP 176 (Tryz.f176.body.getD .skip) 9 1 Tryz.f176.results.toList := ⟨⟨_, Tryz.func176, by kernel_rfl, by kernel_rfl, rfl, by kernel_rfl⟩, by decide, by kernel_rfl⟩
def ref1_Same_t13 : List Nat × List Nat × List Nat := ([0, 1, 0, 7, 15, 31, 0, 64, 0, 448, 960, 1984, 4095, 8191, 16383, 32767, 16383, 131071, 262143, 524287, 16383, 1064959, 16383, 7356415, 15745023, 32522239, 16383, 134217727, 268435455, 536870911], [0, 1, 2, 3, 4, 5, 6, 7, 8, 9, 10, 11, 12, 13, 14, 15, 16, 17, 18, 19, 20, 21, 22, 23, 24, 25, 26, 28, 29], [27])
def ref1_plain_t28 : List Nat × List Nat × List Nat := ([0, 1, 0, 7, 15, 31, 63, 127, 255, 511, 1023, 2047, 4095, 8191, 4095, 32767, 65535, 131071, 4095, 266239, 4095, 1052671, 3936255, 8130559, 16519167, 33554431, 67108863, 134217727, 268435455, 536870911, 1073741823, 536870911, 4294967295, 8589934591, 17179869183, 34359738367, 68719476735, 137438953471], [0, 1, 2, 3, 4, 5, 7, 8, 9, 10, 11, 12, 13, 14, 15, 16, 17, 18, 19, 20, 21, 22, 23, 24, 25, 26, 27, 28, 29, 30, 31, 32, 33, 34, 36, 37], [6, 35])
end F
end Go.Proofs.YthkoefpidnphpaaGreatDoor
end

section
namespace Go.Proofs.YthkoefpidnphpaaGreatDoor
open Go Go.Am Go.RowKit
def GG : Nat → Option PV := fun g => match Nat.beq g Gl.internal_strconv_uint64pow10 with
  | true => some (tabV .u64 ([1, 10, 100, 1000, 10000, 100000, 1000000, 10000000, 100000000, 1000000000, 10000000000, 100000000000, 1000000000000, 10000000000000, 100000000000000, 1000000000000000, 10000000000000000, 100000000000000000, 1000000000000000000, 10000000000000000000]))
  | false => match Nat.beq g Gl.strconv_ErrSyntax with
    | true => some (.iface T.ptr_errors_errorString .anyp)
    | false => match Nat.beq g Gl.strconv_ErrRange with
      | true => some (.iface T.ptr_errors_errorString .anyp)
      | false => match Nat.beq g Gl.internal_bytealg_MaxLen with
        | true => some (.anyi .i64)
        | false => none
theorem pow10_lit : Lib.pow10Tab = [1, 10, 100, 1000, 10000, 100000, 1000000, 10000000, 100000000, 1000000000, 10000000000, 100000000000, 1000000000000, 10000000000000, 100000000000000, 1000000000000000, 10000000000000000, 100000000000000000, 1000000000000000000, 10000000000000000000] := by decide
theorem gPow : PP.globalNamed "internal/strconv.uint64pow10" = some Gl.internal_strconv_uint64pow10 := by kernel_rfl
def polG : Pol := { keepR := fun f => Nat.beq f F.utf_Put, byref := fun _ => false, mask := fun _ _ => none }
def polC (l : List Nat) : Pol := { keepR := fun f => Nat.beq f F.utf_Put, byref := fun _ => false, mask := fun _ _ => none, cut := cutAt l }
def ngOk (P : Program) : Bool := P.funcs.all fun fn => !(fn.name == "runtime.NumGoroutine")
theorem ngP (f : Nat) (fn : Func) (h : PP.funcs[f]? = some fn) : (fn.name == "runtime.NumGoroutine") = false := by
  have h0 : ngOk PP = true := by kernel_rfl
  unfold ngOk at h0
  rw [Array.all_eq_true_iff_forall_mem] at h0
  simpa using h0 fn (Array.mem_of_getElem? h)
theorem vrel3 {B : Nat → Prop} {L : Am.Loc} {w : World} {x y z : V} {vs : List Value} (h : VRelL B L w [x, y, z] vs) : ∃ v u t, vs = [v, u, t] ∧ VRel B L w x v ∧ VRel B L w y u ∧ VRel B L w z t := by
  match vs, h with
  | [v, u, t], h => exact ⟨v, u, t, rfl, h.2 0 _ _ rfl rfl, h.2 1 _ _ rfl rfl, h.2 2 _ _ rfl rfl⟩
  | [], h => have := h.1; simp at this
  | [_], h => have := h.1; simp at this
  | [_, _], h => have := h.1; simp at this
  | _ :: _ :: _ :: _ :: _, h => have := h.1; simp at this
end Go.Proofs.YthkoefpidnphpaaGreatDoor
end

section
namespace Go.Proofs
open Go.Shelf
def Tryz.lays160_ren : Go.Shelf.Ren := ⟨fun | 160 => 141 | 232 => 181 | 231 => 158 | 227 => 159 | 234 => 182 | 233 => 160 | 236 => 183 | 235 => 161 | 228 => 198 | 271 => 209 | 151 => 199 | 197 => 178 | 120 => 227 | 152 => 202 | 260 => 205 | 137 => 131 | 119 => 225 | 224 => 207 | 225 => 206 | 217 => 173 | 266 => 204 | n => n, fun | 9 => 9 | 4 => 4 | 3 => 3 | 5 => 5 | 117 => 170 | 116 => 169 | 0 => 0 | 124 => 173 | 21 => 21 | 105 => 178 | 46 => 150 | 119 => 211 | 139 => 214 | 138 => 213 | n => n, fun | 3 => 3 | 4 => 4 | n => n⟩
theorem Tryz.lays160 : Go.Proofs.Lays.n160 Tryz.prog Tryz.lays160_ren := {
  mixed := by kernel_rfl
  f119 := Tryz.func225.trans (congrArg some (by kernel_rfl))
  f120 := Tryz.func227.trans (congrArg some (by kernel_rfl))
  f137 := Tryz.func131.trans (congrArg some (by kernel_rfl))
  f151 := Tryz.func199.trans (congrArg some (by kernel_rfl))
  f152 := Tryz.func202.trans (congrArg some (by kernel_rfl))
  f160 := Tryz.func141.trans (congrArg some (by kernel_rfl))
  f197 := Tryz.func178.trans (congrArg some (by kernel_rfl))
  f217 := Tryz.func173.trans (congrArg some (by kernel_rfl))
  f224 := Tryz.func207.trans (congrArg some (by kernel_rfl))
  f225 := Tryz.func206.trans (congrArg some (by kernel_rfl))
  f227 := Tryz.func159.trans (congrArg some (by kernel_rfl))
  f228 := Tryz.func198.trans (congrArg some (by kernel_rfl))
  f231 := Tryz.func158.trans (congrArg some (by kernel_rfl))
  f232 := Tryz.func181.trans (congrArg some (by kernel_rfl))
  f233 := Tryz.func160.trans (congrArg some (by kernel_rfl))
  f234 := Tryz.func182.trans (congrArg some (by kernel_rfl))
  f235 := Tryz.func161.trans (congrArg some (by kernel_rfl))
  f236 := Tryz.func183.trans (congrArg some (by kernel_rfl))
  f260 := Tryz.func205.trans (congrArg some (by kernel_rfl))
  f266 := Tryz.func204.trans (congrArg some (by kernel_rfl))
  f271 := Tryz.func209.trans (congrArg some (by kernel_rfl))
  t0 := Tryz.underlying0
  a0 := Tryz.isAgg0
  z0 := Tryz.sizeOf0
  v0 := Tryz.zeroValue0
  t3 := Tryz.underlying3
  a3 := Tryz.isAgg3
  z3 := Tryz.sizeOf3
  v3 := Tryz.zeroValue3
  t4 := Tryz.underlying4
  a4 := Tryz.isAgg4
  z4 := Tryz.sizeOf4
  v4 := Tryz.zeroValue4
  t5 := Tryz.underlying5
  a5 := Tryz.isAgg5
  z5 := Tryz.sizeOf5
  v5 := Tryz.zeroValue5
  t9 := Tryz.underlying9
  a9 := Tryz.isAgg9
  z9 := Tryz.sizeOf9
  v9 := Tryz.zeroValue9
  t21 := Tryz.underlying21
  a21 := Tryz.isAgg21
  z21 := Tryz.sizeOf21
  v21 := Tryz.zeroValue21
  t46 := Tryz.underlying150
  a46 := Tryz.isAgg150
  z46 := Tryz.sizeOf150
  v46 := Tryz.zeroValue150
  t105 := Tryz.underlying178
  a105 := Tryz.isAgg178
  z105 := Tryz.sizeOf178
  v105 := Tryz.zeroValue178
  t116 := Tryz.underlying169
  a116 := Tryz.isAgg169
  z116 := Tryz.sizeOf169
  t117 := Tryz.underlying170
  a117 := Tryz.isAgg170
  z117 := Tryz.sizeOf170
  v117 := Tryz.zeroValue170
  t119 := Tryz.underlying211
  a119 := Tryz.isAgg211
  z119 := Tryz.sizeOf211
  t124 := Tryz.underlying173
  a124 := Tryz.isAgg173
  z124 := Tryz.sizeOf173
  v124 := Tryz.zeroValue173
  t138 := Tryz.underlying213
  a138 := Tryz.isAgg213
  z138 := Tryz.sizeOf213
  v138 := Tryz.zeroValue213
  t139 := Tryz.underlying214
  a139 := Tryz.isAgg214
  z139 := Tryz.sizeOf214
  v139 := Tryz.zeroValue214
  g3 := by kernel_rfl
  g4 := by kernel_rfl }
def Tryz.lays106_ren : Go.Shelf.Ren := ⟨fun | 106 => 115 | 213 => 150 | 265 => 192 | n => n, fun | 9 => 9 | 3 => 3 | n => n, fun | n => n⟩
theorem Tryz.lays106 : Go.Proofs.Lays.n106 Tryz.prog Tryz.lays106_ren := {
  mixed := by kernel_rfl
  f106 := Tryz.func115.trans (congrArg some (by kernel_rfl))
  f213 := Tryz.func150.trans (congrArg some (by kernel_rfl))
  f265 := Tryz.func192.trans (congrArg some (by kernel_rfl))
  t3 := Tryz.underlying3
  a3 := Tryz.isAgg3
  z3 := Tryz.sizeOf3
  v3 := Tryz.zeroValue3
  t9 := Tryz.underlying9
  a9 := Tryz.isAgg9
  z9 := Tryz.sizeOf9
  v9 := Tryz.zeroValue9 }
def Tryz.lays122_ren : Go.Shelf.Ren := ⟨fun | 122 => 114 | 215 => 149 | n => n, fun | 3 => 3 | 4 => 4 | n => n, fun | n => n⟩
theorem Tryz.lays122 : Go.Proofs.Lays.n122 Tryz.prog Tryz.lays122_ren := {
  mixed := by kernel_rfl
  f122 := Tryz.func114.trans (congrArg some (by kernel_rfl))
  f215 := Tryz.func149.trans (congrArg some (by kernel_rfl))
  t3 := Tryz.underlying3
  a3 := Tryz.isAgg3
  z3 := Tryz.sizeOf3
  v3 := Tryz.zeroValue3
  t4 := Tryz.underlying4
  a4 := Tryz.isAgg4
  z4 := Tryz.sizeOf4
  v4 := Tryz.zeroValue4 }
def Tryz.laysM171_ren : Go.Shelf.Ren := ⟨fun | 171 => 100 | 243 => 146 | 246 => 189 | 283 => 213 | 284 => 214 | 285 => 215 | 286 => 216 | 129 => 231 | 317 => 230 | 318 => 232 | 319 => 233 | 320 => 234 | 337 => 237 | 338 => 238 | n => n, fun | 3 => 3 | 9 => 9 | 2 => 2 | 4 => 4 | 171 => 201 | 0 => 0 | 53 => 195 | 37 => 74 | 5 => 5 | 173 => 204 | 212 => 223 | 51 => 215 | 20 => 20 | 213 => 224 | 46 => 150 | 232 => 228 | 233 => 229 | n => n, fun | 17 => 5 | 18 => 6 | 19 => 7 | n => n⟩
theorem Tryz.laysM171 : Go.Proofs.LaysM.n171 Tryz.prog Tryz.laysM171_ren := {
  mixed := by kernel_rfl
  f129 := Tryz.func231.trans (congrArg some (by kernel_rfl))
  f171 := Tryz.func100.trans (congrArg some (by kernel_rfl))
  f243 := Tryz.func146.trans (congrArg some (by kernel_rfl))
  f246 := Tryz.func189.trans (congrArg some (by kernel_rfl))
  f283 := Tryz.func213.trans (congrArg some (by kernel_rfl))
  f284 := Tryz.func214.trans (congrArg some (by kernel_rfl))
  f285 := Tryz.func215.trans (congrArg some (by kernel_rfl))
  f286 := Tryz.func216.trans (congrArg some (by kernel_rfl))
  f317 := Tryz.func230.trans (congrArg some (by kernel_rfl))
  f318 := Tryz.func232.trans (congrArg some (by kernel_rfl))
  f319 := Tryz.func233.trans (congrArg some (by kernel_rfl))
  f320 := Tryz.func234.trans (congrArg some (by kernel_rfl))
  f337 := Tryz.func237.trans (congrArg some (by kernel_rfl))
  f338 := Tryz.func238.trans (congrArg some (by kernel_rfl))
  t0 := Tryz.underlying0
  a0 := Tryz.isAgg0
  z0 := Tryz.sizeOf0
  v0 := Tryz.zeroValue0
  t2 := Tryz.underlying2
  a2 := Tryz.isAgg2
  z2 := Tryz.sizeOf2
  v2 := Tryz.zeroValue2
  t3 := Tryz.underlying3
  a3 := Tryz.isAgg3
  z3 := Tryz.sizeOf3
  v3 := Tryz.zeroValue3
  t4 := Tryz.underlying4
  a4 := Tryz.isAgg4
  z4 := Tryz.sizeOf4
  v4 := Tryz.zeroValue4
  t5 := Tryz.underlying5
  a5 := Tryz.isAgg5
  z5 := Tryz.sizeOf5
  v5 := Tryz.zeroValue5
  t9 := Tryz.underlying9
  a9 := Tryz.isAgg9
  z9 := Tryz.sizeOf9
  v9 := Tryz.zeroValue9
  t20 := Tryz.underlying20
  a20 := Tryz.isAgg20
  z20 := Tryz.sizeOf20
  v20 := Tryz.zeroValue20
  t37 := Tryz.underlying74
  a37 := Tryz.isAgg74
  z37 := Tryz.sizeOf74
  v37 := Tryz.zeroValue74
  t46 := Tryz.underlying150
  a46 := Tryz.isAgg150
  z46 := Tryz.sizeOf150
  v46 := Tryz.zeroValue150
  t51 := Tryz.underlying215
  a51 := Tryz.isAgg215
  z51 := Tryz.sizeOf215
  v51 := Tryz.zeroValue215
  t53 := Tryz.underlying195
  a53 := Tryz.isAgg195
  z53 := Tryz.sizeOf195
  v53 := Tryz.zeroValue195
  t171 := Tryz.underlying201
  a171 := Tryz.isAgg201
  z171 := Tryz.sizeOf201
  v171 := Tryz.zeroValue201
  t173 := Tryz.underlying204
  a173 := Tryz.isAgg204
  z173 := Tryz.sizeOf204
  v173 := Tryz.zeroValue204
  t212 := Tryz.underlying223
  a212 := Tryz.isAgg223
  z212 := Tryz.sizeOf223
  v212 := Tryz.zeroValue223
  t213 := Tryz.underlying224
  a213 := Tryz.isAgg224
  z213 := Tryz.sizeOf224
  t232 := Tryz.underlying228
  a232 := Tryz.isAgg228
  z232 := Tryz.sizeOf228
  v232 := Tryz.zeroValue228
  t233 := Tryz.underlying229
  a233 := Tryz.isAgg229
  z233 := Tryz.sizeOf229
  v233 := Tryz.zeroValue229
  g17 := by kernel_rfl
  g18 := by kernel_rfl
  g19 := by kernel_rfl
  i0 := by kernel_rfl
  i2 := by kernel_rfl
  i3 := by kernel_rfl
  i4 := by kernel_rfl
  i5 := by kernel_rfl
  i9 := by kernel_rfl
  i20 := by kernel_rfl
  i37 := by kernel_rfl
  i46 := by kernel_rfl
  i51 := by kernel_rfl
  i53 := by kernel_rfl
  i171 := by kernel_rfl
  i173 := by kernel_rfl
  i212 := by kernel_rfl
  i232 := by kernel_rfl
  i233 := by kernel_rfl
  m17 := by kernel_rfl
  m18 := by kernel_rfl
  m19 := by kernel_rfl }
def Tryz.laysC172_ren : Go.Shelf.Ren := ⟨fun | 172 => 97 | 244 => 142 | 245 => 143 | 247 => 184 | 279 => 185 | 280 => 186 | 281 => 187 | 282 => 188 | 287 => 210 | 316 => 211 | 171 => 100 | 205 => 212 | 321 => 228 | 322 => 229 | 243 => 146 | 246 => 189 | 283 => 213 | 284 => 214 | 285 => 215 | 286 => 216 | 129 => 231 | 317 => 230 | 318 => 232 | 319 => 233 | 320 => 234 | 337 => 237 | 338 => 238 | n => n, fun | 9 => 9 | 3 => 3 | 75 => 105 | 76 => 106 | 4 => 4 | 5 => 5 | 167 => 180 | 37 => 74 | 0 => 0 | 85 => 181 | 2 => 2 | 168 => 183 | 53 => 195 | 175 => 196 | 46 => 150 | 210 => 199 | 127 => 109 | 145 => 221 | 143 => 219 | 21 => 21 | 171 => 201 | 173 => 204 | 212 => 223 | 51 => 215 | 20 => 20 | 213 => 224 | 232 => 228 | 233 => 229 | 80 => 80 | n => n, fun | 15 => 1 | 16 => 2 | 17 => 5 | 18 => 6 | 19 => 7 | n => n⟩
theorem Tryz.laysC172 : Go.Proofs.LaysC.n172 Tryz.prog Tryz.laysC172_ren := {
  mixed := by kernel_rfl
  f129 := Tryz.func231.trans (congrArg some (by kernel_rfl))
  f171 := Tryz.func100.trans (congrArg some (by kernel_rfl))
  f172 := Tryz.func97.trans (congrArg some (by kernel_rfl))
  f205 := Tryz.func212.trans (congrArg some (by kernel_rfl))
  f243 := Tryz.func146.trans (congrArg some (by kernel_rfl))
  f244 := Tryz.func142.trans (congrArg some (by kernel_rfl))
  f245 := Tryz.func143.trans (congrArg some (by kernel_rfl))
  f246 := Tryz.func189.trans (congrArg some (by kernel_rfl))
  f247 := Tryz.func184.trans (congrArg some (by kernel_rfl))
  f279 := Tryz.func185.trans (congrArg some (by kernel_rfl))
  f280 := Tryz.func186.trans (congrArg some (by kernel_rfl))
  f281 := Tryz.func187.trans (congrArg some (by kernel_rfl))
  f282 := Tryz.func188.trans (congrArg some (by kernel_rfl))
  f283 := Tryz.func213.trans (congrArg some (by kernel_rfl))
  f284 := Tryz.func214.trans (congrArg some (by kernel_rfl))
  f285 := Tryz.func215.trans (congrArg some (by kernel_rfl))
  f286 := Tryz.func216.trans (congrArg some (by kernel_rfl))
  f287 := Tryz.func210.trans (congrArg some (by kernel_rfl))
  f316 := Tryz.func211.trans (congrArg some (by kernel_rfl))
  f317 := Tryz.func230.trans (congrArg some (by kernel_rfl))
  f318 := Tryz.func232.trans (congrArg some (by kernel_rfl))
  f319 := Tryz.func233.trans (congrArg some (by kernel_rfl))
  f320 := Tryz.func234.trans (congrArg some (by kernel_rfl))
  f321 := Tryz.func228.trans (congrArg some (by kernel_rfl))
  f322 := Tryz.func229.trans (congrArg some (by kernel_rfl))
  f337 := Tryz.func237.trans (congrArg some (by kernel_rfl))
  f338 := Tryz.func238.trans (congrArg some (by kernel_rfl))
  t0 := Tryz.underlying0
  a0 := Tryz.isAgg0
  z0 := Tryz.sizeOf0
  v0 := Tryz.zeroValue0
  t2 := Tryz.underlying2
  a2 := Tryz.isAgg2
  z2 := Tryz.sizeOf2
  v2 := Tryz.zeroValue2
  t3 := Tryz.underlying3
  a3 := Tryz.isAgg3
  z3 := Tryz.sizeOf3
  v3 := Tryz.zeroValue3
  t4 := Tryz.underlying4
  a4 := Tryz.isAgg4
  z4 := Tryz.sizeOf4
  v4 := Tryz.zeroValue4
  t5 := Tryz.underlying5
  a5 := Tryz.isAgg5
  z5 := Tryz.sizeOf5
  v5 := Tryz.zeroValue5
  t9 := Tryz.underlying9
  a9 := Tryz.isAgg9
  z9 := Tryz.sizeOf9
  v9 := Tryz.zeroValue9
  t20 := Tryz.underlying20
  a20 := Tryz.isAgg20
  z20 := Tryz.sizeOf20
  v20 := Tryz.zeroValue20
  t21 := Tryz.underlying21
  a21 := Tryz.isAgg21
  z21 := Tryz.sizeOf21
  v21 := Tryz.zeroValue21
  t37 := Tryz.underlying74
  a37 := Tryz.isAgg74
  z37 := Tryz.sizeOf74
  v37 := Tryz.zeroValue74
  t46 := Tryz.underlying150
  a46 := Tryz.isAgg150
  z46 := Tryz.sizeOf150
  v46 := Tryz.zeroValue150
  t51 := Tryz.underlying215
  a51 := Tryz.isAgg215
  z51 := Tryz.sizeOf215
  v51 := Tryz.zeroValue215
  t53 := Tryz.underlying195
  a53 := Tryz.isAgg195
  z53 := Tryz.sizeOf195
  v53 := Tryz.zeroValue195
  t75 := Tryz.underlying105
  a75 := Tryz.isAgg105
  z75 := Tryz.sizeOf105
  v75 := Tryz.zeroValue105
  t76 := Tryz.underlying106
  a76 := Tryz.isAgg106
  z76 := Tryz.sizeOf106
  v76 := Tryz.zeroValue106
  t85 := Tryz.underlying181
  a85 := Tryz.isAgg181
  z85 := Tryz.sizeOf181
  v85 := Tryz.zeroValue181
  t127 := Tryz.underlying109
  a127 := Tryz.isAgg109
  z127 := Tryz.sizeOf109
  v127 := Tryz.zeroValue109
  t143 := Tryz.underlying219
  a143 := Tryz.isAgg219
  z143 := Tryz.sizeOf219
  v143 := Tryz.zeroValue219
  t145 := Tryz.underlying221
  a145 := Tryz.isAgg221
  z145 := Tryz.sizeOf221
  v145 := Tryz.zeroValue221
  t167 := Tryz.underlying180
  a167 := Tryz.isAgg180
  z167 := Tryz.sizeOf180
  v167 := Tryz.zeroValue180
  t168 := Tryz.underlying183
  a168 := Tryz.isAgg183
  z168 := Tryz.sizeOf183
  v168 := Tryz.zeroValue183
  t171 := Tryz.underlying201
  a171 := Tryz.isAgg201
  z171 := Tryz.sizeOf201
  v171 := Tryz.zeroValue201
  t173 := Tryz.underlying204
  a173 := Tryz.isAgg204
  z173 := Tryz.sizeOf204
  v173 := Tryz.zeroValue204
  t175 := Tryz.underlying196
  a175 := Tryz.isAgg196
  z175 := Tryz.sizeOf196
  v175 := Tryz.zeroValue196
  t210 := Tryz.underlying199
  a210 := Tryz.isAgg199
  z210 := Tryz.sizeOf199
  v210 := Tryz.zeroValue199
  t212 := Tryz.underlying223
  a212 := Tryz.isAgg223
  z212 := Tryz.sizeOf223
  v212 := Tryz.zeroValue223
  t213 := Tryz.underlying224
  a213 := Tryz.isAgg224
  z213 := Tryz.sizeOf224
  t232 := Tryz.underlying228
  a232 := Tryz.isAgg228
  z232 := Tryz.sizeOf228
  v232 := Tryz.zeroValue228
  t233 := Tryz.underlying229
  a233 := Tryz.isAgg229
  z233 := Tryz.sizeOf229
  v233 := Tryz.zeroValue229
  g15 := by kernel_rfl
  g16 := by kernel_rfl
  g17 := by kernel_rfl
  g18 := by kernel_rfl
  g19 := by kernel_rfl
  t80 := Tryz.underlying80
  a80 := Tryz.isAgg80
  z80 := Tryz.sizeOf80
  v80 := Tryz.zeroValue80
  i0 := by kernel_rfl
  i2 := by kernel_rfl
  i3 := by kernel_rfl
  i4 := by kernel_rfl
  i5 := by kernel_rfl
  i9 := by kernel_rfl
  i20 := by kernel_rfl
  i21 := by kernel_rfl
  i37 := by kernel_rfl
  i46 := by kernel_rfl
  i51 := by kernel_rfl
  i53 := by kernel_rfl
  i75 := by kernel_rfl
  i76 := by kernel_rfl
  i80 := by kernel_rfl
  i85 := by kernel_rfl
  i127 := by kernel_rfl
  i143 := by kernel_rfl
  i145 := by kernel_rfl
  i167 := by kernel_rfl
  i168 := by kernel_rfl
  i171 := by kernel_rfl
  i173 := by kernel_rfl
  i175 := by kernel_rfl
  i210 := by kernel_rfl
  i212 := by kernel_rfl
  i232 := by kernel_rfl
  i233 := by kernel_rfl
  m15 := by kernel_rfl
  m16 := by kernel_rfl
  m17 := by kernel_rfl
  m18 := by kernel_rfl
  m19 := by kernel_rfl
  c0 := by kernel_rfl
  c2 := by kernel_rfl
  c3 := by kernel_rfl
  c4 := by kernel_rfl
  c5 := by kernel_rfl
  c9 := by kernel_rfl
  c20 := by kernel_rfl
  c21 := by kernel_rfl
  c37 := by kernel_rfl
  c46 := by kernel_rfl
  c51 := by kernel_rfl
  c53 := by kernel_rfl
  c75 := by kernel_rfl
  c76 := by kernel_rfl
  c80 := by kernel_rfl
  c85 := by kernel_rfl
  c127 := by kernel_rfl
  c143 := by kernel_rfl
  c145 := by kernel_rfl
  c167 := by kernel_rfl
  c168 := by kernel_rfl
  c171 := by kernel_rfl
  c173 := by kernel_rfl
  c175 := by kernel_rfl
  c210 := by kernel_rfl
  c212 := by kernel_rfl
  c213 := by kernel_rfl
  c232 := by kernel_rfl
  c233 := by kernel_rfl }
def Tryz.lays99_ren : Go.Shelf.Ren := ⟨fun | 99 => 101 | 206 => 147 | n => n, fun | 9 => 9 | 4 => 4 | 3 => 3 | n => n, fun | n => n⟩
theorem Tryz.lays99 : Go.Proofs.Lays.n99 Tryz.prog Tryz.lays99_ren := {
  mixed := by kernel_rfl
  f99 := Tryz.func101.trans (congrArg some (by kernel_rfl))
  f206 := Tryz.func147.trans (congrArg some (by kernel_rfl))
  t3 := Tryz.underlying3
  a3 := Tryz.isAgg3
  z3 := Tryz.sizeOf3
  v3 := Tryz.zeroValue3
  t4 := Tryz.underlying4
  a4 := Tryz.isAgg4
  z4 := Tryz.sizeOf4
  v4 := Tryz.zeroValue4
  t9 := Tryz.underlying9
  a9 := Tryz.isAgg9
  z9 := Tryz.sizeOf9
  v9 := Tryz.zeroValue9 }
def Tryz.lays101_ren : Go.Shelf.Ren := ⟨fun | 101 => 98 | 208 => 144 | 206 => 147 | n => n, fun | 9 => 9 | 4 => 4 | 3 => 3 | n => n, fun | n => n⟩
theorem Tryz.lays101 : Go.Proofs.Lays.n101 Tryz.prog Tryz.lays101_ren := {
  mixed := by kernel_rfl
  f101 := Tryz.func98.trans (congrArg some (by kernel_rfl))
  f206 := Tryz.func147.trans (congrArg some (by kernel_rfl))
  f208 := Tryz.func144.trans (congrArg some (by kernel_rfl))
  t3 := Tryz.underlying3
  a3 := Tryz.isAgg3
  z3 := Tryz.sizeOf3
  v3 := Tryz.zeroValue3
  t4 := Tryz.underlying4
  a4 := Tryz.isAgg4
  z4 := Tryz.sizeOf4
  v4 := Tryz.zeroValue4
  t9 := Tryz.underlying9
  a9 := Tryz.isAgg9
  z9 := Tryz.sizeOf9
  v9 := Tryz.zeroValue9 }
def Tryz.lays146_ren : Go.Shelf.Ren := ⟨fun | 146 => 56 | 221 => 95 | 268 => 138 | 138 => 139 | 143 => 140 | 195 => 177 | 197 => 178 | 218 => 179 | 219 => 180 | 260 => 205 | 217 => 173 | 225 => 206 | 224 => 207 | 267 => 208 | 266 => 204 | 314 => 226 | n => n, fun | 9 => 9 | 31 => 87 | 3 => 3 | 4 => 4 | 0 => 0 | 105 => 178 | 21 => 21 | 5 => 5 | 46 => 150 | 119 => 211 | 139 => 214 | 138 => 213 | 146 => 216 | 51 => 215 | n => n, fun | 1 => 0 | 3 => 3 | 4 => 4 | n => n⟩
theorem Tryz.lays146 : Go.Proofs.Lays.n146 Tryz.prog Tryz.lays146_ren := {
  mixed := by kernel_rfl
  f138 := Tryz.func139.trans (congrArg some (by kernel_rfl))
  f143 := Tryz.func140.trans (congrArg some (by kernel_rfl))
  f146 := Tryz.func56.trans (congrArg some (by kernel_rfl))
  f195 := Tryz.func177.trans (congrArg some (by kernel_rfl))
  f197 := Tryz.func178.trans (congrArg some (by kernel_rfl))
  f217 := Tryz.func173.trans (congrArg some (by kernel_rfl))
  f218 := Tryz.func179.trans (congrArg some (by kernel_rfl))
  f219 := Tryz.func180.trans (congrArg some (by kernel_rfl))
  f221 := Tryz.func95.trans (congrArg some (by kernel_rfl))
  f224 := Tryz.func207.trans (congrArg some (by kernel_rfl))
  f225 := Tryz.func206.trans (congrArg some (by kernel_rfl))
  f260 := Tryz.func205.trans (congrArg some (by kernel_rfl))
  f266 := Tryz.func204.trans (congrArg some (by kernel_rfl))
  f267 := Tryz.func208.trans (congrArg some (by kernel_rfl))
  f268 := Tryz.func138.trans (congrArg some (by kernel_rfl))
  f314 := Tryz.func226.trans (congrArg some (by kernel_rfl))
  t0 := Tryz.underlying0
  a0 := Tryz.isAgg0
  z0 := Tryz.sizeOf0
  v0 := Tryz.zeroValue0
  t3 := Tryz.underlying3
  a3 := Tryz.isAgg3
  z3 := Tryz.sizeOf3
  v3 := Tryz.zeroValue3
  t4 := Tryz.underlying4
  a4 := Tryz.isAgg4
  z4 := Tryz.sizeOf4
  v4 := Tryz.zeroValue4
  t5 := Tryz.underlying5
  a5 := Tryz.isAgg5
  z5 := Tryz.sizeOf5
  v5 := Tryz.zeroValue5
  t9 := Tryz.underlying9
  a9 := Tryz.isAgg9
  z9 := Tryz.sizeOf9
  v9 := Tryz.zeroValue9
  t21 := Tryz.underlying21
  a21 := Tryz.isAgg21
  z21 := Tryz.sizeOf21
  v21 := Tryz.zeroValue21
  t31 := Tryz.underlying87
  a31 := Tryz.isAgg87
  z31 := Tryz.sizeOf87
  v31 := Tryz.zeroValue87
  t46 := Tryz.underlying150
  a46 := Tryz.isAgg150
  z46 := Tryz.sizeOf150
  v46 := Tryz.zeroValue150
  t51 := Tryz.underlying215
  a51 := Tryz.isAgg215
  z51 := Tryz.sizeOf215
  v51 := Tryz.zeroValue215
  t105 := Tryz.underlying178
  a105 := Tryz.isAgg178
  z105 := Tryz.sizeOf178
  v105 := Tryz.zeroValue178
  t119 := Tryz.underlying211
  a119 := Tryz.isAgg211
  z119 := Tryz.sizeOf211
  t138 := Tryz.underlying213
  a138 := Tryz.isAgg213
  z138 := Tryz.sizeOf213
  v138 := Tryz.zeroValue213
  t139 := Tryz.underlying214
  a139 := Tryz.isAgg214
  z139 := Tryz.sizeOf214
  v139 := Tryz.zeroValue214
  t146 := Tryz.underlying216
  a146 := Tryz.isAgg216
  z146 := Tryz.sizeOf216
  v146 := Tryz.zeroValue216
  g1 := by kernel_rfl
  g3 := by kernel_rfl
  g4 := by kernel_rfl }
def Tryz.lays155_ren : Go.Shelf.Ren := ⟨fun | 155 => 99 | 154 => 145 | 138 => 139 | 165 => 153 | 143 => 140 | 166 => 72 | 197 => 178 | 169 => 45 | 195 => 177 | 218 => 179 | 240 => 116 | 241 => 193 | 219 => 180 | 260 => 205 | 276 => 151 | 277 => 218 | 217 => 173 | 225 => 206 | 224 => 207 | 267 => 208 | 266 => 204 | 314 => 226 | n => n, fun | 9 => 9 | 3 => 3 | 4 => 4 | 72 => 76 | 0 => 0 | 76 => 106 | 105 => 178 | 21 => 21 | 5 => 5 | 70 => 73 | 20 => 20 | 37 => 74 | 75 => 105 | 127 => 109 | 164 => 163 | 46 => 150 | 119 => 211 | 139 => 214 | 138 => 213 | 146 => 216 | 51 => 215 | 80 => 80 | n => n, fun | 1 => 0 | 3 => 3 | 4 => 4 | n => n⟩
theorem Tryz.lays155 : Go.Proofs.Lays.n155 Tryz.prog Tryz.lays155_ren := {
  mixed := by kernel_rfl
  f138 := Tryz.func139.trans (congrArg some (by kernel_rfl))
  f143 := Tryz.func140.trans (congrArg some (by kernel_rfl))
  f154 := Tryz.func145.trans (congrArg some (by kernel_rfl))
  f155 := Tryz.func99.trans (congrArg some (by kernel_rfl))
  f165 := Tryz.func153.trans (congrArg some (by kernel_rfl))
  f166 := Tryz.func72.trans (congrArg some (by kernel_rfl))
  f169 := Tryz.func45.trans (congrArg some (by kernel_rfl))
  f195 := Tryz.func177.trans (congrArg some (by kernel_rfl))
  f197 := Tryz.func178.trans (congrArg some (by kernel_rfl))
  f217 := Tryz.func173.trans (congrArg some (by kernel_rfl))
  f218 := Tryz.func179.trans (congrArg some (by kernel_rfl))
  f219 := Tryz.func180.trans (congrArg some (by kernel_rfl))
  f224 := Tryz.func207.trans (congrArg some (by kernel_rfl))
  f225 := Tryz.func206.trans (congrArg some (by kernel_rfl))
  f240 := Tryz.func116.trans (congrArg some (by kernel_rfl))
  f241 := Tryz.func193.trans (congrArg some (by kernel_rfl))
  f260 := Tryz.func205.trans (congrArg some (by kernel_rfl))
  f266 := Tryz.func204.trans (congrArg some (by kernel_rfl))
  f267 := Tryz.func208.trans (congrArg some (by kernel_rfl))
  f276 := Tryz.func151.trans (congrArg some (by kernel_rfl))
  f277 := Tryz.func218.trans (congrArg some (by kernel_rfl))
  f314 := Tryz.func226.trans (congrArg some (by kernel_rfl))
  t0 := Tryz.underlying0
  a0 := Tryz.isAgg0
  z0 := Tryz.sizeOf0
  v0 := Tryz.zeroValue0
  t3 := Tryz.underlying3
  a3 := Tryz.isAgg3
  z3 := Tryz.sizeOf3
  v3 := Tryz.zeroValue3
  t4 := Tryz.underlying4
  a4 := Tryz.isAgg4
  z4 := Tryz.sizeOf4
  v4 := Tryz.zeroValue4
  t5 := Tryz.underlying5
  a5 := Tryz.isAgg5
  z5 := Tryz.sizeOf5
  v5 := Tryz.zeroValue5
  t9 := Tryz.underlying9
  a9 := Tryz.isAgg9
  z9 := Tryz.sizeOf9
  v9 := Tryz.zeroValue9
  t20 := Tryz.underlying20
  a20 := Tryz.isAgg20
  z20 := Tryz.sizeOf20
  v20 := Tryz.zeroValue20
  t21 := Tryz.underlying21
  a21 := Tryz.isAgg21
  z21 := Tryz.sizeOf21
  v21 := Tryz.zeroValue21
  t37 := Tryz.underlying74
  a37 := Tryz.isAgg74
  z37 := Tryz.sizeOf74
  v37 := Tryz.zeroValue74
  t46 := Tryz.underlying150
  a46 := Tryz.isAgg150
  z46 := Tryz.sizeOf150
  v46 := Tryz.zeroValue150
  t51 := Tryz.underlying215
  a51 := Tryz.isAgg215
  z51 := Tryz.sizeOf215
  v51 := Tryz.zeroValue215
  t70 := Tryz.underlying73
  a70 := Tryz.isAgg73
  z70 := Tryz.sizeOf73
  v70 := Tryz.zeroValue73
  t72 := Tryz.underlying76
  a72 := Tryz.isAgg76
  z72 := Tryz.sizeOf76
  v72 := Tryz.zeroValue76
  t75 := Tryz.underlying105
  a75 := Tryz.isAgg105
  z75 := Tryz.sizeOf105
  v75 := Tryz.zeroValue105
  t76 := Tryz.underlying106
  a76 := Tryz.isAgg106
  z76 := Tryz.sizeOf106
  v76 := Tryz.zeroValue106
  t105 := Tryz.underlying178
  a105 := Tryz.isAgg178
  z105 := Tryz.sizeOf178
  v105 := Tryz.zeroValue178
  t119 := Tryz.underlying211
  a119 := Tryz.isAgg211
  z119 := Tryz.sizeOf211
  t127 := Tryz.underlying109
  a127 := Tryz.isAgg109
  z127 := Tryz.sizeOf109
  v127 := Tryz.zeroValue109
  t138 := Tryz.underlying213
  a138 := Tryz.isAgg213
  z138 := Tryz.sizeOf213
  v138 := Tryz.zeroValue213
  t139 := Tryz.underlying214
  a139 := Tryz.isAgg214
  z139 := Tryz.sizeOf214
  v139 := Tryz.zeroValue214
  t146 := Tryz.underlying216
  a146 := Tryz.isAgg216
  z146 := Tryz.sizeOf216
  v146 := Tryz.zeroValue216
  t164 := Tryz.underlying163
  a164 := Tryz.isAgg163
  z164 := Tryz.sizeOf163
  v164 := Tryz.zeroValue163
  g1 := by kernel_rfl
  g3 := by kernel_rfl
  g4 := by kernel_rfl }
theorem Tryz.Builder_Extra_155 : Builder.Extra Tryz.prog Tryz.lays155_ren := {
  sizeBuilder := by kernel_rfl
  liesBuilder := by kernel_rfl
  t5 := Tryz.underlying5
  a5 := Tryz.isAgg5
  z5 := Tryz.sizeOf5
  v5 := Tryz.zeroValue5
  infoByte := by kernel_rfl
  cellsByte := by kernel_rfl
  sizeByte := by kernel_rfl
  neB5 := by decide }
open Go.RowKit in
theorem Tryz.strings_Trim_laid (s cutset : ByteArray) (w : World) (hs : s.size ≤ 9223372036854775807) (hcs : cutset.size < 4294967281) (hascii : ∀ (j : Nat) b, cutset.data.toList[j]? = some b → b.toNat < 128) :
    Calls Tryz.prog 141 #[.string s, .string cutset] w fun e w' => e = .returned (.string ⟨(Lib.trimS s.data.toList cutset.data.toList).toArray⟩) ∧ Below w.heap.size w w' := Any.strings_Trim_laid Tryz.lays160 (by kernel_rfl) s cutset w hs hcs hascii
open Go.RowKit in
theorem Tryz.strings_Compare (a b : ByteArray) (w : World) :
    Calls Tryz.prog 115 #[.string a, .string b] w fun e w' => e = .returned (.int .i64 (Lib.compareBytes a.data.toList b.data.toList)) ∧ w' = w := Any.strings_Compare Tryz.lays106 a b w
open Go.RowKit in
theorem Tryz.cmp_Compare_int (x y : Int) (w : World) :
    Calls Tryz.prog 114 #[.int .i64 x, .int .i64 y] w fun e w' => e = .returned (.int .i64 (Lib.compareInt x y)) ∧ w' = w := Any.cmp_Compare_int Tryz.lays122 x y w
open Go.RowKit Go.Sort Go.Lib in
theorem Tryz.strconv_Itoa (n : Int) (h0 : -9223372036854775808 ≤ n) (h1 : n ≤ 9223372036854775807) (w : World) (htab : Lib.TabIs Tryz.prog w "internal/strconv.uint64pow10" .u64 Lib.pow10Tab) :
    Calls Tryz.prog 100 #[.int .i64 n] w fun e w' => e = .returned (.string ⟨(Lib.itoa n).toArray⟩) ∧ ∃ k os, w' = grow (w.drewN k) os := Any.strconv_Itoa Tryz.laysM171 n h0 h1 w htab
open Go.RowKit in
theorem Tryz.strconv_Atoi_ok (s : ByteArray) (hmax : s.size ≤ 9223372036854775806) (v : Int) (h : Lib.atoiAll s.data.toList = .ok v) (w : World) :
    Calls Tryz.prog 97 #[.string s] w fun e w' => e = .returned (.tuple #[.int .i64 v, .nilIface]) ∧ (w' = w ∨ ∃ t, w' = Lib.bytesWorld w 5 t) := Any.strconv_Atoi_ok Tryz.laysC172 s hmax v h w
open Go.RowKit Go.Lib in
theorem Tryz.strings_HasPrefix (s p : ByteArray) (w : World) :
    Calls Tryz.prog 101 #[.string s, .string p] w fun e w' => e = .returned (.bool (Lib.hasPrefix s.data.toList p.data.toList)) ∧ w' = w := Any.strings_HasPrefix Tryz.lays99 s p w
open Go.RowKit Go.Lib in
theorem Tryz.strings_TrimPrefix (s p : ByteArray) (w : World) :
    Calls Tryz.prog 98 #[.string s, .string p] w fun e w' => e = .returned (.string ⟨(Lib.trimPrefix s.data.toList p.data.toList).toArray⟩) ∧ w' = w := Any.strings_TrimPrefix Tryz.lays101 s p w
open Go.RowKit Go.Lib in
theorem Tryz.strings_Split (s sep : ByteArray) (m : Int) (w : World) (hs : s.size < 4294967281) (hm : w.cell? ⟨0, 0, none⟩ = some (.int .i64 m)) (h1 : 1 ≤ sep.size) :
    Calls Tryz.prog 56 #[.string s, .string sep] w fun e w' =>
      e = .returned (.slice (some ⟨w.heap.size, 0, none⟩) (Lib.countB s sep + 1) (Lib.countB s sep + 1)) ∧ w' = w.alloc (.cells ((Lib.splitB sep 0 (Lib.countB s sep) s).map Value.string).toArray 9) := Any.strings_Split Tryz.lays146 (by kernel_rfl) s sep m w hs hm h1
open Go.RowKit Go.Lib in
theorem Tryz.strings_ReplaceAll (s old new : ByteArray) (m : Int) (w : World) (hs : s.size < 4294967281) (hm : w.cell? ⟨0, 0, none⟩ = some (.int .i64 m)) (h1 : 1 ≤ old.size) (hlen : s.size + Lib.countB s old * new.size ≤ 140737488355328) :
    Calls Tryz.prog 99 #[.string s, .string old, .string new] w fun e w' =>
      e = .returned (.string ⟨(Lib.replaceAll s.data.toList old.data.toList new.data.toList).toArray⟩) ∧ Below w.heap.size w w' := Any.strings_ReplaceAll Tryz.lays155 Tryz.Builder_Extra_155 s old new m w hs hm h1 hlen
end Go.Proofs
end

section
namespace Go.Am
open Go
abbrev Str := List UInt8
inductive Tree where
  | mk (kind n : Int) (s : Str) (l : List Tree) (m : List (Str × Tree))
  deriving Inhabited
namespace Tree
def kind : Tree → Int | .mk k _ _ _ _ => k
def n : Tree → Int | .mk _ n _ _ _ => n
def s : Tree → Str | .mk _ _ s _ _ => s
def l : Tree → List Tree | .mk _ _ _ l _ => l
def m : Tree → List (Str × Tree) | .mk _ _ _ _ m => m
mutual
def enc : Tree → PV
  | .mk k n s l m => .agg [.int .i64 k, .int .i64 n, .str s, .lst false (encL l), .lst false (encM m)]
def encL : List Tree → List PV
  | [] => []
  | t :: l => enc t :: encL l
def encM : List (Str × Tree) → List PV
  | [] => []
  | p :: m => encP p :: encM m
def encP : Str × Tree → PV
  | (k, t) => .agg (.str k :: (enc t).cells)
end
mutual
def nodes : Tree → Nat
  | .mk _ _ _ l m => 1 + nodesL l + nodesM m
def nodesL : List Tree → Nat
  | [] => 0
  | t :: l => nodes t + nodesL l
def nodesM : List (Str × Tree) → Nat
  | [] => 0
  | p :: m => nodesP p + nodesM m
def nodesP : Str × Tree → Nat
  | (_, t) => nodes t
end
mutual
def depth : Tree → Nat
  | .mk _ _ _ l m => 1 + max (depthL l) (depthM m)
def depthL : List Tree → Nat
  | [] => 0
  | t :: l => max (depth t) (depthL l)
def depthM : List (Str × Tree) → Nat
  | [] => 0
  | p :: m => max (depthP p) (depthM m)
def depthP : Str × Tree → Nat
  | (_, t) => depth t
end
theorem encL_eq : ∀ l : List Tree, encL l = l.map enc
  | [] => rfl
  | t :: l => by rw [encL, encL_eq l]; rfl
theorem encM_eq : ∀ m : List (Str × Tree), encM m = m.map encP
  | [] => rfl
  | p :: m => by rw [encM, encM_eq m]; rfl
theorem encL_length (l : List Tree) : (encL l).length = l.length := by rw [encL_eq, List.length_map]
theorem encM_length (m : List (Str × Tree)) : (encM m).length = m.length := by rw [encM_eq, List.length_map]
theorem encL_get {l : List Tree} {i : Nat} {t : Tree} (h : l[i]? = some t) : (encL l)[i]? = some (enc t) := by rw [encL_eq, List.getElem?_map, h]; rfl
theorem encM_get {m : List (Str × Tree)} {i : Nat} {p : Str × Tree} (h : m[i]? = some p) : (encM m)[i]? = some (encP p) := by rw [encM_eq, List.getElem?_map, h]; rfl
theorem enc_cells : ∀ t : Tree, (enc t).cells.length = 5
  | .mk _ _ _ _ _ => rfl
theorem encP_cells : ∀ p : Str × Tree, (encP p).cells.length = 6
  | (_, .mk _ _ _ _ _) => rfl
theorem enc_isAgg : ∀ t : Tree, (enc t).isAgg = true
  | .mk _ _ _ _ _ => rfl
theorem encL_cells (l : List Tree) : ∀ x ∈ encL l, x.cells.length = 5 := by
  rw [encL_eq]; intro x hx; obtain ⟨t, _, rfl⟩ := List.mem_map.1 hx; exact enc_cells t
theorem encM_cells (m : List (Str × Tree)) : ∀ x ∈ encM m, x.cells.length = 6 := by
  rw [encM_eq]; intro x hx; obtain ⟨t, _, rfl⟩ := List.mem_map.1 hx; exact encP_cells t
theorem nodes_pos : ∀ t : Tree, 0 < nodes t
  | .mk _ _ _ _ _ => by simp [nodes]; omega
theorem nodesL_mem {l : List Tree} {t : Tree} (h : t ∈ l) : nodes t ≤ nodesL l := by
  induction l with
  | nil => simp at h
  | cons x l ih =>
    rw [nodesL]
    rcases List.mem_cons.1 h with rfl | h
    · omega
    · have := ih h; omega
theorem nodesM_mem {m : List (Str × Tree)} {p : Str × Tree} (h : p ∈ m) : nodes p.2 ≤ nodesM m := by
  induction m with
  | nil => simp at h
  | cons x l ih =>
    rw [nodesM]
    rcases List.mem_cons.1 h with rfl | h
    · obtain ⟨a, b⟩ := p; simp [nodesP]
    · have := ih h; omega
theorem nodes_l {t x : Tree} (h : x ∈ t.l) : nodes x < nodes t := by
  obtain ⟨k, n, s, l, m⟩ := t
  have := nodesL_mem (show x ∈ l from h)
  rw [nodes.eq_def (.mk k n s l m)]
  simp only []
  omega
theorem nodes_m {t : Tree} {p : Str × Tree} (h : p ∈ t.m) : nodes p.2 < nodes t := by
  obtain ⟨k, n, s, l, m⟩ := t
  have := nodesM_mem (show p ∈ m from h)
  rw [nodes.eq_def (.mk k n s l m)]
  simp only []
  omega
theorem ind {p : Tree → Prop} (h : ∀ t : Tree, (∀ x ∈ t.l, p x) → (∀ x ∈ t.m, p x.2) → p t) : ∀ t, p t := by
  intro t
  generalize hn : nodes t = q
  induction q using Nat.strongRecOn generalizing t with
  | ind q ih =>
    subst hn
    exact h t (fun x hx => ih _ (nodes_l hx) x rfl) (fun x hx => ih _ (nodes_m hx) x.2 rfl)
theorem eta (t : Tree) : t = .mk t.kind t.n t.s t.l t.m := by cases t; rfl
theorem enc_eta (t : Tree) : enc t = .agg [.int .i64 t.kind, .int .i64 t.n, .str t.s, .lst false (encL t.l), .lst false (encM t.m)] := by cases t; rfl
end Tree
theorem ElemZ.tree {l : List Tree} {i : Nat} {K : PV → Prop} {t : Tree} (h : l[i]? = some t) (k : K t.enc) : ElemZ (Tree.encL l) i 5 K := ⟨_, Tree.encL_get h, Tree.enc_cells t, k⟩
theorem ElemZ.pair {m : List (Str × Tree)} {i : Nat} {K : PV → Prop} {p : Str × Tree} (h : m[i]? = some p) (k : K (Tree.encP p)) : ElemZ (Tree.encM m) i 6 K := ⟨_, Tree.encM_get h, Tree.encP_cells p, k⟩
theorem CLe.eq {c c' : CR} (h : c = c') : CLe c c' := h ▸ CLe.refl c
theorem CLe.retP {d e : PV} {H : Heap} {mv : List Nat} (h : d = e) : CLe ⟨.ret (.p d), H, mv⟩ ⟨.ret (.p e), H, mv⟩ := by rw [h]; exact CLe.refl _
theorem drop_cons {α : Type} {l : List α} {i : Nat} {x : α} (h : l[i]? = some x) : l.drop i = x :: l.drop (i + 1) := by
  obtain ⟨hi, rfl⟩ := List.getElem?_eq_some_iff.1 h
  exact List.drop_eq_getElem_cons hi
end Go.Am
namespace Go.Am
theorem strNil (s : Str) : (s = []) = (s.length = 0) := by simp
theorem not_strNil (s : Str) : (¬ s = []) = (0 < s.length) := by simp [List.length_pos_iff]
end Go.Am
namespace Go.Am
theorem isEmptyCons {α : Type} (a : α) (l : List α) : (a :: l).isEmpty = false := rfl
theorem Br.not {c : Bool} {A B : Prop} (h : Br c B A) : Br (!c) A B := ⟨fun e => h.f (by simpa using e), fun e => h.t (by simpa using e)⟩
end Go.Am
namespace Go.Am
theorem Br.dec {p : Prop} [inst : Decidable p] {A B : Prop} (t : p → A) (f : ¬ p → B) : Br (decide p) A B := ⟨fun h => t (of_decide_eq_true h), fun h => f (of_decide_eq_false h)⟩
theorem Br.ndec {p : Prop} [inst : Decidable p] {A B : Prop} (t : ¬ p → A) (f : p → B) : Br (!decide p) A B := ⟨fun h => t (of_decide_eq_false (by simpa using h)), fun h => f (of_decide_eq_true (by simpa using h))⟩
end Go.Am
namespace Go.Am
namespace Tree
mutual
def wt : Tree → Nat
  | .mk _ _ s l m => 1 + s.length + wtL l + wtM m
def wtL : List Tree → Nat
  | [] => 0
  | t :: l => wt t + wtL l
def wtM : List (Str × Tree) → Nat
  | [] => 0
  | p :: m => wtP p + wtM m
def wtP : Str × Tree → Nat
  | (k, t) => k.length + wt t
end
theorem wt_pos : ∀ t : Tree, 0 < wt t
  | .mk _ _ _ _ _ => by simp [wt]; omega
theorem wtL_mem {l : List Tree} {t : Tree} (h : t ∈ l) : wt t ≤ wtL l := by
  induction l with
  | nil => simp at h
  | cons x l ih =>
    rw [wtL]
    rcases List.mem_cons.1 h with rfl | h
    · omega
    · have := ih h; omega
theorem wtM_mem {m : List (Str × Tree)} {p : Str × Tree} (h : p ∈ m) : p.1.length + wt p.2 ≤ wtM m := by
  induction m with
  | nil => simp at h
  | cons x l ih =>
    rw [wtM]
    rcases List.mem_cons.1 h with rfl | h
    · obtain ⟨a, b⟩ := p; simp [wtP]
    · have := ih h; omega
theorem wtL_len : ∀ l : List Tree, l.length ≤ wtL l
  | [] => by simp [wtL]
  | t :: l => by have := wtL_len l; have := wt_pos t; simp only [wtL, List.length_cons]; omega
theorem wtM_len : ∀ l : List (Str × Tree), l.length ≤ wtM l
  | [] => by simp [wtM]
  | (k, t) :: l => by have := wtM_len l; have := wt_pos t; simp only [wtM, wtP, List.length_cons]; omega
theorem wt_eq (t : Tree) : wt t = 1 + t.s.length + wtL t.l + wtM t.m := by cases t; simp [wt, s, l, m]
theorem wt_s (t : Tree) : t.s.length < wt t := by rw [wt_eq]; omega
theorem wt_ll (t : Tree) : t.l.length < wt t := by rw [wt_eq]; have := wtL_len t.l; omega
theorem wt_ml (t : Tree) : t.m.length < wt t := by rw [wt_eq]; have := wtM_len t.m; omega
theorem wt_l {t x : Tree} (h : x ∈ t.l) : wt x < wt t := by rw [wt_eq t]; have := wtL_mem h; omega
theorem wt_m {t : Tree} {p : Str × Tree} (h : p ∈ t.m) : p.1.length + wt p.2 < wt t := by rw [wt_eq t]; have := wtM_mem h; omega
theorem indW {B : Nat} {p : Tree → Prop} (h : ∀ t : Tree, wt t ≤ B → (∀ x ∈ t.l, wt x ≤ B ∧ p x) → (∀ x ∈ t.m, x.1.length ≤ B ∧ wt x.2 ≤ B ∧ p x.2) → p t) : ∀ t, wt t ≤ B → p t := by
  refine ind ?_
  intro t hl hm hw
  refine h t hw (fun x hx => ?_) (fun x hx => ?_)
  · have := wt_l hx
    exact ⟨by omega, hl x hx (by omega)⟩
  · have := wt_m hx
    exact ⟨by omega, by omega, hm x hx (by omega)⟩
end Tree
end Go.Am
namespace Go.Am
end Go.Am
namespace Go.Am
theorem NN : Int.toNat 0 = 0 ∧ Int.toNat 1 = 1 ∧ Int.toNat 2 = 2 ∧ Int.toNat 3 = 3 ∧ Int.toNat 4 = 4 ∧ Int.toNat 5 = 5 ∧ Int.toNat 6 = 6 ∧ Int.toNat 7 = 7 ∧ Int.toNat 8 = 8 ∧ Int.toNat 9 = 9 ∧ Int.toNat 10 = 10 ∧ Int.toNat 11 = 11 ∧ Int.toNat 12 = 12 ∧ Int.toNat 16 = 16 ∧ Int.toNat 18 = 18 := by decide
theorem CC : (∀ l : List PV, PV.cells (.agg l) = l) ∧ (∀ (b : Bool), PV.cells (PV.bool b) = [PV.bool b]) ∧ (∀ (k : IntKind) (n : Int), PV.cells (PV.int k n) = [PV.int k n]) ∧ (∀ (s : List UInt8), PV.cells (PV.str s) = [PV.str s]) ∧ (∀ (e : Bool) (l : List PV), PV.cells (PV.lst e l) = [PV.lst e l]) ∧ (∀ (l : List PV), PV.cells (PV.tup l) = [PV.tup l]) ∧ PV.cells PV.nilptr = [PV.nilptr] ∧ PV.cells PV.nilmap = [PV.nilmap] ∧ PV.cells PV.nilfunc = [PV.nilfunc] ∧ PV.cells PV.nili = [PV.nili] ∧ (∀ (f : Fn), PV.cells (PV.fn f) = [PV.fn f]) ∧ (∀ (t : TypeId) (v : PV), PV.cells (PV.iface t v) = [PV.iface t v]) ∧ (∀ (v : PV), PV.cells (PV.cptr v) = [PV.cptr v]) ∧ PV.cells PV.anyp = [PV.anyp] ∧ PV.cells PV.nils = [PV.nils] ∧ (∀ l : List PV, PV.leaf (.agg l) = false) ∧ (∀ (b : Bool), PV.leaf (PV.bool b) = true) ∧ (∀ (k : IntKind) (n : Int), PV.leaf (PV.int k n) = true) ∧ (∀ (s : List UInt8), PV.leaf (PV.str s) = true) ∧ (∀ (e : Bool) (l : List PV), PV.leaf (PV.lst e l) = true) ∧ (∀ (l : List PV), PV.leaf (PV.tup l) = false) ∧ PV.leaf PV.nilptr = true ∧ PV.leaf PV.nilmap = true ∧ PV.leaf PV.nilfunc = true ∧ PV.leaf PV.nili = true ∧ (∀ (f : Fn), PV.leaf (PV.fn f) = true) ∧ (∀ (t : TypeId) (v : PV), PV.leaf (PV.iface t v) = true) ∧ (∀ (v : PV), PV.leaf (PV.cptr v) = true) ∧ PV.leaf PV.anyp = true ∧ PV.leaf PV.nils = true ∧ (∀ b : UInt8, byteP b = .int .u8 b.toNat) := by
  refine ⟨fun _ => rfl, fun _ => rfl, fun _ _ => rfl, fun _ => rfl, fun _ _ => rfl, fun _ => rfl, rfl, rfl, rfl, rfl, fun _ => rfl, fun _ _ => rfl, fun _ => rfl, rfl, rfl, fun _ => rfl, fun _ => rfl, fun _ _ => rfl, fun _ => rfl, fun _ _ => rfl, fun _ => rfl, rfl, rfl, rfl, rfl, fun _ => rfl, fun _ _ => rfl, fun _ => rfl, rfl, rfl, fun _ => rfl⟩
theorem ZZ : (∀ (p : Prop) [Decidable p], (decide p = true) = p) ∧ (∀ (p : Prop) [Decidable p], (decide p = false) = ¬ p) ∧ (∀ b : Bool, ((!b) = true) = (b = false)) ∧ (∀ b : Bool, ((!b) = false) = (b = true)) ∧
    (∀ a b : Bool, ((a || b) = true) = (a = true ∨ b = true)) ∧ (∀ a b : Bool, ((a || b) = false) = (a = false ∧ b = false)) ∧ (∀ a b : Bool, ((a && b) = true) = (a = true ∧ b = true)) ∧ (∀ a b : Bool, ((a && b) = false) = (a = false ∨ b = false)) ∧
    (∀ b : Bool, (!(!b)) = b) ∧ (∀ s : Str, (s = []) = (s.length = 0)) ∧ (∀ s : Str, (¬ s = []) = (0 < s.length)) ∧ (∀ b : Bool, (¬ (b = true)) = (b = false)) ∧ (∀ b : Bool, (¬ (b = false)) = (b = true)) :=
  ⟨fun _ _ => by simp, fun _ _ => by simp, by simp, by simp, by simp, by simp, by simp, fun _ _ => propext Bool.and_eq_false_iff, by simp, strNil, not_strNil, by simp, by simp⟩
theorem InR.natK {k : IntKind} {n : Nat} (h : n < 2 ^ (k.bits - 1)) : InR k n := by
  cases k <;> simp only [IntKind.bits, Nat.reduceSub, Nat.reducePow] at h <;> (constructor <;> omega)
theorem bv_nat (w a : Nat) : (BitVec.ofInt w (a : Int)) = BitVec.ofNat w a := BitVec.ofInt_natCast w a
theorem iand_nat {k : IntKind} {a b : Nat} (ha : a < 2 ^ k.bits) (hb : b < 2 ^ (k.bits - 1)) : iand k a b = ((a &&& b : Nat) : Int) := by
  have hb' : b < 2 ^ k.bits := Nat.lt_of_lt_of_le hb (Nat.pow_le_pow_right (by omega) (Nat.sub_le _ _))
  unfold iand
  rw [bv_nat, bv_nat, BitVec.toNat_and, BitVec.toNat_ofNat, BitVec.toNat_ofNat, Nat.mod_eq_of_lt ha, Nat.mod_eq_of_lt hb']
  exact InR.wrap (InR.natK (Nat.lt_of_le_of_lt Nat.and_le_right hb))
theorem iand_low {k : IntKind} {a : Int} (q : Nat) (h0 : 0 ≤ a) (ha : a < 2 ^ k.bits) (hq : q < k.bits) : iand k a (2 ^ q - 1 : Nat) = a % 2 ^ q := by
  obtain ⟨n, rfl⟩ := Int.eq_ofNat_of_zero_le h0
  have hn : n < 2 ^ k.bits := by exact_mod_cast ha
  have hb : 2 ^ q - 1 < 2 ^ (k.bits - 1) := by
    have : 2 ^ q ≤ 2 ^ (k.bits - 1) := Nat.pow_le_pow_right (by omega) (by omega)
    have := Nat.pow_pos (n := q) (show 0 < 2 by omega)
    omega
  rw [iand_nat hn hb, Nat.and_two_pow_sub_one_eq_mod]
  simp
theorem iand63 {a : Int} (h0 : 0 ≤ a) (ha : a ≤ 9223372036854775807) : iand .i64 a 63 = a % 64 := by
  have h2 : a < 2 ^ (IntKind.i64).bits := by
    show a < 2 ^ 64
    omega
  have h3 := iand_low (k := .i64) 6 h0 h2 (by decide)
  rw [show ((2 ^ 6 - 1 : Nat) : Int) = 63 from rfl, show (2 : Int) ^ 6 = 64 from rfl] at h3
  exact h3
theorem oct_or128 : ∀ n : Nat, n < 64 → ior .i64 128 n = ((128 + n : Nat) : Int) := by decide +kernel
theorem oct_or192 : ∀ n : Nat, n < 32 → ior .i64 192 n = ((192 + n : Nat) : Int) := by decide +kernel
theorem oct_or224 : ∀ n : Nat, n < 16 → ior .i64 224 n = ((224 + n : Nat) : Int) := by decide +kernel
theorem oct_or240 : ∀ n : Nat, n < 8 → ior .i64 240 n = ((240 + n : Nat) : Int) := by decide +kernel
def utfSize (r : Int) : Int := if r < 128 then 1 else if r < 2048 then 2 else if r < 65536 then 3 else 4
def utfGood (r : Int) : Bool := decide (0 ≤ r ∧ r ≤ 1114111 ∧ (r < 55296 ∨ 57343 < r))
def utfBegins (c : Nat) : Int × Int :=
  if c < 128 then (1, c) else if c < 192 then (0, 0) else if c < 224 then (2, (c % 64 : Nat)) else if c < 240 then (3, (c % 32 : Nat)) else if c < 248 then (4, (c % 16 : Nat)) else (0, 0)
def takeL : Nat → Str → Int → Option Int
  | 0, _, r => some r
  | _ + 1, [], _ => none
  | q + 1, b :: s, r => if 128 ≤ b.toNat ∧ b.toNat < 192 then takeL q s (r * 64 + (b.toNat % 64 : Nat)) else none
def utfTake (s : Str) : Int × Int :=
  match s with
  | [] => (0, 0)
  | c :: cs => if (utfBegins c.toNat).1 = 0 ∨ (s.length : Int) < (utfBegins c.toNat).1 then (0, 0) else
    match takeL ((utfBegins c.toNat).1.toNat - 1) cs (utfBegins c.toNat).2 with
    | none => (0, 0)
    | some r => if utfGood r = true ∧ utfSize r = (utfBegins c.toNat).1 then (r, (utfBegins c.toNat).1) else (0, 0)
def utfEnc (r : Int) : Str :=
  if utfGood r = false then [] else
  if r < 128 then [UInt8.ofNat r.toNat] else
  if r < 2048 then [UInt8.ofNat (192 + r.toNat / 64), UInt8.ofNat (128 + r.toNat % 64)] else
  if r < 65536 then [UInt8.ofNat (224 + r.toNat / 4096), UInt8.ofNat (128 + r.toNat / 64 % 64), UInt8.ofNat (128 + r.toNat % 64)] else
  [UInt8.ofNat (240 + r.toNat / 262144), UInt8.ofNat (128 + r.toNat / 4096 % 64), UInt8.ofNat (128 + r.toNat / 64 % 64), UInt8.ofNat (128 + r.toNat % 64)]
theorem utfBegins_n (c : Nat) : (utfBegins c).1 = 0 ∨ (utfBegins c).1 = 1 ∨ (utfBegins c).1 = 2 ∨ (utfBegins c).1 = 3 ∨ (utfBegins c).1 = 4 := by
  unfold utfBegins
  repeat' split
  all_goals simp
theorem utfBegins_r (c : Nat) : 0 ≤ (utfBegins c).2 ∧ (utfBegins c).2 ≤ 127 := by
  unfold utfBegins
  repeat' split
  all_goals (constructor <;> simp only [] <;> omega)
def utfScan : Nat → Str → Int → Int × Bool
  | 0, _, at_ => (at_, true)
  | q + 1, s, at_ => match s with
    | [] => (at_, true)
    | c :: cs => if (utfTake (c :: cs)).2 = 0 then (at_, false) else utfScan q ((c :: cs).drop (utfTake (c :: cs)).2.toNat) (at_ + (utfTake (c :: cs)).2)
def utfValid (s : Str) : Int × Bool := utfScan s.length s 0
theorem utfTake_n (s : Str) : (utfTake s).2 = 0 ∨ (1 ≤ (utfTake s).2 ∧ (utfTake s).2 ≤ 4 ∧ (utfTake s).2 ≤ s.length) := by
  unfold utfTake
  split
  · simp
  · rename_i c cs
    split
    · simp
    · rename_i h
      simp only [not_or, Int.not_lt] at h
      split
      · simp
      · split
        · have := utfBegins_n c.toNat
          right
          simp only []
          omega
        · simp
end Go.Am
namespace Go.Am
def takeU : Nat → Int
  | 0 => 1073741824
  | 1 => 16777216
  | 2 => 262144
  | 3 => 4096
  | _ => 64
theorem takeU_step {q : Nat} (hq : q ≤ 2) {r x : Int} (h : r < takeU (q + 1)) (hx : x < 64) : r * 64 + x < takeU q ∧ takeU q ≤ 1073741824 := by
  have : q = 0 ∨ q = 1 ∨ q = 2 := by omega
  rcases this with rfl | rfl | rfl <;> simp only [takeU] at h ⊢ <;> (constructor <;> omega)
theorem takeU_pos (q : Nat) (hq : q ≤ 3) : 127 < takeU q := by
  have : q = 0 ∨ q = 1 ∨ q = 2 ∨ q = 3 := by omega
  rcases this with rfl | rfl | rfl | rfl <;> simp [takeU]
theorem getD_of {s : Str} {i : Nat} {b : UInt8} (h : s[i]? = some b) : s.getD i 0 = b := by simp [List.getD, h]
end Go.Am
namespace Go.Am
theorem CLe.arr {t : TypeId} {sz : Nat} {es es' : List PV} {mv : List Nat} (h : es = es') : CLe ⟨.ret (.sl 0 0 es.length), [.arr t sz es], mv⟩ ⟨.ret (.sl 0 0 es'.length), [.arr t sz es'], mv⟩ := by rw [h]; exact CLe.refl _
theorem bytes_cells (s : Str) : ∀ y ∈ s.map byteP, y.cells.length = 1 := by
  intro y hy; obtain ⟨b, _, rfl⟩ := List.mem_map.1 hy; rfl
theorem byte_of {x : Int} (h0 : 0 ≤ x) (h1 : x ≤ 255) : PV.int .u8 (IntKind.u8.wrap x) = byteP (UInt8.ofNat x.toNat) := by
  obtain ⟨n, rfl⟩ := Int.eq_ofNat_of_zero_le h0
  have hn : n < 256 := by omega
  rw [InR.wrap (show InR .u8 (n : Int) from ⟨by omega, by omega⟩)]
  unfold byteP
  rw [Int.toNat_natCast, UInt8.toNat_ofNat']
  congr 1
  simp only [Nat.reducePow]
  omega
theorem bytesOf_map (s : Str) : bytesOf (s.map byteP) = some s := by
  induction s with
  | nil => rfl
  | cons b s ih =>
    rw [List.map_cons]
    simp only [byteP, bytesOf, ih, Option.map_some, Int.toNat_natCast]
    simp
theorem Bytes.mk' {l : List PV} {s : Str} {K : Str → Prop} (h : l = s.map byteP) (k : K s) : Bytes l K := ⟨s, by rw [h, bytesOf_map], k⟩
end Go.Am
namespace Go.Am
theorem utfSize_1 (r : Int) : utfSize r = 1 ↔ r < 128 := by
  unfold utfSize
  repeat' split
  all_goals (constructor <;> intro h <;> omega)
theorem utfSize_2 (r : Int) : utfSize r = 2 ↔ 128 ≤ r ∧ r < 2048 := by
  unfold utfSize
  repeat' split
  all_goals (constructor <;> intro h <;> omega)
theorem utfSize_3 (r : Int) : utfSize r = 3 ↔ 2048 ≤ r ∧ r < 65536 := by
  unfold utfSize
  repeat' split
  all_goals (constructor <;> intro h <;> omega)
def refTake (s : Str) : Int × Int :=
  match s with
  | [] => (0, 0)
  | c :: cs => if (utfBegins c.toNat).1 = 0 ∨ (s.length : Int) < (utfBegins c.toNat).1 then (0, 0) else
    match takeL ((utfBegins c.toNat).1.toNat - 1) cs (utfBegins c.toNat).2 with
    | none => (0, 0)
    | some r => if utfEnc r = s.take (utfBegins c.toNat).1.toNat then (r, (utfBegins c.toNat).1) else (0, 0)
theorem utfEnc_length (r : Int) : ((utfEnc r).length : Int) = if utfGood r = true then utfSize r else 0 := by
  unfold utfEnc utfSize
  cases utfGood r with
  | false => simp
  | true =>
    simp only [Bool.true_eq_false, if_false, if_true]
    repeat' split
    all_goals simp
theorem enc_byte {b : UInt8} {n : Nat} (h : n = b.toNat) : UInt8.ofNat n = b := by subst h; simp
theorem enc_take {c : UInt8} {cs : Str} {r : Int} (h0 : (utfBegins c.toNat).1 ≠ 0) (h1 : ¬ ((c :: cs).length : Int) < (utfBegins c.toNat).1) (h2 : takeL ((utfBegins c.toNat).1.toNat - 1) cs (utfBegins c.toNat).2 = some r)
    (hg : utfGood r = true) (hs : utfSize r = (utfBegins c.toNat).1) : utfEnc r = (c :: cs).take (utfBegins c.toNat).1.toNat := by
  have hgn : ¬ utfGood r = false := by rw [hg]; simp
  have hc := UInt8.toNat_lt c
  have split1 : ∀ (q : Nat) (s : Str) (x : Int), takeL (q + 1) s x = some r → ∃ b t, s = b :: t ∧ 128 ≤ b.toNat ∧ b.toNat < 192 ∧ takeL q t (x * 64 + (b.toNat % 64 : Nat)) = some r := by
    intro q s x h
    cases s with
    | nil => simp [takeL] at h
    | cons b t =>
      rw [takeL] at h
      split at h
      · rename_i hb; exact ⟨b, t, rfl, hb.1, hb.2, h⟩
      · cases h
  have last : ∀ (s : Str) (x : Int), takeL 0 s x = some r → r = x := by
    intro s x h
    rw [takeL] at h
    exact (Option.some.inj h).symm
  unfold utfBegins at h0 h1 h2 hs ⊢
  by_cases b1 : c.toNat < 128
  · simp only [if_pos b1] at h0 h1 h2 hs ⊢
    have := last _ _ h2
    subst this
    unfold utfEnc
    rw [if_neg hgn, if_pos (by omega)]
    simp
  · by_cases b2 : c.toNat < 192
    · simp only [if_neg b1, if_pos b2] at h0
      exact absurd rfl h0
    · by_cases b3 : c.toNat < 224
      · simp only [if_neg b1, if_neg b2, if_pos b3] at h0 h1 h2 hs ⊢
        obtain ⟨b, t, rfl, e1, e2, h2⟩ := split1 0 _ _ h2
        have := last _ _ h2
        rw [utfSize_2] at hs
        unfold utfEnc
        rw [if_neg hgn, if_neg (by omega), if_pos (by omega)]
        show _ = [c, b]
        rw [enc_byte (b := c) (by omega), enc_byte (b := b) (by omega)]
      · by_cases b4 : c.toNat < 240
        · simp only [if_neg b1, if_neg b2, if_neg b3, if_pos b4] at h0 h1 h2 hs ⊢
          obtain ⟨b, t, rfl, e1, e2, h2⟩ := split1 1 _ _ h2
          obtain ⟨d, u, rfl, e3, e4, h2⟩ := split1 0 _ _ h2
          have := last _ _ h2
          rw [utfSize_3] at hs
          unfold utfEnc
          rw [if_neg hgn, if_neg (by omega), if_neg (by omega), if_pos (by omega)]
          show _ = [c, b, d]
          rw [enc_byte (b := c) (by omega), enc_byte (b := b) (by omega), enc_byte (b := d) (by omega)]
        · by_cases b5 : c.toNat < 248
          · simp only [if_neg b1, if_neg b2, if_neg b3, if_neg b4, if_pos b5] at h0 h1 h2 hs ⊢
            obtain ⟨b, t, rfl, e1, e2, h2⟩ := split1 2 _ _ h2
            obtain ⟨d, u, rfl, e3, e4, h2⟩ := split1 1 _ _ h2
            obtain ⟨e, v, rfl, e5, e6, h2⟩ := split1 0 _ _ h2
            have := last _ _ h2
            have hg' : 0 ≤ r ∧ r ≤ 1114111 := by unfold utfGood at hg; rw [decide_eq_true_eq] at hg; omega
            have hs' : 65536 ≤ r := by
              unfold utfSize at hs
              split at hs
              · omega
              · split at hs
                · omega
                · split at hs <;> omega
            unfold utfEnc
            rw [if_neg hgn, if_neg (by omega), if_neg (by omega), if_neg (by omega)]
            show _ = [c, b, d, e]
            rw [enc_byte (b := c) (by omega), enc_byte (b := b) (by omega), enc_byte (b := d) (by omega), enc_byte (b := e) (by omega)]
          · simp only [if_neg b1, if_neg b2, if_neg b3, if_neg b4, if_neg b5] at h0
            exact absurd rfl h0
theorem refTake_eq (s : Str) : refTake s = utfTake s := by
  cases s with
  | nil => rfl
  | cons c cs =>
    unfold refTake utfTake
    simp only []
    split
    · rfl
    · rename_i h
      simp only [not_or] at h
      cases ht : takeL ((utfBegins c.toNat).1.toNat - 1) cs (utfBegins c.toNat).2 with
      | none => rfl
      | some r =>
        simp only []
        by_cases hg : utfGood r = true ∧ utfSize r = (utfBegins c.toNat).1
        · rw [if_pos hg, if_pos (enc_take h.1 h.2 ht hg.1 hg.2)]
        · rw [if_neg hg, if_neg]
          intro he
          refine hg ?_
          have hl := utfEnc_length r
          have hn := utfBegins_n c.toNat
          rw [he, List.length_take] at hl
          have hm : ((min (utfBegins c.toNat).1.toNat (c :: cs).length : Nat) : Int) = (utfBegins c.toNat).1 := by omega
          rw [hm] at hl
          split at hl
          · rename_i hg'; exact ⟨hg', hl.symm⟩
          · exact absurd hl h.1
end Go.Am
namespace Go.Am
def refValid (s : Str) : Int := if (utfValid s).2 = true then -1 else (utfValid s).1
end Go.Am
namespace Go.Am
def strOk (s : Str) : Bool := decide (s.length ≤ 4096) && (utfValid s).2
def stampOk (s : Str) : Bool := decide (1 ≤ s.length ∧ s.length ≤ 64 ∧ ∀ b ∈ s, 32 ≤ b.toNat ∧ b.toNat ≤ 126)
theorem utfScan_nn : ∀ (q : Nat) (s : Str) (i : Int), 0 ≤ i → 0 ≤ (utfScan q s i).1
  | 0, _, _, h => h
  | q + 1, [], _, h => h
  | q + 1, c :: cs, i, h => by
    rw [utfScan]
    split
    · exact h
    · have := utfTake_n (c :: cs)
      exact utfScan_nn q _ _ (by omega)
theorem refValid_neg (s : Str) : decide (refValid s < 0) = (utfValid s).2 := by
  have := utfScan_nn s.length s 0 (by omega)
  unfold refValid
  cases h : (utfValid s).2 with
  | true => simp
  | false =>
    rw [if_neg (by simp)]
    rw [decide_eq_false_iff_not]
    have : 0 ≤ (utfValid s).1 := this
    omega
def dig (b : UInt8) : Bool := decide (48 ≤ b.toNat ∧ b.toNat ≤ 57)
def runL : Str → Nat
  | [] => 0
  | b :: s => if dig b = true then runL s + 1 else 0
theorem runL_le : ∀ s : Str, runL s ≤ s.length
  | [] => Nat.le_refl _
  | b :: s => by rw [runL]; split <;> simp [runL_le s]
abbrev Parts := Bool × Str × Str × Str × Bool
def noParts : Parts := (false, [], [], [], false)
def b0 (s : Str) : Nat := (s.getD 0 0).toNat
def partsE (neg : Bool) (w f p d : Str) : Parts := if d.length = 0 ∨ runL d ≠ d.length then noParts else (neg, w, f, p, true)
def partsD (neg : Bool) (w f s : Str) : Parts :=
  if s.length = 0 then (neg, w, f, [], true) else if b0 s ≠ 101 ∧ b0 s ≠ 69 then noParts else
  if 0 < (s.drop 1).length ∧ (b0 (s.drop 1) = 43 ∨ b0 (s.drop 1) = 45) then partsE neg w f (s.drop 1) ((s.drop 1).drop 1) else partsE neg w f (s.drop 1) (s.drop 1)
def partsC (neg : Bool) (w s : Str) : Parts :=
  if 0 < s.length ∧ b0 s = 46 then (if runL (s.drop 1) = 0 then noParts else partsD neg w ((s.drop 1).take (runL (s.drop 1))) ((s.drop 1).drop (runL (s.drop 1)))) else partsD neg w [] s
def partsB (neg : Bool) (s : Str) : Parts := if runL s = 0 ∨ (1 < runL s ∧ b0 (s.take (runL s)) = 48) then noParts else partsC neg (s.take (runL s)) (s.drop (runL s))
def numParts (s : Str) : Parts := if 0 < s.length ∧ b0 s = 45 then partsB true (s.drop 1) else partsB false s
def powL : Str → Int → Option Int
  | [], v => some v
  | b :: s, v => if dig b = true then (if 10 * v + (b.toNat - 48) > 100000 then none else powL s (10 * v + (b.toNat - 48))) else powL s v
def powerL (p : Str) : Int × Bool := match powL p 0 with
  | none => (0, false)
  | some v => if 0 < p.length ∧ b0 p = 45 then (-v, true) else (v, true)
def formL (s : Str) : Bool × Bool := ((numParts s).2.2.2.2, (numParts s).2.2.2.2 && !(powerL (numParts s).2.2.2.1).2)
def numL (s : Str) : Bool := (formL s).1 && !(formL s).2 && decide (s.length ≤ 400)
end Go.Am
namespace Go.Am
theorem CLe.parts {x : Parts} {a e : Bool} {b c d : Str} {H : Heap} {mv : List Nat} (h : x = (a, b, c, d, e)) :
    CLe ⟨.ret (.tup [.p (.bool a), .p (.str b), .p (.str c), .p (.str d), .p (.bool e)]), H, mv⟩ ⟨.ret (.tup [.p (.bool x.1), .p (.str x.2.1), .p (.str x.2.2.1), .p (.str x.2.2.2.1), .p (.bool x.2.2.2.2)]), H, mv⟩ := by subst h; exact CLe.refl _
end Go.Am
namespace Go.Am
theorem take_run (s : Str) : (s.take (runL s)).length = runL s := by rw [List.length_take]; have := runL_le s; omega
end Go.Am
namespace Go.Am
theorem numParts_p (s : Str) : (numParts s).2.2.2.1.length ≤ s.length := by
  have hE : ∀ neg w f p d, (partsE neg w f p d).2.2.2.1.length ≤ p.length := by
    intro neg w f p d; unfold partsE; split <;> simp [noParts]
  have hD : ∀ neg w f (s : Str), (partsD neg w f s).2.2.2.1.length ≤ s.length := by
    intro neg w f s
    unfold partsD
    split
    · simp
    · split
      · simp [noParts]
      · have hl : (s.drop 1).length ≤ s.length := by rw [List.length_drop]; omega
        split
        · exact Nat.le_trans (hE _ _ _ _ _) hl
        · exact Nat.le_trans (hE _ _ _ _ _) hl
  have hC : ∀ neg w (s : Str), (partsC neg w s).2.2.2.1.length ≤ s.length := by
    intro neg w s
    unfold partsC
    split
    · split
      · simp [noParts]
      · exact Nat.le_trans (hD _ _ _ _) (by rw [List.length_drop, List.length_drop]; omega)
    · exact hD _ _ _ _
  have hB : ∀ neg (s : Str), (partsB neg s).2.2.2.1.length ≤ s.length := by
    intro neg s
    unfold partsB
    split
    · simp [noParts]
    · exact Nat.le_trans (hC _ _ _) (by rw [List.length_drop]; omega)
  unfold numParts
  split
  · exact Nat.le_trans (hB _ _) (by rw [List.length_drop]; omega)
  · exact hB _ _
theorem numParts_len (s : Str) (hs : s.length ≤ 1073741824) : (numParts s).2.2.2.1.length ≤ 1073741824 := Nat.le_trans (numParts_p s) hs
end Go.Am
namespace Go.Am
def negL : Str → Int → Option Int
  | [], v => some v
  | b :: s, v => if v < -((9223372036854775808 - ((b.toNat : Int) - 48)) / 10) then none else negL s (10 * v - ((b.toNat : Int) - 48))
def refIntL (s : Str) : Int × Bool :=
  if numL s = false ∨ s = [45, 48] then (0, false) else
  if 0 < (numParts s).2.2.1.length ∨ 0 < (numParts s).2.2.2.1.length then (0, false) else
  match negL (numParts s).2.1 0 with
  | none => (0, false)
  | some v => if (numParts s).1 = true then (v, true) else if v = -9223372036854775808 then (0, false) else (-v, true)
theorem take_dig : ∀ s : Str, ∀ b ∈ s.take (runL s), dig b = true
  | [] => by simp
  | c :: s => by
    intro b hb
    rw [runL] at hb
    split at hb
    · rename_i h
      rw [List.take_succ_cons] at hb
      rcases List.mem_cons.1 hb with rfl | hb
      · exact h
      · exact take_dig s b hb
    · simp at hb
theorem numParts_w (s : Str) : (∀ b ∈ (numParts s).2.1, dig b = true) ∧ (numParts s).2.1.length ≤ s.length := by
  have hE : ∀ neg w f p d, (partsE neg w f p d).2.1 = w ∨ (partsE neg w f p d).2.1 = [] := by
    intro neg w f p d; unfold partsE; split <;> simp [noParts]
  have hD : ∀ neg w f (s : Str), (partsD neg w f s).2.1 = w ∨ (partsD neg w f s).2.1 = [] := by
    intro neg w f s
    unfold partsD
    split
    · simp
    · split
      · simp [noParts]
      · split
        · exact hE _ _ _ _ _
        · exact hE _ _ _ _ _
  have hC : ∀ neg w (s : Str), (partsC neg w s).2.1 = w ∨ (partsC neg w s).2.1 = [] := by
    intro neg w s
    unfold partsC
    split
    · split
      · simp [noParts]
      · exact hD _ _ _ _
    · exact hD _ _ _ _
  have hB : ∀ neg (s : Str), (∀ b ∈ (partsB neg s).2.1, dig b = true) ∧ (partsB neg s).2.1.length ≤ s.length := by
    intro neg s
    unfold partsB
    split
    · simp [noParts]
    · rcases hC neg (s.take (runL s)) (s.drop (runL s)) with h | h
      · rw [h]; exact ⟨take_dig s, by rw [List.length_take]; omega⟩
      · rw [h]; simp
  unfold numParts
  split
  · have := hB true (s.drop 1)
    refine ⟨this.1, Nat.le_trans this.2 (by rw [List.length_drop]; omega)⟩
  · exact hB _ _
theorem tdiv_neg10 (x : Int) (h : x ≤ 0) : x.tdiv 10 = -((-x) / 10) := by
  obtain ⟨n, hn⟩ := Int.eq_ofNat_of_zero_le (show 0 ≤ -x by omega)
  have hx : x = -(n : Int) := by omega
  subst hx
  rw [Int.neg_tdiv, Int.neg_neg, Int.tdiv_eq_ediv_of_nonneg (by omega)]
def lineL (n : Int) : Str := if n < 0 then [] else 10 :: Lib.repeatL [32, 32] n.toNat
def hexd (k : Nat) : UInt8 := [48, 49, 50, 51, 52, 53, 54, 55, 56, 57, 97, 98, 99, 100, 101, 102].getD k 0
def hex2 (n : Nat) : Str := [48, 48, hexd (n / 16), hexd (n % 16)]
def quoteU (x : Str) (n : Int) : Str :=
  if n = 0 then [239, 191, 189] else
  if b0 x = 34 ∨ b0 x = 92 then 92 :: x else
  if b0 x = 8 then [92, 98] else
  if b0 x = 9 then [92, 116] else
  if b0 x = 10 then [92, 110] else
  if b0 x = 12 then [92, 102] else
  if b0 x = 13 then [92, 114] else
  if b0 x < 32 then 92 :: 117 :: hex2 (b0 x) else x
def stepN (s : Str) : Nat := (max (utfTake s).2 1).toNat
def quoteL : Nat → Str → Str
  | 0, _ => []
  | _ + 1, [] => []
  | q + 1, c :: cs => quoteU ((c :: cs).take (stepN (c :: cs))) (utfTake (c :: cs)).2 ++ quoteL q ((c :: cs).drop (stepN (c :: cs)))
def quoteS (s : Str) : Str := 34 :: quoteL s.length s ++ [34]
theorem stepN_le (c : UInt8) (cs : Str) : stepN (c :: cs) ≤ (c :: cs).length := by unfold stepN; have := utfTake_n (c :: cs); simp only [List.length_cons] at this ⊢; omega
def clampL (s : Str) (at_ : Int) : Int := min (max at_ 0) s.length
def whileL (s c : Str) : Nat := (s.takeWhile (c.contains ·)).length
end Go.Am
namespace Go.Am
def e2 : Str := [101, 69]
def d10 : Str := [48, 49, 50, 51, 52, 53, 54, 55, 56, 57]
def behindE (s : Str) : Str := (s.drop (Lib.indexAny s e2 + 1).toNat).drop (whileL (s.drop (Lib.indexAny s e2 + 1).toNat) d10)
def greatL (s : Str) : Bool :=
  if Lib.indexAny s e2 < 0 then false else
  if behindE s = s.drop (Lib.indexAny s e2 + 1).toNat ∧ 0 < ((behindE s).length : Int) ∧ ((((behindE s).getD 0 0).toNat : Int) = 43 ∨ (((behindE s).getD 0 0).toNat : Int) = 45) then
    decide (((behindE s).drop 1).length ≠ 0 ∧ whileL ((behindE s).drop 1) d10 = ((behindE s).drop 1).length) && numL (s.take (Lib.indexAny s e2).toNat)
  else decide ((behindE s).length = 0 ∧ Lib.indexAny s e2 + 1 < s.length) && numL (s.take (Lib.indexAny s e2).toNat)
def jnumL (s : Str) : Int := if 400 < s.length then 2 else if numL s = true then 0 else if greatL s = true then 6 else 4
def preB (s : Str) (p : UInt8) : Bool := decide (s.take 1 = [p])
end Go.Am
namespace Go.Am
end Go.Am
namespace Go.Am
end Go.Am
namespace Go.Am
end Go.Am
namespace Go.Am
def hexD (b : UInt8) : Option Int :=
  if 48 ≤ b.toNat ∧ b.toNat ≤ 57 then some (b.toNat - 48) else
  if 97 ≤ b.toNat ∧ b.toNat ≤ 102 then some (b.toNat - 87) else
  if 65 ≤ b.toNat ∧ b.toNat ≤ 70 then some (b.toNat - 55) else none
def hexR : Str → Int → Int × Bool
  | [], v => (v, true)
  | b :: s, v => match hexD b with
    | none => (0, false)
    | some x => hexR s (v * 16 + x)
def hexL (s : Str) : Int × Bool := if s.length < 1 ∨ 8 < s.length then (0, false) else hexR s 0
def digL (t : Str) (a n : Nat) : Int × Bool := if t.length < a + n then (0, false) else hexL ((t.drop a).take n)
def shortL (c : UInt8) : Option Int :=
  if c = 34 then some 34 else if c = 92 then some 92 else if c = 98 then some 8 else if c = 102 then some 12 else if c = 110 then some 10 else if c = 114 then some 13 else if c = 116 then some 9 else if c = 47 then some 47 else none
def putR (a : Int) (acc : Str) (x k : Int) : Bool × Int × Str := if utfGood x = true then (true, a + k, acc ++ utfEnc x) else (false, a, acc)
def escL (t : Str) (a : Nat) : Option (Int × Int) :=
  if a + 1 = t.length then none else
  match shortL (t.getD (a + 1) 0) with
  | some x => some (x, 2)
  | none => if ¬ ((t.getD (a + 1) 0).toNat : Int) = 117 ∨ (digL t (a + 2) 4).2 = false then none else
    if (digL t (a + 2) 4).1 < 55296 ∨ 56320 ≤ (digL t (a + 2) 4).1 then some ((digL t (a + 2) 4).1, 6) else
    if (digL t (a + 8) 4).2 = false ∨ ¬ (t.drop (a + 6)).take 2 = [92, 117] ∨ (digL t (a + 8) 4).1 < 56320 ∨ 57343 < (digL t (a + 8) 4).1 then none else
    some (65536 + ((digL t (a + 2) 4).1 - 55296) * 1024 + ((digL t (a + 8) 4).1 - 56320), 12)
def escAt (t : Str) (a : Nat) (acc : Str) : Bool × Int × Str := match escL t a with
  | none => (false, a, acc)
  | some (x, k) => putR a acc x k
def unqL : Nat → Str → Nat → Str → Str × Int × Int
  | 0, t, _, _ => ([], 0, t.length)
  | q + 1, t, a, acc =>
    if t.length ≤ a then ([], 0, t.length) else
    if ((t.getD a 0).toNat : Int) = 34 then (acc, (a : Int) + 1, -1) else
    if ((t.getD a 0).toNat : Int) < 32 then ([], 0, (a : Int)) else
    if ((t.getD a 0).toNat : Int) = 92 then
      (if (escAt t a acc).1 = true then unqL q t (escAt t a acc).2.1.toNat (escAt t a acc).2.2 else ([], 0, (a : Int)))
    else if (utfTake (t.drop a)).2 = 0 then ([], 0, (a : Int)) else unqL q t (a + (utfTake (t.drop a)).2.toNat) (acc ++ utfEnc (utfTake (t.drop a)).1)
def unquoteL (t : Str) (at_ : Int) : Str × Int × Int :=
  if at_ < 0 ∨ preB (t.drop (clampL t at_).toNat) 34 = false then ([], 0, clampL t at_) else unqL (t.length + 1) t ((clampL t at_).toNat + 1) []
end Go.Am
namespace Go.Am
structure Wd where
  k : Int
  s : Str
  a : Int
deriving DecidableEq
def Wd.enc (w : Wd) : PV := .agg [.int .i64 w.k, .str w.s, .int .i64 w.a]
def signs : Str := [123, 125, 91, 93, 58, 44]
def lowers : Str := [97, 98, 99, 100, 101, 102, 103, 104, 105, 106, 107, 108, 109, 110, 111, 112, 113, 114, 115, 116, 117, 118, 119, 120, 121, 122]
def numBs : Str := [48, 49, 50, 51, 52, 53, 54, 55, 56, 57, 43, 45, 46, 101, 69]
def blanksB : Str := [32, 9, 10, 13]
def wordL (t : Str) (a : Nat) : Wd × Int × Int × Int :=
  if 0 ≤ firstIdx ⟨signs.toArray⟩ (t.getD a 0) then (⟨1, (t.drop a).take 1, a⟩, (a : Int) + 1, 0, 0) else
  if ((t.getD a 0).toNat : Int) = 34 then
    (if 0 ≤ (unquoteL t a).2.2 then (⟨0, [], 0⟩, 0, 4, (unquoteL t a).2.2) else
     if 4096 < ((unquoteL t a).1.length : Int) then (⟨0, [], 0⟩, 0, 2, (a : Int)) else
     (⟨2, (unquoteL t a).1, a⟩, (unquoteL t a).2.1, 0, 0)) else
  if 97 ≤ ((t.getD a 0).toNat : Int) ∧ ((t.getD a 0).toNat : Int) ≤ 122 then
    (if ¬ (t.drop a).take (whileL (t.drop a) lowers) = [116, 114, 117, 101] ∧ ¬ (t.drop a).take (whileL (t.drop a) lowers) = [102, 97, 108, 115, 101] ∧ ¬ (t.drop a).take (whileL (t.drop a) lowers) = [110, 117, 108, 108] then (⟨0, [], 0⟩, 0, 4, (a : Int)) else
     (⟨4, (t.drop a).take (whileL (t.drop a) lowers), a⟩, (a : Int) + whileL (t.drop a) lowers, 0, 0)) else
  if whileL (t.drop a) numBs = 0 then (⟨0, [], 0⟩, 0, 4, (a : Int)) else
  if jnumL ((t.drop a).take (whileL (t.drop a) numBs)) ≠ 0 then (⟨0, [], 0⟩, 0, jnumL ((t.drop a).take (whileL (t.drop a) numBs)), (a : Int)) else
  (⟨3, (t.drop a).take (whileL (t.drop a) numBs), a⟩, (a : Int) + whileL (t.drop a) numBs, 0, 0)
def dotE : Str := [46, 101, 69]
def Whole (_s : Str) (x : Parts) (neg : Bool) (w r : Str) : Prop :=
  ((∃ b ∈ r, b ∈ dotE) ∧ (0 < x.2.2.1.length ∨ 0 < x.2.2.2.1.length)) ∨ (r = [] ∧ x = (neg, w, [], [], true))
def leqS (a b : Str) : Bool := Op.bytesLess a b || decide (a = b)
def ownBad (k n : Int) (ls ll lm : Nat) : Prop := (k ≠ 1 ∧ k ≠ 2 ∧ n ≠ 0) ∨ (k ≠ 3 ∧ k ≠ 4 ∧ k ≠ 7 ∧ ls ≠ 0) ∨ (k ≠ 5 ∧ ll ≠ 0) ∨ (k ≠ 6 ∧ lm ≠ 0)
instance (k n : Int) (ls ll lm : Nat) : Decidable (ownBad k n ls ll lm) := by unfold ownBad; infer_instance
def nodeOk (k n : Int) (s : Str) : Bool :=
  if k = 0 ∨ k = 2 then true else if k = 1 then decide (n = 0 ∨ n = 1) else if k = 3 then numL s && !(refIntL s).2 else if k = 4 then strOk s else if k = 7 then stampOk s else decide (k = 5 ∨ k = 6)
mutual
def plainT : Tree → Bool
  | .mk k n s l m => if ownBad k n s.length l.length m.length then false else nodeOk k n s && (plainL l && plainM none m)
def plainL : List Tree → Bool
  | [] => true
  | t :: l => plainT t && plainL l
def plainM : Option Str → List (Str × Tree) → Bool
  | _, [] => true
  | o, p :: m => plainP o p && plainM (some p.1) m
def plainP : Option Str → Str × Tree → Bool
  | o, (k, t) => strOk k && (!(match o with | none => false | some p => leqS k p) && plainT t)
end
theorem plainT_eq (t : Tree) : plainT t = if ownBad t.kind t.n t.s.length t.l.length t.m.length then false else nodeOk t.kind t.n t.s && (plainL t.l && plainM none t.m) := by cases t; rw [plainT]; rfl
def deeper (d : Int) : Int := if 0 ≤ d then d + 1 else -1
def colonL (d : Int) : Str := if 0 ≤ d then [58, 32] else [58]
mutual
def printT : Tree → Int → Str
  | .mk k n s l m, d => if k = 0 then [110, 117, 108, 108] else if k = 1 then (if n = 1 then [116, 114, 117, 101] else [102, 97, 108, 115, 101]) else
    if k = 2 then Lib.itoa n else if k = 3 then s else if k = 4 ∨ k = 7 then quoteS s else
    if k = 6 then (if m.length = 0 then [123, 125] else 123 :: (printM true m (deeper d) ++ (lineL d ++ [125])))
    else (if l.length = 0 then [91, 93] else 91 :: (printL true l (deeper d) ++ (lineL d ++ [93])))
def printL : Bool → List Tree → Int → Str
  | _, [], _ => []
  | f, t :: l, d => (if f = true then [] else [44]) ++ (lineL d ++ (printT t d ++ printL false l d))
def printM : Bool → List (Str × Tree) → Int → Str
  | _, [], _ => []
  | f, p :: m, d => (if f = true then [] else [44]) ++ (lineL d ++ (printP p d ++ printM false m d))
def printP : Str × Tree → Int → Str
  | (k, t), d => quoteS k ++ (colonL d ++ printT t d)
end
theorem printT_eq (t : Tree) (d : Int) : printT t d = if t.kind = 0 then [110, 117, 108, 108] else if t.kind = 1 then (if t.n = 1 then [116, 114, 117, 101] else [102, 97, 108, 115, 101]) else
    if t.kind = 2 then Lib.itoa t.n else if t.kind = 3 then t.s else if t.kind = 4 ∨ t.kind = 7 then quoteS t.s else
    if t.kind = 6 then (if t.m.length = 0 then [123, 125] else 123 :: (printM true t.m (deeper d) ++ (lineL d ++ [125])))
    else (if t.l.length = 0 then [91, 93] else 91 :: (printL true t.l (deeper d) ++ (lineL d ++ [93]))) := by cases t; rw [printT]; rfl
end Go.Am
namespace Go.Am
theorem encP_flat (k : Str) (y : Tree) : Tree.encP (k, y) = .agg [.str k, .int .i64 y.kind, .int .i64 y.n, .str y.s, .lst false (Tree.encL y.l), .lst false (Tree.encM y.m)] := by
  rw [Tree.encP, Tree.enc_eta y]; rfl
theorem ElemZ.pairE {m : List (Str × Tree)} {i : Nat} {K : PV → Prop} {k : Str} {y : Tree} (h : m[i]? = some (k, y))
    (q : K (.agg [.str k, .int .i64 y.kind, .int .i64 y.n, .str y.s, .lst false (Tree.encL y.l), .lst false (Tree.encM y.m)])) : ElemZ (Tree.encM m) i 6 K := ElemZ.pair h (by rw [encP_flat]; exact q)
end Go.Am
namespace Go.Am
mutual
def okT : Tree → Bool
  | .mk _ n _ l m => decide (-9223372036854775808 ≤ n ∧ n ≤ 9223372036854775807) && (okL l && okM m)
def okL : List Tree → Bool
  | [] => true
  | t :: l => okT t && okL l
def okM : List (Str × Tree) → Bool
  | [] => true
  | p :: m => okQ p && okM m
def okQ : Str × Tree → Bool
  | (_, t) => okT t
end
def goodT (t : Tree) : Bool := plainT t && okT t
theorem okT_eq (t : Tree) : okT t = (decide (-9223372036854775808 ≤ t.n ∧ t.n ≤ 9223372036854775807) && (okL t.l && okM t.m)) := by cases t; rw [okT]; rfl
theorem okL_mem : ∀ {l : List Tree}, okL l = true → ∀ x ∈ l, okT x = true
  | [], _, x, hx => by cases hx
  | t :: l, h, x, hx => by
    rw [okL, Bool.and_eq_true] at h
    rcases List.mem_cons.1 hx with rfl | hx
    · exact h.1
    · exact okL_mem h.2 x hx
theorem okM_mem : ∀ {l : List (Str × Tree)}, okM l = true → ∀ x ∈ l, okT x.2 = true
  | [], _, x, hx => by cases hx
  | (k, t) :: l, h, x, hx => by
    rw [okM, okQ, Bool.and_eq_true] at h
    rcases List.mem_cons.1 hx with rfl | hx
    · exact h.1
    · exact okM_mem h.2 x hx
theorem plainL_mem : ∀ {l : List Tree}, plainL l = true → ∀ x ∈ l, plainT x = true
  | [], _, x, hx => by cases hx
  | t :: l, h, x, hx => by
    rw [plainL, Bool.and_eq_true] at h
    rcases List.mem_cons.1 hx with rfl | hx
    · exact h.1
    · exact plainL_mem h.2 x hx
theorem plainM_mem : ∀ {l : List (Str × Tree)} {o : Option Str}, plainM o l = true → ∀ x ∈ l, strOk x.1 = true ∧ plainT x.2 = true
  | [], _, _, x, hx => by cases hx
  | (k, t) :: l, o, h, x, hx => by
    simp only [plainM, plainP, Bool.and_eq_true] at h
    rcases List.mem_cons.1 hx with rfl | hx
    · exact ⟨h.1.1, h.1.2.2⟩
    · exact plainM_mem h.2 x hx
theorem goodT_spec {t : Tree} (h : goodT t = true) : ¬ ownBad t.kind t.n t.s.length t.l.length t.m.length ∧ nodeOk t.kind t.n t.s = true ∧ (-9223372036854775808 ≤ t.n ∧ t.n ≤ 9223372036854775807) ∧
    (∀ x ∈ t.l, goodT x = true) ∧ (∀ x ∈ t.m, strOk x.1 = true ∧ goodT x.2 = true) := by
  unfold goodT at h
  rw [Bool.and_eq_true, plainT_eq, okT_eq, Bool.and_eq_true, Bool.and_eq_true, decide_eq_true_eq] at h
  obtain ⟨h1, h2, h3, h4⟩ := h
  split at h1
  · cases h1
  · rename_i hb
    rw [Bool.and_eq_true, Bool.and_eq_true] at h1
    refine ⟨hb, h1.1, h2, fun x hx => ?_, fun x hx => ?_⟩
    · unfold goodT; rw [plainL_mem h1.2.1 x hx, okL_mem h3 x hx]; rfl
    · have := plainM_mem h1.2.2 x hx
      refine ⟨this.1, ?_⟩
      unfold goodT; rw [this.2, okM_mem h4 x hx]; rfl
end Go.Am
namespace Go.Am
end Go.Am
end
