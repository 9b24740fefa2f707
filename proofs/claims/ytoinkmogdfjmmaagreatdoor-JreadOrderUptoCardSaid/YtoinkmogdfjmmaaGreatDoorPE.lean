/-
Regions that may come in any order: what they want and give.
-/
import Derived.Test.YtoinkmogdfjmmaaGreatDoorPD
import Derived.Test.YtoinkmogdfjmmaaGreatDoorProg
import Derived.KernelRfl
import Derived.Lib.AppendIntMem
import Derived.Shelf.Strings.IndexAnyAll
import Derived.Shelf.Strconv.ParseInt10At64
import Derived.Lib.AtoiErrMem

section
namespace Go.Am
open Go
section
variable {P : Program} {G : Nat → Option PV} {pol : Pol} {bs : Bool} {n k : Nat}
theorem stepOp_simple {C : CallF} {o : Oper} (hb : isBuildS o.op = false) (hs : simpleK P bs o.op = true) (fr : Fr) :
    stepOp P G pol C o fr = (aopA P (Heap.at fr.H) fr.H.length (evalO G fr.env) o.op).map fun r => (Ex.normal, { fr with env := putO fr.env o.dst r.val }) := by
  unfold stepOp
  split
  · rename_i hop; rw [hop] at hs; simp [simpleK] at hs
  · rename_i hop; rw [hop] at hs; simp [simpleK] at hs
  · rename_i hop; rw [hop] at hs; simp [simpleK] at hs
  · simp only [simple_pre hb hs, Fr.freezeAll]
    cases hr : aopA P (Heap.at fr.H) fr.H.length (evalO G fr.env) o.op with
    | none => rfl
    | some r => simp only [simple_effA hb hs hr, Fr.eff, Option.map_some]
theorem simple_notB {op : Op} (hs : simpleK P bs op = true) : (bs = true ∧ isBuildS op = true) ∨ isBuildS op = false := by
  cases op <;> simp_all [simpleK, isBuildS]
theorem oneA_agree {C : CallF} {ops : Array Oper} {i d : Nat} {o : Oper} (ho : ops[i]? = some o) (hd : o.dst = some d) (hs : simpleK P bs o.op = true) {F1 F2 fr1 : Fr} {v : V}
    (hH : F2.H = F1.H) (hag : ∀ t ∈ Oper.looksAt ops o, F2.env[t]? = F1.env[t]?) (h : oneA P G pol bs C ops i F1 = some (.normal, fr1)) (hv : fr1.env[d]? = some v) :
    oneA P G pol bs C ops i F2 = some (.normal, { F2 with env := F2.env.set d v }) := by
  have hev : ∀ x ∈ o.op.operands, evalO G F1.env x = evalO G F2.env x := by
    intro x hx
    cases x with
    | tmp t =>
      have : t ∈ Oper.looksAt ops o := by
        unfold Oper.looksAt
        refine List.mem_append_left _ ?_
        rw [List.mem_filterMap]
        exact ⟨.tmp t, by simpa using hx, rfl⟩
      simp only [evalO, hag t this]
    | _ => rfl
  rcases simple_notB hs with hbs | hb
  · unfold oneA at h ⊢
    simp only [ho] at h ⊢
    rw [if_pos hbs] at h ⊢
    unfold fixedB at h ⊢
    split at h
    case h_2 => cases h
    rename_i t len parts d' hop hgd hdst
    rw [hd] at hdst
    cases hdst
    rw [hop] at hev
    rw [hH, ← aop_congr _ hev]
    split at h
    case h_2 => cases h
    rename_i hr
    split at h
    case isFalse => cases h
    rename_i hc
    cases h
    rw [if_pos hc]
    simp only [] at hv
    rw [List.getElem?_set, if_pos rfl] at hv
    split at hv
    · cases hv; rfl
    · cases hv
  rw [oneA_not ho hb] at h ⊢
  have step : (match stepOp P G pol C o F1 with
      | some (.normal, fr') => runOps P G pol C ops [] fr'
      | x => x) = some (.normal, fr1) → (match stepOp P G pol C o F2 with
      | some (.normal, fr') => runOps P G pol C ops [] fr'
      | x => x) = some (.normal, { F2 with env := F2.env.set d v }) := by
    intro h
    rw [stepOp_simple hb hs] at h ⊢
    rw [hH, ← aopA_congr o.op hev]
    cases hr : aopA P (Heap.at F1.H) F1.H.length (evalO G F1.env) o.op with
    | none => rw [hr] at h; cases h
    | some r =>
      rw [hr] at h
      simp only [Option.map_some, runOps, Option.some.injEq, Prod.mk.injEq, true_and] at h ⊢
      subst h
      have hv' : (putO F1.env o.dst r.val)[d]? = some v := hv
      rw [hd] at hv'
      simp only [putO] at hv'
      rw [List.getElem?_set, if_pos rfl] at hv'
      split at hv'
      · cases hv'; rw [hd]; rfl
      · cases hv'
  simp only [runOps, ho] at h ⊢
  cases hg : o.guard with
  | none => rw [hg] at h; exact step h
  | some p =>
    obtain ⟨j, want⟩ := p
    rw [hg] at h
    simp only [] at h ⊢
    cases hdg : (ops[j]?).bind (·.dst) with
    | none => rw [hdg] at h; cases h
    | some dg =>
      rw [hdg] at h
      simp only [] at h ⊢
      have hl : dg ∈ Oper.looksAt ops o := by
        unfold Oper.looksAt
        rw [hg]
        simp [hdg]
      have hskip : some (Ex.normal, { F1 with env := putO F1.env o.dst (.p (.tup [])) }) = some (Ex.normal, fr1) → some (Ex.normal, { F2 with env := putO F2.env o.dst (.p (.tup [])) }) = some (Ex.normal, { F2 with env := F2.env.set d v }) := by
        intro h
        simp only [Option.some.injEq, Prod.mk.injEq, true_and] at h ⊢
        subst h
        have hv' : (putO F1.env o.dst (.p (.tup [])))[d]? = some v := hv
        rw [hd] at hv'
        simp only [putO] at hv'
        rw [List.getElem?_set, if_pos rfl] at hv'
        split at hv'
        · cases hv'; rw [hd]; rfl
        · cases hv'
      split at h
      · rename_i b hb'
        have hb2 : F2.env[dg]? = some (.p (.bool b)) := by rw [hag dg hl]; exact hb'
        simp only [hb2]
        split at h
        · rename_i e
          subst e
          rw [if_pos rfl, set_self hb2]
          rw [set_self hb'] at h
          exact step h
        · rename_i e
          have e2 : b = !want := by cases b <;> cases want <;> simp_all
          rw [if_neg e, ← e2, set_self hb2]
          rw [← e2, set_self hb'] at h
          exact hskip h
      · rename_i hb'
        have hb2 : F2.env[dg]? = some (.p (.tup [])) := by rw [hag dg hl]; exact hb'
        simp only [hb2]
        exact hskip h
      · cases h
def OneV (P : Program) (G : Nat → Option PV) (pol : Pol) (bs : Bool) (ops : Array Oper) (i : Nat) (fr : Fr) (v : V) : Prop :=
  ∃ fr' d, OneB P G pol bs ops i fr .normal fr' ∧ slotOf ops i = some d ∧ fr'.env[d]? = some v
def IdemP (P : Program) (G : Nat → Option PV) (pol : Pol) (bs : Bool) (ops : Array Oper) (F : Fr) (i : Nat) : Prop :=
  ∃ d v, slotOf ops i = some d ∧ OneV P G pol bs ops i F v ∧ F.env[d]? = some v
def EagerP (P : Program) (G : Nat → Option PV) (pol : Pol) (bs : Bool) (ops : Array Oper) : List Nat → Fr → Fr → Prop
  | [], fr, F => F = fr
  | i :: l, fr, F => ∃ d v, slotOf ops i = some d ∧ OneV P G pol bs ops i fr v ∧ EagerP P G pol bs ops l { fr with env := fr.env.set d v } F
def ContP (P : Program) (G : Nat → Option PV) (pol : Pol) (bs : Bool) (ops : Array Oper) (tab simples : List Nat) : List Nat → Nat → List Nat → Fr → Ex → Fr → Prop
  | [], _, _, F, ex, fr' => ex = .normal ∧ fr' = F
  | c :: rest, past, todo, F, ex, fr' =>
    (∃ F', OneB P G pol bs ops c F .normal F' ∧ ∃ F2, EagerP P G pol bs ops ((todo.filter fun i => !isNow tab (maskOf (c :: rest)) i).filter (isNow tab (maskOf rest))) F' F2 ∧
      (∀ i ∈ simples, isNow tab (maskOf rest) i = true → (past ||| ((tab[c]?).getD 0)).testBit i = false → IdemP P G pol bs ops F2 i) ∧
      ContP P G pol bs ops tab simples rest (past ||| ((tab[c]?).getD 0)) (todo.filter fun i => !isNow tab (maskOf (c :: rest)) i) F2 ex fr') ∨
    ∃ v F', OneB P G pol bs ops c F (.pan v) F' ∧ ex = .pan v ∧ fr' = { F' with env := allJunk F'.env }
theorem eagerP_spec {ops : Array Oper} : ∀ (l : List Nat) {fr F : Fr}, EagerP P G pol bs ops l fr F →
    F.H = fr.H ∧ F.k = fr.k ∧ F.mv = fr.mv ∧ F.env.length = fr.env.length ∧ ∀ x, (∀ i ∈ l, slotOf ops i ≠ some x) → F.env[x]? = fr.env[x]?
  | [], fr, F, h => by cases h; exact ⟨rfl, rfl, rfl, rfl, fun _ _ => rfl⟩
  | i :: l, fr, F, h => by
    obtain ⟨d, v, h2, _, h⟩ := h
    obtain ⟨g1, g2, g3, g4, g5⟩ := eagerP_spec l h
    refine ⟨g1, g2, g3, by simpa using g4, fun x hx => ?_⟩
    rw [g5 x fun j hj => hx j (List.mem_cons_of_mem _ hj)]
    show (fr.env.set d v)[x]? = _
    rw [List.getElem?_set_ne]
    intro e
    exact hx i (by simp) (by rw [h2, e])
theorem drawP_sound {ops : Array Oper} {tab simples chain : List Nat} (htab : tab = ancTab ops.toList []) (hsimp : simples = (List.range ops.size).filter (isSimple P bs ops tab))
    (hchain : chain = (List.range ops.size).filter fun i => !isSimple P bs ops tab i) (hback : backOk ops = true)
    {k : Nat} {B0 : Nat → Prop} {L0 : Loc} {w0 : World} {H0 : Heap} {mv0 : List Nat} {d0 : List Deferred} {ex : Ex} {fr' : Fr} {Q : Exit → Act → World → Prop}
    (hQ : ∀ e a' w', EPost k B0 L0 w0 H0 mv0 d0 ex fr' e a' w' → Q e a' w') :
    ∀ (fuel : Nat) (listed : Array Bool) (rest : List Nat) (past : Nat) (todo : List Nat) (F : Fr) (B : Nat → Prop) (L : Loc) (a : Act) (w : World),
      unl listed ops.size ≤ fuel → listed.size = ops.size → Clo ops listed → (∀ c ∈ rest, c ∈ chain ∧ listed.getD c false = false) → (∀ c ∈ chain, c ∉ rest → listed.getD c false = true) → chainOk tab rest = true →
      (∀ i, past.testBit i = true → listed.getD i false = true) → (∀ i ∈ todo, i ∈ simples) → (∀ i ∈ simples, isNow tab (maskOf rest) i = true → past.testBit i = false → IdemP P G pol bs ops F i) →
      ContP P G pol bs ops tab simples rest past todo F ex fr' →
      St B L w F.H → ERelX (UnX ops simples listed) B L w F.env a.tmps → GOk G B w → F.k = k → FS k B0 L0 w0 H0 mv0 B L w F.H F.mv → a.defers = d0 → rest.Nodup → wpAny P .any ops Q fuel listed a w := by
  subst htab
  generalize htab : ancTab ops.toList [] = tab at *
  have anc : ∀ {i j : Nat} {o : Oper} {listed : Array Bool}, isAnc tab i j = true → ops[j]? = some o → Clo ops listed → (∀ e ∈ o.after, Region.binds .any e = true → listed.getD e.on false = true) → listed.getD i false = true := by
    intro i j o listed ha; rw [← htab] at ha; exact anc_spec ha
  have mem_simple : ∀ i, i ∈ simples ↔ i < ops.size ∧ isSimple P bs ops tab i = true := fun i => by rw [hsimp]; simp
  have mem_chain : ∀ i, i ∈ chain ↔ i < ops.size ∧ isSimple P bs ops tab i = false := fun i => by rw [hchain]; simp
  -- nothing ready: all are listed
  have done : ∀ (listed : Array Bool), listed.size = ops.size → Region.ready .any ops listed = [] → ∀ i, i < ops.size → listed.getD i false = true := by
    intro listed hls hr i
    induction i using Nat.strongRecOn with
    | ind i ih =>
      intro hi
      cases hq : listed.getD i true with
      | true => simpa [Array.getD, hls, hi] using hq
      | false =>
        have ho : ops[i]? = some ops[i] := by simp [hi]
        have : i ∈ Region.ready .any ops listed := Go.mem_ready.2 ⟨hq, ops[i], ho, fun e he hb => by
          have hbk := hback
          unfold backOk at hbk
          rw [List.all_eq_true] at hbk
          have := hbk i (by simpa using hi)
          rw [ho] at this
          simp only [List.all_eq_true] at this
          have := this e (by simpa using he)
          simp only [hb, Bool.not_true, Bool.false_or, decide_eq_true_eq] at this
          exact ih e.on this (by omega)⟩
        rw [hr] at this
        simp at this
  have fin : ∀ (listed : Array Bool) (rest : List Nat) (past : Nat) (todo : List Nat) (F : Fr) (B : Nat → Prop) (L : Loc) (a : Act) (w : World), listed.size = ops.size → Region.ready .any ops listed = [] → (∀ c ∈ rest, c ∈ chain ∧ listed.getD c false = false) →
      ContP P G pol bs ops tab simples rest past todo F ex fr' → St B L w F.H → ERelX (UnX ops simples listed) B L w F.env a.tmps → F.k = k → FS k B0 L0 w0 H0 mv0 B L w F.H F.mv → a.defers = d0 → Q .normal a w := by
    intro listed rest past todo F B L a w hls hr hrest hcont hst he hk hfs hd
    have hall := done listed hls hr
    cases rest with
    | cons c rest =>
      have h1 := hrest c (by simp)
      rw [hall c ((mem_chain c).1 h1.1).1] at h1
      cases h1.2
    | nil =>
      obtain ⟨rfl, rfl⟩ := hcont
      refine hQ _ _ _ ⟨B, L, hfs, he.all ?_, hst, hk, hd, trivial⟩
      rintro x ⟨i, hi, hl, _⟩
      rw [hall i ((mem_simple i).1 hi).1] at hl
      cases hl
  intro fuel
  induction fuel with
  | zero =>
    intro listed rest past todo F B L a w hun hls hclo hrest hch hcok hpast htodo hidem hcont hst he hg hk hfs hd hnd
    have hr : Region.ready .any ops listed = [] := by
      cases hq : Region.ready .any ops listed with
      | nil => rfl
      | cons i l =>
        have hi : i ∈ Region.ready .any ops listed := by rw [hq]; simp
        obtain ⟨h1, o, ho, _⟩ := Go.mem_ready.1 hi
        have := unl_set (Array.getElem?_eq_some_iff.1 ho).1 h1 hls
        omega
    exact ⟨hr, fin listed rest past todo F B L a w hls hr hrest hcont hst he hk hfs hd⟩
  | succ fuel ih =>
    intro listed rest past todo F B L a w hun hls hclo hrest hch hcok hpast htodo hidem hcont hst he hg hk hfs hd hnd
    refine ⟨fun hr => fin listed rest past todo F B L a w hls hr hrest hcont hst he hk hfs hd, fun i hi => ?_⟩
    obtain ⟨hun1, o, ho, hpre⟩ := Go.mem_ready.1 hi
    have hunl : listed.getD i false = false := getD_false_true hun1
    have hin : i < ops.size := (Array.getElem?_eq_some_iff.1 ho).1
    have hfu : unl (listed.setIfInBounds i true) ops.size ≤ fuel := by have := unl_set hin hun1 hls; omega
    have hls' : (listed.setIfInBounds i true).size = ops.size := by simpa using hls
    have keepT : ∀ j, listed.getD j false = true → (listed.setIfInBounds i true).getD j false = true := fun j hj => Go.getD_set_true hj
    have hclo' : Clo ops (listed.setIfInBounds i true) := by
      intro j p hp hl e he hb
      by_cases e1 : i = j
      · subst e1
        rw [ho] at hp
        cases hp
        exact keepT _ (hpre e he hb)
      · rw [getD_set_other false e1] at hl
        exact keepT _ (hclo j p hp hl e he hb)
    have hX : ∀ t ∈ Oper.looksAt ops o, ¬ UnX ops simples listed t := by
      rintro t ht ⟨j, hj, hl, hs⟩
      obtain ⟨oj, dj, hoj, hdj, _, hlk, _⟩ := isSimple_spec ((mem_simple j).1 hj).2
      have : t = dj := by simp only [slotOf, hoj, Option.bind_some, hdj, Option.some.injEq] at hs; exact hs.symm
      subst this
      rw [anc (hlk i o ho ht) ho hclo hpre] at hl
      cases hl
    have hXd : ∀ t, o.dst = some t → ∀ j ∈ simples, listed.getD j false = false → slotOf ops j = some t → j = i := by
      intro t ht j hj hl hs
      obtain ⟨oj, dj, hoj, hdj, _, _, hw⟩ := isSimple_spec ((mem_simple j).1 hj).2
      have : t = dj := by simp only [slotOf, hoj, Option.bind_some, hdj, Option.some.injEq] at hs; exact hs.symm
      subst this
      by_cases e : i = j
      · exact e.symm
      · rw [anc (hw i o ho e ht) ho hclo hpre] at hl
        cases hl
    obtain ⟨e', hlike, hrel⟩ := he.mask
    have hFk : (F.envd e').k = k := hk
    have hXsub : ∀ x, Minus (UnX ops simples listed) o.dst x → UnX ops simples (listed.setIfInBounds i true) x := by
      rintro x ⟨⟨j, hj, hl, hs⟩, hne⟩
      refine ⟨j, hj, ?_, hs⟩
      by_cases e : i = j
      · subst e
        exact (hne (by simpa [slotOf, ho] using hs)).elim
      · rw [getD_set_other false e]; exact hl
    cases hsi : isSimple P bs ops tab i with
    | true =>
      have his : i ∈ simples := (mem_simple i).2 ⟨hin, hsi⟩
      have hnow : isNow tab (maskOf rest) i = true := by
        cases hq : isNow tab (maskOf rest) i with
        | true => rfl
        | false =>
          obtain ⟨c, hc, hac⟩ := notNow_spec hq
          have := anc hac ho hclo hpre
          rw [(hrest c hc).2] at this
          cases this
      have hp : past.testBit i = false := by
        cases hq : past.testBit i with
        | false => rfl
        | true => rw [hpast i hq] at hunl; cases hunl
      have hid := hidem i his hnow hp
      obtain ⟨o', d, ho', hdst, hsk, _, _⟩ := isSimple_spec hsi
      rw [ho] at ho'
      cases ho'
      have hso : slotOf ops i = some d := by simp [slotOf, ho, hdst]
      obtain ⟨d', v, hd', ⟨fr1, d'', ⟨C, hC, hone⟩, hd'', hv⟩, hu⟩ := hid
      rw [hso] at hd' hd''
      cases hd'
      cases hd''
      obtain ⟨_, v', hfr1⟩ := oneA_simple ho hdst hsk hone
      have hfr : fr1 = F := by
        rw [hfr1] at hv ⊢
        have hl : d < F.env.length := (List.getElem?_eq_some_iff.1 hu).1
        have : v' = v := by
          have : (F.env.set d v')[d]? = some v := hv
          rw [List.getElem?_set, if_pos rfl, if_pos hl] at this
          exact Option.some.inj this
        subst this
        rw [set_self hu]
      subst hfr
      obtain ⟨e1, h1, h2, h3⟩ := oneA_like ho hlike hX hone
      refine oneA_sound (fr := fr1.envd e') (fr' := fr1.envd e1) hC hst hrel hg h1 _ _ ?_ ?_
      · rintro a1 w1 ⟨B1, L1, hfs1, he1, hst1, hk1, hd1, _⟩ _
        refine ih _ rest past todo fr1 B1 L1 a1 w1 hfu hls' hclo' (fun c hc => ⟨(hrest c hc).1, ?_⟩) (fun c hc hcr => keepT c (hch c hc hcr)) hcok (fun j hj => keepT j (hpast j hj)) htodo hidem hcont hst1 ((ERelX.like (h3 rfl) he1).mono hXsub)
          (hg.step (hfs1.step hst)) hk (hfs.trans ?_) (hd1.trans hd) hnd
        · rw [getD_set_other false]
          · exact (hrest c hc).2
          · rintro rfl
            have := ((mem_chain _).1 (hrest _ hc).1).2
            rw [hsi] at this; cases this
        · rw [hFk] at hfs1; exact hfs1
      · rintro e a1 w1 hne ⟨B1, L1, _, _, _, _, _, hm⟩
        cases e <;> first | exact absurd rfl hne | exact hm.elim
    | false =>
      have hic : i ∈ chain := (mem_chain i).2 ⟨hin, hsi⟩
      have hir : i ∈ rest := by
        apply Classical.byContradiction
        intro hn
        rw [hch i hic hn] at hunl
        cases hunl
      cases rest with
      | nil => simp at hir
      | cons c rest =>
        have hci : c = i := by
          apply Classical.byContradiction
          intro hne
          obtain ⟨j, hj, haj⟩ := chainOk_spec rest c hcok i ((List.mem_cons.1 hir).resolve_left fun e => hne e.symm)
          have := anc haj ho hclo hpre
          rw [(hrest j hj).2] at this
          cases this
        subst hci
        have hcn : c ∉ rest := (List.nodup_cons.1 hnd).1
        rcases hcont with ⟨F', ⟨C, hC, hone⟩, hcont⟩ | ⟨v, F', ⟨C, hC, hone⟩, rfl, rfl⟩
        · -- on
          obtain ⟨e1, h1, h2, h3⟩ := oneA_like ho hlike hX hone
          refine oneA_sound (fr := F.envd e') (fr' := F'.envd e1) hC hst hrel hg h1 _ _ ?_ ?_
          · rintro a1 w1 ⟨B1, L1, hfs1, he1, hst1, hk1, hd1, _⟩ _
            obtain ⟨F2, heag, hidem2, hcont2⟩ := hcont
            obtain ⟨g1, g2, g3, g4, g5⟩ := eagerP_spec _ heag
            have hrest' : ∀ c' ∈ rest, c' ∈ chain ∧ (listed.setIfInBounds c true).getD c' false = false := by
              intro c' hc'
              have hne : c ≠ c' := by rintro rfl; exact hcn hc'
              exact ⟨(hrest c' (List.mem_cons_of_mem _ hc')).1, by
                rw [getD_set_other false hne]
                exact (hrest c' (List.mem_cons_of_mem _ hc')).2⟩
            refine ih _ rest _ _ F2 B1 L1 a1 w1 hfu hls' hclo' hrest' (fun c' hc' hcr => ?_) (chainOk_tail hcok) (fun j hj => ?_) (fun j hj => htodo j (List.mem_filter.1 hj).1) hidem2 hcont2 (by rw [g1]; exact hst1) ?_
              (hg.step (hfs1.step hst)) (g2.trans (hk1.trans hk)) ?_ (hd1.trans hd) (List.nodup_cons.1 hnd).2
            · by_cases e : c = c'
              · subst e; exact getD_set_self (by rw [hls]; exact hin)
              · exact keepT c' (hch c' hc' (by simp only [List.mem_cons, not_or]; exact ⟨fun h => e h.symm, hcr⟩))
            · rw [Nat.testBit_or, Bool.or_eq_true] at hj
              rcases hj with hj | hj
              · exact keepT j (hpast j hj)
              · exact keepT j (anc (show isAnc tab j c = true from hj) ho hclo hpre)
            · have hbase : ERelX (UnX ops simples (listed.setIfInBounds c true)) B1 L1 w1 F'.env a1.tmps := (ERelX.like (h3 rfl) he1).mono hXsub
              refine ⟨g4.trans hbase.1, fun x u y hu hnx hy => hbase.2 x u y ?_ hnx hy⟩
              rw [← hu, g5 x]
              intro j hj hs
              obtain ⟨hj1, hj2⟩ := List.mem_filter.1 hj
              obtain ⟨hj3, hj4⟩ := List.mem_filter.1 hj1
              refine hnx ⟨j, htodo j hj3, ?_, hs⟩
              obtain ⟨c', hc', hac⟩ := notNow_spec (by simpa using hj4 : isNow tab (maskOf (c :: rest)) j = false)
              obtain ⟨oj, dj, hoj, _⟩ := isSimple_spec ((mem_simple j).1 (htodo j hj3)).2
              have hjl : listed.getD j false = false := by
                cases hq : listed.getD j false with
                | false => rfl
                | true =>
                  have := anc hac hoj hclo (fun e he hb => hclo j oj hoj hq e he hb)
                  rw [(hrest c' hc').2] at this
                  cases this
              rw [getD_set_other false]
              · exact hjl
              · rintro rfl
                have := ((mem_simple _).1 (htodo _ hj3)).2
                rw [hsi] at this; cases this
            · rw [g1, g3]
              rw [hFk] at hfs1
              exact hfs.trans hfs1
          · rintro e a1 w1 hne ⟨B1, L1, _, _, _, _, _, hm⟩
            cases e <;> first | exact absurd rfl hne | exact hm.elim
        · -- a panic
          obtain ⟨e1, h1, h2, h3⟩ := oneA_like ho hlike hX hone
          refine oneA_sound (fr := F.envd e') (fr' := F'.envd e1) hC hst hrel hg h1 _ _ (fun _ _ _ e => by cases e) ?_
          rintro e a1 w1 hne ⟨B1, L1, hfs1, he1, hst1, hk1, hd1, hm⟩
          rw [hFk] at hfs1
          exact hQ _ _ _ ⟨B1, L1, hfs.trans hfs1, allJunk_rel (by rw [h2.1]; exact he1.1), hst1, hk1.trans hk, hd1.trans hd, hm⟩
end
end Go.Am
end

section
namespace Go.Am
open Go
def At (tab : List Nat) (j : Nat) : Nat := (tab[j]?).getD 0
theorem aheadM_of {tab : List Nat} {i : Nat} : ∀ (es : List Edge) (e : Edge), e ∈ es → Region.binds .any e = true → (i = e.on ∨ (At tab e.on).testBit i = true) → (aheadM tab es).testBit i = true
  | [], e, he, _, _ => by simp at he
  | e' :: es, e, he, hb, hi => by
    simp only [aheadM]
    rcases List.mem_cons.1 he with rfl | he
    · rw [if_pos hb, Nat.testBit_or, Nat.testBit_or, Bool.or_eq_true, Bool.or_eq_true]
      rcases hi with rfl | hi
      · refine .inl (.inl ?_)
        rw [Nat.testBit_shiftLeft]
        simp
      · exact .inl (.inr hi)
    · have := aheadM_of es e he hb hi
      split
      · rw [Nat.testBit_or, this, Bool.or_true]
      · exact this
def TabOk (tab : List Nat) : Prop := (∀ i j, (At tab j).testBit i = true → i < j) ∧ ∀ i j m, (At tab j).testBit i = true → (At tab m).testBit j = true → (At tab m).testBit i = true
theorem At_append {tab : List Nat} {r j : Nat} : At (tab ++ [r]) j = if j < tab.length then At tab j else if j = tab.length then r else 0 := by
  unfold At
  rw [List.getElem?_append]
  split
  · rfl
  · rename_i h
    split
    · rename_i e; subst e; simp
    · rename_i e
      rw [List.getElem?_eq_none (by simp; omega)]; rfl
theorem ancTab_ok : ∀ (l : List Oper) (tab : List Nat), TabOk tab → (∀ (j : Nat) o, l[j]? = some o → ∀ e ∈ o.after, Region.binds .any e = true → e.on < tab.length + j) → TabOk (ancTab l tab)
  | [], tab, h, _ => h
  | o :: l, tab, h, hb => by
    simp only [ancTab]
    have hb0 := hb 0 o rfl
    have key : ∀ i, (aheadM tab o.after.toList).testBit i = true → ∃ e ∈ o.after.toList, Region.binds .any e = true ∧ e.on < tab.length ∧ (i = e.on ∨ (At tab e.on).testBit i = true) := by
      intro i hi
      obtain ⟨e, he, hbe, hor⟩ := aheadM_spec _ i hi
      exact ⟨e, he, hbe, by simpa using hb0 e (by simpa using he) hbe, hor⟩
    refine ancTab_ok l _ ⟨fun i j hij => ?_, fun i j m hij hjm => ?_⟩ fun j o' ho' e he hbe => ?_
    · rw [At_append] at hij
      split at hij
      · exact h.1 i j hij
      · split at hij
        · rename_i e1
          obtain ⟨e, _, _, hlt, hor⟩ := key i hij
          rcases hor with rfl | hor
          · omega
          · have := h.1 i e.on hor; omega
        · simp at hij
    · rw [At_append] at hjm
      split at hjm
      · rename_i hm
        have hj := h.1 j m hjm
        rw [At_append, if_pos (by omega)] at hij
        rw [At_append, if_pos hm]
        exact h.2 i j m hij hjm
      · split at hjm
        · rename_i hm0 hm
          obtain ⟨e, he, hbe, hlt, hor⟩ := key j hjm
          rw [At_append, if_neg hm0, if_pos hm]
          refine aheadM_of _ e he hbe (.inr ?_)
          rcases hor with rfl | hor
          · rw [At_append, if_pos hlt] at hij; exact hij
          · have hj := h.1 j e.on hor
            rw [At_append, if_pos (by omega)] at hij
            exact h.2 i j e.on hij hor
        · simp at hjm
    · have := hb (j + 1) o' (by simpa using ho') e he hbe
      simp only [List.length_append, List.length_cons, List.length_nil]
      omega
theorem backOk_spec {ops : Array Oper} (h : backOk ops = true) (j : Nat) (o : Oper) (ho : ops[j]? = some o) (e : Edge) (he : e ∈ o.after) (hb : Region.binds .any e = true) : e.on < j := by
  unfold backOk at h
  rw [List.all_eq_true] at h
  have := h j (by simpa using (Array.getElem?_eq_some_iff.1 ho).1)
  rw [ho] at this
  simp only [List.all_eq_true] at this
  have := this e (by simpa using he)
  simpa [hb] using this
theorem tab_ok {ops : Array Oper} (h : backOk ops = true) : TabOk (ancTab ops.toList []) := by
  refine ancTab_ok _ _ ⟨fun i j h => by simp [At] at h, fun i j m h => by simp [At] at h⟩ fun j o ho e he hb => ?_
  simp only [List.length_nil, Nat.zero_add]
  exact backOk_spec h j o (by simpa using ho) e he hb
section
variable {P : Program} {G : Nat → Option PV} {pol : Pol} {bs : Bool} {n k : Nat}
def eagerW (P : Program) (G : Nat → Option PV) (pol : Pol) (bs : Bool) (n k : Nat) (ops : List Oper) : List Nat → Env → Heap → List Nat → (Env → Prop) → Prop
  | [], σ, _, _, K => K σ
  | i :: l, σ, H, mv, K => oneWB P G pol bs n k ops i σ H mv fun ex σ' _ _ => match ex with
    | .normal => match guardD ops i with
      | some d => match Nat.ble n d with
        | false => (look σ' d).fK fun u => eagerW P G pol bs n k ops l ((d, u) :: σ) H mv K
        | true => False
      | none => False
    | _ => False
def againW (P : Program) (G : Nat → Option PV) (pol : Pol) (bs : Bool) (n k : Nat) (ops : List Oper) : List Nat → Env → Heap → List Nat → Prop → Prop
  | [], _, _, _, K => K
  | i :: l, σ, H, mv, K => oneWB P G pol bs n k ops i σ H mv fun ex σ' _ _ => match ex with
    | .normal => match guardD ops i with
      | some d => match Nat.ble n d with
        | false => Side (look σ' d = look σ d) (againW P G pol bs n k ops l σ H mv K)
        | true => False
      | none => False
    | _ => False
def plainCall (_pol : Pol) (G : Nat → Option PV) (o : Oper) (σ : Env) : Option (FuncId × List V) :=
  match o.guard, o.op with
  | none, .call ⟨.value g, args, _⟩ => match targetV (evS G σ g) with
    | some (f, cap) => match V.namesL (args.toList.map (evS G σ) ++ cap) with
      | [] => some (f, args.toList.map (evS G σ) ++ cap)
      | _ => none
    | none => none
  | _, _ => none
def chainW (P : Program) (G : Nat → Option PV) (pol : Pol) (bs : Bool) (n k : Nat) (ops : List Oper) (c : Nat) (σ : Env) (H : Heap) (mv : List Nat) (K : Bool → Post) : Prop :=
  match ops[c]? with
  | none => False
  | some o => match plainCall pol G o σ with
    | some (f, args) => match Nat.ble k (lenH H) with
      | true => mapK id args fun args => CallW P G f args [] fun cr => match cr with
        | ⟨.ret v, [], []⟩ => match v.names with
          | [] => (v.ren id).fK fun u => putK n σ o.dst u fun σ' => K false .normal σ' H mv
          | _ => False
        | ⟨.pan v, [], []⟩ => match v.names with
          | [] => (v.ren id).fK fun u => K false (.pan u) σ H mv
          | _ => False
        | cr => backW k (lenH H) [] σ H mv cr fun out σ' H' mv' => match out with
          | .ret v => putK n σ' o.dst v fun σ'' => K true .normal σ'' H' mv'
          | .pan v => K true (.pan v) σ' H' mv'
      | false => False
    | none => oneWB P G pol bs n k ops c σ H mv (K true)
def dstOk (ops : List Oper) (opsA : Array Oper) (tab simples chain : List Nat) : Bool := chain.all fun c => match guardD ops c with
  | none => true
  | some d => simples.all fun i => match ops[i]? with
    | none => true
    | some o => if (Oper.looksAt opsA o).contains d = true then isAnc tab c i || isAnc tab i c else true
def drawW (P : Program) (G : Nat → Option PV) (pol : Pol) (bs : Bool) (n k : Nat) (ops : List Oper) (tab simples : List Nat) : List Nat → Bool → Nat → List Nat → Env → Heap → List Nat → Post → Prop
  | [], chk, past, todo, σ, H, mv, K =>
    spineK (todo.filter (isNow tab (maskOf []))) fun l => eagerW P G pol bs n k ops l σ H mv fun σ1 =>
      match chk with
      | false => K .normal σ1 H mv
      | true => spineK (simples.filter fun i => isNow tab (maskOf []) i && !past.testBit i && !(todo.contains i)) fun os => againW P G pol bs n k ops os σ1 H mv (K .normal σ1 H mv)
  | c :: rest, chk, past, todo, σ, H, mv, K =>
    spineK (todo.filter (isNow tab (maskOf (c :: rest)))) fun l => eagerW P G pol bs n k ops l σ H mv fun σ1 =>
      match chk with
      | false => chainW P G pol bs n k ops c σ1 H mv fun b ex σ2 H2 mv2 => match ex with
        | .normal => spineK (todo.filter fun i => !isNow tab (maskOf (c :: rest)) i) fun todo' => drawW P G pol bs n k ops tab simples rest b (past ||| ((tab[c]?).getD 0)) todo' σ2 H2 mv2 K
        | .pan v => K (.pan v) [] H2 mv2
        | _ => False
      | true => spineK (simples.filter fun i => isNow tab (maskOf (c :: rest)) i && !past.testBit i && !(todo.contains i)) fun os => againW P G pol bs n k ops os σ1 H mv
        (chainW P G pol bs n k ops c σ1 H mv fun b ex σ2 H2 mv2 => match ex with
        | .normal => spineK (todo.filter fun i => !isNow tab (maskOf (c :: rest)) i) fun todo' => drawW P G pol bs n k ops tab simples rest b (past ||| ((tab[c]?).getD 0)) todo' σ2 H2 mv2 K
        | .pan v => K (.pan v) [] H2 mv2
        | _ => False)
def regionB (P : Program) (G : Nat → Option PV) (pol : Pol) (bs : Bool) (n k : Nat) (ops : Array Oper) (σ : Env) (H : Heap) (mv : List Nat) (K : Post) (Else : Prop) : Prop :=
  spineK (ancTab ops.toList []) fun tab =>
    spineK ((List.range ops.size).filter (isSimple P bs ops tab)) fun simples =>
      spineK ((List.range ops.size).filter fun i => !isSimple P bs ops tab i) fun chain =>
        match backOk ops && (chainOk tab chain && dstOk ops.toList ops tab simples chain) with
        | true => drawW P G pol bs n k ops.toList tab simples chain false 0 simples σ H mv K
        | false => Else
def tabsOk (P : Program) (bs : Bool) (ops : Array Oper) (T : List Nat × List Nat × List Nat) : Bool :=
  decide (T.1 = ancTab ops.toList []) && (decide (T.2.1 = (List.range ops.size).filter (isSimple P bs ops (ancTab ops.toList []))) && (decide (T.2.2 = (List.range ops.size).filter fun i => !isSimple P bs ops (ancTab ops.toList []) i) &&
    (backOk ops && (chainOk T.1 T.2.2 && dstOk ops.toList ops T.1 T.2.1 T.2.2))))
structure TabsW (P : Program) (ops : Array Oper) (K : Bool → List Nat → List Nat → List Nat → Prop) : Prop where
  ex : ∃ (bs : Bool) (T : List Nat × List Nat × List Nat), tabsOk P bs ops T = true ∧ K bs T.1 T.2.1 T.2.2
theorem TabsW.lit {P : Program} {ops : Array Oper} {K : Bool → List Nat → List Nat → List Nat → Prop} (T : List Nat × List Nat × List Nat) (h : tabsOk P false ops T = true) (k : K false T.1 T.2.1 T.2.2) : TabsW P ops K := ⟨false, T, h, k⟩
def regionW (P : Program) (G : Nat → Option PV) (pol : Pol) (n k : Nat) (ops : Array Oper) (σ : Env) (H : Heap) (mv : List Nat) (K : Post) : Prop :=
  match Nat.ble ops.size 24 with
  | true => regionB P G pol false n k ops σ H mv K (regionB P G pol true n k ops σ H mv K False)
  | false => TabsW P ops fun bs tab simples chain => drawW P G pol bs n k ops.toList tab simples chain false 0 simples σ H mv K
theorem regionW_old {P : Program} {G : Nat → Option PV} {pol : Pol} {n k : Nat} {ops : Array Oper} {σ : Env} {H : Heap} {mv : List Nat} {K : Post} (h : regionW P G pol n k ops σ H mv K) : ∃ bs, regionB P G pol bs n k ops σ H mv K False := by
  unfold regionW at h
  split at h
  · unfold regionB at h
    rw [spineK_eq, spineK_eq, spineK_eq] at h
    split at h
    · rename_i hc
      refine ⟨false, ?_⟩
      unfold regionB
      rw [spineK_eq, spineK_eq, spineK_eq, hc]
      exact h
    · exact ⟨true, h⟩
  · obtain ⟨bs, ⟨tab, simples, chain⟩, ht, hk⟩ := h.ex
    refine ⟨bs, ?_⟩
    unfold tabsOk at ht
    simp only [Bool.and_eq_true, decide_eq_true_eq] at ht
    obtain ⟨h1, h2, h3, h4, h5, h6⟩ := ht
    subst h1
    subst h2
    subst h3
    unfold regionB
    rw [spineK_eq, spineK_eq, spineK_eq]
    rw [h4, h5, h6]
    exact hk
theorem guardD_slot {ops : Array Oper} {i : Nat} : guardD ops.toList i = slotOf ops i := by
  unfold guardD slotOf
  rw [Array.getElem?_toList]
  cases ops[i]? <;> rfl
mutual
theorem V.ren_congr {f g : Nat → Nat} : ∀ (v : V), (∀ m ∈ v.names, f m = g m) → v.ren f = v.ren g
  | .p d, _ => rfl
  | .ptr a b, h => by simp only [V.ren, h a (by simp [V.names])]
  | .eptr a b c, h => by simp only [V.ren, h a (by simp [V.names])]
  | .sl a b c, h => by simp only [V.ren, h a (by simp [V.names])]
  | .mapr a, h => by simp only [V.ren, h a (by simp [V.names])]
  | .func q l, h => by simp only [V.ren, V.renL_congr l (by simpa [V.names] using h)]
  | .agg l, h => by simp only [V.ren, V.renL_congr l (by simpa [V.names] using h)]
  | .tup l, h => by simp only [V.ren, V.renL_congr l (by simpa [V.names] using h)]
  | .iface t v, h => by simp only [V.ren, V.ren_congr v (by simpa [V.names] using h)]
  | .junk, _ => rfl
theorem V.renL_congr {f g : Nat → Nat} : ∀ (l : List V), (∀ m ∈ V.namesL l, f m = g m) → V.renL f l = V.renL g l
  | [], _ => rfl
  | x :: l, h => by
    simp only [V.namesL, List.mem_append] at h
    simp only [V.renL, V.ren_congr x (fun m hm => h m (.inl hm)), V.renL_congr l (fun m hm => h m (.inr hm))]
end
mutual
theorem V.ren_id : ∀ (v : V), v.ren id = v
  | .p d => rfl
  | .ptr a b => rfl
  | .eptr a b c => rfl
  | .sl a b c => rfl
  | .mapr a => rfl
  | .func q l => by simp only [V.ren, V.renL_id l]
  | .agg l => by simp only [V.ren, V.renL_id l]
  | .tup l => by simp only [V.ren, V.renL_id l]
  | .iface t v => by simp only [V.ren, V.ren_id v]
  | .junk => rfl
theorem V.renL_id : ∀ (l : List V), V.renL id l = l
  | [] => rfl
  | x :: l => by simp only [V.renL, V.ren_id x, V.renL_id l]
end
theorem toEnv_some {σ : Env} {d : Nat} (hd : Nat.ble n d = false) : (toEnv n σ)[d]? = some (look σ d) := by
  rw [toEnv_get, if_pos]
  rcases Nat.lt_or_ge d n with h1 | h1
  · exact h1
  · rw [Nat.ble_eq_true_of_le h1] at hd; cases hd
theorem ble_lt {d : Nat} (hd : Nat.ble n d = false) : d < n := by
  rcases Nat.lt_or_ge d n with h1 | h1
  · exact h1
  · rw [Nat.ble_eq_true_of_le h1] at hd; cases hd
theorem eagerW_spec {ops : Array Oper} {H : Heap} {mv : List Nat} : ∀ (l : List Nat) {σ : Env} {K : Env → Prop}, Bdd n σ → eagerW P G pol bs n k ops.toList l σ H mv K →
    ∃ σ', EagerP P G pol bs ops l ⟨toEnv n σ, H, k, mv⟩ ⟨toEnv n σ', H, k, mv⟩ ∧ Bdd n σ' ∧ K σ'
  | [], σ, K, hb, h => ⟨σ, rfl, hb, h⟩
  | i :: l, σ, K, hb, h => by
    unfold eagerW at h
    obtain ⟨ex, σ1, H1, mv1, hone, hb1, h⟩ := oneWB_spec hb h
    cases ex <;> simp only [] at h
    split at h
    case h_2 => exact h.elim
    rename_i d hd
    split at h
    case h_2 => exact h.elim
    rename_i hdn
    rw [V.fK_eq] at h
    obtain ⟨σ', h1, h2, h3⟩ := eagerW_spec l (hb.cons (ble_lt hdn) _) h
    refine ⟨σ', ⟨d, look σ1 d, by rw [← guardD_slot]; exact hd, ⟨_, d, hone, by rw [← guardD_slot]; exact hd, toEnv_some hdn⟩, ?_⟩, h2, h3⟩
    simp only [toEnv_set]
    exact h1
theorem againW_spec {ops : Array Oper} {H : Heap} {mv : List Nat} {σ : Env} {K : Prop} (hb : Bdd n σ) : ∀ (l : List Nat), againW P G pol bs n k ops.toList l σ H mv K →
    (∀ i ∈ l, IdemP P G pol bs ops ⟨toEnv n σ, H, k, mv⟩ i) ∧ K
  | [], h => ⟨by simp, h⟩
  | i :: l, h => by
    unfold againW at h
    obtain ⟨ex, σ1, H1, mv1, hone, hb1, h⟩ := oneWB_spec hb h
    cases ex <;> simp only [] at h
    split at h
    case h_2 => exact h.elim
    rename_i d hd
    split at h
    case h_2 => exact h.elim
    rename_i hdn
    obtain ⟨he, h⟩ := h
    obtain ⟨h1, h2⟩ := againW_spec hb l h
    refine ⟨fun j hj => ?_, h2⟩
    rcases List.mem_cons.1 hj with rfl | hj
    · exact ⟨d, look σ d, by rw [← guardD_slot]; exact hd, ⟨_, d, hone, by rw [← guardD_slot]; exact hd, by rw [← he]; exact toEnv_some hdn⟩, toEnv_some hdn⟩
    · exact h1 j hj
theorem idem_agree {ops : Array Oper} {i d : Nat} {o : Oper} (ho : ops[i]? = some o) (hd : o.dst = some d) (hs : simpleK P bs o.op = true) {F1 F2 : Fr} (hH : F2.H = F1.H)
    (hag : ∀ t ∈ Oper.looksAt ops o, F2.env[t]? = F1.env[t]?) (hsl : F2.env[d]? = F1.env[d]?) (h : IdemP P G pol bs ops F1 i) : IdemP P G pol bs ops F2 i := by
  have hso : slotOf ops i = some d := by simp [slotOf, ho, hd]
  obtain ⟨d', v, hd', ⟨fr1, d'', ⟨C, hC, hone⟩, hd'', hv⟩, hu⟩ := h
  rw [hso] at hd' hd''
  cases hd'
  cases hd''
  have := oneA_agree ho hd hs hH hag hone hv
  have hlt : d < F2.env.length := by
    rw [hu] at hsl
    exact (List.getElem?_eq_some_iff.1 hsl).1
  exact ⟨d, v, hso, ⟨_, d, ⟨C, hC, this⟩, hso, by simp [hlt]⟩, by rw [hsl]; exact hu⟩
variable {ops : Array Oper} {tab simples chain : List Nat}
theorem eager_idem (hok : TabOk tab) (hsimp : ∀ i, i ∈ simples → isSimple P bs ops tab i = true) : ∀ (l : List Nat), l.Pairwise (· < ·) → (∀ i ∈ l, i ∈ simples) → ∀ {fr F : Fr}, EagerP P G pol bs ops l fr F → ∀ i ∈ l, IdemP P G pol bs ops F i
  | [], _, _, fr, F, _, i, hi => by simp at hi
  | j :: l, hp, hm, fr, F, h, i, hi => by
    obtain ⟨d, v, hslot, ⟨fr', d', ⟨C, hC, hone⟩, hd', hv⟩, hrest⟩ := h
    rw [hslot] at hd'
    cases hd'
    rw [List.pairwise_cons] at hp
    rcases List.mem_cons.1 hi with rfl | hi
    · obtain ⟨o, dd, ho, hdst, hsk, hlk, hw⟩ := isSimple_spec (hsimp i (hm i (by simp)))
      have hdd : dd = d := by simp only [slotOf, ho, Option.bind_some, hdst, Option.some.injEq] at hslot; exact hslot
      subst hdd
      obtain ⟨_, v', hfr'⟩ := oneA_simple ho hdst hsk hone
      have hlt : dd < fr.env.length := by
        rw [hfr'] at hv
        have := (List.getElem?_eq_some_iff.1 hv).1
        simpa using this
      have self : ∀ t ∈ Oper.looksAt ops o, t ≠ dd := by
        rintro t ht rfl
        have := hlk i o ho ht
        exact absurd (hok.1 i i this) (Nat.lt_irrefl _)
      have h1 : IdemP P G pol bs ops { fr with env := fr.env.set dd v } i := by
        have := oneA_agree (F1 := fr) (F2 := { fr with env := fr.env.set dd v }) ho hdst hsk rfl (fun t ht => by simp only []; rw [List.getElem?_set_ne (fun e => self t ht e.symm)]) hone hv
        exact ⟨dd, v, hslot, ⟨_, dd, ⟨C, hC, this⟩, hslot, by simp [hlt]⟩, by simp [hlt]⟩
      obtain ⟨g1, g2, g3, g4, g5⟩ := eagerP_spec l hrest
      have apart : ∀ j ∈ l, ∀ x, slotOf ops j = some x → x ∉ Oper.looksAt ops o ∧ x ≠ dd := by
        intro j hj x hx
        obtain ⟨oj, dj, hoj, hdj, _, hlkj, hwj⟩ := isSimple_spec (hsimp j (hm j (List.mem_cons_of_mem _ hj)))
        have hxd : x = dj := by simp only [slotOf, hoj, Option.bind_some, hdj, Option.some.injEq] at hx; exact hx.symm
        subst hxd
        have hij := hp.1 j hj
        refine ⟨fun hmem => ?_, fun e => ?_⟩
        · have := hok.1 j i (hlkj i o ho hmem)
          omega
        · subst e
          have := hok.1 j i (hwj i o ho (by omega) hdst)
          omega
      refine idem_agree ho hdst hsk g1 (fun t ht => g5 t fun j hj e => ?_) (g5 dd fun j hj e => ?_) h1
      · exact (apart j hj t e).1 ht
      · exact (apart j hj dd e).2 rfl
    · exact eager_idem hok hsimp l hp.2 (fun i hi => hm i (List.mem_cons_of_mem _ hi)) hrest i hi
def afterCall (dst : Option Tmp) : Out → Fr → Option (Ex × Fr)
  | .ret v, fr => some (.normal, { fr with env := putO fr.env dst v })
  | .pan v, fr => some (.pan v, fr)
theorem plainCall_run {C : CallF} {c : Nat} {o : Oper} {σ : Env} {H : Heap} {mv : List Nat} {f : FuncId} {args : List V} (hb : Bdd n σ) (ho : ops[c]? = some o) (hpc : plainCall pol G o σ = some (f, args))
    {out : Out} {σ' : Env} {H' : Heap} {mv' : List Nat} (hcall : callS C ⟨toEnv n σ, H, k, mv⟩ f args = some (out, ⟨toEnv n σ', H', k, mv'⟩)) :
    oneA P G pol bs C ops c ⟨toEnv n σ, H, k, mv⟩ = afterCall o.dst out ⟨toEnv n σ', H', k, mv'⟩ := by
  unfold plainCall at hpc
  split at hpc
  case h_2 => cases hpc
  rename_i g ags ts hg hop
  split at hpc
  case h_2 => cases hpc
  rename_i f' cap ht
  split at hpc
  case h_2 => cases hpc
  rename_i hns
  simp only [Option.some.injEq, Prod.mk.injEq] at hpc
  obtain ⟨rfl, rfl⟩ := hpc
  rw [oneA_not ho (by rw [hop]; rfl)]
  simp only [runOps, ho, hg, stepOp, hop, callOp, evS_fun hb, ht, hns, List.filter_nil, Fr.freezeAll, ite_self]
  rw [hcall]
  cases out <;> rfl
theorem callS_none {C : CallF} {σ : Env} {H : Heap} {mv : List Nat} {f : FuncId} {args : List V} {out : Out} (hns : V.namesL args = []) (hC : C f args [] = some ⟨out, [], []⟩) (hk : Nat.ble k (lenH H) = true) (hon : outNames out = []) :
    callS C ⟨toEnv n σ, H, k, mv⟩ f args = some (out.ren id, ⟨toEnv n σ, H, k, mv⟩) := by
  have hargs : args.map (V.ren (([] : List Nat).idxOf ·)) = args := by
    have : ∀ (l : List V), V.namesL l = [] → l.map (V.ren (([] : List Nat).idxOf ·)) = l := by
      intro l hl
      induction l with
      | nil => rfl
      | cons x l ih =>
        simp only [V.namesL, List.append_eq_nil_iff] at hl
        rw [List.map_cons, ih hl.2]
        congr 1
        have h1 := V.ren_congr (f := (([] : List Nat).idxOf ·)) (g := id) x (by rw [hl.1]; simp)
        rw [h1]
        exact V.ren_id x
    exact this args hns
  unfold callS
  simp only [hns]
  have hr : reachL (Heap.at H) 200 [] [] = [] := rfl
  rw [hr, hargs]
  have hc : closedN (Heap.at H) [] = true := rfl
  rw [if_pos ⟨by simp, hc, List.nodup_nil⟩]
  simp only [List.map_nil, hC]
  rw [if_pos ⟨by simp, by simp, by simp, by rw [lenH_eq] at hk; exact Nat.le_of_ble_eq_true hk, by rw [hon]; simp, by simp⟩]
  have : out.ren (backN [] H.length) = out.ren id := by
    cases out with
    | ret v => simp only [Out.ren]; rw [V.ren_congr (g := id) v (by simp only [outNames] at hon; rw [hon]; simp)]
    | pan v => simp only [Out.ren]; rw [V.ren_congr (g := id) v (by simp only [outNames] at hon; rw [hon]; simp)]
  simp only [this, List.map_nil, killAll, Heap.killAll, Heap.putAll, List.foldl_nil, List.length_nil, List.range_zero]
end
end Go.Am
end

section
namespace Go.Am
open Go
section
variable {P : Program} {G : Nat → Option PV} {pol : Pol} {bs : Bool} {n k : Nat}
theorem ren_nil (l : List V) (hl : V.namesL l = []) : l.map (V.ren (([] : List Nat).idxOf ·)) = l := by
  induction l with
  | nil => rfl
  | cons x l ih =>
    simp only [V.namesL, List.append_eq_nil_iff] at hl
    rw [List.map_cons, ih hl.2]
    congr 1
    rw [V.ren_congr (f := (([] : List Nat).idxOf ·)) (g := id) x (by rw [hl.1]; simp)]
    exact V.ren_id x
theorem plainCall_names {o : Oper} {σ : Env} {f : FuncId} {args : List V} (hpc : plainCall pol G o σ = some (f, args)) : V.namesL args = [] := by
  unfold plainCall at hpc
  split at hpc
  case h_2 => cases hpc
  split at hpc
  case h_2 => cases hpc
  split at hpc
  case h_2 => cases hpc
  rename_i hns
  simp only [Option.some.injEq, Prod.mk.injEq] at hpc
  obtain ⟨rfl, rfl⟩ := hpc
  exact hns
theorem chainW_spec {ops : Array Oper} {c : Nat} {σ : Env} {H : Heap} {mv : List Nat} {K : Bool → Post} (hb : Bdd n σ) (h : chainW P G pol bs n k ops.toList c σ H mv K) :
    ∃ b ex σ' H' mv', OneB P G pol bs ops c ⟨toEnv n σ, H, k, mv⟩ ex ⟨toEnv n σ', H', k, mv'⟩ ∧ Bdd n σ' ∧ (b = false → ex = .normal → H' = H ∧ mv' = mv ∧ ∀ x, slotOf ops c ≠ some x → (toEnv n σ')[x]? = (toEnv n σ)[x]?) ∧ K b ex σ' H' mv' := by
  unfold chainW at h
  split at h
  case h_1 => exact h.elim
  rename_i o ho
  have ho : ops[c]? = some o := by simpa using ho
  split at h
  · rename_i f args hpc
    have hns := plainCall_names hpc
    split at h
    case h_2 => exact h.elim
    rename_i hk
    rw [mapK_eq, List.map_id] at h
    obtain ⟨cr, hcr, h⟩ := h
    split at h
    · rename_i v
      split at h
      case h_2 => exact h.elim
      rename_i hv
      rw [V.fK_eq] at h
      obtain ⟨σ2, g1, g2, hK⟩ := putK_eq hb h
      have hcs := callS_none (n := n) (k := k) (σ := σ) (H := H) (mv := mv) hns (oneC_at (f := f) (args := args) (H := []) (cr := ⟨.ret v, [], []⟩)) hk (show outNames (.ret v) = [] from hv)
      refine ⟨false, .normal, σ2, H, mv, ⟨_, oneC_sound hcr, ?_⟩, g2, fun _ _ => ⟨rfl, rfl, fun x hx => ?_⟩, hK⟩
      · rw [plainCall_run hb ho hpc hcs]
        simp only [Out.ren, afterCall, g1]
      · rw [← g1]
        have hso : slotOf ops c = o.dst := by simp [slotOf, ho]
        rw [hso] at hx
        cases hd : o.dst with
        | none => rfl
        | some d =>
          simp only [putO]
          rw [List.getElem?_set_ne]
          rintro rfl
          exact hx hd
    · rename_i v
      split at h
      case h_2 => exact h.elim
      rename_i hv
      rw [V.fK_eq] at h
      have hcs := callS_none (n := n) (k := k) (σ := σ) (H := H) (mv := mv) hns (oneC_at (f := f) (args := args) (H := []) (cr := ⟨.pan v, [], []⟩)) hk (show outNames (.pan v) = [] from hv)
      refine ⟨false, _, σ, H, mv, ⟨_, oneC_sound hcr, ?_⟩, hb, fun _ e => (by cases e), h⟩
      rw [plainCall_run hb ho hpc hcs]
      rfl
    · have hcw : callW P G k f args σ H mv fun out σ' H' mv' => match out with
          | .ret v => putK n σ' o.dst v fun σ'' => K true .normal σ'' H' mv'
          | .pan v => K true (.pan v) σ' H' mv' := by
        unfold callW
        rw [hns]
        have hr : reachL (Heap.at H) 200 [] [] = [] := rfl
        rw [hr, spineK_eq]
        have hc : closedN (Heap.at H) [] = true := rfl
        simp only [List.all_nil, hc, List.nodup_nil, decide_true, Bool.and_self, List.map_nil, mapK_eq, heapK_eq]
        rw [ren_nil args hns]
        exact ⟨cr, hcr, h⟩
      obtain ⟨C, hC, out, σ', H', mv', h1, h2, h3⟩ := callW_spec hb hcw
      cases out with
      | ret v =>
        simp only [] at h3
        obtain ⟨σ2, g1, g2, hK⟩ := putK_eq h2 h3
        refine ⟨true, .normal, σ2, H', mv', ⟨C, hC, ?_⟩, g2, fun e => (by cases e), hK⟩
        rw [plainCall_run hb ho hpc h1]
        simp only [afterCall, g1]
      | pan v =>
        refine ⟨true, _, σ', H', mv', ⟨C, hC, ?_⟩, h2, fun e => (by cases e), h3⟩
        rw [plainCall_run hb ho hpc h1]
        rfl
  · obtain ⟨ex, σ', H', mv', h1, h2, h3⟩ := oneWB_spec hb h
    exact ⟨true, ex, σ', H', mv', h1, h2, fun e => (by cases e), h3⟩
theorem toEnv_nil (e : List V) (n : Nat) (h : e.length = n) : allJunk e = toEnv n [] := by
  apply List.ext_getElem?
  intro i
  simp only [allJunk, List.getElem?_map, toEnv_get, look]
  split
  · rename_i hi
    rw [List.getElem?_eq_getElem (by omega)]; rfl
  · rename_i hi
    rw [List.getElem?_eq_none (by omega)]; rfl
variable {ops : Array Oper} {tab simples chain : List Nat}
theorem now_of {rest : List Nat} {i : Nat} (h : isNow tab (maskOf rest) i = true) : ∀ c ∈ rest, isAnc tab c i = false := fun _ hc => now_spec h hc
theorem of_now {rest : List Nat} {i : Nat} (h : ∀ c ∈ rest, isAnc tab c i = false) : isNow tab (maskOf rest) i = true := by
  cases hq : isNow tab (maskOf rest) i with
  | true => rfl
  | false =>
    obtain ⟨c, hc, ha⟩ := notNow_spec hq
    rw [h c hc] at ha; cases ha
structure DInv (P : Program) (ops : Array Oper) (tab simples rest : List Nat) (todo : List Nat) : Prop where
  sorted : todo.Pairwise (· < ·)
  sub : ∀ i ∈ todo, i ∈ simples
  now : ∀ i ∈ simples, i ∉ todo → ∀ c ∈ rest, isAnc tab c i = false
  apart : ∀ i ∈ simples, i ∉ todo → ∀ j ∈ todo, isAnc tab j i = false
theorem isAnc_At {i j : Nat} : isAnc tab i j = (At tab j).testBit i := rfl
theorem DInv.next (hok : TabOk tab) {c : Nat} {rest todo : List Nat} (h : DInv P ops tab simples (c :: rest) todo) : DInv P ops tab simples rest (todo.filter fun i => !isNow tab (maskOf (c :: rest)) i) := by
  have was : ∀ i ∈ simples, i ∉ (todo.filter fun i => !isNow tab (maskOf (c :: rest)) i) → ∀ c' ∈ c :: rest, isAnc tab c' i = false := by
    intro i hi hn c' hc'
    by_cases ht : i ∈ todo
    · have : isNow tab (maskOf (c :: rest)) i = true := by
        cases hq : isNow tab (maskOf (c :: rest)) i with
        | true => rfl
        | false => exact absurd (List.mem_filter.2 ⟨ht, by rw [hq]; rfl⟩) hn
      exact now_of this c' hc'
    · exact h.now i hi ht c' hc'
  refine ⟨h.sorted.filter _, fun i hi => h.sub i (List.mem_filter.1 hi).1, fun i hi hn c' hc' => was i hi hn c' (List.mem_cons_of_mem _ hc'), fun i hi hn j hj => ?_⟩
  obtain ⟨hj1, hj2⟩ := List.mem_filter.1 hj
  obtain ⟨c', hc', hcj⟩ := notNow_spec (show isNow tab (maskOf (c :: rest)) j = false by simpa using hj2)
  cases hq : isAnc tab j i with
  | false => rfl
  | true =>
    have := hok.2 c' j i hcj hq
    have h2 := was i hi hn c' hc'
    rw [isAnc_At, this] at h2; cases h2
theorem idem_keep (_hok : TabOk tab) (hsimp : ∀ i, i ∈ simples → isSimple P bs ops tab i = true) {rest todo : List Nat} (hinv : DInv P ops tab simples rest todo) {l : List Nat} (hl : ∀ i ∈ l, i ∈ todo) {fr F : Fr} (h : EagerP P G pol bs ops l fr F)
    {i : Nat} (hi : i ∈ simples) (hn : i ∉ todo) (hid : IdemP P G pol bs ops fr i) : IdemP P G pol bs ops F i := by
  obtain ⟨g1, g2, g3, g4, g5⟩ := eagerP_spec l h
  obtain ⟨o, d, ho, hdst, hsk, hlk, hw⟩ := isSimple_spec (hsimp i hi)
  have key : ∀ j ∈ l, ∀ x, slotOf ops j = some x → x ∉ Oper.looksAt ops o ∧ x ≠ d := by
    intro j hj x hx
    have hjt := hl j hj
    obtain ⟨oj, dj, hoj, hdj, _, hlkj, hwj⟩ := isSimple_spec (hsimp j (hinv.sub j hjt))
    have hxd : x = dj := by simp only [slotOf, hoj, Option.bind_some, hdj, Option.some.injEq] at hx; exact hx.symm
    subst hxd
    have hap := hinv.apart i hi hn j hjt
    refine ⟨fun hm => ?_, fun e => ?_⟩
    · rw [hlkj i o ho hm] at hap; cases hap
    · subst e
      have hne : i ≠ j := by rintro rfl; exact hn hjt
      rw [hwj i o ho hne hdst] at hap; cases hap
  exact idem_agree ho hdst hsk g1 (fun t ht => g5 t fun j hj e => (key j hj t e).1 ht) (g5 d fun j hj e => (key j hj d e).2 rfl) hid
theorem dstOk_spec (h : dstOk ops.toList ops tab simples chain = true) {c d i : Nat} {o : Oper} (hc : c ∈ chain) (hd : slotOf ops c = some d) (hi : i ∈ simples) (ho : ops[i]? = some o) (hl : d ∈ Oper.looksAt ops o) : isAnc tab c i = true ∨ isAnc tab i c = true := by
  unfold dstOk at h
  rw [List.all_eq_true] at h
  have := h c hc
  rw [guardD_slot, hd] at this
  simp only [List.all_eq_true] at this
  have := this i hi
  rw [Array.getElem?_toList, ho] at this
  simp only [] at this
  rw [if_pos (by simpa using hl)] at this
  simpa using this
theorem drawW_spec (hok : TabOk tab) (hsimp : ∀ i, i ∈ simples → isSimple P bs ops tab i = true) (hns : ∀ c ∈ chain, isSimple P bs ops tab c = false) (hdst : dstOk ops.toList ops tab simples chain = true) :
    ∀ (rest : List Nat) (chk : Bool) (past : Nat) (todo : List Nat) {σ : Env} {H : Heap} {mv : List Nat} {K : Post}, Bdd n σ → (∀ c ∈ rest, c ∈ chain) → DInv P ops tab simples rest todo →
      (chk = false → ∀ i ∈ simples, i ∉ todo → past.testBit i = false → IdemP P G pol bs ops ⟨toEnv n σ, H, k, mv⟩ i) → drawW P G pol bs n k ops.toList tab simples rest chk past todo σ H mv K →
      ∃ ex σ' H' mv', (∃ F2, EagerP P G pol bs ops (todo.filter (isNow tab (maskOf rest))) ⟨toEnv n σ, H, k, mv⟩ F2 ∧ (∀ i ∈ simples, isNow tab (maskOf rest) i = true → past.testBit i = false → IdemP P G pol bs ops F2 i) ∧
        ContP P G pol bs ops tab simples rest past todo F2 ex ⟨toEnv n σ', H', k, mv'⟩) ∧ Bdd n σ' ∧ K ex σ' H' mv' := by
  intro rest
  -- those that come now, and those that came
  have stage : ∀ (rest : List Nat) (chk : Bool) (past : Nat) (todo : List Nat) {σ : Env} {H : Heap} {mv : List Nat} {R : Env → Prop}, Bdd n σ → DInv P ops tab simples rest todo →
      (chk = false → ∀ i ∈ simples, i ∉ todo → past.testBit i = false → IdemP P G pol bs ops ⟨toEnv n σ, H, k, mv⟩ i) →
      (spineK (todo.filter (isNow tab (maskOf rest))) fun l => eagerW P G pol bs n k ops.toList l σ H mv fun σ1 =>
        match chk with
        | false => R σ1
        | true => spineK (simples.filter fun i => isNow tab (maskOf rest) i && !past.testBit i && !(todo.contains i)) fun os => againW P G pol bs n k ops.toList os σ1 H mv (R σ1)) →
      ∃ σ1, EagerP P G pol bs ops (todo.filter (isNow tab (maskOf rest))) ⟨toEnv n σ, H, k, mv⟩ ⟨toEnv n σ1, H, k, mv⟩ ∧ Bdd n σ1 ∧ (∀ i ∈ simples, isNow tab (maskOf rest) i = true → past.testBit i = false → IdemP P G pol bs ops ⟨toEnv n σ1, H, k, mv⟩ i) ∧ R σ1 := by
    intro rest chk past todo σ H mv R hb hinv hid h
    rw [spineK_eq] at h
    obtain ⟨σ1, h1, h2, h⟩ := eagerW_spec _ hb h
    have new := eager_idem hok hsimp _ (hinv.sorted.filter _) (fun i hi => hinv.sub i (List.mem_filter.1 hi).1) h1
    have hsub : ∀ i ∈ todo.filter (isNow tab (maskOf rest)), i ∈ todo := fun i hi => (List.mem_filter.1 hi).1
    cases chk with
    | false =>
      refine ⟨σ1, h1, h2, fun i hi hnow hp => ?_, h⟩
      by_cases ht : i ∈ todo
      · exact new i (List.mem_filter.2 ⟨ht, hnow⟩)
      · exact idem_keep hok hsimp hinv hsub h1 hi ht (hid rfl i hi ht hp)
    | true =>
      simp only [spineK_eq] at h
      obtain ⟨ha, hR⟩ := againW_spec h2 _ h
      refine ⟨σ1, h1, h2, fun i hi hnow hp => ?_, hR⟩
      by_cases ht : i ∈ todo
      · exact new i (List.mem_filter.2 ⟨ht, hnow⟩)
      · exact ha i (List.mem_filter.2 ⟨hi, by simp [hnow, hp, ht]⟩)
  induction rest with
  | nil =>
    intro chk past todo σ H mv K hb hrest hinv hid h
    obtain ⟨σ1, h1, h2, h3, h4⟩ := stage [] chk past todo (R := fun σ1 => K .normal σ1 H mv) hb hinv hid (by unfold drawW at h; exact h)
    exact ⟨.normal, σ1, H, mv, ⟨_, h1, h3, rfl, rfl⟩, h2, h4⟩
  | cons c rest ih =>
    intro chk past todo σ H mv K hb hrest hinv hid h
    obtain ⟨σ1, h1, h2, h3, h4⟩ := stage (c :: rest) chk past todo (R := fun σ1 => chainW P G pol bs n k ops.toList c σ1 H mv fun b ex σ2 H2 mv2 => match ex with
        | .normal => spineK (todo.filter fun i => !isNow tab (maskOf (c :: rest)) i) fun todo' => drawW P G pol bs n k ops.toList tab simples rest b (past ||| ((tab[c]?).getD 0)) todo' σ2 H2 mv2 K
        | .pan v => K (.pan v) [] H2 mv2
        | _ => False) hb hinv hid (by unfold drawW at h; exact h)
    obtain ⟨b, ex, σ2, H2, mv2, hone, hb2, hpure, hK⟩ := chainW_spec h2 h4
    have hcc := hrest c (by simp)
    cases ex with
    | normal =>
      simp only [spineK_eq] at hK
      have hinv' := hinv.next (P := P) (ops := ops) hok
      have hid' : b = false → ∀ i ∈ simples, i ∉ (todo.filter fun i => !isNow tab (maskOf (c :: rest)) i) → (past ||| ((tab[c]?).getD 0)).testBit i = false → IdemP P G pol bs ops ⟨toEnv n σ2, H2, k, mv2⟩ i := by
        intro hbf i hi hn hp
        obtain ⟨rfl, rfl, hsame⟩ := hpure hbf rfl
        rw [Nat.testBit_or, Bool.or_eq_false_iff] at hp
        have hnow : ∀ c' ∈ c :: rest, isAnc tab c' i = false := by
          intro c' hc'
          by_cases ht : i ∈ todo
          · have : isNow tab (maskOf (c :: rest)) i = true := by
              cases hq : isNow tab (maskOf (c :: rest)) i with
              | true => rfl
              | false => exact absurd (List.mem_filter.2 ⟨ht, by rw [hq]; rfl⟩) hn
            exact now_of this c' hc'
          · exact hinv.now i hi ht c' hc'
        have hold := h3 i hi (of_now hnow) hp.1
        obtain ⟨o, d, ho, hd, hsk, hlk, hw⟩ := isSimple_spec (hsimp i hi)
        refine idem_agree (F1 := ⟨toEnv n σ1, H2, k, mv2⟩) ho hd hsk rfl (fun t ht => hsame t fun e => ?_) (hsame d fun e => ?_) hold
        · rcases dstOk_spec hdst hcc e hi ho ht with h9 | h9
          · rw [hnow c (by simp)] at h9; cases h9
          · have hp2 : (At tab c).testBit i = false := hp.2
            rw [isAnc_At, hp2] at h9; cases h9
        · have hne : c ≠ i := by
            rintro rfl
            have := hns c hcc
            rw [hsimp c hi] at this; cases this
          unfold slotOf at e
          cases hoc : ops[c]? with
          | none => rw [hoc] at e; cases e
          | some oc =>
            rw [hoc] at e
            have := hw c oc hoc hne e
            rw [isAnc_At] at this
            have hp2 : (At tab c).testBit i = false := hp.2
            rw [this] at hp2; cases hp2
      obtain ⟨ex, σ3, H3, mv3, ⟨F2, q1, q2, q3⟩, q4, q5⟩ := ih b _ _ hb2 (fun c' hc' => hrest c' (List.mem_cons_of_mem _ hc')) hinv' hid' hK
      exact ⟨ex, σ3, H3, mv3, ⟨_, h1, h3, .inl ⟨_, hone, F2, q1, q2, q3⟩⟩, q4, q5⟩
    | pan v =>
      refine ⟨.pan v, [], H2, mv2, ⟨_, h1, h3, .inr ⟨v, _, hone, rfl, ?_⟩⟩, fun t _ => rfl, hK⟩
      simp only []
      rw [toEnv_nil _ n (toEnv_length n σ2)]
    | _ => exact hK.elim
theorem regionW_sound (hm : P.follows .mixedOrders = true) {id : Nat} {ops : Array Oper} {σ : Env} {H : Heap} {mv : List Nat} {K : Post} (hb : Bdd n σ) (h : regionW P G pol n k ops σ H mv K)
    {B : Nat → Prop} {L : Loc} {w : World} {a : Act} (hst : St B L w H) (he : ERel B L w (toEnv n σ) a.tmps) (hg : GOk G B w) {Q : Exit → Act → World → Prop} (hQ : ∀ e a' w', PostAt n k B L w H mv a.defers K e a' w' → Q e a' w') :
    (Code.region id ops true).wp P Q a w := by
  obtain ⟨bs, h⟩ := regionW_old h
  unfold regionB at h
  rw [spineK_eq, spineK_eq, spineK_eq] at h
  split at h
  case h_2 => exact h.elim
  rename_i hc
  simp only [Bool.and_eq_true] at hc
  obtain ⟨hback, hchain, hdst⟩ := hc
  have hok := tab_ok hback
  generalize htab : ancTab ops.toList [] = tab at h hchain hdst hok
  generalize hsi : (List.range ops.size).filter (isSimple P bs ops tab) = simples at h hdst
  generalize hch : (List.range ops.size).filter (fun i => !isSimple P bs ops tab i) = chain at h hchain hdst
  have hsimp : ∀ i, i ∈ simples → isSimple P bs ops tab i = true := fun i hi => by rw [← hsi] at hi; exact (List.mem_filter.1 hi).2
  have hnsimp : ∀ c ∈ chain, isSimple P bs ops tab c = false := fun c hc => by rw [← hch] at hc; simpa using (List.mem_filter.1 hc).2
  have hinv : DInv P ops tab simples chain simples := ⟨by rw [← hsi]; exact List.Pairwise.filter _ List.pairwise_lt_range, fun _ h => h, fun i hi hn => absurd hi hn, fun i hi hn => absurd hi hn⟩
  obtain ⟨ex, σ', H', mv', ⟨F2, heag, hidem, hcont⟩, hb', hK⟩ := drawW_spec hok hsimp hnsimp hdst chain false 0 simples hb (fun _ h => h) hinv (fun _ i hi hn => absurd hi hn) h
  refine wp_region_any hm ?_
  obtain ⟨g1, g2, g3, g4, g5⟩ := eagerP_spec _ heag
  have hrep : ∀ i, (Array.replicate ops.size false).getD i false = false := fun i => by
    simp only [Array.getD]
    split <;> simp
  have hstep : Step B w B w.drew := step_drew B w
  refine drawP_sound (k := k) (B0 := B) (L0 := L) (w0 := w) (H0 := H) (mv0 := mv) (d0 := a.defers) (ex := ex) (fr' := ⟨toEnv n σ', H', k, mv'⟩) htab.symm hsi.symm hch.symm hback (fun e a' w' hp => hQ e a' w' ⟨ex, σ', H', mv', hK, hb', hp⟩) ops.size _ _ _ _ F2 B L a w.drew ?_ (by simp) ?_ ?_ ?_ hchain ?_ ?_ hidem hcont (by rw [g1]; exact hst.drew) ?_ (hg.step hstep) g2 (by rw [g1, g3]; exact FS.drew) rfl ?_
  · unfold unl
    exact Nat.le_trans (List.length_filter_le _ _) (by simp)
  · intro j o _ hl
    rw [hrep] at hl; cases hl
  · exact fun c hc => ⟨hc, hrep c⟩
  · exact fun c hc hn => (hn hc).elim
  · exact fun i hi => by simp at hi
  · exact fun i hi => hi
  · refine ⟨g4.trans he.1, fun x u y hu hnx hy => ?_⟩
    have : (toEnv n σ)[x]? = some u := by
      rw [← hu]
      symm
      refine g5 x ?_
      intro j hj hs
      exact hnx ⟨j, (List.mem_filter.1 hj).1, hrep j, hs⟩
    exact (he.2 x u y this hy).step hstep
  · rw [← hch]
    exact List.Pairwise.filter _ List.nodup_range
end
end Go.Am
end

section
namespace Go.Am
open Go
section
variable (P : Program) (G : Nat → Option PV) (pol : Pol) (n k : Nat)
structure LoopW (b : Code) (σ : Env) (H : Heap) (mv : List Nat) (K : Post) : Prop where
  sound : Bdd n σ → ∀ {B : Nat → Prop} {L : Loc} {w : World} {a : Act}, St B L w H → ERel B L w (toEnv n σ) a.tmps → GOk G B w → ∀ {Q : Exit → Act → World → Prop}, (∀ e a' w', PostAt n k B L w H mv a.defers K e a' w' → Q e a' w') → LoopWp P b Q a w
def firstId : Code → Option Nat
  | .region id _ _ => some id
  | .seq a _ => firstId a
  | .block _ b => firstId b
  | .loop b => firstId b
  | _ => none
structure CutW (b : Code) (σ : Env) (H : Heap) (mv : List Nat) (K : Post) : Prop where
  sound : Bdd n σ → ∀ {B : Nat → Prop} {L : Loc} {w : World} {a : Act}, St B L w H → ERel B L w (toEnv n σ) a.tmps → GOk G B w → ∀ {Q : Exit → Act → World → Prop}, (∀ e a' w', PostAt n k B L w H mv a.defers K e a' w' → Q e a' w') → b.wp P Q a w
def W : Code → Env → Heap → List Nat → Post → Prop
  | .skip, σ, H, mv, K => K .normal σ H mv
  | .label _, σ, H, mv, K => K .normal σ H mv
  | .region _ ops draw, σ, H, mv, K => match draw with
    | false => spineK (List.range ops.size) fun l => opsW P G pol n k ops.toList l σ H mv K
    | true => regionW P G pol n k ops σ H mv K
  | .seq a b, σ, H, mv, K => W a σ H mv fun ex σ H mv => match ex with
    | .normal => match pol.cut (firstId b) with
      | true => CutW P G n k b σ H mv K
      | false => W b σ H mv K
    | ex => K ex σ H mv
  | .cond c a b, σ, H, mv, K => match evS G σ c with
    | .p (.bool t) => Br t (W a σ H mv K) (W b σ H mv K)
    | _ => False
  | .block id b, σ, H, mv, K => W b σ H mv fun ex σ H mv => match ex with
    | .exit j => match Nat.beq j id with
      | true => K .normal σ H mv
      | false => K (.exit j) σ H mv
    | ex => K ex σ H mv
  | .loop b, σ, H, mv, K => LoopW P G n k b σ H mv K
  | .exit id, σ, H, mv, K => K (.exit id) σ H mv
  | .ret, σ, H, mv, K => K .ret σ H mv
  | _, _, _, _, _ => False
end
section
variable {P : Program} {G : Nat → Option PV} {pol : Pol} {n k : Nat}
theorem W_sound (hm : P.follows .mixedOrders = true) : ∀ (c : Code) {σ : Env} {H : Heap} {mv : List Nat} {K : Post}, W P G pol n k c σ H mv K → Bdd n σ → ∀ {B : Nat → Prop} {L : Loc} {w : World} {a : Act}, St B L w H → ERel B L w (toEnv n σ) a.tmps → GOk G B w →
    ∀ {Q : Exit → Act → World → Prop}, (∀ e a' w', PostAt n k B L w H mv a.defers K e a' w' → Q e a' w') → c.wp P Q a w := by
  intro c
  induction c with
  | skip =>
    intro σ H mv K h hb B L w a hst he hg Q hQ
    exact wp_skip (hQ _ _ _ ⟨.normal, σ, H, mv, h, hb, B, L, FS.refl _ _ _ _ _ _, he, hst, rfl, rfl, trivial⟩)
  | label l =>
    intro σ H mv K h hb B L w a hst he hg Q hQ
    exact wp_label (hQ _ _ _ ⟨.normal, σ, H, mv, h, hb, B, L, FS.refl _ _ _ _ _ _, he, hst, rfl, rfl, trivial⟩)
  | region id ops draw =>
    intro σ H mv K h hb B L w a hst he hg Q hQ
    cases draw with
    | false =>
      simp only [W, spineK_eq] at h
      exact wp_region (opsW_sound _ hb h hst he hg hQ)
    | true => exact regionW_sound hm hb h hst he hg hQ
  | seq x y ihx ihy =>
    intro σ H mv K h hb B L w a hst he hg Q hQ
    refine wp_seq ?_
    refine ihx h hb hst he hg fun e a1 w1 hp => ?_
    obtain ⟨ex, σ1, H1, mv1, hK, hb1, B1, L1, hfs, he1, hst1, hk1, hd1, hm1⟩ := hp
    cases ex with
    | normal =>
      cases e with
      | normal =>
        simp only [] at hK
        split at hK
        · refine hK.sound hb1 hst1 he1 (hg.step (hfs.step hst)) fun e a2 w2 hp2 => hQ e a2 w2 ?_
          rw [hd1] at hp2
          exact PostAt.trans hfs hp2
        · refine ihy hK hb1 hst1 he1 (hg.step (hfs.step hst)) fun e a2 w2 hp2 => hQ e a2 w2 ?_
          rw [hd1] at hp2
          exact PostAt.trans hfs hp2
      | _ => exact hm1.elim
    | _ =>
      cases e with
      | normal => exact hm1.elim
      | _ => exact hQ _ _ _ ⟨_, σ1, H1, mv1, hK, hb1, B1, L1, hfs, he1, hst1, hk1, hd1, hm1⟩
  | cond c x y ihx ihy =>
    intro σ H mv K h hb B L w a hst he hg Q hQ
    unfold W at h
    split at h
    · rename_i t hc
      have hv := evalO_sound he hg c
      rw [evS_eq hb, hc] at hv
      have hp := hv.of_p
      generalize hq : a.eval c = q at hp
      cases hp
      refine wp_cond hq ?_
      cases ht : t with
      | true => rw [if_pos rfl]; exact ihx (h.t ht) hb hst he hg hQ
      | false => rw [if_neg (by simp)]; exact ihy (h.f ht) hb hst he hg hQ
    · exact h.elim
  | block id b ih =>
    intro σ H mv K h hb B L w a hst he hg Q hQ
    refine wp_block ?_
    refine ih h hb hst he hg fun e a1 w1 hp => ?_
    obtain ⟨ex, σ1, H1, mv1, hK, hb1, B1, L1, hfs, he1, hst1, hk1, hd1, hm1⟩ := hp
    cases ex with
    | exit j =>
      cases e with
      | exit i =>
        have hji : j = i := hm1
        subst hji
        simp only [] at hK
        simp only [Exit.inBlock]
        split at hK
        · rename_i hb'
          rw [if_pos (Nat.eq_of_beq_eq_true hb')]
          exact hQ _ _ _ ⟨.normal, σ1, H1, mv1, hK, hb1, B1, L1, hfs, he1, hst1, hk1, hd1, trivial⟩
        · rename_i hb'
          rw [if_neg (fun e => by rw [e] at hb'; simp at hb')]
          exact hQ _ _ _ ⟨.exit j, σ1, H1, mv1, hK, hb1, B1, L1, hfs, he1, hst1, hk1, hd1, rfl⟩
      | _ => exact hm1.elim
    | _ =>
      cases e with
      | exit i => exact hm1.elim
      | _ => exact hQ _ _ _ ⟨_, σ1, H1, mv1, hK, hb1, B1, L1, hfs, he1, hst1, hk1, hd1, hm1⟩
  | loop b ih =>
    intro σ H mv K h hb B L w a hst he hg Q hQ
    exact (h.sound hb hst he hg hQ).loop
  | exit id =>
    intro σ H mv K h hb B L w a hst he hg Q hQ
    exact wp_exit (hQ _ _ _ ⟨.exit id, σ, H, mv, h, hb, B, L, FS.refl _ _ _ _ _ _, he, hst, rfl, rfl, rfl⟩)
  | ret =>
    intro σ H mv K h hb B L w a hst he hg Q hQ
    exact wp_ret (hQ _ _ _ ⟨.ret, σ, H, mv, h, hb, B, L, FS.refl _ _ _ _ _ _, he, hst, rfl, rfl, trivial⟩)
  | _ =>
    intro σ H mv K h
    exact h.elim
theorem LoopW.round (hm : P.follows .mixedOrders = true) {b : Code} {σ : Env} {H : Heap} {mv : List Nat} {K : Post}
    (h : W P G pol n k b σ H mv fun ex σ' H' mv' => match ex with
      | .normal => LoopW P G n k b σ' H' mv' K
      | ex => K ex σ' H' mv') : LoopW P G n k b σ H mv K := by
  refine ⟨fun hb B L w a hst he hg Q hQ => LoopWp.round ?_⟩
  refine W_sound hm b h hb hst he hg fun e a1 w1 hp => ?_
  obtain ⟨ex, σ1, H1, mv1, hK, hb1, B1, L1, hfs, he1, hst1, hk1, hd1, hm1⟩ := hp
  cases ex with
  | normal =>
    cases e with
    | normal =>
      refine hK.sound hb1 hst1 he1 (hg.step (hfs.step hst)) fun e a2 w2 hp2 => hQ e a2 w2 ?_
      rw [hd1] at hp2
      exact PostAt.trans hfs hp2
    | _ => exact hm1.elim
  | _ =>
    cases e with
    | normal => exact hm1.elim
    | _ => exact hQ _ _ _ ⟨_, σ1, H1, mv1, hK, hb1, B1, L1, hfs, he1, hst1, hk1, hd1, hm1⟩
def VLe (v u : V) : Prop := ∀ (B : Nat → Prop) (L : Loc) (w : World) (x : Value), VRel B L w v x → VRel B L w u x
theorem VLe.refl (v : V) : VLe v v := fun _ _ _ _ h => h
theorem VLe.trans {a b c : V} (h : VLe a b) (g : VLe b c) : VLe a c := fun B L w x hx => g B L w x (h B L w x hx)
theorem VLe.junk (v : V) : VLe v .junk := fun _ _ _ x _ => .junk x
def PLe (d e : PV) : Prop := ∀ (B : Nat → Prop) (w : World) (x : Value), PRel B w d x → PRel B w e x
theorem PLe.refl (d : PV) : PLe d d := fun _ _ _ h => h
theorem PLe.trans {a b c : PV} (h : PLe a b) (g : PLe b c) : PLe a c := fun B w x hx => g B w x (h B w x hx)
theorem PLe.p {d e : PV} (h : PLe d e) : VLe (.p d) (.p e) := fun B _ w x hx => .p _ _ (h B w x hx.of_p)
theorem PLe.nils (ex : Bool) : PLe .nils (.lst ex []) := fun B w x h => by cases h; exact .lst0 ex none 0 (fun _ => rfl)
theorem PLe.lst (ex : Bool) (l : List PV) : PLe (.lst ex l) (.lst false l) := fun B w x h => by
  cases h with
  | lst0 ex a cap he => exact .lst0 false a cap (fun e => by cases e)
  | lst ex l b o cap sz u hb hw hz hs hf hcap he hc hr => exact .lst false l b o cap sz u hb hw hz hs hf hcap (fun e => by cases e) hc hr
def LeL : List PV → List PV → Prop
  | [], [] => True
  | d :: l, e :: m => PLe d e ∧ LeL l m
  | _, _ => False
theorem LeL.refl : ∀ (l : List PV), LeL l l
  | [] => trivial
  | d :: l => ⟨PLe.refl d, LeL.refl l⟩
theorem LeL.spec : ∀ {l m : List PV}, LeL l m → l.length = m.length ∧ ∀ (i : Nat) d e, l[i]? = some d → m[i]? = some e → PLe d e
  | [], [], _ => ⟨rfl, fun i d e h => by simp at h⟩
  | d :: l, e :: m, h => by
    obtain ⟨h1, h2⟩ := LeL.spec h.2
    refine ⟨by simp [h1], fun i x y hx hy => ?_⟩
    cases i with
    | zero => simp at hx hy; subst hx; subst hy; exact h.1
    | succ i => exact h2 i x y (by simpa using hx) (by simpa using hy)
  | [], _ :: _, h => h.elim
  | _ :: _, [], h => h.elim
theorem PLe.agg {l m : List PV} (h : LeL l m) : PLe (.agg l) (.agg m) := fun B w x hx => by
  obtain ⟨h1, h2⟩ := h.spec
  cases hx with
  | agg l c hl hr =>
    refine .agg m c (by omega) fun i e y he hy => ?_
    have hi : i < l.length := by have := (List.getElem?_eq_some_iff.1 he).1; omega
    exact h2 i l[i] e (by simp [hi]) he B w y (hr i l[i] y (by simp [hi]) hy)
theorem PLe.tup {l m : List PV} (h : LeL l m) : PLe (.tup l) (.tup m) := fun B w x hx => by
  obtain ⟨h1, h2⟩ := h.spec
  cases hx with
  | tup l c hl hr =>
    refine .tup m c (by omega) fun i e y he hy => ?_
    have hi : i < l.length := by have := (List.getElem?_eq_some_iff.1 he).1; omega
    exact h2 i l[i] e (by simp [hi]) he B w y (hr i l[i] y (by simp [hi]) hy)
def VLeL : List V → List V → Prop
  | [], [] => True
  | d :: l, e :: m => VLe d e ∧ VLeL l m
  | _, _ => False
theorem VLeL.refl : ∀ (l : List V), VLeL l l
  | [] => trivial
  | d :: l => ⟨VLe.refl d, VLeL.refl l⟩
theorem VLeL.spec : ∀ {l m : List V}, VLeL l m → l.length = m.length ∧ ∀ (i : Nat) d e, l[i]? = some d → m[i]? = some e → VLe d e
  | [], [], _ => ⟨rfl, fun i d e h => by simp at h⟩
  | d :: l, e :: m, h => by
    obtain ⟨h1, h2⟩ := VLeL.spec h.2
    refine ⟨by simp [h1], fun i x y hx hy => ?_⟩
    cases i with
    | zero => simp at hx hy; subst hx; subst hy; exact h.1
    | succ i => exact h2 i x y (by simpa using hx) (by simpa using hy)
  | [], _ :: _, h => h.elim
  | _ :: _, [], h => h.elim
theorem VLe.tup {l m : List V} (h : VLeL l m) : VLe (.tup l) (.tup m) := fun B L w x hx => by
  obtain ⟨h1, h2⟩ := h.spec
  cases hx with
  | tup l c hl hr =>
    refine .tup m c (by omega) fun i e y he hy => ?_
    have hi : i < l.length := by have := (List.getElem?_eq_some_iff.1 he).1; omega
    exact h2 i l[i] e (by simp [hi]) he B L w y (hr i l[i] y (by simp [hi]) hy)
theorem VLeL.rel {l m : List V} (h : VLeL l m) {B : Nat → Prop} {L : Loc} {w : World} {c : List Value} (hr : VRelL B L w l c) : VRelL B L w m c := by
  obtain ⟨h1, h2⟩ := h.spec
  refine ⟨by have := hr.1; omega, fun i e y he hy => ?_⟩
  have hi : i < l.length := by have := (List.getElem?_eq_some_iff.1 he).1; omega
  exact h2 i l[i] e (by simp [hi]) he B L w y (hr.2 i l[i] y (by simp [hi]) hy)
structure HLe (H H' : Heap) : Prop where
  rel : ∀ (n : Nat) (B : Nat → Prop) (L : Loc) (w : World), HRel B L w n (Heap.at H n) → HRel B L w n (Heap.at H' n)
  live : ∀ n, (Heap.at H' n).live → (Heap.at H n).live
  len : H.length = H'.length
theorem HLe.refl (H : Heap) : HLe H H := ⟨fun _ _ _ _ h => h, fun _ h => h, rfl⟩
theorem St.le {B : Nat → Prop} {L : Loc} {w : World} {H H' : Heap} (h : HLe H H') (hst : St B L w H) : St B L w H' :=
  ⟨fun n => h.rel n B L w (hst.rel n), fun n hl => hst.own n (h.live n hl), fun n m hn hm e => hst.inj n m (h.live n hn) (h.live m hm) e, hst.bnd⟩
inductive OutLe : Out → Out → Prop
  | ret {v u : V} (h : VLe v u) : OutLe (.ret v) (.ret u)
  | pan {v u : V} (h : VLe v u) : OutLe (.pan v) (.pan u)
theorem OutLe.refl : ∀ (o : Out), OutLe o o
  | .ret v => .ret (VLe.refl v)
  | .pan v => .pan (VLe.refl v)
theorem OutLe.rel {o o' : Out} (h : OutLe o o') {B : Nat → Prop} {L : Loc} {w : World} {e : Ending} (hr : OutRel B L w o e) : OutRel B L w o' e := by
  cases h with
  | ret h =>
    cases e with
    | returned x => exact h B L w x hr
    | _ => exact hr.elim
  | pan h =>
    unfold OutRel at hr ⊢
    split at hr
    · contradiction
    · rename_i e1
      cases e1
      exact h B L w _ hr
    · exact hr.elim
structure CLe (c c' : CR) : Prop where
  out : OutLe c.out c'.out
  H : HLe c.H c'.H
  mv : ∀ n, n ∈ c.mv → n ∈ c'.mv
theorem CLe.refl (c : CR) : CLe c c := ⟨OutLe.refl _, HLe.refl _, fun _ h => h⟩
theorem CLe.ret {v u : V} (h : VLe v u) {H : Heap} {mv : List Nat} : CLe ⟨.ret v, H, mv⟩ ⟨.ret u, H, mv⟩ := ⟨.ret h, HLe.refl _, fun _ h => h⟩
theorem CLe.mvs {o : Out} {H : Heap} {mv mv' : List Nat} (h : ∀ n, n ∈ mv → n ∈ mv') : CLe ⟨o, H, mv⟩ ⟨o, H, mv'⟩ := ⟨OutLe.refl _, HLe.refl _, h⟩
theorem FS.more {k : Nat} {B B' : Nat → Prop} {L L' : Loc} {w w' : World} {H H' : Heap} {mv mv' mv2 : List Nat} (h : FS k B L w H mv B' L' w' H' mv') (hm : ∀ n, n ∈ mv' → n ∈ mv2) : FS k B L w H mv B' L' w' H' mv2 :=
  ⟨h.size, h.same, h.own, h.sub, h.keep, fun n hn => hm n (h.mvs n hn), fun n hk hn => h.loc n hk fun h1 => hn (hm n h1), h.fresh⟩
theorem FS.le {k : Nat} {B B' : Nat → Prop} {L L' : Loc} {w w' : World} {H H1 H2 : Heap} {mv mv' : List Nat} (h : FS k B L w H mv B' L' w' H1 mv') (hl : HLe H1 H2) : FS k B L w H mv B' L' w' H2 mv' :=
  ⟨h.size, h.same, h.own, h.sub, h.keep, h.mvs, h.loc, fun n hn => h.fresh n (hl.live n hn)⟩
theorem AbsCall.le {f : FuncId} {args : List V} {H : Heap} {c c' : CR} (h : AbsCall P G f args H c) (hl : CLe c c') : AbsCall P G f args H c' := by
  intro B L w vs hst ha hg
  refine (h B L w vs hst ha hg).mono ?_
  rintro e w' ⟨B', L', hfs, hst', ho⟩
  exact ⟨B', L', (hfs.le hl.H).more hl.mv, hst'.le hl.H, hl.out.rel ho⟩
theorem AbsCall.args {f : FuncId} {args args' : List V} {H : Heap} {c : CR} (h : AbsCall P G f args' H c) (hl : VLeL args args') : AbsCall P G f args H c := by
  intro B L w vs hst ha hg
  exact h B L w vs hst (hl.rel ha) hg
theorem CallW.use {f : FuncId} {args : List V} {H : Heap} {K : CR → Prop} {cr : CR} (h : AbsCall P G f args H cr) (k : K cr) : CallW P G f args H K := ⟨cr, h, k⟩
def SubE (σ' : Env) (σ : Env) : Prop := ∀ t, look σ' t = .junk ∨ VLe (look σ t) (look σ' t)
theorem SubE.rel {σ σ' : Env} (h : SubE σ' σ) {B : Nat → Prop} {L : Loc} {w : World} {tmps : Array Value} (he : ERel B L w (toEnv n σ) tmps) : ERel B L w (toEnv n σ') tmps := by
  refine ⟨by have := he.1; rw [toEnv_length] at this ⊢; exact this, fun i x y hx hy => ?_⟩
  rw [toEnv_get] at hx
  split at hx
  · rename_i hi
    cases hx
    rcases h i with hj | hle
    · rw [hj]; exact .junk y
    · exact hle B L w y (he.2 i _ y (by rw [toEnv_get, if_pos hi]) hy)
  · cases hx
def BddL (n : Nat) : Env → Prop
  | [] => True
  | (i, _) :: σ => i < n ∧ BddL n σ
theorem BddL.bdd : ∀ {σ : Env}, BddL n σ → Bdd n σ
  | [], _ => fun _ _ => rfl
  | (_, v) :: _, h => (BddL.bdd h.2).cons h.1 v
def SubL (σ : Env) : Env → Prop
  | [] => True
  | (i, v) :: σ' => VLe (look σ i) v ∧ SubL σ σ'
theorem SubL.sub {σ : Env} : ∀ {σ' : Env}, SubL σ σ' → SubE σ' σ
  | [], _ => fun t => .inl rfl
  | (i, v) :: σ', h => fun t => by
    rw [look_cons]
    split
    · rename_i e; subst e; exact .inr h.1
    · exact SubL.sub h.2 t
theorem LoopW.sub {b : Code} {σ σ' : Env} {H : Heap} {mv : List Nat} {K : Post} (h : LoopW P G n k b σ' H mv K) (hs : SubL σ σ') (hb : BddL n σ') : LoopW P G n k b σ H mv K := by
  refine ⟨fun _ B L w a hst he hg Q hQ => h.sound hb.bdd hst (hs.sub.rel he) hg hQ⟩
theorem CutW.go (hm : P.follows .mixedOrders = true) {pol : Pol} {b : Code} {σ : Env} {H : Heap} {mv : List Nat} {K : Post} (h : W P G pol n k b σ H mv K) : CutW P G n k b σ H mv K :=
  ⟨fun hb _ _ _ _ hst he hg _ hQ => W_sound hm b h hb hst he hg hQ⟩
theorem CutW.sub {b : Code} {σ σ' : Env} {H : Heap} {mv : List Nat} {K : Post} (h : CutW P G n k b σ' H mv K) (hs : SubL σ σ') (hb : BddL n σ') : CutW P G n k b σ H mv K := by
  refine ⟨fun _ B L w a hst he hg Q hQ => h.sound hb.bdd hst (hs.sub.rel he) hg hQ⟩
theorem CutW.post {b : Code} {σ : Env} {H : Heap} {mv : List Nat} {K K' : Post} (h : CutW P G n k b σ H mv K') (hs : ∀ ex σ' H' mv', K' ex σ' H' mv' → ∃ σ2, SubL σ' σ2 ∧ BddL n σ2 ∧ K ex σ2 H' mv') : CutW P G n k b σ H mv K := by
  refine ⟨fun hb B L w a hst he hg Q hQ => h.sound hb hst he hg fun e a' w' hp => hQ e a' w' ?_⟩
  obtain ⟨ex, σ1, H1, mv1, hK, hb1, B1, L1, hfs, he1, hst1, hk1, hd1, hm1⟩ := hp
  obtain ⟨σ2, h1, h2, h3⟩ := hs _ _ _ _ hK
  exact ⟨ex, σ2, H1, mv1, h3, h2.bdd, B1, L1, hfs, h1.sub.rel he1, hst1, hk1, hd1, hm1⟩
theorem LoopW.post {b : Code} {σ : Env} {H : Heap} {mv : List Nat} {K K' : Post} (h : LoopW P G n k b σ H mv K') (hs : ∀ ex σ' H' mv', K' ex σ' H' mv' → ∃ σ2, SubL σ' σ2 ∧ BddL n σ2 ∧ K ex σ2 H' mv') : LoopW P G n k b σ H mv K := by
  refine ⟨fun hb B L w a hst he hg Q hQ => h.sound hb hst he hg fun e a' w' hp => hQ e a' w' ?_⟩
  obtain ⟨ex, σ1, H1, mv1, hK, hb1, B1, L1, hfs, he1, hst1, hk1, hd1, hm1⟩ := hp
  obtain ⟨σ2, h1, h2, h3⟩ := hs _ _ _ _ hK
  exact ⟨ex, σ2, H1, mv1, h3, h2.bdd, B1, L1, hfs, h1.sub.rel he1, hst1, hk1, hd1, hm1⟩
end
end Go.Am
end

section
namespace Go.Am
open Go
section
variable (P : Program) (G : Nat → Option PV) (pol : Pol)
def resultsK : List ResultVar → Env → Heap → (List V → Prop) → Prop
  | [], _, _, K => K []
  | .tmp t :: l, σ, H, K => (look σ t).fK fun v => resultsK l σ H fun vs => K (v :: vs)
  | .cell a t :: l, σ, H, K => match loadA P (Heap.at H) t (look σ a) with
    | some v => v.fK fun v => resultsK l σ H fun vs => K (v :: vs)
    | none => False
def backR (k : Nat) (u : V) (H : Heap) (K : V → Heap → Prop) : Prop :=
  spineK (reachL (Heap.at H) 200 (List.range k ++ u.names) []) fun ns =>
    match decide (ns.take k = List.range k) && (u.names.all (ns.contains ·) && (closedN (Heap.at H) ns && decide ns.Nodup)) with
    | true => (u.ren (ns.idxOf ·)).fK fun u' => heapK (ns.map fun m => (Heap.at H m).ren (ns.idxOf ·)) fun H' => K u' H'
    | false => False
def finishK (f : FuncId) (k : Nat) (v : V) (H : Heap) (K : V → Heap → Prop) : Prop :=
  match pol.keepR f with
  | true => backR k v H K
  | false => spineK (v.names.filter fun m => decide (k ≤ m) && isArr (Heap.at H m)) fun fz => match fz with
    | [] => backR k v H K
    | fz => frzAllK fz [(0, v)] H fun σ1 H1 => backR k (look σ1 0) H1 K
def argsE : Nat → List V → Env
  | _, [] => []
  | i, v :: l => (i, v) :: argsE (i + 1) l
def bodyW (f : FuncId) (c : Code) (ntmps : Nat) (rs : List ResultVar) (args : List V) (H : Heap) (Q : CR → Prop) : Prop :=
  W P G pol ntmps (lenH H) c (argsE 0 args) H [] fun ex σ' H' mv' => match ex with
    | .normal => resultsK P rs σ' H' fun vs => finishK pol f (lenH H) (tupV vs) H' fun v H'' => Q ⟨.ret v, H'', mv'⟩
    | .ret => resultsK P rs σ' H' fun vs => finishK pol f (lenH H) (tupV vs) H' fun v H'' => Q ⟨.ret v, H'', mv'⟩
    | .pan v => finishK pol f (lenH H) v H' fun v H'' => Q ⟨.pan v, H'', mv'⟩
    | _ => False
end
section
variable {P : Program} {G : Nat → Option PV} {pol : Pol}
theorem resultsK_spec {n k : Nat} {mv : List Nat} {H : Heap} {σ : Env} (hb : Bdd n σ) : ∀ (rs : List ResultVar) {K : List V → Prop}, (∀ t, .tmp t ∈ rs → t < n) → (∀ a t, .cell a t ∈ rs → a < n) → resultsK P rs σ H K →
    ∃ vs, resultsA P ⟨toEnv n σ, H, k, mv⟩ rs = some vs ∧ K vs
  | [], K, _, _, h => ⟨[], rfl, h⟩
  | .tmp t :: l, K, h1, h2, h => by
    simp only [resultsK, V.fK_eq] at h
    obtain ⟨vs, g1, g2⟩ := resultsK_spec (k := k) (mv := mv) hb l (fun t ht => h1 t (List.mem_cons_of_mem _ ht)) (fun a t ht => h2 a t (List.mem_cons_of_mem _ ht)) h
    refine ⟨_, ?_, g2⟩
    have := h1 t (by simp)
    simp only [resultsA, toEnv_get, if_pos this, g1]
  | .cell a t :: l, K, h1, h2, h => by
    simp only [resultsK] at h
    split at h
    case h_2 => exact h.elim
    rename_i v hv
    rw [V.fK_eq] at h
    obtain ⟨vs, g1, g2⟩ := resultsK_spec (k := k) (mv := mv) hb l (fun t ht => h1 t (List.mem_cons_of_mem _ ht)) (fun a t ht => h2 a t (List.mem_cons_of_mem _ ht)) h
    refine ⟨_, ?_, g2⟩
    have := h2 a t (by simp)
    simp only [resultsA, toEnv_get, if_pos this, g1, hv]
theorem backR_spec {k : Nat} {u : V} {H : Heap} {K : V → Heap → Prop} (h : backR k u H K) : ∃ v' H', (let ns := reachL (Heap.at H) 200 (List.range k ++ u.names) []
    if ns.take k = List.range k ∧ u.names.all (ns.contains ·) = true ∧ closedN (Heap.at H) ns = true ∧ ns.Nodup then
      some (u.ren (ns.idxOf ·), ns.map fun n => (Heap.at H n).ren (ns.idxOf ·))
    else none) = some (v', H') ∧ K v' H' := by
  unfold backR at h
  rw [spineK_eq] at h
  split at h
  case h_2 => exact h.elim
  rename_i hc
  simp only [Bool.and_eq_true, decide_eq_true_eq] at hc
  rw [V.fK_eq, heapK_eq] at h
  exact ⟨_, _, if_pos hc, h⟩
theorem finishK_spec {f : FuncId} {k : Nat} {mv : List Nat} {env : List V} {v : V} {H : Heap} {K : V → Heap → Prop} (h : finishK pol f k v H K) : ∃ v' H', finish pol f ⟨env, H, k, mv⟩ v = some (v', H') ∧ K v' H' := by
  unfold finishK at h
  unfold finish
  simp only []
  split at h
  · rename_i hp
    rw [if_pos hp]
    exact backR_spec h
  · rename_i hp
    rw [if_neg (by rw [hp]; simp)]
    rw [spineK_eq] at h
    have e0 : ([v] : List V) = toEnv 1 [(0, v)] := rfl
    have plain : Fr.freezeAll ⟨[v], H, k, mv⟩ (v.names.filter fun n => decide (k ≤ n) && isArr (Heap.at H n)) = ⟨[v], H, k, mv⟩ → backR k v H K → ∃ v' H',
        (match (Fr.freezeAll ⟨[v], H, k, mv⟩ (v.names.filter fun n => decide (k ≤ n) && isArr (Heap.at H n))).env with
        | [u] =>
          if (reachL (Heap.at (Fr.freezeAll ⟨[v], H, k, mv⟩ (v.names.filter fun n => decide (k ≤ n) && isArr (Heap.at H n))).H) 200 (List.range k ++ u.names) []).take k = List.range k ∧
              u.names.all ((reachL (Heap.at (Fr.freezeAll ⟨[v], H, k, mv⟩ (v.names.filter fun n => decide (k ≤ n) && isArr (Heap.at H n))).H) 200 (List.range k ++ u.names) []).contains ·) = true ∧
              closedN (Heap.at (Fr.freezeAll ⟨[v], H, k, mv⟩ (v.names.filter fun n => decide (k ≤ n) && isArr (Heap.at H n))).H) (reachL (Heap.at (Fr.freezeAll ⟨[v], H, k, mv⟩ (v.names.filter fun n => decide (k ≤ n) && isArr (Heap.at H n))).H) 200 (List.range k ++ u.names) []) = true ∧
              (reachL (Heap.at (Fr.freezeAll ⟨[v], H, k, mv⟩ (v.names.filter fun n => decide (k ≤ n) && isArr (Heap.at H n))).H) 200 (List.range k ++ u.names) []).Nodup then
            some (u.ren ((reachL (Heap.at (Fr.freezeAll ⟨[v], H, k, mv⟩ (v.names.filter fun n => decide (k ≤ n) && isArr (Heap.at H n))).H) 200 (List.range k ++ u.names) []).idxOf ·),
              (reachL (Heap.at (Fr.freezeAll ⟨[v], H, k, mv⟩ (v.names.filter fun n => decide (k ≤ n) && isArr (Heap.at H n))).H) 200 (List.range k ++ u.names) []).map fun n => (Heap.at (Fr.freezeAll ⟨[v], H, k, mv⟩ (v.names.filter fun n => decide (k ≤ n) && isArr (Heap.at H n))).H n).ren
                ((reachL (Heap.at (Fr.freezeAll ⟨[v], H, k, mv⟩ (v.names.filter fun n => decide (k ≤ n) && isArr (Heap.at H n))).H) 200 (List.range k ++ u.names) []).idxOf ·))
          else none
        | _ => none) = some (v', H') ∧ K v' H' := by
      intro hf hb
      rw [hf]
      exact backR_spec hb
    split at h
    · rename_i hns
      exact plain (by rw [hns]; rfl) h
    · rename_i fz hns
      have hbd : Bdd 1 [(0, v)] := (fun t ht => by rw [look_cons, if_neg (by omega)]; rfl)
      obtain ⟨σ1, H1, h1, h2, h3⟩ := frzAllK_eq (n := 1) (k := k) (mv := mv) _ _ _ _ hbd h
      rw [e0, h1]
      have e1 : toEnv 1 σ1 = [look σ1 0] := rfl
      simp only [e1]
      exact backR_spec h3
theorem look_argsE : ∀ (l : List V) (i t : Nat), look (argsE i l) t = if i ≤ t then (l[t - i]?).getD .junk else .junk
  | [], i, t => by simp [argsE, look]
  | v :: l, i, t => by
    rw [argsE, look_cons]
    split
    · rename_i e; subst e; simp
    · rename_i e
      rw [look_argsE l (i + 1) t]
      split
      · rename_i h
        rw [if_pos (by omega)]
        obtain ⟨j, hj⟩ : ∃ j, t - i = j + 1 := ⟨t - i - 1, by omega⟩
        rw [hj, show t - (i + 1) = j by omega]
        rfl
      · rename_i h
        rw [if_neg (by omega)]
theorem argsE_env {args : List V} {n : Nat} (h : args.length ≤ n) : args ++ List.replicate (n - args.length) V.junk = toEnv n (argsE 0 args) := by
  apply List.ext_getElem?
  intro i
  rw [toEnv_get, look_argsE]
  simp only [Nat.zero_le, if_true, Nat.sub_zero]
  rw [List.getElem?_append]
  split
  · rename_i hi
    rw [if_pos (by omega), List.getElem?_eq_getElem hi]; rfl
  · rename_i hi
    rw [List.getElem?_replicate]
    split
    · rename_i h2
      rw [if_pos (by omega), List.getElem?_eq_none (by omega)]; rfl
    · rename_i h2
      rw [if_neg (by omega)]
theorem argsE_bdd {args : List V} {n : Nat} (h : args.length ≤ n) : Bdd n (argsE 0 args) := by
  intro t ht
  rw [look_argsE]
  simp only [Nat.zero_le, if_true, Nat.sub_zero]
  rw [List.getElem?_eq_none (by omega)]; rfl
def rsOk (n : Nat) : List ResultVar → Bool
  | [] => true
  | .tmp t :: l => Nat.blt t n && rsOk n l
  | .cell a _ :: l => Nat.blt a n && rsOk n l
theorem rsOk_spec {n : Nat} : ∀ {rs : List ResultVar}, rsOk n rs = true → (∀ t, .tmp t ∈ rs → t < n) ∧ ∀ a t, .cell a t ∈ rs → a < n
  | [], _ => ⟨fun t h => by simp at h, fun a t h => by simp at h⟩
  | .tmp t :: l, h => by
    simp only [rsOk, Bool.and_eq_true, Nat.blt_eq] at h
    obtain ⟨h1, h2⟩ := rsOk_spec h.2
    refine ⟨fun t' ht => ?_, fun a t' ht => ?_⟩
    · rcases List.mem_cons.1 ht with e | ht
      · cases e; exact h.1
      · exact h1 t' ht
    · rcases List.mem_cons.1 ht with e | ht
      · cases e
      · exact h2 a t' ht
  | .cell a t :: l, h => by
    simp only [rsOk, Bool.and_eq_true, Nat.blt_eq] at h
    obtain ⟨h1, h2⟩ := rsOk_spec h.2
    refine ⟨fun t' ht => ?_, fun a' t' ht => ?_⟩
    · rcases List.mem_cons.1 ht with e | ht
      · cases e
      · exact h1 t' ht
    · rcases List.mem_cons.1 ht with e | ht
      · cases e; exact h.1
      · exact h2 a' t' ht
structure FnIs (P : Program) (f : FuncId) (c : Code) (ntmps nargs : Nat) (rs : List ResultVar) : Prop where
  ex : ∃ fn, P.funcs[f]? = some fn ∧ fn.body = some c ∧ fn.ntmps = ntmps ∧ fn.results.toList = rs ∧ (fn.name == "runtime.NumGoroutine") = false
  args : nargs ≤ ntmps
  rs : rsOk ntmps rs = true
theorem absCall_of (hm : P.follows .mixedOrders = true) {f : FuncId} {c : Code} {ntmps : Nat} {rs : List ResultVar} {args : List V} {H : Heap} {cr : CR} (hf : FnIs P f c ntmps args.length rs)
    (h : bodyW P G pol f c ntmps rs args H fun cr' => CLe cr' cr) : AbsCall P G f args H cr := by
  obtain ⟨⟨fn, hfn, hbody, hnt, hrs, hname⟩, hargs, hok⟩ := hf
  subst hnt
  intro B L w vs hst ha hg
  refine .inl ⟨enters hfn hname hbody _ w, calls_of_wp hfn hbody ?_⟩
  have he : ERel B L w (toEnv fn.ntmps (argsE 0 args)) (vs.toArray ++ Array.replicate (fn.ntmps - vs.toArray.size) undef) := by
    have e : (vs.toArray ++ Array.replicate (fn.ntmps - vs.toArray.size) undef).toList = vs ++ List.replicate (fn.ntmps - args.length) undef := by
      rw [Array.toList_append, Array.toList_replicate, List.size_toArray, ha.1]
    rw [← argsE_env hargs]
    unfold ERel
    rw [e]
    refine ha.append ⟨by simp, fun i x y hx _ => ?_⟩
    rw [List.getElem?_replicate] at hx
    split at hx
    · cases hx; exact .junk _
    · cases hx
  unfold bodyW at h
  rw [lenH_eq] at h
  obtain ⟨ok1, ok2⟩ := rsOk_spec hok
  refine W_sound hm c h (argsE_bdd hargs) (a := { tmps := vs.toArray ++ Array.replicate (fn.ntmps - vs.toArray.size) undef, defers := [] }) hst he hg fun e a' w' hp => ?_
  obtain ⟨ex, σ1, H1, mv1, hK, hb1, B1, L1, hfs, he1, hst1, hk1, hd1, hm1⟩ := hp
  have good : (resultsK P rs σ1 H1 fun vs => finishK pol f H.length (tupV vs) H1 fun v H'' => CLe ⟨.ret v, H'', mv1⟩ cr) →
      a'.defers = [] ∧ ∃ v, (results fn a'.tmps).run P w' = .ok v w' ∧ ∃ B' L', FS H.length B L w H [] B' L' w' cr.H cr.mv ∧ St B' L' w' cr.H ∧ OutRel B' L' w' cr.out (.returned v) := by
    intro hr
    obtain ⟨vs', g1, g2⟩ := resultsK_spec (k := H.length) (mv := mv1) hb1 rs ok1 ok2 hr
    obtain ⟨v', H', g3, g4⟩ := finishK_spec (mv := mv1) (env := toEnv fn.ntmps σ1) g2
    rw [← hrs] at g1
    obtain ⟨u, hu, hru⟩ := results_run (fn := fn) hst1 he1 g1
    obtain ⟨B2, L2, hfs2, hst2, hr2⟩ := finish_sound hst1 hru g3
    exact ⟨hd1, u, hu, B2, L2, ((hfs.trans hfs2).le g4.H).more g4.mv, hst2.le g4.H, g4.out.rel hr2⟩
  cases ex with
  | normal =>
    cases e with
    | normal => exact good hK
    | _ => exact hm1.elim
  | ret =>
    cases e with
    | ret => exact good hK
    | _ => exact hm1.elim
  | pan v =>
    simp only [] at hK
    obtain ⟨v', H', g3, g4⟩ := finishK_spec (mv := mv1) (env := toEnv fn.ntmps σ1) hK
    obtain ⟨u, rfl, hu⟩ := ExMatch.pan_inv hm1
    obtain ⟨B2, L2, hfs2, hst2, hr2⟩ := finish_sound hst1 hu g3
    refine ⟨hd1, B2, L2, ((hfs.trans hfs2).le g4.H).more g4.mv, hst2.le g4.H, ?_⟩
    · exact g4.out.rel (e := .panicked [⟨u, false, false⟩]) hr2
  | exit id => exact hK.elim
end
end Go.Am
namespace Go.Am
open Go
def loopsOf : Code → List Code
  | .loop b => b :: loopsOf b
  | .seq a b => loopsOf a ++ loopsOf b
  | .cond _ a b => loopsOf a ++ loopsOf b
  | .block _ b => loopsOf b
  | _ => []
def loopN (c : Option Code) (i : Nat) : Code := ((loopsOf (c.getD .skip))[i]?).getD .skip
def tailOf (id : Nat) : Code → Option Code
  | .seq a b => match firstId b with
    | some i => match Nat.beq i id with
      | true => some b
      | false => match tailOf id a with
        | some c => some c
        | none => tailOf id b
    | none => match tailOf id a with
      | some c => some c
      | none => tailOf id b
  | .cond _ a b => match tailOf id a with
    | some c => some c
    | none => tailOf id b
  | .block _ b => tailOf id b
  | .loop b => tailOf id b
  | _ => none
def tailN (c : Option Code) (i : Nat) : Code := (tailOf i (c.getD .skip)).getD .skip
def cutAt (l : List Nat) (o : Option Nat) : Bool := match o with
  | some i => l.any (Nat.beq i)
  | none => false
structure PostCl (n : Nat) (K : Post) (ex : Ex) (σ : Env) (H : Heap) (mv : List Nat) : Prop where
  ex : ∃ σ2, SubL σ σ2 ∧ BddL n σ2 ∧ K ex σ2 H mv
theorem PostCl.of {n : Nat} {K : Post} {ex : Ex} {σ σ2 : Env} {H : Heap} {mv : List Nat} (h : K ex σ2 H mv) (hs : SubL σ σ2) (hb : BddL n σ2) : PostCl n K ex σ H mv := ⟨⟨σ2, hs, hb, h⟩⟩
theorem LoopW.cl {P : Program} {G : Nat → Option PV} {n k : Nat} {b : Code} {σ : Env} {H : Heap} {mv : List Nat} {K : Post} (h : LoopW P G n k b σ H mv (PostCl n K)) : LoopW P G n k b σ H mv K :=
  h.post fun _ _ _ _ h => h.ex
theorem CutW.cl {P : Program} {G : Nat → Option PV} {n k : Nat} {b : Code} {σ : Env} {H : Heap} {mv : List Nat} {K : Post} (h : CutW P G n k b σ H mv (PostCl n K)) : CutW P G n k b σ H mv K :=
  h.post fun _ _ _ _ h => h.ex
end Go.Am
namespace Go.Am
open Go
section
variable {P : Program} {G : Nat → Option PV} {n k : Nat}
def RenL (ns : List Nat) (σ : Env) : Env → Prop
  | [] => True
  | (i, v) :: σ' => ((look σ i).names.all (ns.contains ·) = true ∧ VLe ((look σ i).ren (ns.idxOf ·)) v) ∧ RenL ns σ σ'
def renOk (k : Nat) (ns : List Nat) (H : Heap) : Bool := decide (ns.take k = List.range k) && (closedN (Heap.at H) ns && decide ns.Nodup)
theorem RenL.get {ns : List Nat} {σ : Env} : ∀ {σ' : Env}, RenL ns σ σ' → ∀ t, look σ' t = .junk ∨ ((look σ t).names.all (ns.contains ·) = true ∧ VLe ((look σ t).ren (ns.idxOf ·)) (look σ' t))
  | [], _, t => .inl rfl
  | (i, v) :: σ', h, t => by
    rw [look_cons]
    split
    · rename_i e; subst e; exact .inr h.1
    · exact RenL.get h.2 t
theorem LoopW.ren {b : Code} {σ σ' : Env} {H H' : Heap} {mv : List Nat} {K : Post} (ns : List Nat) (h : LoopW P G n k b σ' H' mv K) (hs : RenL ns σ σ') (hb : BddL n σ') (hH : (ns.map fun m => (Heap.at H m).ren (ns.idxOf ·)) = H') (hc : renOk k ns H = true) : LoopW P G n k b σ H mv K := by
  subst hH
  unfold renOk at hc
  simp only [Bool.and_eq_true, decide_eq_true_eq] at hc
  obtain ⟨h1, h2, h3⟩ := hc
  refine ⟨fun hbd B L w a hst he hg Q hQ => ?_⟩
  have he' : ERel B (L.sub ns) w (toEnv n σ') a.tmps := by
    refine ⟨by have := he.1; rw [toEnv_length] at this ⊢; exact this, fun i x y hx hy => ?_⟩
    rw [toEnv_get] at hx
    split at hx
    · rename_i hi
      cases hx
      rcases hs.get i with hj | ⟨hn, hle⟩
      · rw [hj]; exact .junk y
      · refine hle B (L.sub ns) w y ((he.2 i _ y (by rw [toEnv_get, if_pos hi]) hy).ren fun m hm => L.sub_eq ?_)
        simp only [List.all_eq_true] at hn
        simpa using hn m hm
    · cases hx
  refine h.sound hb.bdd (hst.sub h3 (closedN_spec h2)) he' hg fun e a' w' hp => hQ e a' w' ?_
  exact PostAt.trans (FS.subH h1) hp
theorem CutW.ren {b : Code} {σ σ' : Env} {H H' : Heap} {mv : List Nat} {K : Post} (ns : List Nat) (h : CutW P G n k b σ' H' mv K) (hs : RenL ns σ σ') (hb : BddL n σ') (hH : (ns.map fun m => (Heap.at H m).ren (ns.idxOf ·)) = H') (hc : renOk k ns H = true) : CutW P G n k b σ H mv K := by
  subst hH
  unfold renOk at hc
  simp only [Bool.and_eq_true, decide_eq_true_eq] at hc
  obtain ⟨h1, h2, h3⟩ := hc
  refine ⟨fun hbd B L w a hst he hg Q hQ => ?_⟩
  have he' : ERel B (L.sub ns) w (toEnv n σ') a.tmps := by
    refine ⟨by have := he.1; rw [toEnv_length] at this ⊢; exact this, fun i x y hx hy => ?_⟩
    rw [toEnv_get] at hx
    split at hx
    · rename_i hi
      cases hx
      rcases hs.get i with hj | ⟨hn, hle⟩
      · rw [hj]; exact .junk y
      · refine hle B (L.sub ns) w y ((he.2 i _ y (by rw [toEnv_get, if_pos hi]) hy).ren fun m hm => L.sub_eq ?_)
        simp only [List.all_eq_true] at hn
        simpa using hn m hm
    · cases hx
  refine h.sound hb.bdd (hst.sub h3 (closedN_spec h2)) he' hg fun e a' w' hp => hQ e a' w' ?_
  exact PostAt.trans (FS.subH h1) hp
end
end Go.Am
end

section
namespace Go.Proofs.YtoinkmogdfjmmaaGreatDoor
open Go Go.Am
noncomputable abbrev PP : Program := Tryz.prog
theorem mixP : PP.follows .mixedOrders = true := by kernel_rfl
namespace T
abbrev int64 : Nat := 2
abbrev int : Nat := 3
abbrev bool : Nat := 4
abbrev uint8 : Nat := 5
abbrev string : Nat := 9
abbrev api_Value : Nat := 27
abbrev api_Fault : Nat := 30
abbrev sl_string : Nat := 37
abbrev api_Pair : Nat := 50
abbrev jlex_Word : Nat := 72
abbrev jread_wrong : Nat := 76
abbrev jread_reader : Nat := 80
abbrev esc_reader : Nat := 124
abbrev error : Nat := 127
abbrev map_string_api_Value : Nat := 131
abbrev dec_number : Nat := 149
abbrev uint64 : Nat := 163
abbrev ptr_strconv_NumError : Nat := 166
abbrev ptr_errors_errorString : Nat := 187
abbrev errors_errorString : Nat := 189
abbrev arr20_uint64 : Nat := 213
end T
namespace Gl
abbrev strconv_ErrSyntax : Nat := 3
abbrev strconv_ErrRange : Nat := 4
abbrev internal_strconv_uint64pow10 : Nat := 5
end Gl
namespace F
abbrev law8_JreadOrder : Nat := 6
noncomputable abbrev law8_JreadOrder_c : Option Code := Tryz.f6.body
theorem law8_JreadOrder_is : FnIs PP 6 (Tryz.f6.body.getD .skip) 113 2 Tryz.f6.results.toList := ⟨⟨_, Tryz.func6, by kernel_rfl, by kernel_rfl, rfl, by kernel_rfl⟩, by decide, by kernel_rfl⟩
abbrev law8_awake : Nat := 10
theorem law8_awake_is : FnIs PP 10 (Tryz.f10.body.getD .skip) 52 0 Tryz.f10.results.toList := ⟨⟨_, Tryz.func10, by kernel_rfl, by kernel_rfl, rfl, by kernel_rfl⟩, by decide, by kernel_rfl⟩
abbrev jread_Parse : Nat := 11
theorem jread_Parse_is : FnIs PP 11 (Tryz.f11.body.getD .skip) 21 1 Tryz.f11.results.toList := ⟨⟨_, Tryz.func11, by kernel_rfl, by kernel_rfl, rfl, by kernel_rfl⟩, by decide, by kernel_rfl⟩
abbrev ref1_Str : Nat := 14
theorem ref1_Str_is : FnIs PP 14 (Tryz.f14.body.getD .skip) 11 1 Tryz.f14.results.toList := ⟨⟨_, Tryz.func14, by kernel_rfl, by kernel_rfl, rfl, by kernel_rfl⟩, by decide, by kernel_rfl⟩
abbrev ref8_Print : Nat := 15
noncomputable abbrev ref8_Print_c : Option Code := Tryz.f15.body
theorem ref8_Print_is : FnIs PP 15 (Tryz.f15.body.getD .skip) 111 2 Tryz.f15.results.toList := ⟨⟨_, Tryz.func15, by kernel_rfl, by kernel_rfl, rfl, by kernel_rfl⟩, by decide, by kernel_rfl⟩
abbrev ref1_Text : Nat := 16
theorem ref1_Text_is : FnIs PP 16 (Tryz.f16.body.getD .skip) 28 1 Tryz.f16.results.toList := ⟨⟨_, Tryz.func16, by kernel_rfl, by kernel_rfl, rfl, by kernel_rfl⟩, by decide, by kernel_rfl⟩
abbrev ref1_Same : Nat := 17
noncomputable abbrev ref1_Same_c : Option Code := Tryz.f17.body
theorem ref1_Same_is : FnIs PP 17 (Tryz.f17.body.getD .skip) 118 3 Tryz.f17.results.toList := ⟨⟨_, Tryz.func17, by kernel_rfl, by kernel_rfl, rfl, by kernel_rfl⟩, by decide, by kernel_rfl⟩
abbrev jread_Valid : Nat := 20
theorem jread_Valid_is : FnIs PP 20 (Tryz.f20.body.getD .skip) 13 1 Tryz.f20.results.toList := ⟨⟨_, Tryz.func20, by kernel_rfl, by kernel_rfl, rfl, by kernel_rfl⟩, by decide, by kernel_rfl⟩
abbrev jlex_Cut : Nat := 24
noncomputable abbrev jlex_Cut_c : Option Code := Tryz.f24.body
theorem jlex_Cut_is : FnIs PP 24 (Tryz.f24.body.getD .skip) 54 1 Tryz.f24.results.toList := ⟨⟨_, Tryz.func24, by kernel_rfl, by kernel_rfl, rfl, by kernel_rfl⟩, by decide, by kernel_rfl⟩
abbrev jread_whole : Nat := 25
noncomputable abbrev jread_whole_c : Option Code := Tryz.f25.body
theorem jread_whole_is : FnIs PP 25 (Tryz.f25.body.getD .skip) 21 2 Tryz.f25.results.toList := ⟨⟨_, Tryz.func25, by kernel_rfl, by kernel_rfl, rfl, by kernel_rfl⟩, by decide, by kernel_rfl⟩
abbrev ref1_Valid : Nat := 28
noncomputable abbrev ref1_Valid_c : Option Code := Tryz.f28.body
theorem ref1_Valid_is : FnIs PP 28 (Tryz.f28.body.getD .skip) 23 1 Tryz.f28.results.toList := ⟨⟨_, Tryz.func28, by kernel_rfl, by kernel_rfl, rfl, by kernel_rfl⟩, by decide, by kernel_rfl⟩
abbrev ref5_Quote : Nat := 29
noncomputable abbrev ref5_Quote_c : Option Code := Tryz.f29.body
theorem ref5_Quote_is : FnIs PP 29 (Tryz.f29.body.getD .skip) 101 2 Tryz.f29.results.toList := ⟨⟨_, Tryz.func29, by kernel_rfl, by kernel_rfl, rfl, by kernel_rfl⟩, by decide, by kernel_rfl⟩
abbrev ref8_line : Nat := 30
noncomputable abbrev ref8_line_c : Option Code := Tryz.f30.body
theorem ref8_line_is : FnIs PP 30 (Tryz.f30.body.getD .skip) 15 1 Tryz.f30.results.toList := ⟨⟨_, Tryz.func30, by kernel_rfl, by kernel_rfl, rfl, by kernel_rfl⟩, by decide, by kernel_rfl⟩
abbrev jlex_Judge : Nat := 36
theorem jlex_Judge_is : FnIs PP 36 (Tryz.f36.body.getD .skip) 23 1 Tryz.f36.results.toList := ⟨⟨_, Tryz.func36, by kernel_rfl, by kernel_rfl, rfl, by kernel_rfl⟩, by decide, by kernel_rfl⟩
abbrev jlex_while : Nat := 37
theorem jlex_while_is : FnIs PP 37 (Tryz.f37.body.getD .skip) 12 2 Tryz.f37.results.toList := ⟨⟨_, Tryz.func37, by kernel_rfl, by kernel_rfl, rfl, by kernel_rfl⟩, by decide, by kernel_rfl⟩
abbrev jlex_word : Nat := 38
theorem jlex_word_is : FnIs PP 38 (Tryz.f38.body.getD .skip) 106 2 Tryz.f38.results.toList := ⟨⟨_, Tryz.func38, by kernel_rfl, by kernel_rfl, rfl, by kernel_rfl⟩, by decide, by kernel_rfl⟩
abbrev place_Fault : Nat := 39
theorem place_Fault_is : FnIs PP 39 (Tryz.f39.body.getD .skip) 22 3 Tryz.f39.results.toList := ⟨⟨_, Tryz.func39, by kernel_rfl, by kernel_rfl, rfl, by kernel_rfl⟩, by decide, by kernel_rfl⟩
abbrev jread_whole_1 : Nat := 40
noncomputable abbrev jread_whole_1_c : Option Code := Tryz.f40.body
theorem jread_whole_1_is : FnIs PP 40 (Tryz.f40.body.getD .skip) 23 3 Tryz.f40.results.toList := ⟨⟨_, Tryz.func40, by kernel_rfl, by kernel_rfl, rfl, by kernel_rfl⟩, by decide, by kernel_rfl⟩
abbrev jread_reader_value : Nat := 41
theorem jread_reader_value_is : FnIs PP 41 (Tryz.f41.body.getD .skip) 103 2 Tryz.f41.results.toList := ⟨⟨_, Tryz.func41, by kernel_rfl, by kernel_rfl, rfl, by kernel_rfl⟩, by decide, by kernel_rfl⟩
abbrev jread_reader_word : Nat := 42
theorem jread_reader_word_is : FnIs PP 42 (Tryz.f42.body.getD .skip) 13 1 Tryz.f42.results.toList := ⟨⟨_, Tryz.func42, by kernel_rfl, by kernel_rfl, rfl, by kernel_rfl⟩, by decide, by kernel_rfl⟩
abbrev jread_reader_fail : Nat := 43
theorem jread_reader_fail_is : FnIs PP 43 (Tryz.f43.body.getD .skip) 10 2 Tryz.f43.results.toList := ⟨⟨_, Tryz.func43, by kernel_rfl, by kernel_rfl, rfl, by kernel_rfl⟩, by decide, by kernel_rfl⟩
abbrev ref1_Take : Nat := 50
noncomputable abbrev ref1_Take_c : Option Code := Tryz.f50.body
theorem ref1_Take_is : FnIs PP 50 (Tryz.f50.body.getD .skip) 79 1 Tryz.f50.results.toList := ⟨⟨_, Tryz.func50, by kernel_rfl, by kernel_rfl, rfl, by kernel_rfl⟩, by decide, by kernel_rfl⟩
abbrev ref1_Starts : Nat := 51
noncomputable abbrev ref1_Starts_c : Option Code := Tryz.f51.body
theorem ref1_Starts_is : FnIs PP 51 (Tryz.f51.body.getD .skip) 32 1 Tryz.f51.results.toList := ⟨⟨_, Tryz.func51, by kernel_rfl, by kernel_rfl, rfl, by kernel_rfl⟩, by decide, by kernel_rfl⟩
abbrev ref5_hex4 : Nat := 52
theorem ref5_hex4_is : FnIs PP 52 (Tryz.f52.body.getD .skip) 25 1 Tryz.f52.results.toList := ⟨⟨_, Tryz.func52, by kernel_rfl, by kernel_rfl, rfl, by kernel_rfl⟩, by decide, by kernel_rfl⟩
abbrev utf_Valid : Nat := 58
noncomputable abbrev utf_Valid_c : Option Code := Tryz.f58.body
theorem utf_Valid_is : FnIs PP 58 (Tryz.f58.body.getD .skip) 26 1 Tryz.f58.results.toList := ⟨⟨_, Tryz.func58, by kernel_rfl, by kernel_rfl, rfl, by kernel_rfl⟩, by decide, by kernel_rfl⟩
abbrev strings_TrimLeft : Nat := 59
theorem strings_TrimLeft_is : FnIs PP 59 (Tryz.f59.body.getD .skip) 37 2 Tryz.f59.results.toList := ⟨⟨_, Tryz.func59, by kernel_rfl, by kernel_rfl, rfl, by kernel_rfl⟩, by decide, by kernel_rfl⟩
abbrev strings_IndexByte : Nat := 60
theorem strings_IndexByte_is : FnIs PP 60 (Tryz.f60.body.getD .skip) 8 2 Tryz.f60.results.toList := ⟨⟨_, Tryz.func60, by kernel_rfl, by kernel_rfl, rfl, by kernel_rfl⟩, by decide, by kernel_rfl⟩
abbrev esc_Unquote : Nat := 61
noncomputable abbrev esc_Unquote_c : Option Code := Tryz.f61.body
theorem esc_Unquote_is : FnIs PP 61 (Tryz.f61.body.getD .skip) 82 2 Tryz.f61.results.toList := ⟨⟨_, Tryz.func61, by kernel_rfl, by kernel_rfl, rfl, by kernel_rfl⟩, by decide, by kernel_rfl⟩
abbrev jlex_number : Nat := 62
theorem jlex_number_is : FnIs PP 62 (Tryz.f62.body.getD .skip) 13 1 Tryz.f62.results.toList := ⟨⟨_, Tryz.func62, by kernel_rfl, by kernel_rfl, rfl, by kernel_rfl⟩, by decide, by kernel_rfl⟩
abbrev place_Of : Nat := 63
theorem place_Of_is : FnIs PP 63 (Tryz.f63.body.getD .skip) 24 2 Tryz.f63.results.toList := ⟨⟨_, Tryz.func63, by kernel_rfl, by kernel_rfl, rfl, by kernel_rfl⟩, by decide, by kernel_rfl⟩
abbrev place_clamp : Nat := 64
theorem place_clamp_is : FnIs PP 64 (Tryz.f64.body.getD .skip) 10 2 Tryz.f64.results.toList := ⟨⟨_, Tryz.func64, by kernel_rfl, by kernel_rfl, rfl, by kernel_rfl⟩, by decide, by kernel_rfl⟩
abbrev jread_reader_is : Nat := 65
theorem jread_reader_is_is : FnIs PP 65 (Tryz.f65.body.getD .skip) 16 2 Tryz.f65.results.toList := ⟨⟨_, Tryz.func65, by kernel_rfl, by kernel_rfl, rfl, by kernel_rfl⟩, by decide, by kernel_rfl⟩
abbrev dec_Int : Nat := 66
theorem dec_Int_is : FnIs PP 66 (Tryz.f66.body.getD .skip) 25 1 Tryz.f66.results.toList := ⟨⟨_, Tryz.func66, by kernel_rfl, by kernel_rfl, rfl, by kernel_rfl⟩, by decide, by kernel_rfl⟩
abbrev jread_reader_list : Nat := 67
noncomputable abbrev jread_reader_list_c : Option Code := Tryz.f67.body
theorem jread_reader_list_is : FnIs PP 67 (Tryz.f67.body.getD .skip) 24 2 Tryz.f67.results.toList := ⟨⟨_, Tryz.func67, by kernel_rfl, by kernel_rfl, rfl, by kernel_rfl⟩, by decide, by kernel_rfl⟩
abbrev jread_reader_pairs : Nat := 68
noncomputable abbrev jread_reader_pairs_c : Option Code := Tryz.f68.body
theorem jread_reader_pairs_is : FnIs PP 68 (Tryz.f68.body.getD .skip) 53 2 Tryz.f68.results.toList := ⟨⟨_, Tryz.func68, by kernel_rfl, by kernel_rfl, rfl, by kernel_rfl⟩, by decide, by kernel_rfl⟩
abbrev ref1_Put : Nat := 76
theorem ref1_Put_is : FnIs PP 76 (Tryz.f76.body.getD .skip) 64 1 Tryz.f76.results.toList := ⟨⟨_, Tryz.func76, by kernel_rfl, by kernel_rfl, rfl, by kernel_rfl⟩, by decide, by kernel_rfl⟩
abbrev utf_Take : Nat := 78
noncomputable abbrev utf_Take_c : Option Code := Tryz.f78.body
theorem utf_Take_is : FnIs PP 78 (Tryz.f78.body.getD .skip) 52 1 Tryz.f78.results.toList := ⟨⟨_, Tryz.func78, by kernel_rfl, by kernel_rfl, rfl, by kernel_rfl⟩, by decide, by kernel_rfl⟩
abbrev strings_trimLeftByte : Nat := 79
noncomputable abbrev strings_trimLeftByte_c : Option Code := Tryz.f79.body
theorem strings_trimLeftByte_is : FnIs PP 79 (Tryz.f79.body.getD .skip) 17 2 Tryz.f79.results.toList := ⟨⟨_, Tryz.func79, by kernel_rfl, by kernel_rfl, rfl, by kernel_rfl⟩, by decide, by kernel_rfl⟩
abbrev internal_stringslite_IndexByte : Nat := 83
theorem internal_stringslite_IndexByte_is : FnIs PP 83 (Tryz.f83.body.getD .skip) 8 2 Tryz.f83.results.toList := ⟨⟨_, Tryz.func83, by kernel_rfl, by kernel_rfl, rfl, by kernel_rfl⟩, by decide, by kernel_rfl⟩
abbrev esc_start : Nat := 84
theorem esc_start_is : FnIs PP 84 (Tryz.f84.body.getD .skip) 13 2 Tryz.f84.results.toList := ⟨⟨_, Tryz.func84, by kernel_rfl, by kernel_rfl, rfl, by kernel_rfl⟩, by decide, by kernel_rfl⟩
abbrev esc_reader_begins : Nat := 85
theorem esc_reader_begins_is : FnIs PP 85 (Tryz.f85.body.getD .skip) 16 2 Tryz.f85.results.toList := ⟨⟨_, Tryz.func85, by kernel_rfl, by kernel_rfl, rfl, by kernel_rfl⟩, by decide, by kernel_rfl⟩
abbrev esc_reader_escape : Nat := 86
theorem esc_reader_escape_is : FnIs PP 86 (Tryz.f86.body.getD .skip) 108 1 Tryz.f86.results.toList := ⟨⟨_, Tryz.func86, by kernel_rfl, by kernel_rfl, rfl, by kernel_rfl⟩, by decide, by kernel_rfl⟩
abbrev esc_reader_letter : Nat := 87
theorem esc_reader_letter_is : FnIs PP 87 (Tryz.f87.body.getD .skip) 37 1 Tryz.f87.results.toList := ⟨⟨_, Tryz.func87, by kernel_rfl, by kernel_rfl, rfl, by kernel_rfl⟩, by decide, by kernel_rfl⟩
abbrev dec_Good : Nat := 88
theorem dec_Good_is : FnIs PP 88 (Tryz.f88.body.getD .skip) 11 1 Tryz.f88.results.toList := ⟨⟨_, Tryz.func88, by kernel_rfl, by kernel_rfl, rfl, by kernel_rfl⟩, by decide, by kernel_rfl⟩
abbrev jlex_great : Nat := 89
theorem jlex_great_is : FnIs PP 89 (Tryz.f89.body.getD .skip) 68 1 Tryz.f89.results.toList := ⟨⟨_, Tryz.func89, by kernel_rfl, by kernel_rfl, rfl, by kernel_rfl⟩, by decide, by kernel_rfl⟩
abbrev strings_LastIndexByte : Nat := 90
abbrev strings_Count : Nat := 91
abbrev utf_Count : Nat := 92
noncomputable abbrev utf_Count_c : Option Code := Tryz.f92.body
theorem utf_Count_is : FnIs PP 92 (Tryz.f92.body.getD .skip) 18 1 Tryz.f92.results.toList := ⟨⟨_, Tryz.func92, by kernel_rfl, by kernel_rfl, rfl, by kernel_rfl⟩, by decide, by kernel_rfl⟩
abbrev strings_ContainsAny : Nat := 93
abbrev strconv_ParseInt : Nat := 94
abbrev jread_reader_take : Nat := 95
theorem jread_reader_take_is : FnIs PP 95 (Tryz.f95.body.getD .skip) 16 2 Tryz.f95.results.toList := ⟨⟨_, Tryz.func95, by kernel_rfl, by kernel_rfl, rfl, by kernel_rfl⟩, by decide, by kernel_rfl⟩
abbrev jread_reader_want : Nat := 96
theorem jread_reader_want_is : FnIs PP 96 (Tryz.f96.body.getD .skip) 10 2 Tryz.f96.results.toList := ⟨⟨_, Tryz.func96, by kernel_rfl, by kernel_rfl, rfl, by kernel_rfl⟩, by decide, by kernel_rfl⟩
abbrev jread_made : Nat := 97
noncomputable abbrev jread_made_c : Option Code := Tryz.f97.body
theorem jread_made_is : FnIs PP 97 (Tryz.f97.body.getD .skip) 27 1 Tryz.f97.results.toList := ⟨⟨_, Tryz.func97, by kernel_rfl, by kernel_rfl, rfl, by kernel_rfl⟩, by decide, by kernel_rfl⟩
abbrev ref1_Good : Nat := 104
theorem ref1_Good_is : FnIs PP 104 (Tryz.f104.body.getD .skip) 17 1 Tryz.f104.results.toList := ⟨⟨_, Tryz.func104, by kernel_rfl, by kernel_rfl, rfl, by kernel_rfl⟩, by decide, by kernel_rfl⟩
abbrev utf_begins : Nat := 105
theorem utf_begins_is : FnIs PP 105 (Tryz.f105.body.getD .skip) 30 1 Tryz.f105.results.toList := ⟨⟨_, Tryz.func105, by kernel_rfl, by kernel_rfl, rfl, by kernel_rfl⟩, by decide, by kernel_rfl⟩
abbrev utf_Good : Nat := 106
theorem utf_Good_is : FnIs PP 106 (Tryz.f106.body.getD .skip) 17 1 Tryz.f106.results.toList := ⟨⟨_, Tryz.func106, by kernel_rfl, by kernel_rfl, rfl, by kernel_rfl⟩, by decide, by kernel_rfl⟩
abbrev utf_size : Nat := 107
theorem utf_size_is : FnIs PP 107 (Tryz.f107.body.getD .skip) 12 1 Tryz.f107.results.toList := ⟨⟨_, Tryz.func107, by kernel_rfl, by kernel_rfl, rfl, by kernel_rfl⟩, by decide, by kernel_rfl⟩
abbrev internal_bytealg_IndexByteString : Nat := 111
abbrev strings_HasPrefix : Nat := 112
theorem strings_HasPrefix_is : FnIs PP 112 (Tryz.f112.body.getD .skip) 8 2 Tryz.f112.results.toList := ⟨⟨_, Tryz.func112, by kernel_rfl, by kernel_rfl, rfl, by kernel_rfl⟩, by decide, by kernel_rfl⟩
abbrev esc_short : Nat := 113
theorem esc_short_is : FnIs PP 113 (Tryz.f113.body.getD .skip) 28 2 Tryz.f113.results.toList := ⟨⟨_, Tryz.func113, by kernel_rfl, by kernel_rfl, rfl, by kernel_rfl⟩, by decide, by kernel_rfl⟩
abbrev esc_reader_put : Nat := 114
theorem esc_reader_put_is : FnIs PP 114 (Tryz.f114.body.getD .skip) 27 3 Tryz.f114.results.toList := ⟨⟨_, Tryz.func114, by kernel_rfl, by kernel_rfl, rfl, by kernel_rfl⟩, by decide, by kernel_rfl⟩
abbrev esc_reader_digits : Nat := 115
theorem esc_reader_digits_is : FnIs PP 115 (Tryz.f115.body.getD .skip) 38 3 Tryz.f115.results.toList := ⟨⟨_, Tryz.func115, by kernel_rfl, by kernel_rfl, rfl, by kernel_rfl⟩, by decide, by kernel_rfl⟩
abbrev utf_Put : Nat := 116
theorem utf_Put_is : FnIs PP 116 (Tryz.f116.body.getD .skip) 77 2 Tryz.f116.results.toList := ⟨⟨_, Tryz.func116, by kernel_rfl, by kernel_rfl, rfl, by kernel_rfl⟩, by decide, by kernel_rfl⟩
abbrev dec_parse : Nat := 117
noncomputable abbrev dec_parse_c : Option Code := Tryz.f117.body
theorem dec_parse_is : FnIs PP 117 (Tryz.f117.body.getD .skip) 103 1 Tryz.f117.results.toList := ⟨⟨_, Tryz.func117, by kernel_rfl, by kernel_rfl, rfl, by kernel_rfl⟩, by decide, by kernel_rfl⟩
abbrev strings_IndexAny : Nat := 118
abbrev utf_step : Nat := 123
theorem utf_step_is : FnIs PP 123 (Tryz.f123.body.getD .skip) 12 1 Tryz.f123.results.toList := ⟨⟨_, Tryz.func123, by kernel_rfl, by kernel_rfl, rfl, by kernel_rfl⟩, by decide, by kernel_rfl⟩
abbrev slices_Sorted_string : Nat := 126
abbrev maps_Keys_map_string_api_Value_string_api_Value : Nat := 127
theorem maps_Keys_map_string_api_Value_string_api_Value_is : FnIs PP 127 (Tryz.f127.body.getD .skip) 4 1 Tryz.f127.results.toList := ⟨⟨_, Tryz.func127, by kernel_rfl, by kernel_rfl, rfl, by kernel_rfl⟩, by decide, by kernel_rfl⟩
abbrev internal_stringslite_HasPrefix : Nat := 132
theorem internal_stringslite_HasPrefix_is : FnIs PP 132 (Tryz.f132.body.getD .skip) 18 2 Tryz.f132.results.toList := ⟨⟨_, Tryz.func132, by kernel_rfl, by kernel_rfl, rfl, by kernel_rfl⟩, by decide, by kernel_rfl⟩
abbrev esc_Hex : Nat := 133
noncomputable abbrev esc_Hex_c : Option Code := Tryz.f133.body
theorem esc_Hex_is : FnIs PP 133 (Tryz.f133.body.getD .skip) 65 1 Tryz.f133.results.toList := ⟨⟨_, Tryz.func133, by kernel_rfl, by kernel_rfl, rfl, by kernel_rfl⟩, by decide, by kernel_rfl⟩
abbrev strings_CutPrefix : Nat := 134
theorem strings_CutPrefix_is : FnIs PP 134 (Tryz.f134.body.getD .skip) 11 2 Tryz.f134.results.toList := ⟨⟨_, Tryz.func134, by kernel_rfl, by kernel_rfl, rfl, by kernel_rfl⟩, by decide, by kernel_rfl⟩
abbrev dec_digits : Nat := 135
noncomputable abbrev dec_digits_c : Option Code := Tryz.f135.body
theorem dec_digits_is : FnIs PP 135 (Tryz.f135.body.getD .skip) 23 1 Tryz.f135.results.toList := ⟨⟨_, Tryz.func135, by kernel_rfl, by kernel_rfl, rfl, by kernel_rfl⟩, by decide, by kernel_rfl⟩
abbrev dec_power : Nat := 136
noncomputable abbrev dec_power_c : Option Code := Tryz.f136.body
theorem dec_power_is : FnIs PP 136 (Tryz.f136.body.getD .skip) 46 1 Tryz.f136.results.toList := ⟨⟨_, Tryz.func136, by kernel_rfl, by kernel_rfl, rfl, by kernel_rfl⟩, by decide, by kernel_rfl⟩
abbrev strings_TrimRight : Nat := 137
theorem strings_TrimRight_is : FnIs PP 137 (Tryz.f137.body.getD .skip) 37 2 Tryz.f137.results.toList := ⟨⟨_, Tryz.func137, by kernel_rfl, by kernel_rfl, rfl, by kernel_rfl⟩, by decide, by kernel_rfl⟩
abbrev maps_Keys_map_string_api_Value_string_api_Value_1 : Nat := 147
abbrev internal_stringslite_CutPrefix : Nat := 152
theorem internal_stringslite_CutPrefix_is : FnIs PP 152 (Tryz.f152.body.getD .skip) 15 2 Tryz.f152.results.toList := ⟨⟨_, Tryz.func152, by kernel_rfl, by kernel_rfl, rfl, by kernel_rfl⟩, by decide, by kernel_rfl⟩
abbrev strings_trimRightByte : Nat := 153
noncomputable abbrev strings_trimRightByte_c : Option Code := Tryz.f153.body
theorem strings_trimRightByte_is : FnIs PP 153 (Tryz.f153.body.getD .skip) 23 2 Tryz.f153.results.toList := ⟨⟨_, Tryz.func153, by kernel_rfl, by kernel_rfl, rfl, by kernel_rfl⟩, by decide, by kernel_rfl⟩
def ref1_Same_t13 : List Nat × List Nat × List Nat := ([0, 1, 0, 7, 15, 31, 0, 64, 0, 448, 960, 1984, 4095, 8191, 16383, 32767, 16383, 131071, 262143, 524287, 16383, 1064959, 16383, 7356415, 15745023, 32522239, 16383, 134217727, 268435455, 536870911], [0, 1, 2, 3, 4, 5, 6, 7, 8, 9, 10, 11, 12, 13, 14, 15, 16, 17, 18, 19, 20, 21, 22, 23, 24, 25, 26, 28, 29], [27])
end F
end Go.Proofs.YtoinkmogdfjmmaaGreatDoor
end

section
namespace Go.Proofs.YtoinkmogdfjmmaaGreatDoor
open Go Go.Am Go.RowKit
def GG : Nat → Option PV := fun g => match Nat.beq g Gl.internal_strconv_uint64pow10 with
  | true => some (tabV .u64 ([1, 10, 100, 1000, 10000, 100000, 1000000, 10000000, 100000000, 1000000000, 10000000000, 100000000000, 1000000000000, 10000000000000, 100000000000000, 1000000000000000, 10000000000000000, 100000000000000000, 1000000000000000000, 10000000000000000000]))
  | false => match Nat.beq g Gl.strconv_ErrSyntax with
    | true => some (.iface T.ptr_errors_errorString .anyp)
    | false => match Nat.beq g Gl.strconv_ErrRange with
      | true => some (.iface T.ptr_errors_errorString .anyp)
      | false => none
theorem pow10_lit : Lib.pow10Tab = [1, 10, 100, 1000, 10000, 100000, 1000000, 10000000, 100000000, 1000000000, 10000000000, 100000000000, 1000000000000, 10000000000000, 100000000000000, 1000000000000000, 10000000000000000, 100000000000000000, 1000000000000000000, 10000000000000000000] := by decide
theorem gPow : PP.globalNamed "internal/strconv.uint64pow10" = some Gl.internal_strconv_uint64pow10 := by kernel_rfl
def polG : Pol := { keepR := fun f => Nat.beq f F.utf_Put, byref := fun _ => false, mask := fun _ _ => none }
def polC (l : List Nat) : Pol := { keepR := fun f => Nat.beq f F.utf_Put, byref := fun _ => false, mask := fun _ _ => none, cut := cutAt l }
def ngOk (P : Program) : Bool := P.funcs.all fun fn => !(fn.name == "runtime.NumGoroutine")
theorem ngP (f : Nat) (fn : Func) (h : PP.funcs[f]? = some fn) : (fn.name == "runtime.NumGoroutine") = false := by
  have h0 : ngOk PP = true := by kernel_rfl
  unfold ngOk at h0
  rw [Array.all_eq_true_iff_forall_mem] at h0
  simpa using h0 fn (Array.mem_of_getElem? h)
theorem bytealg_IndexByteString (s : List UInt8) (c : Int) (H : Heap) : AbsCall PP GG F.internal_bytealg_IndexByteString [.p (.str s), .p (.int .u8 c)] H ⟨.ret (.p (.int .i64 (firstIdx ⟨s.toArray⟩ c.toNat.toUInt8))), H, []⟩ :=
  abs_indexByte Tryz.func111 (by kernel_rfl) (by kernel_rfl) (by kernel_rfl) (by kernel_rfl) s c H
end Go.Proofs.YtoinkmogdfjmmaaGreatDoor
end

section
namespace Go.Proofs
open Go.Shelf
def Tryz.lays153_ren : Go.Shelf.Ren := ⟨fun | 153 => 118 | 152 => 131 | 226 => 138 | 227 => 80 | 228 => 108 | 137 => 60 | 119 => 149 | 224 => 150 | 225 => 151 | 217 => 83 | 266 => 111 | n => n, fun | 9 => 9 | 3 => 3 | 4 => 4 | 5 => 5 | 21 => 21 | 117 => 117 | 116 => 116 | 0 => 0 | 46 => 112 | 124 => 120 | n => n, fun | n => n⟩
theorem Tryz.lays153 : Go.Proofs.Lays.n153 Tryz.prog Tryz.lays153_ren := {
  mixed := by kernel_rfl
  f119 := Tryz.func149.trans (congrArg some (by kernel_rfl))
  f137 := Tryz.func60.trans (congrArg some (by kernel_rfl))
  f152 := Tryz.func131.trans (congrArg some (by kernel_rfl))
  f153 := Tryz.func118.trans (congrArg some (by kernel_rfl))
  f217 := Tryz.func83.trans (congrArg some (by kernel_rfl))
  f224 := Tryz.func150.trans (congrArg some (by kernel_rfl))
  f225 := Tryz.func151.trans (congrArg some (by kernel_rfl))
  f226 := Tryz.func138.trans (congrArg some (by kernel_rfl))
  f227 := Tryz.func80.trans (congrArg some (by kernel_rfl))
  f228 := Tryz.func108.trans (congrArg some (by kernel_rfl))
  f266 := Tryz.func111.trans (congrArg some (by kernel_rfl))
  t0 := Tryz.underlying0
  a0 := Tryz.isAgg0
  z0 := Tryz.sizeOf0
  v0 := Tryz.zeroValue0
  t3 := Tryz.underlying3
  a3 := Tryz.isAgg3
  z3 := Tryz.sizeOf3
  v3 := Tryz.zeroValue3
  t4 := Tryz.underlying4
  a4 := Tryz.isAgg4
  z4 := Tryz.sizeOf4
  v4 := Tryz.zeroValue4
  t5 := Tryz.underlying5
  a5 := Tryz.isAgg5
  z5 := Tryz.sizeOf5
  v5 := Tryz.zeroValue5
  t9 := Tryz.underlying9
  a9 := Tryz.isAgg9
  z9 := Tryz.sizeOf9
  v9 := Tryz.zeroValue9
  t21 := Tryz.underlying21
  a21 := Tryz.isAgg21
  z21 := Tryz.sizeOf21
  v21 := Tryz.zeroValue21
  t46 := Tryz.underlying112
  a46 := Tryz.isAgg112
  z46 := Tryz.sizeOf112
  v46 := Tryz.zeroValue112
  t116 := Tryz.underlying116
  a116 := Tryz.isAgg116
  z116 := Tryz.sizeOf116
  t117 := Tryz.underlying117
  a117 := Tryz.isAgg117
  z117 := Tryz.sizeOf117
  v117 := Tryz.zeroValue117
  t124 := Tryz.underlying120
  a124 := Tryz.isAgg120
  z124 := Tryz.sizeOf120
  v124 := Tryz.zeroValue120 }
def Tryz.lays150_ren : Go.Shelf.Ren := ⟨fun | 150 => 93 | 153 => 118 | 152 => 131 | 226 => 138 | 227 => 80 | 228 => 108 | 137 => 60 | 119 => 149 | 224 => 150 | 225 => 151 | 217 => 83 | 266 => 111 | n => n, fun | 9 => 9 | 4 => 4 | 3 => 3 | 5 => 5 | 21 => 21 | 117 => 117 | 116 => 116 | 0 => 0 | 46 => 112 | 124 => 120 | n => n, fun | n => n⟩
theorem Tryz.lays150 : Go.Proofs.Lays.n150 Tryz.prog Tryz.lays150_ren := {
  mixed := by kernel_rfl
  f119 := Tryz.func149.trans (congrArg some (by kernel_rfl))
  f137 := Tryz.func60.trans (congrArg some (by kernel_rfl))
  f150 := Tryz.func93.trans (congrArg some (by kernel_rfl))
  f152 := Tryz.func131.trans (congrArg some (by kernel_rfl))
  f153 := Tryz.func118.trans (congrArg some (by kernel_rfl))
  f217 := Tryz.func83.trans (congrArg some (by kernel_rfl))
  f224 := Tryz.func150.trans (congrArg some (by kernel_rfl))
  f225 := Tryz.func151.trans (congrArg some (by kernel_rfl))
  f226 := Tryz.func138.trans (congrArg some (by kernel_rfl))
  f227 := Tryz.func80.trans (congrArg some (by kernel_rfl))
  f228 := Tryz.func108.trans (congrArg some (by kernel_rfl))
  f266 := Tryz.func111.trans (congrArg some (by kernel_rfl))
  t0 := Tryz.underlying0
  a0 := Tryz.isAgg0
  z0 := Tryz.sizeOf0
  v0 := Tryz.zeroValue0
  t3 := Tryz.underlying3
  a3 := Tryz.isAgg3
  z3 := Tryz.sizeOf3
  v3 := Tryz.zeroValue3
  t4 := Tryz.underlying4
  a4 := Tryz.isAgg4
  z4 := Tryz.sizeOf4
  v4 := Tryz.zeroValue4
  t5 := Tryz.underlying5
  a5 := Tryz.isAgg5
  z5 := Tryz.sizeOf5
  v5 := Tryz.zeroValue5
  t9 := Tryz.underlying9
  a9 := Tryz.isAgg9
  z9 := Tryz.sizeOf9
  v9 := Tryz.zeroValue9
  t21 := Tryz.underlying21
  a21 := Tryz.isAgg21
  z21 := Tryz.sizeOf21
  v21 := Tryz.zeroValue21
  t46 := Tryz.underlying112
  a46 := Tryz.isAgg112
  z46 := Tryz.sizeOf112
  v46 := Tryz.zeroValue112
  t116 := Tryz.underlying116
  a116 := Tryz.isAgg116
  z116 := Tryz.sizeOf116
  t117 := Tryz.underlying117
  a117 := Tryz.isAgg117
  z117 := Tryz.sizeOf117
  v117 := Tryz.zeroValue117
  t124 := Tryz.underlying120
  a124 := Tryz.isAgg120
  z124 := Tryz.sizeOf120
  v124 := Tryz.zeroValue120 }
open Go.RowKit Go.Lib in
theorem Tryz.strings_ContainsAny_laid (s chars : ByteArray) (w : World) (hs : s.size < 4294967281) (hcs : chars.size < 4294967281) (has : ∀ (j : Nat) b, s.data.toList[j]? = some b → b.toNat < 128) (hac : ∀ (j : Nat) b, chars.data.toList[j]? = some b → b.toNat < 128) :
    Calls Tryz.prog 93 #[.string s, .string chars] w fun e w' => e = .returned (.bool (Lib.containsAny s.data.toList chars.data.toList)) ∧ Below w.heap.size w w' := Any.strings_ContainsAny_laid Tryz.lays150 (by kernel_rfl) s chars w hs hcs has hac
end Go.Proofs
end

section
namespace Go.Proofs.YtoinkmogdfjmmaaGreatDoor
open Go Go.Am Go.RowKit
theorem strings_ContainsAny (s c : List UInt8) (hs : s.length < 4294967281) (hc : c.length < 4294967281) (h1 : ∀ (j : Nat) (b : UInt8), s[j]? = some b → b.toNat < 128) (h2 : ∀ (j : Nat) (b : UInt8), c[j]? = some b → b.toNat < 128) (H : Heap) :
    AbsCall PP GG F.strings_ContainsAny [.p (.str s), .p (.str c)] H ⟨.ret (.p (.bool (Lib.containsAny s c))), H, []⟩ := by
  refine absBelow fun B L w vs _ ha hg => ?_
  obtain ⟨v, u, rfl, hv, hu⟩ := vrel2 ha
  obtain rfl := vstr hv
  obtain rfl := vstr hu
  refine CallTo.of_calls Tryz.func93 (by kernel_rfl) rfl ((Tryz.strings_ContainsAny_laid ⟨s.toArray⟩ ⟨c.toArray⟩ w (by simpa [ByteArray.size] using hs) (by simpa [ByteArray.size] using hc) (by simpa using h1) (by simpa using h2)).mono ?_)
  rintro e w' ⟨rfl, hb⟩
  exact ⟨hb, _, rfl, by simpa using VRel.p _ _ (.bool _)⟩
theorem vrel3 {B : Nat → Prop} {L : Am.Loc} {w : World} {x y z : V} {vs : List Value} (h : VRelL B L w [x, y, z] vs) : ∃ v u t, vs = [v, u, t] ∧ VRel B L w x v ∧ VRel B L w y u ∧ VRel B L w z t := by
  match vs, h with
  | [v, u, t], h => exact ⟨v, u, t, rfl, h.2 0 _ _ rfl rfl, h.2 1 _ _ rfl rfl, h.2 2 _ _ rfl rfl⟩
  | [], h => have := h.1; simp at this
  | [_], h => have := h.1; simp at this
  | [_, _], h => have := h.1; simp at this
  | _ :: _ :: _ :: _ :: _, h => have := h.1; simp at this
end Go.Proofs.YtoinkmogdfjmmaaGreatDoor
end
