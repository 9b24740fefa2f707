/-
The abstract machine: loops, the body of a call, all together.
The abstract machine: frames of which some slots are not told.
The abstract machine: operations that may come in any order: what is run.
The abstract machine: one operation, told whole or in part.
The abstract machine: one operation of a region is sound.
The abstract machine: regions that may come in any order are sound.
The abstract machine: regions that may come in any order are sound: the proof.
The abstract machine: the library's functions that are met by a contract; the end of a proof.
-/
import Derived.Test.YtaoejccgdpppgaaGreatDoorAmB
import Derived.Orders
import Derived.Below
import Derived.Laws.Externs
import Derived.Lib.ItoaNum
import Derived.ChangeSame
import Derived.Lib.LaidTab

section
namespace Go.Am
open Go

def firstReg : Code → Nat
  | .region id _ _ => id
  | .seq a _ => firstReg a
  | .block _ b => firstReg b
  | .cond _ a _ => firstReg a
  | .loop b => firstReg b
  | _ => 0

def maskFrom (ks : List Nat) : Nat → List V → List V
  | _, [] => []
  | i, v :: l => (if ks.contains i = true then v else .junk) :: maskFrom ks (i + 1) l

/-- the state at a loop's head: only the slots that are named are kept, names are made anew -/
def normFr (keep : Option (List Nat)) (fr : Fr) : Option Fr :=
  match keep with
  | none => some fr
  | some ks =>
    let env1 := maskFrom ks 0 fr.env
    let ns := reachL (Heap.at fr.H) 400 (List.range fr.k ++ V.namesL env1) []
    if ns.take fr.k = List.range fr.k ∧ (V.namesL env1).all (ns.contains ·) = true ∧ closedN (Heap.at fr.H) ns = true ∧ ns.Nodup then
      some { env := env1.map (V.ren (ns.idxOf ·)), H := ns.map fun n => (Heap.at fr.H n).ren (ns.idxOf ·), k := fr.k, mv := fr.mv }
    else none

abbrev DrawG := CallF → Array Oper → Fr → Option (Ex × Fr)

def exN (P : Program) (G : Nat → Option PV) (pol : Pol) (prim : CallF) (Dr : DrawG) : Nat → CallF × (FuncId → LoopF)
  | 0 => (fun _ _ _ => none, fun _ _ _ => none)
  | n + 1 =>
    (fun f args H => match prim f args H with
      | some r => some r
      | none => callBody P G pol (exN P G pol prim Dr n).1 ((exN P G pol prim Dr n).2 f) (Dr (exN P G pol prim Dr n).1) f args H,
     fun f b fr => match normFr (pol.mask f (firstReg b)) fr with
      | none => none
      | some fr0 => match exec0 P G pol (exN P G pol prim Dr n).1 ((exN P G pol prim Dr n).2 f) (Dr (exN P G pol prim Dr n).1) b fr0 with
        | some (.normal, fr') => (exN P G pol prim Dr n).2 f b fr'
        | x => x)

section
variable {P : Program} {G : Nat → Option PV} {pol : Pol} {C : CallF}

/-! ### a part of the heap, the handed-in objects first -/
theorem FS.subH {k : Nat} {B : Nat → Prop} {L : Loc} {w : World} {H : Heap} {mv : List Nat} {ns : List Nat} (hk : ns.take k = List.range k) : FS k B L w H mv B (L.sub ns) w (Heap.sub H ns) mv := by
  refine ⟨Nat.le_refl _, Same.refl w, fun _ _ _ => rfl, fun _ _ h => h, fun _ _ h _ => h, fun _ h => h, fun n hn _ => ?_, fun i hi => ?_⟩
  · have h1 : (ns.take k)[n]? = some n := by rw [hk]; simp [hn]
    rw [List.getElem?_take, if_pos hn] at h1
    simp [LocEq, Loc.sub, h1]
  · rw [Heap.at_sub] at hi
    cases hn : ns[i]? with
    | none => rw [hn] at hi; exact hi.elim
    | some n => rw [hn] at hi; exact .inl ⟨n, (HO.ren_live _ _).1 hi, by simp [Loc.sub, hn]⟩

theorem ERel.ren {B : Nat → Prop} {L : Loc} {w : World} {env : List V} {tmps : Array Value} {ns : List Nat} (h : ERel B L w env tmps) (hn : (V.namesL env).all (ns.contains ·) = true) : ERel B (L.sub ns) w (env.map (V.ren (ns.idxOf ·))) tmps := by
  refine ⟨by simpa using h.1, fun i x y hx hy => ?_⟩
  simp only [List.getElem?_map, Option.map_eq_some_iff] at hx
  obtain ⟨z, hz, rfl⟩ := hx
  refine (h.2 i z y hz hy).ren fun n hnz => L.sub_eq ?_
  simp only [List.all_eq_true] at hn
  simpa using hn n (V.names_mem hz hnz)

theorem maskFrom_rel {B : Nat → Prop} {L : Loc} {w : World} (ks : List Nat) : ∀ (env : List V) (i : Nat) (c : List Value), VRelL B L w env c → VRelL B L w (maskFrom ks i env) c
  | [], _, c, h => h
  | v :: env, i, [], h => by have := h.1; simp at this
  | v :: env, i, u :: c, h => by
    have hrest : VRelL B L w env c := ⟨by have := h.1; simpa using this, fun k x y hx hy => h.2 (k + 1) x y (by simpa using hx) (by simpa using hy)⟩
    refine VRelL.cons ?_ (maskFrom_rel ks env (i + 1) c hrest)
    split
    · exact h.2 0 v u rfl rfl
    · exact .junk _

theorem normFr_sound {keep : Option (List Nat)} {B : Nat → Prop} {L : Loc} {w : World} {fr fr' : Fr} {tmps : Array Value} (hst : St B L w fr.H) (he : ERel B L w fr.env tmps) (h : normFr keep fr = some fr') :
    ∃ L', FS fr.k B L w fr.H fr.mv B L' w fr'.H fr'.mv ∧ ERel B L' w fr'.env tmps ∧ St B L' w fr'.H ∧ fr'.k = fr.k := by
  unfold normFr at h
  split at h
  · cases h; exact ⟨L, FS.refl _ _ _ _ _ _, he, hst, rfl⟩
  · rename_i ks
    simp only [] at h
    generalize hns : reachL (Heap.at fr.H) 400 (List.range fr.k ++ V.namesL (maskFrom ks 0 fr.env)) [] = ns at h
    split at h
    case isFalse => cases h
    rename_i hc
    obtain ⟨hk, hn, hcl, hnd⟩ := hc
    cases h
    exact ⟨L.sub ns, FS.subH hk, ERel.ren (maskFrom_rel ks _ _ _ he) hn, hst.sub hnd (closedN_spec hcl), rfl⟩

/-! ### loops -/
/-- the loop, at its head -/
def LoopWp (P : Program) (c : Code) (Q : Exit → Act → World → Prop) (a : Act) (w : World) : Prop :=
  ∀ (b : Frame) (k : List Item) (cs : List Frame), ∃ e a' w', Q e a' w' ∧ Arrives P (lone (b.at a (.code c :: .inLoop c :: k)) cs w) b k cs e a' w'

theorem LoopWp.loop {c : Code} {Q : Exit → Act → World → Prop} {a : Act} {w : World} (h : LoopWp P c Q a w) : (Code.loop c).wp P Q a w :=
  fun b k cs => let ⟨e, a', w', q, r⟩ := h b k cs; ⟨e, a', w', q, .of_steps (.one step_loop) r⟩

theorem LoopWp.round {c : Code} {Q : Exit → Act → World → Prop} {a : Act} {w : World} (h : c.wp P (Exit.then (LoopWp P c Q) Q) a w) : LoopWp P c Q a w := by
  intro b k cs
  obtain ⟨e, a₁, w₁, hq, harr⟩ := h b (.inLoop c :: k) cs
  cases e with
  | normal =>
    obtain ⟨e₂, a₂, w₂, hq₂, harr₂⟩ := hq b k cs
    exact ⟨e₂, a₂, w₂, hq₂, .of_steps (Steps.trans harr (.one step_inLoop)) harr₂⟩
  | exit id => exact ⟨_, a₁, w₁, hq, .pass (x := .inLoop c) rfl (fun _ _ => .inl (by simp)) harr⟩
  | goto l => exact ⟨_, a₁, w₁, hq, .pass (x := .inLoop c) rfl (fun _ _ => .inl (by simp)) harr⟩
  | ret => exact ⟨_, a₁, w₁, hq, .pass (x := .inLoop c) rfl (fun _ _ => .inl (by simp)) harr⟩
  | panic ch => exact ⟨_, a₁, w₁, hq, .pass (x := .inLoop c) rfl (fun _ _ => .inl (by simp)) harr⟩
  | outgrown => exact ⟨_, a₁, w₁, hq, .pass (x := .inLoop c) rfl (fun _ _ => .inl (by simp)) harr⟩

/-! ### the body of a call -/
def resSem (tmps : Array Value) : ResultVar → Sem Value
  | .tmp t => pure (tmps.getD t undef)
  | .cell a t => do loadVar t (← asAddr (tmps.getD a undef))

theorem resultsA_sound {B : Nat → Prop} {L : Loc} {w : World} {fr : Fr} {tmps : Array Value} (hst : St B L w fr.H) (he : ERel B L w fr.env tmps) : ∀ (rs : List ResultVar) (vs : List V), resultsA P fr rs = some vs →
    ∃ us : List Value, (rs.mapM (resSem tmps)).run P w = .ok us w ∧ VRelL B L w vs us
  | [], vs, h => by simp [resultsA] at h; subst h; exact ⟨[], by simp, VRelL.nil⟩
  | .tmp t :: l, vs, h => by
    simp only [resultsA] at h
    split at h
    · rename_i v vs' hv hvs
      cases h
      obtain ⟨us, hus, hr⟩ := resultsA_sound hst he l vs' hvs
      have := he.get t
      rw [hv] at this
      exact ⟨_ :: us, by simp [List.mapM_cons, hus, resSem], VRelL.cons this hr⟩
    · cases h
  | .cell a t :: l, vs, h => by
    simp only [resultsA] at h
    split at h
    · rename_i av vs' hv hvs
      split at h
      · rename_i v hl
        cases h
        obtain ⟨us, hus, hr⟩ := resultsA_sound hst he l vs' hvs
        have hav := he.get a
        rw [hv] at hav
        obtain ⟨u, hu, hru⟩ := loadA_sound hst hav hl
        have hu' : (do loadVar t (← asAddr (tmps.getD a undef)) : Sem Value).run P w = .ok u w := by
          rw [← hu]
          simp only [Option.getD_some] at hav
          generalize tmps.getD a undef = q at hu
          unfold Instr.loadAt at hu ⊢
          cases q with
          | pointer p => cases p with
            | none => simp [Instr.sureAddr] at hu
            | some x => rfl
          | _ => simp [Instr.sureAddr] at hu
        have hr' : (resSem tmps (.cell a t)).run P w = .ok u w := hu'
        exact ⟨u :: us, by simp only [List.mapM_cons, Sem.run_bind, hr', Result.andThen_ok, hus]; rfl, VRelL.cons hru hr⟩
      · cases h
    · cases h

theorem results_run {B : Nat → Prop} {L : Loc} {w : World} {fr : Fr} {tmps : Array Value} {fn : Func} {vs : List V} (hst : St B L w fr.H) (he : ERel B L w fr.env tmps) (h : resultsA P fr fn.results.toList = some vs) :
    ∃ u, (results fn tmps).run P w = .ok u w ∧ VRel B L w (tupV vs) u := by
  obtain ⟨us, hus, hr⟩ := resultsA_sound hst he _ _ h
  have hm : (fn.results.mapM (resSem tmps)).run P w = .ok us.toArray w := by
    rw [Array.mapM_eq_mapM_toList]
    simp only [Sem.run_map, hus, Result.andThen_ok]
  have hrun : (results fn tmps).run P w = .ok (if h : us.toArray.size = 1 then us.toArray[0] else .tuple us.toArray) w := by
    have e : results fn tmps = (do let vs ← fn.results.mapM (resSem tmps); pure (if h : vs.size = 1 then vs[0] else .tuple vs)) := by
      unfold results
      congr 2
    rw [e, Sem.run_bind, hm]
    rfl
  refine ⟨_, hrun, ?_⟩
  cases vs with
  | nil =>
    have : us = [] := List.length_eq_zero_iff.1 (by have := hr.1; simp at this; omega)
    subst this
    exact .tup [] [] rfl (fun i x y hx => by simp at hx)
  | cons v vs =>
    cases us with
    | nil => have := hr.1; simp at this
    | cons u us =>
      cases vs with
      | nil =>
        have : us = [] := List.length_eq_zero_iff.1 (by have := hr.1; simp only [List.length_cons, List.length_nil] at this; omega)
        subst this
        exact hr.2 0 v u rfl rfl
      | cons v2 vs =>
        cases us with
        | nil => have := hr.1; simp at this
        | cons u2 us => exact .tup _ _ hr.1 hr.2

theorem finish_sound {pol : Pol} {f : FuncId} {B : Nat → Prop} {L : Loc} {w : World} {fr : Fr} {v r : V} {u : Value} {H' : Heap} (hst : St B L w fr.H) (hv : VRel B L w v u) (h : finish pol f fr v = some (r, H')) :
    ∃ B' L', FS fr.k B L w fr.H fr.mv B' L' w H' fr.mv ∧ St B' L' w H' ∧ VRel B' L' w r u := by
  unfold finish at h
  simp only [] at h
  obtain ⟨fr2, hfr2⟩ : ∃ fr2 : Fr, (if pol.keepR f = true then { fr with env := [v] } else ({ fr with env := [v] } : Fr).freezeAll (v.names.filter fun n => decide (fr.k ≤ n) && isArr (Heap.at fr.H n))) = fr2 := ⟨_, rfl⟩
  rw [hfr2] at h
  have he : ERel B L w ({ fr with env := [v] } : Fr).env #[u] := VRelL.cons hv VRelL.nil
  obtain ⟨B1, hfs1, he1, hst1, hk1⟩ : ∃ B1, FS fr.k B L w fr.H fr.mv B1 L w fr2.H fr2.mv ∧ ERel B1 L w fr2.env #[u] ∧ St B1 L w fr2.H ∧ fr2.k = fr.k := by
    rw [← hfr2]
    split
    · exact ⟨B, FS.refl _ _ _ _ _ _, he, hst, rfl⟩
    · exact Fr.freezeAll_sound (fr := { fr with env := [v] }) _ hst he
  have hmv : fr2.mv = fr.mv := by
    rw [← hfr2]
    split
    · rfl
    · have : ∀ (l : List Nat) (g : Fr), (g.freezeAll l).mv = g.mv := by
        intro l
        induction l with
        | nil => intro g; rfl
        | cons n l ih =>
          intro g
          rw [Fr.freezeAll, ih]
          unfold Fr.freeze
          split <;> rfl
      exact this _ _
  split at h
  case h_2 => cases h
  rename_i x hx
  generalize hns : reachL (Heap.at fr2.H) 200 (List.range fr.k ++ x.names) [] = ns at h
  split at h
  case isFalse => cases h
  rename_i hc
  obtain ⟨hk, hn, hcl, hnd⟩ := hc
  simp only [Option.some.injEq, Prod.mk.injEq] at h
  obtain ⟨rfl, rfl⟩ := h
  rw [hx] at he1
  have hxv : VRel B1 L w x u := he1.2 0 x u rfl rfl
  rw [hmv] at hfs1
  refine ⟨B1, L.sub ns, hfs1.trans (FS.subH hk), hst1.sub hnd (closedN_spec hcl), hxv.ren fun n hnn => L.sub_eq ?_⟩
  simp only [List.all_eq_true] at hn
  simpa using hn n hnn

theorem ExMatch.pan_inv {B : Nat → Prop} {L : Loc} {w : World} {v : V} {e : Exit} (h : ExMatch B L w (.pan v) e) : ∃ u, e = .panic [⟨u, false, false⟩] ∧ VRel B L w v u := by
  unfold ExMatch at h
  split at h
  · rename_i e1; cases e1
  · rename_i e1; cases e1
  · rename_i e1; cases e1
  · rename_i u e1; cases e1; exact ⟨_, rfl, h⟩
  · exact h.elim

theorem callBody_sound {Lp : LoopF} {Dr : Array Oper → Fr → Option (Ex × Fr)} (hNG : ∀ (f : Nat) (fn : Func), P.funcs[f]? = some fn → (fn.name == "runtime.NumGoroutine") = false) (hC : SoundC P G C) (hL : SoundL P G Lp) (hD : SoundD P G Dr)
    {f : FuncId} {args : List V} {H : Heap} {cr : CR} (h : callBody P G pol C Lp Dr f args H = some cr) : AbsCall P G f args H cr := by
  intro B L w vs hst ha hg
  unfold callBody at h
  split at h
  case h_2 => cases h
  rename_i fn hf
  split at h
  case h_2 => cases h
  rename_i c hb
  refine .inl ⟨?_, ?_⟩
  · have := hNG f fn hf
    have hne : fn.name ≠ "runtime.NumGoroutine" := by simpa using this
    simp [callFunc, hf, hne, hb]
  · refine calls_of_wp hf hb ?_
    have he : ERel B L w (args ++ List.replicate (fn.ntmps - args.length) V.junk) (vs.toArray ++ Array.replicate (fn.ntmps - vs.toArray.size) undef) := by
      have e : (vs.toArray ++ Array.replicate (fn.ntmps - vs.toArray.size) undef).toList = vs ++ List.replicate (fn.ntmps - args.length) undef := by
        rw [Array.toList_append, Array.toList_replicate, List.size_toArray, ha.1]
      unfold ERel
      rw [e]
      refine ha.append ⟨by simp, fun i x y hx _ => ?_⟩
      rw [List.getElem?_replicate] at hx
      split at hx
      · cases hx; exact .junk _
      · cases hx
    have fin : ∀ (ex : Ex) (fr : Fr), exec0 P G pol C Lp Dr c { env := args ++ List.replicate (fn.ntmps - args.length) V.junk, H := H, k := H.length, mv := [] } = some (ex, fr) →
        (∀ e a' w', EPost H.length B L w H [] [] ex fr e a' w' → bodyPost P fn (fun e w' => ∃ B' L', FS H.length B L w H [] B' L' w' cr.H cr.mv ∧ St B' L' w' cr.H ∧ OutRel B' L' w' cr.out e) e a' w') →
        c.wp P (bodyPost P fn (fun e w' => ∃ B' L', FS H.length B L w H [] B' L' w' cr.H cr.mv ∧ St B' L' w' cr.H ∧ OutRel B' L' w' cr.out e)) { tmps := vs.toArray ++ Array.replicate (fn.ntmps - vs.toArray.size) undef, defers := [] } w := by
      intro ex fr hex hpost
      exact exec0_sound hC hL hD c (fr := { env := args ++ List.replicate (fn.ntmps - args.length) V.junk, H := H, k := H.length, mv := [] }) hst he hg hex _ hpost
    have good : ∀ (ex : Ex) (fr : Fr), (ex = .normal ∨ ex = .ret) → (match resultsA P fr fn.results.toList with
          | some vs => match finish pol f fr (tupV vs) with
            | some (v, H') => some (⟨.ret v, H', fr.mv⟩ : CR)
            | none => none
          | none => none) = some cr → ∀ e a' w', EPost H.length B L w H [] [] ex fr e a' w' → bodyPost P fn (fun e w' => ∃ B' L', FS H.length B L w H [] B' L' w' cr.H cr.mv ∧ St B' L' w' cr.H ∧ OutRel B' L' w' cr.out e) e a' w' := by
      intro ex fr hor hres e a' w' hp
      obtain ⟨B1, L1, hfs, he1, hst1, hk1, hd1, hm1⟩ := hp
      split at hres
      case h_2 => cases hres
      rename_i vs' hvs'
      split at hres
      case h_2 => cases hres
      rename_i v H' hfin
      cases hres
      obtain ⟨u, hu, hru⟩ := results_run (fn := fn) hst1 he1 hvs'
      obtain ⟨B2, L2, hfs2, hst2, hr2⟩ := finish_sound hst1 hru hfin
      rw [hk1] at hfs2
      have hconc : a'.defers = [] ∧ ∃ v, (results fn a'.tmps).run P w' = .ok v w' ∧ ∃ B' L', FS H.length B L w H [] B' L' w' H' fr.mv ∧ St B' L' w' H' ∧ OutRel B' L' w' (.ret _) (.returned v) := ⟨hd1, u, hu, B2, L2, hfs.trans hfs2, hst2, hr2⟩
      rcases hor with rfl | rfl
      · cases e with
        | normal => exact hconc
        | _ => exact hm1.elim
      · cases e with
        | ret => exact hconc
        | _ => exact hm1.elim
    split at h
    · rename_i fr hex; exact fin _ _ hex (good _ _ (.inl rfl) h)
    · rename_i fr hex; exact fin _ _ hex (good _ _ (.inr rfl) h)
    · rename_i v fr hex
      refine fin _ _ hex fun e a' w' hp => ?_
      obtain ⟨B1, L1, hfs, he1, hst1, hk1, hd1, hm1⟩ := hp
      split at h
      case h_2 => cases h
      rename_i r H' hfin
      cases h
      obtain ⟨u, rfl, hu⟩ := ExMatch.pan_inv hm1
      obtain ⟨B2, L2, hfs2, hst2, hr2⟩ := finish_sound hst1 hu hfin
      rw [hk1] at hfs2
      exact ⟨hd1, B2, L2, hfs.trans hfs2, hst2, hr2⟩
    · cases h

/-! ### all together -/
def SoundDG (P : Program) (G : Nat → Option PV) (Dr : DrawG) : Prop := ∀ C, SoundC P G C → SoundD P G (Dr C)

theorem exN_sound {prim : CallF} {Dr : DrawG} (hNG : ∀ (f : Nat) (fn : Func), P.funcs[f]? = some fn → (fn.name == "runtime.NumGoroutine") = false) (hp : SoundC P G prim) (hD : SoundDG P G Dr) : ∀ n,
    SoundC P G (exN P G pol prim Dr n).1 ∧ ∀ f (b : Code) {B : Nat → Prop} {L : Loc} {w : World} {fr fr' : Fr} {ex : Ex} {a : Act}, St B L w fr.H → ERel B L w fr.env a.tmps → GOk G B w → (exN P G pol prim Dr n).2 f b fr = some (ex, fr') →
      ∀ Q : Exit → Act → World → Prop, (∀ e a' w', EPost fr.k B L w fr.H fr.mv a.defers ex fr' e a' w' → Q e a' w') → LoopWp P b Q a w
  | 0 => by
    refine ⟨fun f args H cr h => ?_, fun f b B L w fr fr' ex a _ _ _ h => ?_⟩
    · cases h
    · cases h
  | n + 1 => by
    obtain ⟨ihC, ihL⟩ := exN_sound hNG hp hD n
    have hL : ∀ f, SoundL P G ((exN P G pol prim Dr n).2 f) := fun f b B L w fr fr' ex a hst he hg h Q hQ => (ihL f b hst he hg h Q hQ).loop
    refine ⟨fun f args H cr h => ?_, fun f b B L w fr fr' ex a hst he hg h Q hQ => ?_⟩
    · simp only [exN] at h
      split at h
      · rename_i r hr; cases h; exact hp f args H _ hr
      · exact callBody_sound hNG ihC (hL f) (hD _ ihC) h
    · simp only [exN] at h
      split at h
      · cases h
      rename_i fr0 hn
      obtain ⟨L0, hfs0, he0, hst0, hk0⟩ := normFr_sound hst he hn
      have hg0 := hg.step (hfs0.step hst)
      refine LoopWp.round ?_
      cases hx : exec0 P G pol (exN P G pol prim Dr n).1 ((exN P G pol prim Dr n).2 f) (Dr (exN P G pol prim Dr n).1) b fr0 with
      | none => rw [hx] at h; cases h
      | some p =>
        obtain ⟨ex1, fr1⟩ := p
        rw [hx] at h
        refine exec0_sound ihC (hL f) (hD _ ihC) b hst0 he0 hg0 hx _ fun e a1 w1 hp1 => ?_
        rw [hk0] at hp1
        have hp2 := EPost.trans hfs0 hp1
        cases ex1 with
        | normal =>
          simp only [] at h
          obtain ⟨B1, L1, hfs1, he1, hst1, hk1, hd1, hm1⟩ := hp2
          cases e with
          | normal =>
            refine ihL f b hst1 he1 (hg.step (hfs1.step hst)) h Q fun e a2 w2 hp3 => hQ e a2 w2 ?_
            rw [hk1, hd1] at hp3
            exact EPost.trans hfs1 hp3
          | _ => exact hm1.elim
        | _ =>
          simp only [Option.some.injEq, Prod.mk.injEq] at h
          obtain ⟨rfl, rfl⟩ := h
          cases e with
          | normal => obtain ⟨_, _, _, _, _, _, _, hm1⟩ := hp2; exact hm1.elim
          | _ => exact hQ _ _ _ hp2

end
end Go.Am
end

section
namespace Go.Am
open Go

/-- e' is e, but that some slots of X are not told -/
def Like (X : Nat → Prop) (e e' : List V) : Prop := e.length = e'.length ∧ ∀ x v, e[x]? = some v → e'[x]? = some v ∨ (X x ∧ e'[x]? = some .junk)

theorem Like.refl (X : Nat → Prop) (e : List V) : Like X e e := ⟨rfl, fun _ _ h => .inl h⟩

theorem Like.mono {X Y : Nat → Prop} {e e' : List V} (h : Like X e e') (hs : ∀ x, X x → Y x) : Like Y e e' :=
  ⟨h.1, fun x v hx => (h.2 x v hx).imp id fun ⟨a, b⟩ => ⟨hs _ a, b⟩⟩

theorem Like.map {X : Nat → Prop} {e e' : List V} (h : Like X e e') (f : V → V) (hf : f .junk = .junk) : Like X (e.map f) (e'.map f) := by
  refine ⟨by simp [h.1], fun x v hx => ?_⟩
  simp only [List.getElem?_map, Option.map_eq_some_iff] at hx
  obtain ⟨u, hu, rfl⟩ := hx
  rcases h.2 x u hu with h1 | ⟨h1, h2⟩
  · exact .inl (by simp [h1])
  · exact .inr ⟨h1, by simp [h2, hf]⟩

theorem Like.set {X : Nat → Prop} {e e' : List V} (h : Like X e e') (d : Nat) (v : V) : Like (fun x => X x ∧ x ≠ d) (e.set d v) (e'.set d v) := by
  refine ⟨by simp [h.1], fun x u hx => ?_⟩
  rw [List.getElem?_set] at hx ⊢
  split at hx
  · rename_i hd
    subst hd
    rw [if_pos rfl]
    split at hx
    · rename_i hl
      rw [if_pos (by rw [← h.1]; exact hl)]
      exact .inl hx
    · cases hx
  · rename_i hd
    rw [if_neg hd]
    rcases h.2 x u hx with h1 | ⟨h1, h2⟩
    · exact .inl h1
    · exact .inr ⟨⟨h1, fun e => hd e.symm⟩, h2⟩

def Minus (X : Nat → Prop) (dst : Option Tmp) : Nat → Prop := fun x => X x ∧ dst ≠ some x

theorem Like.putO {X : Nat → Prop} {e e' : List V} (h : Like X e e') (dst : Option Tmp) (v : V) : Like (Minus X dst) (putO e dst v) (putO e' dst v) := by
  cases dst with
  | none => exact h.mono fun x hx => ⟨hx, by simp⟩
  | some d => exact (h.set d v).mono fun x hx => ⟨hx.1, fun e => hx.2 (Option.some.inj e).symm⟩

theorem Like.evalO {G : Nat → Option PV} {X : Nat → Prop} {e e' : List V} (h : Like X e e') {x : Operand} (hx : ∀ t, x = .tmp t → ¬ X t) : evalO G e' x = evalO G e x := by
  cases x with
  | tmp t =>
    have hx := hx t rfl
    simp only [Go.Am.evalO]
    cases ht : e[t]? with
    | none =>
      have : e'[t]? = none := by rw [List.getElem?_eq_none_iff] at ht ⊢; rw [← h.1]; exact ht
      rw [this]
    | some v =>
      rcases h.2 t v ht with h1 | ⟨h1, _⟩
      · rw [h1]
      · exact (hx h1).elim
  | _ => rfl

theorem Like.get {X : Nat → Prop} {e e' : List V} (h : Like X e e') {t : Nat} (hx : ¬ X t) : e'[t]? = e[t]? := by
  cases ht : e[t]? with
  | none => rw [List.getElem?_eq_none_iff] at ht ⊢; rw [← h.1]; exact ht
  | some v => exact (h.2 t v ht).resolve_right fun h' => hx h'.1

theorem Like.mem {X : Nat → Prop} {e e' : List V} (h : Like X e e') {v : V} (hv : v ∈ e') : v ∈ e ∨ v = .junk := by
  obtain ⟨i, hi⟩ := List.getElem?_of_mem hv
  have hl : i < e.length := by rw [h.1]; exact (List.getElem?_eq_some_iff.1 hi).1
  rcases h.2 i e[i] (by simp [hl]) with h1 | ⟨_, h1⟩
  · rw [hi] at h1; cases h1; exact .inl (by simp)
  · rw [hi] at h1; cases h1; exact .inr rfl

/-- what is related to a frame told whole is related to the frame told in part -/
theorem Like.rel {X : Nat → Prop} {e e' : List V} {B : Nat → Prop} {L : Loc} {w : World} {tmps : Array Value} (h : Like X e e') (hr : ERel B L w e tmps) : ERel B L w e' tmps := by
  refine ⟨by rw [← h.1]; exact hr.1, fun i x y hx hy => ?_⟩
  have hl : i < e.length := by rw [h.1]; exact (List.getElem?_eq_some_iff.1 hx).1
  rcases h.2 i e[i] (by simp [hl]) with h1 | ⟨_, h1⟩
  · rw [hx] at h1; cases h1; exact hr.2 i _ y (by simp [hl]) hy
  · rw [hx] at h1; cases h1; exact .junk _

def Fr.envd (fr : Fr) (e : List V) : Fr := { fr with env := e }

theorem Like.fresh {X : Nat → Prop} {fr : Fr} {e' : List V} (h : Like X fr.env e') {n : Nat} (hf : fr.fresh n = true) : (fr.envd e').fresh n = true := by
  unfold Fr.fresh at *
  simp only [Bool.and_eq_true, Bool.not_eq_true', Fr.envd] at hf ⊢
  refine ⟨?_, hf.2⟩
  rw [List.any_eq_false] at hf ⊢
  intro v hv
  rcases h.mem hv with h1 | rfl
  · exact hf.1 v h1
  · simp [V.has, V.names]

theorem kill_junk (n : Nat) : V.kill n .junk = .junk := by simp [V.kill]
theorem frz_junk (n : Nat) (es : List PV) : V.frz n es .junk = .junk := by simp [V.frz]

theorem freeze_like {X : Nat → Prop} {fr : Fr} {e' : List V} (h : Like X fr.env e') (n : Nat) : ∃ e1, (fr.envd e').freeze n = (fr.freeze n).envd e1 ∧ Like X (fr.freeze n).env e1 := by
  unfold Fr.freeze
  have hH : (fr.envd e').H = fr.H := rfl
  rw [hH]
  cases ho : Heap.at fr.H n with
  | arr ty sz es => exact ⟨e'.map (V.frz n es), rfl, h.map _ (frz_junk _ _)⟩
  | _ => exact ⟨e', rfl, h⟩

theorem freezeAll_like {X : Nat → Prop} : ∀ (l : List Nat) {fr : Fr} {e' : List V} (_ : Like X fr.env e'), ∃ e1, (fr.envd e').freezeAll l = (fr.freezeAll l).envd e1 ∧ Like X (fr.freezeAll l).env e1
  | [], fr, e', h => ⟨e', rfl, h⟩
  | n :: l, fr, e', h => by
    obtain ⟨e1, h1, h2⟩ := freeze_like h n
    obtain ⟨e2, h3, h4⟩ := freezeAll_like l h2
    exact ⟨e2, by rw [Fr.freezeAll, h1, h3]; rfl, h4⟩

theorem eff_like {X : Nat → Prop} {fr fr1 : Fr} {e' : List V} {base : Nat} {eff : Eff} (h : Like X fr.env e') (he : fr.eff base eff = some fr1) : ∃ e1, (fr.envd e').eff base eff = some (fr1.envd e1) ∧ Like X fr1.env e1 := by
  cases eff with
  | none => simp only [Fr.eff, Option.some.injEq] at he; subst he; exact ⟨e', rfl, h⟩
  | new o =>
    simp only [Fr.eff] at he
    split at he
    · rename_i hc
      cases he
      refine ⟨e', ?_, h⟩
      simp only [Fr.eff]
      rw [if_pos ⟨h.fresh hc.1, hc.2⟩]
      rfl
    · cases he
  | upd n o => simp only [Fr.eff, Option.some.injEq] at he; subst he; exact ⟨e', rfl, h⟩
  | repoint n o => simp only [Fr.eff, Option.some.injEq] at he; subst he; exact ⟨e'.map (V.kill n), rfl, h.map _ (kill_junk n)⟩

theorem killAll_like {X : Nat → Prop} : ∀ (l : List Nat) {e e' : List V} (_ : Like X e e'), Like X (killAll l e) (killAll l e')
  | [], _, _, h => h
  | n :: l, _, _, h => killAll_like l (h.map _ (kill_junk n))

theorem callS_like {X : Nat → Prop} {C : CallF} {fr fr1 : Fr} {e' : List V} {f : FuncId} {args : List V} {out : Out} (h : Like X fr.env e') (hc : callS C fr f args = some (out, fr1)) :
    ∃ e1, callS C (fr.envd e') f args = some (out, fr1.envd e1) ∧ Like X fr1.env e1 := by
  unfold callS at hc ⊢
  simp only [] at hc ⊢
  have hH : (fr.envd e').H = fr.H := rfl
  have hk : (fr.envd e').k = fr.k := rfl
  have hm : (fr.envd e').mv = fr.mv := rfl
  rw [hH, hk, hm]
  generalize reachL (Heap.at fr.H) 200 (V.namesL args) [] = ns at hc ⊢
  split at hc
  case isFalse => cases hc
  rename_i h1
  rw [if_pos h1]
  split at hc
  case h_2 => cases hc
  rename_i cr hcr
  split at hc
  case isFalse => cases hc
  rename_i h2
  obtain ⟨a1, a2, a3, a4, a5, a6⟩ := h2
  cases hc
  have a2' : ((List.range (cr.H.length - ns.length)).all fun j => (fr.envd e').fresh (fr.H.length + j) && !(ns.contains (fr.H.length + j))) = true := by
    simp only [List.all_eq_true, Bool.and_eq_true] at a2 ⊢
    exact fun x hx => ⟨h.fresh (a2 x hx).1, (a2 x hx).2⟩
  rw [if_pos ⟨a1, a2', a3, a4, a5, a6⟩]
  exact ⟨_, rfl, killAll_like _ h⟩

theorem callOp_like {G : Nat → Option PV} {pol : Pol} {C : CallF} {X : Nat → Prop} {fr fr1 : Fr} {e' : List V} {g : Operand} {args : List Operand} {dst : Option Tmp} {ex : Ex} (h : Like X fr.env e') (hg : ∀ t, g = .tmp t → ¬ X t) (ha : ∀ x ∈ args, ∀ t, x = .tmp t → ¬ X t)
    (hc : callOp G pol C fr g args dst = some (ex, fr1)) :
    ∃ e1, callOp G pol C (fr.envd e') g args dst = some (ex, fr1.envd e1) ∧ Like X fr1.env e1 ∧ (ex = .normal → Like (Minus X dst) fr1.env e1) := by
  have hmap : ∀ (f : Fr) (e2 : List V), Like X f.env e2 → args.map (evalO G e2) = args.map (evalO G f.env) := fun f e2 h2 => List.map_congr_left fun x hx => h2.evalO (ha x hx)
  unfold callOp at hc ⊢
  have h0 : evalO G (fr.envd e').env g = evalO G fr.env g := h.evalO hg
  have h0' : args.map (evalO G (fr.envd e').env) = args.map (evalO G fr.env) := hmap fr e' h
  rw [h0, h0']
  split at hc
  case h_1 => cases hc
  rename_i f cap htv
  simp only [] at hc ⊢
  have key : ∀ (fr1' : Fr), (if pol.byref f = true then fr else fr.freezeAll ((V.namesL (args.map (evalO G fr.env) ++ cap)).filter fun n => isArr (Heap.at fr.H n))) = fr1' →
      ∃ e1, (if pol.byref f = true then fr.envd e' else (fr.envd e').freezeAll ((V.namesL (args.map (evalO G fr.env) ++ cap)).filter fun n => isArr (Heap.at (fr.envd e').H n))) = fr1'.envd e1 ∧ Like X fr1'.env e1 := by
    rintro _ rfl
    split
    · exact ⟨e', rfl, h⟩
    · exact freezeAll_like _ h
  generalize hf1 : (if pol.byref f = true then fr else fr.freezeAll ((V.namesL (args.map (evalO G fr.env) ++ cap)).filter fun n => isArr (Heap.at fr.H n))) = fra at hc
  obtain ⟨e1, hk1, hk2⟩ := key fra hf1
  rw [hk1]
  have h1 : evalO G (fra.envd e1).env g = evalO G fra.env g := hk2.evalO hg
  have h1' : args.map (evalO G (fra.envd e1).env) = args.map (evalO G fra.env) := hmap fra e1 hk2
  rw [h1, h1']
  split at hc
  case h_1 => cases hc
  rename_i f' cap' htv'
  split at hc
  · rename_i v fr' hcs
    obtain ⟨e2, h2, h3⟩ := callS_like hk2 hcs
    cases hc
    rw [h2]
    refine ⟨putO e2 dst v, rfl, ?_, fun _ => h3.putO dst v⟩
    exact (h3.putO dst v).mono fun x hx => hx.1
  · rename_i v fr' hcs
    obtain ⟨e2, h2, h3⟩ := callS_like hk2 hcs
    cases hc
    rw [h2]
    exact ⟨e2, rfl, h3, fun e => by cases e⟩
  · cases hc

/-! ### what an operation looks at -/
theorem evp_congr {ev ev' : Operand → V} (ps : List (Nat × Operand)) (h : ∀ p ∈ ps, ev p.2 = ev' p.2) : (ps.map fun p => (p.1, ev p.2)) = ps.map fun p => (p.1, ev' p.2) :=
  List.map_congr_left fun p hp => by rw [h p hp]

theorem aop_congr {P : Program} {H : Nat → HO} {base : Nat} {ev ev' : Operand → V} (op : Op) (h : ∀ x ∈ op.operands, ev x = ev' x) : aop P H base ev op = aop P H base ev' op := by
  cases op with
  | build t ps =>
    have hp : ∀ p ∈ ps.toList, ev p.2 = ev' p.2 := fun p hp => h _ (by simp only [Op.operands, List.mem_toArray, List.mem_map]; exact ⟨p, hp, rfl⟩)
    have e1 : (ps.toList.all fun p => !(ev p.2).isJunk) = ps.toList.all fun p => !(ev' p.2).isJunk := by
      rw [Bool.eq_iff_iff, List.all_eq_true, List.all_eq_true]
      exact ⟨fun g p hq => by rw [← hp p hq]; exact g p hq, fun g p hq => by rw [hp p hq]; exact g p hq⟩
    simp only [aop, e1, evp_congr _ hp]
  | buildSlice t n ps =>
    have hp : ∀ p ∈ ps.toList, ev p.2 = ev' p.2 := fun p hp => h _ (by simp only [Op.operands, List.mem_toArray, List.mem_map]; exact ⟨p, hp, rfl⟩)
    simp only [aop, evp_congr _ hp]
  | makeFunc f first cs =>
    have e1 : cs.toList.map ev = cs.toList.map ev' := List.map_congr_left fun x hx => h x (by simp only [Op.operands, Array.mem_append]; exact .inr (by simpa using hx))
    cases f <;> simp only [aop, e1]
  | slice t x lo hi mx =>
    have hx : ev x = ev' x := h _ (by simp [Op.operands])
    have e1 : lo.map ev = lo.map ev' := by cases lo with
      | none => rfl
      | some y => simp [h y (by simp [Op.operands])]
    have e2 : hi.map ev = hi.map ev' := by cases hi with
      | none => rfl
      | some y => simp [h y (by simp [Op.operands])]
    have e3 : mx.map ev = mx.map ev' := by cases mx with
      | none => rfl
      | some y => simp [h y (by simp [Op.operands])]
    simp only [aop, hx, e1, e2, e3]
  | call c =>
    obtain ⟨callee, args, ts⟩ := c
    have ha : ∀ x ∈ args.toList, ev x = ev' x := fun x hx => h _ (by simp only [Op.operands, Call.operands, Array.mem_append]; exact .inr (by simpa using hx))
    cases callee with
    | builtin b =>
      cases b <;> try rfl
      all_goals
        simp only [aop]
        generalize args.toList = l at ha ⊢
        rcases l with _ | ⟨x, _ | ⟨y, _ | ⟨z, r⟩⟩⟩ <;> try rfl
        all_goals
          simp at ha
          first
            | (simp [ha]; done)
            | (generalize ts.toList = tl
               rcases tl with _ | ⟨t1, _ | ⟨t2, _ | ⟨t3, r⟩⟩⟩ <;> simp [ha])
    | _ => rfl
  | _ =>
    simp only [Op.operands] at h
    simp (discharger := simp) only [aop, h]

theorem aopX_congr {P : Program} {H : Nat → HO} {ev ev' : Operand → V} (op : Op) (h : ∀ x ∈ op.operands, ev x = ev' x) : aopX P H ev op = aopX P H ev' op := by
  cases op with
  | call c =>
    obtain ⟨callee, args, ts⟩ := c
    have ha : ∀ x ∈ args.toList, ev x = ev' x := fun x hx => h _ (by simp only [Op.operands, Call.operands, Array.mem_append]; exact .inr (by simpa using hx))
    cases callee with
    | builtin b =>
      cases b <;> try rfl
      all_goals
        simp only [aopX]
        generalize args.toList = l at ha ⊢
        rcases l with _ | ⟨x, _ | ⟨y, _ | ⟨z, r⟩⟩⟩ <;> try rfl
        all_goals
          simp at ha
          first
            | (simp [ha]; done)
            | (generalize ts.toList = tl
               rcases tl with _ | ⟨t1, _ | ⟨t2, _ | ⟨t3, r⟩⟩⟩ <;> simp [ha])
    | _ => rfl
  | binOp o t x y yt =>
    have h1 : ev x = ev' x := h _ (by simp [Op.operands])
    have h2 : ev y = ev' y := h _ (by simp [Op.operands])
    simp only [aopX, h1, h2]
  | convert a b x =>
    have h1 : ev x = ev' x := h _ (by simp [Op.operands])
    simp only [aopX, h1]
  | _ => rfl

theorem aopA_congr {P : Program} {H : Nat → HO} {base : Nat} {ev ev' : Operand → V} (op : Op) (h : ∀ x ∈ op.operands, ev x = ev' x) : aopA P H base ev op = aopA P H base ev' op := by
  unfold aopA
  rw [aop_congr op h, aopX_congr op h]

end Go.Am
end

section
namespace Go.Am
open Go

mutual
def PV.beq : PV → PV → Bool
  | .bool a, .bool b => a == b
  | .int k n, .int j m => decide (k = j) && decide (n = m)
  | .str a, .str b => a == b
  | .agg a, .agg b => PV.beqL a b
  | .lst e a, .lst f b => e == f && PV.beqL a b
  | .tup a, .tup b => PV.beqL a b
  | .nilptr, .nilptr => true
  | .nilmap, .nilmap => true
  | .nilfunc, .nilfunc => true
  | .nili, .nili => true
  | .fn (.func f), .fn (.func g) => decide (f = g)
  | .iface t a, .iface u b => decide (t = u) && PV.beq a b
  | .cptr a, .cptr b => PV.beq a b
  | _, _ => false
def PV.beqL : List PV → List PV → Bool
  | [], [] => true
  | x :: a, y :: b => PV.beq x y && PV.beqL a b
  | _, _ => false
end

mutual
theorem PV.beq_eq : ∀ (a b : PV), PV.beq a b = true → a = b
  | .bool a, b, h => by cases b <;> simp_all [PV.beq]
  | .int k n, b, h => by cases b <;> simp_all [PV.beq]
  | .str a, b, h => by cases b <;> simp_all [PV.beq]
  | .agg a, b, h => by
    cases b <;> try (simp [PV.beq] at h; done)
    rename_i b
    simp only [PV.beq] at h
    rw [PV.beqL_eq a b h]
  | .lst e a, b, h => by
    cases b <;> try (simp [PV.beq] at h; done)
    rename_i f b
    simp only [PV.beq, Bool.and_eq_true, beq_iff_eq] at h
    rw [PV.beqL_eq a b h.2, h.1]
  | .tup a, b, h => by
    cases b <;> try (simp [PV.beq] at h; done)
    rename_i b
    simp only [PV.beq] at h
    rw [PV.beqL_eq a b h]
  | .nilptr, b, h => by cases b <;> simp_all [PV.beq]
  | .nilmap, b, h => by cases b <;> simp_all [PV.beq]
  | .nilfunc, b, h => by cases b <;> simp_all [PV.beq]
  | .nili, b, h => by cases b <;> simp_all [PV.beq]
  | .fn f, b, h => by
    cases f <;> cases b <;> try (simp [PV.beq] at h; done)
    rename_i f g
    cases g <;> simp_all [PV.beq]
  | .iface t a, b, h => by
    cases b <;> try (simp [PV.beq] at h; done)
    rename_i u b
    simp only [PV.beq, Bool.and_eq_true, decide_eq_true_eq] at h
    rw [PV.beq_eq a b h.2, h.1]
  | .cptr a, b, h => by
    cases b <;> try (simp [PV.beq] at h; done)
    rename_i b
    simp only [PV.beq] at h
    rw [PV.beq_eq a b h]
theorem PV.beqL_eq : ∀ (a b : List PV), PV.beqL a b = true → a = b
  | [], b, h => by cases b <;> simp_all [PV.beqL]
  | x :: a, b, h => by
    cases b <;> try (simp [PV.beqL] at h; done)
    rename_i y b
    simp only [PV.beqL, Bool.and_eq_true] at h
    rw [PV.beq_eq x y h.1, PV.beqL_eq a b h.2]
end

mutual
def V.beq : V → V → Bool
  | .p a, .p b => PV.beq a b
  | .ptr n o, .ptr m o2 => decide (n = m) && decide (o = o2)
  | .eptr n i o, .eptr m j o2 => decide (n = m) && decide (i = j) && decide (o = o2)
  | .sl n o l, .sl m o2 k => decide (n = m) && decide (o = o2) && decide (l = k)
  | .mapr n, .mapr m => decide (n = m)
  | .func (.func f) a, .func (.func g) b => decide (f = g) && V.beqL a b
  | .agg a, .agg b => V.beqL a b
  | .tup a, .tup b => V.beqL a b
  | .iface t a, .iface u b => decide (t = u) && V.beq a b
  | .junk, .junk => true
  | _, _ => false
def V.beqL : List V → List V → Bool
  | [], [] => true
  | x :: a, y :: b => V.beq x y && V.beqL a b
  | _, _ => false
end

mutual
theorem V.beq_eq : ∀ (a b : V), V.beq a b = true → a = b
  | .p a, b, h => by
    cases b <;> try (simp [V.beq] at h; done)
    rename_i b
    simp only [V.beq] at h
    rw [PV.beq_eq a b h]
  | .ptr n o, b, h => by cases b <;> simp_all [V.beq]
  | .eptr n i o, b, h => by cases b <;> simp_all [V.beq]
  | .sl n o l, b, h => by cases b <;> simp_all [V.beq]
  | .mapr n, b, h => by cases b <;> simp_all [V.beq]
  | .func f a, b, h => by
    cases f <;> cases b <;> try (simp [V.beq] at h; done)
    rename_i f g b
    cases g <;> try (simp [V.beq] at h; done)
    simp only [V.beq, Bool.and_eq_true, decide_eq_true_eq] at h
    rw [V.beqL_eq a b h.2, h.1]
  | .agg a, b, h => by
    cases b <;> try (simp [V.beq] at h; done)
    rename_i b
    simp only [V.beq] at h
    rw [V.beqL_eq a b h]
  | .tup a, b, h => by
    cases b <;> try (simp [V.beq] at h; done)
    rename_i b
    simp only [V.beq] at h
    rw [V.beqL_eq a b h]
  | .iface t a, b, h => by
    cases b <;> try (simp [V.beq] at h; done)
    rename_i u b
    simp only [V.beq, Bool.and_eq_true, decide_eq_true_eq] at h
    rw [V.beq_eq a b h.2, h.1]
  | .junk, b, h => by cases b <;> simp_all [V.beq]
theorem V.beqL_eq : ∀ (a b : List V), V.beqL a b = true → a = b
  | [], b, h => by cases b <;> simp_all [V.beqL]
  | x :: a, b, h => by
    cases b <;> try (simp [V.beqL] at h; done)
    rename_i y b
    simp only [V.beqL, Bool.and_eq_true] at h
    rw [V.beq_eq x y h.1, V.beqL_eq a b h.2]
end

/-- which operations stand ahead: a number, a bit an operation -/
def aheadM (tab : List Nat) : List Edge → Nat
  | [] => 0
  | e :: l => if Region.binds .any e = true then (1 <<< e.on) ||| ((tab[e.on]?).getD 0) ||| aheadM tab l else aheadM tab l

def ancTab : List Oper → List Nat → List Nat
  | [], tab => tab
  | o :: l, tab => ancTab l (tab ++ [aheadM tab o.after.toList])

/-- i stands ahead of j -/
def isAnc (tab : List Nat) (i j : Nat) : Bool := ((tab[j]?).getD 0).testBit i

def simpleK (P : Program) (bs : Bool) : Op → Bool
  | .move _ | .assign _ | .pick _ _ _ | .load _ _ | .nilCheck _ | .binOp _ _ _ _ _ | .unOp _ _ _ | .slice _ _ _ _ _ | .fieldAddr _ _ _ | .field _ _ _ | .indexAddr _ _ _ | .index _ _ _ | .extract _ _ | .build _ _ => true
  | .makeFunc _ _ _ => true
  | .buildSlice _ _ _ => bs
  | .convert _ b _ => match P.underlying b with
    | some (.slice _) => false
    | some _ => true
    | none => false
  | .call ⟨.builtin .unsafeSliceData, _, _⟩ => true
  | .call ⟨.builtin .len, _, _⟩ | .call ⟨.builtin .min, _, _⟩ | .call ⟨.builtin .max, _, _⟩ => true
  | _ => false

def slotOf (ops : Array Oper) (i : Nat) : Option Nat := (ops[i]?).bind (·.dst)

def isSimple (P : Program) (bs : Bool) (ops : Array Oper) (tab : List Nat) (i : Nat) : Bool :=
  match ops[i]? with
  | none => false
  | some o => simpleK P bs o.op && match o.dst with
    | none => false
    | some d => (List.range ops.size).all fun j => match ops[j]? with
      | none => true
      | some p => if (Oper.looksAt ops p).contains d || (j != i && p.dst == some d) then isAnc tab i j else true

def maskOf : List Nat → Nat
  | [] => 0
  | c :: l => (1 <<< c) ||| maskOf l

abbrev OneF := Nat → Fr → Option (Ex × Fr)

def eagerL (one : OneF) (ops : Array Oper) : List Nat → Fr → Option Fr
  | [], fr => some fr
  | i :: l, fr => match one i fr, slotOf ops i with
    | some (.normal, fr'), some d => match fr'.env[d]? with
      | some v => eagerL one ops l { fr with env := fr.env.set d v }
      | none => none
    | _, _ => none

def idem (one : OneF) (ops : Array Oper) (F : Fr) (i : Nat) : Bool :=
  match one i F, slotOf ops i with
  | some (.normal, fr'), some d => match fr'.env[d]?, F.env[d]? with
    | some v, some u => V.beq v u
    | _, _ => false
  | _, _ => false

/-- simple operations: none of the rest stands ahead -/
def isNow (tab : List Nat) (rm : Nat) (i : Nat) : Bool := ((tab[i]?).getD 0) &&& rm == 0

def settle (one : OneF) (ops : Array Oper) (tab simples rest : List Nat) (past : Nat) (todo : List Nat) (fr : Fr) : Option Fr :=
  match eagerL one ops (todo.filter (isNow tab (maskOf rest))) fr with
  | some F => if simples.all (fun i => if isNow tab (maskOf rest) i = true ∧ past.testBit i = false then idem one ops F i else true) = true then some F else none
  | none => none

def drawGo (one : OneF) (ops : Array Oper) (tab simples : List Nat) : List Nat → Nat → List Nat → Fr → Option (Ex × Fr)
  | [], past, todo, fr => match settle one ops tab simples [] past todo fr with
    | some F => some (.normal, F)
    | none => none
  | c :: rest, past, todo, fr => match settle one ops tab simples (c :: rest) past todo fr with
    | some F => match one c F with
      | some (.normal, F') => drawGo one ops tab simples rest (past ||| ((tab[c]?).getD 0)) (todo.filter fun i => !isNow tab (maskOf (c :: rest)) i) F'
      | some (.pan v, F') => some (.pan v, { F' with env := F'.env.map fun _ => .junk })
      | _ => none
    | none => none

def chainOk (tab : List Nat) : List Nat → Bool
  | c :: d :: l => isAnc tab c d && chainOk tab (d :: l)
  | _ => true

def backOk (ops : Array Oper) : Bool := (List.range ops.size).all fun i => match ops[i]? with
  | none => true
  | some o => o.after.toList.all fun e => !(Region.binds .any e) || decide (e.on < i)

/-- a slice's literal that is never written to -/
def fixedB (P : Program) (G : Nat → Option PV) (o : Oper) (fr : Fr) : Option (Ex × Fr) :=
  match o.op, o.guard, o.dst with
  | .buildSlice t len parts, none, some d =>
    match aop P (Heap.at fr.H) fr.H.length (evalO G fr.env) (.buildSlice t len parts) with
    | some ⟨.sl b 0 n, .new (.arr _ _ es)⟩ => if (b = fr.H.length ∧ n = es.length) ∧ fr.fresh fr.H.length = true ∧ fr.k ≤ fr.H.length then some (.normal, { fr with env := fr.env.set d (.p (.lst false es)) }) else none
    | _ => none
  | _, _, _ => none

def isBuildS : Op → Bool
  | .buildSlice _ _ _ => true
  | _ => false

/-- one operation of a region that may come in any order -/
def oneA (P : Program) (G : Nat → Option PV) (pol : Pol) (bs : Bool) (C : CallF) (ops : Array Oper) (i : Nat) (fr : Fr) : Option (Ex × Fr) :=
  match ops[i]? with
  | some o => if bs = true ∧ isBuildS o.op = true then fixedB P G o fr else runOps P G pol C ops [i] fr
  | none => none

def drawB (P : Program) (G : Nat → Option PV) (pol : Pol) (bs : Bool) : DrawG := fun C ops fr =>
  let tab := ancTab ops.toList []
  let simples := (List.range ops.size).filter (isSimple P bs ops tab)
  let chain := (List.range ops.size).filter (fun i => !isSimple P bs ops tab i)
  if backOk ops = true ∧ chainOk tab chain = true then drawGo (oneA P G pol bs C ops) ops tab simples chain 0 simples fr else none

def drawA (P : Program) (G : Nat → Option PV) (pol : Pol) : DrawG := fun C ops fr =>
  match drawB P G pol false C ops fr with
  | some r => some r
  | none => drawB P G pol true C ops fr

end Go.Am
end

section
namespace Go.Am
open Go

section
variable {P : Program} {G : Nat → Option PV} {pol : Pol} {C : CallF}

theorem opX {X : Nat → Prop} {o : Oper} (h : ∀ t ∈ (o.op.operands.toList.filterMap fun | .tmp t => some t | _ => none), ¬ X t) : ∀ x ∈ o.op.operands, ∀ t, x = .tmp t → ¬ X t := by
  intro x hx t ht
  subst ht
  refine h t ?_
  rw [List.mem_filterMap]
  exact ⟨.tmp t, by simpa using hx, rfl⟩

theorem preNames_congr {ev ev' : Operand → V} (op : Op) (h : ∀ x ∈ op.operands, ev x = ev' x) : preNames ev op = preNames ev' op := by
  cases op with
  | buildSlice t n ps =>
    have hp : ∀ p ∈ ps.toList, ev p.2 = ev' p.2 := fun p hp => h _ (by simp only [Op.operands, List.mem_toArray, List.mem_map]; exact ⟨p, hp, rfl⟩)
    have e1 : (ps.toList.map fun p => ev p.2) = ps.toList.map fun p => ev' p.2 := List.map_congr_left hp
    simp only [preNames, e1]
  | store t a x =>
    have h1 : ev a = ev' a := h _ (by simp [Op.operands])
    have h2 : ev x = ev' x := h _ (by simp [Op.operands])
    simp only [preNames, h1, h2]
  | _ => rfl

theorem sealOp_like {X : Nat → Prop} {fr fr1 : Fr} {e' : List V} {args : List Operand} {ts : List TypeId} {dst : Option Tmp} {ex : Ex} (h : Like X fr.env e') (ha : ∀ x ∈ args, ∀ t, x = .tmp t → ¬ X t) (hs : sealOp P G fr args ts dst = some (ex, fr1)) :
    ∃ e1, sealOp P G (fr.envd e') args ts dst = some (ex, fr1.envd e1) ∧ Like X fr1.env e1 ∧ (ex = .normal → Like (Minus X dst) fr1.env e1) := by
  have hmap : args.map (evalO G (fr.envd e').env) = args.map (evalO G fr.env) := List.map_congr_left fun x hx => h.evalO (ha x hx)
  unfold sealOp at hs ⊢
  have hH : (fr.envd e').H = fr.H := rfl
  rw [hmap, hH]
  split at hs
  · rename_i n k pt it hargs
    split at hs
    case h_2 => cases hs
    split at hs
    case h_2 => cases hs
    rename_i s _
    split at hs
    case isFalse => cases hs
    rename_i hc
    cases hs
    obtain ⟨e1, h1, h2⟩ := freeze_like h n
    rw [if_pos hc, h1]
    exact ⟨putO e1 dst _, rfl, (h2.putO _ _).mono fun x hx => hx.1, fun _ => h2.putO _ _⟩
  · cases hs
    exact ⟨putO e' dst _, rfl, (h.putO _ _).mono fun x hx => hx.1, fun _ => h.putO _ _⟩
  · cases hs

theorem stepOp_like {X : Nat → Prop} {o : Oper} {fr fr1 : Fr} {e' : List V} {ex : Ex} (h : Like X fr.env e') (hx : ∀ x ∈ o.op.operands, ∀ t, x = .tmp t → ¬ X t) (hs : stepOp P G pol C o fr = some (ex, fr1)) :
    ∃ e1, stepOp P G pol C o (fr.envd e') = some (ex, fr1.envd e1) ∧ Like X fr1.env e1 ∧ (ex = .normal → Like (Minus X o.dst) fr1.env e1) := by
  unfold stepOp at hs ⊢
  split at hs
  · rename_i g args ts hop
    rw [hop] at hx
    refine callOp_like h (fun t ht => hx g (by simp [Op.operands, Call.operands]) t ht) (fun x hxa t ht => hx x ?_ t ht) hs
    simp only [Op.operands, Call.operands, Array.mem_append]
    exact .inr (by simpa using hxa)
  · rename_i args ts hop
    rw [hop] at hx
    refine sealOp_like h (fun x hxa t ht => hx x ?_ t ht) hs
    simp only [Op.operands, Call.operands, Array.mem_append]
    exact .inr (by simpa using hxa)
  · rename_i x hop
    rw [hop] at hx
    have hev : evalO G (fr.envd e').env x = evalO G fr.env x := h.evalO (hx x (by simp [Op.operands]))
    rw [hev]
    split at hs
    · rename_i t d hxv
      cases hs
      exact ⟨e', rfl, h, fun e => by cases e⟩
    · rename_i t d hxv
      cases hs
      exact ⟨e', rfl, h, fun e => by cases e⟩
    · cases hs
  · rename_i hn1 hn2
    have hev : ∀ x ∈ o.op.operands, evalO G (fr.envd e').env x = evalO G fr.env x := fun x hxo => h.evalO (hx x hxo)
    simp only [] at hs ⊢
    rw [preNames_congr o.op hev]
    obtain ⟨e1, h1, h2⟩ := freezeAll_like (preNames (evalO G fr.env) o.op) h
    rw [h1]
    have hev2 : ∀ x ∈ o.op.operands, evalO G ((fr.freezeAll (preNames (evalO G fr.env) o.op)).envd e1).env x = evalO G (fr.freezeAll (preNames (evalO G fr.env) o.op)).env x := fun x hxo => h2.evalO (hx x hxo)
    have hH : ((fr.freezeAll (preNames (evalO G fr.env) o.op)).envd e1).H = (fr.freezeAll (preNames (evalO G fr.env) o.op)).H := rfl
    rw [hH, aopA_congr o.op hev2]
    split at hs
    case h_2 => cases hs
    rename_i r hr
    split at hs
    case h_2 => cases hs
    rename_i fr2 hfr2
    cases hs
    obtain ⟨e2, h3, h4⟩ := eff_like h2 hfr2
    rw [h3]
    exact ⟨putO e2 o.dst r.val, rfl, (h4.putO _ _).mono fun x hx => hx.1, fun _ => h4.putO _ _⟩

theorem runOne_like {X : Nat → Prop} {ops : Array Oper} {i : Nat} {o : Oper} (ho : ops[i]? = some o) {fr fr1 : Fr} {e' : List V} {ex : Ex} (h : Like X fr.env e') (hx : ∀ t ∈ Oper.looksAt ops o, ¬ X t) (hs : runOps P G pol C ops [i] fr = some (ex, fr1)) :
    ∃ e1, runOps P G pol C ops [i] (fr.envd e') = some (ex, fr1.envd e1) ∧ Like X fr1.env e1 ∧ (ex = .normal → Like (Minus X o.dst) fr1.env e1) := by
  have hxo : ∀ x ∈ o.op.operands, ∀ t, x = .tmp t → ¬ X t := opX fun t ht => hx t (by unfold Oper.looksAt; exact List.mem_append_left _ ht)
  have one : ∀ {frx frx1 : Fr} {ex1 : Ex} {e2 : List V}, Like X frx.env e2 → (match stepOp P G pol C o frx with
      | some (.normal, fr') => runOps P G pol C ops [] fr'
      | x => x) = some (ex1, frx1) →
      ∃ e1, (match stepOp P G pol C o (frx.envd e2) with
      | some (.normal, fr') => runOps P G pol C ops [] fr'
      | x => x) = some (ex1, frx1.envd e1) ∧ Like X frx1.env e1 ∧ (ex1 = .normal → Like (Minus X o.dst) frx1.env e1) := by
    intro frx frx1 ex1 e2 hl hm
    cases hst : stepOp P G pol C o frx with
    | none => rw [hst] at hm; cases hm
    | some q =>
      obtain ⟨exq, frq⟩ := q
      obtain ⟨e1, h1, h2, h3⟩ := stepOp_like hl hxo hst
      rw [hst] at hm
      rw [h1]
      cases exq <;> simp only [runOps, Option.some.injEq, Prod.mk.injEq] at hm ⊢ <;> obtain ⟨rfl, rfl⟩ := hm <;> exact ⟨e1, ⟨rfl, rfl⟩, h2, fun e => by first | exact h3 rfl | cases e⟩
  simp only [runOps, ho] at hs ⊢
  cases hgd : o.guard with
  | none =>
    rw [hgd] at hs
    exact one h hs
  | some p =>
    obtain ⟨j, want⟩ := p
    rw [hgd] at hs
    simp only [] at hs ⊢
    cases hd : (ops[j]?).bind (·.dst) with
    | none => rw [hd] at hs; cases hs
    | some d =>
      rw [hd] at hs
      simp only [] at hs ⊢
      have hdX : ¬ X d := hx d (by unfold Oper.looksAt; rw [hgd]; exact List.mem_append_right _ (by simp [hd]))
      have hg : (fr.envd e').env[d]? = fr.env[d]? := h.get hdX
      rw [hg]
      split at hs
      · rename_i b hb
        split at hs
        · rename_i e
          rw [if_pos e]
          exact one (frx := { fr with env := fr.env.set d (.p (.bool want)) }) (e2 := e'.set d (.p (.bool want))) ((h.set d _).mono fun x hx => hx.1) hs
        · rename_i e
          rw [if_neg e]
          simp only [Option.some.injEq, Prod.mk.injEq] at hs ⊢
          obtain ⟨rfl, rfl⟩ := hs
          have := ((h.set d (.p (.bool (!want)))).mono (Y := X) fun x hx => hx.1).putO o.dst (.p (.tup []))
          exact ⟨_, ⟨rfl, rfl⟩, this.mono fun x hx => hx.1, fun _ => this⟩
      · simp only [Option.some.injEq, Prod.mk.injEq] at hs ⊢
        obtain ⟨rfl, rfl⟩ := hs
        have := h.putO o.dst (.p (.tup []))
        exact ⟨_, ⟨rfl, rfl⟩, this.mono fun x hx => hx.1, fun _ => this⟩
      · cases hs

theorem fixedB_like {X : Nat → Prop} {o : Oper} {fr fr1 : Fr} {e' : List V} {ex : Ex} (h : Like X fr.env e') (hx : ∀ x ∈ o.op.operands, ∀ t, x = .tmp t → ¬ X t) (hs : fixedB P G o fr = some (ex, fr1)) :
    ∃ e1, fixedB P G o (fr.envd e') = some (ex, fr1.envd e1) ∧ Like X fr1.env e1 ∧ (ex = .normal → Like (Minus X o.dst) fr1.env e1) := by
  have hev : ∀ x ∈ o.op.operands, evalO G (fr.envd e').env x = evalO G fr.env x := fun x hxo => h.evalO (hx x hxo)
  unfold fixedB at hs ⊢
  split at hs
  case h_2 => cases hs
  rename_i t len parts d hop hgd hdst
  rw [hop] at hev
  have hH : (fr.envd e').H = fr.H := rfl
  rw [hH, aop_congr _ hev]
  split at hs
  case h_2 => cases hs
  rename_i b n sz es hr
  split at hs
  case isFalse => cases hs
  rename_i hc
  cases hs
  rw [if_pos ⟨hc.1, h.fresh hc.2.1, hc.2.2⟩]
  exact ⟨_, rfl, (h.set _ _).mono fun x hx => hx.1, fun _ => (h.set _ _).mono fun x hx => ⟨hx.1, fun e => hx.2 (Option.some.inj (hdst.symm.trans e)).symm⟩⟩

theorem oneA_like {X : Nat → Prop} {bs : Bool} {ops : Array Oper} {i : Nat} {o : Oper} (ho : ops[i]? = some o) {fr fr1 : Fr} {e' : List V} {ex : Ex} (h : Like X fr.env e') (hx : ∀ t ∈ Oper.looksAt ops o, ¬ X t) (hs : oneA P G pol bs C ops i fr = some (ex, fr1)) :
    ∃ e1, oneA P G pol bs C ops i (fr.envd e') = some (ex, fr1.envd e1) ∧ Like X fr1.env e1 ∧ (ex = .normal → Like (Minus X o.dst) fr1.env e1) := by
  unfold oneA at hs ⊢
  simp only [ho] at hs ⊢
  split at hs
  · rename_i hc
    rw [if_pos hc]
    exact fixedB_like h (opX fun t ht => hx t (by unfold Oper.looksAt; exact List.mem_append_left _ ht)) hs
  · rename_i hc
    rw [if_neg hc]
    exact runOne_like ho h hx hs

/-! ### simple operations -/
theorem simple_eff {bs : Bool} {H : Nat → HO} {base : Nat} {ev : Operand → V} {op : Op} (hb : isBuildS op = false) (hs : simpleK P bs op = true) {r : Res} (hr : aop P H base ev op = some r) : r.eff = .none := by
  have pure : ∀ {v : V}, pureR v = some r → r.eff = .none := fun h => by simp only [pureR, Option.some.injEq] at h; subst h; rfl
  have bindp : ∀ {α : Type} {x : Option α} {f : α → V}, (x.bind fun a => pureR (f a)) = some r → r.eff = .none := by
    intro α x f h
    cases x with
    | none => cases h
    | some a => exact pure h
  cases op <;> simp only [simpleK, isBuildS, Bool.false_eq_true, Bool.true_eq_false] at hs hb <;> try (cases hs; done)
  case convert a b x =>
    simp only [aop] at hr
    cases hb2 : P.underlying b with
    | none => rw [hb2] at hs; cases hs
    | some T =>
      rw [hb2] at hs
      have hns : ∀ e, T ≠ .slice e := by rintro e rfl; simp at hs
      have h0 : bytesA P base a b (ev x) = none := by
        unfold bytesA
        rw [hb2]
        split
        · rename_i e1 e2 _; exact (hns _ (Option.some.inj e2)).elim
        · rfl
      rw [h0] at hr
      split at hr
      · rename_i r' hc
        cases hr
        unfold convA at hc
        split at hc
        · exact pure hc
        · exact pure hc
        · split at hc
          · split at hc
            · rename_i l _
              cases hbl : bytesOf l with
              | none => rw [hbl] at hc; cases hc
              | some s => rw [hbl] at hc; exact pure hc
            · cases hc
          · cases hc
        · cases hc
      · cases hr
  case makeFunc f first cs =>
    cases f <;> simp only [aop] at hr
    all_goals first
      | (cases hr; done)
      | (split at hr
         · split at hr <;> exact pure hr
         · cases hr)
  case call c =>
    obtain ⟨callee, args, ts⟩ := c
    cases callee with
    | builtin b =>
      cases b <;> first | (simp at hs; done) | skip
      all_goals
        simp only [aop] at hr
        repeat' split at hr
        all_goals first | exact pure hr | exact bindp hr | cases hr
    | _ => simp at hs
  all_goals
    simp only [aop] at hr
    first
      | exact pure hr
      | exact bindp hr
      | (repeat' split at hr
         all_goals first | exact pure hr | exact bindp hr | cases hr)

theorem simple_effA {bs : Bool} {H : Nat → HO} {base : Nat} {ev : Operand → V} {op : Op} (hb : isBuildS op = false) (hs : simpleK P bs op = true) {r : Res} (hr : aopA P H base ev op = some r) : r.eff = .none := by
  unfold aopA at hr
  split at hr
  · rename_i r' h'; cases hr; exact simple_eff hb hs h'
  · split at hr
    · cases hr; rfl
    · cases hr

theorem simple_pre {bs : Bool} {ev : Operand → V} {op : Op} (hb : isBuildS op = false) (hs : simpleK P bs op = true) : preNames ev op = [] := by
  cases op <;> simp_all [simpleK, isBuildS, preNames]

theorem simple_step {bs : Bool} {o : Oper} (hb : isBuildS o.op = false) (hs : simpleK P bs o.op = true) {fr fr1 : Fr} {ex : Ex} (h : stepOp P G pol C o fr = some (ex, fr1)) : ex = .normal ∧ ∃ v, fr1 = { fr with env := putO fr.env o.dst v } := by
  unfold stepOp at h
  split at h
  · rename_i hop; rw [hop] at hs; simp [simpleK] at hs
  · rename_i hop; rw [hop] at hs; simp [simpleK] at hs
  · rename_i hop; rw [hop] at hs; simp [simpleK] at hs
  · simp only [simple_pre hb hs, Fr.freezeAll] at h
    split at h
    case h_2 => cases h
    rename_i r hr
    rw [simple_effA hb hs hr] at h
    simp only [Fr.eff, Option.some.injEq, Prod.mk.injEq] at h
    obtain ⟨rfl, rfl⟩ := h
    exact ⟨rfl, _, rfl⟩

theorem set_self {env : List V} {d : Nat} {v : V} (h : env[d]? = some v) : env.set d v = env := by
  apply List.ext_getElem?
  intro i
  rw [List.getElem?_set]
  split
  · rename_i e; subst e
    rw [if_pos (List.getElem?_eq_some_iff.1 h).1, h]
  · rfl

theorem oneA_simple {bs : Bool} {ops : Array Oper} {i d : Nat} {o : Oper} (ho : ops[i]? = some o) (hd : o.dst = some d) (hs : simpleK P bs o.op = true) {fr fr1 : Fr} {ex : Ex} (h : oneA P G pol bs C ops i fr = some (ex, fr1)) :
    ex = .normal ∧ ∃ v, fr1 = { fr with env := fr.env.set d v } := by
  unfold oneA at h
  simp only [ho] at h
  split at h
  · unfold fixedB at h
    split at h
    case h_2 => cases h
    rename_i t len parts d' hop hgd hdst
    rw [hd] at hdst
    cases hdst
    split at h
    case h_2 => cases h
    split at h
    · cases h; exact ⟨rfl, _, rfl⟩
    · cases h
  · rename_i hc
    have hb : isBuildS o.op = false := by
      cases hq : isBuildS o.op with
      | false => rfl
      | true =>
        have : bs = false := by cases bs with
          | false => rfl
          | true => exact (hc ⟨rfl, hq⟩).elim
        subst this
        cases hop : o.op <;> simp [hop, isBuildS] at hq
        rw [hop] at hs
        simp [simpleK] at hs
    have one : ∀ {frx : Fr}, frx.H = fr.H → frx.k = fr.k → frx.mv = fr.mv → frx.env = fr.env → (match stepOp P G pol C o frx with
      | some (.normal, fr') => runOps P G pol C ops [] fr'
      | x => x) = some (ex, fr1) → ex = .normal ∧ ∃ v, fr1 = { fr with env := fr.env.set d v } := by
      intro frx h1 h2 h3 h4 hm
      have e : frx = fr := by cases frx; cases fr; simp_all
      subst e
      cases hst : stepOp P G pol C o frx with
      | none => rw [hst] at hm; cases hm
      | some q =>
        obtain ⟨exq, frq⟩ := q
        obtain ⟨rfl, v, rfl⟩ := simple_step hb hs hst
        rw [hst] at hm
        simp only [runOps, Option.some.injEq, Prod.mk.injEq] at hm
        obtain ⟨rfl, rfl⟩ := hm
        exact ⟨rfl, v, by rw [hd]; rfl⟩
    simp only [runOps, ho] at h
    cases hgd : o.guard with
    | none =>
      rw [hgd] at h
      exact one rfl rfl rfl rfl h
    | some p =>
      obtain ⟨j, want⟩ := p
      rw [hgd] at h
      simp only [] at h
      split at h
      · cases h
      · split at h
        · rename_i b hb
          split at h
          · rename_i e
            subst e
            exact one (frx := { fr with env := fr.env.set _ (.p (.bool b)) }) rfl rfl rfl (set_self hb) h
          · rename_i e
            have : b = !want := by cases b <;> cases want <;> simp_all
            rw [← this, set_self hb] at h
            simp only [Option.some.injEq, Prod.mk.injEq] at h
            obtain ⟨rfl, rfl⟩ := h
            exact ⟨rfl, _, by rw [hd]; rfl⟩
        · simp only [Option.some.injEq, Prod.mk.injEq] at h
          obtain ⟨rfl, rfl⟩ := h
          exact ⟨rfl, _, by rw [hd]; rfl⟩
        · cases h

end
end Go.Am
end

section
namespace Go.Am
open Go

section
variable {P : Program} {G : Nat → Option PV} {pol : Pol} {C : CallF}

theorem Heap.at_length (H : Heap) : Heap.at H H.length = .dead := by simp [Heap.at]

theorem Step.less {B : Nat → Prop} {w : World} (b : Nat) : Step B w (less B b) w := ⟨Nat.le_refl _, fun _ _ _ => rfl, fun _ _ h => h.1⟩

/-- a new array that is named nowhere but in the value at hand, made immutable -/
theorem drop_new {B B' : Nat → Prop} {L L' : Loc} {w w' : World} {H : Heap} {mv : List Nat} {k sz : Nat} {ty : TypeId} {es : List PV} {u : Value} (hst' : St B' L' w' (Heap.put H H.length (.arr ty sz es)))
    (hfs : FS k B L w H mv B' L' w' (Heap.put H H.length (.arr ty sz es)) mv) (hv : VRel B' L' w' (.sl H.length 0 es.length) u) :
    FS k B L w H mv (less B' (L'.blk H.length)) L' w' H mv ∧ St (less B' (L'.blk H.length)) L' w' H ∧ VRel (less B' (L'.blk H.length)) L' w' (.p (.lst false es)) u ∧ Step B' w' (less B' (L'.blk H.length)) w' := by
  have hat : Heap.at (Heap.put H H.length (.arr ty sz es)) H.length = .arr ty sz es := Heap.at_put_same _ _ _
  have hne : ∀ n, (Heap.at H n).live → n ≠ H.length := by rintro n hl rfl; rw [Heap.at_length] at hl; exact hl
  have hat' : ∀ n, n ≠ H.length → Heap.at (Heap.put H H.length (.arr ty sz es)) n = Heap.at H n := fun n hn => Heap.at_put_ne _ _ hn
  have hlv : (Heap.at (Heap.put H H.length (.arr ty sz es)) H.length).live := by rw [hat]; trivial
  have hrel := hst'.rel H.length
  rw [hat] at hrel
  refine ⟨?_, ?_, ?_, Step.less _⟩
  · refine ⟨hfs.size, hfs.same, hfs.own, fun b hb h => hfs.sub b hb h.1, fun b hb hB hn => ⟨hfs.keep b hb hB hn, ?_⟩, hfs.mvs, hfs.loc, fun n hl => ?_⟩
    · rintro rfl
      rcases hfs.fresh _ hlv with ⟨m, h1, h2⟩ | h1
      · exact hn m h1 h2.symm
      · omega
    · exact hfs.fresh n (by rw [hat' n (hne n hl)]; exact hl)
  · refine ⟨fun n => ?_, fun n hl => ?_, fun n m hn hm e => ?_, fun b hb => hst'.bnd b hb.1⟩
    · by_cases e : n = H.length
      · subst e; rw [Heap.at_length]; exact .dead
      · have := hst'.rel n
        rw [hat' n e] at this
        exact this.step (Step.less _) (fun _ => rfl)
    · have h1 := hst'.own n (by rw [hat' n (hne n hl)]; exact hl)
      refine ⟨⟨h1.1, fun e => hne n hl (hst'.inj n _ (by rw [hat' n (hne n hl)]; exact hl) hlv e)⟩, h1.2⟩
    · exact hst'.inj n m (by rw [hat' n (hne n hn)]; exact hn) (by rw [hat' m (hne m hm)]; exact hm) e
  · have := hv.frz hrel (hst'.own _ hlv).2
    simpa [V.frz] using this

theorem oneA_sound (hC : SoundC P G C) {bs : Bool} {ops : Array Oper} {i : Nat} {B : Nat → Prop} {L : Loc} {w : World} {fr fr' : Fr} {ex : Ex} {a : Act} (hst : St B L w fr.H) (he : ERel B L w fr.env a.tmps) (hg : GOk G B w)
    (h : oneA P G pol bs C ops i fr = some (ex, fr')) (K : Act → World → Prop) (Q : Exit → Act → World → Prop)
    (hK : ∀ a' w', EPost fr.k B L w fr.H fr.mv a.defers ex fr' .normal a' w' → ex = .normal → K a' w')
    (hQ : ∀ e a' w', e ≠ .normal → EPost fr.k B L w fr.H fr.mv a.defers ex fr' e a' w' → Q e a' w') : wpOp P ops Q i K a w := by
  unfold oneA at h
  cases ho : ops[i]? with
  | none => rw [ho] at h; cases h
  | some o =>
    rw [ho] at h
    simp only [] at h
    unfold wpOp
    simp only [ho]
    split at h
    · -- a slice's literal
      unfold fixedB at h
      split at h
      case h_2 => cases h
      rename_i t len parts d hop hgd hdst
      split at h
      case h_2 => cases h
      rename_i b n ty sz es hr
      split at h
      case isFalse => cases h
      rename_i hc
      obtain ⟨⟨rfl, rfl⟩, hfr, hk⟩ := hc
      cases h
      rw [if_pos (by simp [Region.wanted, hgd])]
      have hev := evalO_sound he hg
      have hr' : aop P (Heap.at fr.H) fr.H.length (evalO G fr.env) o.op = some ⟨.sl fr.H.length 0 es.length, .new (.arr ty sz es)⟩ := by rw [hop]; exact hr
      have hd := aop_sound (o := o) hst hev (fun _ => by
        obtain ⟨h1, h2⟩ := Fr.fresh_spec hfr
        exact ⟨h2, fun x => evalO_names h1 x⟩) hr'
      have heff : fr.eff fr.H.length (Eff.new (.arr ty sz es)) = some { fr with H := fr.H.put fr.H.length (.arr ty sz es) } := by
        simp only [Fr.eff]; rw [if_pos ⟨hfr, hk⟩]
      obtain ⟨v, w', B', L', hR, hfs, he2, hst2, hv, hk2⟩ := Done.frame he hd heff
      obtain ⟨g1, g2, g3, g4⟩ := drop_new hst2 hfs hv
      have he3 : ERel (less B' (L'.blk fr.H.length)) L' w' fr.env a.tmps := by
        have := he2.map id (fun v u _ h => h.step g4)
        simpa using this
      have hpost : EPost fr.k B L w fr.H fr.mv a.defers .normal { fr with env := fr.env.set d (.p (.lst false es)) } .normal (a.put o.dst v) w' := by
        refine ⟨_, L', g1, ?_, g2, rfl, by cases o.dst <;> rfl, trivial⟩
        have := he3.put o.dst g3
        rw [hdst] at this ⊢
        exact this
      refine .inl ?_
      unfold Oper.wp
      rcases hR with hR | ⟨hR, rfl⟩
      · rw [hR, Oper.upon_value]; exact hK _ _ hpost rfl
      · rw [hR, Oper.upon_skip]; exact hK _ _ hpost rfl
    · simp only [runOps, ho] at h
      have one : ∀ (frx : Fr), frx.H = fr.H → frx.k = fr.k → frx.mv = fr.mv → ERel B L w frx.env a.tmps →
          (match stepOp P G pol C o frx with
            | some (.normal, fr') => runOps P G pol C ops [] fr'
            | x => x) = some (ex, fr') → o.wp P a w K Q := by
        intro frx hH hk hm hex hx
        have hstx : St B L w frx.H := by rw [hH]; exact hst
        cases hs : stepOp P G pol C o frx with
        | none => rw [hs] at hx; cases hx
        | some p =>
          obtain ⟨ex1, fr1⟩ := p
          rw [hs] at hx
          have hx' : ex1 = ex ∧ fr1 = fr' := by
            cases ex1 <;> simpa only [runOps, Option.some.injEq, Prod.mk.injEq] using hx
          obtain ⟨rfl, rfl⟩ := hx'
          refine stepOp_sound hC hstx hex hg hs K Q ?_ ?_
          · intro a1 w1 hp
            rw [hH, hk, hm] at hp
            obtain ⟨B1, L1, hfs, he1, hst1, hk1, hd1, hm1⟩ := hp
            cases ex1 with
            | normal => exact hK _ _ ⟨B1, L1, hfs, he1, hst1, hk1, hd1, hm1⟩ rfl
            | _ => exact hm1.elim
          · intro e a1 w1 hne hp
            rw [hH, hk, hm] at hp
            exact hQ e a1 w1 hne hp
      cases hgd : o.guard with
      | none =>
        rw [hgd] at h
        simp only [] at h
        rw [if_pos (by simp [Region.wanted, hgd])]
        exact .inl (one fr rfl rfl rfl he h)
      | some p =>
        obtain ⟨j, want⟩ := p
        rw [hgd] at h
        simp only [] at h
        cases hd : (ops[j]?).bind (·.dst) with
        | none => rw [hd] at h; cases h
        | some d =>
          rw [hd] at h
          simp only [] at h
          have skip : ∀ (_ : ¬ Region.wanted o (yielded ops a.tmps) = true) (_ : ex = .normal ∧ fr' = { fr with env := putO fr.env o.dst (.p (.tup [])) }),
              if Region.wanted o (yielded ops a.tmps) = true then (o.wp P a w K Q ∨ (o.asks P a w ∧ LetsOut Q)) else K (a.put o.dst undef) w := by
            rintro hwn ⟨rfl, rfl⟩
            rw [if_neg hwn]
            have he2 : ERel B L w (putO fr.env o.dst (.p (.tup []))) (a.put o.dst undef).tmps := he.put o.dst (VRel.p _ _ (PRel.tup [] [] rfl (by simp)))
            exact hK _ _ ⟨B, L, FS.refl _ _ _ _ _ _, he2, hst, rfl, by cases o.dst <;> rfl, trivial⟩ rfl
          split at h
          case h_3 => cases h
          case h_2 =>
            rename_i hb
            refine skip ?_ ?_
            · simp [Region.wanted, hgd, yielded_und he hd hb]
            · simp only [Option.some.injEq, Prod.mk.injEq] at h
              exact ⟨h.1.symm, h.2.symm⟩
          rename_i b hb
          have hy := yielded_of he hd hb
          split at h
          · rename_i e
            subst e
            rw [if_pos (by simp [Region.wanted, hgd, hy])]
            exact .inl (one { fr with env := fr.env.set d (.p (.bool b)) } rfl rfl rfl (by rw [ERel.lit hb]; exact he) h)
          · rename_i hne
            have hbn : b = !want := by cases b <;> cases want <;> simp_all
            refine skip ?_ ?_
            · simp only [Region.wanted, hgd, hy]
              simpa using hne
            · rw [← hbn, ERel.lit hb] at h
              simp only [Option.some.injEq, Prod.mk.injEq] at h
              exact ⟨h.1.symm, h.2.symm⟩

end
end Go.Am
end

section
namespace Go.Am
open Go

/-! ### slots that are not told -/
def ERelX (X : Nat → Prop) (B : Nat → Prop) (L : Loc) (w : World) (env : List V) (tmps : Array Value) : Prop :=
  env.length = tmps.toList.length ∧ ∀ (i : Nat) x y, env[i]? = some x → ¬ X i → tmps.toList[i]? = some y → VRel B L w x y

theorem ERelX.of (X : Nat → Prop) {B : Nat → Prop} {L : Loc} {w : World} {env : List V} {tmps : Array Value} (h : ERel B L w env tmps) : ERelX X B L w env tmps :=
  ⟨h.1, fun i x y hx _ hy => h.2 i x y hx hy⟩

theorem ERelX.all {X : Nat → Prop} {B : Nat → Prop} {L : Loc} {w : World} {env : List V} {tmps : Array Value} (h : ERelX X B L w env tmps) (hX : ∀ x, ¬ X x) : ERel B L w env tmps :=
  ⟨h.1, fun i x y hx hy => h.2 i x y hx (hX i) hy⟩

theorem ERelX.mono {X Y : Nat → Prop} {B : Nat → Prop} {L : Loc} {w : World} {env : List V} {tmps : Array Value} (h : ERelX X B L w env tmps) (hs : ∀ x, X x → Y x) : ERelX Y B L w env tmps :=
  ⟨h.1, fun i x y hx hn hy => h.2 i x y hx (fun hX => hn (hs i hX)) hy⟩

theorem ERelX.like {X : Nat → Prop} {B : Nat → Prop} {L : Loc} {w : World} {env e' : List V} {tmps : Array Value} (hl : Like X env e') (h : ERel B L w e' tmps) : ERelX X B L w env tmps := by
  refine ⟨hl.1.trans h.1, fun i x y hx hn hy => ?_⟩
  rcases hl.2 i x hx with h1 | h1
  · exact h.2 i x y h1 hy
  · exact (hn h1.1).elim

open Classical in
theorem ERelX.mask {X : Nat → Prop} {B : Nat → Prop} {L : Loc} {w : World} {env : List V} {tmps : Array Value} (h : ERelX X B L w env tmps) : ∃ e', Like X env e' ∧ ERel B L w e' tmps := by
  refine ⟨env.mapIdx fun i v => if X i then .junk else v, ⟨by simp, fun i v hv => ?_⟩, by simpa using h.1, fun i x y hx hy => ?_⟩
  · by_cases hX : X i
    · exact .inr ⟨hX, by simp [hv, hX]⟩
    · exact .inl (by simp [hv, hX])
  · rw [List.getElem?_mapIdx, Option.map_eq_some_iff] at hx
    obtain ⟨v, hv, rfl⟩ := hx
    split
    · exact .junk _
    · rename_i hX; exact h.2 i v y hv hX hy

/-! ### what stands ahead -/
def Clo (ops : Array Oper) (listed : Array Bool) : Prop := ∀ j o, ops[j]? = some o → listed.getD j false = true → ∀ e ∈ o.after, Region.binds .any e = true → listed.getD e.on false = true

def Row (ops : Array Oper) (r j : Nat) : Prop := ∀ o, ops[j]? = some o → ∀ i, r.testBit i = true → ∀ listed, Clo ops listed → (∀ e ∈ o.after, Region.binds .any e = true → listed.getD e.on false = true) → listed.getD i false = true

theorem testBit_shl {c i : Nat} (h : (1 <<< c).testBit i = true) : i = c := by
  rw [Nat.testBit_shiftLeft] at h
  simp only [Bool.and_eq_true, decide_eq_true_eq] at h
  obtain ⟨h1, h2⟩ := h
  have : i - c = 0 := by
    by_cases hz : i - c = 0
    · exact hz
    · rw [Nat.testBit_one_eq_true_iff_self_eq_zero] at h2
      omega
  omega

theorem aheadM_spec {tab : List Nat} : ∀ (es : List Edge) (i : Nat), (aheadM tab es).testBit i = true → ∃ e ∈ es, Region.binds .any e = true ∧ (i = e.on ∨ ((tab[e.on]?).getD 0).testBit i = true)
  | [], i, h => by simp [aheadM] at h
  | e :: es, i, h => by
    simp only [aheadM] at h
    split at h
    · rename_i hb
      rw [Nat.testBit_or, Nat.testBit_or, Bool.or_eq_true, Bool.or_eq_true] at h
      rcases h with (h | h) | h
      · exact ⟨e, by simp, hb, .inl (testBit_shl h)⟩
      · exact ⟨e, by simp, hb, .inr h⟩
      · obtain ⟨e', h1, h2, h3⟩ := aheadM_spec es i h
        exact ⟨e', by simp [h1], h2, h3⟩
    · obtain ⟨e', h1, h2, h3⟩ := aheadM_spec es i h
      exact ⟨e', by simp [h1], h2, h3⟩

theorem ancTab_spec {ops : Array Oper} : ∀ (l pre : List Oper) (tab : List Nat), ops.toList = pre ++ l → pre.length = tab.length → (∀ j r, tab[j]? = some r → Row ops r j) → ∀ j r, (ancTab l tab)[j]? = some r → Row ops r j
  | [], pre, tab, _, _, h => h
  | o :: l, pre, tab, he, hl, h => by
    simp only [ancTab]
    refine ancTab_spec l (pre ++ [o]) (tab ++ [aheadM tab o.after.toList]) (by simp [he]) (by simp [hl]) fun j r hr => ?_
    rw [List.getElem?_append] at hr
    split at hr
    · exact h j r hr
    · rename_i hj
      have hj' : j = tab.length := by
        have := (List.getElem?_eq_some_iff.1 hr).1
        simp at this
        omega
      subst hj'
      simp at hr
      subst hr
      intro o' ho' i hi listed hc hd
      have hoo : o' = o := by
        have : ops.toList[tab.length]? = some o' := by rw [Array.getElem?_toList]; exact ho'
        rw [he, ← hl] at this
        simpa using this.symm
      subst hoo
      obtain ⟨e, he1, he2, he3⟩ := aheadM_spec _ i hi
      have hlist := hd e (by simpa using he1) he2
      rcases he3 with rfl | h3
      · exact hlist
      · cases ht : tab[e.on]? with
        | none => rw [ht] at h3; simp at h3
        | some r =>
          rw [ht] at h3
          have hlt : e.on < pre.length := by rw [hl]; exact (List.getElem?_eq_some_iff.1 ht).1
          have ho2 : ∃ o2, ops[e.on]? = some o2 := by
            rw [← Array.getElem?_toList, he]
            exact ⟨pre[e.on], by rw [List.getElem?_append_left hlt]; simp [hlt]⟩
          obtain ⟨o2, ho2⟩ := ho2
          exact h e.on r ht o2 ho2 i h3 listed hc (fun e' he' hb' => hc e.on o2 ho2 hlist e' he' hb')

theorem anc_spec {ops : Array Oper} {i j : Nat} {o : Oper} {listed : Array Bool} (ha : isAnc (ancTab ops.toList []) i j = true) (ho : ops[j]? = some o) (hc : Clo ops listed) (hd : ∀ e ∈ o.after, Region.binds .any e = true → listed.getD e.on false = true) :
    listed.getD i false = true := by
  unfold isAnc at ha
  cases ht : (ancTab ops.toList [])[j]? with
  | none => rw [ht] at ha; simp at ha
  | some r =>
    rw [ht] at ha
    exact ancTab_spec ops.toList [] [] rfl rfl (by simp) j r ht o ho i ha listed hc hd

theorem maskOf_spec : ∀ (l : List Nat) (i : Nat), (maskOf l).testBit i = true ↔ i ∈ l
  | [], i => by simp [maskOf]
  | c :: l, i => by
    simp only [maskOf, Nat.testBit_or, Bool.or_eq_true, List.mem_cons, maskOf_spec l i]
    refine ⟨fun h => h.imp testBit_shl id, fun h => h.imp (fun e => ?_) id⟩
    subst e
    simp [Nat.testBit_shiftLeft]

theorem notNow_spec {tab rest : List Nat} {i : Nat} (h : isNow tab (maskOf rest) i = false) : ∃ c ∈ rest, isAnc tab c i = true := by
  unfold isNow at h
  have hne : ((tab[i]?).getD 0) &&& maskOf rest ≠ 0 := by simpa using h
  obtain ⟨c, hc⟩ := Nat.exists_testBit_of_ne_zero hne
  rw [Nat.testBit_and, Bool.and_eq_true] at hc
  exact ⟨c, (maskOf_spec _ _).1 hc.2, hc.1⟩

theorem now_spec {tab rest : List Nat} {i c : Nat} (h : isNow tab (maskOf rest) i = true) (hc : c ∈ rest) : isAnc tab c i = false := by
  unfold isNow at h
  simp only [beq_iff_eq] at h
  have := congrArg (Nat.testBit · c) h
  simp only [Nat.testBit_and, Nat.zero_testBit, Bool.and_eq_false_iff] at this
  unfold isAnc
  rcases this with h1 | h1
  · exact h1
  · rw [(maskOf_spec _ _).2 hc] at h1; cases h1

theorem chainOk_spec {tab : List Nat} : ∀ (l : List Nat) (c : Nat), chainOk tab (c :: l) = true → ∀ i ∈ l, ∃ j ∈ c :: l, isAnc tab j i = true
  | [], c, _, i, hi => by simp at hi
  | d :: l, c, h, i, hi => by
    simp only [chainOk, Bool.and_eq_true] at h
    rcases List.mem_cons.1 hi with rfl | hi
    · exact ⟨c, by simp, h.1⟩
    · obtain ⟨j, h1, h2⟩ := chainOk_spec l d h.2 i hi
      exact ⟨j, List.mem_cons_of_mem _ h1, h2⟩

theorem chainOk_tail {tab : List Nat} {c : Nat} {l : List Nat} (h : chainOk tab (c :: l) = true) : chainOk tab l = true := by
  cases l with
  | nil => rfl
  | cons d l => simp only [chainOk, Bool.and_eq_true] at h; exact h.2

/-! ### what is settled -/
theorem eagerL_spec {one : OneF} {ops : Array Oper} : ∀ (l : List Nat) {fr F : Fr}, eagerL one ops l fr = some F →
    F.H = fr.H ∧ F.k = fr.k ∧ F.mv = fr.mv ∧ F.env.length = fr.env.length ∧ ∀ x, (∀ i ∈ l, slotOf ops i ≠ some x) → F.env[x]? = fr.env[x]?
  | [], fr, F, h => by simp only [eagerL, Option.some.injEq] at h; subst h; exact ⟨rfl, rfl, rfl, rfl, fun _ _ => rfl⟩
  | i :: l, fr, F, h => by
    simp only [eagerL] at h
    split at h
    case h_2 => cases h
    rename_i fr' d h1 h2
    split at h
    case h_2 => cases h
    rename_i v hv
    obtain ⟨g1, g2, g3, g4, g5⟩ := eagerL_spec l h
    refine ⟨g1, g2, g3, by simpa using g4, fun x hx => ?_⟩
    rw [g5 x fun j hj => hx j (List.mem_cons_of_mem _ hj)]
    show (fr.env.set d v)[x]? = _
    rw [List.getElem?_set_ne]
    intro e
    exact hx i (by simp) (by rw [h2, e])

theorem getD_set_self {listed : Array Bool} {i : Nat} (h : i < listed.size) : (listed.setIfInBounds i true).getD i false = true := by
  simp [Array.getD, h]

theorem getD_set_other {listed : Array Bool} {i j : Nat} (d : Bool) (h : i ≠ j) : (listed.setIfInBounds i true).getD j d = listed.getD j d := Go.getD_set_ne d h

theorem getD_false_true {listed : Array Bool} {i : Nat} (h : listed.getD i true = false) : listed.getD i false = false := by
  simp only [Array.getD] at h ⊢
  split at h
  · rename_i hl; rw [dif_pos hl]; exact h
  · cases h

def unl (listed : Array Bool) (n : Nat) : Nat := ((List.range n).filter fun i => !listed.getD i true).length

theorem unl_set {listed : Array Bool} {n i : Nat} (hi : i < n) (h : listed.getD i true = false) (hs : listed.size = n) : unl (listed.setIfInBounds i true) n < unl listed n := by
  unfold unl
  rw [← List.countP_eq_length_filter, ← List.countP_eq_length_filter]
  have key : ∀ l : List Nat, i ∈ l → List.countP (fun j => !(listed.setIfInBounds i true).getD j true) l < List.countP (fun j => !listed.getD j true) l := by
    intro l
    have le : ∀ l : List Nat, List.countP (fun j => !(listed.setIfInBounds i true).getD j true) l ≤ List.countP (fun j => !listed.getD j true) l := by
      intro l
      apply List.countP_mono_left
      intro j _ hj
      by_cases e : i = j
      · subst e
        simp [Array.getD, hs, hi] at hj
      · rwa [getD_set_other true e] at hj
    induction l with
    | nil => intro hm; simp at hm
    | cons j l ih =>
      intro hm
      rw [List.countP_cons, List.countP_cons]
      by_cases e : i = j
      · subst e
        have h1 : (!(listed.setIfInBounds i true).getD i true) = false := by simp [Array.getD, hs, hi]
        have h2 : (!listed.getD i true) = true := by simp [h]
        have := le l
        simp only [h1, h2, if_true, Bool.false_eq_true, if_false]
        omega
      · have := ih ((List.mem_cons.1 hm).resolve_left e)
        rw [getD_set_other true e]
        omega
  exact key _ (by simpa using hi)

end Go.Am
end

section
namespace Go.Am
open Go

section
variable {P : Program} {G : Nat → Option PV} {pol : Pol} {C : CallF}

def UnX (ops : Array Oper) (simples : List Nat) (listed : Array Bool) (x : Nat) : Prop := ∃ i ∈ simples, listed.getD i false = false ∧ slotOf ops i = some x

def allJunk (e : List V) : List V := e.map fun _ => .junk

theorem allJunk_rel {B : Nat → Prop} {L : Loc} {w : World} {e : List V} {tmps : Array Value} (h : e.length = tmps.toList.length) : ERel B L w (allJunk e) tmps := by
  refine ⟨by simpa [allJunk] using h, fun i x y hx _ => ?_⟩
  simp only [allJunk, List.getElem?_map, Option.map_eq_some_iff] at hx
  obtain ⟨_, _, rfl⟩ := hx
  exact .junk _

/-- what is still to come -/
def ContD (one : OneF) (ops : Array Oper) (tab simples : List Nat) (rest : List Nat) (past : Nat) (todo : List Nat) (F : Fr) (ex : Ex) (fr' : Fr) : Prop :=
  match rest with
  | [] => ex = .normal ∧ fr' = F
  | c :: rest => match one c F with
    | some (.normal, F') => drawGo one ops tab simples rest (past ||| ((tab[c]?).getD 0)) (todo.filter fun i => !isNow tab (maskOf (c :: rest)) i) F' = some (ex, fr')
    | some (.pan v, F') => ex = .pan v ∧ fr' = { F' with env := allJunk F'.env }
    | _ => False

theorem drawGo_cont {one : OneF} {ops : Array Oper} {tab simples rest : List Nat} {past : Nat} {todo : List Nat} {fr fr' : Fr} {ex : Ex} (h : drawGo one ops tab simples rest past todo fr = some (ex, fr')) :
    ∃ F, settle one ops tab simples rest past todo fr = some F ∧ ContD one ops tab simples rest past todo F ex fr' := by
  cases rest with
  | nil =>
    simp only [drawGo] at h
    split at h
    · rename_i F hF
      simp only [Option.some.injEq, Prod.mk.injEq] at h
      exact ⟨F, hF, h.1.symm, h.2.symm⟩
    · cases h
  | cons c rest =>
    simp only [drawGo] at h
    split at h
    · rename_i F hF
      refine ⟨F, hF, ?_⟩
      unfold ContD
      split at h
      · rename_i F' h1; simp only [h1]; exact h
      · rename_i v F' h1
        simp only [h1]
        simp only [Option.some.injEq, Prod.mk.injEq] at h
        exact ⟨h.1.symm, h.2.symm⟩
      · cases h
    · cases h

theorem settle_spec {one : OneF} {ops : Array Oper} {tab simples rest : List Nat} {past : Nat} {todo : List Nat} {fr F : Fr} (h : settle one ops tab simples rest past todo fr = some F) :
    eagerL one ops (todo.filter (isNow tab (maskOf rest))) fr = some F ∧ ∀ i ∈ simples, isNow tab (maskOf rest) i = true → past.testBit i = false → idem one ops F i = true := by
  unfold settle at h
  split at h
  · rename_i F' hF
    split at h
    · rename_i hc
      cases h
      refine ⟨hF, fun i hi h1 h2 => ?_⟩
      simp only [List.all_eq_true] at hc
      have := hc i hi
      rw [if_pos ⟨h1, h2⟩] at this
      exact this
    · cases h
  · cases h

theorem isSimple_spec {bs : Bool} {ops : Array Oper} {tab : List Nat} {i : Nat} (h : isSimple P bs ops tab i = true) :
    ∃ o d, ops[i]? = some o ∧ o.dst = some d ∧ simpleK P bs o.op = true ∧ (∀ j p, ops[j]? = some p → d ∈ Oper.looksAt ops p → isAnc tab i j = true) ∧ ∀ j p, ops[j]? = some p → j ≠ i → p.dst = some d → isAnc tab i j = true := by
  unfold isSimple at h
  split at h
  · cases h
  · rename_i o ho
    rw [Bool.and_eq_true] at h
    obtain ⟨h1, h2⟩ := h
    split at h2
    · cases h2
    · rename_i d hd
      simp only [List.all_eq_true] at h2
      have key : ∀ j p, ops[j]? = some p → ((Oper.looksAt ops p).contains d || (j != i && p.dst == some d)) = true → isAnc tab i j = true := by
        intro j p hp hc
        have := h2 j (by simpa using (Array.getElem?_eq_some_iff.1 hp).1)
        rw [hp] at this
        simp only [] at this
        rw [if_pos hc] at this
        exact this
      exact ⟨o, d, ho, hd, h1, fun j p hp hl => key j p hp (by simp [hl]), fun j p hp hne hd' => key j p hp (by simp [hne, hd'])⟩

theorem draw_sound (hC : SoundC P G C) {bs : Bool} {ops : Array Oper} {tab simples chain : List Nat} (htab : tab = ancTab ops.toList []) (hsimp : simples = (List.range ops.size).filter (isSimple P bs ops tab))
    (hchain : chain = (List.range ops.size).filter fun i => !isSimple P bs ops tab i) (hback : backOk ops = true)
    {k : Nat} {B0 : Nat → Prop} {L0 : Loc} {w0 : World} {H0 : Heap} {mv0 : List Nat} {d0 : List Deferred} {ex : Ex} {fr' : Fr} {Q : Exit → Act → World → Prop}
    (hQ : ∀ e a' w', EPost k B0 L0 w0 H0 mv0 d0 ex fr' e a' w' → Q e a' w') :
    ∀ (fuel : Nat) (listed : Array Bool) (rest : List Nat) (past : Nat) (todo : List Nat) (F : Fr) (B : Nat → Prop) (L : Loc) (a : Act) (w : World),
      unl listed ops.size ≤ fuel → listed.size = ops.size → Clo ops listed → (∀ c ∈ rest, c ∈ chain ∧ listed.getD c false = false) → (∀ c ∈ chain, c ∉ rest → listed.getD c false = true) → chainOk tab rest = true →
      (∀ i, past.testBit i = true → listed.getD i false = true) → (∀ i ∈ todo, i ∈ simples) → (∀ i ∈ simples, isNow tab (maskOf rest) i = true → past.testBit i = false → idem (oneA P G pol bs C ops) ops F i = true) →
      ContD (oneA P G pol bs C ops) ops tab simples rest past todo F ex fr' →
      St B L w F.H → ERelX (UnX ops simples listed) B L w F.env a.tmps → GOk G B w → F.k = k → FS k B0 L0 w0 H0 mv0 B L w F.H F.mv → a.defers = d0 → rest.Nodup → wpAny P .any ops Q fuel listed a w := by
  subst htab
  generalize htab : ancTab ops.toList [] = tab at *
  have anc : ∀ {i j : Nat} {o : Oper} {listed : Array Bool}, isAnc tab i j = true → ops[j]? = some o → Clo ops listed → (∀ e ∈ o.after, Region.binds .any e = true → listed.getD e.on false = true) → listed.getD i false = true := by
    intro i j o listed ha; rw [← htab] at ha; exact anc_spec ha
  have mem_simple : ∀ i, i ∈ simples ↔ i < ops.size ∧ isSimple P bs ops tab i = true := fun i => by rw [hsimp]; simp
  have mem_chain : ∀ i, i ∈ chain ↔ i < ops.size ∧ isSimple P bs ops tab i = false := fun i => by rw [hchain]; simp
  -- nothing ready: all are listed
  have done : ∀ (listed : Array Bool), listed.size = ops.size → Region.ready .any ops listed = [] → ∀ i, i < ops.size → listed.getD i false = true := by
    intro listed hls hr i
    induction i using Nat.strongRecOn with
    | ind i ih =>
      intro hi
      cases hq : listed.getD i true with
      | true => simpa [Array.getD, hls, hi] using hq
      | false =>
        have ho : ops[i]? = some ops[i] := by simp [hi]
        have : i ∈ Region.ready .any ops listed := Go.mem_ready.2 ⟨hq, ops[i], ho, fun e he hb => by
          have hbk := hback
          unfold backOk at hbk
          rw [List.all_eq_true] at hbk
          have := hbk i (by simpa using hi)
          rw [ho] at this
          simp only [List.all_eq_true] at this
          have := this e (by simpa using he)
          simp only [hb, Bool.not_true, Bool.false_or, decide_eq_true_eq] at this
          exact ih e.on this (by omega)⟩
        rw [hr] at this
        simp at this
  have fin : ∀ (listed : Array Bool) (rest : List Nat) (past : Nat) (todo : List Nat) (F : Fr) (B : Nat → Prop) (L : Loc) (a : Act) (w : World), listed.size = ops.size → Region.ready .any ops listed = [] → (∀ c ∈ rest, c ∈ chain ∧ listed.getD c false = false) →
      ContD (oneA P G pol bs C ops) ops tab simples rest past todo F ex fr' → St B L w F.H → ERelX (UnX ops simples listed) B L w F.env a.tmps → F.k = k → FS k B0 L0 w0 H0 mv0 B L w F.H F.mv → a.defers = d0 → Q .normal a w := by
    intro listed rest past todo F B L a w hls hr hrest hcont hst he hk hfs hd
    have hall := done listed hls hr
    cases rest with
    | cons c rest =>
      have h1 := hrest c (by simp)
      rw [hall c ((mem_chain c).1 h1.1).1] at h1
      cases h1.2
    | nil =>
      obtain ⟨rfl, rfl⟩ := hcont
      refine hQ _ _ _ ⟨B, L, hfs, he.all ?_, hst, hk, hd, trivial⟩
      rintro x ⟨i, hi, hl, _⟩
      rw [hall i ((mem_simple i).1 hi).1] at hl
      cases hl
  intro fuel
  induction fuel with
  | zero =>
    intro listed rest past todo F B L a w hun hls hclo hrest hch hcok hpast htodo hidem hcont hst he hg hk hfs hd hnd
    have hr : Region.ready .any ops listed = [] := by
      cases hq : Region.ready .any ops listed with
      | nil => rfl
      | cons i l =>
        have hi : i ∈ Region.ready .any ops listed := by rw [hq]; simp
        obtain ⟨h1, o, ho, _⟩ := Go.mem_ready.1 hi
        have := unl_set (Array.getElem?_eq_some_iff.1 ho).1 h1 hls
        omega
    exact ⟨hr, fin listed rest past todo F B L a w hls hr hrest hcont hst he hk hfs hd⟩
  | succ fuel ih =>
    intro listed rest past todo F B L a w hun hls hclo hrest hch hcok hpast htodo hidem hcont hst he hg hk hfs hd hnd
    refine ⟨fun hr => fin listed rest past todo F B L a w hls hr hrest hcont hst he hk hfs hd, fun i hi => ?_⟩
    obtain ⟨hun1, o, ho, hpre⟩ := Go.mem_ready.1 hi
    have hunl : listed.getD i false = false := getD_false_true hun1
    have hin : i < ops.size := (Array.getElem?_eq_some_iff.1 ho).1
    have hfu : unl (listed.setIfInBounds i true) ops.size ≤ fuel := by have := unl_set hin hun1 hls; omega
    have hls' : (listed.setIfInBounds i true).size = ops.size := by simpa using hls
    have keepT : ∀ j, listed.getD j false = true → (listed.setIfInBounds i true).getD j false = true := fun j hj => Go.getD_set_true hj
    have hclo' : Clo ops (listed.setIfInBounds i true) := by
      intro j p hp hl e he hb
      by_cases e1 : i = j
      · subst e1
        rw [ho] at hp
        cases hp
        exact keepT _ (hpre e he hb)
      · rw [getD_set_other false e1] at hl
        exact keepT _ (hclo j p hp hl e he hb)
    have hX : ∀ t ∈ Oper.looksAt ops o, ¬ UnX ops simples listed t := by
      rintro t ht ⟨j, hj, hl, hs⟩
      obtain ⟨oj, dj, hoj, hdj, _, hlk, _⟩ := isSimple_spec ((mem_simple j).1 hj).2
      have : t = dj := by simp only [slotOf, hoj, Option.bind_some, hdj, Option.some.injEq] at hs; exact hs.symm
      subst this
      rw [anc (hlk i o ho ht) ho hclo hpre] at hl
      cases hl
    have hXd : ∀ t, o.dst = some t → ∀ j ∈ simples, listed.getD j false = false → slotOf ops j = some t → j = i := by
      intro t ht j hj hl hs
      obtain ⟨oj, dj, hoj, hdj, _, _, hw⟩ := isSimple_spec ((mem_simple j).1 hj).2
      have : t = dj := by simp only [slotOf, hoj, Option.bind_some, hdj, Option.some.injEq] at hs; exact hs.symm
      subst this
      by_cases e : i = j
      · exact e.symm
      · rw [anc (hw i o ho e ht) ho hclo hpre] at hl
        cases hl
    obtain ⟨e', hlike, hrel⟩ := he.mask
    have hFk : (F.envd e').k = k := hk
    have hXsub : ∀ x, Minus (UnX ops simples listed) o.dst x → UnX ops simples (listed.setIfInBounds i true) x := by
      rintro x ⟨⟨j, hj, hl, hs⟩, hne⟩
      refine ⟨j, hj, ?_, hs⟩
      by_cases e : i = j
      · subst e
        exact (hne (by simpa [slotOf, ho] using hs)).elim
      · rw [getD_set_other false e]; exact hl
    cases hsi : isSimple P bs ops tab i with
    | true =>
      have his : i ∈ simples := (mem_simple i).2 ⟨hin, hsi⟩
      have hnow : isNow tab (maskOf rest) i = true := by
        cases hq : isNow tab (maskOf rest) i with
        | true => rfl
        | false =>
          obtain ⟨c, hc, hac⟩ := notNow_spec hq
          have := anc hac ho hclo hpre
          rw [(hrest c hc).2] at this
          cases this
      have hp : past.testBit i = false := by
        cases hq : past.testBit i with
        | false => rfl
        | true => rw [hpast i hq] at hunl; cases hunl
      have hid := hidem i his hnow hp
      obtain ⟨o', d, ho', hdst, hsk, _, _⟩ := isSimple_spec hsi
      rw [ho] at ho'
      cases ho'
      unfold idem at hid
      have hso : slotOf ops i = some d := by simp [slotOf, ho, hdst]
      rw [hso] at hid
      split at hid
      case h_2 => cases hid
      rename_i fr1 d' hone hd'
      cases hd'
      split at hid
      case h_2 => cases hid
      rename_i v u hv hu
      have hvu := V.beq_eq v u hid
      subst hvu
      obtain ⟨_, v', hfr1⟩ := oneA_simple ho hdst hsk hone
      have hfr : fr1 = F := by
        rw [hfr1] at hv ⊢
        have hl : d < F.env.length := (List.getElem?_eq_some_iff.1 hu).1
        have : v' = v := by
          have : (F.env.set d v')[d]? = some v := hv
          rw [List.getElem?_set, if_pos rfl, if_pos hl] at this
          exact Option.some.inj this
        subst this
        rw [set_self hu]
      subst hfr
      obtain ⟨e1, h1, h2, h3⟩ := oneA_like ho hlike hX hone
      refine oneA_sound (fr := fr1.envd e') (fr' := fr1.envd e1) hC hst hrel hg h1 _ _ ?_ ?_
      · rintro a1 w1 ⟨B1, L1, hfs1, he1, hst1, hk1, hd1, _⟩ _
        refine ih _ rest past todo fr1 B1 L1 a1 w1 hfu hls' hclo' (fun c hc => ⟨(hrest c hc).1, ?_⟩) (fun c hc hcr => keepT c (hch c hc hcr)) hcok (fun j hj => keepT j (hpast j hj)) htodo hidem hcont hst1 ((ERelX.like (h3 rfl) he1).mono hXsub)
          (hg.step (hfs1.step hst)) hk (hfs.trans ?_) (hd1.trans hd) hnd
        · rw [getD_set_other false]
          · exact (hrest c hc).2
          · rintro rfl
            have := ((mem_chain _).1 (hrest _ hc).1).2
            rw [hsi] at this; cases this
        · rw [hFk] at hfs1; exact hfs1
      · rintro e a1 w1 hne ⟨B1, L1, _, _, _, _, _, hm⟩
        cases e <;> first | exact absurd rfl hne | exact hm.elim
    | false =>
      have hic : i ∈ chain := (mem_chain i).2 ⟨hin, hsi⟩
      have hir : i ∈ rest := by
        apply Classical.byContradiction
        intro hn
        rw [hch i hic hn] at hunl
        cases hunl
      cases rest with
      | nil => simp at hir
      | cons c rest =>
        have hci : c = i := by
          apply Classical.byContradiction
          intro hne
          obtain ⟨j, hj, haj⟩ := chainOk_spec rest c hcok i ((List.mem_cons.1 hir).resolve_left fun e => hne e.symm)
          have := anc haj ho hclo hpre
          rw [(hrest j hj).2] at this
          cases this
        subst hci
        have hcn : c ∉ rest := (List.nodup_cons.1 hnd).1
        simp only [ContD] at hcont
        split at hcont
        · -- on
          rename_i F' hone
          obtain ⟨e1, h1, h2, h3⟩ := oneA_like ho hlike hX hone
          refine oneA_sound (fr := F.envd e') (fr' := F'.envd e1) hC hst hrel hg h1 _ _ ?_ ?_
          · rintro a1 w1 ⟨B1, L1, hfs1, he1, hst1, hk1, hd1, _⟩ _
            obtain ⟨F2, hset, hcont2⟩ := drawGo_cont hcont
            obtain ⟨heag, hidem2⟩ := settle_spec hset
            obtain ⟨g1, g2, g3, g4, g5⟩ := eagerL_spec _ heag
            have hrest' : ∀ c' ∈ rest, c' ∈ chain ∧ (listed.setIfInBounds c true).getD c' false = false := by
              intro c' hc'
              have hne : c ≠ c' := by rintro rfl; exact hcn hc'
              exact ⟨(hrest c' (List.mem_cons_of_mem _ hc')).1, by
                rw [getD_set_other false hne]
                exact (hrest c' (List.mem_cons_of_mem _ hc')).2⟩
            refine ih _ rest _ _ F2 B1 L1 a1 w1 hfu hls' hclo' hrest' (fun c' hc' hcr => ?_) (chainOk_tail hcok) (fun j hj => ?_) (fun j hj => htodo j (List.mem_filter.1 hj).1) hidem2 hcont2 (by rw [g1]; exact hst1) ?_
              (hg.step (hfs1.step hst)) (g2.trans (hk1.trans hk)) ?_ (hd1.trans hd) (List.nodup_cons.1 hnd).2
            · by_cases e : c = c'
              · subst e; exact getD_set_self (by rw [hls]; exact hin)
              · exact keepT c' (hch c' hc' (by simp only [List.mem_cons, not_or]; exact ⟨fun h => e h.symm, hcr⟩))
            · rw [Nat.testBit_or, Bool.or_eq_true] at hj
              rcases hj with hj | hj
              · exact keepT j (hpast j hj)
              · exact keepT j (anc (show isAnc tab j c = true from hj) ho hclo hpre)
            · have hbase : ERelX (UnX ops simples (listed.setIfInBounds c true)) B1 L1 w1 F'.env a1.tmps := (ERelX.like (h3 rfl) he1).mono hXsub
              refine ⟨g4.trans hbase.1, fun x u y hu hnx hy => hbase.2 x u y ?_ hnx hy⟩
              rw [← hu, g5 x]
              intro j hj hs
              obtain ⟨hj1, hj2⟩ := List.mem_filter.1 hj
              obtain ⟨hj3, hj4⟩ := List.mem_filter.1 hj1
              refine hnx ⟨j, htodo j hj3, ?_, hs⟩
              obtain ⟨c', hc', hac⟩ := notNow_spec (by simpa using hj4 : isNow tab (maskOf (c :: rest)) j = false)
              obtain ⟨oj, dj, hoj, _⟩ := isSimple_spec ((mem_simple j).1 (htodo j hj3)).2
              have hjl : listed.getD j false = false := by
                cases hq : listed.getD j false with
                | false => rfl
                | true =>
                  have := anc hac hoj hclo (fun e he hb => hclo j oj hoj hq e he hb)
                  rw [(hrest c' hc').2] at this
                  cases this
              rw [getD_set_other false]
              · exact hjl
              · rintro rfl
                have := ((mem_simple _).1 (htodo _ hj3)).2
                rw [hsi] at this; cases this
            · rw [g1, g3]
              rw [hFk] at hfs1
              exact hfs.trans hfs1
          · rintro e a1 w1 hne ⟨B1, L1, _, _, _, _, _, hm⟩
            cases e <;> first | exact absurd rfl hne | exact hm.elim
        · -- a panic
          rename_i v F' hone
          obtain ⟨rfl, rfl⟩ := hcont
          obtain ⟨e1, h1, h2, h3⟩ := oneA_like ho hlike hX hone
          refine oneA_sound (fr := F.envd e') (fr' := F'.envd e1) hC hst hrel hg h1 _ _ (fun _ _ _ e => by cases e) ?_
          rintro e a1 w1 hne ⟨B1, L1, hfs1, he1, hst1, hk1, hd1, hm⟩
          rw [hFk] at hfs1
          exact hQ _ _ _ ⟨B1, L1, hfs.trans hfs1, allJunk_rel (by rw [h2.1]; exact he1.1), hst1, hk1.trans hk, hd1.trans hd, hm⟩
        · exact hcont.elim

theorem FS.drew {k : Nat} {B : Nat → Prop} {L : Loc} {w : World} {H : Heap} {mv : List Nat} : FS k B L w H mv B L w.drew H mv :=
  ⟨Nat.le_refl _, ⟨rfl, rfl, rfl⟩, fun _ _ _ => rfl, fun _ _ h => h, fun _ _ h _ => h, fun _ h => h, fun _ _ _ => ⟨rfl, rfl, rfl⟩, fun n h => .inl ⟨n, h, rfl⟩⟩

theorem drawB_sound (hm : P.follows .mixedOrders = true) (bs : Bool) : SoundDG P G (drawB P G pol bs) := by
  intro C hC id ops B L w fr fr' ex a hst he hg h Q hQ
  refine wp_region_any hm ?_
  unfold drawB at h
  simp only [] at h
  split at h
  case isFalse => cases h
  rename_i hc
  obtain ⟨F, hset, hcont⟩ := drawGo_cont h
  obtain ⟨heag, hidem⟩ := settle_spec hset
  obtain ⟨g1, g2, g3, g4, g5⟩ := eagerL_spec _ heag
  have hrep : ∀ i, (Array.replicate ops.size false).getD i false = false := fun i => by
    simp only [Array.getD]
    split <;> simp
  have hstep : Step B w B w.drew := step_drew B w
  refine draw_sound hC rfl rfl rfl hc.1 hQ ops.size _ _ _ _ F B L a w.drew ?_ (by simp) ?_ ?_ ?_ hc.2 ?_ ?_ hidem hcont (by rw [g1]; exact hst.drew) ?_ (hg.step hstep) g2 (by rw [g1, g3]; exact FS.drew) rfl ?_
  · unfold unl
    exact Nat.le_trans (List.length_filter_le _ _) (by simp)
  · intro j o _ hl
    rw [hrep] at hl; cases hl
  · exact fun c hc => ⟨hc, hrep c⟩
  · exact fun c hc hn => (hn hc).elim
  · exact fun i hi => by simp at hi
  · exact fun i hi => hi
  · refine ⟨g4.trans he.1, fun x u y hu hnx hy => ?_⟩
    have : fr.env[x]? = some u := by
      rw [← hu, g5 x]
      intro j hj hs
      exact hnx ⟨j, (List.mem_filter.1 hj).1, hrep j, hs⟩
    exact (he.2 x u y this hy).step hstep
  · exact List.Pairwise.filter _ List.nodup_range

theorem drawA_sound (hm : P.follows .mixedOrders = true) : SoundDG P G (drawA P G pol) := by
  intro C hC id ops B L w fr fr' ex a hst he hg h Q hQ
  unfold drawA at h
  split at h
  · rename_i r hr
    cases h
    exact drawB_sound hm false C hC id ops hst he hg hr Q hQ
  · exact drawB_sound hm true C hC id ops hst he hg h Q hQ

end
end Go.Am
end

section
namespace Go.Am
open Go Go.RowKit

section
variable {P : Program} {G : Nat → Option PV}

/-! ### contracts as calls of the machine -/
theorem FS.below {k : Nat} {B : Nat → Prop} {L : Loc} {w w' : World} {H : Heap} {mv : List Nat} (h : Below w.heap.size w w') : FS k B L w H mv B L w' H mv :=
  ⟨h.size, ⟨h.os, h.tape, h.output⟩, fun b hb _ => h.block b hb, fun _ _ h => h, fun _ _ h _ => h, fun _ h => h, fun _ _ _ => ⟨rfl, rfl, rfl⟩, fun n hn => .inl ⟨n, hn, rfl⟩⟩

theorem St.below {B : Nat → Prop} {L : Loc} {w w' : World} {H : Heap} (hst : St B L w H) (h : Below w.heap.size w w') : St B L w' H := by
  have hs : Step B w B w' := ⟨h.size, fun b hb _ => h.block b hb, fun _ _ h => h⟩
  exact ⟨fun n => (hst.rel n).step hs fun hl => h.block _ (hst.own n hl).2, fun n hl => ⟨(hst.own n hl).1, Nat.lt_of_lt_of_le (hst.own n hl).2 h.size⟩, hst.inj, fun b hb => Nat.lt_of_lt_of_le (hst.bnd b hb) h.size⟩

/-- a call that only adds to memory -/
theorem absBelow {f : FuncId} {args : List V} {H : Heap} {r : V} (h : ∀ (B : Nat → Prop) (L : Loc) (w : World) (vs : List Value), St B L w H → VRelL B L w args vs → GOk G B w →
    CallTo P f vs.toArray w fun e w' => Below w.heap.size w w' ∧ ∃ v, e = .returned v ∧ VRel B L w' r v) : AbsCall P G f args H ⟨.ret r, H, []⟩ := by
  intro B L w vs hst ha hg
  refine (h B L w vs hst ha hg).mono ?_
  rintro e w' ⟨hb, v, rfl, hv⟩
  exact ⟨B, L, FS.below hb, hst.below hb, hv⟩

theorem enters {f : FuncId} {fn : Func} {c : Code} (hf : P.funcs[f]? = some fn) (hname : (fn.name == "runtime.NumGoroutine") = false) (hb : fn.body = some c) (args : Array Value) (w : World) : (callFunc f args).run P w = .ok (.enter f args) w := by
  have hne : fn.name ≠ "runtime.NumGoroutine" := by simpa using hname
  simp [callFunc, hf, hne, hb]

/-- a contract of the library -/
theorem CallTo.of_calls {f : FuncId} {fn : Func} {c : Code} {args : Array Value} {w : World} {R : Ending → World → Prop} (hf : P.funcs[f]? = some fn) (hname : (fn.name == "runtime.NumGoroutine") = false) (hb : fn.body = some c) (h : Calls P f args w R) : CallTo P f args w R :=
  .inl ⟨enters hf hname hb args w, h⟩

theorem CallTo.calls {f : FuncId} {fn : Func} {c : Code} {args : Array Value} {w : World} {R : Ending → World → Prop} (hf : P.funcs[f]? = some fn) (hname : (fn.name == "runtime.NumGoroutine") = false) (hb : fn.body = some c) (h : CallTo P f args w R) : Calls P f args w R := by
  rcases h with ⟨_, h⟩ | ⟨v, w', h, _⟩
  · exact h
  · rw [enters hf hname hb] at h; cases h

/-- a row of the model that only reads -/
theorem CallTo.extern {f : FuncId} {fn : Func} {e : Array Value → Sem Value} {args : Array Value} {v : Value} {w : World} {R : Ending → World → Prop} (hf : P.funcs[f]? = some fn) (hname : (fn.name == "runtime.NumGoroutine") = false)
    (hb : fn.body.isNone = true) (hn : Extern.findNext fn = none) (he : Extern.find fn = some e) (hr : (e args).run P w = .ok v w) (h : R (.returned v) w) : CallTo P f args w R :=
  .inr ⟨v, w, by rw [run_callFunc_extern hf hname hb hn he, hr]; rfl, h⟩

theorem vrel1 {B : Nat → Prop} {L : Loc} {w : World} {x : V} {vs : List Value} (h : VRelL B L w [x] vs) : ∃ v, vs = [v] ∧ VRel B L w x v := by
  match vs, h with
  | [v], h => exact ⟨v, rfl, h.2 0 _ _ rfl rfl⟩
  | [], h => have := h.1; simp at this
  | _ :: _ :: _, h => have := h.1; simp at this

theorem vrel2 {B : Nat → Prop} {L : Loc} {w : World} {x y : V} {vs : List Value} (h : VRelL B L w [x, y] vs) : ∃ v u, vs = [v, u] ∧ VRel B L w x v ∧ VRel B L w y u := by
  match vs, h with
  | [v, u], h => exact ⟨v, u, rfl, h.2 0 _ _ rfl rfl, h.2 1 _ _ rfl rfl⟩
  | [], h => have := h.1; simp at this
  | [_], h => have := h.1; simp at this
  | _ :: _ :: _ :: _, h => have := h.1; simp at this

theorem vstr {B : Nat → Prop} {L : Loc} {w : World} {s : List UInt8} {v : Value} (h : VRel B L w (.p (.str s)) v) : v = .string ⟨s.toArray⟩ := by cases h.of_p; rfl
theorem vint {B : Nat → Prop} {L : Loc} {w : World} {k : IntKind} {n : Int} {v : Value} (h : VRel B L w (.p (.int k n)) v) : v = .int k n := by cases h.of_p; rfl

/-- abi.NoEscape -/
theorem abs_same {f : FuncId} {fn : Func} (hf : P.funcs[f]? = some fn) (hname : (fn.name == "runtime.NumGoroutine") = false) (hb : fn.body.isNone = true) (hn : Extern.findNext fn = none) (he : Extern.find fn = some Extern.AbiNoEscape.same)
    (x : V) (H : Heap) : AbsCall P G f [x] H ⟨.ret x, H, []⟩ := by
  refine absBelow fun B L w vs _ ha _ => ?_
  obtain ⟨v, rfl, hv⟩ := vrel1 ha
  exact CallTo.extern (e := Extern.AbiNoEscape.same) (v := v) hf hname hb hn he rfl ⟨Below.refl _ _, v, rfl, hv⟩

/-- bytealg.IndexByteString -/
theorem abs_indexByte {f : FuncId} {fn : Func} (hf : P.funcs[f]? = some fn) (hname : (fn.name == "runtime.NumGoroutine") = false) (hb : fn.body.isNone = true) (hn : Extern.findNext fn = none) (he : Extern.find fn = some Extern.BytealgIndexByte.indexByte)
    (s : List UInt8) (c : Int) (H : Heap) : AbsCall P G f [.p (.str s), .p (.int .u8 c)] H ⟨.ret (.p (.int .i64 (firstIdx ⟨s.toArray⟩ c.toNat.toUInt8))), H, []⟩ := by
  refine absBelow fun B L w vs _ ha _ => ?_
  obtain ⟨v, u, rfl, hv, hu⟩ := vrel2 ha
  obtain rfl := vstr hv
  obtain rfl := vint hu
  exact CallTo.extern hf hname hb hn he (run_indexByte_string _ _ w) ⟨Below.refl _ _, _, rfl, .p _ _ (.int _ _)⟩

/-! ### decimal numerals -/
def digitsK : Nat → Nat → List UInt8
  | 0, _ => []
  | k + 1, n => if n < 10 then [UInt8.ofNat (48 + n)] else digitsK k (n / 10) ++ [UInt8.ofNat (48 + n % 10)]

theorem digitsK_eq : ∀ (k n : Nat), n < 10 ^ (k + 1) → digitsK (k + 1) n = Lib.decDigits n
  | 0, n, h => by
    have : n < 10 := by simpa using h
    rw [Lib.decDigits, digitsK, if_pos this, dif_pos this]
  | k + 1, n, h => by
    rw [Lib.decDigits, digitsK]
    by_cases h1 : n < 10
    · rw [if_pos h1, dif_pos h1]
    · rw [if_neg h1, dif_neg h1, digitsK_eq k (n / 10) (by rw [Nat.pow_succ] at h; omega)]

def itoaK (n : Int) : List UInt8 := if n < 0 then 45 :: digitsK 20 n.natAbs else digitsK 20 n.toNat

theorem itoaK_eq {n : Int} (h0 : -9223372036854775808 ≤ n) (h1 : n ≤ 9223372036854775807) : itoaK n = Lib.itoa n := by
  unfold itoaK Lib.itoa
  split
  · rw [digitsK_eq 19 _ (by omega)]
  · rw [digitsK_eq 19 _ (by omega)]

/-! ### tables of the library -/
def tabV (k : IntKind) (zs : List Int) : PV := .agg (zs.map fun z => .int k z)

theorem tab_gok {name : String} {k : IntKind} {zs : List Int} {g : Nat} {W : World} (h : Lib.TabIs P W name k zs) (hg : P.globalNamed name = some g) :
    PRel (fun _ => False) W (.cptr (tabV k zs)) (.pointer (some ⟨g, 0, none⟩)) ∧ ∃ c t fr, W.heap[g]? = some (.cells c t fr) ∧ c.size = (tabV k zs).cells.length := by
  unfold Lib.TabIs World.var? at h
  rw [hg] at h
  simp only [Option.bind_some] at h
  split at h
  case h_2 => cases h
  rename_i cs t fr hw
  cases h
  refine ⟨.cptr _ g 0 (fun i => .int k (zs.getD i 0)) (fun h => h) (Array.getElem?_eq_some_iff.1 hw).1 ?_ (fun i hi => ?_) (fun i x hx => ?_), _, t, fr, hw, by simp [tabV, PV.cells]⟩
  · intro x hx
    simp only [tabV, PV.cells, List.mem_map] at hx
    obtain ⟨z, _, rfl⟩ := hx
    rfl
  · simp only [tabV, PV.cells, List.length_map] at hi
    simp [World.cell?, hw, List.getD, hi]
  · simp only [tabV, PV.cells, List.getElem?_map, Option.map_eq_some_iff] at hx
    obtain ⟨z, hz, rfl⟩ := hx
    simp [List.getD, hz]
    exact .int k z

theorem tab_of_gok {B : Nat → Prop} {name : String} {k : IntKind} {zs : List Int} {g : Nat} {w : World} (h : GOk G B w) (hG : G g = some (tabV k zs)) (hg : P.globalNamed name = some g) : Lib.TabIs P w name k zs := by
  obtain ⟨h1, c, t, fr, hw, hl⟩ := h g _ hG
  unfold Lib.TabIs World.var?
  rw [hg]
  simp only [Option.bind_some, hw, Option.some.injEq]
  simp only [tabV, PV.cells, List.length_map] at hl
  apply Array.ext_getElem?
  intro i
  generalize hd : tabV k zs = d at h1
  cases h1 with
  | cptr d b o u hb hw' hf hc hr =>
    subst hd
    by_cases hi : i < zs.length
    · have h2 := hc i (by simpa [tabV, PV.cells] using hi)
      have h3 := hr i (.int k zs[i]) (by simp [tabV, PV.cells, hi])
      simp only [World.cell?, hw, Nat.zero_add] at h2
      have h4 : u i = .int k zs[i] := by generalize u i = q at h3; cases h3; rfl
      rw [h4] at h2
      simp only [Option.isSome_none, Bool.false_eq_true, if_false] at h2
      rw [show c[i]? = some (.int k zs[i]) from by simpa using h2]
      simp [hi]
    · rw [Array.getElem?_eq_none (by omega), Array.getElem?_eq_none (by simp; omega)]

/-! ### the end -/
theorem below_of_FS {B B' : Nat → Prop} {L L' : Loc} {w w' : World} {mv : List Nat} {H' : Heap} (h : FS 0 B L w [] [] B' L' w' H' mv) : Below w.heap.size w w' :=
  ⟨h.same.1, h.same.2.1, h.same.2.2, h.size, fun b hb => h.own b hb fun n hn => by simp [Heap.at, HO.live] at hn⟩

open ChangeShapes WideShapes in
/-- the post of a law: what was there is untouched -/
theorem post_of_below {H : Type} {enc : TypeId × Value → H} {f : Func} {s : ChangeSpec} {apart fresh handsOn again : Bool} {W W' : World} {args : Array Value} {v : Value} {ds gs : List (DataW H)} {before pa pv : List MemPlace}
    (hW : DataW.Whole enc P f.params.toList s.vars apart W args.toList ds gs before)
    (hres : ∀ (b : Nat) (sp : Nat → Bool) (hd : Bool), DataW.TrodAll enc P W' b sp hd f.resultTypes.toList (v.resultList f.resultTypes.size) (s.fn H (ds ++ gs)).results [])
    (hargs : ∀ sp : Nat → Bool, (∀ p ∈ before, sp p.block = true) → DataW.TrodAll enc P W' 0 sp true f.params.toList args.toList (s.fn H (ds ++ gs)).args pa)
    (hvars : ∀ sp : Nat → Bool, (∀ p ∈ before, sp p.block = true) → DataW.TrodVars enc P W' sp s.vars (s.fn H (ds ++ gs)).vars pv)
    (hps : before = pa ++ pv) (hb : Below W.heap.size W W')
    (hok : ∀ (j : Nat) (t : TypeId) (r : Value), f.resultTypes[j]? = some t → (v.resultList f.resultTypes.size)[j]? = some r → Value.okWide P W' .any 0 t r) :
    s.post enc P f apart fresh handsOn again W args v W' := by
  have hold : ∀ p ∈ before, (fun b => decide (b < W.heap.size)) p.block = true := fun p hp => by simpa using hW.lt p hp
  refine ⟨ds, gs, before, [], pa, pv, hW, hres _ _ _, hargs _ hold, hvars _ hold, hb.frame _, fun _ => ?_⟩
  have hlt := hW.lt
  obtain ⟨_, _, _, _, _, hz, hn⟩ := hW
  refine ⟨hok, _, _, ([] ++ pa) ++ pv, ⟨[] ++ pa, pv, trodAll_append (hargs _ (fun _ _ => rfl)) (hres _ _ _), hvars _ (fun _ _ => rfl), rfl, ?_, ?_⟩, ?_⟩
  · intro b off hp
    have hp' : MemPlace.cell b off ∈ before := by rw [hps]; simpa using hp
    rw [hb.frozen (hlt _ hp')]
    exact hz b off hp'
  · intro ha
    have := hn ha
    rw [hps] at this
    simpa using this
  · intro p hp _
    rw [hps]
    simpa using hp

end
end Go.Am
end
