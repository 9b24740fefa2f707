/-
The walk through the reader of JSON: a whole text.
-/
import Derived.Test.YtaoejccgdpppgaaGreatDoorPJ
import Derived.Test.YtaoejccgdpppgaaGreatDoorPD
import Derived.ChangeAnyMap
import Derived.Test.YtaoejccgdpppgaaGreatDoorPG
import Derived.Test.YtaoejccgdpppgaaGreatDoorPE
import Derived.Test.YtaoejccgdpppgaaGreatDoorRows
import Derived.LaidLaws
import Derived.LaidSub
import Derived.Lib.LaidTab
import Derived.Deep.DeepHandedRow
import Derived.Test.YtaoejccgdpppgaaGreatDoorCards
import Derived.Test.YtaoejccgdpppgaaGreatDoorTie
import Derived.WalkKit
import Derived.ProofKit
import Derived.OpenShut
import Derived.Deep.DeepWitnessRowRef
import Derived.MakeChecks
import Derived.Carry
import Derived.Lay

section
namespace Go.Proofs.YtaoejccgdpppgaaGreatDoor
open Go Go.Am Go.RowKit
set_option maxRecDepth 100000
noncomputable abbrev whole_c : Code := F.jread_whole_c.getD .skip
theorem whole_shape : ∃ o0 o1 : Oper, whole_c = .seq (seqL whole_c) (.seq (.region 1 #[o0, o1] false) (seqR (seqR whole_c))) ∧ o0.op = .makeFunc (.func F.jread_whole_1) #[] #[.tmp 2, .tmp 4, .tmp 5] ∧ o0.dst = some 7 ∧ o0.guard = none ∧
    o1.op = .defer ⟨.value (.tmp 7), #[], #[]⟩ ∧ o1.dst = none ∧ o1.guard = none :=
  ⟨_, _, rfl, rfl, rfl, rfl, rfl, rfl, rfl⟩
theorem HLe.dead4 (a b c o : HO) : HLe [a, b, c, o] [a, b, c, .dead] := by
  refine ⟨fun n B L w h => ?_, fun n h => ?_, rfl⟩
  · rcases n with _ | _ | _ | _ | n
    · exact h
    · exact h
    · exact h
    · exact .dead
    · exact h
  · rcases n with _ | _ | _ | _ | n
    · exact h
    · exact h
    · exact h
    · exact h.elim
    · exact h
def zT : PV := .agg [.int .i64 0, .int .i64 0, .str [], .nils, .nils]
def whV : Option (Int × Int) → PV → PV
  | none, v => v
  | some _, _ => zT
def whF (t : Str) : Option (Int × Int) → PV → PV
  | none, f => f
  | some (e, a), _ => faultP t a e
def whX : Option (Int × Int) → Ex
  | none => .ret
  | some (e, a) => .pan (wrongP e a)
def whK (t : Str) (x : Option (Int × Int)) (v f : PV) : Post := fun ex σ H mv => mv = [] ∧ Am.look σ 4 = .ptr 1 0 ∧ Am.look σ 5 = .ptr 2 0 ∧ (∃ o, H = whH t v f o) ∧ ex = whX x
theorem ptr_env {B : Nat → Prop} {L : Am.Loc} {w : World} {tmps : Array Value} {σ : Env} (hb : Bdd 21 σ) (he : ERel B L w (toEnv 21 σ) tmps) (h4 : Am.look σ 4 = .ptr 1 0) (h5 : Am.look σ 5 = .ptr 2 0) {B' : Nat → Prop} {L' : Am.Loc} {w' : World}
    (h1 : L'.blk 1 = L.blk 1) (h2 : L'.blk 2 = L.blk 2) : ERel B' L' w' (toEnv 21 [(4, .ptr 1 0), (5, .ptr 2 0)]) tmps := by
  have hlen : tmps.toList.length = 21 := by have := he.1; rw [toEnv_length] at this; exact this.symm
  refine ⟨by rw [toEnv_length, hlen], fun i x y hx hy => ?_⟩
  have hi : i < 21 := by rw [← hlen]; exact (List.getElem?_eq_some_iff.1 hy).1
  rw [toEnv_get, if_pos hi] at hx
  cases hx
  have hv := he.2 i (Am.look σ i) y (by rw [toEnv_get, if_pos hi]) hy
  by_cases e4 : i = 4
  · subst e4
    rw [h4] at hv
    rw [show Am.look [(4, .ptr 1 0), (5, .ptr 2 0)] 4 = .ptr 1 0 from rfl]
    cases hv
    rw [← h1]
    exact .ptr 1 0
  · by_cases e5 : i = 5
    · subst e5
      rw [h5] at hv
      rw [show Am.look [(4, .ptr 1 0), (5, .ptr 2 0)] 5 = .ptr 2 0 from rfl]
      cases hv
      rw [← h2]
      exact .ptr 2 0
    · rw [look_cons, if_neg (by omega), look_cons, if_neg (by omega)]
      exact .junk _
theorem whole_W0 (t : Str) (l : List PV) : W PP GG polG 21 0 (seqL whole_c) [(0, .p (.str t)), (1, .p (.lst false l))] [] [] (fun ex σ H mv => ex = .normal ∧ σ = [(5, .ptr 2 0), (4, .ptr 1 0), (2, .ptr 0 0), (0, .p (.str t)), (1, .p (.lst false l))] ∧
      H = [.var T.string (.p (.str t)), .var T.api_Value (.p (.agg [.int .i64 0, .int .i64 0, .str [], .nils, .nils])), .var T.api_Fault (.p noFault)] ∧ mv = []) := by
  unfold noFault
  conv => whnf
  exact ⟨rfl, rfl, rfl, rfl⟩
theorem FS.k0 {k : Nat} {B B' : Nat → Prop} {L L' : Am.Loc} {w w' : World} {H H' : Heap} {mv mv' : List Nat} (h : FS k B L w H mv B' L' w' H' mv') : FS 0 B L w H mv B' L' w' H' mv' :=
  ⟨h.size, h.same, h.own, h.sub, h.keep, h.mvs, fun _ hn _ => absurd hn (Nat.not_lt_zero _), h.fresh⟩
theorem FS.nil {B B' : Nat → Prop} {L L' : Am.Loc} {w w' : World} {H H' : Heap} {mv mv' : List Nat} (h : FS 0 B L w H mv B' L' w' H' mv') : FS 0 B L w H mv B' L' w' [] mv' :=
  ⟨h.size, h.same, h.own, h.sub, h.keep, h.mvs, h.loc, fun n hn => by rw [Heap.at_nil] at hn; exact hn.elim⟩
theorem St.nil {B : Nat → Prop} {L : Am.Loc} {w : World} {H : Heap} (h : St B L w H) : St B L w [] :=
  ⟨fun n => by rw [Heap.at_nil]; exact .dead, fun n hn => by rw [Heap.at_nil] at hn; exact hn.elim, fun n m hn => by rw [Heap.at_nil] at hn; exact hn.elim, h.bnd⟩
theorem whole_of (t : Str) (ht : t.length ≤ 1073741824) (l : List PV) (x : Option (Int × Int)) (hx : ∀ e a, x = some (e, a) → -1073741824 ≤ a ∧ a ≤ 1073741824) (a1 a2 a3 a4 a5 b1 b2 b3 b4 : PV) (hf : ∀ e : Int × Int, x = some e → PV.agg [b1, b2, b3, b4] = noFault)
    (hW : W PP GG polG 21 3 (seqR (seqR whole_c)) [(7, .func (.func F.jread_whole_1) [.ptr 0 0, .ptr 1 0, .ptr 2 0]), (5, .ptr 2 0), (4, .ptr 1 0), (2, .ptr 0 0), (0, .p (.str t)), (1, .p (.lst false l))]
      [.var T.string (.p (.str t)), .var T.api_Value (.p (.agg [.int .i64 0, .int .i64 0, .str [], .nils, .nils])), .var T.api_Fault (.p noFault)] [] (whK t x (.agg [a1, a2, a3, a4, a5]) (.agg [b1, b2, b3, b4]))) :
    AbsCall PP GG F.jread_whole [.p (.str t), .p (.lst false l)] [] ⟨.ret (.tup [.p (whV x (.agg [a1, a2, a3, a4, a5])), .p (whF t x (.agg [b1, b2, b3, b4]))]), [], []⟩ := by
  obtain ⟨⟨fn, hfn, hbody, hnt, hrs, hname⟩, _, hok⟩ := F.jread_whole_is
  obtain ⟨⟨gn, hgn, hgbody, hgnt, hgrs, hgname⟩, _, hgok⟩ := F.jread_whole_1_is
  obtain ⟨o0, o1, hc, h0, hd0, hg0, h1, hd1, hg1⟩ := whole_shape
  intro B L w vs hst ha hg
  refine .inl ⟨enters hfn hname hbody _ w, calls_of_wp_defers hfn hbody ?_⟩
  show whole_c.wp PP _ _ _
  have hargs : vs.length = 2 := ha.1.symm
  have he : ERel B L w (toEnv 21 [(0, .p (.str t)), (1, .p (.lst false l))]) (vs.toArray ++ Array.replicate (fn.ntmps - vs.toArray.size) undef) := by
    have e : (vs.toArray ++ Array.replicate (fn.ntmps - vs.toArray.size) undef).toList = vs ++ List.replicate 19 undef := by
      rw [Array.toList_append, Array.toList_replicate, List.size_toArray, hargs, hnt]
    have e2 : toEnv 21 [(0, .p (.str t)), (1, .p (.lst false l))] = [.p (.str t), .p (.lst false l)] ++ List.replicate 19 V.junk := rfl
    rw [e2]
    unfold ERel
    rw [e]
    refine ha.append ⟨by simp, fun i x y hx _ => ?_⟩
    rw [List.getElem?_replicate] at hx
    split at hx
    · cases hx; exact .junk _
    · cases hx
  generalize vs.toArray ++ Array.replicate (fn.ntmps - vs.toArray.size) undef = tmps at he
  rw [hc]
  refine wp_seq ?_
  have hW0 := whole_W0 t l
  have hb0 : Bdd 21 ([(0, .p (.str t)), (1, .p (.lst false l))] : Env) := BddL.bdd ⟨by decide, by decide, trivial⟩
  refine W_sound mixP _ hW0 hb0 (a := { tmps := tmps, defers := [] }) hst he hg fun e a' w' hp => ?_
  obtain ⟨ex, σ1, H1, mv1, ⟨rfl, rfl, rfl, rfl⟩, hb1, B1, L1, hfs1, he1, hst1, hk1, hdf1, hm1⟩ := hp
  have hee : e = .normal := by cases e <;> first | rfl | exact hm1.elim
  subst hee
  show (Code.seq _ _).wp PP _ _ _
  refine wp_seq ?_
  refine wp_region ?_
  have hl : List.range (#[o0, o1] : Array Oper).size = [0, 1] := rfl
  rw [hl]
  have hsz : a'.tmps.size = 21 := by have := he1.1; rw [toEnv_length] at this; simpa using this.symm
  obtain ⟨cs, hcs⟩ : ∃ cs : List Value, cs = [a'.eval (.tmp 2), a'.eval (.tmp 4), a'.eval (.tmp 5)] := ⟨_, rfl⟩
  have hcaps : VRelL B1 L1 w' [.ptr 0 0, .ptr 1 0, .ptr 2 0] cs := by
    rw [hcs]
    exact VRelL.cons (he1.get 2) (VRelL.cons (he1.get 4) (VRelL.cons (he1.get 5) VRelL.nil))
  obtain ⟨Fv, hFv⟩ : ∃ Fv : Value, Fv = .func (.func F.jread_whole_1) #[] cs.toArray := ⟨_, rfl⟩
  have e0 : (execOp a'.eval o0).run PP w' = .ok (.value Fv) w' := by
    rw [hFv, hcs]
    simp [execOp, h0, Instr.makeFunc]
  have e1 : (execOp (a'.put (some 7) Fv).eval o1).run PP w' = .ok (.defer ⟨.fn (.func F.jread_whole_1) cs.toArray, #[]⟩) w' := by
    have hev : (a'.put (some 7) Fv).eval (.tmp 7) = Fv := by simp [Act.eval, Act.put, Array.getD, hsz]
    simp only [execOp, h1, resolve, Array.map_empty, hev]
    rw [hFv]
    rfl
  have ho0 : (#[o0, o1] : Array Oper)[0]? = some o0 := rfl
  have ho1 : (#[o0, o1] : Array Oper)[1]? = some o1 := rfl
  simp only [wpOps, ho0, ho1, Region.wanted, hg0, hg1, if_true, Oper.wp, e0, Oper.upon_value, hd0, e1, Oper.upon_defer, hd1]
  refine .inl (.inl ?_)
  have hFr : VRel B1 L1 w' (.func (.func F.jread_whole_1) [.ptr 0 0, .ptr 1 0, .ptr 2 0]) Fv := by
    rw [hFv]
    exact .func _ _ cs hcaps.1 hcaps.2
  have he2 := he1.put (a := a') (some 7) hFr
  simp only [putO, toEnv_set] at he2
  have hb2 : Bdd 21 ([(7, .func (.func F.jread_whole_1) [.ptr 0 0, .ptr 1 0, .ptr 2 0]), (5, .ptr 2 0), (4, .ptr 1 0), (2, .ptr 0 0), (0, .p (.str t)), (1, .p (.lst false l))] : Env) :=
    BddL.bdd ⟨by decide, by decide, by decide, by decide, by decide, by decide, trivial⟩
  have hg1' := hg.step (hfs1.step hst)
  refine W_sound mixP _ hW hb2 (a := { (a'.put (some 7) Fv) with defers := ⟨.fn (.func F.jread_whole_1) cs.toArray, #[]⟩ :: (a'.put (some 7) Fv).defers }) hst1 he2 hg1' fun e a'' w'' hp => ?_
  obtain ⟨ex, σ2, H2, mv2, ⟨rfl, hl4, hl5, ⟨o, rfl⟩, rfl⟩, hb3, B2, L2, hfs2, he3, hst2, hk2, hdf2, hm2⟩ := hp
  have hst2' : St B2 L2 w'' (whH t (.agg [a1, a2, a3, a4, a5]) (.agg [b1, b2, b3, b4]) .dead) := hst2.le (HLe.dead4 _ _ _ o)
  have hfs2' := hfs2.le (HLe.dead4 (.var T.string (.p (.str t))) (.var T.api_Value (.p (.agg [a1, a2, a3, a4, a5]))) (.var T.api_Fault (.p (.agg [b1, b2, b3, b4]))) o)
  have hg2 := hg1'.step (hfs2.step hst1)
  have ha' : VRelL B2 L2 w'' [.ptr 0 0, .ptr 1 0, .ptr 2 0] cs := by
    refine ⟨hcaps.1, fun i x y hx hy => ?_⟩
    refine ((hcaps.2 i x y hx hy).step (hfs2.step hst1)).loc fun n hn => ?_
    have hn3 : n < 3 := by
      rcases i with _ | _ | _ | i
      · cases hx; simp [V.names] at hn; omega
      · cases hx; simp [V.names] at hn; omega
      · cases hx; simp [V.names] at hn; omega
      · simp at hx
    exact hfs2.loc n hn3 (by simp)
  have hd : a''.defers = [⟨.fn (.func F.jread_whole_1) cs.toArray, #[]⟩] := by
    rw [hdf2]
    show _ :: (a'.put (some 7) Fv).defers = _
    rw [show (a'.put (some 7) Fv).defers = a'.defers from rfl, hdf1]
  have hinv : (invoke (.fn (.func F.jread_whole_1) cs.toArray) #[]).run PP w'' = .ok (.enter F.jread_whole_1 cs.toArray) w'' := by
    simp [invoke]
  have fin : ∀ (c1 c2 c3 c4 c5 d1 d2 d3 d4 : PV) (w3 : World) ex3 σ3 H3 B3 L3, whE t (.agg [c1, c2, c3, c4, c5]) (.agg [d1, d2, d3, d4]) ex3 σ3 H3 [] →
      FS 4 B2 L2 w'' (whH t (.agg [a1, a2, a3, a4, a5]) (.agg [b1, b2, b3, b4]) .dead) [] B3 L3 w3 H3 [] → St B3 L3 w3 H3 →
      ∃ vv, (results fn a''.tmps).run PP w3 = .ok vv w3 ∧ ∃ B' L', FS 0 B L w [] [] B' L' w3 [] [] ∧ St B' L' w3 [] ∧ VRel B' L' w3 (.tup [.p (.agg [c1, c2, c3, c4, c5]), .p (.agg [d1, d2, d3, d4])]) vv := by
    intro c1 c2 c3 c4 c5 d1 d2 d3 d4 w3 ex3 σ3 H3 B3 L3 hK3 hfs3 hst3
    obtain ⟨_, _, o3, rfl⟩ := hK3
    have he4 : ERel B3 L3 w3 (toEnv 21 [(4, .ptr 1 0), (5, .ptr 2 0)]) a''.tmps := ptr_env hb3 he3 hl4 hl5 (hfs3.loc 1 (by decide) (by simp)).1 (hfs3.loc 2 (by decide) (by simp)).1
    obtain ⟨vv, hvv, hr⟩ := results_run (P := PP) (fr := ⟨toEnv 21 [(4, .ptr 1 0), (5, .ptr 2 0)], _, 0, []⟩) (fn := fn) (vs := [.p (.agg [c1, c2, c3, c4, c5]), .p (.agg [d1, d2, d3, d4])]) hst3 he4 (by rw [hrs]; rfl)
    exact ⟨vv, hvv, B3, L3, FS.nil ((hfs1.trans (FS.k0 hfs2')).trans (FS.k0 hfs3)), St.nil hst3, hr⟩
  cases x with
  | none =>
    have hee : e = .ret := by cases e <;> first | rfl | exact hm2.elim
    subst hee
    show Leaves PP fn a''.tmps _ a''.defers .returning w''
    rw [hd]
    refine leaves_cons (by simp) hinv ((cl_none t _ _ hst2' ha' hg2).mono ?_)
    rintro e3 u3 w3 ⟨⟨r, rfl⟩, rfl, ex3, σ3, H3, B3, L3, hK3, hfs3, hst3⟩
    obtain ⟨vv, hvv, B', L', h1, h2, h3⟩ := fin _ _ _ _ _ _ _ _ _ w3 ex3 σ3 H3 B3 L3 hK3 hfs3 hst3
    exact ⟨vv, hvv, B', L', h1, h2, h3⟩
  | some ea =>
    obtain ⟨er, ar⟩ := ea
    have hbf := hf _ rfl
    obtain ⟨u, rfl, hu⟩ := ExMatch.pan_inv hm2
    show Leaves PP fn a''.tmps _ a''.defers (.panicking [⟨u, false, false⟩]) w''
    rw [hd]
    have hst2'' := hst2'
    rw [hbf] at hst2''
    refine leaves_cons (by simp) hinv ((cl_some t ht er ar (hx _ _ rfl) a1 a2 a3 a4 a5 hst2'' ha' hg2 u hu).mono ?_)
    rintro e3 u3 w3 ⟨⟨r, rfl⟩, rfl, ex3, σ3, H3, B3, L3, hK3, hfs3, hst3⟩
    rw [← hbf] at hfs3
    obtain ⟨vv, hvv, B', L', h1, h2, h3⟩ := fin _ _ _ _ _ _ _ _ _ w3 ex3 σ3 H3 B3 L3 hK3 hfs3 hst3
    exact ⟨vv, hvv, B', L', h1, h2, h3⟩
theorem tup_nils (f : PV) : VLe (.tup [.p zT, .p f]) (.tup [.p (Tree.mk 0 0 [] [] []).enc, .p f]) :=
  VLe.tup (show VLeL [.p zT, .p f] [.p (Tree.mk 0 0 [] [] []).enc, .p f] from ⟨tree_nils 0 0 [], VLe.refl _, trivial⟩)
theorem faultE_ne (t : Str) (e : Int × Int) (h : e.1 ≠ 0) : faultE t e = faultP t e.2 e.1 := by unfold faultE; rw [if_neg h]
theorem jread_whole (t : Str) (ht : t.length ≤ 1073741824) (ws : List Wd) (hw : WsOk ws) (hne : 0 < ws.length) :
    AbsCall PP GG F.jread_whole [.p (.str t), .p (.lst false (ws.map Wd.enc))] [] ⟨.ret (.tup [.p (wholeS ws).1.enc, .p (faultE t (wholeS ws).2)]), [], []⟩ := by
  have hV := reader_value ws hw (3 * ws.length + 1) 1 0 0 hne (by omega) (by omega) (by omega) (by omega) (by omega)
  have hok := (okR_all hw (3 * ws.length + 1)).1 1 0 0 hne
  have her := (errR_all hw (3 * ws.length + 1)).1 1 0 0 hne (by omega)
  have hws := hw.len
  unfold wholeS
  cases hr : valR (3 * ws.length + 1) ws 1 0 0 with
  | error e =>
    rw [hr] at hV her
    obtain ⟨e, a⟩ := e
    obtain ⟨h1, h2, h3⟩ := her
    simp only [] at h1 h2 h3
    dsimp only []
    rw [faultE_ne t (e, a) (by simp only []; omega)]
    refine (whole_of t ht (ws.map Wd.enc) (some (e, a)) (by rintro _ _ ⟨⟩; omega) (.int .i64 0) (.int .i64 0) (.str []) .nils .nils (.int .i64 0) (.int .i64 0) (.int .i64 0) (.int .i64 0) (fun _ _ => rfl) ?_).le (CLe.ret (tup_nils _))
    unfold noFault
    conv => whnf
    repeat' ((first
     | ((with_reducible first | refine Br.dec ?_ ?_ | refine Br.ndec ?_ ?_) <;> intro hb <;> (try simp only [ZZ] at hb) <;> (first | omega | contradiction | skip))
     | (with_reducible first | refine Br.tt rfl ?_ | refine Br.ff rfl ?_ | refine Br.ff (isEmptyCons _ _) ?_)
     | (refine Side.mk ?_ ?_; focus (first | omega | (dsimp only [InR, Int.reduceToNat, IntKind.bits, Int.reducePow]; omega) | (simp [CC]; done) | (constructor <;> omega)))
     | with_reducible refine Br.not ?_
     | (with_reducible first | refine Br.tt (by assumption) ?_ | refine Br.ff (by assumption) ?_)
     | (refine Br.mk ?_ ?_ <;> intro hb <;> (try simp only [ZZ] at hb) <;> (first | omega | contradiction | skip))
     | refine Src.whole ⟨rfl, rfl⟩ ?_ | refine FrzV.whole ?_
     | refine CallW.use (hV) ?_) <;> conv => whnf)
    exact ⟨rfl, rfl, rfl, ⟨_, rfl⟩, rfl⟩
  | ok x =>
    obtain ⟨v, j, m⟩ := x
    rw [hr] at hV hok
    obtain ⟨g1, g2, g3, g4⟩ := hok
    have hat := (hw.at g2).1
    have hW := reader_word ws j m _ hat (by omega)
    have hF := reader_failD ws j m 4 _ hat (by omega)
    have ha := hw.a j
    dsimp only []
    obtain ⟨x1, x2, x3, x4, x5⟩ := v
    by_cases hk : (wdAt ws j).k = 0
    · rw [if_pos hk]
      refine (whole_of t ht (ws.map Wd.enc) none (by simp) (.int .i64 x1) (.int .i64 x2) (.str x3) (.lst false (Tree.encL x4)) (.lst false (Tree.encM x5)) (.int .i64 0) (.int .i64 0) (.int .i64 0) (.int .i64 0) (fun _ _ => rfl) ?_)
      generalize wdAt ws j = w at *
      obtain ⟨k, s, a⟩ := w
      simp only [] at hk
      subst hk
      unfold noFault
      conv => whnf
      repeat' ((first
       | ((with_reducible first | refine Br.dec ?_ ?_ | refine Br.ndec ?_ ?_) <;> intro hb <;> (try simp only [ZZ] at hb) <;> (first | omega | contradiction | skip))
       | (with_reducible first | refine Br.tt rfl ?_ | refine Br.ff rfl ?_ | refine Br.ff (isEmptyCons _ _) ?_)
       | (refine Side.mk ?_ ?_; focus (first | omega | (dsimp only [InR, Int.reduceToNat, IntKind.bits, Int.reducePow]; omega) | (simp [CC]; done) | (constructor <;> omega)))
       | with_reducible refine Br.not ?_
       | (with_reducible first | refine Br.tt (by assumption) ?_ | refine Br.ff (by assumption) ?_)
       | (refine Br.mk ?_ ?_ <;> intro hb <;> (try simp only [ZZ] at hb) <;> (first | omega | contradiction | skip))
       | refine Src.whole ⟨rfl, rfl⟩ ?_ | refine FrzV.whole ?_
       | refine CallW.use (hV) ?_
       | refine CallW.use (hW) ?_) <;> conv => whnf)
      exact ⟨rfl, rfl, rfl, ⟨_, rfl⟩, rfl⟩
    · rw [if_neg hk]
      generalize wdAt ws j = w at *
      obtain ⟨k, s, a⟩ := w
      simp only [] at hk ha
      dsimp only []
      rw [faultE_ne t (4, a) (by simp)]
      refine (whole_of t ht (ws.map Wd.enc) (some (4, a)) (by rintro _ _ ⟨⟩; omega) (.int .i64 x1) (.int .i64 x2) (.str x3) (.lst false (Tree.encL x4)) (.lst false (Tree.encM x5)) (.int .i64 0) (.int .i64 0) (.int .i64 0) (.int .i64 0) (fun _ _ => rfl) ?_).le (CLe.ret (tup_nils _))
      unfold noFault
      conv => whnf
      repeat' ((first
       | ((with_reducible first | refine Br.dec ?_ ?_ | refine Br.ndec ?_ ?_) <;> intro hb <;> (try simp only [ZZ] at hb) <;> (first | omega | contradiction | skip))
       | (with_reducible first | refine Br.tt rfl ?_ | refine Br.ff rfl ?_ | refine Br.ff (isEmptyCons _ _) ?_)
       | (refine Side.mk ?_ ?_; focus (first | omega | (dsimp only [InR, Int.reduceToNat, IntKind.bits, Int.reducePow]; omega) | (simp [CC]; done) | (constructor <;> omega)))
       | with_reducible refine Br.not ?_
       | (with_reducible first | refine Br.tt (by assumption) ?_ | refine Br.ff (by assumption) ?_)
       | (refine Br.mk ?_ ?_ <;> intro hb <;> (try simp only [ZZ] at hb) <;> (first | omega | contradiction | skip))
       | refine Src.whole ⟨rfl, rfl⟩ ?_ | refine FrzV.whole ?_
       | refine CallW.use (hV) ?_
       | refine CallW.use (hW) ?_
       | refine CallW.use (hF) ?_) <;> conv => whnf)
      exact ⟨rfl, rfl, rfl, ⟨_, rfl⟩, rfl⟩
theorem jread_Parse (t : Str) (ht : t.length ≤ 1000000) : AbsCall PP GG F.jread_Parse [.p (.str t)] [] ⟨.ret (.tup [.p (parseS t).1.enc, .p (faultE t (parseS t).2)]), [], []⟩ := by
  have hC := jlex_Cut t ht
  unfold parseS
  by_cases h0 : (cutT t).2.1 = 0
  · rw [if_pos h0]
    have hw := cutT_ok t h0
    have hW := jread_whole t (by omega) _ hw (cutT_pos t h0)
    rw [show faultE t (cutT t).2 = noFault by unfold faultE; rw [if_pos h0]] at hC
    generalize (cutT t).1 = ws at *
    generalize wholeS ws = R at *
    obtain ⟨⟨x1, x2, x3, x4, x5⟩, e⟩ := R
    by_cases he : e.1 = 0
    · unfold faultE at hW ⊢
      rw [if_pos he] at hW ⊢
      refine absCall_of (pol := polG) mixP F.jread_Parse_is ?_
      conv => whnf
      repeat' ((first
       | ((with_reducible first | refine Br.dec ?_ ?_ | refine Br.ndec ?_ ?_) <;> intro hb <;> (try simp only [ZZ] at hb) <;> (first | omega | contradiction | skip))
       | (with_reducible first | refine Br.tt rfl ?_ | refine Br.ff rfl ?_ | refine Br.ff (isEmptyCons _ _) ?_)
       | (refine Side.mk ?_ ?_; focus (first | omega | (dsimp only [InR, Int.reduceToNat, IntKind.bits, Int.reducePow]; omega) | (simp [CC]; done) | (constructor <;> omega)))
       | with_reducible refine Br.not ?_
       | (with_reducible first | refine Br.tt (by assumption) ?_ | refine Br.ff (by assumption) ?_)
       | (refine Br.mk ?_ ?_ <;> intro hb <;> (try simp only [ZZ] at hb) <;> (first | omega | contradiction | skip))
       | refine Src.whole ⟨rfl, rfl⟩ ?_ | refine FrzV.whole ?_
       | refine CallW.use (hC) ?_
       | refine CallW.use (hW) ?_) <;> conv => whnf)
      exact CLe.eq rfl
    · unfold faultE at hW ⊢
      rw [if_neg he] at hW ⊢
      refine absCall_of (pol := polG) mixP F.jread_Parse_is ?_
      conv => whnf
      repeat' ((first
       | ((with_reducible first | refine Br.dec ?_ ?_ | refine Br.ndec ?_ ?_) <;> intro hb <;> (try simp only [ZZ] at hb) <;> (first | omega | contradiction | skip))
       | (with_reducible first | refine Br.tt rfl ?_ | refine Br.ff rfl ?_ | refine Br.ff (isEmptyCons _ _) ?_)
       | (refine Side.mk ?_ ?_; focus (first | omega | (dsimp only [InR, Int.reduceToNat, IntKind.bits, Int.reducePow]; omega) | (simp [CC]; done) | (constructor <;> omega)))
       | with_reducible refine Br.not ?_
       | (with_reducible first | refine Br.tt (by assumption) ?_ | refine Br.ff (by assumption) ?_)
       | (refine Br.mk ?_ ?_ <;> intro hb <;> (try simp only [ZZ] at hb) <;> (first | omega | contradiction | skip))
       | refine Src.whole ⟨rfl, rfl⟩ ?_ | refine FrzV.whole ?_
       | refine CallW.use (hC) ?_
       | refine CallW.use (hW) ?_) <;> conv => whnf)
      exact CLe.eq rfl
  · rw [if_neg h0]
    unfold faultE at hC ⊢
    rw [if_neg h0] at hC ⊢
    refine absCall_of (pol := polG) mixP F.jread_Parse_is ?_
    conv => whnf
    repeat' ((first
     | ((with_reducible first | refine Br.dec ?_ ?_ | refine Br.ndec ?_ ?_) <;> intro hb <;> (try simp only [ZZ] at hb) <;> (first | omega | contradiction | skip))
     | (with_reducible first | refine Br.tt rfl ?_ | refine Br.ff rfl ?_ | refine Br.ff (isEmptyCons _ _) ?_)
     | (refine Side.mk ?_ ?_; focus (first | omega | (dsimp only [InR, Int.reduceToNat, IntKind.bits, Int.reducePow]; omega) | (simp [CC]; done) | (constructor <;> omega)))
     | with_reducible refine Br.not ?_
     | (with_reducible first | refine Br.tt (by assumption) ?_ | refine Br.ff (by assumption) ?_)
     | (refine Br.mk ?_ ?_ <;> intro hb <;> (try simp only [ZZ] at hb) <;> (first | omega | contradiction | skip))
     | refine Src.whole ⟨rfl, rfl⟩ ?_ | refine FrzV.whole ?_
     | refine CallW.use (hC) ?_) <;> conv => whnf)
    exact CLe.ret (tup_nils _)
end Go.Proofs.YtaoejccgdpppgaaGreatDoor
end

section
namespace Go.Am
open Go Go.RowKit
section
variable {H : Type} {enc : TypeId × Value → H} {P : Program} {W : World} {sp : Nat → Bool} {held : Bool}
structure RdE (W : World) (cs : List Value) (x : PV) : Prop where
  len : x.cells.length = cs.length
  leaf : ∀ c ∈ x.cells, c.leaf = true
  rel : ∀ (i : Nat) a b, x.cells[i]? = some a → cs[i]? = some b → PRel (fun _ => False) W a b
theorem RdE.one {x : PV} {v : Value} (hx : x.cells = [x]) (hl : x.leaf = true) (h : PRel (fun _ => False) W x v) : RdE W [v] x := by
  refine ⟨by rw [hx]; rfl, fun c hc => ?_, fun i a b ha hb => ?_⟩
  · rw [hx, List.mem_singleton] at hc; subst hc; exact hl
  · rw [hx] at ha
    cases i with
    | zero => simp at ha hb; subst ha; subst hb; exact h
    | succ i => simp at ha
theorem add_zero (a : Addr) : a.add 0 = a := by unfold Addr.add; rw [if_pos rfl]
theorem RdE.append {c1 c2 : List Value} {l1 l2 : List PV} (h1 : RdE W c1 (.agg l1)) (h2 : RdE W c2 (.agg l2)) : RdE W (c1 ++ c2) (.agg (l1 ++ l2)) := by
  have e1 : l1.length = c1.length := h1.len
  have e2 : l2.length = c2.length := h2.len
  refine ⟨by show (l1 ++ l2).length = _; simp [e1, e2], fun c hc => ?_, fun i a b ha hb => ?_⟩
  · rcases List.mem_append.1 hc with h | h
    · exact h1.leaf c h
    · exact h2.leaf c h
  · change (l1 ++ l2)[i]? = some a at ha
    by_cases hi : i < l1.length
    · rw [List.getElem?_append_left hi] at ha
      rw [List.getElem?_append_left (by omega)] at hb
      exact h1.rel i a b ha hb
    · rw [List.getElem?_append_right (by omega)] at ha
      rw [List.getElem?_append_right (by omega)] at hb
      exact h2.rel (i - l1.length) a b ha (by rw [e1]; exact hb)
theorem RdE.cells {c : List Value} {x : PV} (h : RdE W c x) : RdE W c (.agg x.cells) := ⟨h.len, h.leaf, h.rel⟩
theorem RdE.value {cs : List Value} {l : List PV} (h : RdE W cs (.agg l)) {v : Value} (hv : v = .agg cs.toArray) : PRel (fun _ => False) W (.agg l) v := by
  subst hv
  exact .agg l cs h.len h.rel
end
end Go.Am
end

section
namespace Go.Proofs.YtaoejccgdpppgaaGreatDoor
open Go Go.Am Go.RowKit
set_option maxRecDepth 100000
section
variable {H : Type} {enc : TypeId × Value → H} {W : World} {sp : Nat → Bool} {held : Bool}
theorem c_str : PP.underlying T.string = some .string := by kernel_rfl
end
end Go.Proofs.YtaoejccgdpppgaaGreatDoor
end

section
namespace Go.Proofs.YtaoejccgdpppgaaGreatDoor
open Go Go.Am Go.RowKit
set_option maxRecDepth 100000
theorem sentinel {W : World} {name : String} {g : Nat} {text : List UInt8} (hg : PP.globalNamed name = some g) (ht : (PP.globals[g]?).map (·.type) = some T.error)
    (h : laidMet PP [(name, .iface "*errors.errorString" (.ptr (.agg [.lit (.string text)])))] W) :
    PRel (fun _ => False) W (.cptr (.iface T.ptr_errors_errorString .anyp)) (.pointer (some ⟨g, 0, none⟩)) ∧ ∃ c t fr, W.heap[g]? = some (.cells c t fr) ∧ c.size = 1 := by
  obtain ⟨ps, hv, _, hok⟩ := h
  obtain ⟨g', t, cs, fuel, p, q, h1, h2, h3, h4, _, rfl⟩ := hv
  rw [hg] at h1
  cases h1
  rw [ht] at h2
  cases h2
  unfold World.var? at h3
  rw [hg] at h3
  simp only [Option.bind_some] at h3
  split at h3
  case h_2 => cases h3
  rename_i cs' t' fr hw
  cases h3
  have hcell : ∀ u v, cs.toList = [.iface u v] → Value.okWide PP W .any 0 u v := by
    intro u v he
    have hcs : cs = #[.iface u v] := by apply Array.ext'; simpa using he
    subst hcs
    refine (hok g 0 ?_).2 u v ?_
    · simp [MemPlace.row]
    · unfold World.cell?
      rw [hw]
      simp
  obtain ⟨a, s, he, _⟩ := errorString_of_trod (ti := T.error) (tp := T.ptr_errors_errorString) (te := T.errors_errorString) (ts := T.string) Tryz.underlying94
    (typeName_ptr_named (nm := "errors.errorString") (by kernel_rfl) (by kernel_rfl) (by decide)) Tryz.underlying202 Tryz.underlying204 rfl rfl Tryz.underlying9 (by kernel_rfl) (by kernel_rfl) h4 hcell
  have hcs : cs = #[.iface T.ptr_errors_errorString (.pointer (some a))] := by apply Array.ext'; simpa using he
  subst hcs
  refine ⟨.cptr _ g 0 (fun _ => .iface T.ptr_errors_errorString (.pointer (some a))) (fun h => h) (Array.getElem?_eq_some_iff.1 hw).1 (fun x hx => ?_) (fun k hk => ?_) (fun k x hx => ?_), _, _, _, hw, rfl⟩
  · simp only [PV.cells, List.mem_singleton] at hx; subst hx; rfl
  · simp only [PV.cells, List.length_singleton] at hk
    have : k = 0 := by omega
    subst this
    unfold World.cell?
    rw [hw]
    simp
  · cases k with
    | zero => simp only [PV.cells, List.getElem?_cons_zero, Option.some.injEq] at hx; subst hx; exact .iface _ _ _ (.anyp _)
    | succ k => simp [PV.cells] at hx
theorem gPowType : (PP.globals[Gl.internal_strconv_uint64pow10]?).map (·.type) = some T.arr20_uint64 := by kernel_rfl
theorem gok_of {W : World} {l : List (String × DataW Unit)} (h : laidMetH PP l W)
    (h1 : l.filter (fun x => x.1 == "internal/strconv.uint64pow10") = [("internal/strconv.uint64pow10", Lib.tabData .u64 Lib.pow10Tab)])
    (h2 : l.filter (fun x => x.1 == "strconv.ErrSyntax") = [("strconv.ErrSyntax", Rows.laid_strconv_ErrSyntax)])
    (h3 : l.filter (fun x => x.1 == "strconv.ErrRange") = [("strconv.ErrRange", Rows.laid_strconv_ErrRange)]) : GOk GG (fun _ => False) W := by
  intro g d hd
  unfold GG at hd
  split at hd
  · rename_i hg
    have hg := Nat.eq_of_beq_eq_true hg
    subst hg
    cases hd
    have q := laidMetH.filter (fun x => x.1 == "internal/strconv.uint64pow10") h
    rw [h1] at q
    have q : laidMet PP [("internal/strconv.uint64pow10", Lib.tabData .u64 Lib.pow10Tab)] W := q
    have := tab_gok (Lib.tabIs_of_head (n := 20) (e := T.uint64) (rest := []) gPow gPowType (by kernel_rfl) (by kernel_rfl) (by kernel_rfl) (by kernel_rfl) q) gPow
    rw [pow10_lit] at this
    exact this
  · split at hd
    · rename_i hg
      have hg := Nat.eq_of_beq_eq_true hg
      subst hg
      cases hd
      have q := laidMetH.filter (fun x => x.1 == "strconv.ErrSyntax") h
      rw [h2] at q
      exact sentinel (name := "strconv.ErrSyntax") (by kernel_rfl) (by kernel_rfl) q
    · split at hd
      · rename_i hg
        have hg := Nat.eq_of_beq_eq_true hg
        subst hg
        cases hd
        have q := laidMetH.filter (fun x => x.1 == "strconv.ErrRange") h
        rw [h3] at q
        exact sentinel (name := "strconv.ErrRange") (by kernel_rfl) (by kernel_rfl) q
      · cases hd
theorem stNil (W : World) : St (fun _ => False) ⟨fun _ => 0, fun _ => 0, fun _ => 0⟩ W [] :=
  ⟨fun n => by simp [Heap.at]; exact .dead, fun n h => by simp [Heap.at, HO.live] at h, fun n m h => by simp [Heap.at, HO.live] at h, fun b h => h.elim⟩
theorem law_call {f : FuncId} {fn : Func} (hf : PP.funcs[f]? = some fn) (hb : fn.body.isSome = true) {ds : List PV} {vs : List Value} {W : World} (hlen : ds.length = vs.length) (hr : ∀ (i : Nat) x y, ds[i]? = some x → vs[i]? = some y → PRel (fun _ => False) W x y)
    (hG : GOk GG (fun _ => False) W) (h : AbsCall PP GG f (ds.map V.p) [] ⟨.ret (.p (.bool true)), [], []⟩) :
    Calls PP f vs.toArray W fun e w' => e = .returned (.bool true) ∧ Below W.heap.size W w' := by
  have := h (fun _ => False) ⟨fun _ => 0, fun _ => 0, fun _ => 0⟩ W vs (stNil W) ⟨by simpa using hlen, fun i x y hx hy => by
    rw [List.getElem?_map, Option.map_eq_some_iff] at hx
    obtain ⟨d, hd, rfl⟩ := hx
    exact .p _ _ (hr i d y hd hy)⟩ hG
  obtain ⟨c, hb⟩ := Option.isSome_iff_exists.1 hb
  refine (CallTo.calls hf (ngP f fn hf) hb this).mono ?_
  rintro e w' ⟨B', L', hfs, _, ho⟩
  refine ⟨?_, below_of_FS hfs⟩
  unfold OutRel at ho
  split at ho
  · rename_i r v h1; cases h1; cases ho.of_p; rfl
  · rename_i h1; cases h1
  · exact ho.elim
end Go.Proofs.YtaoejccgdpppgaaGreatDoor
end

section
namespace Go.Proofs.YtaoejccgdpppgaaGreatDoor
open Go.ChangeShapes Go.WideShapes Go.ChangeAt Go.RowKit Go.Am
set_option maxRecDepth 100000
theorem own : ownKnob PP.godebug = none := by kernel_rfl
theorem laidOutP : laidOutB PP = true := by kernel_rfl
theorem bulk_append {H : Type} (l r : List (DataW H)) : Rows.uptoBulkAll (l ++ r) = Rows.uptoBulkAll l + Rows.uptoBulkAll r := by
  induction l with
  | nil => simp [Rows.uptoBulkAll]
  | cons x l ih => simp only [List.cons_append, Rows.uptoBulkAll, ih]; omega
end Go.Proofs.YtaoejccgdpppgaaGreatDoor
end
