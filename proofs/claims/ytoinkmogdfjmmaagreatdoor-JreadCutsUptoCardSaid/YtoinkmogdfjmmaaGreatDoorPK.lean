/-
The walk through the reader of JSON: a whole text.
-/
import Derived.Test.YtoinkmogdfjmmaaGreatDoorPJ
import Derived.WalkKit
import Derived.Test.YtoinkmogdfjmmaaGreatDoorPF
import Derived.Test.YtoinkmogdfjmmaaGreatDoorPG
import Derived.Test.YtoinkmogdfjmmaaGreatDoorPI
import Derived.Lib.ParseIntBTie

section
namespace Go.Proofs.YtoinkmogdfjmmaaGreatDoor
open Go Go.Am Go.RowKit
set_option maxRecDepth 100000
noncomputable abbrev whole_c : Code := F.jread_whole_c.getD .skip
theorem whole_shape : ∃ o0 o1 : Oper, whole_c = .seq (seqL whole_c) (.seq (.region 1 #[o0, o1] false) (seqR (seqR whole_c))) ∧ o0.op = .makeFunc (.func F.jread_whole_1) #[] #[.tmp 2, .tmp 4, .tmp 5] ∧ o0.dst = some 7 ∧ o0.guard = none ∧
    o1.op = .defer ⟨.value (.tmp 7), #[], #[]⟩ ∧ o1.dst = none ∧ o1.guard = none :=
  ⟨_, _, rfl, rfl, rfl, rfl, rfl, rfl, rfl⟩
theorem HLe.dead4 (a b c o : HO) : HLe [a, b, c, o] [a, b, c, .dead] := by
  refine ⟨fun n B L w h => ?_, fun n h => ?_, rfl⟩
  · rcases n with _ | _ | _ | _ | n
    · exact h
    · exact h
    · exact h
    · exact .dead
    · exact h
  · rcases n with _ | _ | _ | _ | n
    · exact h
    · exact h
    · exact h
    · exact h.elim
    · exact h
def zT : PV := .agg [.int .i64 0, .int .i64 0, .str [], .nils, .nils]
def whV : Option (Int × Int) → PV → PV
  | none, v => v
  | some _, _ => zT
def whF (t : Str) : Option (Int × Int) → PV → PV
  | none, f => f
  | some (e, a), _ => faultP t a e
def whX : Option (Int × Int) → Ex
  | none => .ret
  | some (e, a) => .pan (wrongP e a)
def whK (t : Str) (x : Option (Int × Int)) (v f : PV) : Post := fun ex σ H mv => mv = [] ∧ Am.look σ 4 = .ptr 1 0 ∧ Am.look σ 5 = .ptr 2 0 ∧ (∃ o, H = whH t v f o) ∧ ex = whX x
theorem ptr_env {B : Nat → Prop} {L : Am.Loc} {w : World} {tmps : Array Value} {σ : Env} (hb : Bdd 21 σ) (he : ERel B L w (toEnv 21 σ) tmps) (h4 : Am.look σ 4 = .ptr 1 0) (h5 : Am.look σ 5 = .ptr 2 0) {B' : Nat → Prop} {L' : Am.Loc} {w' : World}
    (h1 : L'.blk 1 = L.blk 1) (h2 : L'.blk 2 = L.blk 2) : ERel B' L' w' (toEnv 21 [(4, .ptr 1 0), (5, .ptr 2 0)]) tmps := by
  have hlen : tmps.toList.length = 21 := by have := he.1; rw [toEnv_length] at this; exact this.symm
  refine ⟨by rw [toEnv_length, hlen], fun i x y hx hy => ?_⟩
  have hi : i < 21 := by rw [← hlen]; exact (List.getElem?_eq_some_iff.1 hy).1
  rw [toEnv_get, if_pos hi] at hx
  cases hx
  have hv := he.2 i (Am.look σ i) y (by rw [toEnv_get, if_pos hi]) hy
  by_cases e4 : i = 4
  · subst e4
    rw [h4] at hv
    rw [show Am.look [(4, .ptr 1 0), (5, .ptr 2 0)] 4 = .ptr 1 0 from rfl]
    cases hv
    rw [← h1]
    exact .ptr 1 0
  · by_cases e5 : i = 5
    · subst e5
      rw [h5] at hv
      rw [show Am.look [(4, .ptr 1 0), (5, .ptr 2 0)] 5 = .ptr 2 0 from rfl]
      cases hv
      rw [← h2]
      exact .ptr 2 0
    · rw [look_cons, if_neg (by omega), look_cons, if_neg (by omega)]
      exact .junk _
theorem whole_W0 (t : Str) (l : List PV) : W PP GG polG 21 0 (seqL whole_c) [(0, .p (.str t)), (1, .p (.lst false l))] [] [] (fun ex σ H mv => ex = .normal ∧ σ = [(5, .ptr 2 0), (4, .ptr 1 0), (2, .ptr 0 0), (0, .p (.str t)), (1, .p (.lst false l))] ∧
      H = [.var T.string (.p (.str t)), .var T.api_Value (.p (.agg [.int .i64 0, .int .i64 0, .str [], .nils, .nils])), .var T.api_Fault (.p noFault)] ∧ mv = []) := by
  unfold noFault
  conv => whnf
  exact ⟨rfl, rfl, rfl, rfl⟩
theorem FS.k0 {k : Nat} {B B' : Nat → Prop} {L L' : Am.Loc} {w w' : World} {H H' : Heap} {mv mv' : List Nat} (h : FS k B L w H mv B' L' w' H' mv') : FS 0 B L w H mv B' L' w' H' mv' :=
  ⟨h.size, h.same, h.own, h.sub, h.keep, h.mvs, fun _ hn _ => absurd hn (Nat.not_lt_zero _), h.fresh⟩
theorem FS.nil {B B' : Nat → Prop} {L L' : Am.Loc} {w w' : World} {H H' : Heap} {mv mv' : List Nat} (h : FS 0 B L w H mv B' L' w' H' mv') : FS 0 B L w H mv B' L' w' [] mv' :=
  ⟨h.size, h.same, h.own, h.sub, h.keep, h.mvs, h.loc, fun n hn => by rw [Heap.at_nil] at hn; exact hn.elim⟩
theorem St.nil {B : Nat → Prop} {L : Am.Loc} {w : World} {H : Heap} (h : St B L w H) : St B L w [] :=
  ⟨fun n => by rw [Heap.at_nil]; exact .dead, fun n hn => by rw [Heap.at_nil] at hn; exact hn.elim, fun n m hn => by rw [Heap.at_nil] at hn; exact hn.elim, h.bnd⟩
theorem whole_of (t : Str) (ht : t.length ≤ 1073741824) (l : List PV) (x : Option (Int × Int)) (hx : ∀ e a, x = some (e, a) → -1073741824 ≤ a ∧ a ≤ 1073741824) (a1 a2 a3 a4 a5 b1 b2 b3 b4 : PV) (hf : ∀ e : Int × Int, x = some e → PV.agg [b1, b2, b3, b4] = noFault)
    (hW : W PP GG polG 21 3 (seqR (seqR whole_c)) [(7, .func (.func F.jread_whole_1) [.ptr 0 0, .ptr 1 0, .ptr 2 0]), (5, .ptr 2 0), (4, .ptr 1 0), (2, .ptr 0 0), (0, .p (.str t)), (1, .p (.lst false l))]
      [.var T.string (.p (.str t)), .var T.api_Value (.p (.agg [.int .i64 0, .int .i64 0, .str [], .nils, .nils])), .var T.api_Fault (.p noFault)] [] (whK t x (.agg [a1, a2, a3, a4, a5]) (.agg [b1, b2, b3, b4]))) :
    AbsCall PP GG F.jread_whole [.p (.str t), .p (.lst false l)] [] ⟨.ret (.tup [.p (whV x (.agg [a1, a2, a3, a4, a5])), .p (whF t x (.agg [b1, b2, b3, b4]))]), [], []⟩ := by
  obtain ⟨⟨fn, hfn, hbody, hnt, hrs, hname⟩, _, hok⟩ := F.jread_whole_is
  obtain ⟨⟨gn, hgn, hgbody, hgnt, hgrs, hgname⟩, _, hgok⟩ := F.jread_whole_1_is
  obtain ⟨o0, o1, hc, h0, hd0, hg0, h1, hd1, hg1⟩ := whole_shape
  intro B L w vs hst ha hg
  refine .inl ⟨enters hfn hname hbody _ w, calls_of_wp_defers hfn hbody ?_⟩
  show whole_c.wp PP _ _ _
  have hargs : vs.length = 2 := ha.1.symm
  have he : ERel B L w (toEnv 21 [(0, .p (.str t)), (1, .p (.lst false l))]) (vs.toArray ++ Array.replicate (fn.ntmps - vs.toArray.size) undef) := by
    have e : (vs.toArray ++ Array.replicate (fn.ntmps - vs.toArray.size) undef).toList = vs ++ List.replicate 19 undef := by
      rw [Array.toList_append, Array.toList_replicate, List.size_toArray, hargs, hnt]
    have e2 : toEnv 21 [(0, .p (.str t)), (1, .p (.lst false l))] = [.p (.str t), .p (.lst false l)] ++ List.replicate 19 V.junk := rfl
    rw [e2]
    unfold ERel
    rw [e]
    refine ha.append ⟨by simp, fun i x y hx _ => ?_⟩
    rw [List.getElem?_replicate] at hx
    split at hx
    · cases hx; exact .junk _
    · cases hx
  generalize vs.toArray ++ Array.replicate (fn.ntmps - vs.toArray.size) undef = tmps at he
  rw [hc]
  refine wp_seq ?_
  have hW0 := whole_W0 t l
  have hb0 : Bdd 21 ([(0, .p (.str t)), (1, .p (.lst false l))] : Env) := BddL.bdd ⟨by decide, by decide, trivial⟩
  refine W_sound mixP _ hW0 hb0 (a := { tmps := tmps, defers := [] }) hst he hg fun e a' w' hp => ?_
  obtain ⟨ex, σ1, H1, mv1, ⟨rfl, rfl, rfl, rfl⟩, hb1, B1, L1, hfs1, he1, hst1, hk1, hdf1, hm1⟩ := hp
  have hee : e = .normal := by cases e <;> first | rfl | exact hm1.elim
  subst hee
  show (Code.seq _ _).wp PP _ _ _
  refine wp_seq ?_
  refine wp_region ?_
  have hl : List.range (#[o0, o1] : Array Oper).size = [0, 1] := rfl
  rw [hl]
  have hsz : a'.tmps.size = 21 := by have := he1.1; rw [toEnv_length] at this; simpa using this.symm
  obtain ⟨cs, hcs⟩ : ∃ cs : List Value, cs = [a'.eval (.tmp 2), a'.eval (.tmp 4), a'.eval (.tmp 5)] := ⟨_, rfl⟩
  have hcaps : VRelL B1 L1 w' [.ptr 0 0, .ptr 1 0, .ptr 2 0] cs := by
    rw [hcs]
    exact VRelL.cons (he1.get 2) (VRelL.cons (he1.get 4) (VRelL.cons (he1.get 5) VRelL.nil))
  obtain ⟨Fv, hFv⟩ : ∃ Fv : Value, Fv = .func (.func F.jread_whole_1) #[] cs.toArray := ⟨_, rfl⟩
  have e0 : (execOp a'.eval o0).run PP w' = .ok (.value Fv) w' := by
    rw [hFv, hcs]
    simp [execOp, h0, Instr.makeFunc]
  have e1 : (execOp (a'.put (some 7) Fv).eval o1).run PP w' = .ok (.defer ⟨.fn (.func F.jread_whole_1) cs.toArray, #[]⟩) w' := by
    have hev : (a'.put (some 7) Fv).eval (.tmp 7) = Fv := by simp [Act.eval, Act.put, Array.getD, hsz]
    simp only [execOp, h1, resolve, Array.map_empty, hev]
    rw [hFv]
    rfl
  have ho0 : (#[o0, o1] : Array Oper)[0]? = some o0 := rfl
  have ho1 : (#[o0, o1] : Array Oper)[1]? = some o1 := rfl
  simp only [wpOps, ho0, ho1, Region.wanted, hg0, hg1, if_true, Oper.wp, e0, Oper.upon_value, hd0, e1, Oper.upon_defer, hd1]
  refine .inl (.inl ?_)
  have hFr : VRel B1 L1 w' (.func (.func F.jread_whole_1) [.ptr 0 0, .ptr 1 0, .ptr 2 0]) Fv := by
    rw [hFv]
    exact .func _ _ cs hcaps.1 hcaps.2
  have he2 := he1.put (a := a') (some 7) hFr
  simp only [putO, toEnv_set] at he2
  have hb2 : Bdd 21 ([(7, .func (.func F.jread_whole_1) [.ptr 0 0, .ptr 1 0, .ptr 2 0]), (5, .ptr 2 0), (4, .ptr 1 0), (2, .ptr 0 0), (0, .p (.str t)), (1, .p (.lst false l))] : Env) :=
    BddL.bdd ⟨by decide, by decide, by decide, by decide, by decide, by decide, trivial⟩
  have hg1' := hg.step (hfs1.step hst)
  refine W_sound mixP _ hW hb2 (a := { (a'.put (some 7) Fv) with defers := ⟨.fn (.func F.jread_whole_1) cs.toArray, #[]⟩ :: (a'.put (some 7) Fv).defers }) hst1 he2 hg1' fun e a'' w'' hp => ?_
  obtain ⟨ex, σ2, H2, mv2, ⟨rfl, hl4, hl5, ⟨o, rfl⟩, rfl⟩, hb3, B2, L2, hfs2, he3, hst2, hk2, hdf2, hm2⟩ := hp
  have hst2' : St B2 L2 w'' (whH t (.agg [a1, a2, a3, a4, a5]) (.agg [b1, b2, b3, b4]) .dead) := hst2.le (HLe.dead4 _ _ _ o)
  have hfs2' := hfs2.le (HLe.dead4 (.var T.string (.p (.str t))) (.var T.api_Value (.p (.agg [a1, a2, a3, a4, a5]))) (.var T.api_Fault (.p (.agg [b1, b2, b3, b4]))) o)
  have hg2 := hg1'.step (hfs2.step hst1)
  have ha' : VRelL B2 L2 w'' [.ptr 0 0, .ptr 1 0, .ptr 2 0] cs := by
    refine ⟨hcaps.1, fun i x y hx hy => ?_⟩
    refine ((hcaps.2 i x y hx hy).step (hfs2.step hst1)).loc fun n hn => ?_
    have hn3 : n < 3 := by
      rcases i with _ | _ | _ | i
      · cases hx; simp [V.names] at hn; omega
      · cases hx; simp [V.names] at hn; omega
      · cases hx; simp [V.names] at hn; omega
      · simp at hx
    exact hfs2.loc n hn3 (by simp)
  have hd : a''.defers = [⟨.fn (.func F.jread_whole_1) cs.toArray, #[]⟩] := by
    rw [hdf2]
    show _ :: (a'.put (some 7) Fv).defers = _
    rw [show (a'.put (some 7) Fv).defers = a'.defers from rfl, hdf1]
  have hinv : (invoke (.fn (.func F.jread_whole_1) cs.toArray) #[]).run PP w'' = .ok (.enter F.jread_whole_1 cs.toArray) w'' := by
    simp [invoke]
  have fin : ∀ (c1 c2 c3 c4 c5 d1 d2 d3 d4 : PV) (w3 : World) ex3 σ3 H3 B3 L3, whE t (.agg [c1, c2, c3, c4, c5]) (.agg [d1, d2, d3, d4]) ex3 σ3 H3 [] →
      FS 4 B2 L2 w'' (whH t (.agg [a1, a2, a3, a4, a5]) (.agg [b1, b2, b3, b4]) .dead) [] B3 L3 w3 H3 [] → St B3 L3 w3 H3 →
      ∃ vv, (results fn a''.tmps).run PP w3 = .ok vv w3 ∧ ∃ B' L', FS 0 B L w [] [] B' L' w3 [] [] ∧ St B' L' w3 [] ∧ VRel B' L' w3 (.tup [.p (.agg [c1, c2, c3, c4, c5]), .p (.agg [d1, d2, d3, d4])]) vv := by
    intro c1 c2 c3 c4 c5 d1 d2 d3 d4 w3 ex3 σ3 H3 B3 L3 hK3 hfs3 hst3
    obtain ⟨_, _, o3, rfl⟩ := hK3
    have he4 : ERel B3 L3 w3 (toEnv 21 [(4, .ptr 1 0), (5, .ptr 2 0)]) a''.tmps := ptr_env hb3 he3 hl4 hl5 (hfs3.loc 1 (by decide) (by simp)).1 (hfs3.loc 2 (by decide) (by simp)).1
    obtain ⟨vv, hvv, hr⟩ := results_run (P := PP) (fr := ⟨toEnv 21 [(4, .ptr 1 0), (5, .ptr 2 0)], _, 0, []⟩) (fn := fn) (vs := [.p (.agg [c1, c2, c3, c4, c5]), .p (.agg [d1, d2, d3, d4])]) hst3 he4 (by rw [hrs]; rfl)
    exact ⟨vv, hvv, B3, L3, FS.nil ((hfs1.trans (FS.k0 hfs2')).trans (FS.k0 hfs3)), St.nil hst3, hr⟩
  cases x with
  | none =>
    have hee : e = .ret := by cases e <;> first | rfl | exact hm2.elim
    subst hee
    show Leaves PP fn a''.tmps _ a''.defers .returning w''
    rw [hd]
    refine leaves_cons (by simp) hinv ((cl_none t _ _ hst2' ha' hg2).mono ?_)
    rintro e3 u3 w3 ⟨⟨r, rfl⟩, rfl, ex3, σ3, H3, B3, L3, hK3, hfs3, hst3⟩
    obtain ⟨vv, hvv, B', L', h1, h2, h3⟩ := fin _ _ _ _ _ _ _ _ _ w3 ex3 σ3 H3 B3 L3 hK3 hfs3 hst3
    exact ⟨vv, hvv, B', L', h1, h2, h3⟩
  | some ea =>
    obtain ⟨er, ar⟩ := ea
    have hbf := hf _ rfl
    obtain ⟨u, rfl, hu⟩ := ExMatch.pan_inv hm2
    show Leaves PP fn a''.tmps _ a''.defers (.panicking [⟨u, false, false⟩]) w''
    rw [hd]
    have hst2'' := hst2'
    rw [hbf] at hst2''
    refine leaves_cons (by simp) hinv ((cl_some t ht er ar (hx _ _ rfl) a1 a2 a3 a4 a5 hst2'' ha' hg2 u hu).mono ?_)
    rintro e3 u3 w3 ⟨⟨r, rfl⟩, rfl, ex3, σ3, H3, B3, L3, hK3, hfs3, hst3⟩
    rw [← hbf] at hfs3
    obtain ⟨vv, hvv, B', L', h1, h2, h3⟩ := fin _ _ _ _ _ _ _ _ _ w3 ex3 σ3 H3 B3 L3 hK3 hfs3 hst3
    exact ⟨vv, hvv, B', L', h1, h2, h3⟩
theorem tup_nils (f : PV) : VLe (.tup [.p zT, .p f]) (.tup [.p (Tree.mk 0 0 [] [] []).enc, .p f]) :=
  VLe.tup (show VLeL [.p zT, .p f] [.p (Tree.mk 0 0 [] [] []).enc, .p f] from ⟨tree_nils 0 0 [], VLe.refl _, trivial⟩)
theorem faultE_ne (t : Str) (e : Int × Int) (h : e.1 ≠ 0) : faultE t e = faultP t e.2 e.1 := by unfold faultE; rw [if_neg h]
theorem jread_whole (t : Str) (ht : t.length ≤ 1073741824) (ws : List Wd) (hw : WsOk ws) (hne : 0 < ws.length) :
    AbsCall PP GG F.jread_whole [.p (.str t), .p (.lst false (ws.map Wd.enc))] [] ⟨.ret (.tup [.p (wholeS ws).1.enc, .p (faultE t (wholeS ws).2)]), [], []⟩ := by
  have hV := reader_value ws hw (3 * ws.length + 1) 1 0 0 hne (by omega) (by omega) (by omega) (by omega) (by omega)
  have hok := (okR_all hw (3 * ws.length + 1)).1 1 0 0 hne
  have her := (errR_all hw (3 * ws.length + 1)).1 1 0 0 hne (by omega)
  have hws := hw.len
  unfold wholeS
  cases hr : valR (3 * ws.length + 1) ws 1 0 0 with
  | error e =>
    rw [hr] at hV her
    obtain ⟨e, a⟩ := e
    obtain ⟨h1, h2, h3⟩ := her
    simp only [] at h1 h2 h3
    dsimp only []
    rw [faultE_ne t (e, a) (by simp only []; omega)]
    refine (whole_of t ht (ws.map Wd.enc) (some (e, a)) (by rintro _ _ ⟨⟩; omega) (.int .i64 0) (.int .i64 0) (.str []) .nils .nils (.int .i64 0) (.int .i64 0) (.int .i64 0) (.int .i64 0) (fun _ _ => rfl) ?_).le (CLe.ret (tup_nils _))
    unfold noFault
    conv => whnf
    repeat' ((first
     | ((with_reducible first | refine Br.dec ?_ ?_ | refine Br.ndec ?_ ?_) <;> intro hb <;> (try simp only [ZZ] at hb) <;> (first | omega | contradiction | skip))
     | (with_reducible first | refine Br.tt rfl ?_ | refine Br.ff rfl ?_ | refine Br.ff (isEmptyCons _ _) ?_)
     | ((with_reducible first | refine Side.mk ?_ ?_ | refine WrapW.mk ?_ ?_); focus (first | omega | (dsimp only [InR, Int.reduceToNat, IntKind.bits, Int.reducePow]; omega) | (simp [CC]; done) | (constructor <;> omega)))
     | with_reducible refine Br.not ?_
     | (with_reducible first | refine Br.tt (by assumption) ?_ | refine Br.ff (by assumption) ?_)
     | (refine Br.mk ?_ ?_ <;> intro hb <;> (try simp only [ZZ] at hb) <;> (first | omega | contradiction | skip))
     | refine Src.whole ⟨rfl, rfl⟩ ?_ | refine FrzV.whole ?_
     | refine CallW.use (hV) ?_) <;> conv => whnf)
    exact ⟨rfl, rfl, rfl, ⟨_, rfl⟩, rfl⟩
  | ok x =>
    obtain ⟨v, j, m⟩ := x
    rw [hr] at hV hok
    obtain ⟨g1, g2, g3, g4⟩ := hok
    have hat := (hw.at g2).1
    have hW := reader_word ws j m _ hat (by omega)
    have hF := reader_failD ws j m 4 _ hat (by omega)
    have ha := hw.a j
    dsimp only []
    obtain ⟨x1, x2, x3, x4, x5⟩ := v
    by_cases hk : (wdAt ws j).k = 0
    · rw [if_pos hk]
      refine (whole_of t ht (ws.map Wd.enc) none (by simp) (.int .i64 x1) (.int .i64 x2) (.str x3) (.lst false (Tree.encL x4)) (.lst false (Tree.encM x5)) (.int .i64 0) (.int .i64 0) (.int .i64 0) (.int .i64 0) (fun _ _ => rfl) ?_)
      generalize wdAt ws j = w at *
      obtain ⟨k, s, a⟩ := w
      simp only [] at hk
      subst hk
      unfold noFault
      conv => whnf
      repeat' ((first
       | ((with_reducible first | refine Br.dec ?_ ?_ | refine Br.ndec ?_ ?_) <;> intro hb <;> (try simp only [ZZ] at hb) <;> (first | omega | contradiction | skip))
       | (with_reducible first | refine Br.tt rfl ?_ | refine Br.ff rfl ?_ | refine Br.ff (isEmptyCons _ _) ?_)
       | ((with_reducible first | refine Side.mk ?_ ?_ | refine WrapW.mk ?_ ?_); focus (first | omega | (dsimp only [InR, Int.reduceToNat, IntKind.bits, Int.reducePow]; omega) | (simp [CC]; done) | (constructor <;> omega)))
       | with_reducible refine Br.not ?_
       | (with_reducible first | refine Br.tt (by assumption) ?_ | refine Br.ff (by assumption) ?_)
       | (refine Br.mk ?_ ?_ <;> intro hb <;> (try simp only [ZZ] at hb) <;> (first | omega | contradiction | skip))
       | refine Src.whole ⟨rfl, rfl⟩ ?_ | refine FrzV.whole ?_
       | refine CallW.use (hV) ?_
       | refine CallW.use (hW) ?_) <;> conv => whnf)
      exact ⟨rfl, rfl, rfl, ⟨_, rfl⟩, rfl⟩
    · rw [if_neg hk]
      generalize wdAt ws j = w at *
      obtain ⟨k, s, a⟩ := w
      simp only [] at hk ha
      dsimp only []
      rw [faultE_ne t (4, a) (by simp)]
      refine (whole_of t ht (ws.map Wd.enc) (some (4, a)) (by rintro _ _ ⟨⟩; omega) (.int .i64 x1) (.int .i64 x2) (.str x3) (.lst false (Tree.encL x4)) (.lst false (Tree.encM x5)) (.int .i64 0) (.int .i64 0) (.int .i64 0) (.int .i64 0) (fun _ _ => rfl) ?_).le (CLe.ret (tup_nils _))
      unfold noFault
      conv => whnf
      repeat' ((first
       | ((with_reducible first | refine Br.dec ?_ ?_ | refine Br.ndec ?_ ?_) <;> intro hb <;> (try simp only [ZZ] at hb) <;> (first | omega | contradiction | skip))
       | (with_reducible first | refine Br.tt rfl ?_ | refine Br.ff rfl ?_ | refine Br.ff (isEmptyCons _ _) ?_)
       | ((with_reducible first | refine Side.mk ?_ ?_ | refine WrapW.mk ?_ ?_); focus (first | omega | (dsimp only [InR, Int.reduceToNat, IntKind.bits, Int.reducePow]; omega) | (simp [CC]; done) | (constructor <;> omega)))
       | with_reducible refine Br.not ?_
       | (with_reducible first | refine Br.tt (by assumption) ?_ | refine Br.ff (by assumption) ?_)
       | (refine Br.mk ?_ ?_ <;> intro hb <;> (try simp only [ZZ] at hb) <;> (first | omega | contradiction | skip))
       | refine Src.whole ⟨rfl, rfl⟩ ?_ | refine FrzV.whole ?_
       | refine CallW.use (hV) ?_
       | refine CallW.use (hW) ?_
       | refine CallW.use (hF) ?_) <;> conv => whnf)
      exact ⟨rfl, rfl, rfl, ⟨_, rfl⟩, rfl⟩
theorem jread_Parse (t : Str) (ht : t.length ≤ 1000000) : AbsCall PP GG F.jread_Parse [.p (.str t)] [] ⟨.ret (.tup [.p (parseS t).1.enc, .p (faultE t (parseS t).2)]), [], []⟩ := by
  have hC := jlex_Cut t ht
  unfold parseS
  by_cases h0 : (cutT t).2.1 = 0
  · rw [if_pos h0]
    have hw := cutT_ok t h0
    have hW := jread_whole t (by omega) _ hw (cutT_pos t h0)
    rw [show faultE t (cutT t).2 = noFault by unfold faultE; rw [if_pos h0]] at hC
    generalize (cutT t).1 = ws at *
    generalize wholeS ws = R at *
    obtain ⟨⟨x1, x2, x3, x4, x5⟩, e⟩ := R
    by_cases he : e.1 = 0
    · unfold faultE at hW ⊢
      rw [if_pos he] at hW ⊢
      refine absCall_of (pol := polG) mixP F.jread_Parse_is ?_
      conv => whnf
      repeat' ((first
       | ((with_reducible first | refine Br.dec ?_ ?_ | refine Br.ndec ?_ ?_) <;> intro hb <;> (try simp only [ZZ] at hb) <;> (first | omega | contradiction | skip))
       | (with_reducible first | refine Br.tt rfl ?_ | refine Br.ff rfl ?_ | refine Br.ff (isEmptyCons _ _) ?_)
       | ((with_reducible first | refine Side.mk ?_ ?_ | refine WrapW.mk ?_ ?_); focus (first | omega | (dsimp only [InR, Int.reduceToNat, IntKind.bits, Int.reducePow]; omega) | (simp [CC]; done) | (constructor <;> omega)))
       | with_reducible refine Br.not ?_
       | (with_reducible first | refine Br.tt (by assumption) ?_ | refine Br.ff (by assumption) ?_)
       | (refine Br.mk ?_ ?_ <;> intro hb <;> (try simp only [ZZ] at hb) <;> (first | omega | contradiction | skip))
       | refine Src.whole ⟨rfl, rfl⟩ ?_ | refine FrzV.whole ?_
       | refine CallW.use (hC) ?_
       | refine CallW.use (hW) ?_) <;> conv => whnf)
      exact CLe.eq rfl
    · unfold faultE at hW ⊢
      rw [if_neg he] at hW ⊢
      refine absCall_of (pol := polG) mixP F.jread_Parse_is ?_
      conv => whnf
      repeat' ((first
       | ((with_reducible first | refine Br.dec ?_ ?_ | refine Br.ndec ?_ ?_) <;> intro hb <;> (try simp only [ZZ] at hb) <;> (first | omega | contradiction | skip))
       | (with_reducible first | refine Br.tt rfl ?_ | refine Br.ff rfl ?_ | refine Br.ff (isEmptyCons _ _) ?_)
       | ((with_reducible first | refine Side.mk ?_ ?_ | refine WrapW.mk ?_ ?_); focus (first | omega | (dsimp only [InR, Int.reduceToNat, IntKind.bits, Int.reducePow]; omega) | (simp [CC]; done) | (constructor <;> omega)))
       | with_reducible refine Br.not ?_
       | (with_reducible first | refine Br.tt (by assumption) ?_ | refine Br.ff (by assumption) ?_)
       | (refine Br.mk ?_ ?_ <;> intro hb <;> (try simp only [ZZ] at hb) <;> (first | omega | contradiction | skip))
       | refine Src.whole ⟨rfl, rfl⟩ ?_ | refine FrzV.whole ?_
       | refine CallW.use (hC) ?_
       | refine CallW.use (hW) ?_) <;> conv => whnf)
      exact CLe.eq rfl
  · rw [if_neg h0]
    unfold faultE at hC ⊢
    rw [if_neg h0] at hC ⊢
    refine absCall_of (pol := polG) mixP F.jread_Parse_is ?_
    conv => whnf
    repeat' ((first
     | ((with_reducible first | refine Br.dec ?_ ?_ | refine Br.ndec ?_ ?_) <;> intro hb <;> (try simp only [ZZ] at hb) <;> (first | omega | contradiction | skip))
     | (with_reducible first | refine Br.tt rfl ?_ | refine Br.ff rfl ?_ | refine Br.ff (isEmptyCons _ _) ?_)
     | ((with_reducible first | refine Side.mk ?_ ?_ | refine WrapW.mk ?_ ?_); focus (first | omega | (dsimp only [InR, Int.reduceToNat, IntKind.bits, Int.reducePow]; omega) | (simp [CC]; done) | (constructor <;> omega)))
     | with_reducible refine Br.not ?_
     | (with_reducible first | refine Br.tt (by assumption) ?_ | refine Br.ff (by assumption) ?_)
     | (refine Br.mk ?_ ?_ <;> intro hb <;> (try simp only [ZZ] at hb) <;> (first | omega | contradiction | skip))
     | refine Src.whole ⟨rfl, rfl⟩ ?_ | refine FrzV.whole ?_
     | refine CallW.use (hC) ?_) <;> conv => whnf)
    exact CLe.ret (tup_nils _)
theorem jread_Valid (t : Str) (ht : t.length ≤ 1000000) : AbsCall PP GG F.jread_Valid [.p (.str t)] [] ⟨.ret (.p (.bool (decide ((parseS t).2.1 = 0)))), [], []⟩ := by
  have hP := jread_Parse t ht
  generalize parseS t = R at *
  obtain ⟨⟨x1, x2, x3, x4, x5⟩, e, a⟩ := R
  unfold faultE at hP
  dsimp only [] at hP
  by_cases he : e = 0
  · rw [if_pos he] at hP
    rw [decide_eq_true he]
    refine absCall_of (pol := polG) mixP F.jread_Valid_is ?_
    conv => whnf
    repeat' ((first
     | ((with_reducible first | refine Br.dec ?_ ?_ | refine Br.ndec ?_ ?_) <;> intro hb <;> (try simp only [ZZ] at hb) <;> (first | omega | contradiction | skip))
     | (with_reducible first | refine Br.tt rfl ?_ | refine Br.ff rfl ?_ | refine Br.ff (isEmptyCons _ _) ?_)
     | ((with_reducible first | refine Side.mk ?_ ?_ | refine WrapW.mk ?_ ?_); focus (first | omega | (dsimp only [InR, Int.reduceToNat, IntKind.bits, Int.reducePow]; omega) | (simp [CC]; done) | (constructor <;> omega)))
     | with_reducible refine Br.not ?_
     | (with_reducible first | refine Br.tt (by assumption) ?_ | refine Br.ff (by assumption) ?_)
     | (refine Br.mk ?_ ?_ <;> intro hb <;> (try simp only [ZZ] at hb) <;> (first | omega | contradiction | skip))
     | refine Src.whole ⟨rfl, rfl⟩ ?_ | refine FrzV.whole ?_
     | refine CallW.use (hP) ?_) <;> conv => whnf)
    exact CLe.eq rfl
  · rw [if_neg he] at hP
    rw [decide_eq_false he]
    refine absCall_of (pol := polG) mixP F.jread_Valid_is ?_
    conv => whnf
    repeat' ((first
     | ((with_reducible first | refine Br.dec ?_ ?_ | refine Br.ndec ?_ ?_) <;> intro hb <;> (try simp only [ZZ] at hb) <;> (first | omega | contradiction | skip))
     | (with_reducible first | refine Br.tt rfl ?_ | refine Br.ff rfl ?_ | refine Br.ff (isEmptyCons _ _) ?_)
     | ((with_reducible first | refine Side.mk ?_ ?_ | refine WrapW.mk ?_ ?_); focus (first | omega | (dsimp only [InR, Int.reduceToNat, IntKind.bits, Int.reducePow]; omega) | (simp [CC]; done) | (constructor <;> omega)))
     | with_reducible refine Br.not ?_
     | (with_reducible first | refine Br.tt (by assumption) ?_ | refine Br.ff (by assumption) ?_)
     | (refine Br.mk ?_ ?_ <;> intro hb <;> (try simp only [ZZ] at hb) <;> (first | omega | contradiction | skip))
     | refine Src.whole ⟨rfl, rfl⟩ ?_ | refine FrzV.whole ?_
     | refine CallW.use (hP) ?_) <;> conv => whnf)
    exact CLe.eq (by simp [he])
end Go.Proofs.YtoinkmogdfjmmaaGreatDoor
end

section
namespace Go.Am
open Go
abbrev jrw1 : Str := [123, 34, 98, 34, 58, 49, 44, 34, 97, 34, 58, 91, 93, 125]
theorem jrp1 : parseS jrw1 = (.mk 6 0 [] [] [([97], .mk 5 0 [] [] []), ([98], .mk 2 1 [] [] [])], 0, 0) := by kernel_rfl
theorem jrf1 : faultE jrw1 (0, 0) = noFault := by kernel_rfl
theorem jrp2 : parseS [91, 49, 44, 93] = (.mk 0 0 [] [] [], 4, 3) := by kernel_rfl
theorem jrf2 : faultE [91, 49, 44, 93] (4, 3) = .agg [.int .i64 4, .int .i64 3, .int .i64 1, .int .i64 4] := by kernel_rfl
theorem jrp3 : (parseS [110, 117, 108, 108]).2 = (0, 0) := by kernel_rfl
end Go.Am
namespace Go.Am
end Go.Am
end

section
namespace Go.Proofs.YtoinkmogdfjmmaaGreatDoor
open Go Go.Am Go.RowKit
set_option maxRecDepth 100000
noncomputable def faultFs : List Field := (structF PP T.api_Fault).getD []
theorem faultF : structF PP T.api_Fault = some faultFs := by kernel_rfl
theorem StructE.fault {a b c d a' b' c' d' : Int} {Q : Bool → Prop} (q : Q (decide (a = a') && (decide (b = b') && (decide (c = c') && (decide (d = d') && true))))) :
    StructE PP T.api_Fault [.int .i64 a, .int .i64 b, .int .i64 c, .int .i64 d] [.int .i64 a', .int .i64 b', .int .i64 c', .int .i64 d'] Q := .mk faultF (by kernel_rfl) q
theorem StructE.same {a b c d : Int} {Q : Bool → Prop} (q : Q true) : StructE PP T.api_Fault [.int .i64 a, .int .i64 b, .int .i64 c, .int .i64 d] [.int .i64 a, .int .i64 b, .int .i64 c, .int .i64 d] Q   := StructE.fault (by simpa using q)
theorem StructE.other {a b c d a' b' c' d' : Int} {Q : Bool → Prop} (h : ¬ a = a') (q : Q false) :
    StructE PP T.api_Fault [.int .i64 a, .int .i64 b, .int .i64 c, .int .i64 d] [.int .i64 a', .int .i64 b', .int .i64 c', .int .i64 d'] Q   := StructE.fault (by simpa [h] using q)
theorem ElemZ.litE {l : List PV} {i n : Nat} {K : PV → Prop} {d : PV} (h : l[i]? = some d) (hc : d.cells.length = n) (k : K d) : ElemZ l i n K := ⟨d, h, hc, k⟩
theorem law8_awake : AbsCall PP GG F.law8_awake [] [] ⟨.ret (.p (.bool true)), [], []⟩ := by
  have h1 := jread_Parse jrw1 (by decide)
  rw [jrp1, jrf1, Tree.enc_eta] at h1
  simp only [Tree.kind, Tree.n, Tree.s, Tree.l, Tree.m, Tree.encM, Tree.encL, Tree.encP, Tree.enc, PV.cells, noFault] at h1
  have h2 := jread_Parse [91, 49, 44, 93] (by decide)
  rw [jrp2, jrf2, Tree.enc_eta] at h2
  simp only [Tree.kind, Tree.n, Tree.s, Tree.l, Tree.m, Tree.encM, Tree.encL, Tree.encP, Tree.enc, PV.cells, noFault] at h2
  have h3 := jread_Valid [110, 117, 108, 108] (by decide)
  rw [jrp3] at h3
  rw [show decide (((0, 0) : Int × Int).1 = 0) = true from rfl] at h3
  have hlen2 : ∀ x y : PV, (([x, y] : List PV).length : Int) = 2 := fun _ _ => rfl
  refine absCall_of (pol := polG) mixP F.law8_awake_is ?_
  conv => whnf
  repeat' ((first
   | ((with_reducible first | refine Br.dec ?_ ?_ | refine Br.ndec ?_ ?_) <;> intro hb <;> (try simp only [And.intro @hlen2 (ZZ)] at hb) <;> (first | omega | skip))
   | (with_reducible first | refine Br.tt rfl ?_ | refine Br.ff rfl ?_ | refine Br.ff (isEmptyCons _ _) ?_)
   | ((with_reducible first | refine Side.mk ?_ ?_ | refine WrapW.mk ?_ ?_); focus (first | omega | (dsimp only [InR, Int.reduceToNat, IntKind.bits, Int.reducePow]; omega) | exact ⟨rfl, rfl⟩ | (simp [CC]; done) | (constructor <;> omega)))
   | (refine Br.mk ?_ ?_ <;> intro hb <;> (try simp only [And.intro @hlen2 (ZZ)] at hb) <;> (first | omega | skip))
   | refine Src.whole ⟨rfl, rfl⟩ ?_ | refine FrzV.whole ?_
   | refine CallW.use (h1) ?_
   | refine CallW.use (h2) ?_
   | refine CallW.use (h3) ?_
   | (refine StructE.same ?_)
   | (refine StructE.other (by decide) ?_)
   | (refine ElemZ.litE rfl rfl ?_)) <;> conv => whnf)
  all_goals first | exact CLe.retP rfl | exact absurd trivial (by assumption)
end Go.Proofs.YtoinkmogdfjmmaaGreatDoor
end

section
namespace Go.Am
open Go
inductive Vd : Str → Prop
  | nil : Vd []
  | step {c : UInt8} {cs : Str} (h : (utfTake (c :: cs)).2 ≠ 0) (r : Vd ((c :: cs).drop (stepN (c :: cs)))) : Vd (c :: cs)
theorem stepN_of {s : Str} (h : (utfTake s).2 ≠ 0) : stepN s = (utfTake s).2.toNat := by unfold stepN; have := utfTake_n s; omega
theorem vd_of_scan : ∀ (q : Nat) (s : Str), s.length ≤ q → (utfScan q s 0).2 = true → Vd s
  | _, [], _, _ => .nil
  | 0, c :: cs, h, _ => by simp at h
  | q + 1, c :: cs, h, hs => by
    obtain ⟨h0, h1⟩ := scan_cons hs
    have := stepN_pos (c :: cs)
    exact .step h0 (vd_of_scan q _ (by rw [List.length_drop]; simp only [List.length_cons] at h ⊢; omega) h1)
theorem scan_of_vd {s : Str} (h : Vd s) : ∀ (q : Nat) (p : Int), (utfScan q s p).2 = true := by
  induction h with
  | nil => intro q p; cases q <;> rfl
  | @step c cs h r ih =>
    intro q p
    cases q with
    | zero => rfl
    | succ q =>
      unfold utfScan
      simp only []
      rw [if_neg h, ← stepN_of h]
      exact ih q _
theorem vd_valid {s : Str} (h : (utfValid s).2 = true) : Vd s := vd_of_scan _ _ (Nat.le_refl _) h
theorem valid_vd {s : Str} (h : Vd s) : (utfValid s).2 = true := scan_of_vd h _ _
theorem vd_str {s : Str} (h : strOk s = true) : Vd s := by
  unfold strOk at h
  rw [Bool.and_eq_true] at h
  exact vd_valid h.2
theorem Vd.app {s r : Str} (h : Vd s) (g : Vd r) : Vd (s ++ r) := by
  induction h with
  | nil => exact g
  | @step c cs h0 _ ih =>
    have e := utfTake_app r h0
    rw [List.cons_append] at e ⊢
    have hle := stepN_le c cs
    have e2 : stepN (c :: (cs ++ r)) = stepN (c :: cs) := by unfold stepN; rw [e]
    refine .step (by rw [e]; exact h0) ?_
    rw [e2, ← List.cons_append, List.drop_append_of_le_length hle]
    exact ih
theorem vd_low {c : UInt8} {s : Str} (hc : c.toNat < 128) (h : Vd s) : Vd (c :: s) := by
  have e := take_low hc s
  refine .step (by rw [e]; simp) ?_
  have : stepN (c :: s) = 1 := by unfold stepN; rw [e]; rfl
  rw [this]
  exact h
theorem vd_asc {s : Str} (h : ∀ b ∈ s, b.toNat < 128) : Vd s := by
  induction s with
  | nil => exact .nil
  | cons c s ih => exact vd_low (h c (by simp)) (ih fun b hb => h b (by simp [hb]))
theorem vd_one {c : UInt8} {cs : Str} (h : (utfTake (c :: cs)).2 ≠ 0) : Vd ((c :: cs).take (stepN (c :: cs))) := by
  have hp := utfTake_pre c cs
  have h1 := stepN_pos (c :: cs)
  obtain ⟨m, hm⟩ : ∃ m, stepN (c :: cs) = m + 1 := ⟨stepN (c :: cs) - 1, by omega⟩
  rw [hm, List.take_succ_cons] at hp ⊢
  have hs : stepN (c :: cs.take m) = stepN (c :: cs) := by unfold stepN; rw [hp]
  refine .step (by rw [hp]; exact h) ?_
  rw [hs, hm, List.drop_eq_nil_of_le (by simp only [List.length_cons, List.length_take]; omega)]
  exact .nil
theorem vd_unit {c : UInt8} {cs : Str} (h : (utfTake (c :: cs)).2 ≠ 0) : Vd (unitL (c :: cs)) := by
  rcases unit_form c cs h with ⟨hc, _, e⟩ | ⟨_, e, _⟩
  · rw [e]
    refine vd_asc ?_
    have key : ∀ k : Nat, k < 128 → ∀ b ∈ q1 (UInt8.ofNat k), b.toNat < 128 := by decide +kernel
    have := key c.toNat hc
    rwa [u8_of] at this
  · rw [e]; exact vd_one h
theorem vd_quoteL {s : Str} (h : Vd s) : ∀ q, Vd (quoteL q s) := by
  induction h with
  | nil => intro q; cases q <;> exact .nil
  | @step c cs h0 _ ih =>
    intro q
    cases q with
    | zero => exact .nil
    | succ q => exact (vd_unit h0).app (ih q)
theorem vd_quote {s : Str} (h : strOk s = true) : Vd (quoteS s) := vd_low (c := 34) (by decide) ((vd_quoteL (vd_str h) _).app (vd_asc (by decide)))
theorem vd_nc {s : Str} (h : Nc s) : Vd s := vd_asc fun b hb => by
  have := h b hb
  unfold numCh at this
  have := of_decide_eq_true this
  omega
theorem vd_line (d : Int) : Vd (lineL d) := by
  refine vd_asc ?_
  unfold lineL
  split
  · simp
  · intro b hb
    rcases List.mem_cons.1 hb with rfl | hb
    · decide
    · have : ∀ n : Nat, ∀ b ∈ Lib.repeatL [32, 32] n, b = 32 := by
        intro n
        induction n with
        | zero => simp [Lib.repeatL]
        | succ n ih =>
          intro b hb
          rcases List.mem_append.1 (show b ∈ [32, 32] ++ Lib.repeatL [32, 32] n from hb) with hb | hb
          · simpa using hb
          · exact ih b hb
      rw [this _ b hb]; decide
theorem vd_colon (d : Int) : Vd (colonL d) := by
  refine vd_asc ?_
  unfold colonL
  split <;> decide
theorem vd_printL (d : Int) : ∀ (l : List Tree) (f : Bool), (∀ x ∈ l, ∀ d, Vd (printT x d)) → Vd (printL f l d)
  | [], _, _ => .nil
  | x :: l, f, h => by
    rw [printL]
    refine Vd.app ?_ ((vd_line d).app ((h x (by simp) d).app (vd_printL d l false fun y hy => h y (by simp [hy]))))
    split
    · exact .nil
    · exact vd_asc (by decide)
theorem vd_printM (d : Int) : ∀ (l : List (Str × Tree)) (f : Bool), (∀ x ∈ l, strOk x.1 = true ∧ ∀ d, Vd (printT x.2 d)) → Vd (printM f l d)
  | [], _, _ => .nil
  | (k, x) :: l, f, h => by
    obtain ⟨h1, h2⟩ := h (k, x) (by simp)
    rw [printM, printP]
    refine Vd.app ?_ ((vd_line d).app (((vd_quote h1).app ((vd_colon d).app (h2 d))).app (vd_printM d l false fun y hy => h y (by simp [hy]))))
    split
    · exact .nil
    · exact vd_asc (by decide)
theorem vd_print : ∀ t : Tree, goodT t = true → ∀ d, Vd (printT t d) := by
  refine Tree.ind fun t hl hm hg d => ?_
  obtain ⟨h1, h2, hr, gl, gm⟩ := goodT_spec hg
  rw [printT_eq]
  split
  · exact vd_asc (by decide)
  split
  · split <;> exact vd_asc (by decide)
  split
  · exact vd_nc (nc_itoa _)
  split
  · rename_i hk
    rw [hk] at h2
    unfold nodeOk at h2
    rw [if_neg (by omega), if_neg (by omega), if_pos rfl, Bool.and_eq_true] at h2
    exact vd_nc (nc_num h2.1)
  split
  · rename_i hk
    refine vd_quote ?_
    rcases hk with hk | hk
    · rw [hk] at h2
      unfold nodeOk at h2
      rwa [if_neg (by omega), if_neg (by omega), if_neg (by omega), if_pos rfl] at h2
    · rw [hk] at h2
      unfold nodeOk at h2
      rw [if_neg (by omega), if_neg (by omega), if_neg (by omega), if_neg (by omega), if_pos rfl] at h2
      exact stamp_str h2
  split
  · split
    · exact vd_asc (by decide)
    · exact vd_low (by decide) ((vd_printM _ _ _ fun x hx => ⟨(gm x hx).1, hm x hx (gm x hx).2⟩).app ((vd_line d).app (vd_asc (by decide))))
  · split
    · exact vd_asc (by decide)
    · exact vd_low (by decide) ((vd_printL _ _ _ fun x hx => hl x hx (gl x hx)).app ((vd_line d).app (vd_asc (by decide))))
theorem Ge.le {n m : Nat} {s : Str} (h : Ge n s) (hm : m ≤ n) : Ge m s := fun b hb => Nat.le_trans hm (h b hb)
theorem steep_nodes : ∀ (t : Tree) (d n : Int), 0 ≤ n → (steep t d n).1 = false → t.nodes + (steep t d n).2 = n ∧ t.depth ≤ d := by
  have hL : ∀ (l : List Tree), (∀ x ∈ l, ∀ d n : Int, 0 ≤ n → (steep x d n).1 = false → x.nodes + (steep x d n).2 = n ∧ x.depth ≤ d) → ∀ d n : Int, 0 ≤ n → 0 ≤ d → (steepL l d n).1 = false → Tree.nodesL l + (steepL l d n).2 = n ∧ Tree.depthL l ≤ d := by
    intro l
    induction l with
    | nil => intro _ d n _ hd _; simp [steepL, Tree.nodesL, Tree.depthL, hd]
    | cons x l ih =>
      intro h d n hn hd hs
      rw [steepL_cons] at hs ⊢
      split at hs
      · simp at hs
      · rename_i h1
        rw [if_neg h1]
        have h2 := h x (by simp) d n hn (by simpa using h1)
        have h3 := ih (fun y hy => h y (by simp [hy])) d (steep x d n).2 (steep_ok x d n hn).1 hd hs
        simp only [Tree.nodesL, Tree.depthL]
        omega
  have hM : ∀ (l : List (Str × Tree)), (∀ x ∈ l, ∀ d n : Int, 0 ≤ n → (steep x.2 d n).1 = false → x.2.nodes + (steep x.2 d n).2 = n ∧ x.2.depth ≤ d) → ∀ d n : Int, 0 ≤ n → 0 ≤ d → (steepM l d n).1 = false → Tree.nodesM l + (steepM l d n).2 = n ∧ Tree.depthM l ≤ d := by
    intro l
    induction l with
    | nil => intro _ d n _ hd _; simp [steepM, Tree.nodesM, Tree.depthM, hd]
    | cons x l ih =>
      intro h d n hn hd hs
      rw [steepM_cons] at hs ⊢
      split at hs
      · simp at hs
      · rename_i h1
        rw [if_neg h1]
        have h2 := h x (by simp) d n hn (by simpa using h1)
        have h3 := ih (fun y hy => h y (by simp [hy])) d (steep x.2 d n).2 (steep_ok x.2 d n hn).1 hd hs
        obtain ⟨k, x⟩ := x
        simp only [Tree.nodesM, Tree.depthM, Tree.nodesP, Tree.depthP] at *
        omega
  refine Tree.ind fun t hl hm d n hn hs => ?_
  obtain ⟨k, z, s, l, m⟩ := t
  rw [steep_mk] at hs ⊢
  split at hs
  · simp at hs
  rename_i h0
  rw [if_neg h0]
  split at hs
  · simp at hs
  rename_i h1
  rw [if_neg h1]
  have ok1 : 0 ≤ (steepL l (d - 1) (n - 1)).2 := (steepL_ok (fun t _ d n hn => steep_ok t d n hn) (d - 1) (n - 1) (by omega)).1
  have h2 := hL l hl (d - 1) (n - 1) (by omega) (by omega) (by simpa using h1)
  have h3 := hM m hm (d - 1) _ ok1 (by omega) hs
  simp only [Tree.nodes, Tree.depth]
  omega
theorem parse_print {t : Tree} (hg : goodT t = true) (d : Int) (hlen : (printT t d).length ≤ 65536) (hn : t.nodes ≤ 4096) (hd : t.depth ≤ 32) : parseS (printT t d) = (unst t, 0, 0) := by
  have hv := valid_vd (vd_print t hg d)
  have hne : printT t d ≠ [] := printT_ne hg d
  have hsk : skipB (printT t d) = printT t d := by have := print_skip hg d []; rwa [List.append_nil] at this
  have hwz : whileL (printT t d) blanksB = 0 := by
    have h1 := skip_drop (printT t d)
    rw [hsk] at h1
    have h2 := congrArg List.length h1
    rw [List.length_drop] at h2
    have : 0 < (printT t d).length := List.length_pos_iff.2 hne
    omega
  have hlx := lex_tree t [] d [] [] hg (.inl rfl) .nil
  rw [List.append_nil, List.append_nil] at hlx
  have hj : judgeS (printT t d) = (0, 0) := by
    unfold judgeS
    rw [if_neg (by omega), if_neg (by rw [hv]; decide)]
  obtain ⟨l, hc, hl⟩ := cutL_lexes hlx ((printT t d).length + 1) (printT t d) 0 [] rfl (by omega) (by omega)
  have hcut : cutT (printT t d) = (l ++ [⟨0, [], (printT t d).length⟩], 0, 0) := by
    unfold cutT
    rw [hj, if_neg (by decide), hwz, hc, if_neg (by simp), List.nil_append]
  unfold parseS
  rw [hcut, if_pos rfl]
  unfold wholeS
  have hll : l.length = (wordsT t).length := by rw [← hl, List.length_map]
  have hr := read_tree t (3 * (l ++ [(⟨0, [], (printT t d).length⟩ : Wd)]).length + 1) (l ++ [⟨0, [], (printT t d).length⟩]) 1 0 0 [(0, [])] hg (by simp [hl, kp]) (by rw [List.length_append]; omega) (by omega) (by omega)
  rw [hr]
  simp only []
  have hat : wdAt (l ++ [(⟨0, [], (printT t d).length⟩ : Wd)]) (0 + (wordsT t).length) = ⟨0, [], (printT t d).length⟩ := by
    unfold wdAt
    rw [Nat.zero_add, ← hll]
    simp
  rw [hat, if_pos rfl]
theorem parse_whole {t : Str} {l : List Wd} (hc : cutT t = (l ++ [⟨0, [], t.length⟩], 0, 0)) {x : Tree} {m : Int} (hr : valR (3 * (l.length + 1) + 1) (l ++ [⟨0, [], t.length⟩]) 1 0 0 = .ok (x, l.length, m)) :
    parseS t = (x, 0, 0) := by
  unfold parseS
  rw [hc, if_pos rfl]
  unfold wholeS
  rw [List.length_append, List.length_singleton, hr]
  simp only []
  have hat : wdAt (l ++ [(⟨0, [], t.length⟩ : Wd)]) l.length = ⟨0, [], t.length⟩ := by
    unfold wdAt
    simp
  rw [hat, if_pos rfl]
end Go.Am
end

section
namespace Go.Proofs.YtoinkmogdfjmmaaGreatDoor
open Go Go.Am Go.RowKit
set_option maxRecDepth 100000
end Go.Proofs.YtoinkmogdfjmmaaGreatDoor
end

section
namespace Go.Proofs.YtoinkmogdfjmmaaGreatDoor
open Go Go.Am
set_option maxRecDepth 100000
def PlainIs (t : Tree) : Prop := AbsCall PP GG F.ref1_plain [.p t.enc] [] ⟨.ret (.p (.bool (plainT t))), [], []⟩
theorem plain_loopL (t : Tree) (hw : t.wt ≤ 4000000) (R : Bool) (K : Post) (hl : ∀ x ∈ t.l, PlainIs x)
    (h0 : R = true → K (.exit 1) [] [.var T.api_Value (.p t.enc)] [])
    (hr : R = false → K .ret [(2, .p (.bool false))] [.var T.api_Value (.p t.enc)] []) :
    ∀ (q i : Nat), i + q = t.l.length → plainL (t.l.drop i) = R →
      LoopW PP GG 160 0 (loopN F.ref1_plain_c 0) [(1, .ptr 0 0), (6, .p (.int .i64 i))] [.var T.api_Value (.p t.enc)] [] (PostCl 160 K) := by
  rw [Tree.enc_eta t] at h0 hr ⊢
  have hwl := t.wt_ll
  have hlen : (Tree.encL t.l).length = t.l.length := Tree.encL_length _
  intro q
  induction q with
  | zero =>
    intro i hi hR
    rw [List.drop_eq_nil_of_le (by omega), plainL] at hR
    refine LoopW.round (pol := polG) mixP ?_
    conv => whnf
    repeat' ((first
     | ((with_reducible first | refine Br.dec ?_ ?_ | refine Br.ndec ?_ ?_) <;> intro hb <;> (try simp only [And.intro @hlen (ZZ)] at hb) <;> (first | omega | contradiction | skip))
     | (with_reducible first | refine Br.tt rfl ?_ | refine Br.ff rfl ?_ | refine Br.ff (isEmptyCons _ _) ?_)
     | ((with_reducible first | refine Side.mk ?_ ?_ | refine WrapW.mk ?_ ?_); focus (first | omega | (dsimp only [InR, Int.reduceToNat, IntKind.bits, Int.reducePow]; omega) | (simp [CC]; done) | (constructor <;> omega)))
     | with_reducible refine Br.not ?_
     | (with_reducible first | refine Br.tt (by assumption) ?_ | refine Br.ff (by assumption) ?_)
     | (refine Br.mk ?_ ?_ <;> intro hb <;> (try simp only [And.intro @hlen (ZZ)] at hb) <;> (first | omega | contradiction | skip))
     | refine Src.whole ⟨rfl, rfl⟩ ?_ | refine FrzV.whole ?_) <;> conv => whnf)
    · refine PostCl.of (h0 hR.symm) ?_ ?_
      · repeat first | exact trivial | refine ⟨VLe.refl _, ?_⟩
      · repeat first | exact trivial | refine ⟨by decide, ?_⟩
  | succ q ih =>
    intro i hi hR
    obtain ⟨x, hx⟩ : ∃ x, t.l[i]? = some x := ⟨_, List.getElem?_eq_getElem (show i < t.l.length by omega)⟩
    rw [drop_cons hx, plainL] at hR
    have hxm : x ∈ t.l := List.mem_of_getElem? hx
    refine LoopW.round (pol := polG) mixP ?_
    conv => whnf
    repeat' ((first
     | ((with_reducible first | refine Br.dec ?_ ?_ | refine Br.ndec ?_ ?_) <;> intro hb <;> (try simp only [And.intro @hlen (ZZ)] at hb) <;> (first | omega | contradiction | skip))
     | (with_reducible first | refine Br.tt rfl ?_ | refine Br.ff rfl ?_ | refine Br.ff (isEmptyCons _ _) ?_)
     | ((with_reducible first | refine Side.mk ?_ ?_ | refine WrapW.mk ?_ ?_); focus (first | omega | (dsimp only [InR, Int.reduceToNat, IntKind.bits, Int.reducePow]; omega) | exact ⟨(Tree.enc_cells x).symm, (Tree.enc_isAgg x).symm⟩ | (simp [CC]; done) | (constructor <;> omega)))
     | with_reducible refine Br.not ?_
     | (with_reducible first | refine Br.tt (by assumption) ?_ | refine Br.ff (by assumption) ?_)
     | (refine Br.mk ?_ ?_ <;> intro hb <;> (try simp only [And.intro @hlen (ZZ)] at hb) <;> (first | omega | contradiction | skip))
     | refine Src.whole ⟨rfl, rfl⟩ ?_ | refine FrzV.whole ?_
     | refine CallW.use (hl x hxm) ?_
     | (refine ElemZ.tree (by simpa using hx) ?_)) <;> conv => whnf)
    · rw [hb, Bool.true_and] at hR
      refine LoopW.sub (ih (i + 1) (by omega) hR) (by repeat first | exact trivial | refine ⟨VLe.refl _, ?_⟩) (by repeat first | exact trivial | refine ⟨by decide, ?_⟩)
    · rw [hb, Bool.false_and] at hR
      refine PostCl.of (hr hR.symm) ?_ ?_
      · repeat first | exact trivial | refine ⟨VLe.refl _, ?_⟩
      · repeat first | exact trivial | refine ⟨by decide, ?_⟩
theorem plain_loopM (t : Tree) (hw : t.wt ≤ 4000000) (R : Bool) (K : Post) (hl : ∀ x ∈ t.m, PlainIs x.2)
    (h0 : R = true → K (.exit 3) [] [.var T.api_Value (.p t.enc)] [])
    (hr : R = false → K .ret [(2, .p (.bool false))] [.var T.api_Value (.p t.enc)] []) :
    ∀ (q i : Nat) (o : Option Str), i + q = t.m.length → plainM o (t.m.drop i) = R → (i = 0 → o = none) → (0 < i → ∃ p, t.m[i - 1]? = some p ∧ o = some p.1) →
      LoopW PP GG 160 0 (loopN F.ref1_plain_c 1) [(1, .ptr 0 0), (7, .p (.int .i64 i))] [.var T.api_Value (.p t.enc)] [] (PostCl 160 K) := by
  rw [Tree.enc_eta t] at h0 hr ⊢
  have hwl := t.wt_ml
  have hlen : (Tree.encM t.m).length = t.m.length := Tree.encM_length _
  intro q
  induction q with
  | zero =>
    intro i o hi hR ho1 ho2
    rw [List.drop_eq_nil_of_le (by omega), plainM] at hR
    refine LoopW.round (pol := polG) mixP ?_
    conv => whnf
    repeat' ((first
     | ((with_reducible first | refine Br.dec ?_ ?_ | refine Br.ndec ?_ ?_) <;> intro hb <;> (try simp only [And.intro @hlen (ZZ)] at hb) <;> (first | omega | contradiction | skip))
     | (with_reducible first | refine Br.tt rfl ?_ | refine Br.ff rfl ?_ | refine Br.ff (isEmptyCons _ _) ?_)
     | ((with_reducible first | refine Side.mk ?_ ?_ | refine WrapW.mk ?_ ?_); focus (first | omega | (dsimp only [InR, Int.reduceToNat, IntKind.bits, Int.reducePow]; omega) | (simp [CC]; done) | (constructor <;> omega)))
     | with_reducible refine Br.not ?_
     | (with_reducible first | refine Br.tt (by assumption) ?_ | refine Br.ff (by assumption) ?_)
     | (refine Br.mk ?_ ?_ <;> intro hb <;> (try simp only [And.intro @hlen (ZZ)] at hb) <;> (first | omega | contradiction | skip))
     | refine Src.whole ⟨rfl, rfl⟩ ?_ | refine FrzV.whole ?_) <;> conv => whnf)
    · refine PostCl.of (h0 hR.symm) ?_ ?_
      · repeat first | exact trivial | refine ⟨VLe.refl _, ?_⟩
      · repeat first | exact trivial | refine ⟨by decide, ?_⟩
  | succ q ih =>
    intro i o hi hR ho1 ho2
    obtain ⟨x, hx⟩ : ∃ x, t.m[i]? = some x := ⟨_, List.getElem?_eq_getElem (show i < t.m.length by omega)⟩
    rw [drop_cons hx, plainM] at hR
    have hxm : x ∈ t.m := List.mem_of_getElem? hx
    have hsp := hl x hxm
    have hxw := Tree.wt_m hxm
    obtain ⟨k, y⟩ := x
    have hst := ref1_Str k (by simp only [] at hxw; omega)
    unfold PlainIs at hsp
    rw [Tree.enc_eta y] at hsp
    simp only [plainP] at hsp hR
    have next : ∀ (i' : Nat), i' = i + 1 → plainM (some k) (t.m.drop i') = R → LoopW PP GG 160 0 (loopN F.ref1_plain_c 1) [(1, .ptr 0 0), (7, .p (.int .i64 i'))] [.var T.api_Value (.p (.agg [.int .i64 t.kind, .int .i64 t.n, .str t.s, .lst false (Tree.encL t.l), .lst false (Tree.encM t.m)]))] [] (PostCl 160 K) := by
      rintro i' rfl h
      exact ih (i + 1) (some k) (by omega) h (by omega) (fun _ => ⟨(k, y), by simpa using hx, rfl⟩)
    by_cases hi0 : i = 0
    · obtain rfl := ho1 hi0
      subst hi0
      refine LoopW.round (pol := polG) mixP ?_
      conv => whnf
      repeat' ((first
       | ((with_reducible first | refine Br.dec ?_ ?_ | refine Br.ndec ?_ ?_) <;> intro hb <;> (try simp only [And.intro @hlen (ZZ)] at hb) <;> (first | omega | contradiction | skip))
       | (with_reducible first | refine Br.tt rfl ?_ | refine Br.ff rfl ?_ | refine Br.ff (isEmptyCons _ _) ?_)
       | ((with_reducible first | refine Side.mk ?_ ?_ | refine WrapW.mk ?_ ?_); focus (first | omega | (dsimp only [InR, Int.reduceToNat, IntKind.bits, Int.reducePow]; omega) | exact ⟨rfl, rfl⟩ | (simp [CC]; done) | (constructor <;> omega)))
       | with_reducible refine Br.not ?_
       | (with_reducible first | refine Br.tt (by assumption) ?_ | refine Br.ff (by assumption) ?_)
       | (refine Br.mk ?_ ?_ <;> intro hb <;> (try simp only [And.intro @hlen (ZZ)] at hb) <;> (first | omega | contradiction | skip))
       | refine Src.whole ⟨rfl, rfl⟩ ?_ | refine FrzV.whole ?_
       | refine CallW.use (hsp) ?_
       | refine CallW.use (hst) ?_
       | (refine TabsW.lit F.ref1_plain_t28 (by kernel_rfl) ?_)
       | (refine ElemZ.pair (p := (k, y)) (by simpa using hx) ?_; (rw [Tree.encP, Tree.enc_eta y]; conv => whnf))) <;> conv => whnf)
      all_goals
        first
        | (rw [‹strOk k = true›, hb, Bool.not_false, Bool.true_and, Bool.true_and, Bool.true_and] at hR; refine LoopW.sub (next _ rfl hR) (by repeat first | exact trivial | refine ⟨VLe.refl _, ?_⟩) (by repeat first | exact trivial | refine ⟨by decide, ?_⟩))
        | (rw [‹strOk k = true›, hb, Bool.not_false, Bool.true_and, Bool.true_and, Bool.false_and] at hR; refine PostCl.of (hr hR.symm) (by repeat first | exact trivial | refine ⟨VLe.refl _, ?_⟩) (by repeat first | exact trivial | refine ⟨by decide, ?_⟩))
        | (rw [hb, Bool.false_and, Bool.false_and] at hR; refine PostCl.of (hr hR.symm) (by repeat first | exact trivial | refine ⟨VLe.refl _, ?_⟩) (by repeat first | exact trivial | refine ⟨by decide, ?_⟩))
    · obtain ⟨⟨k', y'⟩, hp, rfl⟩ := ho2 (by omega)
      unfold leqS at hR
      simp only [] at hR
      cases hq : (Op.bytesLess k k' || decide (k = k')) with
      | false =>
        rw [hq] at hR
        refine LoopW.round (pol := polG) mixP ?_
        conv => whnf
        repeat' ((first
         | ((with_reducible first | refine Br.dec ?_ ?_ | refine Br.ndec ?_ ?_) <;> intro hb <;> (try simp only [And.intro @hlen (ZZ)] at hb) <;> (first | omega | contradiction | skip))
         | (with_reducible first | refine Br.tt rfl ?_ | refine Br.ff rfl ?_ | refine Br.ff (isEmptyCons _ _) ?_)
         | ((with_reducible first | refine Side.mk ?_ ?_ | refine WrapW.mk ?_ ?_); focus (first | omega | (dsimp only [InR, Int.reduceToNat, IntKind.bits, Int.reducePow]; omega) | exact ⟨rfl, rfl⟩ | (simp [CC]; done) | (constructor <;> omega)))
         | with_reducible refine Br.not ?_
         | (with_reducible first | refine Br.tt (by assumption) ?_ | refine Br.ff (by assumption) ?_)
         | (refine Br.mk ?_ ?_ <;> intro hb <;> (try simp only [And.intro @hlen (ZZ)] at hb) <;> (first | omega | contradiction | skip))
         | refine Src.whole ⟨rfl, rfl⟩ ?_ | refine FrzV.whole ?_
         | refine CallW.use (hsp) ?_
         | refine CallW.use (hst) ?_
         | (refine TabsW.lit F.ref1_plain_t28 (by kernel_rfl) ?_)
         | (refine ElemZ.pair (p := (k, y)) (by simpa using hx) ?_; (rw [Tree.encP, Tree.enc_eta y]; conv => whnf))
         | (refine ElemZ.pair (p := (k', y')) (by rw [show ((i : Int) - 1).toNat = i - 1 by omega]; exact hp) ?_; (rw [Tree.encP, Tree.enc_eta y']; conv => whnf))) <;> conv => whnf)
        all_goals
          first
          | (rw [‹strOk k = true›, hb, Bool.not_false, Bool.true_and, Bool.true_and, Bool.true_and] at hR; refine LoopW.sub (next _ rfl hR) (by repeat first | exact trivial | refine ⟨VLe.refl _, ?_⟩) (by repeat first | exact trivial | refine ⟨by decide, ?_⟩))
          | (rw [‹strOk k = true›, hb, Bool.not_false, Bool.true_and, Bool.true_and, Bool.false_and] at hR; refine PostCl.of (hr hR.symm) (by repeat first | exact trivial | refine ⟨VLe.refl _, ?_⟩) (by repeat first | exact trivial | refine ⟨by decide, ?_⟩))
          | (rw [hb, Bool.false_and, Bool.false_and] at hR; refine PostCl.of (hr hR.symm) (by repeat first | exact trivial | refine ⟨VLe.refl _, ?_⟩) (by repeat first | exact trivial | refine ⟨by decide, ?_⟩))
      | true =>
        rw [hq] at hR
        refine LoopW.round (pol := polG) mixP ?_
        conv => whnf
        repeat' ((first
         | ((with_reducible first | refine Br.dec ?_ ?_ | refine Br.ndec ?_ ?_) <;> intro hb <;> (try simp only [And.intro @hlen (ZZ)] at hb) <;> (first | omega | contradiction | skip))
         | (with_reducible first | refine Br.tt rfl ?_ | refine Br.ff rfl ?_ | refine Br.ff (isEmptyCons _ _) ?_)
         | ((with_reducible first | refine Side.mk ?_ ?_ | refine WrapW.mk ?_ ?_); focus (first | omega | (dsimp only [InR, Int.reduceToNat, IntKind.bits, Int.reducePow]; omega) | exact ⟨rfl, rfl⟩ | (simp [CC]; done) | (constructor <;> omega)))
         | with_reducible refine Br.not ?_
         | (with_reducible first | refine Br.tt (by assumption) ?_ | refine Br.ff (by assumption) ?_)
         | (refine Br.mk ?_ ?_ <;> intro hb <;> (try simp only [And.intro @hlen (ZZ)] at hb) <;> (first | omega | contradiction | skip))
         | refine Src.whole ⟨rfl, rfl⟩ ?_ | refine FrzV.whole ?_
         | refine CallW.use (hsp) ?_
         | refine CallW.use (hst) ?_
         | (refine TabsW.lit F.ref1_plain_t28 (by kernel_rfl) ?_)
         | (refine ElemZ.pair (p := (k, y)) (by simpa using hx) ?_; (rw [Tree.encP, Tree.enc_eta y]; conv => whnf))
         | (refine ElemZ.pair (p := (k', y')) (by rw [show ((i : Int) - 1).toNat = i - 1 by omega]; exact hp) ?_; (rw [Tree.encP, Tree.enc_eta y']; conv => whnf))) <;> conv => whnf)
        all_goals
          first
          | (rw [‹strOk k = true›, Bool.not_true, Bool.true_and, Bool.false_and, Bool.false_and] at hR; refine PostCl.of (hr hR.symm) (by repeat first | exact trivial | refine ⟨VLe.refl _, ?_⟩) (by repeat first | exact trivial | refine ⟨by decide, ?_⟩))
          | (rw [hb, Bool.false_and, Bool.false_and] at hR; refine PostCl.of (hr hR.symm) (by repeat first | exact trivial | refine ⟨VLe.refl _, ?_⟩) (by repeat first | exact trivial | refine ⟨by decide, ?_⟩))
theorem plain_4 (t : Tree) (hw : t.wt ≤ 4000000) (hl : ∀ x ∈ t.l, PlainIs x) (hm : ∀ x ∈ t.m, PlainIs x.2) (hg : ¬ ownBad t.kind t.n t.s.length t.l.length t.m.length) (R : Bool) (K : Post)
    (hR : (nodeOk t.kind t.n t.s && (plainL t.l && plainM none t.m)) = R)
    (h0 : K .ret [(2, .p (.bool R))] [.var T.api_Value (.p t.enc)] []) :
    CutW PP GG 160 0 (tailN F.ref1_plain_c 4) [(1, .ptr 0 0), (3, .p (.int .i64 t.kind))] [.var T.api_Value (.p t.enc)] [] (PostCl 160 K) := by
  have hs := t.wt_s
  have hlL := plain_loopL t hw
  have hlM := plain_loopM t hw
  rw [Tree.enc_eta t] at h0 hlL hlM ⊢
  unfold ownBad at hg
  unfold nodeOk at hR
  have pl : t.kind ≠ 5 → plainL t.l = true := fun h => by rw [List.eq_nil_of_length_eq_zero (show t.l.length = 0 by omega)]; rfl
  have pm : t.kind ≠ 6 → plainM none t.m = true := fun h => by rw [List.eq_nil_of_length_eq_zero (show t.m.length = 0 by omega)]; rfl
  refine CutW.go (pol := polC []) mixP ?_
  conv => whnf
  repeat' ((first
   | ((with_reducible first | refine Br.dec ?_ ?_ | refine Br.ndec ?_ ?_) <;> intro hb <;> (try simp only [ZZ] at hb) <;> (first | omega | contradiction | skip))
   | (with_reducible first | refine Br.tt rfl ?_ | refine Br.ff rfl ?_ | refine Br.ff (isEmptyCons _ _) ?_)
   | ((with_reducible first | refine Side.mk ?_ ?_ | refine WrapW.mk ?_ ?_); focus (first | omega | (dsimp only [InR, Int.reduceToNat, IntKind.bits, Int.reducePow]; omega) | (simp [CC]; done) | (constructor <;> omega)))
   | with_reducible refine Br.not ?_
   | (with_reducible first | refine Br.tt (by assumption) ?_ | refine Br.ff (by assumption) ?_)
   | (refine Br.mk ?_ ?_ <;> intro hb <;> (try simp only [ZZ] at hb) <;> (first | omega | contradiction | skip))
   | refine Src.whole ⟨rfl, rfl⟩ ?_ | refine FrzV.whole ?_
   | refine CallW.use (ref1_Int t.s (by omega)) ?_
   | refine CallW.use (ref1_Number t.s (by omega)) ?_
   | refine CallW.use (ref1_Str t.s (by omega)) ?_
   | refine CallW.use (ref1_Stamp t.s) ?_) <;> conv => whnf)
  · rw [pl (by omega), pm (by omega), if_pos (by omega)] at hR
    subst hR
    refine PostCl.of (h0) ?_ ?_
    · repeat first | exact trivial | refine ⟨VLe.refl _, ?_⟩
    · repeat first | exact trivial | refine ⟨by decide, ?_⟩
  · rw [pl (by omega), pm (by omega), if_pos (by omega)] at hR
    subst hR
    refine PostCl.of (h0) ?_ ?_
    · repeat first | exact trivial | refine ⟨VLe.refl _, ?_⟩
    · repeat first | exact trivial | refine ⟨by decide, ?_⟩
  · rw [pl (by omega), pm (by omega), if_neg (by omega), if_pos (by omega), decide_eq_true (Or.inl hb)] at hR
    subst hR
    refine PostCl.of (h0) ?_ ?_
    · repeat first | exact trivial | refine ⟨VLe.refl _, ?_⟩
    · repeat first | exact trivial | refine ⟨by decide, ?_⟩
  · rw [pl (by omega), pm (by omega), if_neg (by omega), if_pos (by omega), show decide (t.n = 0 ∨ t.n = 1) = decide (t.n = 1) by simp [hb]] at hR
    simp only [And.intro Bool.and_true Bool.true_and] at hR
    subst hR
    refine PostCl.of (h0) ?_ ?_
    · repeat first | exact trivial | refine ⟨VLe.refl _, ?_⟩
    · repeat first | exact trivial | refine ⟨by decide, ?_⟩
  · rw [pl (by omega), pm (by omega), if_neg (by omega), if_neg (by omega), if_pos (by omega), hb] at hR
    simp only [And.intro Bool.and_true Bool.true_and] at hR
    subst hR
    refine PostCl.of (h0) ?_ ?_
    · repeat first | exact trivial | refine ⟨VLe.refl _, ?_⟩
    · repeat first | exact trivial | refine ⟨by decide, ?_⟩
  · rw [pl (by omega), pm (by omega), if_neg (by omega), if_neg (by omega), if_pos (by omega), hb] at hR
    subst hR
    refine PostCl.of (h0) ?_ ?_
    · repeat first | exact trivial | refine ⟨VLe.refl _, ?_⟩
    · repeat first | exact trivial | refine ⟨by decide, ?_⟩
  · rw [pl (by omega), pm (by omega), if_neg (by omega), if_neg (by omega), if_neg (by omega), if_pos (by omega)] at hR
    simp only [And.intro Bool.and_true Bool.true_and] at hR
    subst hR
    refine PostCl.of (h0) ?_ ?_
    · repeat first | exact trivial | refine ⟨VLe.refl _, ?_⟩
    · repeat first | exact trivial | refine ⟨by decide, ?_⟩
  · rw [pl (by omega), pm (by omega), if_neg (by omega), if_neg (by omega), if_neg (by omega), if_neg (by omega), if_pos (by omega)] at hR
    simp only [And.intro Bool.and_true Bool.true_and] at hR
    subst hR
    refine PostCl.of (h0) ?_ ?_
    · repeat first | exact trivial | refine ⟨VLe.refl _, ?_⟩
    · repeat first | exact trivial | refine ⟨by decide, ?_⟩
  · rw [pm (by omega), if_neg (by omega), if_neg (by omega), if_neg (by omega), if_neg (by omega), if_neg (by omega), decide_eq_true (Or.inl hb), Bool.true_and, Bool.and_true] at hR
    refine LoopW.cl ?_
    refine LoopW.sub (hlL R _ hl (fun h => ?_) (fun h => ?_) t.l.length 0 (by omega) hR) (by repeat first | exact trivial | refine ⟨VLe.refl _, ?_⟩) (by repeat first | exact trivial | refine ⟨by decide, ?_⟩)
    · conv => whnf
      subst h
      refine PostCl.of (h0) ?_ ?_
      · repeat first | exact trivial | refine ⟨VLe.refl _, ?_⟩
      · repeat first | exact trivial | refine ⟨by decide, ?_⟩
    · conv => whnf
      subst h
      refine PostCl.of (h0) ?_ ?_
      · repeat first | exact trivial | refine ⟨VLe.refl _, ?_⟩
      · repeat first | exact trivial | refine ⟨by decide, ?_⟩
  · rw [pl (by omega), if_neg (by omega), if_neg (by omega), if_neg (by omega), if_neg (by omega), if_neg (by omega), decide_eq_true (Or.inr hb), Bool.true_and, Bool.true_and] at hR
    refine LoopW.cl ?_
    refine LoopW.sub (hlM R _ hm (fun h => ?_) (fun h => ?_) t.m.length 0 none (by omega) hR (fun _ => rfl) (by omega)) (by repeat first | exact trivial | refine ⟨VLe.refl _, ?_⟩) (by repeat first | exact trivial | refine ⟨by decide, ?_⟩)
    · conv => whnf
      subst h
      refine PostCl.of (h0) ?_ ?_
      · repeat first | exact trivial | refine ⟨VLe.refl _, ?_⟩
      · repeat first | exact trivial | refine ⟨by decide, ?_⟩
    · conv => whnf
      subst h
      refine PostCl.of (h0) ?_ ?_
      · repeat first | exact trivial | refine ⟨VLe.refl _, ?_⟩
      · repeat first | exact trivial | refine ⟨by decide, ?_⟩
  · rw [if_neg (by omega), if_neg (by omega), if_neg (by omega), if_neg (by omega), if_neg (by omega), decide_eq_false (by omega), Bool.false_and] at hR
    subst hR
    refine PostCl.of (h0) ?_ ?_
    · repeat first | exact trivial | refine ⟨VLe.refl _, ?_⟩
    · repeat first | exact trivial | refine ⟨by decide, ?_⟩
theorem ref1_plain : ∀ t : Tree, t.wt ≤ 4000000 → PlainIs t := by
  refine Tree.indW fun t hw hl hm => ?_
  have hP := plainT_eq t
  have h4 := plain_4 t hw (fun x hx => (hl x hx).2) (fun x hx => (hm x hx).2.2)
  have hlen : (Tree.encL t.l).length = t.l.length := Tree.encL_length _
  have hmlen : (Tree.encM t.m).length = t.m.length := Tree.encM_length _
  have hP1 : ownBad t.kind t.n t.s.length t.l.length t.m.length → plainT t = false := fun h => by rw [hP, if_pos h]
  have hP2 : ¬ ownBad t.kind t.n t.s.length t.l.length t.m.length → plainT t = (nodeOk t.kind t.n t.s && (plainL t.l && plainM none t.m)) := fun h => by rw [hP, if_neg h]
  clear hP
  unfold ownBad at hP1 hP2 h4
  unfold PlainIs
  rw [Tree.enc_eta t] at h4 ⊢
  refine absCall_of (pol := polC [4]) mixP F.ref1_plain_is ?_
  conv => whnf
  repeat' ((first
   | ((with_reducible first | refine Br.dec ?_ ?_ | refine Br.ndec ?_ ?_) <;> intro hb <;> (try simp only [And.intro @hlen (And.intro @hmlen (ZZ))] at hb) <;> (first | omega | contradiction | skip))
   | (with_reducible first | refine Br.tt rfl ?_ | refine Br.ff rfl ?_ | refine Br.ff (isEmptyCons _ _) ?_)
   | ((with_reducible first | refine Side.mk ?_ ?_ | refine WrapW.mk ?_ ?_); focus (first | omega | (dsimp only [InR, Int.reduceToNat, IntKind.bits, Int.reducePow]; omega) | (simp [CC]; done) | (constructor <;> omega)))
   | with_reducible refine Br.not ?_
   | (with_reducible first | refine Br.tt (by assumption) ?_ | refine Br.ff (by assumption) ?_)
   | (refine Br.mk ?_ ?_ <;> intro hb <;> (try simp only [And.intro @hlen (And.intro @hmlen (ZZ))] at hb) <;> (first | omega | contradiction | skip))
   | refine Src.whole ⟨rfl, rfl⟩ ?_ | refine FrzV.whole ?_) <;> conv => whnf)
  all_goals
    first
    | exact CLe.retP (by rw [hP1 (by omega)])
    | (refine CutW.cl ?_; refine CutW.sub (h4 (by omega) (plainT t) _ (hP2 (by omega)).symm ?_) (by repeat first | exact trivial | refine ⟨VLe.refl _, ?_⟩) (by repeat first | exact trivial | refine ⟨by decide, ?_⟩); (conv => whnf); exact CLe.eq rfl)
theorem ref1_Value (t : Tree) (hw : t.wt ≤ 4000000) : AbsCall PP GG F.ref1_Value [.p t.enc] [] ⟨.ret (.p (.bool (!(steep t 32 4096).1 && plainT t))), [], []⟩ := by
  have hp := ref1_plain t hw
  have hh := ref1_Heavy t 4096 32 hw (by omega) (by omega)
  unfold PlainIs at hp
  rw [Tree.enc_eta t] at hp hh ⊢
  refine absCall_of (pol := polG) mixP F.ref1_Value_is ?_
  conv => whnf
  repeat' ((first
   | ((with_reducible first | refine Br.dec ?_ ?_ | refine Br.ndec ?_ ?_) <;> intro hb <;> (try simp only [ZZ] at hb) <;> (first | omega | contradiction | skip))
   | (with_reducible first | refine Br.tt rfl ?_ | refine Br.ff rfl ?_ | refine Br.ff (isEmptyCons _ _) ?_)
   | ((with_reducible first | refine Side.mk ?_ ?_ | refine WrapW.mk ?_ ?_); focus (first | omega | (dsimp only [InR, Int.reduceToNat, IntKind.bits, Int.reducePow]; omega) | (simp [CC]; done) | (constructor <;> omega)))
   | with_reducible refine Br.not ?_
   | (with_reducible first | refine Br.tt (by assumption) ?_ | refine Br.ff (by assumption) ?_)
   | (refine Br.mk ?_ ?_ <;> intro hb <;> (try simp only [ZZ] at hb) <;> (first | omega | contradiction | skip))
   | refine Src.whole ⟨rfl, rfl⟩ ?_ | refine FrzV.whole ?_
   | refine CallW.use (hp) ?_
   | refine CallW.use (hh) ?_) <;> conv => whnf)
  · exact CLe.retP (by simp [*])
  · exact CLe.retP (by simp [*])
def PrintIs (t : Tree) : Prop := ∀ d : Int, -1 ≤ d → d + t.wt ≤ 8000000 → goodT t = true → (printT t d).length ≤ 281474976710656 → AbsCall PP GG F.ref8_Print [.p t.enc, .p (.int .i64 d)] [] ⟨.ret (.p (.str (printT t d))), [], []⟩
theorem rprint_loopL (t : Tree) (_hw : t.wt ≤ 4000000) (hk : t.kind = 5) (hm : t.m = []) (d0 d : Int) (hd0 : -1 ≤ d) (hdw : d + t.wt ≤ 8000001) (shut : Str) (R : Str) (hRl : R.length ≤ 281474976710656) (K : Post)
    (hl : ∀ x ∈ t.l, PrintIs x) (hp : ∀ x ∈ t.l, goodT x = true)
    (h0 : K (.exit 1) [(1, .p (.int .i64 d0)), (2, .ptr 0 0), (6, .p (.str shut)), (9, .p (.str R))] [.var T.api_Value (.p t.enc)] []) :
    ∀ (q i : Nat) (f : Bool) (acc : Str), i + q = t.l.length → (i = 0 ↔ f = true) → acc ++ printL f (t.l.drop i) d = R →
      LoopW PP GG 111 0 (loopN F.ref8_Print_c 0) [(1, .p (.int .i64 d0)), (2, .ptr 0 0), (6, .p (.str shut)), (8, .p (.int .i64 d)), (9, .p (.str acc)), (10, .p (.int .i64 i))] [.var T.api_Value (.p t.enc)] [] (PostCl 111 K) := by
  rw [Tree.enc_eta t, hm] at h0 ⊢
  rw [hk] at h0 ⊢
  have hwl := t.wt_ll
  have hlen : (Tree.encL t.l).length = t.l.length := Tree.encL_length _
  have hm0 : (Tree.encM []).length = 0 := rfl
  intro q
  induction q with
  | zero =>
    intro i f acc hi hf hR
    rw [List.drop_eq_nil_of_le (by omega), printL, List.append_nil] at hR
    subst hR
    refine LoopW.round (pol := polG) mixP ?_
    conv => whnf
    repeat' ((first
     | ((with_reducible first | refine Br.dec ?_ ?_ | refine Br.ndec ?_ ?_) <;> intro hb <;> (try simp only [And.intro @hlen (And.intro @hm0 (ZZ))] at hb) <;> (first | omega | contradiction | skip))
     | (with_reducible first | refine Br.tt rfl ?_ | refine Br.ff rfl ?_ | refine Br.ff (isEmptyCons _ _) ?_)
     | ((with_reducible first | refine Side.mk ?_ ?_ | refine WrapW.mk ?_ ?_); focus (first | omega | (dsimp only [InR, Int.reduceToNat, IntKind.bits, Int.reducePow]; omega) | (simp [CC]; done) | (constructor <;> omega)))
     | with_reducible refine Br.not ?_
     | (with_reducible first | refine Br.tt (by assumption) ?_ | refine Br.ff (by assumption) ?_)
     | (refine Br.mk ?_ ?_ <;> intro hb <;> (try simp only [And.intro @hlen (And.intro @hm0 (ZZ))] at hb) <;> (first | omega | contradiction | skip))
     | refine Src.whole ⟨rfl, rfl⟩ ?_ | refine FrzV.whole ?_) <;> conv => whnf)
    · refine PostCl.of (h0) ?_ ?_
      · repeat first | exact trivial | refine ⟨VLe.refl _, ?_⟩
      · repeat first | exact trivial | refine ⟨by decide, ?_⟩
  | succ q ih =>
    intro i f acc hi hf hR
    obtain ⟨x, hx⟩ : ∃ x, t.l[i]? = some x := ⟨_, List.getElem?_eq_getElem (show i < t.l.length by omega)⟩
    rw [drop_cons hx, printL] at hR
    have hxm : x ∈ t.l := List.mem_of_getElem? hx
    have hxw := Tree.wt_l hxm
    have hLL := congrArg List.length hR
    simp only [List.length_append] at hLL
    have hsp := hl x hxm d hd0 (by omega) (hp x hxm) (by omega)
    have hli := ref8_line d (by omega)
    cases f with
    | true =>
      have hi0 : i = 0 := hf.2 rfl
      rw [if_pos rfl, List.nil_append] at hR
      rw [if_pos rfl] at hLL
      simp only [List.length_nil] at hLL
      refine LoopW.round (pol := polG) mixP ?_
      conv => whnf
      repeat' ((first
       | ((with_reducible first | refine Br.dec ?_ ?_ | refine Br.ndec ?_ ?_) <;> intro hb <;> (try simp only [And.intro @hlen (And.intro @hm0 (ZZ))] at hb) <;> (first | omega | contradiction | skip))
       | (with_reducible first | refine Br.tt rfl ?_ | refine Br.ff rfl ?_ | refine Br.ff (isEmptyCons _ _) ?_)
       | ((with_reducible first | refine Side.mk ?_ ?_ | refine WrapW.mk ?_ ?_); focus (first | omega | (dsimp only [InR, Int.reduceToNat, IntKind.bits, Int.reducePow]; omega) | exact ⟨(Tree.enc_cells x).symm, (Tree.enc_isAgg x).symm⟩ | (simp only [List.length_append]; omega) | (simp [CC]; done) | (constructor <;> omega)))
       | with_reducible refine Br.not ?_
       | (with_reducible first | refine Br.tt (by assumption) ?_ | refine Br.ff (by assumption) ?_)
       | (refine Br.mk ?_ ?_ <;> intro hb <;> (try simp only [And.intro @hlen (And.intro @hm0 (ZZ))] at hb) <;> (first | omega | contradiction | skip))
       | refine Src.whole ⟨rfl, rfl⟩ ?_ | refine FrzV.whole ?_
       | refine CallW.use (hsp) ?_
       | refine CallW.use (hli) ?_
       | (refine ElemZ.tree (by simpa using hx) ?_)) <;> conv => whnf)
      · refine LoopW.sub (ih (i + 1) false (acc ++ lineL d ++ printT x d) (by omega) (by simp) (by rw [← hR]; simp only [List.append_assoc])) (by repeat first | exact trivial | refine ⟨VLe.refl _, ?_⟩) (by repeat first | exact trivial | refine ⟨by decide, ?_⟩)
    | false =>
      have hi0 : ¬ i = 0 := fun h => by have := hf.1 h; cases this
      rw [if_neg (by simp)] at hR hLL
      simp only [List.length_cons, List.length_nil] at hLL
      refine LoopW.round (pol := polG) mixP ?_
      conv => whnf
      repeat' ((first
       | ((with_reducible first | refine Br.dec ?_ ?_ | refine Br.ndec ?_ ?_) <;> intro hb <;> (try simp only [And.intro @hlen (And.intro @hm0 (ZZ))] at hb) <;> (first | omega | contradiction | skip))
       | (with_reducible first | refine Br.tt rfl ?_ | refine Br.ff rfl ?_ | refine Br.ff (isEmptyCons _ _) ?_)
       | ((with_reducible first | refine Side.mk ?_ ?_ | refine WrapW.mk ?_ ?_); focus (first | omega | (dsimp only [InR, Int.reduceToNat, IntKind.bits, Int.reducePow]; omega) | exact ⟨(Tree.enc_cells x).symm, (Tree.enc_isAgg x).symm⟩ | (simp only [List.length_append]; omega) | (show _ + 1 ≤ _; omega) | (simp only [List.length_append]; show (_ + 1) + _ ≤ _; omega) | (simp only [List.length_append]; show (_ + 1 + _) + _ ≤ _; omega) | (simp [CC]; done) | (constructor <;> omega)))
       | with_reducible refine Br.not ?_
       | (with_reducible first | refine Br.tt (by assumption) ?_ | refine Br.ff (by assumption) ?_)
       | (refine Br.mk ?_ ?_ <;> intro hb <;> (try simp only [And.intro @hlen (And.intro @hm0 (ZZ))] at hb) <;> (first | omega | contradiction | skip))
       | refine Src.whole ⟨rfl, rfl⟩ ?_ | refine FrzV.whole ?_
       | refine CallW.use (hsp) ?_
       | refine CallW.use (hli) ?_
       | (refine ElemZ.tree (by simpa using hx) ?_)) <;> conv => whnf)
      · refine LoopW.sub (ih (i + 1) false (acc ++ [44] ++ lineL d ++ printT x d) (by omega) (by simp) (by rw [← hR]; simp only [List.append_assoc])) (by repeat first | exact trivial | refine ⟨VLe.refl _, ?_⟩) (by repeat first | exact trivial | refine ⟨by decide, ?_⟩)
set_option maxHeartbeats 2000000 in
theorem rprint_loopM (t : Tree) (_hw : t.wt ≤ 4000000) (hk : t.kind = 6) (hm : t.l = []) (d0 d : Int) (hd0 : -1 ≤ d) (hdw : d + t.wt ≤ 8000001) (shut : Str) (R : Str) (hRl : R.length ≤ 281474976710656) (K : Post)
    (hl : ∀ x ∈ t.m, PrintIs x.2) (hp : ∀ x ∈ t.m, goodT x.2 = true) (hks : ∀ x ∈ t.m, x.1.length ≤ 65536)
    (h0 : K (.exit 1) [(1, .p (.int .i64 d0)), (2, .ptr 0 0), (6, .p (.str shut)), (9, .p (.str R))] [.var T.api_Value (.p t.enc)] []) :
    ∀ (q i : Nat) (f : Bool) (acc : Str), i + q = t.m.length → (i = 0 ↔ f = true) → acc ++ printM f (t.m.drop i) d = R →
      LoopW PP GG 111 0 (loopN F.ref8_Print_c 0) [(1, .p (.int .i64 d0)), (2, .ptr 0 0), (6, .p (.str shut)), (7, .p (.str (colonL d))), (8, .p (.int .i64 d)), (9, .p (.str acc)), (10, .p (.int .i64 i))] [.var T.api_Value (.p t.enc)] [] (PostCl 111 K) := by
  rw [Tree.enc_eta t, hm] at h0 ⊢
  rw [hk] at h0 ⊢
  have hwl := t.wt_ml
  have hlen : (Tree.encM t.m).length = t.m.length := Tree.encM_length _
  have hm0 : (Tree.encL []).length = 0 := rfl
  intro q
  induction q with
  | zero =>
    intro i f acc hi hf hR
    rw [List.drop_eq_nil_of_le (by omega), printM, List.append_nil] at hR
    subst hR
    refine LoopW.round (pol := polG) mixP ?_
    conv => whnf
    repeat' ((first
     | ((with_reducible first | refine Br.dec ?_ ?_ | refine Br.ndec ?_ ?_) <;> intro hb <;> (try simp only [And.intro @hlen (And.intro @hm0 (ZZ))] at hb) <;> (first | omega | contradiction | skip))
     | (with_reducible first | refine Br.tt rfl ?_ | refine Br.ff rfl ?_ | refine Br.ff (isEmptyCons _ _) ?_)
     | ((with_reducible first | refine Side.mk ?_ ?_ | refine WrapW.mk ?_ ?_); focus (first | omega | (dsimp only [InR, Int.reduceToNat, IntKind.bits, Int.reducePow]; omega) | (simp [CC]; done) | (constructor <;> omega)))
     | with_reducible refine Br.not ?_
     | (with_reducible first | refine Br.tt (by assumption) ?_ | refine Br.ff (by assumption) ?_)
     | (refine Br.mk ?_ ?_ <;> intro hb <;> (try simp only [And.intro @hlen (And.intro @hm0 (ZZ))] at hb) <;> (first | omega | contradiction | skip))
     | refine Src.whole ⟨rfl, rfl⟩ ?_ | refine FrzV.whole ?_) <;> conv => whnf)
    · refine PostCl.of (h0) ?_ ?_
      · repeat first | exact trivial | refine ⟨VLe.refl _, ?_⟩
      · repeat first | exact trivial | refine ⟨by decide, ?_⟩
  | succ q ih =>
    intro i f acc hi hf hR
    obtain ⟨x, hx⟩ : ∃ x, t.m[i]? = some x := ⟨_, List.getElem?_eq_getElem (show i < t.m.length by omega)⟩
    rw [drop_cons hx, printM] at hR
    have hxm : x ∈ t.m := List.mem_of_getElem? hx
    have hxw := Tree.wt_m hxm
    obtain ⟨k, y⟩ := x
    rw [printP] at hR
    have hLL := congrArg List.length hR
    simp only [List.length_append] at hLL hxw
    have hsp := hl (k, y) hxm d hd0 (by simp only []; omega) (hp (k, y) hxm) (by simp only []; omega)
    simp only [] at hsp
    rw [Tree.enc_eta y] at hsp
    have hli := ref8_line d (by omega)
    have hqu := ref5_Quote k (hks (k, y) hxm)
    cases f with
    | true =>
      have hi0 : i = 0 := hf.2 rfl
      rw [if_pos rfl, List.nil_append] at hR
      rw [if_pos rfl] at hLL
      simp only [List.length_nil] at hLL
      refine LoopW.round (pol := polG) mixP ?_
      conv => whnf
      repeat' ((first
       | ((with_reducible first | refine Br.dec ?_ ?_ | refine Br.ndec ?_ ?_) <;> intro hb <;> (try simp only [And.intro @hlen (And.intro @hm0 (ZZ))] at hb) <;> (first | omega | contradiction | skip))
       | (with_reducible first | refine Br.tt rfl ?_ | refine Br.ff rfl ?_ | refine Br.ff (isEmptyCons _ _) ?_)
       | ((with_reducible first | refine Side.mk ?_ ?_ | refine WrapW.mk ?_ ?_); focus (first | omega | (dsimp only [InR, Int.reduceToNat, IntKind.bits, Int.reducePow]; omega) | exact ⟨rfl, rfl⟩ | (simp only [List.length_append]; omega) | (simp [CC]; done) | (constructor <;> omega)))
       | with_reducible refine Br.not ?_
       | (with_reducible first | refine Br.tt (by assumption) ?_ | refine Br.ff (by assumption) ?_)
       | (refine Br.mk ?_ ?_ <;> intro hb <;> (try simp only [And.intro @hlen (And.intro @hm0 (ZZ))] at hb) <;> (first | omega | contradiction | skip))
       | refine Src.whole ⟨rfl, rfl⟩ ?_ | refine FrzV.whole ?_
       | refine CallW.use (hsp) ?_
       | refine CallW.use (hli) ?_
       | refine CallW.use (hqu) ?_
       | (refine ElemZ.pairE (k := k) (y := y) (by simpa using hx) ?_)) <;> conv => whnf)
      · refine LoopW.sub (ih (i + 1) false (acc ++ lineL d ++ quoteS k ++ colonL d ++ printT y d) (by omega) (by simp) (by rw [← hR]; simp only [List.append_assoc])) (by repeat first | exact trivial | refine ⟨VLe.refl _, ?_⟩) (by repeat first | exact trivial | refine ⟨by decide, ?_⟩)
    | false =>
      have hi0 : ¬ i = 0 := fun h => by have := hf.1 h; cases this
      rw [if_neg (by simp)] at hR hLL
      simp only [List.length_cons, List.length_nil] at hLL
      refine LoopW.round (pol := polG) mixP ?_
      conv => whnf
      repeat' ((first
       | ((with_reducible first | refine Br.dec ?_ ?_ | refine Br.ndec ?_ ?_) <;> intro hb <;> (try simp only [And.intro @hlen (And.intro @hm0 (ZZ))] at hb) <;> (first | omega | contradiction | skip))
       | (with_reducible first | refine Br.tt rfl ?_ | refine Br.ff rfl ?_ | refine Br.ff (isEmptyCons _ _) ?_)
       | ((with_reducible first | refine Side.mk ?_ ?_ | refine WrapW.mk ?_ ?_); focus (first | omega | (dsimp only [InR, Int.reduceToNat, IntKind.bits, Int.reducePow]; omega) | exact ⟨rfl, rfl⟩ | (simp only [List.length_append]; omega) | (show _ + 1 ≤ _; omega) | (simp only [List.length_append]; show (_ + 1) + _ ≤ _; omega) | (simp only [List.length_append]; show (_ + 1 + _) + _ ≤ _; omega) | (simp only [List.length_append]; show (_ + 1 + _ + _) + _ ≤ _; omega) | (simp only [List.length_append]; show (_ + 1 + _ + _ + _) + _ ≤ _; omega) | (simp [CC]; done) | (constructor <;> omega)))
       | with_reducible refine Br.not ?_
       | (with_reducible first | refine Br.tt (by assumption) ?_ | refine Br.ff (by assumption) ?_)
       | (refine Br.mk ?_ ?_ <;> intro hb <;> (try simp only [And.intro @hlen (And.intro @hm0 (ZZ))] at hb) <;> (first | omega | contradiction | skip))
       | refine Src.whole ⟨rfl, rfl⟩ ?_ | refine FrzV.whole ?_
       | refine CallW.use (hsp) ?_
       | refine CallW.use (hli) ?_
       | refine CallW.use (hqu) ?_
       | (refine ElemZ.pairE (k := k) (y := y) (by simpa using hx) ?_)) <;> conv => whnf)
      · refine LoopW.sub (ih (i + 1) false (acc ++ [44] ++ lineL d ++ quoteS k ++ colonL d ++ printT y d) (by omega) (by simp) (by rw [← hR]; simp only [List.append_assoc])) (by repeat first | exact trivial | refine ⟨VLe.refl _, ?_⟩) (by repeat first | exact trivial | refine ⟨by decide, ?_⟩)
theorem print_24 (t : Tree) (hw : t.wt ≤ 4000000) (d0 : Int) (hd0 : -1 ≤ d0) (hdw : d0 + t.wt ≤ 8000000) (hk : t.kind = 5 ∧ t.m = [] ∧ t.l ≠ [] ∨ t.kind = 6 ∧ t.l = [] ∧ t.m ≠ []) (hRl : (printT t d0).length ≤ 281474976710656) (K : Post)
    (hl : ∀ x ∈ t.l, PrintIs x) (hm : ∀ x ∈ t.m, PrintIs x.2) (hpl : ∀ x ∈ t.l, goodT x = true) (hpm : ∀ x ∈ t.m, goodT x.2 = true) (hks : ∀ x ∈ t.m, x.1.length ≤ 65536)
    (h0 : K .ret [(4, .p (.str (printT t d0)))] [.var T.api_Value (.p t.enc)] []) :
    CutW PP GG 111 0 (tailN F.ref8_Print_c 24) [(1, .p (.int .i64 d0)), (2, .ptr 0 0), (5, .p (.str (if t.kind = 6 then [123] else [91]))), (6, .p (.str (if t.kind = 6 then [125] else [93]))), (7, .p (.str (colonL (deeper d0)))), (8, .p (.int .i64 (deeper d0)))] [.var T.api_Value (.p t.enc)] [] (PostCl 111 K) := by
  have hP := printT_eq t d0
  have hdd : deeper d0 ≤ d0 + 1 ∧ -1 ≤ deeper d0 := by unfold deeper; split <;> omega
  have hli := ref8_line d0 (by have := t.wt_pos; omega)
  have hLL := congrArg List.length hP
  rcases hk with ⟨hk, hmn, hln⟩ | ⟨hk, hln, hmn⟩
  · rw [hk] at hP hLL ⊢
    have hn0 : ¬ t.l.length = 0 := fun h => hln (List.eq_nil_of_length_eq_zero h)
    rw [if_neg (by omega), if_neg (by omega), if_neg (by omega), if_neg (by omega), if_neg (by omega), if_neg (by omega), if_neg hn0] at hP hLL
    simp only [List.length_cons, List.length_append, List.length_nil] at hLL
    rw [if_neg (by omega), if_neg (by omega)]
    refine CutW.go (pol := polC []) mixP ?_
    conv => whnf
    repeat' ((first
     | ((with_reducible first | refine Br.dec ?_ ?_ | refine Br.ndec ?_ ?_) <;> intro hb <;> (try simp only [ZZ] at hb) <;> (first | omega | contradiction | skip))
     | (with_reducible first | refine Br.tt rfl ?_ | refine Br.ff rfl ?_ | refine Br.ff (isEmptyCons _ _) ?_)
     | ((with_reducible first | refine Side.mk ?_ ?_ | refine WrapW.mk ?_ ?_); focus (first | omega | (dsimp only [InR, Int.reduceToNat, IntKind.bits, Int.reducePow]; omega) | (simp [CC]; done) | (constructor <;> omega)))
     | with_reducible refine Br.not ?_
     | (with_reducible first | refine Br.tt (by assumption) ?_ | refine Br.ff (by assumption) ?_)
     | (refine Br.mk ?_ ?_ <;> intro hb <;> (try simp only [ZZ] at hb) <;> (first | omega | contradiction | skip))
     | refine Src.whole ⟨rfl, rfl⟩ ?_ | refine FrzV.whole ?_) <;> conv => whnf)
    refine LoopW.cl ?_
    refine LoopW.sub (rprint_loopL t hw hk hmn d0 (deeper d0) hdd.2 (by omega) [93] (91 :: printL true t.l (deeper d0)) (by simp only [List.length_cons]; omega) _ hl hpl ?_ t.l.length 0 true [91] (by omega) (by simp) rfl) (by repeat first | exact trivial | refine ⟨VLe.refl _, ?_⟩) (by repeat first | exact trivial | refine ⟨by decide, ?_⟩)
    conv => whnf
    repeat' ((first
     | ((with_reducible first | refine Br.dec ?_ ?_ | refine Br.ndec ?_ ?_) <;> intro hb <;> (try simp only [ZZ] at hb) <;> (first | omega | contradiction | skip))
     | (with_reducible first | refine Br.tt rfl ?_ | refine Br.ff rfl ?_ | refine Br.ff (isEmptyCons _ _) ?_)
     | ((with_reducible first | refine Side.mk ?_ ?_ | refine WrapW.mk ?_ ?_); focus (first | omega | (dsimp only [InR, Int.reduceToNat, IntKind.bits, Int.reducePow]; omega) | (show _ ≤ _; simp only [List.length_append, List.length_cons]; omega) | (show _ + (0 + 1) ≤ _; simp only [List.length_append, List.length_cons]; omega) | (simp [CC]; done) | (constructor <;> omega)))
     | with_reducible refine Br.not ?_
     | (with_reducible first | refine Br.tt (by assumption) ?_ | refine Br.ff (by assumption) ?_)
     | (refine Br.mk ?_ ?_ <;> intro hb <;> (try simp only [ZZ] at hb) <;> (first | omega | contradiction | skip))
     | refine Src.whole ⟨rfl, rfl⟩ ?_ | refine FrzV.whole ?_
     | refine CallW.use (hli) ?_) <;> conv => whnf)
    rw [show 91 :: printL true t.l (deeper d0) ++ lineL d0 ++ [93] = printT t d0 by rw [hP]; simp only [List.cons_append, List.append_assoc]]
    refine PostCl.of (h0) ?_ ?_
    · repeat first | exact trivial | refine ⟨VLe.refl _, ?_⟩
    · repeat first | exact trivial | refine ⟨by decide, ?_⟩
  · rw [hk] at hP hLL ⊢
    have hn0 : ¬ t.m.length = 0 := fun h => hmn (List.eq_nil_of_length_eq_zero h)
    rw [if_neg (by omega), if_neg (by omega), if_neg (by omega), if_neg (by omega), if_neg (by omega), if_pos rfl, if_neg hn0] at hP hLL
    simp only [List.length_cons, List.length_append, List.length_nil] at hLL
    rw [if_pos rfl, if_pos rfl]
    refine CutW.go (pol := polC []) mixP ?_
    conv => whnf
    repeat' ((first
     | ((with_reducible first | refine Br.dec ?_ ?_ | refine Br.ndec ?_ ?_) <;> intro hb <;> (try simp only [ZZ] at hb) <;> (first | omega | contradiction | skip))
     | (with_reducible first | refine Br.tt rfl ?_ | refine Br.ff rfl ?_ | refine Br.ff (isEmptyCons _ _) ?_)
     | ((with_reducible first | refine Side.mk ?_ ?_ | refine WrapW.mk ?_ ?_); focus (first | omega | (dsimp only [InR, Int.reduceToNat, IntKind.bits, Int.reducePow]; omega) | (simp [CC]; done) | (constructor <;> omega)))
     | with_reducible refine Br.not ?_
     | (with_reducible first | refine Br.tt (by assumption) ?_ | refine Br.ff (by assumption) ?_)
     | (refine Br.mk ?_ ?_ <;> intro hb <;> (try simp only [ZZ] at hb) <;> (first | omega | contradiction | skip))
     | refine Src.whole ⟨rfl, rfl⟩ ?_ | refine FrzV.whole ?_) <;> conv => whnf)
    refine LoopW.cl ?_
    refine LoopW.sub (rprint_loopM t hw hk hln d0 (deeper d0) hdd.2 (by omega) [125] (123 :: printM true t.m (deeper d0)) (by simp only [List.length_cons]; omega) _ hm hpm hks ?_ t.m.length 0 true [123] (by omega) (by simp) rfl) (by repeat first | exact trivial | refine ⟨VLe.refl _, ?_⟩) (by repeat first | exact trivial | refine ⟨by decide, ?_⟩)
    conv => whnf
    repeat' ((first
     | ((with_reducible first | refine Br.dec ?_ ?_ | refine Br.ndec ?_ ?_) <;> intro hb <;> (try simp only [ZZ] at hb) <;> (first | omega | contradiction | skip))
     | (with_reducible first | refine Br.tt rfl ?_ | refine Br.ff rfl ?_ | refine Br.ff (isEmptyCons _ _) ?_)
     | ((with_reducible first | refine Side.mk ?_ ?_ | refine WrapW.mk ?_ ?_); focus (first | omega | (dsimp only [InR, Int.reduceToNat, IntKind.bits, Int.reducePow]; omega) | (show _ ≤ _; simp only [List.length_append, List.length_cons]; omega) | (show _ + (0 + 1) ≤ _; simp only [List.length_append, List.length_cons]; omega) | (simp [CC]; done) | (constructor <;> omega)))
     | with_reducible refine Br.not ?_
     | (with_reducible first | refine Br.tt (by assumption) ?_ | refine Br.ff (by assumption) ?_)
     | (refine Br.mk ?_ ?_ <;> intro hb <;> (try simp only [ZZ] at hb) <;> (first | omega | contradiction | skip))
     | refine Src.whole ⟨rfl, rfl⟩ ?_ | refine FrzV.whole ?_
     | refine CallW.use (hli) ?_) <;> conv => whnf)
    rw [show 123 :: printM true t.m (deeper d0) ++ lineL d0 ++ [125] = printT t d0 by rw [hP]; simp only [List.cons_append, List.append_assoc]]
    refine PostCl.of (h0) ?_ ?_
    · repeat first | exact trivial | refine ⟨VLe.refl _, ?_⟩
    · repeat first | exact trivial | refine ⟨by decide, ?_⟩
theorem ref8_Print : ∀ t : Tree, t.wt ≤ 4000000 → PrintIs t := by
  refine Tree.indW fun t hw hl hm d hd hdw hg hlen => ?_
  obtain ⟨hb, hn, hr, hgl, hgm⟩ := goodT_spec hg
  have hP := printT_eq t d
  have hel : (Tree.encL t.l).length = t.l.length := Tree.encL_length _
  have hem : (Tree.encM t.m).length = t.m.length := Tree.encM_length _
  have hwl := t.wt_ll
  have hwm := t.wt_ml
  unfold ownBad at hb
  unfold nodeOk at hn
  have hln : t.l.length ≠ 0 → t.l ≠ [] := fun h e => h (by rw [e]; rfl)
  have hmn : t.m.length ≠ 0 → t.m ≠ [] := fun h e => h (by rw [e]; rfl)
  have hkk : t.kind = 0 ∨ t.kind = 1 ∨ t.kind = 2 ∨ t.kind = 3 ∨ t.kind = 4 ∨ t.kind = 7 ∨ t.kind = 5 ∨ t.kind = 6 := by
    by_cases h0 : t.kind = 0 ∨ t.kind = 1 ∨ t.kind = 2 ∨ t.kind = 3 ∨ t.kind = 4 ∨ t.kind = 7
    · omega
    · rw [if_neg (by omega), if_neg (by omega), if_neg (by omega), if_neg (by omega), if_neg (by omega), decide_eq_true_eq] at hn
      omega
  have hlz : t.l.length = 0 → t.l = [] := List.eq_nil_of_length_eq_zero
  have hmz : t.m.length = 0 → t.m = [] := List.eq_nil_of_length_eq_zero
  have hq : t.kind = 4 ∨ t.kind = 7 → AbsCall PP GG F.ref5_Quote [.p (.str t.s), .p (.bool false)] [] ⟨.ret (.p (.str (quoteS t.s))), [], []⟩ := by
    intro hk
    refine ref5_Quote t.s ?_
    rcases hk with hk | hk
    · rw [if_neg (by omega), if_neg (by omega), if_neg (by omega), if_pos hk] at hn
      have := strOk_len hn; omega
    · rw [if_neg (by omega), if_neg (by omega), if_neg (by omega), if_neg (by omega), if_pos hk] at hn
      have := stampOk_len hn; omega
  have h24 := fun (hk : t.kind = 5 ∧ t.m = [] ∧ t.l ≠ [] ∨ t.kind = 6 ∧ t.l = [] ∧ t.m ≠ []) (K : Post) => print_24 t hw d hd hdw hk hlen K (fun x hx => (hl x hx).2) (fun x hx => (hm x hx).2.2) hgl (fun x hx => (hgm x hx).2) (fun x hx => by have := strOk_len (hgm x hx).1; omega)
  rw [Tree.enc_eta t] at h24 ⊢
  refine absCall_of (pol := polC [24]) mixP F.ref8_Print_is ?_
  conv => whnf
  repeat' ((first
   | ((with_reducible first | refine Br.dec ?_ ?_ | refine Br.ndec ?_ ?_) <;> intro hb <;> (try simp only [And.intro @hel (And.intro @hem (ZZ))] at hb) <;> (first | omega | contradiction | skip))
   | (with_reducible first | refine Br.tt rfl ?_ | refine Br.ff rfl ?_ | refine Br.ff (isEmptyCons _ _) ?_)
   | ((with_reducible first | refine Side.mk ?_ ?_ | refine WrapW.mk ?_ ?_); focus (first | omega | (dsimp only [InR, Int.reduceToNat, IntKind.bits, Int.reducePow]; omega) | (simp [CC]; done) | (constructor <;> omega)))
   | with_reducible refine Br.not ?_
   | (with_reducible first | refine Br.tt (by assumption) ?_ | refine Br.ff (by assumption) ?_)
   | (refine Br.mk ?_ ?_ <;> intro hb <;> (try simp only [And.intro @hel (And.intro @hem (ZZ))] at hb) <;> (first | omega | contradiction | skip))
   | refine Src.whole ⟨rfl, rfl⟩ ?_ | refine FrzV.whole ?_
   | refine CallW.use (ref1_Text t.n hr.1 hr.2) ?_
   | refine CallW.use (hq (by omega)) ?_) <;> conv => whnf)
  all_goals
    first
    | exact CLe.retP (by rw [hP]; repeat (first | rw [if_pos (by omega)] | rw [if_neg (by omega)]); try rfl)
    | (refine CutW.cl ?_
       first
       | (have h := h24 (.inl ⟨by omega, hmz (by omega), hln (by omega)⟩)
          rw [if_neg (by omega), if_neg (by omega)] at h
          first
          | (rw [show deeper d = d + 1 from by unfold deeper; rw [if_pos (by omega)], show colonL (d + 1) = [58, 32] from by unfold colonL; rw [if_pos (by omega)]] at h
             refine CutW.sub (h _ ?_) (by repeat first | exact trivial | refine ⟨VLe.refl _, ?_⟩) (by repeat first | exact trivial | refine ⟨by decide, ?_⟩); (conv => whnf); exact CLe.eq rfl)
          | (rw [show deeper d = -1 from by unfold deeper; rw [if_neg (by omega)], show colonL (-1) = [58] from rfl] at h
             refine CutW.sub (h _ ?_) (by repeat first | exact trivial | refine ⟨VLe.refl _, ?_⟩) (by repeat first | exact trivial | refine ⟨by decide, ?_⟩); (conv => whnf); exact CLe.eq rfl))
       | (have h := h24 (.inr ⟨by omega, hlz (by omega), hmn (by omega)⟩)
          rw [if_pos (by omega), if_pos (by omega)] at h
          first
          | (rw [show deeper d = d + 1 from by unfold deeper; rw [if_pos (by omega)], show colonL (d + 1) = [58, 32] from by unfold colonL; rw [if_pos (by omega)]] at h
             refine CutW.sub (h _ ?_) (by repeat first | exact trivial | refine ⟨VLe.refl _, ?_⟩) (by repeat first | exact trivial | refine ⟨by decide, ?_⟩); (conv => whnf); exact CLe.eq rfl)
          | (rw [show deeper d = -1 from by unfold deeper; rw [if_neg (by omega)], show colonL (-1) = [58] from rfl] at h
             refine CutW.sub (h _ ?_) (by repeat first | exact trivial | refine ⟨VLe.refl _, ?_⟩) (by repeat first | exact trivial | refine ⟨by decide, ?_⟩); (conv => whnf); exact CLe.eq rfl)))
end Go.Proofs.YtoinkmogdfjmmaaGreatDoor
end

section
namespace Go.Am
open Go
end Go.Am
namespace Go.Am
end Go.Am
namespace Go.Am
end Go.Am
end

section
namespace Go.Am
end Go.Am
end

section
namespace Go.Am
open Go
theorem take_getD {t : Str} {n a : Nat} (h : a < n) : (t.take n).getD a 0 = t.getD a 0 := by
  simp [List.getD, List.getElem?_take, h]
theorem drop_take_drop (t : Str) (n a : Nat) : (t.take n).drop a = (t.drop a).take (n - a) := List.drop_take
theorem take_take_le {t : Str} {n a k : Nat} (h : a + k ≤ n) : ((t.take n).drop a).take k = (t.drop a).take k := by
  rw [drop_take_drop, List.take_take, Nat.min_eq_left (by omega)]
theorem takeN_len {t : Str} {n : Nat} (h : n ≤ t.length) : (t.take n).length = n := by rw [List.length_take]; omega
theorem dropN_split {t : Str} (n a : Nat) : ∃ R, t.drop a = (t.take n).drop a ++ R := ⟨(t.drop a).drop (n - a), by rw [drop_take_drop, List.take_append_drop]⟩
theorem while_pre (c : Str) : ∀ (u : Str) (m : Nat), m ≤ u.length → whileL (u.take m) c = whileL u c ∨ whileL (u.take m) c = m
  | u, 0, _ => .inr (by simp [whileL])
  | [], m + 1, h => by simp at h
  | b :: u, m + 1, h => by
    have ih := while_pre c u m (by simpa using h)
    unfold whileL at ih ⊢
    rw [List.take_succ_cons, List.takeWhile_cons, List.takeWhile_cons]
    split
    · rcases ih with ih | ih
      · left; simp only [List.length_cons, ih]
      · right; simp only [List.length_cons, ih]
    · left; rfl
theorem digL_mono {t : Str} {n a k : Nat} (hn : n ≤ t.length) (h : (digL (t.take n) a k).2 = true) : digL t a k = digL (t.take n) a k ∧ a + k ≤ n := by
  unfold digL at h ⊢
  rw [takeN_len hn] at h ⊢
  split at h
  · simp at h
  · rename_i h1
    rw [if_neg (by omega), if_neg h1, take_take_le (by omega)]
    exact ⟨rfl, by omega⟩
theorem escAt_mono {t : Str} {n a : Nat} {acc : Str} (hn : n ≤ t.length) (ha : a < n) (h : (escAt (t.take n) a acc).1 = true) : escAt t a acc = escAt (t.take n) a acc := by
  by_cases h1 : a + 1 = (t.take n).length
  · rw [escAt_end h1] at h; simp at h
  have h1' := h1
  rw [takeN_len hn] at h1'
  have hg := take_getD (t := t) (show a + 1 < n by omega)
  cases hs : shortL (t.getD (a + 1) 0) with
  | some x => rw [escAt_short (by omega) hs, escAt_short h1 (by rw [hg]; exact hs)]
  | none =>
    rw [escAt_u h1 (by rw [hg]; exact hs), hg] at h ⊢
    rw [escAt_u (by omega) hs]
    split at h
    · simp at h
    rename_i h2
    rw [if_neg h2]
    simp only [not_or, Bool.not_eq_false] at h2
    obtain ⟨e1, e2⟩ := digL_mono hn h2.2
    rw [if_neg (by rw [e1]; simp only [not_or, Bool.not_eq_false]; exact h2), e1]
    split at h
    · rename_i h3
      rw [if_pos h3, if_pos h3]
    rename_i h3
    rw [if_neg h3, if_neg h3]
    split at h
    · simp at h
    rename_i h4
    rw [if_neg h4]
    simp only [not_or, Bool.not_eq_false] at h4
    obtain ⟨e3, e4⟩ := digL_mono hn h4.1
    rw [take_take_le (by omega)] at h4
    rw [if_neg (by rw [e3]; simp only [not_or, Bool.not_eq_false]; exact h4), e3]
theorem unqL_mono {t : Str} {n : Nat} (hn : n ≤ t.length) : ∀ (q q' a : Nat) (acc : Str), a ≤ n → (unqL q (t.take n) a acc).2.2 < 0 → t.length < q' + a → unqL q' t a acc = unqL q (t.take n) a acc
  | 0, q', a, acc, ha, h, _ => by rw [unqL] at h; simp only [] at h; omega
  | q + 1, q', a, acc, ha, h, hq => by
    rw [unqL] at h ⊢
    rw [takeN_len hn] at h ⊢
    split at h
    · simp only [] at h; omega
    rename_i h0
    have hg := take_getD (t := t) (show a < n by omega)
    obtain ⟨q', rfl⟩ : ∃ p, q' = p + 1 := ⟨q' - 1, by omega⟩
    rw [if_neg h0, unqL, if_neg (by omega)]
    rw [hg] at h ⊢
    split at h
    · rename_i h1; rw [if_pos h1, if_pos h1]
    rename_i h1
    rw [if_neg h1, if_neg h1]
    split at h
    · simp only [] at h; omega
    rename_i h2
    rw [if_neg h2, if_neg h2]
    split at h
    · rename_i h3
      rw [if_pos h3, if_pos h3]
      split at h
      · rename_i h4
        have hm := escAt_mono hn (show a < n by omega) h4
        have hb := escAt_bound (acc := acc) (t := t.take n) (a := a) (by rw [takeN_len hn]; omega) h4
        rw [takeN_len hn] at hb
        rw [hm, if_pos h4, if_pos h4]
        exact unqL_mono hn q q' _ _ hb.2 h (by omega)
      · simp only [] at h; omega
    · rename_i h3
      rw [if_neg h3, if_neg h3]
      split at h
      · simp only [] at h; omega
      · rename_i h4
        obtain ⟨R, hR⟩ := dropN_split (t := t) n a
        have ht := utfTake_app R h4
        rw [← hR] at ht
        have hb := utfTake_n ((t.take n).drop a)
        rw [List.length_drop, takeN_len hn] at hb
        rw [ht, if_neg h4, if_neg h4]
        exact unqL_mono hn q q' _ _ (by omega) h (by omega)
theorem unquoteL_mono {t : Str} {n a : Nat} (hn : n ≤ t.length) (ha : a < n) (h : (unquoteL (t.take n) a).2.2 < 0) : unquoteL t a = unquoteL (t.take n) a := by
  have c1 : clampL t (a : Int) = a := by unfold clampL; omega
  have c2 : clampL (t.take n) (a : Int) = a := by unfold clampL; rw [takeN_len hn]; omega
  unfold unquoteL at h ⊢
  rw [c2, Int.toNat_natCast] at h ⊢
  rw [c1, Int.toNat_natCast]
  have hp : preB ((t.take n).drop a) 34 = preB (t.drop a) 34 := by unfold preB; rw [take_take_le (by omega)]
  rw [hp] at h ⊢
  split at h
  · simp only [] at h; omega
  · rename_i h1
    rw [if_neg h1, if_neg h1]
    exact unqL_mono hn _ _ _ _ (by omega) h (by omega)
theorem wordL_mono {t : Str} {n a : Nat} (hn : n ≤ t.length) (ha : a < n) (h : (wordL (t.take n) a).2.2.1 = 0) : wordL t a = wordL (t.take n) a ∨
    (((wordL (t.take n) a).1.k = 3 ∨ (wordL (t.take n) a).1.k = 4) ∧ (wordL (t.take n) a).2.1 = n ∧ signs.contains (t.getD a 0) = false) := by
  have hg := take_getD (t := t) ha
  have hns : ¬ 0 ≤ firstIdx ⟨signs.toArray⟩ (t.getD a 0) → signs.contains (t.getD a 0) = false := fun h => by
    rw [sign_b] at h; simpa using h
  have hdl : ((t.take n).drop a).length = n - a := by rw [List.length_drop, takeN_len hn]
  have hw : ∀ c : Str, (whileL ((t.take n).drop a) c = whileL (t.drop a) c ∧ ((t.take n).drop a).take (whileL ((t.take n).drop a) c) = (t.drop a).take (whileL (t.drop a) c)) ∨ whileL ((t.take n).drop a) c = n - a := fun c => by
    have h1 := while_pre c (t.drop a) (n - a) (by rw [List.length_drop]; omega)
    rw [← drop_take_drop] at h1
    rcases h1 with h1 | h1
    · have h2 := whileL_le ((t.take n).drop a) c
      rw [hdl] at h2
      left
      refine ⟨h1, ?_⟩
      rw [h1, take_take_le (by omega)]
    · right; exact h1
  unfold wordL at h ⊢
  rw [hg] at h ⊢
  split at h
  · rename_i h1
    left
    rw [if_pos h1, if_pos h1, take_take_le (by omega)]
  rename_i h1
  rw [if_neg h1, if_neg h1]
  split at h
  · rename_i h2
    left
    rw [if_pos h2, if_pos h2]
    split at h
    · simp at h
    rename_i h3
    rw [unquoteL_mono hn ha (by omega)]
  rename_i h2
  rw [if_neg h2, if_neg h2]
  split at h
  · rename_i h3
    rw [if_pos h3, if_pos h3]
    split at h
    · simp at h
    rename_i h4
    rw [if_neg h4]
    rcases hw lowers with ⟨e1, e2⟩ | e1
    · left
      rw [if_neg (by rw [← e2]; exact h4), e1, ← e2, e1]
    · right
      refine ⟨.inr rfl, ?_, hns h1⟩
      simp only [e1]
      omega
  rename_i h3
  rw [if_neg h3, if_neg h3]
  split at h
  · simp at h
  rename_i h4
  rw [if_neg h4]
  split at h
  · rename_i h5; exact absurd h h5
  rename_i h5
  rw [if_neg h5]
  rcases hw numBs with ⟨e1, e2⟩ | e1
  · left
    rw [if_neg (by rw [← e1]; exact h4), if_neg (by rw [← e2]; exact h5), e1, ← e2, e1]
  · right
    refine ⟨.inl rfl, ?_, hns h1⟩
    simp only [e1]
    omega
theorem cutL_pre {t : Str} {n : Nat} (hn : n < t.length) (hlast : ∀ b < t.length, b + whileL (t.drop b) blanksB < t.length) : ∀ (q q' a : Nat) (acc : List Wd), a ≤ n → n < q + a → t.length < q' + a →
    (cutL q (t.take n) a acc).2.1 = 0 → (cutL q' t a acc).2.1 = 0 →
    ∃ l1 l2 e, (cutL q (t.take n) a acc).1 = acc ++ (l1 ++ e) ∧ (cutL q' t a acc).1 = acc ++ (l1 ++ l2) ∧ l2 ≠ [] ∧ (e = [] ∨ ∃ w, e = [w] ∧ (w.k = 3 ∨ w.k = 4) ∧ (l1 = [] → signs.contains (t.getD a 0) = false))
  | 0, q', a, acc, ha, hq, _, _, _ => by omega
  | q + 1, q', a, acc, ha, hq, hq', h, h' => by
    have hln := takeN_len (t := t) (n := n) (by omega)
    obtain ⟨q', rfl⟩ : ∃ p, q' = p + 1 := ⟨q' - 1, by omega⟩
    have more : ∀ (p b : Nat) (acc : List Wd), b < t.length → t.length < p + b → (cutL p t b acc).2.1 = 0 → ∃ l2, (cutL p t b acc).1 = acc ++ l2 ∧ l2 ≠ [] := by
      intro p b acc hb hp h
      obtain ⟨p, rfl⟩ : ∃ r, p = r + 1 := ⟨p - 1, by omega⟩
      have pre : ∀ (p b : Nat) (acc : List Wd), (cutL p t b acc).2.1 = 0 → ∃ l2, (cutL p t b acc).1 = acc ++ l2 := by
        intro p
        induction p with
        | zero => intro b acc _; exact ⟨[], by rw [cutL]; simp⟩
        | succ p ih =>
          intro b acc h
          rw [cutL] at h ⊢
          split
          · exact ⟨[], by simp⟩
          rename_i h1
          rw [if_neg h1] at h
          split
          · rename_i h2; rw [if_pos h2] at h; exact absurd h h2
          rename_i h2
          rw [if_neg h2] at h
          obtain ⟨l2, e⟩ := ih _ _ h
          exact ⟨(wordL t b).1 :: l2, by rw [e]; simp⟩
      rw [cutL, if_neg (by omega)] at h ⊢
      split
      · rename_i h2; rw [if_pos h2] at h; exact absurd h h2
      rename_i h2
      rw [if_neg h2] at h
      obtain ⟨l2, e⟩ := pre _ _ _ h
      exact ⟨(wordL t b).1 :: l2, by rw [e]; simp, by simp⟩
    have hm := more (q' + 1) a acc (by omega) (by omega) h'
    rw [cutL, hln] at h ⊢
    split at h
    · rename_i h1
      obtain ⟨l2, e1, e2⟩ := hm
      rw [if_pos h1]
      exact ⟨[], l2, [], by simp, by simpa using e1, e2, .inl rfl⟩
    rename_i h1
    rw [if_neg h1]
    split at h
    · rename_i h2; exact absurd h h2
    rename_i h2
    rw [if_neg h2]
    have hb := wordL_bound (t.take n) a (by omega)
    have hb1 := hb.1 (by simpa using h2)
    rw [hln] at hb1
    rcases wordL_mono (t := t) (n := n) (a := a) (by omega) (by omega) (by simpa using h2) with he | ⟨hk, hend, hs⟩
    · have hnx : ∃ c, (wordL (t.take n) a).2.1 = ((c : Nat) : Int) := ⟨(wordL (t.take n) a).2.1.toNat, by omega⟩
      obtain ⟨c, hc⟩ := hnx
      rw [cutL, if_neg (by omega), he, if_neg h2] at h' ⊢
      rw [hc, Int.toNat_natCast] at h h' ⊢
      have hw := while_pre blanksB (t.drop c) (n - c) (by rw [List.length_drop]; omega)
      rw [← drop_take_drop] at hw
      rcases hw with hw | hw
      · rw [hw] at h ⊢
        have hwl := whileL_le ((t.take n).drop c) blanksB
        rw [List.length_drop, hln, hw] at hwl
        obtain ⟨l1, l2, e, f1, f2, f3, f4⟩ := cutL_pre hn hlast q q' (c + whileL (t.drop c) blanksB) (acc ++ [(wordL (t.take n) a).1]) (by omega) (by omega) (by omega) h h'
        refine ⟨(wordL (t.take n) a).1 :: l1, l2, e, by rw [f1]; simp, by rw [f2]; simp, f3, ?_⟩
        rcases f4 with f4 | ⟨w, f4, f5, _⟩
        · exact .inl f4
        · exact .inr ⟨w, f4, f5, by simp⟩
      · have hstop : cutL q (t.take n) (c + whileL ((t.take n).drop c) blanksB) (acc ++ [(wordL (t.take n) a).1]) = (acc ++ [(wordL (t.take n) a).1], 0, 0) := by
          obtain ⟨q, rfl⟩ : ∃ p, q = p + 1 := ⟨q - 1, by omega⟩
          rw [cutL, if_pos (by rw [hln, hw]; omega)]
        obtain ⟨l2, e1, e2⟩ := more q' _ (acc ++ [(wordL (t.take n) a).1]) (hlast c (by omega)) (by omega) h'
        rw [hstop]
        exact ⟨[(wordL (t.take n) a).1], l2, [], by simp, by rw [e1]; simp, e2, .inl rfl⟩
    · obtain ⟨l2, e1, e2⟩ := hm
      have hstop : cutL q (t.take n) ((wordL (t.take n) a).2.1.toNat + whileL ((t.take n).drop (wordL (t.take n) a).2.1.toNat) blanksB) (acc ++ [(wordL (t.take n) a).1]) = (acc ++ [(wordL (t.take n) a).1], 0, 0) := by
        obtain ⟨q, rfl⟩ : ∃ p, q = p + 1 := ⟨q - 1, by omega⟩
        rw [cutL, if_pos (by rw [hln, hend]; omega)]
      rw [hstop]
      exact ⟨[], l2, [(wordL (t.take n) a).1], by simp, by simpa using e1, e2, .inr ⟨_, rfl, hk, fun _ => hs⟩⟩
def balW (w : Int × Str) : Int := if w.1 = 1 ∧ (w.2 = [91] ∨ w.2 = [123]) then 1 else if w.1 = 1 ∧ (w.2 = [93] ∨ w.2 = [125]) then -1 else 0
def bal (ws : List (Int × Str)) : Int := (ws.map balW).sum
theorem bal_nil : bal [] = 0 := rfl
theorem bal_cons (w : Int × Str) (ws : List (Int × Str)) : bal (w :: ws) = balW w + bal ws := by simp [bal]
theorem bal_app (u v : List (Int × Str)) : bal (u ++ v) = bal u + bal v := by simp [bal]
def Pos (ws : List (Int × Str)) : Prop := bal ws = 0 ∧ ∀ k, 0 ≤ bal (ws.take k)
theorem pos_nil : Pos [] := ⟨rfl, fun k => by simp [bal]⟩
theorem pos_app {u v : List (Int × Str)} (hu : Pos u) (hv : Pos v) : Pos (u ++ v) := by
  refine ⟨by rw [bal_app, hu.1, hv.1]; rfl, fun k => ?_⟩
  rw [List.take_append, bal_app]
  have h1 := hu.2 k
  have h2 := hv.2 (k - u.length)
  omega
theorem pos_one {w : Int × Str} (h : balW w = 0) : Pos [w] := by
  refine ⟨by rw [bal_cons, bal_nil, h]; rfl, fun k => ?_⟩
  cases k with
  | zero => simp [bal]
  | succ k => simp [bal, h]
theorem box_pre {X : List (Int × Str)} {o c : Int × Str} (hX : Pos X) (ho : balW o = 1) (k : Nat) (h1 : 1 ≤ k) (h2 : k < X.length + 2) : 1 ≤ bal ((o :: (X ++ [c])).take k) := by
  obtain ⟨k, rfl⟩ : ∃ p, k = p + 1 := ⟨k - 1, by omega⟩
  rw [List.take_succ_cons, bal_cons, ho, List.take_append_of_le_length (by omega)]
  have := hX.2 k
  omega
theorem pos_box {X : List (Int × Str)} {o c : Int × Str} (hX : Pos X) (ho : balW o = 1) (hc : balW c = -1) : Pos (o :: (X ++ [c])) := by
  refine ⟨by rw [bal_cons, bal_app, bal_cons, bal_nil, hX.1, ho, hc]; rfl, fun k => ?_⟩
  by_cases h0 : k = 0
  · subst h0; simp [bal]
  by_cases h : k < X.length + 2
  · have := box_pre (c := c) hX ho k (by omega) h
    omega
  · rw [List.take_of_length_le (by simp; omega), bal_cons, bal_app, bal_cons, bal_nil, hX.1, ho, hc]
    decide
theorem wordsL_pos : ∀ (l : List Tree) (f : Bool), (∀ x ∈ l, Pos (wordsT x)) → Pos (wordsL f l)
  | [], _, _ => pos_nil
  | x :: l, f, h => by
    rw [wordsL]
    refine pos_app ?_ (pos_app (h x (by simp)) (wordsL_pos l false fun y hy => h y (by simp [hy])))
    split
    · exact pos_nil
    · exact pos_one (by decide)
theorem wordsM_pos : ∀ (m : List (Str × Tree)) (f : Bool), (∀ x ∈ m, Pos (wordsT x.2)) → Pos (wordsM f m)
  | [], _, _ => pos_nil
  | (k, x) :: m, f, h => by
    rw [wordsM, wordsP]
    refine pos_app ?_ (pos_app (u := (2, k) :: (1, [58]) :: wordsT x) ?_ (wordsM_pos m false fun y hy => h y (by simp [hy])))
    · split
      · exact pos_nil
      · exact pos_one (by decide)
    · exact pos_app (u := [(2, k)]) (pos_one (by simp [balW])) (pos_app (u := [(1, [58])]) (pos_one (by decide)) (h (k, x) (by simp)))
theorem words_pos : ∀ t : Tree, Pos (wordsT t) := by
  refine Tree.ind fun t hl hm => ?_
  rw [wordsT_eq]
  split
  · exact pos_one (by simp [balW])
  split
  · exact pos_one (by simp [balW])
  split
  · exact pos_one (by simp [balW])
  split
  · exact pos_one (by simp [balW])
  split
  · exact pos_one (by simp [balW])
  split
  · exact pos_box (wordsM_pos _ _ hm) (by decide) (by decide)
  · exact pos_box (wordsL_pos _ _ hl) (by decide) (by decide)
theorem words_open {t : Tree} (hk : t.kind = 5 ∨ t.kind = 6) (k : Nat) (h1 : 1 ≤ k) (h2 : k < (wordsT t).length) : 1 ≤ bal ((wordsT t).take k) := by
  rw [wordsT_eq] at h2 ⊢
  rw [if_neg (by omega), if_neg (by omega), if_neg (by omega), if_neg (by omega), if_neg (by omega)] at h2 ⊢
  split at h2
  · rename_i h
    rw [if_pos h]
    exact box_pre (wordsM_pos _ _ fun x _ => words_pos x.2) (by decide) k h1 (by simpa using h2)
  · rename_i h
    rw [if_neg h]
    exact box_pre (wordsL_pos _ _ fun x _ => words_pos x) (by decide) k h1 (by simpa using h2)
def preS (ws : List Wd) (i : Nat) : Int := bal ((ws.take i).map kp)
theorem preS_succ (ws : List Wd) (i : Nat) : preS ws (i + 1) = preS ws i + balW (kp (wdAt ws i)) := by
  unfold preS
  rw [List.take_add_one, List.map_append, bal_app]
  congr 1
  unfold wdAt
  cases h : ws[i]? with
  | none => simp [bal, balW, kp]
  | some w => simp [bal]
theorem isS_bal {w : Wd} {s : Str} (h : isS w s = true) : balW (kp w) = balW (1, s) := by
  obtain ⟨h1, h2⟩ := isS_k h
  unfold kp
  rw [h1, h2]
theorem read_bal (ws : List Wd) : ∀ q : Nat, (∀ d i n x j m, valR q ws d i n = .ok (x, j, m) → preS ws j = preS ws i) ∧ (∀ d i n x j m, listR q ws d i n = .ok (x, j, m) → preS ws j = preS ws i - 1) ∧
    (∀ d i n acc x j m, itemsR q ws d i n acc = .ok (x, j, m) → preS ws j = preS ws i - 1) ∧ (∀ d i n x j m, pairsR q ws d i n = .ok (x, j, m) → preS ws j = preS ws i - 1) ∧
    (∀ d i n acc x j m, entriesR q ws d i n acc = .ok (x, j, m) → preS ws j = preS ws i - 1) := by
  have b1 : balW (1, [91]) = 1 := by decide
  have b2 : balW (1, [123]) = 1 := by decide
  have b3 : balW (1, [93]) = -1 := by decide
  have b4 : balW (1, [125]) = -1 := by decide
  have b5 : balW (1, [44]) = 0 := by decide
  have b6 : balW (1, [58]) = 0 := by decide
  intro q
  induction q with
  | zero => refine ⟨?_, ?_, ?_, ?_, ?_⟩ <;> intros <;> simp_all [valR, listR, itemsR, pairsR, entriesR]
  | succ q ih =>
    obtain ⟨hv, hl, hi, hp, he⟩ := ih
    refine ⟨?_, ?_, ?_, ?_, ?_⟩
    · intro d i n x j m h
      rw [valR] at h
      split at h
      · cases h
      rename_i h1
      split at h
      · cases h
      split at h
      · rename_i h2
        have := hl _ _ _ _ _ _ h
        rw [preS_succ, isS_bal h2, b1] at this
        omega
      split at h
      · rename_i h2
        have := hp _ _ _ _ _ _ h
        rw [preS_succ, isS_bal h2, b2] at this
        omega
      · rename_i h2 h3
        cases h
        rw [preS_succ]
        have : balW (kp (wdAt ws i)) = 0 := by
          unfold isS at h2 h3
          rw [decide_eq_true_eq] at h2 h3
          unfold balW kp
          have h4 : ¬ (wdAt ws i).k = 1 := fun e => by
            refine h1 (.inr ⟨e, fun e2 => h3 ⟨e, e2⟩, fun e2 => h2 ⟨e, e2⟩⟩)
          rw [if_neg (fun h => h4 h.1), if_neg (fun h => h4 h.1)]
        omega
    · intro d i n x j m h
      rw [listR] at h
      split at h
      · rename_i h1
        cases h
        rw [preS_succ, isS_bal h1, b3]
        omega
      · exact hi _ _ _ _ _ _ _ h
    · intro d i n acc x j m h
      rw [itemsR] at h
      cases hr : valR q ws (d + 1) i n with
      | error e => rw [hr] at h; cases h
      | ok y =>
        obtain ⟨y, j', m'⟩ := y
        rw [hr] at h
        have h0 := hv _ _ _ _ _ _ hr
        simp only [] at h
        split at h
        · rename_i h1
          cases h
          rw [preS_succ, isS_bal h1, b3]
          omega
        split at h
        · rename_i h1
          have := hi _ _ _ _ _ _ _ h
          rw [preS_succ, isS_bal h1, b5] at this
          omega
        · cases h
    · intro d i n x j m h
      rw [pairsR] at h
      split at h
      · rename_i h1
        cases h
        rw [preS_succ, isS_bal h1, b4]
        omega
      · exact he _ _ _ _ _ _ _ h
    · intro d i n acc x j m h
      rw [entriesR] at h
      split at h
      · cases h
      rename_i k2
      split at h
      · cases h
      split at h
      · cases h
      rename_i h3
      have h3 : isS (wdAt ws (i + 1)) [58] = true := by simpa using h3
      have k2 : (wdAt ws i).k = 2 := by simpa using k2
      have e0 : preS ws (i + 2) = preS ws i := by
        rw [preS_succ, preS_succ, isS_bal h3, b6]
        have : balW (kp (wdAt ws i)) = 0 := by unfold balW kp; rw [k2]; simp
        omega
      cases hr : valR q ws (d + 1) (i + 2) n with
      | error e => rw [hr] at h; cases h
      | ok y =>
        obtain ⟨y, j', m'⟩ := y
        rw [hr] at h
        have h0 := hv _ _ _ _ _ _ hr
        simp only [] at h
        split at h
        · rename_i h1
          cases h
          rw [preS_succ, isS_bal h1, b4]
          omega
        split at h
        · rename_i h1
          have := he _ _ _ _ _ _ _ h
          rw [preS_succ, isS_bal h1, b5] at this
          omega
        · cases h
theorem whole_open {ws : List Wd} {e : Wd} (he : e.k = 0) (hk : ∀ w ∈ ws, 1 ≤ w.k) (hok : WsOk (ws ++ [e])) (hb : bal (ws.map kp) ≠ 0) : (wholeS (ws ++ [e])).2.1 ≠ 0 := by
  unfold wholeS
  obtain ⟨ok, _⟩ := okR_all hok (3 * (ws ++ [e]).length + 1)
  obtain ⟨er, _⟩ := errR_all hok (3 * (ws ++ [e]).length + 1)
  have ok := ok 1 0 0 (by simp)
  have er := er 1 0 0 (by simp) (by omega)
  cases hr : valR (3 * (ws ++ [e]).length + 1) (ws ++ [e]) 1 0 0 with
  | error x =>
    rw [hr] at er
    have h1 := er.1
    simp only []
    omega
  | ok y =>
    obtain ⟨y, j, m⟩ := y
    rw [hr] at ok
    have h1 := (read_bal _ _).1 _ _ _ _ _ _ hr
    simp only []
    split
    · rename_i h0
      exfalso
      have hj := ok.2.1
      rw [List.length_append, List.length_singleton] at hj
      have hje : j = ws.length := by
        rcases Nat.lt_or_ge j ws.length with h | h
        · have hw : wdAt (ws ++ [e]) j = ws[j] := by unfold wdAt; rw [List.getElem?_append_left h]; simp [h]
          have := hk ws[j] (List.getElem_mem h)
          rw [hw] at h0
          omega
        · omega
      unfold preS at h1
      rw [hje, List.take_left] at h1
      exact hb (by rw [h1]; simp [bal])
    · simp
theorem skip_nil : ∀ m : Str, skipB m = [] ↔ ∀ b ∈ m, blanksB.contains b = true
  | [] => by simp [skipB]
  | b :: m => by
    have ih := skip_nil m
    unfold skipB at ih ⊢
    rw [List.dropWhile_cons]
    split
    · rename_i h
      rw [ih, List.forall_mem_cons]
      exact ⟨fun g => ⟨h, g⟩, fun g => g.2⟩
    · rename_i h
      rw [List.forall_mem_cons]
      exact ⟨fun g => absurd g (by simp), fun g => absurd g.1 h⟩
theorem parse_err {t : Str} (h : (cutT t).2.1 ≠ 0) : (parseS t).2.1 ≠ 0 := by
  unfold parseS
  rw [if_neg h]
  exact h
theorem cutT_judge {t : Str} (h : (cutT t).2.1 = 0) : (cutL (t.length + 1) t (whileL t blanksB) []).2.1 = 0 ∧ (cutT t).1 = (cutL (t.length + 1) t (whileL t blanksB) []).1 ++ [⟨0, [], t.length⟩] := by
  unfold cutT at h ⊢
  split at h
  · rename_i h1; exact absurd h h1
  rename_i h1
  split at h
  · rename_i h2; exact absurd h h2
  rename_i h2
  rw [if_neg h1, if_neg h2]
  exact ⟨by simpa using h2, rfl⟩
theorem box_text {t : Tree} (hk : t.kind = 5 ∨ t.kind = 6) (d : Int) : ∃ o Y c, printT t d = o :: (Y ++ [c]) ∧ signs.contains o = true ∧ signs.contains c = true := by
  rw [printT_eq, if_neg (by omega), if_neg (by omega), if_neg (by omega), if_neg (by omega), if_neg (by omega)]
  split
  · split
    · exact ⟨123, [], 125, rfl, by decide, by decide⟩
    · exact ⟨123, printM true t.m (deeper d) ++ lineL d, 125, by simp, by decide, by decide⟩
  · split
    · exact ⟨91, [], 93, rfl, by decide, by decide⟩
    · exact ⟨91, printL true t.l (deeper d) ++ lineL d, 93, by simp, by decide, by decide⟩
theorem sign_blank {c : UInt8} (h : signs.contains c = true) : blanksB.contains c = false := by
  have key : ∀ n : Nat, n < 256 → signs.contains n.toUInt8 = true → blanksB.contains n.toUInt8 = false := by decide +kernel
  have := key c.toNat (UInt8.toNat_lt c)
  rw [show c.toNat.toUInt8 = c by simp] at this
  exact this h
theorem while_last {Y : Str} {c : UInt8} {C : Str} (h : C.contains c = false) : ∀ b < (Y ++ [c]).length, b + whileL ((Y ++ [c]).drop b) C < (Y ++ [c]).length := by
  intro b hb
  rw [List.length_append, List.length_singleton] at hb ⊢
  rw [List.drop_append_of_le_length (by omega)]
  have key : ∀ Z : Str, whileL (Z ++ [c]) C ≤ Z.length := by
    intro Z
    unfold whileL
    induction Z with
    | nil => simp only [List.nil_append]; rw [List.takeWhile_cons, h]; simp
    | cons z Z ih =>
      rw [List.cons_append, List.takeWhile_cons]
      split
      · simp only [List.length_cons]; omega
      · simp
  have := key (Y.drop b)
  rw [List.length_drop] at this
  omega
theorem parse_cut {t : Tree} (hg : goodT t = true) (hk : t.kind = 5 ∨ t.kind = 6) (d : Int) (hlen : (printT t d).length ≤ 65536) {n : Nat} (hn : n < (printT t d).length) : (parseS ((printT t d).take n)).2.1 ≠ 0 := by
  obtain ⟨o, Y, c, hT, hso, hsc⟩ := box_text hk d
  by_cases hc : (cutT ((printT t d).take n)).2.1 = 0
  case neg => exact parse_err hc
  have hok := cutT_ok _ hc
  obtain ⟨hc1, hc2⟩ := cutT_judge hc
  have hlx := lex_box hk (fun x _ => lex_tree x) (fun x _ => lex_tree x.2) hg (W := []) d (R := []) (ws := []) .nil
  rw [List.append_nil, List.append_nil] at hlx
  obtain ⟨l, hl, hm⟩ := cutL_lexes hlx ((printT t d).length + 1) (printT t d) 0 [] rfl (by omega) (by omega)
  rw [List.nil_append] at hl
  unfold parseS
  rw [if_pos hc, hc2]
  rw [hc2] at hok
  generalize hTT : printT t d = T at *
  have hln : (T.take n).length = n := by rw [List.length_take]; omega
  have hwords := cutL_words ((T.take n).length + 1) (T.take n) (whileL (T.take n) blanksB) [] (by omega) (by simp)
  cases n with
  | zero =>
    simp only [List.take_zero]
    decide +kernel
  | succ n =>
    have hw0 : whileL (T.take (n + 1)) blanksB = 0 := by
      rw [hT, List.take_succ_cons]
      unfold whileL
      rw [List.takeWhile_cons, sign_blank hso]
      simp
    rw [hw0, hln] at hc1 hok hwords ⊢
    obtain ⟨l1, l2, e, f1, f2, f3, f4⟩ := cutL_pre (t := T) (n := n + 1) hn (by rw [hT, ← List.cons_append]; exact while_last (sign_blank hsc)) (n + 1 + 1) (T.length + 1) 0 [] (by omega) (by omega) (by omega) hc1 (by rw [hl])
    rw [List.nil_append] at f1 f2
    rw [f1] at hok hwords ⊢
    rw [hl] at f2
    simp only [] at f2
    have hpre : l1.map kp = (wordsT t).take l1.length := by rw [← hm, f2, List.map_append, List.take_left' (by simp)]
    have hlt : l1.length < (wordsT t).length := by
      have := List.length_pos_iff.2 f3
      rw [← hm, f2, List.length_map, List.length_append]
      omega
    have hl1 : 1 ≤ l1.length := by
      rcases Nat.eq_zero_or_pos l1.length with h | h
      · have e1 := List.eq_nil_of_length_eq_zero h
        rcases f4 with f4 | ⟨w, f4, _, f5⟩
        · -- a word must be there
          exfalso
          rw [e1, f4, List.append_nil] at f1
          have hne : 0 < (T.take (n + 1)).length := by omega
          rw [cutL, if_neg (by omega)] at f1 hc1
          split at hc1
          · rename_i h2; exact h2 hc1
          rename_i h2
          rw [if_neg h2] at f1
          have pre : ∀ (p b : Nat) (acc : List Wd), (cutL p (T.take (n + 1)) b acc).2.1 = 0 → acc.length ≤ (cutL p (T.take (n + 1)) b acc).1.length := by
            intro p
            induction p with
            | zero => intro b acc _; rw [cutL]; exact Nat.le_refl _
            | succ p ih =>
              intro b acc h
              rw [cutL] at h ⊢
              split
              · exact Nat.le_refl _
              rename_i h1
              rw [if_neg h1] at h
              split
              · rename_i h2; rw [if_pos h2] at h; exact absurd h h2
              rename_i h2
              rw [if_neg h2] at h
              have := ih _ _ h
              rw [List.length_append] at this
              omega
          have := pre _ _ _ hc1
          rw [f1] at this
          simp at this
        · have h6 := f5 e1
          rw [hT] at h6
          rw [show (o :: (Y ++ [c])).getD 0 0 = o from rfl, hso] at h6
          cases h6
      · exact h
    refine whole_open (ws := l1 ++ e) rfl (fun w hw => (hwords w hw).2.1) hok ?_
    rw [List.map_append, bal_app, hpre]
    have h1 := words_open hk l1.length hl1 hlt
    have h2 : bal (e.map kp) = 0 := by
      rcases f4 with f4 | ⟨w, f4, f5, _⟩
      · rw [f4]; rfl
      · rw [f4]
        simp only [List.map_cons, List.map_nil]
        rw [bal_cons, bal_nil]
        unfold balW kp
        rcases f5 with f5 | f5 <;> rw [f5] <;> simp
    omega
theorem parse_behind {t : Tree} (hg : goodT t = true) (hk : t.kind = 5 ∨ t.kind = 6) (d : Int) (more : Str) (hlen : (printT t d ++ more).length ≤ 65536) (hn : t.nodes ≤ 4096) (hd : t.depth ≤ 32) :
    ((parseS (printT t d ++ more)).2.1 = 0 ↔ ∀ b ∈ more, blanksB.contains b = true) := by
  obtain ⟨o, Y, c, hT, hso, hsc⟩ := box_text hk d
  have hsk := skip_nil more
  rw [← hsk]
  have hlx := lex_box hk (fun x _ => lex_tree x) (fun x _ => lex_tree x.2) hg (W := skipB more) d (R := more) (ws := []) .nil
  rw [List.append_nil] at hlx
  have hw0 : whileL (printT t d ++ more) blanksB = 0 := by
    rw [hT, List.cons_append]
    unfold whileL
    rw [List.takeWhile_cons, sign_blank hso]
    simp
  obtain ⟨l, b, p, e1, e2, e3, e4, e5, e6⟩ := cutL_to hlx ((printT t d ++ more).length + 1) (printT t d ++ more) 0 [] rfl (by omega) (by omega)
  have hvd := vd_print t hg d
  have hok := cutT_ok (printT t d ++ more)
  generalize hTT : printT t d ++ more = T at *
  rw [List.nil_append] at e1
  have hll : l.length = (wordsT t).length := by rw [← e2, List.length_map]
  constructor
  · intro h0
    rcases Nat.lt_or_ge b T.length with hb | hb
    case inr =>
      rw [← e3, List.drop_eq_nil_of_le (by omega)]
    exfalso
    by_cases hc : (cutT T).2.1 = 0
    case neg => exact parse_err hc h0
    obtain ⟨hc1, hc2⟩ := cutT_judge hc
    rw [hw0, e1] at hc1 hc2
    obtain ⟨p, rfl⟩ : ∃ r, p = r + 1 := ⟨p - 1, by omega⟩
    have pre : ∀ (p b : Nat) (acc : List Wd), (cutL p T b acc).2.1 = 0 → ∃ l2, (cutL p T b acc).1 = acc ++ l2 := by
      intro p
      induction p with
      | zero => intro b acc _; exact ⟨[], by rw [cutL]; simp⟩
      | succ p ih =>
        intro b acc h
        rw [cutL] at h ⊢
        split
        · exact ⟨[], by simp⟩
        rename_i h1
        rw [if_neg h1] at h
        split
        · rename_i h2; rw [if_pos h2] at h; exact absurd h h2
        rename_i h2
        rw [if_neg h2] at h
        obtain ⟨l2, e⟩ := ih _ _ h
        exact ⟨(wordL T b).1 :: l2, by rw [e]; simp⟩
    rw [cutL, if_neg (by omega)] at hc1 hc2
    split at hc1
    · rename_i h2; exact h2 hc1
    rename_i h2
    rw [if_neg h2] at hc2
    obtain ⟨l2, f1⟩ := pre _ _ _ hc1
    rw [f1] at hc2
    have hwk := (wordL_word T b (by simpa using h2)).2.1
    unfold parseS at h0
    rw [if_pos hc, hc2] at h0
    unfold wholeS at h0
    have hr := read_tree t (3 * (l ++ [(wordL T b).1] ++ l2 ++ [(⟨0, [], T.length⟩ : Wd)]).length + 1) (l ++ [(wordL T b).1] ++ l2 ++ [(⟨0, [], T.length⟩ : Wd)]) 1 0 0 ([(wordL T b).1] ++ l2 ++ [(⟨0, [], T.length⟩ : Wd)] |>.map kp) hg (by simp [e2]) (by simp only [List.length_append]; omega) (by omega) (by omega)
    rw [hr] at h0
    simp only [] at h0
    have hat : wdAt (l ++ [(wordL T b).1] ++ l2 ++ [(⟨0, [], T.length⟩ : Wd)]) (0 + (wordsT t).length) = (wordL T b).1 := by
      unfold wdAt
      rw [Nat.zero_add, ← hll]
      simp
    rw [hat, if_neg (by omega)] at h0
    cases h0
  · intro h0
    have hbT : T.length ≤ b := by
      rw [h0] at e3
      have := congrArg List.length e3
      rw [List.length_drop] at this
      simp only [List.length_nil] at this
      omega
    obtain ⟨p, rfl⟩ : ∃ r, p = r + 1 := ⟨p - 1, by omega⟩
    have hv : (utfValid T).2 = true := by
      rw [← hTT]
      refine valid_vd (hvd.app (vd_asc fun b hb => ?_))
      have := hsk.1 h0 b hb
      have key : ∀ n : Nat, n < 256 → blanksB.contains n.toUInt8 = true → n < 128 := by decide +kernel
      have := key b.toNat (UInt8.toNat_lt b)
      rw [show b.toNat.toUInt8 = b by simp] at this
      exact this (by assumption)
    have hj : judgeS T = (0, 0) := by
      unfold judgeS
      rw [if_neg (by omega), if_neg (by rw [hv]; decide)]
    have hcut : cutT T = (l ++ [⟨0, [], T.length⟩], 0, 0) := by
      unfold cutT
      rw [hj, if_neg (by decide), hw0, e1, cutL, if_pos hbT, if_neg (by simp)]
    have hr := read_tree t (3 * (l.length + 1) + 1) (l ++ [⟨0, [], T.length⟩]) 1 0 0 [(0, [])] hg (by simp [e2, kp]) (by omega) (by omega) (by omega)
    rw [Nat.zero_add, ← hll] at hr
    rw [parse_whole hcut hr]
end Go.Am
end
