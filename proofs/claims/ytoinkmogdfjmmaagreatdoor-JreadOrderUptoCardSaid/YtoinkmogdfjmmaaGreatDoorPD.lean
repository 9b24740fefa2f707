/-
The abstract machine: regions that may come in any order are sound.
-/
import Derived.Test.YtoinkmogdfjmmaaGreatDoorPC
import Derived.Below
import Derived.Laws.Externs
import Derived.Lib.ItoaNum
import Derived.ChangeSame
import Derived.Lib.LaidTab
import Derived.IntWalk

section
namespace Go.Am
open Go
def ERelX (X : Nat → Prop) (B : Nat → Prop) (L : Loc) (w : World) (env : List V) (tmps : Array Value) : Prop :=
  env.length = tmps.toList.length ∧ ∀ (i : Nat) x y, env[i]? = some x → ¬ X i → tmps.toList[i]? = some y → VRel B L w x y
theorem ERelX.of (X : Nat → Prop) {B : Nat → Prop} {L : Loc} {w : World} {env : List V} {tmps : Array Value} (h : ERel B L w env tmps) : ERelX X B L w env tmps :=
  ⟨h.1, fun i x y hx _ hy => h.2 i x y hx hy⟩
theorem ERelX.all {X : Nat → Prop} {B : Nat → Prop} {L : Loc} {w : World} {env : List V} {tmps : Array Value} (h : ERelX X B L w env tmps) (hX : ∀ x, ¬ X x) : ERel B L w env tmps :=
  ⟨h.1, fun i x y hx hy => h.2 i x y hx (hX i) hy⟩
theorem ERelX.mono {X Y : Nat → Prop} {B : Nat → Prop} {L : Loc} {w : World} {env : List V} {tmps : Array Value} (h : ERelX X B L w env tmps) (hs : ∀ x, X x → Y x) : ERelX Y B L w env tmps :=
  ⟨h.1, fun i x y hx hn hy => h.2 i x y hx (fun hX => hn (hs i hX)) hy⟩
theorem ERelX.like {X : Nat → Prop} {B : Nat → Prop} {L : Loc} {w : World} {env e' : List V} {tmps : Array Value} (hl : Like X env e') (h : ERel B L w e' tmps) : ERelX X B L w env tmps := by
  refine ⟨hl.1.trans h.1, fun i x y hx hn hy => ?_⟩
  rcases hl.2 i x hx with h1 | h1
  · exact h.2 i x y h1 hy
  · exact (hn h1.1).elim
open Classical in
theorem ERelX.mask {X : Nat → Prop} {B : Nat → Prop} {L : Loc} {w : World} {env : List V} {tmps : Array Value} (h : ERelX X B L w env tmps) : ∃ e', Like X env e' ∧ ERel B L w e' tmps := by
  refine ⟨env.mapIdx fun i v => if X i then .junk else v, ⟨by simp, fun i v hv => ?_⟩, by simpa using h.1, fun i x y hx hy => ?_⟩
  · by_cases hX : X i
    · exact .inr ⟨hX, by simp [hv, hX]⟩
    · exact .inl (by simp [hv, hX])
  · rw [List.getElem?_mapIdx, Option.map_eq_some_iff] at hx
    obtain ⟨v, hv, rfl⟩ := hx
    split
    · exact .junk _
    · rename_i hX; exact h.2 i v y hv hX hy
def Clo (ops : Array Oper) (listed : Array Bool) : Prop := ∀ j o, ops[j]? = some o → listed.getD j false = true → ∀ e ∈ o.after, Region.binds .any e = true → listed.getD e.on false = true
def Row (ops : Array Oper) (r j : Nat) : Prop := ∀ o, ops[j]? = some o → ∀ i, r.testBit i = true → ∀ listed, Clo ops listed → (∀ e ∈ o.after, Region.binds .any e = true → listed.getD e.on false = true) → listed.getD i false = true
theorem testBit_shl {c i : Nat} (h : (1 <<< c).testBit i = true) : i = c := by
  rw [Nat.testBit_shiftLeft] at h
  simp only [Bool.and_eq_true, decide_eq_true_eq] at h
  obtain ⟨h1, h2⟩ := h
  have : i - c = 0 := by
    by_cases hz : i - c = 0
    · exact hz
    · rw [Nat.testBit_one_eq_true_iff_self_eq_zero] at h2
      omega
  omega
theorem aheadM_spec {tab : List Nat} : ∀ (es : List Edge) (i : Nat), (aheadM tab es).testBit i = true → ∃ e ∈ es, Region.binds .any e = true ∧ (i = e.on ∨ ((tab[e.on]?).getD 0).testBit i = true)
  | [], i, h => by simp [aheadM] at h
  | e :: es, i, h => by
    simp only [aheadM] at h
    split at h
    · rename_i hb
      rw [Nat.testBit_or, Nat.testBit_or, Bool.or_eq_true, Bool.or_eq_true] at h
      rcases h with (h | h) | h
      · exact ⟨e, by simp, hb, .inl (testBit_shl h)⟩
      · exact ⟨e, by simp, hb, .inr h⟩
      · obtain ⟨e', h1, h2, h3⟩ := aheadM_spec es i h
        exact ⟨e', by simp [h1], h2, h3⟩
    · obtain ⟨e', h1, h2, h3⟩ := aheadM_spec es i h
      exact ⟨e', by simp [h1], h2, h3⟩
theorem ancTab_spec {ops : Array Oper} : ∀ (l pre : List Oper) (tab : List Nat), ops.toList = pre ++ l → pre.length = tab.length → (∀ j r, tab[j]? = some r → Row ops r j) → ∀ j r, (ancTab l tab)[j]? = some r → Row ops r j
  | [], pre, tab, _, _, h => h
  | o :: l, pre, tab, he, hl, h => by
    simp only [ancTab]
    refine ancTab_spec l (pre ++ [o]) (tab ++ [aheadM tab o.after.toList]) (by simp [he]) (by simp [hl]) fun j r hr => ?_
    rw [List.getElem?_append] at hr
    split at hr
    · exact h j r hr
    · rename_i hj
      have hj' : j = tab.length := by
        have := (List.getElem?_eq_some_iff.1 hr).1
        simp at this
        omega
      subst hj'
      simp at hr
      subst hr
      intro o' ho' i hi listed hc hd
      have hoo : o' = o := by
        have : ops.toList[tab.length]? = some o' := by rw [Array.getElem?_toList]; exact ho'
        rw [he, ← hl] at this
        simpa using this.symm
      subst hoo
      obtain ⟨e, he1, he2, he3⟩ := aheadM_spec _ i hi
      have hlist := hd e (by simpa using he1) he2
      rcases he3 with rfl | h3
      · exact hlist
      · cases ht : tab[e.on]? with
        | none => rw [ht] at h3; simp at h3
        | some r =>
          rw [ht] at h3
          have hlt : e.on < pre.length := by rw [hl]; exact (List.getElem?_eq_some_iff.1 ht).1
          have ho2 : ∃ o2, ops[e.on]? = some o2 := by
            rw [← Array.getElem?_toList, he]
            exact ⟨pre[e.on], by rw [List.getElem?_append_left hlt]; simp [hlt]⟩
          obtain ⟨o2, ho2⟩ := ho2
          exact h e.on r ht o2 ho2 i h3 listed hc (fun e' he' hb' => hc e.on o2 ho2 hlist e' he' hb')
theorem anc_spec {ops : Array Oper} {i j : Nat} {o : Oper} {listed : Array Bool} (ha : isAnc (ancTab ops.toList []) i j = true) (ho : ops[j]? = some o) (hc : Clo ops listed) (hd : ∀ e ∈ o.after, Region.binds .any e = true → listed.getD e.on false = true) :
    listed.getD i false = true := by
  unfold isAnc at ha
  cases ht : (ancTab ops.toList [])[j]? with
  | none => rw [ht] at ha; simp at ha
  | some r =>
    rw [ht] at ha
    exact ancTab_spec ops.toList [] [] rfl rfl (by simp) j r ht o ho i ha listed hc hd
theorem maskOf_spec : ∀ (l : List Nat) (i : Nat), (maskOf l).testBit i = true ↔ i ∈ l
  | [], i => by simp [maskOf]
  | c :: l, i => by
    simp only [maskOf, Nat.testBit_or, Bool.or_eq_true, List.mem_cons, maskOf_spec l i]
    refine ⟨fun h => h.imp testBit_shl id, fun h => h.imp (fun e => ?_) id⟩
    subst e
    simp [Nat.testBit_shiftLeft]
theorem notNow_spec {tab rest : List Nat} {i : Nat} (h : isNow tab (maskOf rest) i = false) : ∃ c ∈ rest, isAnc tab c i = true := by
  unfold isNow at h
  have hne : ((tab[i]?).getD 0) &&& maskOf rest ≠ 0 := by simpa using h
  obtain ⟨c, hc⟩ := Nat.exists_testBit_of_ne_zero hne
  rw [Nat.testBit_and, Bool.and_eq_true] at hc
  exact ⟨c, (maskOf_spec _ _).1 hc.2, hc.1⟩
theorem now_spec {tab rest : List Nat} {i c : Nat} (h : isNow tab (maskOf rest) i = true) (hc : c ∈ rest) : isAnc tab c i = false := by
  unfold isNow at h
  simp only [beq_iff_eq] at h
  have := congrArg (Nat.testBit · c) h
  simp only [Nat.testBit_and, Nat.zero_testBit, Bool.and_eq_false_iff] at this
  unfold isAnc
  rcases this with h1 | h1
  · exact h1
  · rw [(maskOf_spec _ _).2 hc] at h1; cases h1
theorem chainOk_spec {tab : List Nat} : ∀ (l : List Nat) (c : Nat), chainOk tab (c :: l) = true → ∀ i ∈ l, ∃ j ∈ c :: l, isAnc tab j i = true
  | [], c, _, i, hi => by simp at hi
  | d :: l, c, h, i, hi => by
    simp only [chainOk, Bool.and_eq_true] at h
    rcases List.mem_cons.1 hi with rfl | hi
    · exact ⟨c, by simp, h.1⟩
    · obtain ⟨j, h1, h2⟩ := chainOk_spec l d h.2 i hi
      exact ⟨j, List.mem_cons_of_mem _ h1, h2⟩
theorem chainOk_tail {tab : List Nat} {c : Nat} {l : List Nat} (h : chainOk tab (c :: l) = true) : chainOk tab l = true := by
  cases l with
  | nil => rfl
  | cons d l => simp only [chainOk, Bool.and_eq_true] at h; exact h.2
theorem getD_set_self {listed : Array Bool} {i : Nat} (h : i < listed.size) : (listed.setIfInBounds i true).getD i false = true := by
  simp [Array.getD, h]
theorem getD_set_other {listed : Array Bool} {i j : Nat} (d : Bool) (h : i ≠ j) : (listed.setIfInBounds i true).getD j d = listed.getD j d := Go.getD_set_ne d h
theorem getD_false_true {listed : Array Bool} {i : Nat} (h : listed.getD i true = false) : listed.getD i false = false := by
  simp only [Array.getD] at h ⊢
  split at h
  · rename_i hl; rw [dif_pos hl]; exact h
  · cases h
def unl (listed : Array Bool) (n : Nat) : Nat := ((List.range n).filter fun i => !listed.getD i true).length
theorem unl_set {listed : Array Bool} {n i : Nat} (hi : i < n) (h : listed.getD i true = false) (hs : listed.size = n) : unl (listed.setIfInBounds i true) n < unl listed n := by
  unfold unl
  rw [← List.countP_eq_length_filter, ← List.countP_eq_length_filter]
  have key : ∀ l : List Nat, i ∈ l → List.countP (fun j => !(listed.setIfInBounds i true).getD j true) l < List.countP (fun j => !listed.getD j true) l := by
    intro l
    have le : ∀ l : List Nat, List.countP (fun j => !(listed.setIfInBounds i true).getD j true) l ≤ List.countP (fun j => !listed.getD j true) l := by
      intro l
      apply List.countP_mono_left
      intro j _ hj
      by_cases e : i = j
      · subst e
        simp [Array.getD, hs, hi] at hj
      · rwa [getD_set_other true e] at hj
    induction l with
    | nil => intro hm; simp at hm
    | cons j l ih =>
      intro hm
      rw [List.countP_cons, List.countP_cons]
      by_cases e : i = j
      · subst e
        have h1 : (!(listed.setIfInBounds i true).getD i true) = false := by simp [Array.getD, hs, hi]
        have h2 : (!listed.getD i true) = true := by simp [h]
        have := le l
        simp only [h1, h2, if_true, Bool.false_eq_true, if_false]
        omega
      · have := ih ((List.mem_cons.1 hm).resolve_left e)
        rw [getD_set_other true e]
        omega
  exact key _ (by simpa using hi)
end Go.Am
end

section
namespace Go.Am
open Go
section
variable {P : Program} {G : Nat → Option PV} {pol : Pol} {C : CallF}
def UnX (ops : Array Oper) (simples : List Nat) (listed : Array Bool) (x : Nat) : Prop := ∃ i ∈ simples, listed.getD i false = false ∧ slotOf ops i = some x
def allJunk (e : List V) : List V := e.map fun _ => .junk
theorem allJunk_rel {B : Nat → Prop} {L : Loc} {w : World} {e : List V} {tmps : Array Value} (h : e.length = tmps.toList.length) : ERel B L w (allJunk e) tmps := by
  refine ⟨by simpa [allJunk] using h, fun i x y hx _ => ?_⟩
  simp only [allJunk, List.getElem?_map, Option.map_eq_some_iff] at hx
  obtain ⟨_, _, rfl⟩ := hx
  exact .junk _
theorem isSimple_spec {bs : Bool} {ops : Array Oper} {tab : List Nat} {i : Nat} (h : isSimple P bs ops tab i = true) :
    ∃ o d, ops[i]? = some o ∧ o.dst = some d ∧ simpleK P bs o.op = true ∧ (∀ j p, ops[j]? = some p → d ∈ Oper.looksAt ops p → isAnc tab i j = true) ∧ ∀ j p, ops[j]? = some p → j ≠ i → p.dst = some d → isAnc tab i j = true := by
  unfold isSimple at h
  split at h
  · cases h
  · rename_i o ho
    rw [Bool.and_eq_true] at h
    obtain ⟨h1, h2⟩ := h
    split at h2
    · cases h2
    · rename_i d hd
      simp only [List.all_eq_true] at h2
      have key : ∀ j p, ops[j]? = some p → ((Oper.looksAt ops p).contains d || (j != i && p.dst == some d)) = true → isAnc tab i j = true := by
        intro j p hp hc
        have := h2 j (by simpa using (Array.getElem?_eq_some_iff.1 hp).1)
        rw [hp] at this
        simp only [] at this
        rw [if_pos hc] at this
        exact this
      exact ⟨o, d, ho, hd, h1, fun j p hp hl => key j p hp (by simp [hl]), fun j p hp hne hd' => key j p hp (by simp [hne, hd'])⟩
theorem FS.drew {k : Nat} {B : Nat → Prop} {L : Loc} {w : World} {H : Heap} {mv : List Nat} : FS k B L w H mv B L w.drew H mv :=
  ⟨Nat.le_refl _, ⟨rfl, rfl, rfl⟩, fun _ _ _ => rfl, fun _ _ h => h, fun _ _ h _ => h, fun _ h => h, fun _ _ _ => ⟨rfl, rfl, rfl⟩, fun n h => .inl ⟨n, h, rfl⟩⟩
end
end Go.Am
end

section
namespace Go.Am
open Go Go.RowKit
section
variable {P : Program} {G : Nat → Option PV}
theorem FS.below {k : Nat} {B : Nat → Prop} {L : Loc} {w w' : World} {H : Heap} {mv : List Nat} (h : Below w.heap.size w w') : FS k B L w H mv B L w' H mv :=
  ⟨h.size, ⟨h.os, h.tape, h.output⟩, fun b hb _ => h.block b hb, fun _ _ h => h, fun _ _ h _ => h, fun _ h => h, fun _ _ _ => ⟨rfl, rfl, rfl⟩, fun n hn => .inl ⟨n, hn, rfl⟩⟩
theorem St.below {B : Nat → Prop} {L : Loc} {w w' : World} {H : Heap} (hst : St B L w H) (h : Below w.heap.size w w') : St B L w' H := by
  have hs : Step B w B w' := ⟨h.size, fun b hb _ => h.block b hb, fun _ _ h => h⟩
  exact ⟨fun n => (hst.rel n).step hs fun hl => h.block _ (hst.own n hl).2, fun n hl => ⟨(hst.own n hl).1, Nat.lt_of_lt_of_le (hst.own n hl).2 h.size⟩, hst.inj, fun b hb => Nat.lt_of_lt_of_le (hst.bnd b hb) h.size⟩
theorem absBelow {f : FuncId} {args : List V} {H : Heap} {r : V} (h : ∀ (B : Nat → Prop) (L : Loc) (w : World) (vs : List Value), St B L w H → VRelL B L w args vs → GOk G B w →
    CallTo P f vs.toArray w fun e w' => Below w.heap.size w w' ∧ ∃ v, e = .returned v ∧ VRel B L w' r v) : AbsCall P G f args H ⟨.ret r, H, []⟩ := by
  intro B L w vs hst ha hg
  refine (h B L w vs hst ha hg).mono ?_
  rintro e w' ⟨hb, v, rfl, hv⟩
  exact ⟨B, L, FS.below hb, hst.below hb, hv⟩
theorem enters {f : FuncId} {fn : Func} {c : Code} (hf : P.funcs[f]? = some fn) (hname : (fn.name == "runtime.NumGoroutine") = false) (hb : fn.body = some c) (args : Array Value) (w : World) : (callFunc f args).run P w = .ok (.enter f args) w := by
  have hne : fn.name ≠ "runtime.NumGoroutine" := by simpa using hname
  simp [callFunc, hf, hne, hb]
theorem CallTo.of_calls {f : FuncId} {fn : Func} {c : Code} {args : Array Value} {w : World} {R : Ending → World → Prop} (hf : P.funcs[f]? = some fn) (hname : (fn.name == "runtime.NumGoroutine") = false) (hb : fn.body = some c) (h : Calls P f args w R) : CallTo P f args w R :=
  .inl ⟨enters hf hname hb args w, h⟩
theorem CallTo.calls {f : FuncId} {fn : Func} {c : Code} {args : Array Value} {w : World} {R : Ending → World → Prop} (hf : P.funcs[f]? = some fn) (hname : (fn.name == "runtime.NumGoroutine") = false) (hb : fn.body = some c) (h : CallTo P f args w R) : Calls P f args w R := by
  rcases h with ⟨_, h⟩ | ⟨v, w', h, _⟩
  · exact h
  · rw [enters hf hname hb] at h; cases h
theorem CallTo.extern {f : FuncId} {fn : Func} {e : Array Value → Sem Value} {args : Array Value} {v : Value} {w : World} {R : Ending → World → Prop} (hf : P.funcs[f]? = some fn) (hname : (fn.name == "runtime.NumGoroutine") = false)
    (hb : fn.body.isNone = true) (hn : Extern.findNext fn = none) (he : Extern.find fn = some e) (hr : (e args).run P w = .ok v w) (h : R (.returned v) w) : CallTo P f args w R :=
  .inr ⟨v, w, by rw [run_callFunc_extern hf hname hb hn he, hr]; rfl, h⟩
theorem vrel1 {B : Nat → Prop} {L : Loc} {w : World} {x : V} {vs : List Value} (h : VRelL B L w [x] vs) : ∃ v, vs = [v] ∧ VRel B L w x v := by
  match vs, h with
  | [v], h => exact ⟨v, rfl, h.2 0 _ _ rfl rfl⟩
  | [], h => have := h.1; simp at this
  | _ :: _ :: _, h => have := h.1; simp at this
theorem vrel2 {B : Nat → Prop} {L : Loc} {w : World} {x y : V} {vs : List Value} (h : VRelL B L w [x, y] vs) : ∃ v u, vs = [v, u] ∧ VRel B L w x v ∧ VRel B L w y u := by
  match vs, h with
  | [v, u], h => exact ⟨v, u, rfl, h.2 0 _ _ rfl rfl, h.2 1 _ _ rfl rfl⟩
  | [], h => have := h.1; simp at this
  | [_], h => have := h.1; simp at this
  | _ :: _ :: _ :: _, h => have := h.1; simp at this
theorem vstr {B : Nat → Prop} {L : Loc} {w : World} {s : List UInt8} {v : Value} (h : VRel B L w (.p (.str s)) v) : v = .string ⟨s.toArray⟩ := by cases h.of_p; rfl
theorem vint {B : Nat → Prop} {L : Loc} {w : World} {k : IntKind} {n : Int} {v : Value} (h : VRel B L w (.p (.int k n)) v) : v = .int k n := by cases h.of_p; rfl
theorem abs_indexByte {f : FuncId} {fn : Func} (hf : P.funcs[f]? = some fn) (hname : (fn.name == "runtime.NumGoroutine") = false) (hb : fn.body.isNone = true) (hn : Extern.findNext fn = none) (he : Extern.find fn = some Extern.BytealgIndexByte.indexByte)
    (s : List UInt8) (c : Int) (H : Heap) : AbsCall P G f [.p (.str s), .p (.int .u8 c)] H ⟨.ret (.p (.int .i64 (firstIdx ⟨s.toArray⟩ c.toNat.toUInt8))), H, []⟩ := by
  refine absBelow fun B L w vs _ ha _ => ?_
  obtain ⟨v, u, rfl, hv, hu⟩ := vrel2 ha
  obtain rfl := vstr hv
  obtain rfl := vint hu
  exact CallTo.extern hf hname hb hn he (run_indexByte_string _ _ w) ⟨Below.refl _ _, _, rfl, .p _ _ (.int _ _)⟩
theorem flat_strs : ∀ (r : List (List UInt8)), flat (r.map .str) = r.map .str
  | [] => rfl
  | x :: r => by rw [List.map_cons, flat_cons, flat_strs r]; rfl
def tabV (k : IntKind) (zs : List Int) : PV := .agg (zs.map fun z => .int k z)
theorem tab_gok {name : String} {k : IntKind} {zs : List Int} {g : Nat} {W : World} (h : Lib.TabIs P W name k zs) (hg : P.globalNamed name = some g) :
    PRel (fun _ => False) W (.cptr (tabV k zs)) (.pointer (some ⟨g, 0, none⟩)) ∧ ∃ c t fr, W.heap[g]? = some (.cells c t fr) ∧ c.size = (tabV k zs).cells.length := by
  unfold Lib.TabIs World.var? at h
  rw [hg] at h
  simp only [Option.bind_some] at h
  split at h
  case h_2 => cases h
  rename_i cs t fr hw
  cases h
  refine ⟨.cptr _ g 0 (fun i => .int k (zs.getD i 0)) (fun h => h) (Array.getElem?_eq_some_iff.1 hw).1 ?_ (fun i hi => ?_) (fun i x hx => ?_), _, t, fr, hw, by simp [tabV, PV.cells]⟩
  · intro x hx
    simp only [tabV, PV.cells, List.mem_map] at hx
    obtain ⟨z, _, rfl⟩ := hx
    rfl
  · simp only [tabV, PV.cells, List.length_map] at hi
    simp [World.cell?, hw, List.getD, hi]
  · simp only [tabV, PV.cells, List.getElem?_map, Option.map_eq_some_iff] at hx
    obtain ⟨z, hz, rfl⟩ := hx
    simp [List.getD, hz]
    exact .int k z
theorem below_of_FS {B B' : Nat → Prop} {L L' : Loc} {w w' : World} {mv : List Nat} {H' : Heap} (h : FS 0 B L w [] [] B' L' w' H' mv) : Below w.heap.size w w' :=
  ⟨h.same.1, h.same.2.1, h.same.2.2, h.size, fun b hb => h.own b hb fun n hn => by simp [Heap.at, HO.live] at hn⟩
open ChangeShapes WideShapes in
theorem post_of_below {H : Type} {enc : TypeId × Value → H} {f : Func} {s : ChangeSpec} {apart fresh handsOn again : Bool} {W W' : World} {args : Array Value} {v : Value} {ds gs : List (DataW H)} {before pa pv : List MemPlace}
    (hW : DataW.Whole enc P f.params.toList s.vars apart W args.toList ds gs before)
    (hres : ∀ (b : Nat) (sp : Nat → Bool) (hd : Bool), DataW.TrodAll enc P W' b sp hd f.resultTypes.toList (v.resultList f.resultTypes.size) (s.fn H (ds ++ gs)).results [])
    (hargs : ∀ sp : Nat → Bool, (∀ p ∈ before, sp p.block = true) → DataW.TrodAll enc P W' 0 sp true f.params.toList args.toList (s.fn H (ds ++ gs)).args pa)
    (hvars : ∀ sp : Nat → Bool, (∀ p ∈ before, sp p.block = true) → DataW.TrodVars enc P W' sp s.vars (s.fn H (ds ++ gs)).vars pv)
    (hps : before = pa ++ pv) (hb : Below W.heap.size W W')
    (hok : ∀ (j : Nat) (t : TypeId) (r : Value), f.resultTypes[j]? = some t → (v.resultList f.resultTypes.size)[j]? = some r → Value.okWide P W' .any 0 t r) :
    s.post enc P f apart fresh handsOn again W args v W' := by
  have hold : ∀ p ∈ before, (fun b => decide (b < W.heap.size)) p.block = true := fun p hp => by simpa using hW.lt p hp
  refine ⟨ds, gs, before, [], pa, pv, hW, hres _ _ _, hargs _ hold, hvars _ hold, hb.frame _, fun _ => ?_⟩
  have hlt := hW.lt
  obtain ⟨_, _, _, _, _, hz, hn⟩ := hW
  refine ⟨hok, _, _, ([] ++ pa) ++ pv, ⟨[] ++ pa, pv, trodAll_append (hargs _ (fun _ _ => rfl)) (hres _ _ _), hvars _ (fun _ _ => rfl), rfl, ?_, ?_⟩, ?_⟩
  · intro b off hp
    have hp' : MemPlace.cell b off ∈ before := by rw [hps]; simpa using hp
    rw [hb.frozen (hlt _ hp')]
    exact hz b off hp'
  · intro ha
    have := hn ha
    rw [hps] at this
    simpa using this
  · intro p hp _
    rw [hps]
    simpa using hp
end
end Go.Am
end

section
namespace Go.Am
open Go
abbrev Env := List (Nat × V)
def look : Env → Nat → V
  | [], _ => .junk
  | (i, v) :: l, t => match Nat.beq i t with
    | true => v
    | false => look l t
def toEnv (n : Nat) (σ : Env) : List V := (List.range n).map (look σ)
def Bdd (n : Nat) (σ : Env) : Prop := ∀ t, n ≤ t → look σ t = .junk
theorem look_cons (i : Nat) (v : V) (σ : Env) (t : Nat) : look ((i, v) :: σ) t = if i = t then v else look σ t := by
  simp only [look]
  by_cases h : i = t
  · subst h; simp
  · have : Nat.beq i t = false := by
      cases hq : Nat.beq i t with
      | false => rfl
      | true => exact absurd (Nat.eq_of_beq_eq_true hq) h
    rw [this, if_neg h]
theorem toEnv_length (n : Nat) (σ : Env) : (toEnv n σ).length = n := by simp [toEnv]
theorem toEnv_get {n : Nat} {σ : Env} {t : Nat} : (toEnv n σ)[t]? = if t < n then some (look σ t) else none := by
  simp only [toEnv, List.getElem?_map]
  split
  · rename_i h; rw [List.getElem?_range h]; rfl
  · rename_i h; rw [List.getElem?_eq_none (by simp; omega)]; rfl
theorem toEnv_getD {n : Nat} {σ : Env} (hb : Bdd n σ) (t : Nat) : ((toEnv n σ)[t]?).getD .junk = look σ t := by
  rw [toEnv_get]
  split
  · rfl
  · rename_i h; rw [hb t (by omega)]; rfl
theorem Bdd.cons {n d : Nat} {σ : Env} (h : Bdd n σ) (hd : d < n) (v : V) : Bdd n ((d, v) :: σ) := by
  intro t ht
  rw [look_cons, if_neg (by omega)]
  exact h t ht
theorem toEnv_set {n d : Nat} {σ : Env} (v : V) : (toEnv n σ).set d v = toEnv n ((d, v) :: σ) := by
  apply List.ext_getElem?
  intro i
  rw [List.getElem?_set, toEnv_get, toEnv_get, look_cons, toEnv_length]
  split
  · rename_i e; subst e; simp
  · simp
theorem look_map (f : V → V) (hf : f .junk = .junk) : ∀ (σ : Env) (t : Nat), look (σ.map fun p => (p.1, f p.2)) t = f (look σ t)
  | [], t => hf.symm
  | (i, v) :: σ, t => by
    rw [List.map_cons, look_cons, look_cons]
    split
    · rfl
    · exact look_map f hf σ t
theorem toEnv_map (f : V → V) (hf : f .junk = .junk) (n : Nat) (σ : Env) : (toEnv n σ).map f = toEnv n (σ.map fun p => (p.1, f p.2)) := by
  simp only [toEnv, List.map_map]
  apply List.map_congr_left
  intro t _
  exact (look_map f hf σ t).symm
theorem Bdd.map {n : Nat} {σ : Env} (h : Bdd n σ) (f : V → V) (hf : f .junk = .junk) : Bdd n (σ.map fun p => (p.1, f p.2)) := by
  intro t ht
  rw [look_map f hf, h t ht, hf]
def evS (G : Nat → Option PV) (σ : Env) : Operand → V
  | .tmp t => look σ t
  | .const v => match ofConst v with
    | some d => .p d
    | none => .junk
  | .global g => match G g with
    | some d => .p (.cptr d)
    | none => .junk
  | .func f => .p (.fn (.func f))
theorem evS_eq {G : Nat → Option PV} {n : Nat} {σ : Env} (h : Bdd n σ) (x : Operand) : evalO G (toEnv n σ) x = evS G σ x := by
  cases x with
  | tmp t => exact toEnv_getD h t
  | _ => rfl
theorem evS_fun {G : Nat → Option PV} {n : Nat} {σ : Env} (h : Bdd n σ) : evalO G (toEnv n σ) = evS G σ := funext (evS_eq h)
structure Side (c r : Prop) : Prop where
  l : c
  r : r
structure Br (c : Bool) (A B : Prop) : Prop where
  t : c = true → A
  f : c = false → B
theorem Br.tt {c : Bool} {A B : Prop} (h : c = true) (a : A) : Br c A B := ⟨fun _ => a, fun e => by (rw [h] at e; cases e)⟩
theorem Br.ff {c : Bool} {A B : Prop} (h : c = false) (b : B) : Br c A B := ⟨fun e => by (rw [h] at e; cases e), fun _ => b⟩
inductive Bytes (l : List PV) (K : List UInt8 → Prop) : Prop
  | mk (s : List UInt8) (h : bytesOf l = some s) (k : K s)
inductive FrzV (m : Nat) (es : List PV) (v : V) (K : V → Prop) : Prop
  | mk (u : V) (h : v.frz m es = u) (k : K u)
inductive FrzO (m : Nat) (es : List PV) (o : HO) (K : HO → Prop) : Prop
  | mk (u : HO) (h : o.frz m es = u) (k : K u)
theorem FrzV.whole {m : Nat} {es : List PV} {K : V → Prop} (k : K (.p (.lst false es))) : FrzV m es (.sl m 0 es.length) K :=
  ⟨.p (.lst false es), by simp [V.frz], k⟩
def litK (n : Nat) (K : Nat → Prop) : Prop := match n with
  | 0 => K 0
  | 1 => K 1
  | 2 => K 2
  | 3 => K 3
  | 4 => K 4
  | 5 => K 5
  | 6 => K 6
  | 7 => K 7
  | 8 => K 8
  | 9 => K 9
  | 10 => K 10
  | 11 => K 11
  | 12 => K 12
  | 13 => K 13
  | 14 => K 14
  | 15 => K 15
  | 16 => K 16
  | 17 => K 17
  | 18 => K 18
  | 19 => K 19
  | 20 => K 20
  | 21 => K 21
  | 22 => K 22
  | 23 => K 23
  | n => K n
theorem litK_eq (n : Nat) (K : Nat → Prop) : litK n K = K n := by
  unfold litK
  split <;> rfl
def V.f1K (v : V) (K : V → Prop) : Prop := match v with
  | .p d => K (.p d)
  | .ptr a b => litK a fun a => litK b fun b => K (.ptr a b)
  | .eptr a b c => litK a fun a => litK c fun c => K (.eptr a b c)
  | .sl a b c => litK a fun a => K (.sl a b c)
  | .mapr a => litK a fun a => K (.mapr a)
  | .func f l => K (.func f l)
  | .agg l => K (.agg l)
  | .tup l => K (.tup l)
  | .iface t x => K (.iface t x)
  | .junk => K .junk
theorem V.f1K_eq (v : V) (K : V → Prop) : v.f1K K = K v := by cases v <;> simp only [V.f1K, litK_eq]
def list1K : List V → (List V → Prop) → Prop
  | [], K => K []
  | v :: l, K => v.f1K fun u => list1K l fun l' => K (u :: l')
theorem list1K_eq : ∀ (l : List V) (K : List V → Prop), list1K l K = K l
  | [], K => rfl
  | v :: l, K => by rw [list1K, V.f1K_eq, list1K_eq l]
def V.fK (v : V) (K : V → Prop) : Prop := match v with
  | .p d => K (.p d)
  | .func f l => list1K l fun l => K (.func f l)
  | .agg l => list1K l fun l => K (.agg l)
  | .tup l => list1K l fun l => K (.tup l)
  | v => v.f1K K
theorem V.fK_eq (v : V) (K : V → Prop) : v.fK K = K v := by cases v <;> simp only [V.fK, V.f1K_eq, list1K_eq]
def mapK (f : V → V) : List V → (List V → Prop) → Prop
  | [], K => K []
  | v :: l, K => (f v).fK fun u => mapK f l fun l' => K (u :: l')
theorem mapK_eq (f : V → V) : ∀ (l : List V) (K : List V → Prop), mapK f l K = K (l.map f)
  | [], K => rfl
  | v :: l, K => by rw [mapK, V.fK_eq, mapK_eq f l, List.map_cons]
def spineK {α : Type} : List α → (List α → Prop) → Prop
  | [], K => K []
  | x :: l, K => spineK l fun l' => K (x :: l')
theorem spineK_eq {α : Type} : ∀ (l : List α) (K : List α → Prop), spineK l K = K l
  | [], K => rfl
  | x :: l, K => by rw [spineK, spineK_eq l]
def HO.fK (o : HO) (K : HO → Prop) : Prop := match o with
  | .var t v => v.fK fun u => K (.var t u)
  | .arr t s es => K (.arr t s es)
  | .mp ks vs => K (.mp ks vs)
  | .dead => K .dead
theorem HO.fK_eq (o : HO) (K : HO → Prop) : o.fK K = K o := by cases o <;> simp [HO.fK, V.fK_eq]
def heapK : Heap → (Heap → Prop) → Prop
  | [], K => K []
  | o :: H, K => o.fK fun o' => heapK H fun H' => K (o' :: H')
theorem heapK_eq : ∀ (H : Heap) (K : Heap → Prop), heapK H K = K H
  | [], K => rfl
  | o :: H, K => by rw [heapK, HO.fK_eq, heapK_eq H]
def killEnvK (m : Nat) : Env → (Env → Prop) → Prop
  | [], K => K []
  | (i, v) :: σ, K => match V.has m v with
    | false => killEnvK m σ fun σ' => K ((i, v) :: σ')
    | true => (v.kill m).fK fun u => killEnvK m σ fun σ' => K ((i, u) :: σ')
mutual
theorem V.kill_not {m : Nat} : ∀ (v : V), m ∉ v.names → v.kill m = v
  | .p d, _ => rfl
  | .ptr a b, h => by simp only [V.names, List.mem_singleton] at h; simp only [V.kill]; rw [if_neg (fun e => h e.symm)]
  | .eptr a b c, h => by simp only [V.names, List.mem_singleton] at h; simp only [V.kill]; rw [if_neg (fun e => h e.symm)]
  | .sl a b c, h => by simp only [V.names, List.mem_singleton] at h; simp only [V.kill]; rw [if_neg (fun e => h e.symm)]
  | .mapr a, h => by simp only [V.names, List.mem_singleton] at h; simp only [V.kill]; rw [if_neg (fun e => h e.symm)]
  | .func f l, h => by simp only [V.names] at h; simp only [V.kill, V.killL_not l h]
  | .agg l, h => by simp only [V.names] at h; simp only [V.kill, V.killL_not l h]
  | .tup l, h => by simp only [V.names] at h; simp only [V.kill, V.killL_not l h]
  | .iface t v, h => by simp only [V.names] at h; simp only [V.kill, V.kill_not v h]
  | .junk, _ => rfl
theorem V.killL_not {m : Nat} : ∀ (l : List V), m ∉ V.namesL l → V.killL m l = l
  | [], _ => rfl
  | x :: l, h => by
    simp only [V.namesL, List.mem_append, not_or] at h
    simp only [V.killL, V.kill_not x h.1, V.killL_not l h.2]
end
theorem V.has_false {m : Nat} {v : V} (h : V.has m v = false) : m ∉ v.names := by
  intro hm
  rw [has_names.2 hm] at h; cases h
theorem killEnvK_eq (m : Nat) : ∀ (σ : Env) (K : Env → Prop), killEnvK m σ K = K (σ.map fun p => (p.1, p.2.kill m))
  | [], K => rfl
  | (i, v) :: σ, K => by
    simp only [killEnvK, List.map_cons]
    split
    · rename_i h
      rw [killEnvK_eq m σ, V.kill_not v (V.has_false h)]
    · rw [V.fK_eq, killEnvK_eq m σ]
def killEnvsK : List Nat → Env → (Env → Prop) → Prop
  | [], σ, K => K σ
  | m :: l, σ, K => killEnvK m σ fun σ' => killEnvsK l σ' K
def frzK (m : Nat) (es : List PV) (v : V) (K : V → Prop) : Prop :=
  match V.has m v with
  | true => FrzV m es v K
  | false => match v with
    | .p d => K (.p d)
    | .ptr a b => K (.ptr a b)
    | .eptr a b c => K (.eptr a b c)
    | .sl a b c => K (.sl a b c)
    | .mapr a => K (.mapr a)
    | .junk => K .junk
    | v => (v.frz m es).fK K
theorem frzK_eq (m : Nat) (es : List PV) (v : V) (K : V → Prop) (h : frzK m es v K) : K (v.frz m es) := by
  unfold frzK at h
  split at h
  · obtain ⟨u, rfl, k⟩ := h; exact k
  · rename_i hn
    have hn := V.has_false hn
    split at h
    · exact h
    · exact h
    · simp only [V.names, List.mem_singleton] at hn; simp only [V.frz]; rw [if_neg (fun e => hn e.symm)]; exact h
    · simp only [V.names, List.mem_singleton] at hn; simp only [V.frz]; rw [if_neg (fun e => hn e.symm)]; exact h
    · exact h
    · exact h
    · rw [V.fK_eq] at h; exact h
def frzEnvK (m : Nat) (es : List PV) : Env → (Env → Prop) → Prop
  | [], K => K []
  | (i, v) :: σ, K => frzK m es v fun u => frzEnvK m es σ fun σ' => K ((i, u) :: σ')
theorem frzEnvK_eq (m : Nat) (es : List PV) : ∀ (σ : Env) (K : Env → Prop), frzEnvK m es σ K → K (σ.map fun p => (p.1, p.2.frz m es))
  | [], K, h => h
  | (i, v) :: σ, K, h => by
    have := frzEnvK_eq m es σ _ (frzK_eq m es v _ h)
    exact this
def frzHeapK (m : Nat) (es : List PV) : Heap → (Heap → Prop) → Prop
  | [], K => K []
  | o :: H, K => match o.names.contains m with
    | false => (o.frz m es).fK fun o' => frzHeapK m es H fun H' => K (o' :: H')
    | true => FrzO m es o fun o' => frzHeapK m es H fun H' => K (o' :: H')
theorem frzHeapK_eq (m : Nat) (es : List PV) : ∀ (H : Heap) (K : Heap → Prop), frzHeapK m es H K → K (H.map (HO.frz m es))
  | [], K, h => h
  | o :: H, K, h => by
    unfold frzHeapK at h
    split at h
    · rw [HO.fK_eq] at h; exact frzHeapK_eq m es H _ h
    · obtain ⟨u, rfl, k⟩ := h; exact frzHeapK_eq m es H _ k
def frzAllK : List Nat → Env → Heap → (Env → Heap → Prop) → Prop
  | [], σ, H, K => K σ H
  | m :: l, σ, H, K => match Heap.at H m with
    | .arr _ _ es => frzEnvK m es σ fun σ' => frzHeapK m es H fun H' => heapK (Heap.put H' m .dead) fun H'' => frzAllK l σ' H'' K
    | _ => frzAllK l σ H K
theorem frz_junk' (n : Nat) (es : List PV) : V.frz n es .junk = .junk := by simp [V.frz]
theorem kill_junk' (n : Nat) : V.kill n .junk = .junk := by simp [V.kill]
theorem frzAllK_eq {n k : Nat} {mv : List Nat} : ∀ (l : List Nat) (σ : Env) (H : Heap) (K : Env → Heap → Prop), Bdd n σ → frzAllK l σ H K →
    ∃ σ' H', Fr.freezeAll ⟨toEnv n σ, H, k, mv⟩ l = ⟨toEnv n σ', H', k, mv⟩ ∧ Bdd n σ' ∧ K σ' H'
  | [], σ, H, K, hb, h => ⟨σ, H, rfl, hb, h⟩
  | m :: l, σ, H, K, hb, h => by
    unfold frzAllK at h
    simp only [Fr.freezeAll, Fr.freeze]
    split at h
    · rename_i t s es hm
      simp only [hm]
      have h1 := frzHeapK_eq _ _ _ _ (frzEnvK_eq _ _ _ _ h)
      rw [heapK_eq] at h1
      obtain ⟨σ', H', h2, h3, h4⟩ := frzAllK_eq (k := k) (mv := mv) l _ _ K (hb.map _ (frz_junk' m es)) h1
      refine ⟨σ', H', ?_, h3, h4⟩
      rw [toEnv_map _ (frz_junk' m es)]
      exact h2
    · rename_i hne
      obtain ⟨σ', H', h2, h3, h4⟩ := frzAllK_eq (k := k) (mv := mv) l _ _ K hb h
      refine ⟨σ', H', ?_, h3, h4⟩
      rw [← h2]
      congr 1
      cases hq : Heap.at H m with
      | arr t s es => exact absurd hq (hne t s es)
      | _ => rfl
def lenH (H : Heap) : Nat := match H with
  | [] => 0
  | [_] => 1
  | [_, _] => 2
  | [_, _, _] => 3
  | [_, _, _, _] => 4
  | [_, _, _, _, _] => 5
  | [_, _, _, _, _, _] => 6
  | [_, _, _, _, _, _, _] => 7
  | [_, _, _, _, _, _, _, _] => 8
  | [_, _, _, _, _, _, _, _, _] => 9
  | [_, _, _, _, _, _, _, _, _, _] => 10
  | [_, _, _, _, _, _, _, _, _, _, _] => 11
  | [_, _, _, _, _, _, _, _, _, _, _, _] => 12
  | [_, _, _, _, _, _, _, _, _, _, _, _, _] => 13
  | [_, _, _, _, _, _, _, _, _, _, _, _, _, _] => 14
  | [_, _, _, _, _, _, _, _, _, _, _, _, _, _, _] => 15
  | [_, _, _, _, _, _, _, _, _, _, _, _, _, _, _, _] => 16
  | H => H.length
theorem lenH_eq (H : Heap) : lenH H = H.length := by
  unfold lenH
  split <;> rfl
def freshS (b : Nat) : Env → Bool
  | [] => true
  | (_, v) :: σ => match V.has b v with
    | true => false
    | false => freshS b σ
def freshH (b : Nat) : Heap → Bool
  | [] => true
  | o :: H => match o.names.contains b with
    | true => false
    | false => freshH b H
theorem freshS_spec {b : Nat} : ∀ {σ : Env}, freshS b σ = true → ∀ t, V.has b (look σ t) = false
  | [], _, t => by simp [look, V.has, V.names]
  | (i, v) :: σ, h, t => by
    unfold freshS at h
    split at h
    · cases h
    · rename_i hv
      rw [look_cons]
      split
      · exact hv
      · exact freshS_spec h t
theorem freshH_spec {b : Nat} : ∀ {H : Heap}, freshH b H = true → (H.any fun o => o.names.contains b) = false
  | [], _ => rfl
  | o :: H, h => by
    unfold freshH at h
    split at h
    · cases h
    · rename_i ho
      rw [List.any_cons, ho, freshH_spec h]; rfl
theorem fresh_of {b n k : Nat} {σ : Env} {H : Heap} {mv : List Nat} (h1 : freshS b σ = true) (h2 : freshH b H = true) : Fr.fresh ⟨toEnv n σ, H, k, mv⟩ b = true := by
  unfold Fr.fresh
  simp only [freshH_spec h2, Bool.not_false, Bool.and_true, Bool.not_eq_true', List.any_eq_false]
  intro v hv
  simp only [toEnv, List.mem_map] at hv
  obtain ⟨t, _, rfl⟩ := hv
  rw [freshS_spec h1 t]
  simp
def effK (k : Nat) (σ : Env) (H : Heap) (mv : List Nat) (e : Eff) (K : Env → Heap → List Nat → Prop) : Prop :=
  match e with
  | .none => K σ H mv
  | .new o => match freshS (lenH H) σ, freshH (lenH H) H, Nat.ble k (lenH H) with
    | true, true, true => o.fK fun o' => heapK (H.put (lenH H) o') fun H' => K σ H' mv
    | _, _, _ => False
  | .upd m o => o.fK fun o' => heapK (H.put m o') fun H' => K σ H' mv
  | .repoint m o => killEnvK m σ fun σ' => heapK ((H.kill m).put m o) fun H' => spineK (addMv k mv m) fun mv' => K σ' H' mv'
theorem effK_eq {n k : Nat} {σ : Env} {H : Heap} {mv : List Nat} {e : Eff} {K : Env → Heap → List Nat → Prop} (hb : Bdd n σ) (h : effK k σ H mv e K) :
    ∃ σ' H' mv', Fr.eff ⟨toEnv n σ, H, k, mv⟩ H.length e = some ⟨toEnv n σ', H', k, mv'⟩ ∧ Bdd n σ' ∧ K σ' H' mv' := by
  cases e with
  | none => exact ⟨σ, H, mv, rfl, hb, h⟩
  | new o =>
    simp only [effK] at h
    split at h
    · rename_i h1 h2 h3
      rw [HO.fK_eq, heapK_eq] at h
      rw [lenH_eq] at h h1 h2 h3
      refine ⟨σ, _, mv, ?_, hb, h⟩
      simp only [Fr.eff]
      rw [if_pos ⟨fresh_of h1 h2, Nat.le_of_ble_eq_true h3⟩]
    · exact h.elim
  | upd m o =>
    simp only [effK] at h
    rw [HO.fK_eq, heapK_eq] at h
    exact ⟨σ, _, mv, rfl, hb, h⟩
  | repoint m o =>
    simp only [effK] at h
    rw [killEnvK_eq, heapK_eq, spineK_eq] at h
    refine ⟨_, _, _, ?_, hb.map _ (kill_junk' m), h⟩
    simp only [Fr.eff]
    rw [toEnv_map _ (kill_junk' m)]
def putK (n : Nat) (σ : Env) (dst : Option Tmp) (v : V) (K : Env → Prop) : Prop :=
  match dst with
  | none => K σ
  | some d => match Nat.ble n d with
    | false => v.fK fun u => K ((d, u) :: σ)
    | true => False
theorem putK_eq {n : Nat} {σ : Env} {dst : Option Tmp} {v : V} {K : Env → Prop} (hb : Bdd n σ) (h : putK n σ dst v K) : ∃ σ', putO (toEnv n σ) dst v = toEnv n σ' ∧ Bdd n σ' ∧ K σ' := by
  cases dst with
  | none => exact ⟨σ, rfl, hb, h⟩
  | some d =>
    simp only [putK] at h
    split at h
    · rename_i hd
      have hd : d < n := by
        rcases Nat.lt_or_ge d n with h1 | h1
        · exact h1
        · rw [Nat.ble_eq_true_of_le h1] at hd; cases hd
      rw [V.fK_eq] at h
      exact ⟨_, toEnv_set v, hb.cons hd v, h⟩
    · exact h.elim
@[reducible] def InR : IntKind → Int → Prop
  | .i8, n => -128 ≤ n ∧ n ≤ 127
  | .i16, n => -32768 ≤ n ∧ n ≤ 32767
  | .i32, n => -2147483648 ≤ n ∧ n ≤ 2147483647
  | .i64, n => -9223372036854775808 ≤ n ∧ n ≤ 9223372036854775807
  | .u8, n => 0 ≤ n ∧ n ≤ 255
  | .u16, n => 0 ≤ n ∧ n ≤ 65535
  | .u32, n => 0 ≤ n ∧ n ≤ 4294967295
  | .u64, n => 0 ≤ n ∧ n ≤ 18446744073709551615
theorem InR.wrap {k : IntKind} {n : Int} (h : InR k n) : k.wrap n = n := by
  cases k
  · exact IntWalk.i8_in n h
  · exact IntWalk.i16_in n h
  · exact IntWalk.i32_in n h
  · exact IntWalk.i64_in n h
  · exact IntWalk.u8_in n h
  · exact IntWalk.u16_in n h
  · exact IntWalk.u32_in n h
  · exact IntWalk.u64_in n h
def iand (k : IntKind) (a b : Int) : Int := k.wrap (BitVec.ofInt k.bits a &&& BitVec.ofInt k.bits b).toNat
def ior (k : IntKind) (a b : Int) : Int := k.wrap (BitVec.ofInt k.bits a ||| BitVec.ofInt k.bits b).toNat
def ixor (k : IntKind) (a b : Int) : Int := k.wrap (BitVec.ofInt k.bits a ^^^ BitVec.ofInt k.bits b).toNat
def iandn (k : IntKind) (a b : Int) : Int := k.wrap (BitVec.ofInt k.bits a &&& ~~~ BitVec.ofInt k.bits b).toNat
def sameK : IntKind → IntKind → Bool
  | .i8, .i8 | .i16, .i16 | .i32, .i32 | .i64, .i64 | .u8, .u8 | .u16, .u16 | .u32, .u32 | .u64, .u64 => true
  | _, _ => false
theorem sameK_eq {a b : IntKind} (h : sameK a b = true) : a = b := by cases a <;> cases b <;> simp_all [sameK]
def fitsK : IntKind → IntKind → Bool
  | .i8, .i8 | .i8, .i16 | .i8, .i32 | .i8, .i64 | .i16, .i16 | .i16, .i32 | .i16, .i64 | .i32, .i32 | .i32, .i64 | .i64, .i64 => true
  | .u8, .u8 | .u8, .u16 | .u8, .u32 | .u8, .u64 | .u16, .u16 | .u16, .u32 | .u16, .u64 | .u32, .u32 | .u32, .u64 | .u64, .u64 => true
  | .u8, .i16 | .u8, .i32 | .u8, .i64 | .u16, .i32 | .u16, .i64 | .u32, .i64 => true
  | _, _ => false
inductive WrapW (c A B : Prop) : Prop
  | mk (h : c) (q : A)
  | other (q : B)
def intW (o : BinOp) (k k' : IntKind) (a b : Int) (K : PV → Prop) : Prop :=
  match o with
  | .shl => Side (0 ≤ b ∧ b.toNat ≤ k.bits ∧ InR k (a * 2 ^ b.toNat)) (K (.int k (a * 2 ^ b.toNat)))
  | .shr => Side (0 ≤ b ∧ b.toNat ≤ k.bits) (K (.int k (a / 2 ^ b.toNat)))
  | o => match sameK k k' with
    | false => False
    | true => match o with
      | .add => WrapW (InR k (a + b)) (K (.int k (a + b))) (K (.int k (k.wrap (a + b))))
      | .sub => WrapW (InR k (a - b)) (K (.int k (a - b))) (K (.int k (k.wrap (a - b))))
      | .mul => WrapW (InR k (a * b)) (K (.int k (a * b))) (K (.int k (k.wrap (a * b))))
      | .quo => Side (b ≠ 0 ∧ InR k (a.tdiv b)) (K (.int k (a.tdiv b)))
      | .rem => Side (b ≠ 0) (K (.int k (a.tmod b)))
      | .and => K (.int k (iand k a b))
      | .or => K (.int k (ior k a b))
      | .xor => K (.int k (ixor k a b))
      | .andNot => K (.int k (iandn k a b))
      | .eql => K (.bool (decide (a = b)))
      | .neq => K (.bool (!decide (a = b)))
      | .lss => K (.bool (decide (a < b)))
      | .leq => K (.bool (decide (a ≤ b)))
      | .gtr => K (.bool (decide (b < a)))
      | .geq => K (.bool (decide (b ≤ a)))
      | _ => False
theorem fdiv_pow (a : Int) (m : Nat) : a.fdiv (2 ^ m) = a / 2 ^ m := Int.fdiv_eq_ediv_of_nonneg _ (Int.le_of_lt (Int.pow_pos (by decide)))
theorem intW_spec {P : Program} {o : BinOp} {t : TypeId} {k k' : IntKind} {a b : Int} {K : PV → Prop} (h : intW o k k' a b K) : ∃ d, binA P o t (.p (.int k a)) (.p (.int k' b)) = some d ∧ K d := by
  unfold intW at h
  split at h
  · obtain ⟨⟨h0, h1, h2⟩, hk⟩ := h
    refine ⟨_, ?_, hk⟩
    simp only [binA, shiftOp]
    rw [if_neg (by omega), Nat.min_eq_left h1, h2.wrap]
  · obtain ⟨⟨h0, h1⟩, hk⟩ := h
    refine ⟨_, ?_, hk⟩
    simp only [binA, shiftOp]
    rw [if_neg (by omega), Nat.min_eq_left h1, fdiv_pow]
  · rename_i hs1 hs2
    split at h
    · exact h.elim
    rename_i hk
    obtain rfl := sameK_eq hk
    have e : ∀ {d : PV}, intOp o k a b = some d → binA P o t (.p (.int k a)) (.p (.int k b)) = some d := by
      intro d hd
      unfold binA
      simp only []
      rw [if_pos trivial]
      exact hd
    split at h
    · rcases h with ⟨h1, hk⟩ | hk
      · exact ⟨_, e (by simp only [intOp, h1.wrap]), hk⟩
      · exact ⟨_, e (by simp only [intOp]), hk⟩
    · rcases h with ⟨h1, hk⟩ | hk
      · exact ⟨_, e (by simp only [intOp, h1.wrap]), hk⟩
      · exact ⟨_, e (by simp only [intOp]), hk⟩
    · rcases h with ⟨h1, hk⟩ | hk
      · exact ⟨_, e (by simp only [intOp, h1.wrap]), hk⟩
      · exact ⟨_, e (by simp only [intOp]), hk⟩
    · obtain ⟨⟨h0, h1⟩, hk⟩ := h; exact ⟨_, e (by simp only [intOp, if_neg h0, h1.wrap]), hk⟩
    · obtain ⟨h0, hk⟩ := h; exact ⟨_, e (by simp only [intOp, if_neg h0]), hk⟩
    all_goals first | exact ⟨_, e rfl, h⟩ | exact h.elim
def strW (o : BinOp) (a b : List UInt8) (K : PV → Prop) : Prop :=
  match o with
  | .add => Side (a.length + b.length ≤ 9223372036854775807) (K (.str (a ++ b)))
  | .eql => K (.bool (decide (a = b)))
  | .neq => K (.bool (!decide (a = b)))
  | .lss => K (.bool (Op.bytesLess a b))
  | .leq => K (.bool (Op.bytesLess a b || decide (a = b)))
  | .gtr => K (.bool (!(Op.bytesLess a b || decide (a = b))))
  | .geq => K (.bool (!(Op.bytesLess a b)))
  | _ => False
theorem beq_str (a b : List UInt8) : (a == b) = decide (a = b) := by
  by_cases h : a = b
  · subst h; simp
  · simp [h]
theorem strW_spec {P : Program} {o : BinOp} {t : TypeId} {a b : List UInt8} {K : PV → Prop} (h : strW o a b K) : ∃ d, binA P o t (.p (.str a)) (.p (.str b)) = some d ∧ K d := by
  unfold strW at h
  split at h
  · obtain ⟨h1, hk⟩ := h
    exact ⟨_, by simp only [binA, strOp]; rw [if_pos (show a.length + b.length ≤ maxInt from h1)], hk⟩
  all_goals first | exact h.elim | exact ⟨_, by simp only [binA, strOp, beq_str], h⟩
inductive Src (off len : Nat) (es : List PV) (K : List PV → Prop) : Prop
  | whole (h : off = 0 ∧ len = es.length) (k : K es)
  | part (h : off + len ≤ es.length) (k : K ((es.drop off).take len))
def elemsK (H : Nat → HO) (x : V) (K : List PV → Prop) : Prop :=
  match x with
  | .p (.lst _ l) => K l
  | .p .nils => K []
  | .sl n off len => match H n with
    | .arr _ _ es => Src off len es K
    | _ => False
  | _ => False
theorem elemsK_spec {H : Nat → HO} {x : V} {K : List PV → Prop} (h : elemsK H x K) : ∃ l, elems H x = some l ∧ K l := by
  unfold elemsK at h
  split at h
  · exact ⟨_, rfl, h⟩
  · exact ⟨_, rfl, h⟩
  · rename_i n off len
    split at h
    · rename_i t s es hn
      cases h with
      | whole hc k =>
        obtain ⟨rfl, rfl⟩ := hc
        exact ⟨es, by simp [elems, hn], k⟩
      | part hc k => exact ⟨_, by simp [elems, hn, hc], k⟩
    · exact h.elim
  · exact h.elim
def srcK (P : Program) (H : Nat → HO) (tx : TypeId) (x : V) (K : List PV → Prop) : Prop :=
  match P.underlying tx with
  | some (.slice _) => elemsK H x K
  | some .string => match x with
    | .p (.str s) => K (s.map byteP)
    | _ => False
  | _ => False
theorem srcK_spec {P : Program} {H : Nat → HO} {tx : TypeId} {x : V} {K : List PV → Prop} (h : srcK P H tx x K) : ∃ l, srcA P H tx x = some l ∧ K l := by
  unfold srcK at h
  split at h
  · rename_i e hu
    obtain ⟨l, h1, h2⟩ := elemsK_spec h
    exact ⟨l, by simp [srcA, hu, h1], h2⟩
  · rename_i hu
    split at h
    · exact ⟨_, by simp [srcA, hu], h⟩
    · exact h.elim
  · exact h.elim
inductive ElemZ (l : List PV) (i sz : Nat) (K : PV → Prop) : Prop
  | mk (d : PV) (h : l[i]? = some d) (hz : d.cells.length = sz) (k : K d)
def appW (P : Program) (H : Nat → HO) (base : Nat) (t tx : TypeId) (s x : V) (K : Res → Prop) : Prop :=
  match P.underlying t with
  | some (.slice e) => match szT P e, byT P e, zeroT P e with
    | some sz, some by_, some z => match Nat.ble 1 sz && Nat.ble 1 by_ && Nat.beq z.cells.length sz with
      | true => litK sz fun sz => litK by_ fun by_ => srcK P H tx x fun news => match s with
        | .p .nils => Br news.isEmpty (K ⟨.p (.lst true []), .none⟩)
            (Side ((∀ y ∈ news, y.cells.length = sz) ∧ news.length * (2 * by_) ≤ 281474976710656) (K ⟨.sl base 0 news.length, .new (.arr e sz news)⟩))
        | .p (.lst true l) => Br news.isEmpty (K ⟨.p (.lst true l), .none⟩)
            (Side ((∀ y ∈ news, y.cells.length = sz) ∧ (l.length + news.length) * (2 * by_) ≤ 281474976710656 ∧ ∀ y ∈ l, y.cells.length = sz) (K ⟨.sl base 0 (l ++ news).length, .new (.arr e sz (l ++ news))⟩))
        | .sl n 0 len => match H n with
          | .arr ty sz' es => match Nat.beq ty e && Nat.beq sz' sz with
            | true => Side ((∀ y ∈ news, y.cells.length = sz) ∧ len = es.length ∧ (len + news.length) * (2 * by_) ≤ 281474976710656) (K ⟨.sl n 0 (es ++ news).length, .repoint n (.arr e sz (es ++ news))⟩)
            | false => False
          | _ => False
        | _ => False
      | false => False
    | _, _, _ => False
  | _ => False
theorem aopA_of {P : Program} {H : Nat → HO} {base : Nat} {ev : Operand → V} {op : Op} {r : Res} (h : aop P H base ev op = some r) : aopA P H base ev op = some r := by
  unfold aopA; rw [h]
theorem appW_spec {P : Program} {H : Nat → HO} {base : Nat} {ev : Operand → V} {t tx : TypeId} {s x : Operand} {args : Array Operand} {ts : Array TypeId} {K : Res → Prop} (ha : args.toList = [s, x]) (ht : ts.toList = [t, tx]) (h : appW P H base t tx (ev s) (ev x) K) :
    ∃ r, aopA P H base ev (.call ⟨.builtin .append, args, ts⟩) = some r ∧ K r := by
  unfold appW at h
  split at h
  case h_2 => exact h.elim
  rename_i e hu
  split at h
  case h_2 => exact h.elim
  rename_i sz by_ z hsz hby hz
  split at h
  case h_2 => exact h.elim
  rename_i hc
  simp only [Bool.and_eq_true] at hc
  obtain ⟨⟨h1, h2⟩, h3⟩ := hc
  have h1 := Nat.le_of_ble_eq_true h1
  have h2 := Nat.le_of_ble_eq_true h2
  have h3 := Nat.eq_of_beq_eq_true h3
  simp only [litK_eq] at h
  obtain ⟨news, hn, h⟩ := srcK_spec h
  have app : ∀ {r : Res}, appendA P H base t tx (ev s) (ev x) = some r → aopA P H base ev (.call ⟨.builtin .append, args, ts⟩) = some r := by
    intro r hr
    exact aopA_of (by simp only [aop, ha, ht]; exact hr)
  have nothing : ∀ {ex : Bool} {l : List PV}, (ev s).nn = .p (.lst ex l) → news = [] → (appendA P H base t tx (ev s) (ev x) = none) → aopA P H base ev (.call ⟨.builtin .append, args, ts⟩) = some ⟨.p (.lst ex l), .none⟩ := by
    intro ex l hs hne hap
    subst hne
    unfold aopA
    have e1 : aop P H base ev (.call ⟨.builtin .append, args, ts⟩) = none := by simp only [aop, ha, ht]; exact hap
    rw [e1]
    simp only [aopX, ha, ht, sliceT, hu, hs, hn, hsz, Option.getD_some, if_pos h1]
  split at h
  · rename_i hs
    have hnn : (ev s).nn = .p (.lst true []) := by rw [hs]; rfl
    cases hb : news.isEmpty with
    | true =>
      have hk := h.t hb
      have hne : news = [] := List.isEmpty_iff.1 hb
      refine ⟨_, nothing hnn hne ?_, hk⟩
      simp only [appendA, hu, hsz, hby, hz, hn, hnn]
      split
      · rw [if_neg (by simp [hne])]
      · rfl
    | false =>
      obtain ⟨⟨hc1, hc2⟩, hk⟩ := h.f hb
      have hne : news ≠ [] := by intro e; subst e; cases hb
      refine ⟨_, app ?_, hk⟩
      simp only [appendA, hu, hsz, hby, hz, hn, hnn]
      rw [if_pos ⟨h1, h2, h3, hc1⟩, if_pos ⟨by simpa [maxBytes] using hc2, hne, by simp⟩]
      simp
  · rename_i l hs
    have hnn : (ev s).nn = .p (.lst true l) := by rw [hs]; rfl
    cases hb : news.isEmpty with
    | true =>
      have hk := h.t hb
      have hne : news = [] := List.isEmpty_iff.1 hb
      refine ⟨_, nothing hnn hne ?_, hk⟩
      simp only [appendA, hu, hsz, hby, hz, hn, hnn]
      split
      · rw [if_neg (by simp [hne])]
      · rfl
    | false =>
      obtain ⟨⟨hc1, hc2, hc3⟩, hk⟩ := h.f hb
      have hne : news ≠ [] := by intro e; subst e; cases hb
      refine ⟨_, app ?_, hk⟩
      simp only [appendA, hu, hsz, hby, hz, hn, hnn]
      rw [if_pos ⟨h1, h2, h3, hc1⟩, if_pos ⟨by simpa [maxBytes] using hc2, hne, hc3⟩]
      simp
  · rename_i n len hs
    have hnn : (ev s).nn = .sl n 0 len := by rw [hs]; rfl
    split at h
    case h_2 => exact h.elim
    rename_i ty sz' es hH
    split at h
    case h_2 => exact h.elim
    rename_i hc
    simp only [Bool.and_eq_true] at hc
    have e1 := Nat.eq_of_beq_eq_true hc.1
    have e2 := Nat.eq_of_beq_eq_true hc.2
    obtain ⟨⟨hc1, hc2, hc3⟩, hk⟩ := h
    refine ⟨_, app ?_, hk⟩
    simp only [appendA, hu, hsz, hby, hz, hn, hnn, hH]
    rw [if_pos ⟨h1, h2, h3, hc1⟩, if_pos ⟨e1, e2, hc2, by simpa [maxBytes] using hc3⟩]
    simp [hc2]
  · exact h.elim
end Go.Am
end

section
namespace Go.Am
open Go
section
variable {P : Program} {H : Nat → HO} {base : Nat} {ev : Operand → V}
def strT (P : Program) (t : TypeId) : Bool := match P.underlying t with | some .string => true | _ => false
theorem strT_eq {t : TypeId} (h : strT P t = true) : P.underlying t = some .string := by
  unfold strT at h; split at h
  · assumption
  · cases h
def sliT (P : Program) (t : TypeId) : Option TypeId := match P.underlying t with | some (.slice e) => some e | _ => none
theorem sliT_eq {t e : TypeId} (h : sliT P t = some e) : P.underlying t = some (.slice e) := by
  unfold sliT at h; split at h
  · cases h; assumption
  · cases h
def intT (P : Program) (t : TypeId) : Option IntKind := match P.underlying t with | some (.int k) => some k | _ => none
theorem intT_eq {t : TypeId} {k : IntKind} (h : intT P t = some k) : P.underlying t = some (.int k) := by
  unfold intT at h; split at h
  · cases h; assumption
  · cases h
def rawW (P : Program) (H : Nat → HO) (base : Nat) (ev : Operand → V) (op : Op) (K : Res → Prop) : Prop :=
  match aopA P H base ev op with
  | some r => K r
  | none => False
theorem rawW_spec {op : Op} {K : Res → Prop} (h : rawW P H base ev op K) : ∃ r, aopA P H base ev op = some r ∧ K r := by
  unfold rawW at h
  split at h
  · exact ⟨_, by assumption, h⟩
  · exact h.elim
def ixW (P : Program) (t : TypeId) (s : List UInt8) (n : Int) (K : Res → Prop) : Prop :=
  match strT P t with
  | true => Side (0 ≤ n ∧ n < s.length) (K ⟨.p (byteP (s.getD n.toNat 0)), .none⟩)
  | false => False
theorem ixW_spec {t : TypeId} {x i : Operand} {s : List UInt8} {k : IntKind} {n : Int} {K : Res → Prop} (hx : ev x = .p (.str s)) (hi : ev i = .p (.int k n)) (h : ixW P t s n K) :
    ∃ r, aopA P H base ev (.index t x i) = some r ∧ K r := by
  unfold ixW at h
  split at h
  · rename_i ht
    obtain ⟨⟨h0, h1⟩, hk⟩ := h
    have hlt : n.toNat < s.length := by omega
    refine ⟨_, aopA_of ?_, hk⟩
    simp only [aop, indexA, hx, hi, idxI, if_pos h0, strT_eq ht, List.getElem?_eq_getElem hlt, Option.map_some, Option.bind_some, pureR, List.getD]
    rfl
  · exact h.elim
def ixaLW (P : Program) (t : TypeId) (l : List PV) (n : Int) (K : Res → Prop) : Prop :=
  match sliT P t with
  | some e => match szT P e with
    | some sz => litK sz fun sz => Side (0 ≤ n) (ElemZ l n.toNat sz fun d => K ⟨.p (.cptr d), .none⟩)
    | none => False
  | none => False
theorem ixaLW_spec {t : TypeId} {x i : Operand} {ex : Bool} {l : List PV} {k : IntKind} {n : Int} {K : Res → Prop} (hx : ev x = .p (.lst ex l)) (hi : ev i = .p (.int k n)) (h : ixaLW P t l n K) :
    ∃ r, aopA P H base ev (.indexAddr t x i) = some r ∧ K r := by
  unfold ixaLW at h
  split at h
  case h_2 => exact h.elim
  rename_i e ht
  split at h
  case h_2 => exact h.elim
  rename_i sz hsz
  rw [litK_eq] at h
  obtain ⟨h0, d, hd, hz, hk⟩ := h
  refine ⟨_, aopA_of ?_, hk⟩
  simp only [aop, indexAddrA, hx, hi, idxI, sliT_eq ht, if_pos h0, hd, hsz, if_pos hz, Option.bind_some, pureR]
def plus0 (off : Nat) (m : Nat) : Nat := match off with
  | 0 => m
  | o => o + m
theorem plus0_eq (off m : Nat) : plus0 off m = off + m := by unfold plus0; split <;> omega
def ixaSW (P : Program) (H : Nat → HO) (t : TypeId) (m off len : Nat) (n : Int) (K : Res → Prop) : Prop :=
  match sliT P t with
  | some e => match szT P e, H m with
    | some sz, .arr _ sz' _ => match Nat.beq sz sz' with
      | true => Side (0 ≤ n ∧ n < len) (K ⟨.eptr m (plus0 off n.toNat) 0, .none⟩)
      | false => False
    | _, _ => False
  | none => False
theorem ixaSW_spec {t : TypeId} {x i : Operand} {m off len : Nat} {k : IntKind} {n : Int} {K : Res → Prop} (hx : ev x = .sl m off len) (hi : ev i = .p (.int k n)) (h : ixaSW P H t m off len n K) :
    ∃ r, aopA P H base ev (.indexAddr t x i) = some r ∧ K r := by
  unfold ixaSW at h
  split at h
  case h_2 => exact h.elim
  rename_i e ht
  split at h
  case h_2 => exact h.elim
  rename_i sz ty sz' es hsz hm
  split at h
  case h_2 => exact h.elim
  rename_i hb
  have hb := Nat.eq_of_beq_eq_true hb
  obtain ⟨h0, hk⟩ := h
  refine ⟨_, aopA_of ?_, hk⟩
  simp only [aop, indexAddrA, hx, hi, idxI, sliT_eq ht, if_pos h0, hm, hsz, hb, if_true, Option.bind_some, pureR, plus0_eq]
def wholeW (P : Program) (t : TypeId) (d : PV) (K : Res → Prop) : Prop :=
  match isRowT P t, szT P t with
  | some agg, some n => litK n fun n => Side (n = d.cells.length ∧ agg = d.isAgg) (K ⟨.p d, .none⟩)
  | _, _ => False
theorem sub_whole {d : PV} {n : Nat} {agg : Bool} (h1 : n = d.cells.length) (h2 : agg = d.isAgg) : d.sub 0 n agg = some d := by
  unfold PV.sub
  rw [if_pos ⟨rfl, h1, h2⟩]
theorem loadC_spec {t : TypeId} {a : Operand} {d : PV} {K : Res → Prop} (ha : ev a = .p (.cptr d)) (h : wholeW P t d K) : ∃ r, aopA P H base ev (.load t a) = some r ∧ K r := by
  unfold wholeW at h
  split at h
  case h_2 => exact h.elim
  rename_i agg n h1 h2
  rw [litK_eq] at h
  obtain ⟨⟨h3, h4⟩, hk⟩ := h
  refine ⟨_, aopA_of ?_, hk⟩
  simp only [aop, loadA, h1, h2, ha, sub_whole h3 h4, Option.map_some, Option.bind_some, pureR]
inductive ElemA (es : List PV) (i : Nat) (K : PV → Prop) : Prop
  | mk (d : PV) (h : es[i]? = some d) (k : K d)
def loadEW (P : Program) (H : Nat → HO) (t : TypeId) (m i off : Nat) (K : Res → Prop) : Prop :=
  match H m with
  | .arr _ sz es => match isRowT P t, szT P t with
    | some agg, some n => match Nat.beq off 0 && Nat.beq n sz with
      | true => litK n fun n => ElemA es i fun d => Side (n = d.cells.length ∧ agg = d.isAgg) (K ⟨.p d, .none⟩)
      | false => ElemA es i fun d => match d.sub off n agg with
        | some x => K ⟨.p x, .none⟩
        | none => False
    | _, _ => False
  | _ => False
theorem loadEW_spec {t : TypeId} {a : Operand} {m i off : Nat} {K : Res → Prop} (ha : ev a = .eptr m i off) (h : loadEW P H t m i off K) : ∃ r, aopA P H base ev (.load t a) = some r ∧ K r := by
  unfold loadEW at h
  split at h
  case h_2 => exact h.elim
  rename_i ty sz es hm
  split at h
  case h_2 => exact h.elim
  rename_i agg n h1 h2
  split at h
  · rename_i hc
    simp only [Bool.and_eq_true] at hc
    have e1 := Nat.eq_of_beq_eq_true hc.1
    subst e1
    rw [litK_eq] at h
    obtain ⟨d, hd, ⟨h3, h4⟩, hk⟩ := h
    refine ⟨_, aopA_of ?_, hk⟩
    simp only [aop, loadA, h1, h2, ha, hm, hd, sub_whole h3 h4, Option.map_some, Option.bind_some, pureR]
  · obtain ⟨d, hd, hk⟩ := h
    split at hk
    · rename_i x hx
      refine ⟨_, aopA_of ?_, hk⟩
      simp only [aop, loadA, h1, h2, ha, hm, hd, hx, Option.map_some, Option.bind_some, pureR]
    · exact hk.elim
def storeEW (P : Program) (H : Nat → HO) (t : TypeId) (m i off : Nat) (x : PV) (K : Res → Prop) : Prop :=
  match H m with
  | .arr ty sz es => match szT P t with
    | some n => match Nat.beq off 0 && Nat.beq n sz with
      | true => litK n fun n => ElemA es i fun y => Side (x.cells.length = n ∧ (V.p x).storable = true ∧ x.cells.length = y.cells.length ∧ x.isAgg = y.isAgg) (K ⟨.p (.tup []), .upd m (.arr ty sz (es.set i x))⟩)
      | false => ElemA es i fun y => Side (x.cells.length = n ∧ (V.p x).storable = true) (match y.put off x with
        | some y' => K ⟨.p (.tup []), .upd m (.arr ty sz (es.set i y'))⟩
        | none => False)
    | none => False
  | _ => False
theorem storeEW_spec {t : TypeId} {a v : Operand} {m i off : Nat} {x : PV} {K : Res → Prop} (ha : ev a = .eptr m i off) (hv : ev v = .p x) (h : storeEW P H t m i off x K) : ∃ r, aopA P H base ev (.store t a v) = some r ∧ K r := by
  unfold storeEW at h
  split at h
  case h_2 => exact h.elim
  rename_i ty sz es hm
  split at h
  case h_2 => exact h.elim
  rename_i n h2
  have hcl : (V.p x).cells.length = x.cells.length := by rw [V.cells_p]; simp
  split at h
  · rename_i hc
    simp only [Bool.and_eq_true] at hc
    have e1 := Nat.eq_of_beq_eq_true hc.1
    subst e1
    rw [litK_eq] at h
    obtain ⟨y, hy, ⟨h3, h4, h5, h6⟩, hk⟩ := h
    refine ⟨_, aopA_of ?_, hk⟩
    have hput : y.put 0 x = some x := by unfold PV.put; rw [if_pos ⟨rfl, h5, h6⟩]
    simp only [aop, storeA, h2, ha, hv, hm, hy, hcl]
    rw [if_pos ⟨h3, h4⟩]
    simp only [hput, Option.map_some]
  · obtain ⟨y, hy, ⟨h3, h4⟩, hk⟩ := h
    split at hk
    · rename_i y' hput
      refine ⟨_, aopA_of ?_, hk⟩
      simp only [aop, storeA, h2, ha, hv, hm, hy, hcl]
      rw [if_pos ⟨h3, h4⟩]
      simp only [hput, Option.map_some]
    · exact hk.elim
def sliceStrW (s : List UInt8) (lo hi : Option V) (K : Res → Prop) : Prop :=
  match lo, hi with
  | none, none => K ⟨.p (.str s), .none⟩
  | some (.p (.int _ a)), none => Side (0 ≤ a ∧ a ≤ s.length) (K ⟨.p (.str (s.drop a.toNat)), .none⟩)
  | none, some (.p (.int _ b)) => Side (0 ≤ b ∧ b ≤ s.length) (K ⟨.p (.str (s.take b.toNat)), .none⟩)
  | some (.p (.int _ a)), some (.p (.int _ b)) => Side (0 ≤ a ∧ a ≤ b ∧ b ≤ s.length) (K ⟨.p (.str ((s.drop a.toNat).take (b.toNat - a.toNat))), .none⟩)
  | _, _ => False
theorem bounds_of {len cap : Nat} {lo hi : Option V} {a b : Int} (h1 : (match hi with | some v => idxI v | none => some (len : Int)) = some b) (h2 : (match lo with | some v => idxI v | none => some 0) = some a)
    (hc : 0 ≤ a ∧ a ≤ b ∧ b ≤ cap) : boundsA len cap lo hi = some (a.toNat, b.toNat) := by
  unfold boundsA
  cases hi <;> cases lo <;> simp_all <;> omega
theorem sliceStrW_spec {t : TypeId} {x : Operand} {lo hi : Option Operand} {s : List UInt8} {K : Res → Prop} (ht : strT P t = true) (hx : ev x = .p (.str s)) (h : sliceStrW s (lo.map ev) (hi.map ev) K) :
    ∃ r, aopA P H base ev (.slice t x lo hi none) = some r ∧ K r := by
  have key : ∀ {a b : Int} {s' : List UInt8}, boundsA s.length s.length (lo.map ev) (hi.map ev) = some (a.toNat, b.toNat) → s' = (s.drop a.toNat).take (b.toNat - a.toNat) → K ⟨.p (.str s'), .none⟩ → ∃ r, aopA P H base ev (.slice t x lo hi none) = some r ∧ K r := by
    intro a b s' hb hs hk
    subst hs
    refine ⟨_, aopA_of ?_, hk⟩
    simp only [aop, sliceA, hx, V.nn, strT_eq ht, Option.map_none, hb, Option.map_some, Option.bind_some, pureR]
  unfold sliceStrW at h
  split at h
  · rename_i h1 h2
    exact key (a := 0) (b := s.length) (bounds_of (by rw [h2]) (by rw [h1]) (by omega)) (by simp) h
  · rename_i k a h1 h2
    obtain ⟨hc, hk⟩ := h
    exact key (a := a) (b := s.length) (bounds_of (by rw [h2]) (by rw [h1]; rfl) (by omega)) (by simp [List.take_of_length_le]) hk
  · rename_i k b h1 h2
    obtain ⟨hc, hk⟩ := h
    exact key (a := 0) (b := b) (bounds_of (by rw [h2]; rfl) (by rw [h1]) (by omega)) (by simp) hk
  · rename_i k a k' b h1 h2
    obtain ⟨hc, hk⟩ := h
    exact key (a := a) (b := b) (bounds_of (by rw [h2]; rfl) (by rw [h1]; rfl) hc) rfl hk
  · exact h.elim
def sliceLstW (n : Nat) (ex : Bool) (xs : List PV) (lo hi : Option V) (K : Res → Prop) : Prop :=
  match lo, hi with
  | some (.p (.int _ a)), none => Side ((∀ x ∈ xs, x.cells.length = n) ∧ 0 ≤ a ∧ a ≤ xs.length) (K ⟨.p (.lst ex (xs.drop a.toNat)), .none⟩)
  | none, some (.p (.int _ b)) => Side ((∀ x ∈ xs, x.cells.length = n) ∧ ex = false ∧ 0 ≤ b ∧ b ≤ xs.length) (K ⟨.p (.lst false (xs.take b.toNat)), .none⟩)
  | some (.p (.int _ a)), some (.p (.int _ b)) => Side ((∀ x ∈ xs, x.cells.length = n) ∧ ex = false ∧ 0 ≤ a ∧ a ≤ b ∧ b ≤ xs.length) (K ⟨.p (.lst false ((xs.drop a.toNat).take (b.toNat - a.toNat))), .none⟩)
  | _, _ => False
theorem sliceLstW_spec {t e : TypeId} {x : Operand} {lo hi : Option Operand} {n : Nat} {ex : Bool} {xs : List PV} {K : Res → Prop} (ht : sliT P t = some e) (hn : szT P e = some n) (hx : ev x = .p (.lst ex xs)) (h : sliceLstW n ex xs (lo.map ev) (hi.map ev) K) :
    ∃ r, aopA P H base ev (.slice t x lo hi none) = some r ∧ K r := by
  have key : ∀ {a b : Int} {ex' : Bool} {l : List PV}, (∀ x ∈ xs, x.cells.length = n) → boundsA xs.length xs.length (lo.map ev) (hi.map ev) = some (a.toNat, b.toNat) → ex' = (ex && b.toNat == xs.length) → l = (xs.drop a.toNat).take (b.toNat - a.toNat) →
      K ⟨.p (.lst ex' l), .none⟩ → ∃ r, aopA P H base ev (.slice t x lo hi none) = some r ∧ K r := by
    intro a b ex' l ha hb he hl hk
    subst hl; subst he
    refine ⟨_, aopA_of ?_, hk⟩
    simp only [aop, sliceA, hx, V.nn, sliT_eq ht, hn, Option.map_none]
    rw [if_pos ha]
    simp only [hb, Option.map_some, Option.bind_some, pureR]
  unfold sliceLstW at h
  split at h
  · rename_i k a h1 h2
    obtain ⟨hc, hk⟩ := h
    exact key (a := a) (b := xs.length) hc.1 (bounds_of (by rw [h2]) (by rw [h1]; rfl) (by omega)) (by simp) (by simp [List.take_of_length_le]) hk
  · rename_i k b h1 h2
    obtain ⟨⟨hc, he, h3⟩, hk⟩ := h
    subst he
    exact key (a := 0) (b := b) hc (bounds_of (by rw [h2]; rfl) (by rw [h1]) (by omega)) (by simp) (by simp) hk
  · rename_i k a k' b h1 h2
    obtain ⟨⟨hc, he, h3⟩, hk⟩ := h
    subst he
    exact key (a := a) (b := b) hc (bounds_of (by rw [h2]; rfl) (by rw [h1]; rfl) h3) (by simp) rfl hk
  · exact h.elim
def sliceMaxW (n : Nat) (xs : List PV) (lo : Option V) (hi mx : V) (K : Res → Prop) : Prop :=
  match lo, hi, mx with
  | none, .p (.int _ b), .p (.int _ m) => Side ((∀ x ∈ xs, x.cells.length = n) ∧ 0 ≤ b ∧ b ≤ xs.length ∧ m = b) (K ⟨.p (.lst true (xs.take b.toNat)), .none⟩)
  | some (.p (.int _ a)), .p (.int _ b), .p (.int _ m) => Side ((∀ x ∈ xs, x.cells.length = n) ∧ 0 ≤ a ∧ a ≤ b ∧ b ≤ xs.length ∧ m = b) (K ⟨.p (.lst true ((xs.drop a.toNat).take (b.toNat - a.toNat))), .none⟩)
  | _, _, _ => False
theorem sliceMaxW_spec {t e : TypeId} {x hi mx : Operand} {lo : Option Operand} {n : Nat} {ex : Bool} {xs : List PV} {K : Res → Prop} (ht : sliT P t = some e) (hn : szT P e = some n) (hx : (ev x).nn = .p (.lst ex xs)) (h : sliceMaxW n xs (lo.map ev) (ev hi) (ev mx) K) :
    ∃ r, aopA P H base ev (.slice t x lo (some hi) (some mx)) = some r ∧ K r := by
  have key : ∀ {a b m : Int} {l : List PV}, (∀ x ∈ xs, x.cells.length = n) → idxI (ev mx) = some m → m = b → 0 ≤ b → b ≤ xs.length → boundsA xs.length m.toNat (lo.map ev) (some (ev hi)) = some (a.toNat, b.toNat) → l = (xs.drop a.toNat).take (b.toNat - a.toNat) →
      K ⟨.p (.lst true l), .none⟩ → ∃ r, aopA P H base ev (.slice t x lo (some hi) (some mx)) = some r ∧ K r := by
    intro a b m l ha hm hmb h0 hb1 hb hl hk
    subst hl
    refine ⟨_, aopA_of ?_, hk⟩
    simp only [aop, sliceA, hx, sliT_eq ht, hn, Option.map_some, hm, hb]
    rw [if_pos ⟨by omega, by omega, rfl, ha⟩]
    simp only [Option.bind_some, pureR]
  unfold sliceMaxW at h
  split at h
  · rename_i k b k' m h1 h2 h3
    obtain ⟨⟨hc, h4, h5, h6⟩, hk⟩ := h
    refine key (a := 0) (b := b) (m := m) hc (by rw [h3]; rfl) h6 h4 h5 (bounds_of (by rw [h2]; rfl) (by rw [h1]) (by omega)) (by simp) hk
  · rename_i k a k' b k'' m h1 h2 h3
    obtain ⟨⟨hc, h4, h5, h6, h7⟩, hk⟩ := h
    refine key (a := a) (b := b) (m := m) hc (by rw [h3]; rfl) h7 (by omega) h6 (bounds_of (by rw [h2]; rfl) (by rw [h1]; rfl) (by omega)) rfl hk
  · exact h.elim
def sliceSlW (m off len : Nat) (lo hi : Option V) (K : Res → Prop) : Prop :=
  match lo, hi with
  | none, none => K ⟨.sl m off len, .none⟩
  | some (.p (.int _ a)), none => Side (0 ≤ a ∧ a ≤ len) (K ⟨.sl m (plus0 off a.toNat) (len - a.toNat), .none⟩)
  | none, some (.p (.int _ b)) => Side (0 ≤ b ∧ b ≤ len) (K ⟨.sl m off b.toNat, .none⟩)
  | some (.p (.int _ a)), some (.p (.int _ b)) => Side (0 ≤ a ∧ a ≤ b ∧ b ≤ len) (K ⟨.sl m (plus0 off a.toNat) (b.toNat - a.toNat), .none⟩)
  | _, _ => False
theorem sliceSlW_spec {t e : TypeId} {x : Operand} {lo hi : Option Operand} {m off len : Nat} {ty : TypeId} {sz : Nat} {es : List PV} {K : Res → Prop} (ht : sliT P t = some e) (hn : szT P e = some sz) (hm : H m = .arr ty sz es) (hx : ev x = .sl m off len) (h : sliceSlW m off len (lo.map ev) (hi.map ev) K) :
    ∃ r, aopA P H base ev (.slice t x lo hi none) = some r ∧ K r := by
  have key : ∀ {a b : Int} {o l : Nat}, boundsA len len (lo.map ev) (hi.map ev) = some (a.toNat, b.toNat) → o = off + a.toNat → l = b.toNat - a.toNat →
      K ⟨.sl m o l, .none⟩ → ∃ r, aopA P H base ev (.slice t x lo hi none) = some r ∧ K r := by
    intro a b o l hb ho hl hk
    subst hl; subst ho
    refine ⟨_, aopA_of ?_, hk⟩
    simp only [aop, sliceA, hx, V.nn, sliT_eq ht, hm, hn, Option.map_none, if_true, hb, Option.map_some, Option.bind_some, pureR]
  unfold sliceSlW at h
  split at h
  · rename_i h1 h2
    exact key (a := 0) (b := len) (bounds_of (by rw [h2]) (by rw [h1]) (by omega)) (by simp) (by simp) h
  · rename_i k a h1 h2
    obtain ⟨hc, hk⟩ := h
    exact key (a := a) (b := len) (bounds_of (by rw [h2]) (by rw [h1]; rfl) (by omega)) (plus0_eq _ _) (by simp) hk
  · rename_i k b h1 h2
    obtain ⟨hc, hk⟩ := h
    exact key (a := 0) (b := b) (bounds_of (by rw [h2]; rfl) (by rw [h1]) (by omega)) (by simp) (by simp) hk
  · rename_i k a k' b h1 h2
    obtain ⟨hc, hk⟩ := h
    exact key (a := a) (b := b) (bounds_of (by rw [h2]; rfl) (by rw [h1]; rfl) hc) (plus0_eq _ _) rfl hk
  · exact h.elim
end
end Go.Am
end

section
namespace Go.Am
open Go
section
variable {P : Program} {H : Nat → HO} {base : Nat} {ev : Operand → V}
def mkSlW (P : Program) (base : Nat) (t : TypeId) (l c : Int) (K : Res → Prop) : Prop :=
  match elemT P t with
  | some e => match szT P e, byT P e, zeroT P e with
    | some n, some by_, some z => litK n fun n => litK by_ fun by_ => match Nat.ble 1 n && Nat.beq z.cells.length n with
      | true => Side (0 ≤ l ∧ l ≤ c ∧ (by_ : Int) * c ≤ 281474976710656 ∧ c ≤ 9223372036854775807)
        (K ⟨.sl base 0 (List.replicate l.toNat z).length, .new (.arr e n (List.replicate l.toNat z))⟩)
      | false => False
    | _, _, _ => False
  | none => False
theorem mkSlW_spec {t : TypeId} {l c : Operand} {kl kc : IntKind} {ln cn : Int} {K : Res → Prop} (hl : ev l = .p (.int kl ln)) (hc : ev c = .p (.int kc cn)) (h : mkSlW P base t ln cn K) :
    ∃ r, aopA P H base ev (.makeSlice t l c) = some r ∧ K r := by
  unfold mkSlW at h
  split at h
  case h_2 => exact h.elim
  rename_i e he
  split at h
  case h_2 => exact h.elim
  rename_i n by_ z h1 h2 h3
  simp only [litK_eq] at h
  split at h
  case h_2 => exact h.elim
  rename_i hb
  rw [Bool.and_eq_true] at hb
  have b1 := Nat.le_of_ble_eq_true hb.1
  have b2 := Nat.eq_of_beq_eq_true hb.2
  obtain ⟨⟨c1, c2, c3, c4⟩, hk⟩ := h
  refine ⟨_, aopA_of ?_, hk⟩
  simp only [aop, he, hl, hc, idxI, h1, h2, h3]
  rw [if_pos ⟨c1, c2, by simpa [maxBytes] using c3, by simpa [maxInt] using c4, b1, b2⟩]
  simp
def convIntW (k0 k : IntKind) (n : Int) (K : Res → Prop) : Prop :=
  match fitsK k0 k with
  | true => Side (InR k n) (K ⟨.p (.int k n), .none⟩)
  | false => K ⟨.p (.int k (k.wrap n)), .none⟩
def isU8T (P : Program) (t : TypeId) : Bool := match sliT P t with | some e => isU8 P e | none => false
def unsafeT (P : Program) (t : TypeId) : Bool := match P.underlying t with | some .unsafePointer => true | _ => false
def convPW (P : Program) (H : Nat → HO) (b : TypeId) (v : V) (K : Res → Prop) : Prop :=
  match P.underlying b, v with
  | some (.pointer u), .ptr n o => match H n, szT P u with
    | .var t x, some _ => Side (liesAt P P.depth t (x.cells.length / P.cellsOf t) o u 1 = true) (K ⟨.ptr n o, .none⟩)
    | _, _ => False
  | _, _ => False
theorem convPW_spec {a b : TypeId} {x : Operand} {K : Res → Prop} (ha : unsafeT P a = true) (h : convPW P H b (ev x) K) : ∃ r, aopA P H base ev (.convert a b x) = some r ∧ K r := by
  have ha' : P.underlying a = some .unsafePointer := by
    unfold unsafeT at ha; split at ha
    · assumption
    · cases ha
  unfold convPW at h
  split at h
  case h_2 => exact h.elim
  rename_i u n o hb hx
  split at h
  case h_2 => exact h.elim
  rename_i t v k hH hu
  obtain ⟨hl, hk⟩ := h
  refine ⟨_, ?_, hk⟩
  have e1 : aop P H base ev (.convert a b x) = none := by
    simp only [aop, convA, bytesA, ha', hb, hx]
  unfold aopA
  rw [e1]
  simp only [aopX, ha', hb, hx, hH, hu, hl, if_true]
def convW (P : Program) (H : Nat → HO) (base : Nat) (ev : Operand → V) (a b : TypeId) (x : Operand) (K : Res → Prop) : Prop :=
  match ev x with
  | .p (.int k0 n) => match intT P a, intT P b with
    | some _, some k => convIntW k0 k n K
    | _, _ => False
  | .p (.str s) => match isU8T P b && strT P a with
    | true => match sliT P b with
      | some e => K ⟨.sl base 0 (s.map byteP).length, .new (.arr e 1 (s.map byteP))⟩
      | none => False
    | false => rawW P H base ev (.convert a b x) K
  | v => match isU8T P a && strT P b with
    | true => elemsK H v fun l => Bytes l fun s => K ⟨.p (.str s), .none⟩
    | false => match unsafeT P a with
      | true => convPW P H b v K
      | false => rawW P H base ev (.convert a b x) K
theorem convW_spec {a b : TypeId} {x : Operand} {K : Res → Prop} (h : convW P H base ev a b x K) : ∃ r, aopA P H base ev (.convert a b x) = some r ∧ K r := by
  unfold convW at h
  split at h
  · rename_i k0 n hx
    split at h
    case h_2 => exact h.elim
    rename_i ka k h1 h2
    have e : ∀ m, k.wrap n = m → aop P H base ev (.convert a b x) = some ⟨.p (.int k m), .none⟩ := by
      intro m hm
      simp only [aop, convA, intT_eq h1, intT_eq h2, hx, pureR, hm]
    unfold convIntW at h
    split at h
    · exact ⟨_, aopA_of (e _ h.l.wrap), h.r⟩
    · exact ⟨_, aopA_of (e _ rfl), h⟩
  · rename_i s hx
    split at h
    · rename_i hc
      rw [Bool.and_eq_true] at hc
      split at h
      · rename_i e he
        have hu : isU8 P e = true := by have := hc.1; unfold isU8T at this; rw [he] at this; exact this
        refine ⟨_, aopA_of ?_, h⟩
        have hc1 : convA P a b (.p (.str s)) H = none := by simp only [convA, strT_eq hc.2, sliT_eq he]
        simp only [aop, hx, hc1, bytesA, strT_eq hc.2, sliT_eq he, hu, if_true]
        simp
      · exact h.elim
    · exact rawW_spec h
  · rename_i v hn1 hn2
    split at h
    · rename_i hc
      rw [Bool.and_eq_true] at hc
      obtain ⟨l, hl, s, hs, hk⟩ := elemsK_spec h
      cases hsl : sliT P a with
      | none => have := hc.1; unfold isU8T at this; rw [hsl] at this; cases this
      | some e =>
        have hu : isU8 P e = true := by have := hc.1; unfold isU8T at this; rw [hsl] at this; exact this
        refine ⟨_, aopA_of ?_, hk⟩
        have hc1 : convA P a b (ev x) H = some ⟨.p (.str s), .none⟩ := by
          simp only [convA, strT_eq hc.2, sliT_eq hsl, hu, if_true, hl, hs, Option.bind_some, pureR]
        simp only [aop, hc1]
    · split at h
      · rename_i ha; exact convPW_spec ha h
      · exact rawW_spec h
def bldSlW (P : Program) (base : Nat) (t : TypeId) (len : Nat) (parts : List (Nat × V)) (K : Res → Prop) : Prop :=
  match elemT P t with
  | some e => match szT P e, partsL 0 parts with
    | some n, some ds => litK n fun n => Side (∀ y ∈ ds, y.cells.length = n ∧ ∀ c ∈ y.cells, c.leaf = true) (match Nat.beq ds.length len && (Nat.ble 1 n && (Nat.ble (len * n) 16777216 && (zeroT P e).isSome)) with
      | true => K ⟨.sl base 0 len, .new (.arr e n ds)⟩
      | false => False)
    | _, _ => False
  | none => False
theorem bldSlW_aop {t : TypeId} {len : Nat} {parts : Array (Nat × Operand)} {K : Res → Prop} (h : bldSlW P base t len (parts.toList.map fun p => (p.1, ev p.2)) K) :
    ∃ r, aop P H base ev (.buildSlice t len parts) = some r ∧ K r := by
  unfold bldSlW at h
  split at h
  case h_2 => exact h.elim
  rename_i e he
  split at h
  case h_2 => exact h.elim
  rename_i n ds h1 h2
  rw [litK_eq] at h
  obtain ⟨hs, h⟩ := h
  split at h
  case h_2 => exact h.elim
  rename_i hc
  simp only [Bool.and_eq_true] at hc
  obtain ⟨c1, c2, c3, c4⟩ := hc
  refine ⟨_, ?_, h⟩
  simp only [aop, he, h1, h2]
  rw [if_pos ⟨Nat.eq_of_beq_eq_true c1, Nat.le_of_ble_eq_true c2, Nat.le_of_ble_eq_true c3, hs, c4⟩]
theorem bldSlW_spec {t : TypeId} {len : Nat} {parts : Array (Nat × Operand)} {K : Res → Prop} (h : bldSlW P base t len (parts.toList.map fun p => (p.1, ev p.2)) K) :
    ∃ r, aopA P H base ev (.buildSlice t len parts) = some r ∧ K r := by
  obtain ⟨r, h1, h2⟩ := bldSlW_aop (H := H) h
  exact ⟨r, aopA_of h1, h2⟩
def pickW (ev : Operand → V) (c a b : Operand) (K : Res → Prop) : Prop :=
  match ev c with
  | .p (.bool t) => Br t (K ⟨ev a, .none⟩) (K ⟨ev b, .none⟩)
  | _ => False
theorem pickW_spec {c a b : Operand} {K : Res → Prop} (h : pickW ev c a b K) : ∃ r, aopA P H base ev (.pick c a b) = some r ∧ K r := by
  unfold pickW at h
  split at h
  case h_2 => exact h.elim
  rename_i t hc
  have key : aop P H base ev (.pick c a b) = some ⟨if t = true then ev a else ev b, .none⟩ := by
    simp only [aop, hc, pureR]
    split
    · rename_i x y h1 h2
      rw [h1, h2]
      split <;> rfl
    · rfl
  cases ht : t with
  | true => exact ⟨_, aopA_of key, by rw [if_pos ht]; exact h.t ht⟩
  | false => exact ⟨_, aopA_of key, by rw [if_neg (by rw [ht]; simp)]; exact h.f ht⟩
inductive MapG (P : Program) (K : TypeId) (k : PV) (ks : List PV) (vs : MV) (Q : Option V → Prop) : Prop
  | mk (r : Option V) (hk : keysOk P K k ks) (h : getM k ks vs = r) (q : Q r)
inductive MapU (P : Program) (K : TypeId) (k : PV) (ks : List PV) (vs : MV) (v : V) (Q : List PV → MV → Prop) : Prop
  | mk (ks' : List PV) (vs' : MV) (hk : keysOk P K k ks) (h1 : putMK k ks = ks') (h2 : putMV k ks vs v = vs') (q : Q ks' vs')
def lookRW (P : Program) (E : TypeId) (ok : Bool) (K : Res → Prop) (r : Option V) : Prop := match r with
  | some v => (match ok with
    | true => K ⟨.tup [v, .p (.bool true)], .none⟩
    | false => K ⟨v, .none⟩)
  | none => match zeroT P E with
    | some z => (match ok with
      | true => K ⟨.tup [.p z, .p (.bool false)], .none⟩
      | false => K ⟨.p z, .none⟩)
    | none => False
theorem lookRW_spec {E : TypeId} {ok : Bool} {K : Res → Prop} {r : Option V} (h : lookRW P E ok K r) : ∃ v, lookR P E ok r = some v ∧ K ⟨v, .none⟩ := by
  unfold lookRW at h
  split at h
  · split at h
    · exact ⟨_, rfl, h⟩
    · exact ⟨_, rfl, h⟩
  · split at h
    · rename_i z hz
      split at h
      · exact ⟨_, by simp [lookR, hz], h⟩
      · exact ⟨_, by simp [lookR, hz], h⟩
    · exact h.elim
def lookW (P : Program) (H : Nat → HO) (base : Nat) (ev : Operand → V) (t : TypeId) (x ix : Operand) (ok : Bool) (K : Res → Prop) : Prop :=
  match mapKE P t, ev ix, ev x with
  | some (kt, E), .p k, .mapr n => match H n with
    | .mp ks vs => MapG P kt k ks vs (lookRW P E ok K)
    | _ => False
  | _, _, _ => rawW P H base ev (.lookup t x ix ok) K
theorem aopA_lookup {t : TypeId} {x ix : Operand} {ok : Bool} {r : Option Res} (h : aopM P H base ev (.lookup t x ix ok) = r) : aopA P H base ev (.lookup t x ix ok) = r := h
theorem aopA_mapUpdate {t : TypeId} {x ix v : Operand} {r : Option Res} (h : aopM P H base ev (.mapUpdate t x ix v) = r) : aopA P H base ev (.mapUpdate t x ix v) = r := h
theorem lookW_spec {t : TypeId} {x ix : Operand} {ok : Bool} {K : Res → Prop} (h : lookW P H base ev t x ix ok K) : ∃ r, aopA P H base ev (.lookup t x ix ok) = some r ∧ K r := by
  unfold lookW at h
  split at h
  · rename_i kt E k n h1 h2 h3
    split at h
    · rename_i ks vs hm
      obtain ⟨r, hk, hg, q⟩ := h
      obtain ⟨v, hv, hK⟩ := lookRW_spec q
      refine ⟨⟨v, .none⟩, aopA_lookup ?_, hK⟩
      simp only [aopM, h1, h2, lookM, h3, hm, if_pos hk, hg, hv, Option.map_some]
    · exact h.elim
  · exact rawW_spec h
def putW (P : Program) (H : Nat → HO) (base : Nat) (ev : Operand → V) (t : TypeId) (m k x : Operand) (K : Res → Prop) : Prop :=
  match mapKE P t, ev k, ev m with
  | some (kt, _), .p k, .mapr n => match H n with
    | .mp ks vs => MapU P kt k ks vs (ev x) fun ks' vs' => K ⟨.p (.tup []), .upd n (.mp ks' vs')⟩
    | _ => False
  | _, _, _ => rawW P H base ev (.mapUpdate t m k x) K
theorem putW_spec {t : TypeId} {m k x : Operand} {K : Res → Prop} (h : putW P H base ev t m k x K) : ∃ r, aopA P H base ev (.mapUpdate t m k x) = some r ∧ K r := by
  unfold putW at h
  split at h
  · rename_i kt E k n h1 h2 h3
    split at h
    · rename_i ks vs hm
      obtain ⟨ks', vs', hk, h4, h5, q⟩ := h
      refine ⟨_, aopA_mapUpdate ?_, q⟩
      simp only [aopM, h1, h2, h3, hm, if_pos hk, h4, h5]
    · exact h.elim
  · exact rawW_spec h
inductive StructE (P : Program) (t : TypeId) (xs ys : List PV) (Q : Bool → Prop) : Prop
  | mk {fs : List Field} {b : Bool} (hs : structF P t = some fs) (h : eqF P fs 0 xs ys = some b) (q : Q b)
def eqlW (o : BinOp) (K : Res → Prop) (b : Bool) : Prop := match o with
  | .eql => K ⟨.p (.bool b), .none⟩
  | .neq => K ⟨.p (.bool !b), .none⟩
  | _ => False
theorem structE_spec {o : BinOp} {t yt : TypeId} {x y : Operand} {xs ys : List PV} {K : Res → Prop} (h1 : ev x = .p (.agg xs)) (h2 : ev y = .p (.agg ys)) (h : StructE P t xs ys (eqlW o K)) : ∃ r, aopA P H base ev (.binOp o t x y yt) = some r ∧ K r := by
  obtain ⟨hs, he, q⟩ := h
  have hb : aop P H base ev (.binOp o t x y yt) = none := by
    have hp : ptrEq (.p (.agg xs)) (.p (.agg ys)) = none := rfl
    simp only [aop, h1, h2, binA, hp]
    cases o <;> simp
  have hx : aopX P H ev (.binOp o t x y yt) = none := by
    simp only [aopX, h1, h2]
    try rfl
  unfold eqlW at q
  split at q
  · exact ⟨_, by simp only [aopA, hb, hx, aopZ, h1, h2, hs, he, eqlV], q⟩
  · exact ⟨_, by simp only [aopA, hb, hx, aopZ, h1, h2, hs, he, eqlV], q⟩
  · exact q.elim
def opW (P : Program) (H : Nat → HO) (base : Nat) (ev : Operand → V) (op : Op) (K : Res → Prop) : Prop :=
  match op with
  | .pick c a b => pickW ev c a b K
  | .binOp o t x y yt => match ev x, ev y with
    | .p (.int k a), .p (.int k' b) => intW o k k' a b fun d => K ⟨.p d, .none⟩
    | .p (.str a), .p (.str b) => strW o a b fun d => K ⟨.p d, .none⟩
    | .p (.agg xs), .p (.agg ys) => StructE P t xs ys (eqlW o K)
    | _, _ => rawW P H base ev (.binOp o t x y yt) K
  | .index t x i => match ev x, ev i with
    | .p (.str s), .p (.int _ n) => ixW P t s n K
    | _, _ => rawW P H base ev (.index t x i) K
  | .indexAddr t x i => match ev x, ev i with
    | .p (.lst _ l), .p (.int _ n) => ixaLW P t l n K
    | .sl m off len, .p (.int _ n) => ixaSW P H t m off len n K
    | _, _ => rawW P H base ev (.indexAddr t x i) K
  | .load t a => match ev a with
    | .p (.cptr d) => wholeW P t d K
    | .eptr m i off => loadEW P H t m i off K
    | _ => rawW P H base ev (.load t a) K
  | .store t a v => match ev a, ev v with
    | .eptr m i off, .p x => storeEW P H t m i off x K
    | _, _ => rawW P H base ev (.store t a v) K
  | .slice t x lo hi mx => match mx with
    | none => match ev x with
      | .p (.str s) => match strT P t with
        | true => sliceStrW s (lo.map ev) (hi.map ev) K
        | false => False
      | .p (.lst ex xs) => match sliT P t with
        | some e => match szT P e with
          | some n => litK n fun n => sliceLstW n ex xs (lo.map ev) (hi.map ev) K
          | none => False
        | none => False
      | .sl m off len => match sliT P t, H m with
        | some e, .arr _ sz _ => match szT P e with
          | some sz' => match Nat.beq sz' sz with
            | true => sliceSlW m off len (lo.map ev) (hi.map ev) K
            | false => False
          | none => False
        | _, _ => False
      | _ => rawW P H base ev (.slice t x lo hi none) K
    | some m => match hi with
      | some h => match sliT P t with
        | some e => match szT P e with
          | some n => match (ev x).nn with
            | .p (.lst _ xs) => litK n fun n => sliceMaxW n xs (lo.map ev) (ev h) (ev m) K
            | _ => False
          | none => False
        | none => False
      | none => False
  | .makeSlice t l c => match ev l, ev c with
    | .p (.int _ ln), .p (.int _ cn) => mkSlW P base t ln cn K
    | _, _ => False
  | .convert a b x => convW P H base ev a b x K
  | .buildSlice t len parts => bldSlW P base t len (parts.toList.map fun p => (p.1, ev p.2)) K
  | .lookup t x ix ok => lookW P H base ev t x ix ok K
  | .mapUpdate t m k x => putW P H base ev t m k x K
  | .call ⟨.builtin .append, args, ts⟩ => match args.toList, ts.toList with
    | [s, x], [t, tx] => appW P H base t tx (ev s) (ev x) K
    | _, _ => False
  | op => rawW P H base ev op K
theorem opW_spec {op : Op} {K : Res → Prop} (h : opW P H base ev op K) : ∃ r, aopA P H base ev op = some r ∧ K r := by
  have bin : ∀ {o : BinOp} {t yt : TypeId} {x y : Operand} {d : PV}, binA P o t (ev x) (ev y) = some d → aopA P H base ev (.binOp o t x y yt) = some ⟨.p d, .none⟩ := by
    intro o t yt x y d hd
    refine aopA_of ?_
    simp only [aop, hd, Option.bind_some, pureR]
  unfold opW at h
  split at h
  · exact pickW_spec h
  · split at h
    · rename_i h1 h2
      obtain ⟨d, hd, hk⟩ := intW_spec (P := P) h
      exact ⟨_, bin (by rw [h1, h2]; exact hd), hk⟩
    · rename_i h1 h2
      obtain ⟨d, hd, hk⟩ := strW_spec (P := P) h
      exact ⟨_, bin (by rw [h1, h2]; exact hd), hk⟩
    · rename_i h1 h2
      exact structE_spec h1 h2 h
    · exact rawW_spec h
  · split at h
    · rename_i h1 h2; exact ixW_spec h1 h2 h
    · exact rawW_spec h
  · split at h
    · rename_i h1 h2; exact ixaLW_spec h1 h2 h
    · rename_i h1 h2; exact ixaSW_spec h1 h2 h
    · exact rawW_spec h
  · split at h
    · rename_i h1; exact loadC_spec h1 h
    · rename_i h1; exact loadEW_spec h1 h
    · exact rawW_spec h
  · split at h
    · rename_i h1 h2; exact storeEW_spec h1 h2 h
    · exact rawW_spec h
  · split at h
    · split at h
      · rename_i hx
        split at h
        · rename_i ht; exact sliceStrW_spec ht hx h
        · exact h.elim
      · rename_i hx
        split at h
        · rename_i e ht
          split at h
          · rename_i n hn; rw [litK_eq] at h; exact sliceLstW_spec ht hn hx h
          · exact h.elim
        · exact h.elim
      · rename_i hx
        split at h
        · rename_i e ty sz es ht hm
          split at h
          · rename_i sz' hn
            split at h
            · rename_i hb
              obtain rfl := Nat.eq_of_beq_eq_true hb
              exact sliceSlW_spec ht hn hm hx h
            · exact h.elim
          · exact h.elim
        · exact h.elim
      · exact rawW_spec h
    · split at h
      · split at h
        · rename_i e ht
          split at h
          · rename_i n hn
            split at h
            · rename_i hx; rw [litK_eq] at h; exact sliceMaxW_spec ht hn hx h
            · exact h.elim
          · exact h.elim
        · exact h.elim
      · exact h.elim
  · split at h
    · rename_i h1 h2; exact mkSlW_spec h1 h2 h
    · exact h.elim
  · exact convW_spec h
  · exact bldSlW_spec h
  · exact lookW_spec h
  · exact putW_spec h
  · split at h
    · rename_i h1 h2; exact appW_spec h1 h2 h
    · exact h.elim
  · exact rawW_spec h
variable {G : Nat → Option PV} {pol : Pol} {n k : Nat}
def backW (k n0 : Nat) (ns : List Nat) (σ : Env) (H : Heap) (mv : List Nat) (cr : CR) (K : Out → Env → Heap → List Nat → Prop) : Prop :=
  match Nat.ble ns.length cr.H.length && (List.range (cr.H.length - ns.length)).all (fun j => freshS (n0 + j) σ && freshH (n0 + j) H && !(ns.contains (n0 + j))) && cr.mv.all (Nat.blt · ns.length) && Nat.ble k n0 &&
      (outNames cr.out).all (Nat.blt · cr.H.length) && cr.H.all (fun o => o.names.all (Nat.blt · cr.H.length)) with
  | true => spineK (cr.mv.map (backN ns n0)) fun moved => killEnvsK moved σ fun σ' =>
      heapK ((Heap.killAll moved H).putAll ((List.range cr.H.length).map fun i => (backN ns n0 i, (Heap.at cr.H i).ren (backN ns n0)))) fun H' =>
        spineK (moved.foldl (addMv k) mv) fun mv' => match cr.out with
          | .ret v => (v.ren (backN ns n0)).fK fun u => K (.ret u) σ' H' mv'
          | .pan v => (v.ren (backN ns n0)).fK fun u => K (.pan u) σ' H' mv'
  | false => False
theorem killEnvsK_eq : ∀ (l : List Nat) (σ : Env) (K : Env → Prop), Bdd n σ → killEnvsK l σ K → ∃ σ', killAll l (toEnv n σ) = toEnv n σ' ∧ Bdd n σ' ∧ K σ'
  | [], σ, K, hb, h => ⟨σ, rfl, hb, h⟩
  | m :: l, σ, K, hb, h => by
    unfold killEnvsK at h
    rw [killEnvK_eq] at h
    obtain ⟨σ', h1, h2, h3⟩ := killEnvsK_eq l _ K (hb.map _ (kill_junk' m)) h
    refine ⟨σ', ?_, h2, h3⟩
    rw [killAll, toEnv_map _ (kill_junk' m)]
    exact h1
inductive CallW (P : Program) (G : Nat → Option PV) (f : FuncId) (args : List V) (H : Heap) (K : CR → Prop) : Prop
  | mk (cr : CR) (h : AbsCall P G f args H cr) (k : K cr)
def callW (P : Program) (G : Nat → Option PV) (k : Nat) (f : FuncId) (args : List V) (σ : Env) (H : Heap) (mv : List Nat) (K : Out → Env → Heap → List Nat → Prop) : Prop :=
  spineK (reachL (Heap.at H) 200 (V.namesL args) []) fun ns =>
    match (V.namesL args).all (ns.contains ·) && closedN (Heap.at H) ns && decide ns.Nodup with
    | true => mapK (V.ren (ns.idxOf ·)) args fun args' => heapK (ns.map fun m => (Heap.at H m).ren (ns.idxOf ·)) fun H' =>
        CallW P G f args' H' fun cr => backW k (lenH H) ns σ H mv cr K
    | false => False
noncomputable def oneC (f : FuncId) (args : List V) (H : Heap) (cr : CR) : CallF := fun f' args' H' => by
  classical exact if f' = f ∧ args' = args ∧ H' = H then some cr else none
theorem oneC_sound {f : FuncId} {args : List V} {H : Heap} {cr : CR} (h : AbsCall P G f args H cr) : SoundC P G (oneC f args H cr) := by
  intro f' args' H' cr' h'
  unfold oneC at h'
  split at h'
  · rename_i hc
    obtain ⟨rfl, rfl, rfl⟩ := hc
    cases h'; exact h
  · cases h'
theorem oneC_at {f : FuncId} {args : List V} {H : Heap} {cr : CR} : oneC f args H cr f args H = some cr := by
  unfold oneC
  rw [if_pos ⟨rfl, rfl, rfl⟩]
theorem blt_all {l : List Nat} {m : Nat} (h : l.all (Nat.blt · m) = true) : l.all (fun x => decide (x < m)) = true := by
  rw [List.all_eq_true] at h ⊢
  intro x hx
  have := h x hx
  simpa [Nat.blt_eq] using this
theorem callW_spec {f : FuncId} {args : List V} {σ : Env} {H : Heap} {mv : List Nat} {K : Out → Env → Heap → List Nat → Prop} (hb : Bdd n σ) (h : callW P G k f args σ H mv K) :
    ∃ C, SoundC P G C ∧ ∃ out σ' H' mv', callS C ⟨toEnv n σ, H, k, mv⟩ f args = some (out, ⟨toEnv n σ', H', k, mv'⟩) ∧ Bdd n σ' ∧ K out σ' H' mv' := by
  unfold callW at h
  rw [spineK_eq, lenH_eq] at h
  unfold callS
  simp only []
  generalize reachL (Heap.at H) 200 (V.namesL args) [] = NS at h ⊢
  split at h
  case h_2 => exact h.elim
  rename_i hc
  simp only [Bool.and_eq_true, decide_eq_true_eq] at hc
  obtain ⟨⟨c1, c2⟩, c3⟩ := hc
  rw [mapK_eq, heapK_eq] at h
  obtain ⟨cr, hcr, h⟩ := h
  refine ⟨_, oneC_sound hcr, ?_⟩
  unfold backW at h
  split at h
  case h_2 => exact h.elim
  rename_i hd
  simp only [Bool.and_eq_true] at hd
  obtain ⟨⟨⟨⟨⟨d1, d2⟩, d3⟩, d4⟩, d5⟩, d6⟩ := hd
  rw [spineK_eq] at h
  obtain ⟨σ', e1, e2, h⟩ := killEnvsK_eq _ _ _ hb h
  rw [heapK_eq, spineK_eq] at h
  have hfin : K (cr.out.ren (backN NS H.length)) σ' ((Heap.killAll (cr.mv.map (backN NS H.length)) H).putAll ((List.range cr.H.length).map fun i => (backN NS H.length i, (Heap.at cr.H i).ren (backN NS H.length))))
      ((cr.mv.map (backN NS H.length)).foldl (addMv k) mv) := by
    cases ho : cr.out with
    | ret v => rw [ho] at h; simp only [V.fK_eq] at h; exact h
    | pan v => rw [ho] at h; simp only [V.fK_eq] at h; exact h
  refine ⟨_, σ', _, _, ?_, e2, hfin⟩
  rw [if_pos ⟨c1, c2, c3⟩, oneC_at]
  simp only []
  have q2 : (List.range (cr.H.length - NS.length)).all (fun j => Fr.fresh ⟨toEnv n σ, H, k, mv⟩ (H.length + j) && !(NS.contains (H.length + j))) = true := by
    rw [List.all_eq_true] at d2 ⊢
    intro j hj
    have := d2 j hj
    simp only [Bool.and_eq_true] at this
    rw [fresh_of this.1.1 this.1.2, this.2]; rfl
  have q6 : cr.H.all (fun o => o.names.all fun x => decide (x < cr.H.length)) = true := by
    rw [List.all_eq_true] at d6 ⊢
    exact fun o ho => blt_all (d6 o ho)
  rw [if_pos ⟨Nat.le_of_ble_eq_true d1, q2, blt_all d3, Nat.le_of_ble_eq_true d4, blt_all d5, q6⟩, e1]
def callOpW (P : Program) (G : Nat → Option PV) (pol : Pol) (n k : Nat) (g : Operand) (args : List Operand) (dst : Option Tmp) (σ : Env) (H : Heap) (mv : List Nat) (K : Ex → Env → Heap → List Nat → Prop) : Prop :=
  match targetV (evS G σ g) with
  | none => False
  | some (f, cap) =>
    let fin := fun (out : Out) (σ' : Env) (H' : Heap) (mv' : List Nat) => match out with
      | .ret v => putK n σ' dst v fun σ'' => K .normal σ'' H' mv'
      | .pan v => K (.pan v) σ' H' mv'
    match pol.byref f with
    | true => mapK id (args.map (evS G σ) ++ cap) fun ags => callW P G k f ags σ H mv fin
    | false => spineK ((V.namesL (args.map (evS G σ) ++ cap)).filter fun m => isArr (Heap.at H m)) fun ns => match ns with
      | [] => mapK id (args.map (evS G σ) ++ cap) fun ags => callW P G k f ags σ H mv fin
      | ns => frzAllK ns σ H fun σ1 H1 => match targetV (evS G σ1 g) with
        | none => False
        | some (f', cap') => mapK id (args.map (evS G σ1) ++ cap') fun ags => callW P G k f' ags σ1 H1 mv fin
theorem callOpW_spec {g : Operand} {args : List Operand} {dst : Option Tmp} {σ : Env} {H : Heap} {mv : List Nat} {K : Ex → Env → Heap → List Nat → Prop} (hb : Bdd n σ) (h : callOpW P G pol n k g args dst σ H mv K) :
    ∃ C, SoundC P G C ∧ ∃ ex σ' H' mv', callOp G pol C ⟨toEnv n σ, H, k, mv⟩ g args dst = some (ex, ⟨toEnv n σ', H', k, mv'⟩) ∧ Bdd n σ' ∧ K ex σ' H' mv' := by
  unfold callOpW at h
  split at h
  case h_1 => exact h.elim
  rename_i f cap ht
  simp only [] at h
  -- behind the call
  have fin : ∀ {C : CallF} {fr1 : Fr} {f' : FuncId} {cap' : List V} {out : Out} {σ' : Env} {H' : Heap} {mv' : List Nat},
      (if pol.byref f = true then (⟨toEnv n σ, H, k, mv⟩ : Fr) else Fr.freezeAll ⟨toEnv n σ, H, k, mv⟩ ((V.namesL (args.map (evS G σ) ++ cap)).filter fun m => isArr (Heap.at H m))) = fr1 → targetV (evalO G fr1.env g) = some (f', cap') →
      callS C fr1 f' (args.map (evalO G fr1.env) ++ cap') = some (out, ⟨toEnv n σ', H', k, mv'⟩) → Bdd n σ' →
      (match out with
        | .ret v => putK n σ' dst v fun σ'' => K .normal σ'' H' mv'
        | .pan v => K (.pan v) σ' H' mv') →
      ∃ ex σ' H' mv', callOp G pol C ⟨toEnv n σ, H, k, mv⟩ g args dst = some (ex, ⟨toEnv n σ', H', k, mv'⟩) ∧ Bdd n σ' ∧ K ex σ' H' mv' := by
    intro C fr1 f' cap' out σ' H' mv' hf1 ht1 hcs hb' hk
    have e0 : callOp G pol C ⟨toEnv n σ, H, k, mv⟩ g args dst = match callS C fr1 f' (args.map (evalO G fr1.env) ++ cap') with
        | some (.ret v, fr') => some (.normal, { fr' with env := putO fr'.env dst v })
        | some (.pan v, fr') => some (.pan v, fr')
        | none => none := by
      unfold callOp
      simp only [evS_fun hb, ht, hf1, ht1]
      rfl
    rw [e0, hcs]
    cases out with
    | ret v =>
      simp only [] at hk ⊢
      obtain ⟨σ2, h1, h2, h3⟩ := putK_eq hb' hk
      exact ⟨.normal, σ2, H', mv', by rw [h1], h2, h3⟩
    | pan v => exact ⟨.pan v, σ', H', mv', rfl, hb', hk⟩
  have plain : (if pol.byref f = true then (⟨toEnv n σ, H, k, mv⟩ : Fr) else Fr.freezeAll ⟨toEnv n σ, H, k, mv⟩ ((V.namesL (args.map (evS G σ) ++ cap)).filter fun m => isArr (Heap.at H m))) = ⟨toEnv n σ, H, k, mv⟩ →
      callW P G k f (args.map (evS G σ) ++ cap) σ H mv (fun (out : Out) (σ' : Env) (H' : Heap) (mv' : List Nat) => match out with
      | .ret v => putK n σ' dst v fun σ'' => K .normal σ'' H' mv'
      | .pan v => K (.pan v) σ' H' mv') →
      ∃ C, SoundC P G C ∧ ∃ ex σ' H' mv', callOp G pol C ⟨toEnv n σ, H, k, mv⟩ g args dst = some (ex, ⟨toEnv n σ', H', k, mv'⟩) ∧ Bdd n σ' ∧ K ex σ' H' mv' := by
    intro hf hc
    obtain ⟨C, hC, out, σ', H', mv', h1, h2, h3⟩ := callW_spec hb hc
    refine ⟨C, hC, fin (fr1 := ⟨toEnv n σ, H, k, mv⟩) (f' := f) (cap' := cap) hf ?_ ?_ h2 h3⟩
    · rw [evS_fun hb]; exact ht
    · rw [evS_fun hb]; exact h1
  split at h
  · rename_i hp
    rw [mapK_eq, List.map_id] at h
    exact plain (if_pos hp) h
  · rename_i hp
    rw [spineK_eq] at h
    split at h
    · rename_i hns
      rw [mapK_eq, List.map_id] at h
      refine plain ?_ h
      rw [if_neg (by rw [hp]; simp), hns]; rfl
    · rename_i ns hns
      obtain ⟨σ1, H1, h1, h2, h⟩ := frzAllK_eq (k := k) (mv := mv) _ _ _ _ hb h
      split at h
      · exact h.elim
      · rename_i f' cap' ht'
        rw [mapK_eq, List.map_id] at h
        obtain ⟨C, hC, out, σ', H', mv', h3, h4, h5⟩ := callW_spec h2 h
        refine ⟨C, hC, fin (fr1 := ⟨toEnv n σ1, H1, k, mv⟩) (f' := f') (cap' := cap') ?_ ?_ ?_ h4 h5⟩
        · rw [if_neg (by rw [hp]; simp)]; exact h1
        · rw [evS_fun h2]; exact ht'
        · rw [evS_fun h2]; exact h3
end
end Go.Am
end

section
namespace Go.Am
open Go
abbrev Post := Ex → Env → Heap → List Nat → Prop
section
variable {P : Program} {G : Nat → Option PV} {pol : Pol} {n k : Nat}
def sealW (P : Program) (G : Nat → Option PV) (n _k : Nat) (args : List Operand) (ts : List TypeId) (dst : Option Tmp) (σ : Env) (H : Heap) (mv : List Nat) (K : Post) : Prop :=
  match args.map (evS G σ), ts with
  | [.eptr m 0 0, .p (.int .i64 q)], [pt, _] => match Heap.at H m, P.underlying pt with
    | .arr ty 1 es, some (.pointer e) => match Nat.beq e ty && Nat.beq (P.cellsOf e) 1 with
      | true => Bytes es fun s => Side (bytesX es = some s ∧ q = (s.length : Int) ∧ s ≠ [] ∧ s.length ≤ 9223372036854775807)
          (frzAllK [m] σ H fun σ1 H1 => putK n σ1 dst (.p (.str s)) fun σ2 => K .normal σ2 H1 mv)
      | false => False
    | _, _ => False
  | [.p .anyp, .p (.int .i64 0)], [_, _] => putK n σ dst (.p (.str [])) fun σ2 => K .normal σ2 H mv
  | _, _ => False
theorem sealW_spec {args : List Operand} {ts : List TypeId} {dst : Option Tmp} {σ : Env} {H : Heap} {mv : List Nat} {K : Post} (hb : Bdd n σ) (h : sealW P G n k args ts dst σ H mv K) :
    ∃ ex σ' H' mv', sealOp P G ⟨toEnv n σ, H, k, mv⟩ args ts dst = some (ex, ⟨toEnv n σ', H', k, mv'⟩) ∧ Bdd n σ' ∧ K ex σ' H' mv' := by
  unfold sealW at h
  split at h
  · rename_i m q pt t2 ha
    split at h
    case h_2 => exact h.elim
    rename_i ty es e hm hu
    split at h
    case h_2 => exact h.elim
    rename_i hc
    rw [Bool.and_eq_true] at hc
    have e1 := Nat.eq_of_beq_eq_true hc.1
    have e2 := Nat.eq_of_beq_eq_true hc.2
    obtain ⟨s, hs, ⟨h1, h2, h3, h4⟩, hk⟩ := h
    obtain ⟨σ1, H1, f1, f2, hk⟩ := frzAllK_eq (k := k) (mv := mv) _ _ _ _ hb hk
    obtain ⟨σ2, g1, g2, hk⟩ := putK_eq f2 hk
    refine ⟨.normal, σ2, H1, mv, ?_, g2, hk⟩
    unfold sealOp
    rw [evS_fun hb, ha]
    simp only [hm, hu, h1]
    rw [if_pos ⟨e1, e2, h2, h3, h4⟩]
    simp only [Fr.freezeAll] at f1
    rw [f1, g1]
  · rename_i t1 t2 ha
    obtain ⟨σ2, g1, g2, hk⟩ := putK_eq hb h
    refine ⟨.normal, σ2, H, mv, ?_, g2, hk⟩
    unfold sealOp
    rw [evS_fun hb, ha]
    simp only []
    rw [g1]
  · exact h.elim
def stepW (P : Program) (G : Nat → Option PV) (pol : Pol) (n k : Nat) (o : Oper) (σ : Env) (H : Heap) (mv : List Nat) (K : Post) : Prop :=
  match o.op with
  | .call ⟨.value g, args, _⟩ => callOpW P G pol n k g args.toList o.dst σ H mv K
  | .call ⟨.builtin .unsafeString, args, ts⟩ => sealW P G n k args.toList ts.toList o.dst σ H mv K
  | .panic x => match evS G σ x with
    | .p (.iface t d) => K (.pan (.p (.iface t d))) σ H mv
    | .iface t v => K (.pan (.iface t v)) σ H mv
    | _ => False
  | op => match preNames (evS G σ) op with
    | [] => opW P (Heap.at H) (lenH H) (evS G σ) op fun r => effK k σ H mv r.eff fun σ' H' mv' => putK n σ' o.dst r.val fun σ'' => K .normal σ'' H' mv'
    | ns => frzAllK ns σ H fun σ1 H1 => opW P (Heap.at H1) (lenH H1) (evS G σ1) op fun r => effK k σ1 H1 mv r.eff fun σ' H' mv' => putK n σ' o.dst r.val fun σ'' => K .normal σ'' H' mv'
theorem stepW_spec {o : Oper} {σ : Env} {H : Heap} {mv : List Nat} {K : Post} (hb : Bdd n σ) (h : stepW P G pol n k o σ H mv K) :
    ∃ C, SoundC P G C ∧ ∃ ex σ' H' mv', stepOp P G pol C o ⟨toEnv n σ, H, k, mv⟩ = some (ex, ⟨toEnv n σ', H', k, mv'⟩) ∧ Bdd n σ' ∧ K ex σ' H' mv' := by
  have none_sound : SoundC P G (fun _ _ _ => none) := fun _ _ _ _ h => by cases h
  unfold stepW at h
  unfold stepOp
  split at h
  · rename_i g args ts hop
    simp only [hop]
    exact callOpW_spec hb h
  · rename_i args ts hop
    simp only [hop]
    exact ⟨_, none_sound, sealW_spec hb h⟩
  · rename_i x hop
    simp only [hop, evS_fun hb]
    split at h
    · rename_i t d hx
      exact ⟨_, none_sound, _, σ, H, mv, by simp only [hx], hb, h⟩
    · rename_i t d hx
      exact ⟨_, none_sound, _, σ, H, mv, by simp only [hx], hb, h⟩
    · exact h.elim
  · rename_i hn1 hn2 hn3
    refine ⟨_, none_sound, ?_⟩
    have fin : ∀ {σ1 : Env} {H1 : Heap}, Bdd n σ1 → Fr.freezeAll ⟨toEnv n σ, H, k, mv⟩ (preNames (evS G σ) o.op) = ⟨toEnv n σ1, H1, k, mv⟩ →
        (opW P (Heap.at H1) (lenH H1) (evS G σ1) o.op fun r => effK k σ1 H1 mv r.eff fun σ' H' mv' => putK n σ' o.dst r.val fun σ'' => K .normal σ'' H' mv') →
        ∃ ex σ' H' mv', (let fr := Fr.freezeAll ⟨toEnv n σ, H, k, mv⟩ (preNames (evS G σ) o.op)
          match aopA P (Heap.at fr.H) fr.H.length (evalO G fr.env) o.op with
          | some r => match fr.eff fr.H.length r.eff with
            | some fr' => some (Ex.normal, { fr' with env := putO fr'.env o.dst r.val })
            | none => none
          | none => none) = some (ex, ⟨toEnv n σ', H', k, mv'⟩) ∧ Bdd n σ' ∧ K ex σ' H' mv' := by
      intro σ1 H1 hb1 hf hk
      rw [hf, lenH_eq] at *
      obtain ⟨r, hr, hk⟩ := opW_spec hk
      obtain ⟨σ', H', mv', e1, e2, hk⟩ := effK_eq hb1 hk
      obtain ⟨σ2, g1, g2, hk⟩ := putK_eq e2 hk
      refine ⟨.normal, σ2, H', mv', ?_, g2, hk⟩
      simp only [evS_fun hb1, hr, e1, g1]
    simp only [evS_fun hb]
    split at h
    · rename_i hns
      exact fin hb (by rw [hns]; rfl) h
    · obtain ⟨σ1, H1, f1, f2, hk⟩ := frzAllK_eq (k := k) (mv := mv) _ _ _ _ hb h
      exact fin f2 f1 hk
def guardD (ops : List Oper) (j : Nat) : Option Tmp := match ops[j]? with
  | some o => o.dst
  | none => none
def oneW (P : Program) (G : Nat → Option PV) (pol : Pol) (n k : Nat) (ops : List Oper) (i : Nat) (σ : Env) (H : Heap) (mv : List Nat) (K : Post) : Prop :=
  match ops[i]? with
  | none => False
  | some o => match o.guard with
    | none => stepW P G pol n k o σ H mv K
    | some (j, want) => match guardD ops j with
      | none => False
      | some d => match look σ d with
        | .p (.bool b) => Br b
          (match want with
            | true => stepW P G pol n k o ((d, .p (.bool true)) :: σ) H mv K
            | false => putK n ((d, .p (.bool true)) :: σ) o.dst (.p (.tup [])) fun σ' => K .normal σ' H mv)
          (match want with
            | false => stepW P G pol n k o ((d, .p (.bool false)) :: σ) H mv K
            | true => putK n ((d, .p (.bool false)) :: σ) o.dst (.p (.tup [])) fun σ' => K .normal σ' H mv)
        | .p (.tup []) => putK n σ o.dst (.p (.tup [])) fun σ' => K .normal σ' H mv
        | _ => False
def One (P : Program) (G : Nat → Option PV) (pol : Pol) (ops : Array Oper) (i : Nat) (fr : Fr) (ex : Ex) (fr' : Fr) : Prop :=
  ∃ C, SoundC P G C ∧ oneA P G pol false C ops i fr = some (ex, fr')
theorem oneA_false {C : CallF} {ops : Array Oper} {i : Nat} {fr : Fr} {o : Oper} (ho : ops[i]? = some o) : oneA P G pol false C ops i fr = runOps P G pol C ops [i] fr := by
  unfold oneA
  rw [ho]
  simp
theorem look_lt {σ : Env} {d : Nat} {v : V} (hb : Bdd n σ) (h : look σ d = v) (hv : v ≠ .junk) : d < n := by
  rcases Nat.lt_or_ge d n with h1 | h1
  · exact h1
  · rw [hb d h1] at h; exact absurd h.symm hv
theorem oneW_spec {ops : Array Oper} {i : Nat} {σ : Env} {H : Heap} {mv : List Nat} {K : Post} (hb : Bdd n σ) (h : oneW P G pol n k ops.toList i σ H mv K) :
    ∃ ex σ' H' mv', One P G pol ops i ⟨toEnv n σ, H, k, mv⟩ ex ⟨toEnv n σ', H', k, mv'⟩ ∧ Bdd n σ' ∧ K ex σ' H' mv' := by
  have none_sound : SoundC P G (fun _ _ _ => none) := fun _ _ _ _ h => by cases h
  unfold oneW at h
  split at h
  case h_1 => exact h.elim
  rename_i o ho
  have ho : ops[i]? = some o := by simpa using ho
  have step : ∀ {σ1 : Env}, Bdd n σ1 → stepW P G pol n k o σ1 H mv K → ∃ C, SoundC P G C ∧ ∃ ex σ' H' mv', (match stepOp P G pol C o ⟨toEnv n σ1, H, k, mv⟩ with
      | some (.normal, fr') => runOps P G pol C ops [] fr'
      | x => x) = some (ex, ⟨toEnv n σ', H', k, mv'⟩) ∧ Bdd n σ' ∧ K ex σ' H' mv' := by
    intro σ1 hb1 hk
    obtain ⟨C, hC, ex, σ', H', mv', h1, h2, h3⟩ := stepW_spec hb1 hk
    refine ⟨C, hC, ex, σ', H', mv', ?_, h2, h3⟩
    rw [h1]
    cases ex <;> rfl
  split at h
  · rename_i hg
    obtain ⟨C, hC, ex, σ', H', mv', h1, h2, h3⟩ := step hb h
    exact ⟨ex, σ', H', mv', ⟨C, hC, by rw [oneA_false ho]; simp only [runOps, ho, hg]; exact h1⟩, h2, h3⟩
  · rename_i j want hg
    split at h
    case h_1 => exact h.elim
    rename_i d hd
    have hd : (ops[j]?).bind (·.dst) = some d := by
      unfold guardD at hd
      split at hd
      · rename_i oj hoj
        have hoj : ops[j]? = some oj := by simpa using hoj
        rw [hoj]; exact hd
      · cases hd
    have get : ∀ {v : V}, look σ d = v → v ≠ .junk → d < n ∧ (toEnv n σ)[d]? = some v := by
      intro v hv hj
      have := look_lt hb hv hj
      exact ⟨this, by rw [toEnv_get, if_pos this, hv]⟩
    split at h
    · rename_i b hl
      obtain ⟨hdn, hge⟩ := get hl (by simp)
      have run : ∀ {C : CallF}, oneA P G pol false C ops i ⟨toEnv n σ, H, k, mv⟩ = if b = want then (match stepOp P G pol C o ⟨toEnv n ((d, .p (.bool want)) :: σ), H, k, mv⟩ with
            | some (.normal, fr') => runOps P G pol C ops [] fr'
            | x => x) else some (.normal, ⟨putO (toEnv n ((d, .p (.bool (!want))) :: σ)) o.dst (.p (.tup [])), H, k, mv⟩) := by
        intro C
        rw [oneA_false ho]
        simp only [runOps, ho, hg, hd, hge, toEnv_set]
        rfl
      have skip : ∀ {b' : Bool}, b' = (!want) → b ≠ want → putK n ((d, .p (.bool b')) :: σ) o.dst (.p (.tup [])) (fun σ' => K .normal σ' H mv) → ∃ ex σ' H' mv', One P G pol ops i ⟨toEnv n σ, H, k, mv⟩ ex ⟨toEnv n σ', H', k, mv'⟩ ∧ Bdd n σ' ∧ K ex σ' H' mv' := by
        intro b' hb' hne hk
        subst hb'
        obtain ⟨σ2, g1, g2, hk⟩ := putK_eq (hb.cons hdn _) hk
        exact ⟨.normal, σ2, H, mv, ⟨_, none_sound, by rw [run, if_neg hne, g1]⟩, g2, hk⟩
      have take : ∀ {b' : Bool}, b' = want → b = want → stepW P G pol n k o ((d, .p (.bool b')) :: σ) H mv K → ∃ ex σ' H' mv', One P G pol ops i ⟨toEnv n σ, H, k, mv⟩ ex ⟨toEnv n σ', H', k, mv'⟩ ∧ Bdd n σ' ∧ K ex σ' H' mv' := by
        intro b' hb' he hk
        subst hb'
        obtain ⟨C, hC, ex, σ', H', mv', h1, h2, h3⟩ := step (hb.cons hdn _) hk
        exact ⟨ex, σ', H', mv', ⟨C, hC, by rw [run, if_pos he]; exact h1⟩, h2, h3⟩
      cases hbv : b with
      | true =>
        have := h.t hbv
        split at this
        · exact take rfl hbv this
        · exact skip rfl (by rw [hbv]; simp) this
      | false =>
        have := h.f hbv
        split at this
        · exact take rfl hbv this
        · exact skip rfl (by rw [hbv]; simp) this
    · rename_i hl
      obtain ⟨hdn, hge⟩ := get hl (by simp)
      obtain ⟨σ2, g1, g2, hk⟩ := putK_eq hb h
      refine ⟨.normal, σ2, H, mv, ⟨_, none_sound, ?_⟩, g2, hk⟩
      rw [oneA_false ho]
      simp only [runOps, ho, hg, hd, hge, g1]
    · exact h.elim
def fixW (P : Program) (G : Nat → Option PV) (n : Nat) (o : Oper) (σ : Env) (H : Heap) (mv : List Nat) (K : Post) : Prop :=
  match o.op, o.guard, o.dst with
  | .buildSlice t len parts, none, some d => match Nat.ble n d with
    | false => bldSlW P 0 t len (parts.toList.map fun p => (p.1, evS G σ p.2)) fun r => match r with
      | ⟨.sl _ 0 q, .new (.arr _ _ es)⟩ => match Nat.beq q es.length with
        | true => K .normal ((d, .p (.lst false es)) :: σ) H mv
        | false => False
      | _ => False
    | true => False
  | _, _, _ => False
def oneWB (P : Program) (G : Nat → Option PV) (pol : Pol) (bs : Bool) (n k : Nat) (ops : List Oper) (i : Nat) (σ : Env) (H : Heap) (mv : List Nat) (K : Post) : Prop :=
  match bs with
  | false => oneW P G pol n k ops i σ H mv K
  | true => match ops[i]? with
    | none => False
    | some o => match isBuildS o.op with
      | true => fixW P G n o σ H mv K
      | false => oneW P G pol n k ops i σ H mv K
def OneB (P : Program) (G : Nat → Option PV) (pol : Pol) (bs : Bool) (ops : Array Oper) (i : Nat) (fr : Fr) (ex : Ex) (fr' : Fr) : Prop :=
  ∃ C, SoundC P G C ∧ oneA P G pol bs C ops i fr = some (ex, fr')
theorem oneA_not {bs : Bool} {C : CallF} {ops : Array Oper} {i : Nat} {fr : Fr} {o : Oper} (ho : ops[i]? = some o) (hb : isBuildS o.op = false) : oneA P G pol bs C ops i fr = runOps P G pol C ops [i] fr := by
  unfold oneA
  rw [ho]
  simp [hb]
theorem oneWB_spec {bs : Bool} {ops : Array Oper} {i : Nat} {σ : Env} {H : Heap} {mv : List Nat} {K : Post} (hb : Bdd n σ) (h : oneWB P G pol bs n k ops.toList i σ H mv K) :
    ∃ ex σ' H' mv', OneB P G pol bs ops i ⟨toEnv n σ, H, k, mv⟩ ex ⟨toEnv n σ', H', k, mv'⟩ ∧ Bdd n σ' ∧ K ex σ' H' mv' := by
  unfold oneWB at h
  split at h
  · exact oneW_spec hb h
  · split at h
    case h_1 => exact h.elim
    rename_i o ho
    have ho : ops[i]? = some o := by simpa using ho
    split at h
    · rename_i hbs
      unfold fixW at h
      split at h
      case h_2 => exact h.elim
      rename_i t len parts d hop hgd hdst
      split at h
      case h_2 => exact h.elim
      rename_i hdn
      obtain ⟨r, hr, h⟩ := bldSlW_aop (H := Heap.at H) h
      split at h
      case h_2 => exact h.elim
      rename_i b q ty sz es
      split at h
      case h_2 => exact h.elim
      rename_i hq
      have hdn : d < n := by
        rcases Nat.lt_or_ge d n with h1 | h1
        · exact h1
        · rw [Nat.ble_eq_true_of_le h1] at hdn; cases hdn
      refine ⟨.normal, _, H, mv, ⟨fun _ _ _ => none, fun _ _ _ _ h => (by cases h), ?_⟩, hb.cons hdn _, h⟩
      unfold oneA
      rw [ho]
      simp only []
      rw [if_pos ⟨trivial, hbs⟩]
      unfold fixedB
      simp only [hop, hgd, hdst, evS_fun hb, hr]
      rw [if_pos (Nat.eq_of_beq_eq_true hq), toEnv_set]
    · rename_i hbs
      obtain ⟨ex, σ', H', mv', ⟨C, hC, h1⟩, h2, h3⟩ := oneW_spec hb h
      refine ⟨ex, σ', H', mv', ⟨C, hC, ?_⟩, h2, h3⟩
      rw [oneA_false ho] at h1
      rw [oneA_not ho hbs]
      exact h1
def opsW (P : Program) (G : Nat → Option PV) (pol : Pol) (n k : Nat) (ops : List Oper) : List Nat → Env → Heap → List Nat → Post → Prop
  | [], σ, H, mv, K => K .normal σ H mv
  | i :: l, σ, H, mv, K => oneW P G pol n k ops i σ H mv fun ex σ' H' mv' => match ex with
    | .normal => opsW P G pol n k ops l σ' H' mv' K
    | ex => K ex σ' H' mv'
def PostAt (n k : Nat) (B : Nat → Prop) (L : Loc) (w : World) (H : Heap) (mv : List Nat) (d : List Deferred) (K : Post) (e : Exit) (a' : Act) (w' : World) : Prop :=
  ∃ ex σ' H' mv', K ex σ' H' mv' ∧ Bdd n σ' ∧ EPost k B L w H mv d ex ⟨toEnv n σ', H', k, mv'⟩ e a' w'
theorem PostAt.trans {B B' : Nat → Prop} {L L' : Loc} {w w' : World} {H H' : Heap} {mv mv' : List Nat} {d : List Deferred} {K : Post} {e : Exit} {a' : Act} {w'' : World}
    (h : FS k B L w H mv B' L' w' H' mv') (g : PostAt n k B' L' w' H' mv' d K e a' w'') : PostAt n k B L w H mv d K e a' w'' := by
  obtain ⟨ex, σ2, H2, mv2, h1, h2, h3⟩ := g
  exact ⟨ex, σ2, H2, mv2, h1, h2, EPost.trans h h3⟩
theorem opsW_sound {ops : Array Oper} {Q : Exit → Act → World → Prop} : ∀ (l : List Nat) {σ : Env} {H : Heap} {mv : List Nat} {K : Post}, Bdd n σ → opsW P G pol n k ops.toList l σ H mv K →
    ∀ {B : Nat → Prop} {L : Loc} {w : World} {a : Act}, St B L w H → ERel B L w (toEnv n σ) a.tmps → GOk G B w → (∀ e a' w', PostAt n k B L w H mv a.defers K e a' w' → Q e a' w') → wpOps P ops Q l a w
  | [], σ, H, mv, K, hb, h, B, L, w, a, hst, he, hg, hQ => hQ _ _ _ ⟨.normal, σ, H, mv, h, hb, B, L, FS.refl _ _ _ _ _ _, he, hst, rfl, rfl, trivial⟩
  | i :: l, σ, H, mv, K, hb, h, B, L, w, a, hst, he, hg, hQ => by
    rw [wpOps_cons]
    obtain ⟨ex, σ', H', mv', ⟨C, hC, hone⟩, hb', hk⟩ := oneW_spec hb h
    refine oneA_sound (fr := ⟨toEnv n σ, H, k, mv⟩) hC hst he hg hone _ _ ?_ ?_
    · rintro a1 w1 ⟨B1, L1, hfs, he1, hst1, hk1, hd1, hm1⟩ hex
      subst hex
      refine opsW_sound l hb' hk hst1 he1 (hg.step (hfs.step hst)) fun e a2 w2 hp => hQ e a2 w2 ?_
      rw [hd1] at hp
      exact PostAt.trans hfs hp
    · rintro e a1 w1 hne hp
      have hex : ex ≠ .normal := by
        rintro rfl
        obtain ⟨_, _, _, _, _, _, _, hm⟩ := hp
        cases e <;> first | exact hne rfl | exact hm.elim
      refine hQ e a1 w1 ⟨ex, σ', H', mv', ?_, hb', hp⟩
      cases ex <;> first | exact absurd rfl hex | exact hk
end
end Go.Am
end
