/-
Regions that may come in any order: the walk through them.
-/
import Derived.Test.YtaoejccgdpppgaaGreatDoorPD
import Derived.Test.YtaoejccgdpppgaaGreatDoorProg
import Derived.KernelRfl
import Derived.Lib.AppendIntMem

section
namespace Go.Am
open Go
def At (tab : List Nat) (j : Nat) : Nat := (tab[j]?).getD 0
theorem aheadM_of {tab : List Nat} {i : Nat} : ∀ (es : List Edge) (e : Edge), e ∈ es → Region.binds .any e = true → (i = e.on ∨ (At tab e.on).testBit i = true) → (aheadM tab es).testBit i = true
  | [], e, he, _, _ => by simp at he
  | e' :: es, e, he, hb, hi => by
    simp only [aheadM]
    rcases List.mem_cons.1 he with rfl | he
    · rw [if_pos hb, Nat.testBit_or, Nat.testBit_or, Bool.or_eq_true, Bool.or_eq_true]
      rcases hi with rfl | hi
      · refine .inl (.inl ?_)
        rw [Nat.testBit_shiftLeft]
        simp
      · exact .inl (.inr hi)
    · have := aheadM_of es e he hb hi
      split
      · rw [Nat.testBit_or, this, Bool.or_true]
      · exact this
def TabOk (tab : List Nat) : Prop := (∀ i j, (At tab j).testBit i = true → i < j) ∧ ∀ i j m, (At tab j).testBit i = true → (At tab m).testBit j = true → (At tab m).testBit i = true
theorem At_append {tab : List Nat} {r j : Nat} : At (tab ++ [r]) j = if j < tab.length then At tab j else if j = tab.length then r else 0 := by
  unfold At
  rw [List.getElem?_append]
  split
  · rfl
  · rename_i h
    split
    · rename_i e; subst e; simp
    · rename_i e
      rw [List.getElem?_eq_none (by simp; omega)]; rfl
theorem ancTab_ok : ∀ (l : List Oper) (tab : List Nat), TabOk tab → (∀ (j : Nat) o, l[j]? = some o → ∀ e ∈ o.after, Region.binds .any e = true → e.on < tab.length + j) → TabOk (ancTab l tab)
  | [], tab, h, _ => h
  | o :: l, tab, h, hb => by
    simp only [ancTab]
    have hb0 := hb 0 o rfl
    have key : ∀ i, (aheadM tab o.after.toList).testBit i = true → ∃ e ∈ o.after.toList, Region.binds .any e = true ∧ e.on < tab.length ∧ (i = e.on ∨ (At tab e.on).testBit i = true) := by
      intro i hi
      obtain ⟨e, he, hbe, hor⟩ := aheadM_spec _ i hi
      exact ⟨e, he, hbe, by simpa using hb0 e (by simpa using he) hbe, hor⟩
    refine ancTab_ok l _ ⟨fun i j hij => ?_, fun i j m hij hjm => ?_⟩ fun j o' ho' e he hbe => ?_
    · rw [At_append] at hij
      split at hij
      · exact h.1 i j hij
      · split at hij
        · rename_i e1
          obtain ⟨e, _, _, hlt, hor⟩ := key i hij
          rcases hor with rfl | hor
          · omega
          · have := h.1 i e.on hor; omega
        · simp at hij
    · rw [At_append] at hjm
      split at hjm
      · rename_i hm
        have hj := h.1 j m hjm
        rw [At_append, if_pos (by omega)] at hij
        rw [At_append, if_pos hm]
        exact h.2 i j m hij hjm
      · split at hjm
        · rename_i hm0 hm
          obtain ⟨e, he, hbe, hlt, hor⟩ := key j hjm
          rw [At_append, if_neg hm0, if_pos hm]
          refine aheadM_of _ e he hbe (.inr ?_)
          rcases hor with rfl | hor
          · rw [At_append, if_pos hlt] at hij; exact hij
          · have hj := h.1 j e.on hor
            rw [At_append, if_pos (by omega)] at hij
            exact h.2 i j e.on hij hor
        · simp at hjm
    · have := hb (j + 1) o' (by simpa using ho') e he hbe
      simp only [List.length_append, List.length_cons, List.length_nil]
      omega
theorem backOk_spec {ops : Array Oper} (h : backOk ops = true) (j : Nat) (o : Oper) (ho : ops[j]? = some o) (e : Edge) (he : e ∈ o.after) (hb : Region.binds .any e = true) : e.on < j := by
  unfold backOk at h
  rw [List.all_eq_true] at h
  have := h j (by simpa using (Array.getElem?_eq_some_iff.1 ho).1)
  rw [ho] at this
  simp only [List.all_eq_true] at this
  have := this e (by simpa using he)
  simpa [hb] using this
theorem tab_ok {ops : Array Oper} (h : backOk ops = true) : TabOk (ancTab ops.toList []) := by
  refine ancTab_ok _ _ ⟨fun i j h => by simp [At] at h, fun i j m h => by simp [At] at h⟩ fun j o ho e he hb => ?_
  simp only [List.length_nil, Nat.zero_add]
  exact backOk_spec h j o (by simpa using ho) e he hb
section
variable {P : Program} {G : Nat → Option PV} {pol : Pol} {bs : Bool} {n k : Nat}
def eagerW (P : Program) (G : Nat → Option PV) (pol : Pol) (bs : Bool) (n k : Nat) (ops : List Oper) : List Nat → Env → Heap → List Nat → (Env → Prop) → Prop
  | [], σ, _, _, K => K σ
  | i :: l, σ, H, mv, K => oneWB P G pol bs n k ops i σ H mv fun ex σ' _ _ => match ex with
    | .normal => match guardD ops i with
      | some d => match Nat.ble n d with
        | false => (look σ' d).fK fun u => eagerW P G pol bs n k ops l ((d, u) :: σ) H mv K
        | true => False
      | none => False
    | _ => False
def againW (P : Program) (G : Nat → Option PV) (pol : Pol) (bs : Bool) (n k : Nat) (ops : List Oper) : List Nat → Env → Heap → List Nat → Prop → Prop
  | [], _, _, _, K => K
  | i :: l, σ, H, mv, K => oneWB P G pol bs n k ops i σ H mv fun ex σ' _ _ => match ex with
    | .normal => match guardD ops i with
      | some d => match Nat.ble n d with
        | false => Side (look σ' d = look σ d) (againW P G pol bs n k ops l σ H mv K)
        | true => False
      | none => False
    | _ => False
def plainCall (_pol : Pol) (G : Nat → Option PV) (o : Oper) (σ : Env) : Option (FuncId × List V) :=
  match o.guard, o.op with
  | none, .call ⟨.value g, args, _⟩ => match targetV (evS G σ g) with
    | some (f, cap) => match V.namesL (args.toList.map (evS G σ) ++ cap) with
      | [] => some (f, args.toList.map (evS G σ) ++ cap)
      | _ => none
    | none => none
  | _, _ => none
def chainW (P : Program) (G : Nat → Option PV) (pol : Pol) (bs : Bool) (n k : Nat) (ops : List Oper) (c : Nat) (σ : Env) (H : Heap) (mv : List Nat) (K : Bool → Post) : Prop :=
  match ops[c]? with
  | none => False
  | some o => match plainCall pol G o σ with
    | some (f, args) => match Nat.ble k (lenH H) with
      | true => mapK id args fun args => CallW P G f args [] fun cr => match cr with
        | ⟨.ret v, [], []⟩ => match v.names with
          | [] => (v.ren id).fK fun u => putK n σ o.dst u fun σ' => K false .normal σ' H mv
          | _ => False
        | ⟨.pan v, [], []⟩ => match v.names with
          | [] => (v.ren id).fK fun u => K false (.pan u) σ H mv
          | _ => False
        | cr => backW k (lenH H) [] σ H mv cr fun out σ' H' mv' => match out with
          | .ret v => putK n σ' o.dst v fun σ'' => K true .normal σ'' H' mv'
          | .pan v => K true (.pan v) σ' H' mv'
      | false => False
    | none => oneWB P G pol bs n k ops c σ H mv (K true)
def dstOk (ops : List Oper) (opsA : Array Oper) (tab simples chain : List Nat) : Bool := chain.all fun c => match guardD ops c with
  | none => true
  | some d => simples.all fun i => match ops[i]? with
    | none => true
    | some o => if (Oper.looksAt opsA o).contains d = true then isAnc tab c i || isAnc tab i c else true
def drawW (P : Program) (G : Nat → Option PV) (pol : Pol) (bs : Bool) (n k : Nat) (ops : List Oper) (tab simples : List Nat) : List Nat → Bool → Nat → List Nat → Env → Heap → List Nat → Post → Prop
  | [], chk, past, todo, σ, H, mv, K =>
    spineK (todo.filter (isNow tab (maskOf []))) fun l => eagerW P G pol bs n k ops l σ H mv fun σ1 =>
      match chk with
      | false => K .normal σ1 H mv
      | true => spineK (simples.filter fun i => isNow tab (maskOf []) i && !past.testBit i && !(todo.contains i)) fun os => againW P G pol bs n k ops os σ1 H mv (K .normal σ1 H mv)
  | c :: rest, chk, past, todo, σ, H, mv, K =>
    spineK (todo.filter (isNow tab (maskOf (c :: rest)))) fun l => eagerW P G pol bs n k ops l σ H mv fun σ1 =>
      match chk with
      | false => chainW P G pol bs n k ops c σ1 H mv fun b ex σ2 H2 mv2 => match ex with
        | .normal => spineK (todo.filter fun i => !isNow tab (maskOf (c :: rest)) i) fun todo' => drawW P G pol bs n k ops tab simples rest b (past ||| ((tab[c]?).getD 0)) todo' σ2 H2 mv2 K
        | .pan v => K (.pan v) [] H2 mv2
        | _ => False
      | true => spineK (simples.filter fun i => isNow tab (maskOf (c :: rest)) i && !past.testBit i && !(todo.contains i)) fun os => againW P G pol bs n k ops os σ1 H mv
        (chainW P G pol bs n k ops c σ1 H mv fun b ex σ2 H2 mv2 => match ex with
        | .normal => spineK (todo.filter fun i => !isNow tab (maskOf (c :: rest)) i) fun todo' => drawW P G pol bs n k ops tab simples rest b (past ||| ((tab[c]?).getD 0)) todo' σ2 H2 mv2 K
        | .pan v => K (.pan v) [] H2 mv2
        | _ => False)
def regionB (P : Program) (G : Nat → Option PV) (pol : Pol) (bs : Bool) (n k : Nat) (ops : Array Oper) (σ : Env) (H : Heap) (mv : List Nat) (K : Post) (Else : Prop) : Prop :=
  spineK (ancTab ops.toList []) fun tab =>
    spineK ((List.range ops.size).filter (isSimple P bs ops tab)) fun simples =>
      spineK ((List.range ops.size).filter fun i => !isSimple P bs ops tab i) fun chain =>
        match backOk ops && (chainOk tab chain && dstOk ops.toList ops tab simples chain) with
        | true => drawW P G pol bs n k ops.toList tab simples chain false 0 simples σ H mv K
        | false => Else
def tabsOk (P : Program) (bs : Bool) (ops : Array Oper) (T : List Nat × List Nat × List Nat) : Bool :=
  decide (T.1 = ancTab ops.toList []) && (decide (T.2.1 = (List.range ops.size).filter (isSimple P bs ops (ancTab ops.toList []))) && (decide (T.2.2 = (List.range ops.size).filter fun i => !isSimple P bs ops (ancTab ops.toList []) i) &&
    (backOk ops && (chainOk T.1 T.2.2 && dstOk ops.toList ops T.1 T.2.1 T.2.2))))
structure TabsW (P : Program) (ops : Array Oper) (K : Bool → List Nat → List Nat → List Nat → Prop) : Prop where
  ex : ∃ (bs : Bool) (T : List Nat × List Nat × List Nat), tabsOk P bs ops T = true ∧ K bs T.1 T.2.1 T.2.2
theorem TabsW.lit {P : Program} {ops : Array Oper} {K : Bool → List Nat → List Nat → List Nat → Prop} (T : List Nat × List Nat × List Nat) (h : tabsOk P false ops T = true) (k : K false T.1 T.2.1 T.2.2) : TabsW P ops K := ⟨false, T, h, k⟩
def regionW (P : Program) (G : Nat → Option PV) (pol : Pol) (n k : Nat) (ops : Array Oper) (σ : Env) (H : Heap) (mv : List Nat) (K : Post) : Prop :=
  match Nat.ble ops.size 24 with
  | true => regionB P G pol false n k ops σ H mv K (regionB P G pol true n k ops σ H mv K False)
  | false => TabsW P ops fun bs tab simples chain => drawW P G pol bs n k ops.toList tab simples chain false 0 simples σ H mv K
theorem regionW_old {P : Program} {G : Nat → Option PV} {pol : Pol} {n k : Nat} {ops : Array Oper} {σ : Env} {H : Heap} {mv : List Nat} {K : Post} (h : regionW P G pol n k ops σ H mv K) : ∃ bs, regionB P G pol bs n k ops σ H mv K False := by
  unfold regionW at h
  split at h
  · unfold regionB at h
    rw [spineK_eq, spineK_eq, spineK_eq] at h
    split at h
    · rename_i hc
      refine ⟨false, ?_⟩
      unfold regionB
      rw [spineK_eq, spineK_eq, spineK_eq, hc]
      exact h
    · exact ⟨true, h⟩
  · obtain ⟨bs, ⟨tab, simples, chain⟩, ht, hk⟩ := h.ex
    refine ⟨bs, ?_⟩
    unfold tabsOk at ht
    simp only [Bool.and_eq_true, decide_eq_true_eq] at ht
    obtain ⟨h1, h2, h3, h4, h5, h6⟩ := ht
    subst h1
    subst h2
    subst h3
    unfold regionB
    rw [spineK_eq, spineK_eq, spineK_eq]
    rw [h4, h5, h6]
    exact hk
theorem guardD_slot {ops : Array Oper} {i : Nat} : guardD ops.toList i = slotOf ops i := by
  unfold guardD slotOf
  rw [Array.getElem?_toList]
  cases ops[i]? <;> rfl
mutual
theorem V.ren_congr {f g : Nat → Nat} : ∀ (v : V), (∀ m ∈ v.names, f m = g m) → v.ren f = v.ren g
  | .p d, _ => rfl
  | .ptr a b, h => by simp only [V.ren, h a (by simp [V.names])]
  | .eptr a b c, h => by simp only [V.ren, h a (by simp [V.names])]
  | .sl a b c, h => by simp only [V.ren, h a (by simp [V.names])]
  | .mapr a, h => by simp only [V.ren, h a (by simp [V.names])]
  | .func q l, h => by simp only [V.ren, V.renL_congr l (by simpa [V.names] using h)]
  | .agg l, h => by simp only [V.ren, V.renL_congr l (by simpa [V.names] using h)]
  | .tup l, h => by simp only [V.ren, V.renL_congr l (by simpa [V.names] using h)]
  | .iface t v, h => by simp only [V.ren, V.ren_congr v (by simpa [V.names] using h)]
  | .junk, _ => rfl
theorem V.renL_congr {f g : Nat → Nat} : ∀ (l : List V), (∀ m ∈ V.namesL l, f m = g m) → V.renL f l = V.renL g l
  | [], _ => rfl
  | x :: l, h => by
    simp only [V.namesL, List.mem_append] at h
    simp only [V.renL, V.ren_congr x (fun m hm => h m (.inl hm)), V.renL_congr l (fun m hm => h m (.inr hm))]
end
mutual
theorem V.ren_id : ∀ (v : V), v.ren id = v
  | .p d => rfl
  | .ptr a b => rfl
  | .eptr a b c => rfl
  | .sl a b c => rfl
  | .mapr a => rfl
  | .func q l => by simp only [V.ren, V.renL_id l]
  | .agg l => by simp only [V.ren, V.renL_id l]
  | .tup l => by simp only [V.ren, V.renL_id l]
  | .iface t v => by simp only [V.ren, V.ren_id v]
  | .junk => rfl
theorem V.renL_id : ∀ (l : List V), V.renL id l = l
  | [] => rfl
  | x :: l => by simp only [V.renL, V.ren_id x, V.renL_id l]
end
theorem toEnv_some {σ : Env} {d : Nat} (hd : Nat.ble n d = false) : (toEnv n σ)[d]? = some (look σ d) := by
  rw [toEnv_get, if_pos]
  rcases Nat.lt_or_ge d n with h1 | h1
  · exact h1
  · rw [Nat.ble_eq_true_of_le h1] at hd; cases hd
theorem ble_lt {d : Nat} (hd : Nat.ble n d = false) : d < n := by
  rcases Nat.lt_or_ge d n with h1 | h1
  · exact h1
  · rw [Nat.ble_eq_true_of_le h1] at hd; cases hd
theorem eagerW_spec {ops : Array Oper} {H : Heap} {mv : List Nat} : ∀ (l : List Nat) {σ : Env} {K : Env → Prop}, Bdd n σ → eagerW P G pol bs n k ops.toList l σ H mv K →
    ∃ σ', EagerP P G pol bs ops l ⟨toEnv n σ, H, k, mv⟩ ⟨toEnv n σ', H, k, mv⟩ ∧ Bdd n σ' ∧ K σ'
  | [], σ, K, hb, h => ⟨σ, rfl, hb, h⟩
  | i :: l, σ, K, hb, h => by
    unfold eagerW at h
    obtain ⟨ex, σ1, H1, mv1, hone, hb1, h⟩ := oneWB_spec hb h
    cases ex <;> simp only [] at h
    split at h
    case h_2 => exact h.elim
    rename_i d hd
    split at h
    case h_2 => exact h.elim
    rename_i hdn
    rw [V.fK_eq] at h
    obtain ⟨σ', h1, h2, h3⟩ := eagerW_spec l (hb.cons (ble_lt hdn) _) h
    refine ⟨σ', ⟨d, look σ1 d, by rw [← guardD_slot]; exact hd, ⟨_, d, hone, by rw [← guardD_slot]; exact hd, toEnv_some hdn⟩, ?_⟩, h2, h3⟩
    simp only [toEnv_set]
    exact h1
theorem againW_spec {ops : Array Oper} {H : Heap} {mv : List Nat} {σ : Env} {K : Prop} (hb : Bdd n σ) : ∀ (l : List Nat), againW P G pol bs n k ops.toList l σ H mv K →
    (∀ i ∈ l, IdemP P G pol bs ops ⟨toEnv n σ, H, k, mv⟩ i) ∧ K
  | [], h => ⟨by simp, h⟩
  | i :: l, h => by
    unfold againW at h
    obtain ⟨ex, σ1, H1, mv1, hone, hb1, h⟩ := oneWB_spec hb h
    cases ex <;> simp only [] at h
    split at h
    case h_2 => exact h.elim
    rename_i d hd
    split at h
    case h_2 => exact h.elim
    rename_i hdn
    obtain ⟨he, h⟩ := h
    obtain ⟨h1, h2⟩ := againW_spec hb l h
    refine ⟨fun j hj => ?_, h2⟩
    rcases List.mem_cons.1 hj with rfl | hj
    · exact ⟨d, look σ d, by rw [← guardD_slot]; exact hd, ⟨_, d, hone, by rw [← guardD_slot]; exact hd, by rw [← he]; exact toEnv_some hdn⟩, toEnv_some hdn⟩
    · exact h1 j hj
theorem idem_agree {ops : Array Oper} {i d : Nat} {o : Oper} (ho : ops[i]? = some o) (hd : o.dst = some d) (hs : simpleK P bs o.op = true) {F1 F2 : Fr} (hH : F2.H = F1.H)
    (hag : ∀ t ∈ Oper.looksAt ops o, F2.env[t]? = F1.env[t]?) (hsl : F2.env[d]? = F1.env[d]?) (h : IdemP P G pol bs ops F1 i) : IdemP P G pol bs ops F2 i := by
  have hso : slotOf ops i = some d := by simp [slotOf, ho, hd]
  obtain ⟨d', v, hd', ⟨fr1, d'', ⟨C, hC, hone⟩, hd'', hv⟩, hu⟩ := h
  rw [hso] at hd' hd''
  cases hd'
  cases hd''
  have := oneA_agree ho hd hs hH hag hone hv
  have hlt : d < F2.env.length := by
    rw [hu] at hsl
    exact (List.getElem?_eq_some_iff.1 hsl).1
  exact ⟨d, v, hso, ⟨_, d, ⟨C, hC, this⟩, hso, by simp [hlt]⟩, by rw [hsl]; exact hu⟩
variable {ops : Array Oper} {tab simples chain : List Nat}
theorem eager_idem (hok : TabOk tab) (hsimp : ∀ i, i ∈ simples → isSimple P bs ops tab i = true) : ∀ (l : List Nat), l.Pairwise (· < ·) → (∀ i ∈ l, i ∈ simples) → ∀ {fr F : Fr}, EagerP P G pol bs ops l fr F → ∀ i ∈ l, IdemP P G pol bs ops F i
  | [], _, _, fr, F, _, i, hi => by simp at hi
  | j :: l, hp, hm, fr, F, h, i, hi => by
    obtain ⟨d, v, hslot, ⟨fr', d', ⟨C, hC, hone⟩, hd', hv⟩, hrest⟩ := h
    rw [hslot] at hd'
    cases hd'
    rw [List.pairwise_cons] at hp
    rcases List.mem_cons.1 hi with rfl | hi
    · obtain ⟨o, dd, ho, hdst, hsk, hlk, hw⟩ := isSimple_spec (hsimp i (hm i (by simp)))
      have hdd : dd = d := by simp only [slotOf, ho, Option.bind_some, hdst, Option.some.injEq] at hslot; exact hslot
      subst hdd
      obtain ⟨_, v', hfr'⟩ := oneA_simple ho hdst hsk hone
      have hlt : dd < fr.env.length := by
        rw [hfr'] at hv
        have := (List.getElem?_eq_some_iff.1 hv).1
        simpa using this
      have self : ∀ t ∈ Oper.looksAt ops o, t ≠ dd := by
        rintro t ht rfl
        have := hlk i o ho ht
        exact absurd (hok.1 i i this) (Nat.lt_irrefl _)
      have h1 : IdemP P G pol bs ops { fr with env := fr.env.set dd v } i := by
        have := oneA_agree (F1 := fr) (F2 := { fr with env := fr.env.set dd v }) ho hdst hsk rfl (fun t ht => by simp only []; rw [List.getElem?_set_ne (fun e => self t ht e.symm)]) hone hv
        exact ⟨dd, v, hslot, ⟨_, dd, ⟨C, hC, this⟩, hslot, by simp [hlt]⟩, by simp [hlt]⟩
      obtain ⟨g1, g2, g3, g4, g5⟩ := eagerP_spec l hrest
      have apart : ∀ j ∈ l, ∀ x, slotOf ops j = some x → x ∉ Oper.looksAt ops o ∧ x ≠ dd := by
        intro j hj x hx
        obtain ⟨oj, dj, hoj, hdj, _, hlkj, hwj⟩ := isSimple_spec (hsimp j (hm j (List.mem_cons_of_mem _ hj)))
        have hxd : x = dj := by simp only [slotOf, hoj, Option.bind_some, hdj, Option.some.injEq] at hx; exact hx.symm
        subst hxd
        have hij := hp.1 j hj
        refine ⟨fun hmem => ?_, fun e => ?_⟩
        · have := hok.1 j i (hlkj i o ho hmem)
          omega
        · subst e
          have := hok.1 j i (hwj i o ho (by omega) hdst)
          omega
      refine idem_agree ho hdst hsk g1 (fun t ht => g5 t fun j hj e => ?_) (g5 dd fun j hj e => ?_) h1
      · exact (apart j hj t e).1 ht
      · exact (apart j hj dd e).2 rfl
    · exact eager_idem hok hsimp l hp.2 (fun i hi => hm i (List.mem_cons_of_mem _ hi)) hrest i hi
def afterCall (dst : Option Tmp) : Out → Fr → Option (Ex × Fr)
  | .ret v, fr => some (.normal, { fr with env := putO fr.env dst v })
  | .pan v, fr => some (.pan v, fr)
theorem plainCall_run {C : CallF} {c : Nat} {o : Oper} {σ : Env} {H : Heap} {mv : List Nat} {f : FuncId} {args : List V} (hb : Bdd n σ) (ho : ops[c]? = some o) (hpc : plainCall pol G o σ = some (f, args))
    {out : Out} {σ' : Env} {H' : Heap} {mv' : List Nat} (hcall : callS C ⟨toEnv n σ, H, k, mv⟩ f args = some (out, ⟨toEnv n σ', H', k, mv'⟩)) :
    oneA P G pol bs C ops c ⟨toEnv n σ, H, k, mv⟩ = afterCall o.dst out ⟨toEnv n σ', H', k, mv'⟩ := by
  unfold plainCall at hpc
  split at hpc
  case h_2 => cases hpc
  rename_i g ags ts hg hop
  split at hpc
  case h_2 => cases hpc
  rename_i f' cap ht
  split at hpc
  case h_2 => cases hpc
  rename_i hns
  simp only [Option.some.injEq, Prod.mk.injEq] at hpc
  obtain ⟨rfl, rfl⟩ := hpc
  rw [oneA_not ho (by rw [hop]; rfl)]
  simp only [runOps, ho, hg, stepOp, hop, callOp, evS_fun hb, ht, hns, List.filter_nil, Fr.freezeAll, ite_self]
  rw [hcall]
  cases out <;> rfl
theorem callS_none {C : CallF} {σ : Env} {H : Heap} {mv : List Nat} {f : FuncId} {args : List V} {out : Out} (hns : V.namesL args = []) (hC : C f args [] = some ⟨out, [], []⟩) (hk : Nat.ble k (lenH H) = true) (hon : outNames out = []) :
    callS C ⟨toEnv n σ, H, k, mv⟩ f args = some (out.ren id, ⟨toEnv n σ, H, k, mv⟩) := by
  have hargs : args.map (V.ren (([] : List Nat).idxOf ·)) = args := by
    have : ∀ (l : List V), V.namesL l = [] → l.map (V.ren (([] : List Nat).idxOf ·)) = l := by
      intro l hl
      induction l with
      | nil => rfl
      | cons x l ih =>
        simp only [V.namesL, List.append_eq_nil_iff] at hl
        rw [List.map_cons, ih hl.2]
        congr 1
        have h1 := V.ren_congr (f := (([] : List Nat).idxOf ·)) (g := id) x (by rw [hl.1]; simp)
        rw [h1]
        exact V.ren_id x
    exact this args hns
  unfold callS
  simp only [hns]
  have hr : reachL (Heap.at H) 200 [] [] = [] := rfl
  rw [hr, hargs]
  have hc : closedN (Heap.at H) [] = true := rfl
  rw [if_pos ⟨by simp, hc, List.nodup_nil⟩]
  simp only [List.map_nil, hC]
  rw [if_pos ⟨by simp, by simp, by simp, by rw [lenH_eq] at hk; exact Nat.le_of_ble_eq_true hk, by rw [hon]; simp, by simp⟩]
  have : out.ren (backN [] H.length) = out.ren id := by
    cases out with
    | ret v => simp only [Out.ren]; rw [V.ren_congr (g := id) v (by simp only [outNames] at hon; rw [hon]; simp)]
    | pan v => simp only [Out.ren]; rw [V.ren_congr (g := id) v (by simp only [outNames] at hon; rw [hon]; simp)]
  simp only [this, List.map_nil, killAll, Heap.killAll, Heap.putAll, List.foldl_nil, List.length_nil, List.range_zero]
end
end Go.Am
end

section
namespace Go.Am
open Go
section
variable {P : Program} {G : Nat → Option PV} {pol : Pol} {bs : Bool} {n k : Nat}
theorem ren_nil (l : List V) (hl : V.namesL l = []) : l.map (V.ren (([] : List Nat).idxOf ·)) = l := by
  induction l with
  | nil => rfl
  | cons x l ih =>
    simp only [V.namesL, List.append_eq_nil_iff] at hl
    rw [List.map_cons, ih hl.2]
    congr 1
    rw [V.ren_congr (f := (([] : List Nat).idxOf ·)) (g := id) x (by rw [hl.1]; simp)]
    exact V.ren_id x
theorem plainCall_names {o : Oper} {σ : Env} {f : FuncId} {args : List V} (hpc : plainCall pol G o σ = some (f, args)) : V.namesL args = [] := by
  unfold plainCall at hpc
  split at hpc
  case h_2 => cases hpc
  split at hpc
  case h_2 => cases hpc
  split at hpc
  case h_2 => cases hpc
  rename_i hns
  simp only [Option.some.injEq, Prod.mk.injEq] at hpc
  obtain ⟨rfl, rfl⟩ := hpc
  exact hns
theorem chainW_spec {ops : Array Oper} {c : Nat} {σ : Env} {H : Heap} {mv : List Nat} {K : Bool → Post} (hb : Bdd n σ) (h : chainW P G pol bs n k ops.toList c σ H mv K) :
    ∃ b ex σ' H' mv', OneB P G pol bs ops c ⟨toEnv n σ, H, k, mv⟩ ex ⟨toEnv n σ', H', k, mv'⟩ ∧ Bdd n σ' ∧ (b = false → ex = .normal → H' = H ∧ mv' = mv ∧ ∀ x, slotOf ops c ≠ some x → (toEnv n σ')[x]? = (toEnv n σ)[x]?) ∧ K b ex σ' H' mv' := by
  unfold chainW at h
  split at h
  case h_1 => exact h.elim
  rename_i o ho
  have ho : ops[c]? = some o := by simpa using ho
  split at h
  · rename_i f args hpc
    have hns := plainCall_names hpc
    split at h
    case h_2 => exact h.elim
    rename_i hk
    rw [mapK_eq, List.map_id] at h
    obtain ⟨cr, hcr, h⟩ := h
    split at h
    · rename_i v
      split at h
      case h_2 => exact h.elim
      rename_i hv
      rw [V.fK_eq] at h
      obtain ⟨σ2, g1, g2, hK⟩ := putK_eq hb h
      have hcs := callS_none (n := n) (k := k) (σ := σ) (H := H) (mv := mv) hns (oneC_at (f := f) (args := args) (H := []) (cr := ⟨.ret v, [], []⟩)) hk (show outNames (.ret v) = [] from hv)
      refine ⟨false, .normal, σ2, H, mv, ⟨_, oneC_sound hcr, ?_⟩, g2, fun _ _ => ⟨rfl, rfl, fun x hx => ?_⟩, hK⟩
      · rw [plainCall_run hb ho hpc hcs]
        simp only [Out.ren, afterCall, g1]
      · rw [← g1]
        have hso : slotOf ops c = o.dst := by simp [slotOf, ho]
        rw [hso] at hx
        cases hd : o.dst with
        | none => rfl
        | some d =>
          simp only [putO]
          rw [List.getElem?_set_ne]
          rintro rfl
          exact hx hd
    · rename_i v
      split at h
      case h_2 => exact h.elim
      rename_i hv
      rw [V.fK_eq] at h
      have hcs := callS_none (n := n) (k := k) (σ := σ) (H := H) (mv := mv) hns (oneC_at (f := f) (args := args) (H := []) (cr := ⟨.pan v, [], []⟩)) hk (show outNames (.pan v) = [] from hv)
      refine ⟨false, _, σ, H, mv, ⟨_, oneC_sound hcr, ?_⟩, hb, fun _ e => (by cases e), h⟩
      rw [plainCall_run hb ho hpc hcs]
      rfl
    · have hcw : callW P G k f args σ H mv fun out σ' H' mv' => match out with
          | .ret v => putK n σ' o.dst v fun σ'' => K true .normal σ'' H' mv'
          | .pan v => K true (.pan v) σ' H' mv' := by
        unfold callW
        rw [hns]
        have hr : reachL (Heap.at H) 200 [] [] = [] := rfl
        rw [hr, spineK_eq]
        have hc : closedN (Heap.at H) [] = true := rfl
        simp only [List.all_nil, hc, List.nodup_nil, decide_true, Bool.and_self, List.map_nil, mapK_eq, heapK_eq]
        rw [ren_nil args hns]
        exact ⟨cr, hcr, h⟩
      obtain ⟨C, hC, out, σ', H', mv', h1, h2, h3⟩ := callW_spec hb hcw
      cases out with
      | ret v =>
        simp only [] at h3
        obtain ⟨σ2, g1, g2, hK⟩ := putK_eq h2 h3
        refine ⟨true, .normal, σ2, H', mv', ⟨C, hC, ?_⟩, g2, fun e => (by cases e), hK⟩
        rw [plainCall_run hb ho hpc h1]
        simp only [afterCall, g1]
      | pan v =>
        refine ⟨true, _, σ', H', mv', ⟨C, hC, ?_⟩, h2, fun e => (by cases e), h3⟩
        rw [plainCall_run hb ho hpc h1]
        rfl
  · obtain ⟨ex, σ', H', mv', h1, h2, h3⟩ := oneWB_spec hb h
    exact ⟨true, ex, σ', H', mv', h1, h2, fun e => (by cases e), h3⟩
theorem toEnv_nil (e : List V) (n : Nat) (h : e.length = n) : allJunk e = toEnv n [] := by
  apply List.ext_getElem?
  intro i
  simp only [allJunk, List.getElem?_map, toEnv_get, look]
  split
  · rename_i hi
    rw [List.getElem?_eq_getElem (by omega)]; rfl
  · rename_i hi
    rw [List.getElem?_eq_none (by omega)]; rfl
variable {ops : Array Oper} {tab simples chain : List Nat}
theorem now_of {rest : List Nat} {i : Nat} (h : isNow tab (maskOf rest) i = true) : ∀ c ∈ rest, isAnc tab c i = false := fun _ hc => now_spec h hc
theorem of_now {rest : List Nat} {i : Nat} (h : ∀ c ∈ rest, isAnc tab c i = false) : isNow tab (maskOf rest) i = true := by
  cases hq : isNow tab (maskOf rest) i with
  | true => rfl
  | false =>
    obtain ⟨c, hc, ha⟩ := notNow_spec hq
    rw [h c hc] at ha; cases ha
structure DInv (P : Program) (ops : Array Oper) (tab simples rest : List Nat) (todo : List Nat) : Prop where
  sorted : todo.Pairwise (· < ·)
  sub : ∀ i ∈ todo, i ∈ simples
  now : ∀ i ∈ simples, i ∉ todo → ∀ c ∈ rest, isAnc tab c i = false
  apart : ∀ i ∈ simples, i ∉ todo → ∀ j ∈ todo, isAnc tab j i = false
theorem isAnc_At {i j : Nat} : isAnc tab i j = (At tab j).testBit i := rfl
theorem DInv.next (hok : TabOk tab) {c : Nat} {rest todo : List Nat} (h : DInv P ops tab simples (c :: rest) todo) : DInv P ops tab simples rest (todo.filter fun i => !isNow tab (maskOf (c :: rest)) i) := by
  have was : ∀ i ∈ simples, i ∉ (todo.filter fun i => !isNow tab (maskOf (c :: rest)) i) → ∀ c' ∈ c :: rest, isAnc tab c' i = false := by
    intro i hi hn c' hc'
    by_cases ht : i ∈ todo
    · have : isNow tab (maskOf (c :: rest)) i = true := by
        cases hq : isNow tab (maskOf (c :: rest)) i with
        | true => rfl
        | false => exact absurd (List.mem_filter.2 ⟨ht, by rw [hq]; rfl⟩) hn
      exact now_of this c' hc'
    · exact h.now i hi ht c' hc'
  refine ⟨h.sorted.filter _, fun i hi => h.sub i (List.mem_filter.1 hi).1, fun i hi hn c' hc' => was i hi hn c' (List.mem_cons_of_mem _ hc'), fun i hi hn j hj => ?_⟩
  obtain ⟨hj1, hj2⟩ := List.mem_filter.1 hj
  obtain ⟨c', hc', hcj⟩ := notNow_spec (show isNow tab (maskOf (c :: rest)) j = false by simpa using hj2)
  cases hq : isAnc tab j i with
  | false => rfl
  | true =>
    have := hok.2 c' j i hcj hq
    have h2 := was i hi hn c' hc'
    rw [isAnc_At, this] at h2; cases h2
theorem idem_keep (_hok : TabOk tab) (hsimp : ∀ i, i ∈ simples → isSimple P bs ops tab i = true) {rest todo : List Nat} (hinv : DInv P ops tab simples rest todo) {l : List Nat} (hl : ∀ i ∈ l, i ∈ todo) {fr F : Fr} (h : EagerP P G pol bs ops l fr F)
    {i : Nat} (hi : i ∈ simples) (hn : i ∉ todo) (hid : IdemP P G pol bs ops fr i) : IdemP P G pol bs ops F i := by
  obtain ⟨g1, g2, g3, g4, g5⟩ := eagerP_spec l h
  obtain ⟨o, d, ho, hdst, hsk, hlk, hw⟩ := isSimple_spec (hsimp i hi)
  have key : ∀ j ∈ l, ∀ x, slotOf ops j = some x → x ∉ Oper.looksAt ops o ∧ x ≠ d := by
    intro j hj x hx
    have hjt := hl j hj
    obtain ⟨oj, dj, hoj, hdj, _, hlkj, hwj⟩ := isSimple_spec (hsimp j (hinv.sub j hjt))
    have hxd : x = dj := by simp only [slotOf, hoj, Option.bind_some, hdj, Option.some.injEq] at hx; exact hx.symm
    subst hxd
    have hap := hinv.apart i hi hn j hjt
    refine ⟨fun hm => ?_, fun e => ?_⟩
    · rw [hlkj i o ho hm] at hap; cases hap
    · subst e
      have hne : i ≠ j := by rintro rfl; exact hn hjt
      rw [hwj i o ho hne hdst] at hap; cases hap
  exact idem_agree ho hdst hsk g1 (fun t ht => g5 t fun j hj e => (key j hj t e).1 ht) (g5 d fun j hj e => (key j hj d e).2 rfl) hid
theorem dstOk_spec (h : dstOk ops.toList ops tab simples chain = true) {c d i : Nat} {o : Oper} (hc : c ∈ chain) (hd : slotOf ops c = some d) (hi : i ∈ simples) (ho : ops[i]? = some o) (hl : d ∈ Oper.looksAt ops o) : isAnc tab c i = true ∨ isAnc tab i c = true := by
  unfold dstOk at h
  rw [List.all_eq_true] at h
  have := h c hc
  rw [guardD_slot, hd] at this
  simp only [List.all_eq_true] at this
  have := this i hi
  rw [Array.getElem?_toList, ho] at this
  simp only [] at this
  rw [if_pos (by simpa using hl)] at this
  simpa using this
theorem drawW_spec (hok : TabOk tab) (hsimp : ∀ i, i ∈ simples → isSimple P bs ops tab i = true) (hns : ∀ c ∈ chain, isSimple P bs ops tab c = false) (hdst : dstOk ops.toList ops tab simples chain = true) :
    ∀ (rest : List Nat) (chk : Bool) (past : Nat) (todo : List Nat) {σ : Env} {H : Heap} {mv : List Nat} {K : Post}, Bdd n σ → (∀ c ∈ rest, c ∈ chain) → DInv P ops tab simples rest todo →
      (chk = false → ∀ i ∈ simples, i ∉ todo → past.testBit i = false → IdemP P G pol bs ops ⟨toEnv n σ, H, k, mv⟩ i) → drawW P G pol bs n k ops.toList tab simples rest chk past todo σ H mv K →
      ∃ ex σ' H' mv', (∃ F2, EagerP P G pol bs ops (todo.filter (isNow tab (maskOf rest))) ⟨toEnv n σ, H, k, mv⟩ F2 ∧ (∀ i ∈ simples, isNow tab (maskOf rest) i = true → past.testBit i = false → IdemP P G pol bs ops F2 i) ∧
        ContP P G pol bs ops tab simples rest past todo F2 ex ⟨toEnv n σ', H', k, mv'⟩) ∧ Bdd n σ' ∧ K ex σ' H' mv' := by
  intro rest
  -- those that come now, and those that came
  have stage : ∀ (rest : List Nat) (chk : Bool) (past : Nat) (todo : List Nat) {σ : Env} {H : Heap} {mv : List Nat} {R : Env → Prop}, Bdd n σ → DInv P ops tab simples rest todo →
      (chk = false → ∀ i ∈ simples, i ∉ todo → past.testBit i = false → IdemP P G pol bs ops ⟨toEnv n σ, H, k, mv⟩ i) →
      (spineK (todo.filter (isNow tab (maskOf rest))) fun l => eagerW P G pol bs n k ops.toList l σ H mv fun σ1 =>
        match chk with
        | false => R σ1
        | true => spineK (simples.filter fun i => isNow tab (maskOf rest) i && !past.testBit i && !(todo.contains i)) fun os => againW P G pol bs n k ops.toList os σ1 H mv (R σ1)) →
      ∃ σ1, EagerP P G pol bs ops (todo.filter (isNow tab (maskOf rest))) ⟨toEnv n σ, H, k, mv⟩ ⟨toEnv n σ1, H, k, mv⟩ ∧ Bdd n σ1 ∧ (∀ i ∈ simples, isNow tab (maskOf rest) i = true → past.testBit i = false → IdemP P G pol bs ops ⟨toEnv n σ1, H, k, mv⟩ i) ∧ R σ1 := by
    intro rest chk past todo σ H mv R hb hinv hid h
    rw [spineK_eq] at h
    obtain ⟨σ1, h1, h2, h⟩ := eagerW_spec _ hb h
    have new := eager_idem hok hsimp _ (hinv.sorted.filter _) (fun i hi => hinv.sub i (List.mem_filter.1 hi).1) h1
    have hsub : ∀ i ∈ todo.filter (isNow tab (maskOf rest)), i ∈ todo := fun i hi => (List.mem_filter.1 hi).1
    cases chk with
    | false =>
      refine ⟨σ1, h1, h2, fun i hi hnow hp => ?_, h⟩
      by_cases ht : i ∈ todo
      · exact new i (List.mem_filter.2 ⟨ht, hnow⟩)
      · exact idem_keep hok hsimp hinv hsub h1 hi ht (hid rfl i hi ht hp)
    | true =>
      simp only [spineK_eq] at h
      obtain ⟨ha, hR⟩ := againW_spec h2 _ h
      refine ⟨σ1, h1, h2, fun i hi hnow hp => ?_, hR⟩
      by_cases ht : i ∈ todo
      · exact new i (List.mem_filter.2 ⟨ht, hnow⟩)
      · exact ha i (List.mem_filter.2 ⟨hi, by simp [hnow, hp, ht]⟩)
  induction rest with
  | nil =>
    intro chk past todo σ H mv K hb hrest hinv hid h
    obtain ⟨σ1, h1, h2, h3, h4⟩ := stage [] chk past todo (R := fun σ1 => K .normal σ1 H mv) hb hinv hid (by unfold drawW at h; exact h)
    exact ⟨.normal, σ1, H, mv, ⟨_, h1, h3, rfl, rfl⟩, h2, h4⟩
  | cons c rest ih =>
    intro chk past todo σ H mv K hb hrest hinv hid h
    obtain ⟨σ1, h1, h2, h3, h4⟩ := stage (c :: rest) chk past todo (R := fun σ1 => chainW P G pol bs n k ops.toList c σ1 H mv fun b ex σ2 H2 mv2 => match ex with
        | .normal => spineK (todo.filter fun i => !isNow tab (maskOf (c :: rest)) i) fun todo' => drawW P G pol bs n k ops.toList tab simples rest b (past ||| ((tab[c]?).getD 0)) todo' σ2 H2 mv2 K
        | .pan v => K (.pan v) [] H2 mv2
        | _ => False) hb hinv hid (by unfold drawW at h; exact h)
    obtain ⟨b, ex, σ2, H2, mv2, hone, hb2, hpure, hK⟩ := chainW_spec h2 h4
    have hcc := hrest c (by simp)
    cases ex with
    | normal =>
      simp only [spineK_eq] at hK
      have hinv' := hinv.next (P := P) (ops := ops) hok
      have hid' : b = false → ∀ i ∈ simples, i ∉ (todo.filter fun i => !isNow tab (maskOf (c :: rest)) i) → (past ||| ((tab[c]?).getD 0)).testBit i = false → IdemP P G pol bs ops ⟨toEnv n σ2, H2, k, mv2⟩ i := by
        intro hbf i hi hn hp
        obtain ⟨rfl, rfl, hsame⟩ := hpure hbf rfl
        rw [Nat.testBit_or, Bool.or_eq_false_iff] at hp
        have hnow : ∀ c' ∈ c :: rest, isAnc tab c' i = false := by
          intro c' hc'
          by_cases ht : i ∈ todo
          · have : isNow tab (maskOf (c :: rest)) i = true := by
              cases hq : isNow tab (maskOf (c :: rest)) i with
              | true => rfl
              | false => exact absurd (List.mem_filter.2 ⟨ht, by rw [hq]; rfl⟩) hn
            exact now_of this c' hc'
          · exact hinv.now i hi ht c' hc'
        have hold := h3 i hi (of_now hnow) hp.1
        obtain ⟨o, d, ho, hd, hsk, hlk, hw⟩ := isSimple_spec (hsimp i hi)
        refine idem_agree (F1 := ⟨toEnv n σ1, H2, k, mv2⟩) ho hd hsk rfl (fun t ht => hsame t fun e => ?_) (hsame d fun e => ?_) hold
        · rcases dstOk_spec hdst hcc e hi ho ht with h9 | h9
          · rw [hnow c (by simp)] at h9; cases h9
          · have hp2 : (At tab c).testBit i = false := hp.2
            rw [isAnc_At, hp2] at h9; cases h9
        · have hne : c ≠ i := by
            rintro rfl
            have := hns c hcc
            rw [hsimp c hi] at this; cases this
          unfold slotOf at e
          cases hoc : ops[c]? with
          | none => rw [hoc] at e; cases e
          | some oc =>
            rw [hoc] at e
            have := hw c oc hoc hne e
            rw [isAnc_At] at this
            have hp2 : (At tab c).testBit i = false := hp.2
            rw [this] at hp2; cases hp2
      obtain ⟨ex, σ3, H3, mv3, ⟨F2, q1, q2, q3⟩, q4, q5⟩ := ih b _ _ hb2 (fun c' hc' => hrest c' (List.mem_cons_of_mem _ hc')) hinv' hid' hK
      exact ⟨ex, σ3, H3, mv3, ⟨_, h1, h3, .inl ⟨_, hone, F2, q1, q2, q3⟩⟩, q4, q5⟩
    | pan v =>
      refine ⟨.pan v, [], H2, mv2, ⟨_, h1, h3, .inr ⟨v, _, hone, rfl, ?_⟩⟩, fun t _ => rfl, hK⟩
      simp only []
      rw [toEnv_nil _ n (toEnv_length n σ2)]
    | _ => exact hK.elim
theorem regionW_sound (hm : P.follows .mixedOrders = true) {id : Nat} {ops : Array Oper} {σ : Env} {H : Heap} {mv : List Nat} {K : Post} (hb : Bdd n σ) (h : regionW P G pol n k ops σ H mv K)
    {B : Nat → Prop} {L : Loc} {w : World} {a : Act} (hst : St B L w H) (he : ERel B L w (toEnv n σ) a.tmps) (hg : GOk G B w) {Q : Exit → Act → World → Prop} (hQ : ∀ e a' w', PostAt n k B L w H mv a.defers K e a' w' → Q e a' w') :
    (Code.region id ops true).wp P Q a w := by
  obtain ⟨bs, h⟩ := regionW_old h
  unfold regionB at h
  rw [spineK_eq, spineK_eq, spineK_eq] at h
  split at h
  case h_2 => exact h.elim
  rename_i hc
  simp only [Bool.and_eq_true] at hc
  obtain ⟨hback, hchain, hdst⟩ := hc
  have hok := tab_ok hback
  generalize htab : ancTab ops.toList [] = tab at h hchain hdst hok
  generalize hsi : (List.range ops.size).filter (isSimple P bs ops tab) = simples at h hdst
  generalize hch : (List.range ops.size).filter (fun i => !isSimple P bs ops tab i) = chain at h hchain hdst
  have hsimp : ∀ i, i ∈ simples → isSimple P bs ops tab i = true := fun i hi => by rw [← hsi] at hi; exact (List.mem_filter.1 hi).2
  have hnsimp : ∀ c ∈ chain, isSimple P bs ops tab c = false := fun c hc => by rw [← hch] at hc; simpa using (List.mem_filter.1 hc).2
  have hinv : DInv P ops tab simples chain simples := ⟨by rw [← hsi]; exact List.Pairwise.filter _ List.pairwise_lt_range, fun _ h => h, fun i hi hn => absurd hi hn, fun i hi hn => absurd hi hn⟩
  obtain ⟨ex, σ', H', mv', ⟨F2, heag, hidem, hcont⟩, hb', hK⟩ := drawW_spec hok hsimp hnsimp hdst chain false 0 simples hb (fun _ h => h) hinv (fun _ i hi hn => absurd hi hn) h
  refine wp_region_any hm ?_
  obtain ⟨g1, g2, g3, g4, g5⟩ := eagerP_spec _ heag
  have hrep : ∀ i, (Array.replicate ops.size false).getD i false = false := fun i => by
    simp only [Array.getD]
    split <;> simp
  have hstep : Step B w B w.drew := step_drew B w
  refine drawP_sound (k := k) (B0 := B) (L0 := L) (w0 := w) (H0 := H) (mv0 := mv) (d0 := a.defers) (ex := ex) (fr' := ⟨toEnv n σ', H', k, mv'⟩) htab.symm hsi.symm hch.symm hback (fun e a' w' hp => hQ e a' w' ⟨ex, σ', H', mv', hK, hb', hp⟩) ops.size _ _ _ _ F2 B L a w.drew ?_ (by simp) ?_ ?_ ?_ hchain ?_ ?_ hidem hcont (by rw [g1]; exact hst.drew) ?_ (hg.step hstep) g2 (by rw [g1, g3]; exact FS.drew) rfl ?_
  · unfold unl
    exact Nat.le_trans (List.length_filter_le _ _) (by simp)
  · intro j o _ hl
    rw [hrep] at hl; cases hl
  · exact fun c hc => ⟨hc, hrep c⟩
  · exact fun c hc hn => (hn hc).elim
  · exact fun i hi => by simp at hi
  · exact fun i hi => hi
  · refine ⟨g4.trans he.1, fun x u y hu hnx hy => ?_⟩
    have : (toEnv n σ)[x]? = some u := by
      rw [← hu]
      symm
      refine g5 x ?_
      intro j hj hs
      exact hnx ⟨j, (List.mem_filter.1 hj).1, hrep j, hs⟩
    exact (he.2 x u y this hy).step hstep
  · rw [← hch]
    exact List.Pairwise.filter _ List.nodup_range
end
end Go.Am
end

section
namespace Go.Am
open Go
section
variable (P : Program) (G : Nat → Option PV) (pol : Pol) (n k : Nat)
structure LoopW (b : Code) (σ : Env) (H : Heap) (mv : List Nat) (K : Post) : Prop where
  sound : Bdd n σ → ∀ {B : Nat → Prop} {L : Loc} {w : World} {a : Act}, St B L w H → ERel B L w (toEnv n σ) a.tmps → GOk G B w → ∀ {Q : Exit → Act → World → Prop}, (∀ e a' w', PostAt n k B L w H mv a.defers K e a' w' → Q e a' w') → LoopWp P b Q a w
def firstId : Code → Option Nat
  | .region id _ _ => some id
  | .seq a _ => firstId a
  | .block _ b => firstId b
  | .loop b => firstId b
  | _ => none
structure CutW (b : Code) (σ : Env) (H : Heap) (mv : List Nat) (K : Post) : Prop where
  sound : Bdd n σ → ∀ {B : Nat → Prop} {L : Loc} {w : World} {a : Act}, St B L w H → ERel B L w (toEnv n σ) a.tmps → GOk G B w → ∀ {Q : Exit → Act → World → Prop}, (∀ e a' w', PostAt n k B L w H mv a.defers K e a' w' → Q e a' w') → b.wp P Q a w
def W : Code → Env → Heap → List Nat → Post → Prop
  | .skip, σ, H, mv, K => K .normal σ H mv
  | .label _, σ, H, mv, K => K .normal σ H mv
  | .region _ ops draw, σ, H, mv, K => match draw with
    | false => spineK (List.range ops.size) fun l => opsW P G pol n k ops.toList l σ H mv K
    | true => regionW P G pol n k ops σ H mv K
  | .seq a b, σ, H, mv, K => W a σ H mv fun ex σ H mv => match ex with
    | .normal => match pol.cut (firstId b) with
      | true => CutW P G n k b σ H mv K
      | false => W b σ H mv K
    | ex => K ex σ H mv
  | .cond c a b, σ, H, mv, K => match evS G σ c with
    | .p (.bool t) => Br t (W a σ H mv K) (W b σ H mv K)
    | _ => False
  | .block id b, σ, H, mv, K => W b σ H mv fun ex σ H mv => match ex with
    | .exit j => match Nat.beq j id with
      | true => K .normal σ H mv
      | false => K (.exit j) σ H mv
    | ex => K ex σ H mv
  | .loop b, σ, H, mv, K => LoopW P G n k b σ H mv K
  | .exit id, σ, H, mv, K => K (.exit id) σ H mv
  | .ret, σ, H, mv, K => K .ret σ H mv
  | _, _, _, _, _ => False
end
section
variable {P : Program} {G : Nat → Option PV} {pol : Pol} {n k : Nat}
theorem W_sound (hm : P.follows .mixedOrders = true) : ∀ (c : Code) {σ : Env} {H : Heap} {mv : List Nat} {K : Post}, W P G pol n k c σ H mv K → Bdd n σ → ∀ {B : Nat → Prop} {L : Loc} {w : World} {a : Act}, St B L w H → ERel B L w (toEnv n σ) a.tmps → GOk G B w →
    ∀ {Q : Exit → Act → World → Prop}, (∀ e a' w', PostAt n k B L w H mv a.defers K e a' w' → Q e a' w') → c.wp P Q a w := by
  intro c
  induction c with
  | skip =>
    intro σ H mv K h hb B L w a hst he hg Q hQ
    exact wp_skip (hQ _ _ _ ⟨.normal, σ, H, mv, h, hb, B, L, FS.refl _ _ _ _ _ _, he, hst, rfl, rfl, trivial⟩)
  | label l =>
    intro σ H mv K h hb B L w a hst he hg Q hQ
    exact wp_label (hQ _ _ _ ⟨.normal, σ, H, mv, h, hb, B, L, FS.refl _ _ _ _ _ _, he, hst, rfl, rfl, trivial⟩)
  | region id ops draw =>
    intro σ H mv K h hb B L w a hst he hg Q hQ
    cases draw with
    | false =>
      simp only [W, spineK_eq] at h
      exact wp_region (opsW_sound _ hb h hst he hg hQ)
    | true => exact regionW_sound hm hb h hst he hg hQ
  | seq x y ihx ihy =>
    intro σ H mv K h hb B L w a hst he hg Q hQ
    refine wp_seq ?_
    refine ihx h hb hst he hg fun e a1 w1 hp => ?_
    obtain ⟨ex, σ1, H1, mv1, hK, hb1, B1, L1, hfs, he1, hst1, hk1, hd1, hm1⟩ := hp
    cases ex with
    | normal =>
      cases e with
      | normal =>
        simp only [] at hK
        split at hK
        · refine hK.sound hb1 hst1 he1 (hg.step (hfs.step hst)) fun e a2 w2 hp2 => hQ e a2 w2 ?_
          rw [hd1] at hp2
          exact PostAt.trans hfs hp2
        · refine ihy hK hb1 hst1 he1 (hg.step (hfs.step hst)) fun e a2 w2 hp2 => hQ e a2 w2 ?_
          rw [hd1] at hp2
          exact PostAt.trans hfs hp2
      | _ => exact hm1.elim
    | _ =>
      cases e with
      | normal => exact hm1.elim
      | _ => exact hQ _ _ _ ⟨_, σ1, H1, mv1, hK, hb1, B1, L1, hfs, he1, hst1, hk1, hd1, hm1⟩
  | cond c x y ihx ihy =>
    intro σ H mv K h hb B L w a hst he hg Q hQ
    unfold W at h
    split at h
    · rename_i t hc
      have hv := evalO_sound he hg c
      rw [evS_eq hb, hc] at hv
      have hp := hv.of_p
      generalize hq : a.eval c = q at hp
      cases hp
      refine wp_cond hq ?_
      cases ht : t with
      | true => rw [if_pos rfl]; exact ihx (h.t ht) hb hst he hg hQ
      | false => rw [if_neg (by simp)]; exact ihy (h.f ht) hb hst he hg hQ
    · exact h.elim
  | block id b ih =>
    intro σ H mv K h hb B L w a hst he hg Q hQ
    refine wp_block ?_
    refine ih h hb hst he hg fun e a1 w1 hp => ?_
    obtain ⟨ex, σ1, H1, mv1, hK, hb1, B1, L1, hfs, he1, hst1, hk1, hd1, hm1⟩ := hp
    cases ex with
    | exit j =>
      cases e with
      | exit i =>
        have hji : j = i := hm1
        subst hji
        simp only [] at hK
        simp only [Exit.inBlock]
        split at hK
        · rename_i hb'
          rw [if_pos (Nat.eq_of_beq_eq_true hb')]
          exact hQ _ _ _ ⟨.normal, σ1, H1, mv1, hK, hb1, B1, L1, hfs, he1, hst1, hk1, hd1, trivial⟩
        · rename_i hb'
          rw [if_neg (fun e => by rw [e] at hb'; simp at hb')]
          exact hQ _ _ _ ⟨.exit j, σ1, H1, mv1, hK, hb1, B1, L1, hfs, he1, hst1, hk1, hd1, rfl⟩
      | _ => exact hm1.elim
    | _ =>
      cases e with
      | exit i => exact hm1.elim
      | _ => exact hQ _ _ _ ⟨_, σ1, H1, mv1, hK, hb1, B1, L1, hfs, he1, hst1, hk1, hd1, hm1⟩
  | loop b ih =>
    intro σ H mv K h hb B L w a hst he hg Q hQ
    exact (h.sound hb hst he hg hQ).loop
  | exit id =>
    intro σ H mv K h hb B L w a hst he hg Q hQ
    exact wp_exit (hQ _ _ _ ⟨.exit id, σ, H, mv, h, hb, B, L, FS.refl _ _ _ _ _ _, he, hst, rfl, rfl, rfl⟩)
  | ret =>
    intro σ H mv K h hb B L w a hst he hg Q hQ
    exact wp_ret (hQ _ _ _ ⟨.ret, σ, H, mv, h, hb, B, L, FS.refl _ _ _ _ _ _, he, hst, rfl, rfl, trivial⟩)
  | _ =>
    intro σ H mv K h
    exact h.elim
theorem LoopW.round (hm : P.follows .mixedOrders = true) {b : Code} {σ : Env} {H : Heap} {mv : List Nat} {K : Post}
    (h : W P G pol n k b σ H mv fun ex σ' H' mv' => match ex with
      | .normal => LoopW P G n k b σ' H' mv' K
      | ex => K ex σ' H' mv') : LoopW P G n k b σ H mv K := by
  refine ⟨fun hb B L w a hst he hg Q hQ => LoopWp.round ?_⟩
  refine W_sound hm b h hb hst he hg fun e a1 w1 hp => ?_
  obtain ⟨ex, σ1, H1, mv1, hK, hb1, B1, L1, hfs, he1, hst1, hk1, hd1, hm1⟩ := hp
  cases ex with
  | normal =>
    cases e with
    | normal =>
      refine hK.sound hb1 hst1 he1 (hg.step (hfs.step hst)) fun e a2 w2 hp2 => hQ e a2 w2 ?_
      rw [hd1] at hp2
      exact PostAt.trans hfs hp2
    | _ => exact hm1.elim
  | _ =>
    cases e with
    | normal => exact hm1.elim
    | _ => exact hQ _ _ _ ⟨_, σ1, H1, mv1, hK, hb1, B1, L1, hfs, he1, hst1, hk1, hd1, hm1⟩
def VLe (v u : V) : Prop := ∀ (B : Nat → Prop) (L : Loc) (w : World) (x : Value), VRel B L w v x → VRel B L w u x
theorem VLe.refl (v : V) : VLe v v := fun _ _ _ _ h => h
theorem VLe.trans {a b c : V} (h : VLe a b) (g : VLe b c) : VLe a c := fun B L w x hx => g B L w x (h B L w x hx)
theorem VLe.junk (v : V) : VLe v .junk := fun _ _ _ x _ => .junk x
def PLe (d e : PV) : Prop := ∀ (B : Nat → Prop) (w : World) (x : Value), PRel B w d x → PRel B w e x
theorem PLe.refl (d : PV) : PLe d d := fun _ _ _ h => h
theorem PLe.trans {a b c : PV} (h : PLe a b) (g : PLe b c) : PLe a c := fun B w x hx => g B w x (h B w x hx)
theorem PLe.p {d e : PV} (h : PLe d e) : VLe (.p d) (.p e) := fun B _ w x hx => .p _ _ (h B w x hx.of_p)
theorem PLe.nils (ex : Bool) : PLe .nils (.lst ex []) := fun B w x h => by cases h; exact .lst0 ex none 0 (fun _ => rfl)
theorem PLe.lst (ex : Bool) (l : List PV) : PLe (.lst ex l) (.lst false l) := fun B w x h => by
  cases h with
  | lst0 ex a cap he => exact .lst0 false a cap (fun e => by cases e)
  | lst ex l b o cap sz u hb hw hz hs hf hcap he hc hr => exact .lst false l b o cap sz u hb hw hz hs hf hcap (fun e => by cases e) hc hr
def LeL : List PV → List PV → Prop
  | [], [] => True
  | d :: l, e :: m => PLe d e ∧ LeL l m
  | _, _ => False
theorem LeL.refl : ∀ (l : List PV), LeL l l
  | [] => trivial
  | d :: l => ⟨PLe.refl d, LeL.refl l⟩
theorem LeL.spec : ∀ {l m : List PV}, LeL l m → l.length = m.length ∧ ∀ (i : Nat) d e, l[i]? = some d → m[i]? = some e → PLe d e
  | [], [], _ => ⟨rfl, fun i d e h => by simp at h⟩
  | d :: l, e :: m, h => by
    obtain ⟨h1, h2⟩ := LeL.spec h.2
    refine ⟨by simp [h1], fun i x y hx hy => ?_⟩
    cases i with
    | zero => simp at hx hy; subst hx; subst hy; exact h.1
    | succ i => exact h2 i x y (by simpa using hx) (by simpa using hy)
  | [], _ :: _, h => h.elim
  | _ :: _, [], h => h.elim
theorem PLe.agg {l m : List PV} (h : LeL l m) : PLe (.agg l) (.agg m) := fun B w x hx => by
  obtain ⟨h1, h2⟩ := h.spec
  cases hx with
  | agg l c hl hr =>
    refine .agg m c (by omega) fun i e y he hy => ?_
    have hi : i < l.length := by have := (List.getElem?_eq_some_iff.1 he).1; omega
    exact h2 i l[i] e (by simp [hi]) he B w y (hr i l[i] y (by simp [hi]) hy)
theorem PLe.tup {l m : List PV} (h : LeL l m) : PLe (.tup l) (.tup m) := fun B w x hx => by
  obtain ⟨h1, h2⟩ := h.spec
  cases hx with
  | tup l c hl hr =>
    refine .tup m c (by omega) fun i e y he hy => ?_
    have hi : i < l.length := by have := (List.getElem?_eq_some_iff.1 he).1; omega
    exact h2 i l[i] e (by simp [hi]) he B w y (hr i l[i] y (by simp [hi]) hy)
def VLeL : List V → List V → Prop
  | [], [] => True
  | d :: l, e :: m => VLe d e ∧ VLeL l m
  | _, _ => False
theorem VLeL.refl : ∀ (l : List V), VLeL l l
  | [] => trivial
  | d :: l => ⟨VLe.refl d, VLeL.refl l⟩
theorem VLeL.spec : ∀ {l m : List V}, VLeL l m → l.length = m.length ∧ ∀ (i : Nat) d e, l[i]? = some d → m[i]? = some e → VLe d e
  | [], [], _ => ⟨rfl, fun i d e h => by simp at h⟩
  | d :: l, e :: m, h => by
    obtain ⟨h1, h2⟩ := VLeL.spec h.2
    refine ⟨by simp [h1], fun i x y hx hy => ?_⟩
    cases i with
    | zero => simp at hx hy; subst hx; subst hy; exact h.1
    | succ i => exact h2 i x y (by simpa using hx) (by simpa using hy)
  | [], _ :: _, h => h.elim
  | _ :: _, [], h => h.elim
theorem VLe.tup {l m : List V} (h : VLeL l m) : VLe (.tup l) (.tup m) := fun B L w x hx => by
  obtain ⟨h1, h2⟩ := h.spec
  cases hx with
  | tup l c hl hr =>
    refine .tup m c (by omega) fun i e y he hy => ?_
    have hi : i < l.length := by have := (List.getElem?_eq_some_iff.1 he).1; omega
    exact h2 i l[i] e (by simp [hi]) he B L w y (hr i l[i] y (by simp [hi]) hy)
theorem VLeL.rel {l m : List V} (h : VLeL l m) {B : Nat → Prop} {L : Loc} {w : World} {c : List Value} (hr : VRelL B L w l c) : VRelL B L w m c := by
  obtain ⟨h1, h2⟩ := h.spec
  refine ⟨by have := hr.1; omega, fun i e y he hy => ?_⟩
  have hi : i < l.length := by have := (List.getElem?_eq_some_iff.1 he).1; omega
  exact h2 i l[i] e (by simp [hi]) he B L w y (hr.2 i l[i] y (by simp [hi]) hy)
structure HLe (H H' : Heap) : Prop where
  rel : ∀ (n : Nat) (B : Nat → Prop) (L : Loc) (w : World), HRel B L w n (Heap.at H n) → HRel B L w n (Heap.at H' n)
  live : ∀ n, (Heap.at H' n).live → (Heap.at H n).live
  len : H.length = H'.length
theorem HLe.refl (H : Heap) : HLe H H := ⟨fun _ _ _ _ h => h, fun _ h => h, rfl⟩
theorem St.le {B : Nat → Prop} {L : Loc} {w : World} {H H' : Heap} (h : HLe H H') (hst : St B L w H) : St B L w H' :=
  ⟨fun n => h.rel n B L w (hst.rel n), fun n hl => hst.own n (h.live n hl), fun n m hn hm e => hst.inj n m (h.live n hn) (h.live m hm) e, hst.bnd⟩
inductive OutLe : Out → Out → Prop
  | ret {v u : V} (h : VLe v u) : OutLe (.ret v) (.ret u)
  | pan {v u : V} (h : VLe v u) : OutLe (.pan v) (.pan u)
theorem OutLe.refl : ∀ (o : Out), OutLe o o
  | .ret v => .ret (VLe.refl v)
  | .pan v => .pan (VLe.refl v)
theorem OutLe.rel {o o' : Out} (h : OutLe o o') {B : Nat → Prop} {L : Loc} {w : World} {e : Ending} (hr : OutRel B L w o e) : OutRel B L w o' e := by
  cases h with
  | ret h =>
    cases e with
    | returned x => exact h B L w x hr
    | _ => exact hr.elim
  | pan h =>
    unfold OutRel at hr ⊢
    split at hr
    · contradiction
    · rename_i e1
      cases e1
      exact h B L w _ hr
    · exact hr.elim
structure CLe (c c' : CR) : Prop where
  out : OutLe c.out c'.out
  H : HLe c.H c'.H
  mv : ∀ n, n ∈ c.mv → n ∈ c'.mv
theorem CLe.refl (c : CR) : CLe c c := ⟨OutLe.refl _, HLe.refl _, fun _ h => h⟩
theorem CLe.ret {v u : V} (h : VLe v u) {H : Heap} {mv : List Nat} : CLe ⟨.ret v, H, mv⟩ ⟨.ret u, H, mv⟩ := ⟨.ret h, HLe.refl _, fun _ h => h⟩
theorem CLe.mvs {o : Out} {H : Heap} {mv mv' : List Nat} (h : ∀ n, n ∈ mv → n ∈ mv') : CLe ⟨o, H, mv⟩ ⟨o, H, mv'⟩ := ⟨OutLe.refl _, HLe.refl _, h⟩
theorem FS.more {k : Nat} {B B' : Nat → Prop} {L L' : Loc} {w w' : World} {H H' : Heap} {mv mv' mv2 : List Nat} (h : FS k B L w H mv B' L' w' H' mv') (hm : ∀ n, n ∈ mv' → n ∈ mv2) : FS k B L w H mv B' L' w' H' mv2 :=
  ⟨h.size, h.same, h.own, h.sub, h.keep, fun n hn => hm n (h.mvs n hn), fun n hk hn => h.loc n hk fun h1 => hn (hm n h1), h.fresh⟩
theorem FS.le {k : Nat} {B B' : Nat → Prop} {L L' : Loc} {w w' : World} {H H1 H2 : Heap} {mv mv' : List Nat} (h : FS k B L w H mv B' L' w' H1 mv') (hl : HLe H1 H2) : FS k B L w H mv B' L' w' H2 mv' :=
  ⟨h.size, h.same, h.own, h.sub, h.keep, h.mvs, h.loc, fun n hn => h.fresh n (hl.live n hn)⟩
theorem AbsCall.le {f : FuncId} {args : List V} {H : Heap} {c c' : CR} (h : AbsCall P G f args H c) (hl : CLe c c') : AbsCall P G f args H c' := by
  intro B L w vs hst ha hg
  refine (h B L w vs hst ha hg).mono ?_
  rintro e w' ⟨B', L', hfs, hst', ho⟩
  exact ⟨B', L', (hfs.le hl.H).more hl.mv, hst'.le hl.H, hl.out.rel ho⟩
theorem AbsCall.args {f : FuncId} {args args' : List V} {H : Heap} {c : CR} (h : AbsCall P G f args' H c) (hl : VLeL args args') : AbsCall P G f args H c := by
  intro B L w vs hst ha hg
  exact h B L w vs hst (hl.rel ha) hg
theorem CallW.use {f : FuncId} {args : List V} {H : Heap} {K : CR → Prop} {cr : CR} (h : AbsCall P G f args H cr) (k : K cr) : CallW P G f args H K := ⟨cr, h, k⟩
def SubE (σ' : Env) (σ : Env) : Prop := ∀ t, look σ' t = .junk ∨ VLe (look σ t) (look σ' t)
theorem SubE.rel {σ σ' : Env} (h : SubE σ' σ) {B : Nat → Prop} {L : Loc} {w : World} {tmps : Array Value} (he : ERel B L w (toEnv n σ) tmps) : ERel B L w (toEnv n σ') tmps := by
  refine ⟨by have := he.1; rw [toEnv_length] at this ⊢; exact this, fun i x y hx hy => ?_⟩
  rw [toEnv_get] at hx
  split at hx
  · rename_i hi
    cases hx
    rcases h i with hj | hle
    · rw [hj]; exact .junk y
    · exact hle B L w y (he.2 i _ y (by rw [toEnv_get, if_pos hi]) hy)
  · cases hx
def BddL (n : Nat) : Env → Prop
  | [] => True
  | (i, _) :: σ => i < n ∧ BddL n σ
theorem BddL.bdd : ∀ {σ : Env}, BddL n σ → Bdd n σ
  | [], _ => fun _ _ => rfl
  | (_, v) :: _, h => (BddL.bdd h.2).cons h.1 v
def SubL (σ : Env) : Env → Prop
  | [] => True
  | (i, v) :: σ' => VLe (look σ i) v ∧ SubL σ σ'
theorem SubL.sub {σ : Env} : ∀ {σ' : Env}, SubL σ σ' → SubE σ' σ
  | [], _ => fun t => .inl rfl
  | (i, v) :: σ', h => fun t => by
    rw [look_cons]
    split
    · rename_i e; subst e; exact .inr h.1
    · exact SubL.sub h.2 t
theorem LoopW.sub {b : Code} {σ σ' : Env} {H : Heap} {mv : List Nat} {K : Post} (h : LoopW P G n k b σ' H mv K) (hs : SubL σ σ') (hb : BddL n σ') : LoopW P G n k b σ H mv K := by
  refine ⟨fun _ B L w a hst he hg Q hQ => h.sound hb.bdd hst (hs.sub.rel he) hg hQ⟩
theorem CutW.go (hm : P.follows .mixedOrders = true) {pol : Pol} {b : Code} {σ : Env} {H : Heap} {mv : List Nat} {K : Post} (h : W P G pol n k b σ H mv K) : CutW P G n k b σ H mv K :=
  ⟨fun hb _ _ _ _ hst he hg _ hQ => W_sound hm b h hb hst he hg hQ⟩
theorem CutW.sub {b : Code} {σ σ' : Env} {H : Heap} {mv : List Nat} {K : Post} (h : CutW P G n k b σ' H mv K) (hs : SubL σ σ') (hb : BddL n σ') : CutW P G n k b σ H mv K := by
  refine ⟨fun _ B L w a hst he hg Q hQ => h.sound hb.bdd hst (hs.sub.rel he) hg hQ⟩
theorem CutW.post {b : Code} {σ : Env} {H : Heap} {mv : List Nat} {K K' : Post} (h : CutW P G n k b σ H mv K') (hs : ∀ ex σ' H' mv', K' ex σ' H' mv' → ∃ σ2, SubL σ' σ2 ∧ BddL n σ2 ∧ K ex σ2 H' mv') : CutW P G n k b σ H mv K := by
  refine ⟨fun hb B L w a hst he hg Q hQ => h.sound hb hst he hg fun e a' w' hp => hQ e a' w' ?_⟩
  obtain ⟨ex, σ1, H1, mv1, hK, hb1, B1, L1, hfs, he1, hst1, hk1, hd1, hm1⟩ := hp
  obtain ⟨σ2, h1, h2, h3⟩ := hs _ _ _ _ hK
  exact ⟨ex, σ2, H1, mv1, h3, h2.bdd, B1, L1, hfs, h1.sub.rel he1, hst1, hk1, hd1, hm1⟩
theorem LoopW.post {b : Code} {σ : Env} {H : Heap} {mv : List Nat} {K K' : Post} (h : LoopW P G n k b σ H mv K') (hs : ∀ ex σ' H' mv', K' ex σ' H' mv' → ∃ σ2, SubL σ' σ2 ∧ BddL n σ2 ∧ K ex σ2 H' mv') : LoopW P G n k b σ H mv K := by
  refine ⟨fun hb B L w a hst he hg Q hQ => h.sound hb hst he hg fun e a' w' hp => hQ e a' w' ?_⟩
  obtain ⟨ex, σ1, H1, mv1, hK, hb1, B1, L1, hfs, he1, hst1, hk1, hd1, hm1⟩ := hp
  obtain ⟨σ2, h1, h2, h3⟩ := hs _ _ _ _ hK
  exact ⟨ex, σ2, H1, mv1, h3, h2.bdd, B1, L1, hfs, h1.sub.rel he1, hst1, hk1, hd1, hm1⟩
end
end Go.Am
end

section
namespace Go.Am
open Go
section
variable (P : Program) (G : Nat → Option PV) (pol : Pol)
def resultsK : List ResultVar → Env → Heap → (List V → Prop) → Prop
  | [], _, _, K => K []
  | .tmp t :: l, σ, H, K => (look σ t).fK fun v => resultsK l σ H fun vs => K (v :: vs)
  | .cell a t :: l, σ, H, K => match loadA P (Heap.at H) t (look σ a) with
    | some v => v.fK fun v => resultsK l σ H fun vs => K (v :: vs)
    | none => False
def backR (k : Nat) (u : V) (H : Heap) (K : V → Heap → Prop) : Prop :=
  spineK (reachL (Heap.at H) 200 (List.range k ++ u.names) []) fun ns =>
    match decide (ns.take k = List.range k) && (u.names.all (ns.contains ·) && (closedN (Heap.at H) ns && decide ns.Nodup)) with
    | true => (u.ren (ns.idxOf ·)).fK fun u' => heapK (ns.map fun m => (Heap.at H m).ren (ns.idxOf ·)) fun H' => K u' H'
    | false => False
def finishK (f : FuncId) (k : Nat) (v : V) (H : Heap) (K : V → Heap → Prop) : Prop :=
  match pol.keepR f with
  | true => backR k v H K
  | false => spineK (v.names.filter fun m => decide (k ≤ m) && isArr (Heap.at H m)) fun fz => match fz with
    | [] => backR k v H K
    | fz => frzAllK fz [(0, v)] H fun σ1 H1 => backR k (look σ1 0) H1 K
def argsE : Nat → List V → Env
  | _, [] => []
  | i, v :: l => (i, v) :: argsE (i + 1) l
def bodyW (f : FuncId) (c : Code) (ntmps : Nat) (rs : List ResultVar) (args : List V) (H : Heap) (Q : CR → Prop) : Prop :=
  W P G pol ntmps (lenH H) c (argsE 0 args) H [] fun ex σ' H' mv' => match ex with
    | .normal => resultsK P rs σ' H' fun vs => finishK pol f (lenH H) (tupV vs) H' fun v H'' => Q ⟨.ret v, H'', mv'⟩
    | .ret => resultsK P rs σ' H' fun vs => finishK pol f (lenH H) (tupV vs) H' fun v H'' => Q ⟨.ret v, H'', mv'⟩
    | .pan v => finishK pol f (lenH H) v H' fun v H'' => Q ⟨.pan v, H'', mv'⟩
    | _ => False
end
section
variable {P : Program} {G : Nat → Option PV} {pol : Pol}
theorem resultsK_spec {n k : Nat} {mv : List Nat} {H : Heap} {σ : Env} (hb : Bdd n σ) : ∀ (rs : List ResultVar) {K : List V → Prop}, (∀ t, .tmp t ∈ rs → t < n) → (∀ a t, .cell a t ∈ rs → a < n) → resultsK P rs σ H K →
    ∃ vs, resultsA P ⟨toEnv n σ, H, k, mv⟩ rs = some vs ∧ K vs
  | [], K, _, _, h => ⟨[], rfl, h⟩
  | .tmp t :: l, K, h1, h2, h => by
    simp only [resultsK, V.fK_eq] at h
    obtain ⟨vs, g1, g2⟩ := resultsK_spec (k := k) (mv := mv) hb l (fun t ht => h1 t (List.mem_cons_of_mem _ ht)) (fun a t ht => h2 a t (List.mem_cons_of_mem _ ht)) h
    refine ⟨_, ?_, g2⟩
    have := h1 t (by simp)
    simp only [resultsA, toEnv_get, if_pos this, g1]
  | .cell a t :: l, K, h1, h2, h => by
    simp only [resultsK] at h
    split at h
    case h_2 => exact h.elim
    rename_i v hv
    rw [V.fK_eq] at h
    obtain ⟨vs, g1, g2⟩ := resultsK_spec (k := k) (mv := mv) hb l (fun t ht => h1 t (List.mem_cons_of_mem _ ht)) (fun a t ht => h2 a t (List.mem_cons_of_mem _ ht)) h
    refine ⟨_, ?_, g2⟩
    have := h2 a t (by simp)
    simp only [resultsA, toEnv_get, if_pos this, g1, hv]
theorem backR_spec {k : Nat} {u : V} {H : Heap} {K : V → Heap → Prop} (h : backR k u H K) : ∃ v' H', (let ns := reachL (Heap.at H) 200 (List.range k ++ u.names) []
    if ns.take k = List.range k ∧ u.names.all (ns.contains ·) = true ∧ closedN (Heap.at H) ns = true ∧ ns.Nodup then
      some (u.ren (ns.idxOf ·), ns.map fun n => (Heap.at H n).ren (ns.idxOf ·))
    else none) = some (v', H') ∧ K v' H' := by
  unfold backR at h
  rw [spineK_eq] at h
  split at h
  case h_2 => exact h.elim
  rename_i hc
  simp only [Bool.and_eq_true, decide_eq_true_eq] at hc
  rw [V.fK_eq, heapK_eq] at h
  exact ⟨_, _, if_pos hc, h⟩
theorem finishK_spec {f : FuncId} {k : Nat} {mv : List Nat} {env : List V} {v : V} {H : Heap} {K : V → Heap → Prop} (h : finishK pol f k v H K) : ∃ v' H', finish pol f ⟨env, H, k, mv⟩ v = some (v', H') ∧ K v' H' := by
  unfold finishK at h
  unfold finish
  simp only []
  split at h
  · rename_i hp
    rw [if_pos hp]
    exact backR_spec h
  · rename_i hp
    rw [if_neg (by rw [hp]; simp)]
    rw [spineK_eq] at h
    have e0 : ([v] : List V) = toEnv 1 [(0, v)] := rfl
    have plain : Fr.freezeAll ⟨[v], H, k, mv⟩ (v.names.filter fun n => decide (k ≤ n) && isArr (Heap.at H n)) = ⟨[v], H, k, mv⟩ → backR k v H K → ∃ v' H',
        (match (Fr.freezeAll ⟨[v], H, k, mv⟩ (v.names.filter fun n => decide (k ≤ n) && isArr (Heap.at H n))).env with
        | [u] =>
          if (reachL (Heap.at (Fr.freezeAll ⟨[v], H, k, mv⟩ (v.names.filter fun n => decide (k ≤ n) && isArr (Heap.at H n))).H) 200 (List.range k ++ u.names) []).take k = List.range k ∧
              u.names.all ((reachL (Heap.at (Fr.freezeAll ⟨[v], H, k, mv⟩ (v.names.filter fun n => decide (k ≤ n) && isArr (Heap.at H n))).H) 200 (List.range k ++ u.names) []).contains ·) = true ∧
              closedN (Heap.at (Fr.freezeAll ⟨[v], H, k, mv⟩ (v.names.filter fun n => decide (k ≤ n) && isArr (Heap.at H n))).H) (reachL (Heap.at (Fr.freezeAll ⟨[v], H, k, mv⟩ (v.names.filter fun n => decide (k ≤ n) && isArr (Heap.at H n))).H) 200 (List.range k ++ u.names) []) = true ∧
              (reachL (Heap.at (Fr.freezeAll ⟨[v], H, k, mv⟩ (v.names.filter fun n => decide (k ≤ n) && isArr (Heap.at H n))).H) 200 (List.range k ++ u.names) []).Nodup then
            some (u.ren ((reachL (Heap.at (Fr.freezeAll ⟨[v], H, k, mv⟩ (v.names.filter fun n => decide (k ≤ n) && isArr (Heap.at H n))).H) 200 (List.range k ++ u.names) []).idxOf ·),
              (reachL (Heap.at (Fr.freezeAll ⟨[v], H, k, mv⟩ (v.names.filter fun n => decide (k ≤ n) && isArr (Heap.at H n))).H) 200 (List.range k ++ u.names) []).map fun n => (Heap.at (Fr.freezeAll ⟨[v], H, k, mv⟩ (v.names.filter fun n => decide (k ≤ n) && isArr (Heap.at H n))).H n).ren
                ((reachL (Heap.at (Fr.freezeAll ⟨[v], H, k, mv⟩ (v.names.filter fun n => decide (k ≤ n) && isArr (Heap.at H n))).H) 200 (List.range k ++ u.names) []).idxOf ·))
          else none
        | _ => none) = some (v', H') ∧ K v' H' := by
      intro hf hb
      rw [hf]
      exact backR_spec hb
    split at h
    · rename_i hns
      exact plain (by rw [hns]; rfl) h
    · rename_i fz hns
      have hbd : Bdd 1 [(0, v)] := (fun t ht => by rw [look_cons, if_neg (by omega)]; rfl)
      obtain ⟨σ1, H1, h1, h2, h3⟩ := frzAllK_eq (n := 1) (k := k) (mv := mv) _ _ _ _ hbd h
      rw [e0, h1]
      have e1 : toEnv 1 σ1 = [look σ1 0] := rfl
      simp only [e1]
      exact backR_spec h3
theorem look_argsE : ∀ (l : List V) (i t : Nat), look (argsE i l) t = if i ≤ t then (l[t - i]?).getD .junk else .junk
  | [], i, t => by simp [argsE, look]
  | v :: l, i, t => by
    rw [argsE, look_cons]
    split
    · rename_i e; subst e; simp
    · rename_i e
      rw [look_argsE l (i + 1) t]
      split
      · rename_i h
        rw [if_pos (by omega)]
        obtain ⟨j, hj⟩ : ∃ j, t - i = j + 1 := ⟨t - i - 1, by omega⟩
        rw [hj, show t - (i + 1) = j by omega]
        rfl
      · rename_i h
        rw [if_neg (by omega)]
theorem argsE_env {args : List V} {n : Nat} (h : args.length ≤ n) : args ++ List.replicate (n - args.length) V.junk = toEnv n (argsE 0 args) := by
  apply List.ext_getElem?
  intro i
  rw [toEnv_get, look_argsE]
  simp only [Nat.zero_le, if_true, Nat.sub_zero]
  rw [List.getElem?_append]
  split
  · rename_i hi
    rw [if_pos (by omega), List.getElem?_eq_getElem hi]; rfl
  · rename_i hi
    rw [List.getElem?_replicate]
    split
    · rename_i h2
      rw [if_pos (by omega), List.getElem?_eq_none (by omega)]; rfl
    · rename_i h2
      rw [if_neg (by omega)]
theorem argsE_bdd {args : List V} {n : Nat} (h : args.length ≤ n) : Bdd n (argsE 0 args) := by
  intro t ht
  rw [look_argsE]
  simp only [Nat.zero_le, if_true, Nat.sub_zero]
  rw [List.getElem?_eq_none (by omega)]; rfl
def rsOk (n : Nat) : List ResultVar → Bool
  | [] => true
  | .tmp t :: l => Nat.blt t n && rsOk n l
  | .cell a _ :: l => Nat.blt a n && rsOk n l
theorem rsOk_spec {n : Nat} : ∀ {rs : List ResultVar}, rsOk n rs = true → (∀ t, .tmp t ∈ rs → t < n) ∧ ∀ a t, .cell a t ∈ rs → a < n
  | [], _ => ⟨fun t h => by simp at h, fun a t h => by simp at h⟩
  | .tmp t :: l, h => by
    simp only [rsOk, Bool.and_eq_true, Nat.blt_eq] at h
    obtain ⟨h1, h2⟩ := rsOk_spec h.2
    refine ⟨fun t' ht => ?_, fun a t' ht => ?_⟩
    · rcases List.mem_cons.1 ht with e | ht
      · cases e; exact h.1
      · exact h1 t' ht
    · rcases List.mem_cons.1 ht with e | ht
      · cases e
      · exact h2 a t' ht
  | .cell a t :: l, h => by
    simp only [rsOk, Bool.and_eq_true, Nat.blt_eq] at h
    obtain ⟨h1, h2⟩ := rsOk_spec h.2
    refine ⟨fun t' ht => ?_, fun a' t' ht => ?_⟩
    · rcases List.mem_cons.1 ht with e | ht
      · cases e
      · exact h1 t' ht
    · rcases List.mem_cons.1 ht with e | ht
      · cases e; exact h.1
      · exact h2 a' t' ht
structure FnIs (P : Program) (f : FuncId) (c : Code) (ntmps nargs : Nat) (rs : List ResultVar) : Prop where
  ex : ∃ fn, P.funcs[f]? = some fn ∧ fn.body = some c ∧ fn.ntmps = ntmps ∧ fn.results.toList = rs ∧ (fn.name == "runtime.NumGoroutine") = false
  args : nargs ≤ ntmps
  rs : rsOk ntmps rs = true
theorem absCall_of (hm : P.follows .mixedOrders = true) {f : FuncId} {c : Code} {ntmps : Nat} {rs : List ResultVar} {args : List V} {H : Heap} {cr : CR} (hf : FnIs P f c ntmps args.length rs)
    (h : bodyW P G pol f c ntmps rs args H fun cr' => CLe cr' cr) : AbsCall P G f args H cr := by
  obtain ⟨⟨fn, hfn, hbody, hnt, hrs, hname⟩, hargs, hok⟩ := hf
  subst hnt
  intro B L w vs hst ha hg
  refine .inl ⟨enters hfn hname hbody _ w, calls_of_wp hfn hbody ?_⟩
  have he : ERel B L w (toEnv fn.ntmps (argsE 0 args)) (vs.toArray ++ Array.replicate (fn.ntmps - vs.toArray.size) undef) := by
    have e : (vs.toArray ++ Array.replicate (fn.ntmps - vs.toArray.size) undef).toList = vs ++ List.replicate (fn.ntmps - args.length) undef := by
      rw [Array.toList_append, Array.toList_replicate, List.size_toArray, ha.1]
    rw [← argsE_env hargs]
    unfold ERel
    rw [e]
    refine ha.append ⟨by simp, fun i x y hx _ => ?_⟩
    rw [List.getElem?_replicate] at hx
    split at hx
    · cases hx; exact .junk _
    · cases hx
  unfold bodyW at h
  rw [lenH_eq] at h
  obtain ⟨ok1, ok2⟩ := rsOk_spec hok
  refine W_sound hm c h (argsE_bdd hargs) (a := { tmps := vs.toArray ++ Array.replicate (fn.ntmps - vs.toArray.size) undef, defers := [] }) hst he hg fun e a' w' hp => ?_
  obtain ⟨ex, σ1, H1, mv1, hK, hb1, B1, L1, hfs, he1, hst1, hk1, hd1, hm1⟩ := hp
  have good : (resultsK P rs σ1 H1 fun vs => finishK pol f H.length (tupV vs) H1 fun v H'' => CLe ⟨.ret v, H'', mv1⟩ cr) →
      a'.defers = [] ∧ ∃ v, (results fn a'.tmps).run P w' = .ok v w' ∧ ∃ B' L', FS H.length B L w H [] B' L' w' cr.H cr.mv ∧ St B' L' w' cr.H ∧ OutRel B' L' w' cr.out (.returned v) := by
    intro hr
    obtain ⟨vs', g1, g2⟩ := resultsK_spec (k := H.length) (mv := mv1) hb1 rs ok1 ok2 hr
    obtain ⟨v', H', g3, g4⟩ := finishK_spec (mv := mv1) (env := toEnv fn.ntmps σ1) g2
    rw [← hrs] at g1
    obtain ⟨u, hu, hru⟩ := results_run (fn := fn) hst1 he1 g1
    obtain ⟨B2, L2, hfs2, hst2, hr2⟩ := finish_sound hst1 hru g3
    exact ⟨hd1, u, hu, B2, L2, ((hfs.trans hfs2).le g4.H).more g4.mv, hst2.le g4.H, g4.out.rel hr2⟩
  cases ex with
  | normal =>
    cases e with
    | normal => exact good hK
    | _ => exact hm1.elim
  | ret =>
    cases e with
    | ret => exact good hK
    | _ => exact hm1.elim
  | pan v =>
    simp only [] at hK
    obtain ⟨v', H', g3, g4⟩ := finishK_spec (mv := mv1) (env := toEnv fn.ntmps σ1) hK
    obtain ⟨u, rfl, hu⟩ := ExMatch.pan_inv hm1
    obtain ⟨B2, L2, hfs2, hst2, hr2⟩ := finish_sound hst1 hu g3
    refine ⟨hd1, B2, L2, ((hfs.trans hfs2).le g4.H).more g4.mv, hst2.le g4.H, ?_⟩
    · exact g4.out.rel (e := .panicked [⟨u, false, false⟩]) hr2
  | exit id => exact hK.elim
end
end Go.Am
namespace Go.Am
open Go
def loopsOf : Code → List Code
  | .loop b => b :: loopsOf b
  | .seq a b => loopsOf a ++ loopsOf b
  | .cond _ a b => loopsOf a ++ loopsOf b
  | .block _ b => loopsOf b
  | _ => []
def loopN (c : Option Code) (i : Nat) : Code := ((loopsOf (c.getD .skip))[i]?).getD .skip
def tailOf (id : Nat) : Code → Option Code
  | .seq a b => match firstId b with
    | some i => match Nat.beq i id with
      | true => some b
      | false => match tailOf id a with
        | some c => some c
        | none => tailOf id b
    | none => match tailOf id a with
      | some c => some c
      | none => tailOf id b
  | .cond _ a b => match tailOf id a with
    | some c => some c
    | none => tailOf id b
  | .block _ b => tailOf id b
  | .loop b => tailOf id b
  | _ => none
def tailN (c : Option Code) (i : Nat) : Code := (tailOf i (c.getD .skip)).getD .skip
def cutAt (l : List Nat) (o : Option Nat) : Bool := match o with
  | some i => l.any (Nat.beq i)
  | none => false
structure PostCl (n : Nat) (K : Post) (ex : Ex) (σ : Env) (H : Heap) (mv : List Nat) : Prop where
  ex : ∃ σ2, SubL σ σ2 ∧ BddL n σ2 ∧ K ex σ2 H mv
theorem PostCl.of {n : Nat} {K : Post} {ex : Ex} {σ σ2 : Env} {H : Heap} {mv : List Nat} (h : K ex σ2 H mv) (hs : SubL σ σ2) (hb : BddL n σ2) : PostCl n K ex σ H mv := ⟨⟨σ2, hs, hb, h⟩⟩
theorem LoopW.cl {P : Program} {G : Nat → Option PV} {n k : Nat} {b : Code} {σ : Env} {H : Heap} {mv : List Nat} {K : Post} (h : LoopW P G n k b σ H mv (PostCl n K)) : LoopW P G n k b σ H mv K :=
  h.post fun _ _ _ _ h => h.ex
theorem CutW.cl {P : Program} {G : Nat → Option PV} {n k : Nat} {b : Code} {σ : Env} {H : Heap} {mv : List Nat} {K : Post} (h : CutW P G n k b σ H mv (PostCl n K)) : CutW P G n k b σ H mv K :=
  h.post fun _ _ _ _ h => h.ex
end Go.Am
namespace Go.Am
open Go
section
variable {P : Program} {G : Nat → Option PV} {n k : Nat}
def RenL (ns : List Nat) (σ : Env) : Env → Prop
  | [] => True
  | (i, v) :: σ' => ((look σ i).names.all (ns.contains ·) = true ∧ VLe ((look σ i).ren (ns.idxOf ·)) v) ∧ RenL ns σ σ'
def renOk (k : Nat) (ns : List Nat) (H : Heap) : Bool := decide (ns.take k = List.range k) && (closedN (Heap.at H) ns && decide ns.Nodup)
theorem RenL.get {ns : List Nat} {σ : Env} : ∀ {σ' : Env}, RenL ns σ σ' → ∀ t, look σ' t = .junk ∨ ((look σ t).names.all (ns.contains ·) = true ∧ VLe ((look σ t).ren (ns.idxOf ·)) (look σ' t))
  | [], _, t => .inl rfl
  | (i, v) :: σ', h, t => by
    rw [look_cons]
    split
    · rename_i e; subst e; exact .inr h.1
    · exact RenL.get h.2 t
theorem LoopW.ren {b : Code} {σ σ' : Env} {H H' : Heap} {mv : List Nat} {K : Post} (ns : List Nat) (h : LoopW P G n k b σ' H' mv K) (hs : RenL ns σ σ') (hb : BddL n σ') (hH : (ns.map fun m => (Heap.at H m).ren (ns.idxOf ·)) = H') (hc : renOk k ns H = true) : LoopW P G n k b σ H mv K := by
  subst hH
  unfold renOk at hc
  simp only [Bool.and_eq_true, decide_eq_true_eq] at hc
  obtain ⟨h1, h2, h3⟩ := hc
  refine ⟨fun hbd B L w a hst he hg Q hQ => ?_⟩
  have he' : ERel B (L.sub ns) w (toEnv n σ') a.tmps := by
    refine ⟨by have := he.1; rw [toEnv_length] at this ⊢; exact this, fun i x y hx hy => ?_⟩
    rw [toEnv_get] at hx
    split at hx
    · rename_i hi
      cases hx
      rcases hs.get i with hj | ⟨hn, hle⟩
      · rw [hj]; exact .junk y
      · refine hle B (L.sub ns) w y ((he.2 i _ y (by rw [toEnv_get, if_pos hi]) hy).ren fun m hm => L.sub_eq ?_)
        simp only [List.all_eq_true] at hn
        simpa using hn m hm
    · cases hx
  refine h.sound hb.bdd (hst.sub h3 (closedN_spec h2)) he' hg fun e a' w' hp => hQ e a' w' ?_
  exact PostAt.trans (FS.subH h1) hp
theorem CutW.ren {b : Code} {σ σ' : Env} {H H' : Heap} {mv : List Nat} {K : Post} (ns : List Nat) (h : CutW P G n k b σ' H' mv K) (hs : RenL ns σ σ') (hb : BddL n σ') (hH : (ns.map fun m => (Heap.at H m).ren (ns.idxOf ·)) = H') (hc : renOk k ns H = true) : CutW P G n k b σ H mv K := by
  subst hH
  unfold renOk at hc
  simp only [Bool.and_eq_true, decide_eq_true_eq] at hc
  obtain ⟨h1, h2, h3⟩ := hc
  refine ⟨fun hbd B L w a hst he hg Q hQ => ?_⟩
  have he' : ERel B (L.sub ns) w (toEnv n σ') a.tmps := by
    refine ⟨by have := he.1; rw [toEnv_length] at this ⊢; exact this, fun i x y hx hy => ?_⟩
    rw [toEnv_get] at hx
    split at hx
    · rename_i hi
      cases hx
      rcases hs.get i with hj | ⟨hn, hle⟩
      · rw [hj]; exact .junk y
      · refine hle B (L.sub ns) w y ((he.2 i _ y (by rw [toEnv_get, if_pos hi]) hy).ren fun m hm => L.sub_eq ?_)
        simp only [List.all_eq_true] at hn
        simpa using hn m hm
    · cases hx
  refine h.sound hb.bdd (hst.sub h3 (closedN_spec h2)) he' hg fun e a' w' hp => hQ e a' w' ?_
  exact PostAt.trans (FS.subH h1) hp
end
end Go.Am
end

section
namespace Go.Proofs.YtaoejccgdpppgaaGreatDoor
open Go Go.Am
noncomputable abbrev PP : Program := Tryz.prog
theorem mixP : PP.follows .mixedOrders = true := by kernel_rfl
namespace T
abbrev int64 : Nat := 2
abbrev int : Nat := 3
abbrev uint8 : Nat := 5
abbrev string : Nat := 9
abbrev api_Kind : Nat := 23
abbrev sl_api_Value : Nat := 24
abbrev sl_api_Pair : Nat := 25
abbrev api_Value : Nat := 27
abbrev api_Fault : Nat := 37
abbrev api_Pair : Nat := 51
abbrev ptr_jprint_printer : Nat := 59
abbrev jprint_printer : Nat := 64
abbrev jlex_Word : Nat := 76
abbrev jread_wrong : Nat := 81
abbrev jread_reader : Nat := 85
abbrev value_judge : Nat := 91
abbrev error : Nat := 94
abbrev esc_reader : Nat := 129
abbrev map_string_api_Value : Nat := 133
abbrev dec_number : Nat := 149
abbrev uint64 : Nat := 160
abbrev ptr_strconv_NumError : Nat := 174
abbrev arr20_uint64 : Nat := 180
abbrev ptr_errors_errorString : Nat := 202
abbrev errors_errorString : Nat := 204
end T
namespace Gl
abbrev internal_strconv_uint64pow10 : Nat := 1
abbrev strconv_ErrSyntax : Nat := 4
abbrev strconv_ErrRange : Nat := 5
end Gl
namespace F
abbrev law9_JprintPlain : Nat := 9
noncomputable abbrev law9_JprintPlain_c : Option Code := Tryz.f9.body
theorem law9_JprintPlain_is : FnIs PP 9 (Tryz.f9.body.getD .skip) 42 1 Tryz.f9.results.toList := ⟨⟨_, Tryz.func9, by kernel_rfl, by kernel_rfl, rfl, by kernel_rfl⟩, by decide, by kernel_rfl⟩
abbrev law9_awake : Nat := 10
theorem law9_awake_is : FnIs PP 10 (Tryz.f10.body.getD .skip) 9 0 Tryz.f10.results.toList := ⟨⟨_, Tryz.func10, by kernel_rfl, by kernel_rfl, rfl, by kernel_rfl⟩, by decide, by kernel_rfl⟩
abbrev jprint_Compact : Nat := 11
theorem jprint_Compact_is : FnIs PP 11 (Tryz.f11.body.getD .skip) 5 1 Tryz.f11.results.toList := ⟨⟨_, Tryz.func11, by kernel_rfl, by kernel_rfl, rfl, by kernel_rfl⟩, by decide, by kernel_rfl⟩
abbrev jprint_Indent : Nat := 12
theorem jprint_Indent_is : FnIs PP 12 (Tryz.f12.body.getD .skip) 5 1 Tryz.f12.results.toList := ⟨⟨_, Tryz.func12, by kernel_rfl, by kernel_rfl, rfl, by kernel_rfl⟩, by decide, by kernel_rfl⟩
abbrev ref1_Heavy : Nat := 13
theorem ref1_Heavy_is : FnIs PP 13 (Tryz.f13.body.getD .skip) 17 3 Tryz.f13.results.toList := ⟨⟨_, Tryz.func13, by kernel_rfl, by kernel_rfl, rfl, by kernel_rfl⟩, by decide, by kernel_rfl⟩
abbrev ref1_Value : Nat := 14
theorem ref1_Value_is : FnIs PP 14 (Tryz.f14.body.getD .skip) 10 1 Tryz.f14.results.toList := ⟨⟨_, Tryz.func14, by kernel_rfl, by kernel_rfl, rfl, by kernel_rfl⟩, by decide, by kernel_rfl⟩
abbrev jread_Parse : Nat := 18
theorem jread_Parse_is : FnIs PP 18 (Tryz.f18.body.getD .skip) 21 1 Tryz.f18.results.toList := ⟨⟨_, Tryz.func18, by kernel_rfl, by kernel_rfl, rfl, by kernel_rfl⟩, by decide, by kernel_rfl⟩
abbrev ref1_Valid : Nat := 19
noncomputable abbrev ref1_Valid_c : Option Code := Tryz.f19.body
theorem ref1_Valid_is : FnIs PP 19 (Tryz.f19.body.getD .skip) 23 1 Tryz.f19.results.toList := ⟨⟨_, Tryz.func19, by kernel_rfl, by kernel_rfl, rfl, by kernel_rfl⟩, by decide, by kernel_rfl⟩
abbrev jread_Valid : Nat := 20
theorem jread_Valid_is : FnIs PP 20 (Tryz.f20.body.getD .skip) 13 1 Tryz.f20.results.toList := ⟨⟨_, Tryz.func20, by kernel_rfl, by kernel_rfl, rfl, by kernel_rfl⟩, by decide, by kernel_rfl⟩
abbrev law9_one : Nat := 21
theorem law9_one_is : FnIs PP 21 (Tryz.f21.body.getD .skip) 5 0 Tryz.f21.results.toList := ⟨⟨_, Tryz.func21, by kernel_rfl, by kernel_rfl, rfl, by kernel_rfl⟩, by decide, by kernel_rfl⟩
abbrev jprint_text : Nat := 22
theorem jprint_text_is : FnIs PP 22 (Tryz.f22.body.getD .skip) 19 2 Tryz.f22.results.toList := ⟨⟨_, Tryz.func22, by kernel_rfl, by kernel_rfl, rfl, by kernel_rfl⟩, by decide, by kernel_rfl⟩
abbrev ref1_steep : Nat := 23
noncomputable abbrev ref1_steep_c : Option Code := Tryz.f23.body
theorem ref1_steep_is : FnIs PP 23 (Tryz.f23.body.getD .skip) 66 3 Tryz.f23.results.toList := ⟨⟨_, Tryz.func23, by kernel_rfl, by kernel_rfl, rfl, by kernel_rfl⟩, by decide, by kernel_rfl⟩
abbrev ref1_plain : Nat := 24
noncomputable abbrev ref1_plain_c : Option Code := Tryz.f24.body
theorem ref1_plain_is : FnIs PP 24 (Tryz.f24.body.getD .skip) 160 1 Tryz.f24.results.toList := ⟨⟨_, Tryz.func24, by kernel_rfl, by kernel_rfl, rfl, by kernel_rfl⟩, by decide, by kernel_rfl⟩
abbrev jlex_Cut : Nat := 29
noncomputable abbrev jlex_Cut_c : Option Code := Tryz.f29.body
theorem jlex_Cut_is : FnIs PP 29 (Tryz.f29.body.getD .skip) 54 1 Tryz.f29.results.toList := ⟨⟨_, Tryz.func29, by kernel_rfl, by kernel_rfl, rfl, by kernel_rfl⟩, by decide, by kernel_rfl⟩
abbrev jread_whole : Nat := 30
noncomputable abbrev jread_whole_c : Option Code := Tryz.f30.body
theorem jread_whole_is : FnIs PP 30 (Tryz.f30.body.getD .skip) 21 2 Tryz.f30.results.toList := ⟨⟨_, Tryz.func30, by kernel_rfl, by kernel_rfl, rfl, by kernel_rfl⟩, by decide, by kernel_rfl⟩
abbrev ref1_Take : Nat := 31
noncomputable abbrev ref1_Take_c : Option Code := Tryz.f31.body
theorem ref1_Take_is : FnIs PP 31 (Tryz.f31.body.getD .skip) 79 1 Tryz.f31.results.toList := ⟨⟨_, Tryz.func31, by kernel_rfl, by kernel_rfl, rfl, by kernel_rfl⟩, by decide, by kernel_rfl⟩
abbrev value_Good : Nat := 32
theorem value_Good_is : FnIs PP 32 (Tryz.f32.body.getD .skip) 9 1 Tryz.f32.results.toList := ⟨⟨_, Tryz.func32, by kernel_rfl, by kernel_rfl, rfl, by kernel_rfl⟩, by decide, by kernel_rfl⟩
abbrev jprint_printer_value : Nat := 33
theorem jprint_printer_value_is : FnIs PP 33 (Tryz.f33.body.getD .skip) 69 3 Tryz.f33.results.toList := ⟨⟨_, Tryz.func33, by kernel_rfl, by kernel_rfl, rfl, by kernel_rfl⟩, by decide, by kernel_rfl⟩
abbrev strings_Builder_String : Nat := 34
theorem strings_Builder_String_is : FnIs PP 34 (Tryz.f34.body.getD .skip) 14 1 Tryz.f34.results.toList := ⟨⟨_, Tryz.func34, by kernel_rfl, by kernel_rfl, rfl, by kernel_rfl⟩, by decide, by kernel_rfl⟩
abbrev ref1_Int : Nat := 35
noncomputable abbrev ref1_Int_c : Option Code := Tryz.f35.body
theorem ref1_Int_is : FnIs PP 35 (Tryz.f35.body.getD .skip) 59 1 Tryz.f35.results.toList := ⟨⟨_, Tryz.func35, by kernel_rfl, by kernel_rfl, rfl, by kernel_rfl⟩, by decide, by kernel_rfl⟩
abbrev ref1_Number : Nat := 36
theorem ref1_Number_is : FnIs PP 36 (Tryz.f36.body.getD .skip) 20 1 Tryz.f36.results.toList := ⟨⟨_, Tryz.func36, by kernel_rfl, by kernel_rfl, rfl, by kernel_rfl⟩, by decide, by kernel_rfl⟩
abbrev ref1_Str : Nat := 37
theorem ref1_Str_is : FnIs PP 37 (Tryz.f37.body.getD .skip) 11 1 Tryz.f37.results.toList := ⟨⟨_, Tryz.func37, by kernel_rfl, by kernel_rfl, rfl, by kernel_rfl⟩, by decide, by kernel_rfl⟩
abbrev ref1_Stamp : Nat := 38
noncomputable abbrev ref1_Stamp_c : Option Code := Tryz.f38.body
theorem ref1_Stamp_is : FnIs PP 38 (Tryz.f38.body.getD .skip) 28 1 Tryz.f38.results.toList := ⟨⟨_, Tryz.func38, by kernel_rfl, by kernel_rfl, rfl, by kernel_rfl⟩, by decide, by kernel_rfl⟩
abbrev jlex_Judge : Nat := 43
theorem jlex_Judge_is : FnIs PP 43 (Tryz.f43.body.getD .skip) 23 1 Tryz.f43.results.toList := ⟨⟨_, Tryz.func43, by kernel_rfl, by kernel_rfl, rfl, by kernel_rfl⟩, by decide, by kernel_rfl⟩
abbrev jlex_while : Nat := 44
theorem jlex_while_is : FnIs PP 44 (Tryz.f44.body.getD .skip) 12 2 Tryz.f44.results.toList := ⟨⟨_, Tryz.func44, by kernel_rfl, by kernel_rfl, rfl, by kernel_rfl⟩, by decide, by kernel_rfl⟩
abbrev jlex_word : Nat := 45
theorem jlex_word_is : FnIs PP 45 (Tryz.f45.body.getD .skip) 106 2 Tryz.f45.results.toList := ⟨⟨_, Tryz.func45, by kernel_rfl, by kernel_rfl, rfl, by kernel_rfl⟩, by decide, by kernel_rfl⟩
abbrev place_Fault : Nat := 46
theorem place_Fault_is : FnIs PP 46 (Tryz.f46.body.getD .skip) 22 3 Tryz.f46.results.toList := ⟨⟨_, Tryz.func46, by kernel_rfl, by kernel_rfl, rfl, by kernel_rfl⟩, by decide, by kernel_rfl⟩
abbrev jread_whole_1 : Nat := 47
noncomputable abbrev jread_whole_1_c : Option Code := Tryz.f47.body
theorem jread_whole_1_is : FnIs PP 47 (Tryz.f47.body.getD .skip) 23 3 Tryz.f47.results.toList := ⟨⟨_, Tryz.func47, by kernel_rfl, by kernel_rfl, rfl, by kernel_rfl⟩, by decide, by kernel_rfl⟩
abbrev jread_reader_value : Nat := 48
theorem jread_reader_value_is : FnIs PP 48 (Tryz.f48.body.getD .skip) 103 2 Tryz.f48.results.toList := ⟨⟨_, Tryz.func48, by kernel_rfl, by kernel_rfl, rfl, by kernel_rfl⟩, by decide, by kernel_rfl⟩
abbrev jread_reader_word : Nat := 49
theorem jread_reader_word_is : FnIs PP 49 (Tryz.f49.body.getD .skip) 13 1 Tryz.f49.results.toList := ⟨⟨_, Tryz.func49, by kernel_rfl, by kernel_rfl, rfl, by kernel_rfl⟩, by decide, by kernel_rfl⟩
abbrev jread_reader_fail : Nat := 50
theorem jread_reader_fail_is : FnIs PP 50 (Tryz.f50.body.getD .skip) 10 2 Tryz.f50.results.toList := ⟨⟨_, Tryz.func50, by kernel_rfl, by kernel_rfl, rfl, by kernel_rfl⟩, by decide, by kernel_rfl⟩
abbrev ref1_Put : Nat := 51
theorem ref1_Put_is : FnIs PP 51 (Tryz.f51.body.getD .skip) 64 1 Tryz.f51.results.toList := ⟨⟨_, Tryz.func51, by kernel_rfl, by kernel_rfl, rfl, by kernel_rfl⟩, by decide, by kernel_rfl⟩
abbrev value_judge_value : Nat := 52
noncomputable abbrev value_judge_value_c : Option Code := Tryz.f52.body
theorem value_judge_value_is : FnIs PP 52 (Tryz.f52.body.getD .skip) 84 3 Tryz.f52.results.toList := ⟨⟨_, Tryz.func52, by kernel_rfl, by kernel_rfl, rfl, by kernel_rfl⟩, by decide, by kernel_rfl⟩
abbrev strings_Builder_WriteString : Nat := 53
theorem strings_Builder_WriteString_is : FnIs PP 53 (Tryz.f53.body.getD .skip) 19 2 Tryz.f53.results.toList := ⟨⟨_, Tryz.func53, by kernel_rfl, by kernel_rfl, rfl, by kernel_rfl⟩, by decide, by kernel_rfl⟩
abbrev dec_Text : Nat := 54
theorem dec_Text_is : FnIs PP 54 (Tryz.f54.body.getD .skip) 5 1 Tryz.f54.results.toList := ⟨⟨_, Tryz.func54, by kernel_rfl, by kernel_rfl, rfl, by kernel_rfl⟩, by decide, by kernel_rfl⟩
abbrev jprint_printer_parts : Nat := 55
noncomputable abbrev jprint_printer_parts_c : Option Code := Tryz.f55.body
theorem jprint_printer_parts_is : FnIs PP 55 (Tryz.f55.body.getD .skip) 46 6 Tryz.f55.results.toList := ⟨⟨_, Tryz.func55, by kernel_rfl, by kernel_rfl, rfl, by kernel_rfl⟩, by decide, by kernel_rfl⟩
abbrev jprint_printer_value_1 : Nat := 56
theorem jprint_printer_value_1_is : FnIs PP 56 (Tryz.f56.body.getD .skip) 14 4 Tryz.f56.results.toList := ⟨⟨_, Tryz.func56, by kernel_rfl, by kernel_rfl, rfl, by kernel_rfl⟩, by decide, by kernel_rfl⟩
abbrev jprint_printer_value_2 : Nat := 57
theorem jprint_printer_value_2_is : FnIs PP 57 (Tryz.f57.body.getD .skip) 14 4 Tryz.f57.results.toList := ⟨⟨_, Tryz.func57, by kernel_rfl, by kernel_rfl, rfl, by kernel_rfl⟩, by decide, by kernel_rfl⟩
abbrev jprint_printer_pair : Nat := 58
theorem jprint_printer_pair_is : FnIs PP 58 (Tryz.f58.body.getD .skip) 27 3 Tryz.f58.results.toList := ⟨⟨_, Tryz.func58, by kernel_rfl, by kernel_rfl, rfl, by kernel_rfl⟩, by decide, by kernel_rfl⟩
abbrev esc_Quote : Nat := 59
theorem esc_Quote_is : FnIs PP 59 (Tryz.f59.body.getD .skip) 5 1 Tryz.f59.results.toList := ⟨⟨_, Tryz.func59, by kernel_rfl, by kernel_rfl, rfl, by kernel_rfl⟩, by decide, by kernel_rfl⟩
abbrev ref1_parts : Nat := 60
noncomputable abbrev ref1_parts_c : Option Code := Tryz.f60.body
theorem ref1_parts_is : FnIs PP 60 (Tryz.f60.body.getD .skip) 106 1 Tryz.f60.results.toList := ⟨⟨_, Tryz.func60, by kernel_rfl, by kernel_rfl, rfl, by kernel_rfl⟩, by decide, by kernel_rfl⟩
abbrev ref1_Form : Nat := 61
theorem ref1_Form_is : FnIs PP 61 (Tryz.f61.body.getD .skip) 30 1 Tryz.f61.results.toList := ⟨⟨_, Tryz.func61, by kernel_rfl, by kernel_rfl, rfl, by kernel_rfl⟩, by decide, by kernel_rfl⟩
abbrev ref1_power : Nat := 62
noncomputable abbrev ref1_power_c : Option Code := Tryz.f62.body
theorem ref1_power_is : FnIs PP 62 (Tryz.f62.body.getD .skip) 36 1 Tryz.f62.results.toList := ⟨⟨_, Tryz.func62, by kernel_rfl, by kernel_rfl, rfl, by kernel_rfl⟩, by decide, by kernel_rfl⟩
abbrev utf_Valid : Nat := 63
noncomputable abbrev utf_Valid_c : Option Code := Tryz.f63.body
theorem utf_Valid_is : FnIs PP 63 (Tryz.f63.body.getD .skip) 26 1 Tryz.f63.results.toList := ⟨⟨_, Tryz.func63, by kernel_rfl, by kernel_rfl, rfl, by kernel_rfl⟩, by decide, by kernel_rfl⟩
abbrev strings_TrimLeft : Nat := 64
theorem strings_TrimLeft_is : FnIs PP 64 (Tryz.f64.body.getD .skip) 37 2 Tryz.f64.results.toList := ⟨⟨_, Tryz.func64, by kernel_rfl, by kernel_rfl, rfl, by kernel_rfl⟩, by decide, by kernel_rfl⟩
abbrev strings_IndexByte : Nat := 65
theorem strings_IndexByte_is : FnIs PP 65 (Tryz.f65.body.getD .skip) 8 2 Tryz.f65.results.toList := ⟨⟨_, Tryz.func65, by kernel_rfl, by kernel_rfl, rfl, by kernel_rfl⟩, by decide, by kernel_rfl⟩
abbrev esc_Unquote : Nat := 66
noncomputable abbrev esc_Unquote_c : Option Code := Tryz.f66.body
theorem esc_Unquote_is : FnIs PP 66 (Tryz.f66.body.getD .skip) 82 2 Tryz.f66.results.toList := ⟨⟨_, Tryz.func66, by kernel_rfl, by kernel_rfl, rfl, by kernel_rfl⟩, by decide, by kernel_rfl⟩
abbrev jlex_number : Nat := 67
theorem jlex_number_is : FnIs PP 67 (Tryz.f67.body.getD .skip) 13 1 Tryz.f67.results.toList := ⟨⟨_, Tryz.func67, by kernel_rfl, by kernel_rfl, rfl, by kernel_rfl⟩, by decide, by kernel_rfl⟩
abbrev place_Of : Nat := 68
theorem place_Of_is : FnIs PP 68 (Tryz.f68.body.getD .skip) 24 2 Tryz.f68.results.toList := ⟨⟨_, Tryz.func68, by kernel_rfl, by kernel_rfl, rfl, by kernel_rfl⟩, by decide, by kernel_rfl⟩
abbrev place_clamp : Nat := 69
theorem place_clamp_is : FnIs PP 69 (Tryz.f69.body.getD .skip) 10 2 Tryz.f69.results.toList := ⟨⟨_, Tryz.func69, by kernel_rfl, by kernel_rfl, rfl, by kernel_rfl⟩, by decide, by kernel_rfl⟩
abbrev jread_reader_is : Nat := 70
theorem jread_reader_is_is : FnIs PP 70 (Tryz.f70.body.getD .skip) 16 2 Tryz.f70.results.toList := ⟨⟨_, Tryz.func70, by kernel_rfl, by kernel_rfl, rfl, by kernel_rfl⟩, by decide, by kernel_rfl⟩
abbrev dec_Int : Nat := 71
theorem dec_Int_is : FnIs PP 71 (Tryz.f71.body.getD .skip) 25 1 Tryz.f71.results.toList := ⟨⟨_, Tryz.func71, by kernel_rfl, by kernel_rfl, rfl, by kernel_rfl⟩, by decide, by kernel_rfl⟩
abbrev jread_reader_list : Nat := 72
noncomputable abbrev jread_reader_list_c : Option Code := Tryz.f72.body
theorem jread_reader_list_is : FnIs PP 72 (Tryz.f72.body.getD .skip) 24 2 Tryz.f72.results.toList := ⟨⟨_, Tryz.func72, by kernel_rfl, by kernel_rfl, rfl, by kernel_rfl⟩, by decide, by kernel_rfl⟩
abbrev jread_reader_pairs : Nat := 73
noncomputable abbrev jread_reader_pairs_c : Option Code := Tryz.f73.body
theorem jread_reader_pairs_is : FnIs PP 73 (Tryz.f73.body.getD .skip) 53 2 Tryz.f73.results.toList := ⟨⟨_, Tryz.func73, by kernel_rfl, by kernel_rfl, rfl, by kernel_rfl⟩, by decide, by kernel_rfl⟩
abbrev ref1_Good : Nat := 74
theorem ref1_Good_is : FnIs PP 74 (Tryz.f74.body.getD .skip) 17 1 Tryz.f74.results.toList := ⟨⟨_, Tryz.func74, by kernel_rfl, by kernel_rfl, rfl, by kernel_rfl⟩, by decide, by kernel_rfl⟩
abbrev value_own : Nat := 75
noncomputable abbrev value_own_c : Option Code := Tryz.f75.body
theorem value_own_is : FnIs PP 75 (Tryz.f75.body.getD .skip) 135 1 Tryz.f75.results.toList := ⟨⟨_, Tryz.func75, by kernel_rfl, by kernel_rfl, rfl, by kernel_rfl⟩, by decide, by kernel_rfl⟩
abbrev value_letters : Nat := 76
theorem value_letters_is : FnIs PP 76 (Tryz.f76.body.getD .skip) 15 1 Tryz.f76.results.toList := ⟨⟨_, Tryz.func76, by kernel_rfl, by kernel_rfl, rfl, by kernel_rfl⟩, by decide, by kernel_rfl⟩
abbrev strings_Builder_copyCheck : Nat := 77
theorem strings_Builder_copyCheck_is : FnIs PP 77 (Tryz.f77.body.getD .skip) 20 1 Tryz.f77.results.toList := ⟨⟨_, Tryz.func77, by kernel_rfl, by kernel_rfl, rfl, by kernel_rfl⟩, by decide, by kernel_rfl⟩
abbrev strconv_FormatInt : Nat := 78
abbrev jprint_printer_line : Nat := 79
theorem jprint_printer_line_is : FnIs PP 79 (Tryz.f79.body.getD .skip) 15 2 Tryz.f79.results.toList := ⟨⟨_, Tryz.func79, by kernel_rfl, by kernel_rfl, rfl, by kernel_rfl⟩, by decide, by kernel_rfl⟩
abbrev esc_quote : Nat := 80
noncomputable abbrev esc_quote_c : Option Code := Tryz.f80.body
theorem esc_quote_is : FnIs PP 80 (Tryz.f80.body.getD .skip) 64 2 Tryz.f80.results.toList := ⟨⟨_, Tryz.func80, by kernel_rfl, by kernel_rfl, rfl, by kernel_rfl⟩, by decide, by kernel_rfl⟩
abbrev ref1_run : Nat := 81
noncomputable abbrev ref1_run_c : Option Code := Tryz.f81.body
theorem ref1_run_is : FnIs PP 81 (Tryz.f81.body.getD .skip) 17 1 Tryz.f81.results.toList := ⟨⟨_, Tryz.func81, by kernel_rfl, by kernel_rfl, rfl, by kernel_rfl⟩, by decide, by kernel_rfl⟩
abbrev ref1_digit : Nat := 82
theorem ref1_digit_is : FnIs PP 82 (Tryz.f82.body.getD .skip) 9 1 Tryz.f82.results.toList := ⟨⟨_, Tryz.func82, by kernel_rfl, by kernel_rfl, rfl, by kernel_rfl⟩, by decide, by kernel_rfl⟩
abbrev utf_Take : Nat := 83
noncomputable abbrev utf_Take_c : Option Code := Tryz.f83.body
theorem utf_Take_is : FnIs PP 83 (Tryz.f83.body.getD .skip) 52 1 Tryz.f83.results.toList := ⟨⟨_, Tryz.func83, by kernel_rfl, by kernel_rfl, rfl, by kernel_rfl⟩, by decide, by kernel_rfl⟩
abbrev strings_trimLeftByte : Nat := 84
noncomputable abbrev strings_trimLeftByte_c : Option Code := Tryz.f84.body
theorem strings_trimLeftByte_is : FnIs PP 84 (Tryz.f84.body.getD .skip) 17 2 Tryz.f84.results.toList := ⟨⟨_, Tryz.func84, by kernel_rfl, by kernel_rfl, rfl, by kernel_rfl⟩, by decide, by kernel_rfl⟩
abbrev internal_stringslite_IndexByte : Nat := 88
theorem internal_stringslite_IndexByte_is : FnIs PP 88 (Tryz.f88.body.getD .skip) 8 2 Tryz.f88.results.toList := ⟨⟨_, Tryz.func88, by kernel_rfl, by kernel_rfl, rfl, by kernel_rfl⟩, by decide, by kernel_rfl⟩
abbrev esc_start : Nat := 89
theorem esc_start_is : FnIs PP 89 (Tryz.f89.body.getD .skip) 13 2 Tryz.f89.results.toList := ⟨⟨_, Tryz.func89, by kernel_rfl, by kernel_rfl, rfl, by kernel_rfl⟩, by decide, by kernel_rfl⟩
abbrev esc_reader_begins : Nat := 90
theorem esc_reader_begins_is : FnIs PP 90 (Tryz.f90.body.getD .skip) 16 2 Tryz.f90.results.toList := ⟨⟨_, Tryz.func90, by kernel_rfl, by kernel_rfl, rfl, by kernel_rfl⟩, by decide, by kernel_rfl⟩
abbrev esc_reader_escape : Nat := 91
theorem esc_reader_escape_is : FnIs PP 91 (Tryz.f91.body.getD .skip) 108 1 Tryz.f91.results.toList := ⟨⟨_, Tryz.func91, by kernel_rfl, by kernel_rfl, rfl, by kernel_rfl⟩, by decide, by kernel_rfl⟩
abbrev esc_reader_letter : Nat := 92
theorem esc_reader_letter_is : FnIs PP 92 (Tryz.f92.body.getD .skip) 37 1 Tryz.f92.results.toList := ⟨⟨_, Tryz.func92, by kernel_rfl, by kernel_rfl, rfl, by kernel_rfl⟩, by decide, by kernel_rfl⟩
abbrev dec_Good : Nat := 93
theorem dec_Good_is : FnIs PP 93 (Tryz.f93.body.getD .skip) 11 1 Tryz.f93.results.toList := ⟨⟨_, Tryz.func93, by kernel_rfl, by kernel_rfl, rfl, by kernel_rfl⟩, by decide, by kernel_rfl⟩
abbrev jlex_great : Nat := 94
theorem jlex_great_is : FnIs PP 94 (Tryz.f94.body.getD .skip) 68 1 Tryz.f94.results.toList := ⟨⟨_, Tryz.func94, by kernel_rfl, by kernel_rfl, rfl, by kernel_rfl⟩, by decide, by kernel_rfl⟩
abbrev strings_LastIndexByte : Nat := 95
abbrev strings_Count : Nat := 96
abbrev utf_Count : Nat := 97
noncomputable abbrev utf_Count_c : Option Code := Tryz.f97.body
theorem utf_Count_is : FnIs PP 97 (Tryz.f97.body.getD .skip) 18 1 Tryz.f97.results.toList := ⟨⟨_, Tryz.func97, by kernel_rfl, by kernel_rfl, rfl, by kernel_rfl⟩, by decide, by kernel_rfl⟩
abbrev strings_ContainsAny : Nat := 98
abbrev strconv_ParseInt : Nat := 99
abbrev jread_reader_take : Nat := 100
theorem jread_reader_take_is : FnIs PP 100 (Tryz.f100.body.getD .skip) 16 2 Tryz.f100.results.toList := ⟨⟨_, Tryz.func100, by kernel_rfl, by kernel_rfl, rfl, by kernel_rfl⟩, by decide, by kernel_rfl⟩
abbrev jread_reader_want : Nat := 101
theorem jread_reader_want_is : FnIs PP 101 (Tryz.f101.body.getD .skip) 10 2 Tryz.f101.results.toList := ⟨⟨_, Tryz.func101, by kernel_rfl, by kernel_rfl, rfl, by kernel_rfl⟩, by decide, by kernel_rfl⟩
abbrev jread_made : Nat := 102
noncomputable abbrev jread_made_c : Option Code := Tryz.f102.body
theorem jread_made_is : FnIs PP 102 (Tryz.f102.body.getD .skip) 27 1 Tryz.f102.results.toList := ⟨⟨_, Tryz.func102, by kernel_rfl, by kernel_rfl, rfl, by kernel_rfl⟩, by decide, by kernel_rfl⟩
abbrev value_stamp : Nat := 103
theorem value_stamp_is : FnIs PP 103 (Tryz.f103.body.getD .skip) 19 1 Tryz.f103.results.toList := ⟨⟨_, Tryz.func103, by kernel_rfl, by kernel_rfl, rfl, by kernel_rfl⟩, by decide, by kernel_rfl⟩
abbrev internal_abi_NoEscape : Nat := 104
abbrev strings_Repeat : Nat := 106
abbrev utf_Put : Nat := 107
theorem utf_Put_is : FnIs PP 107 (Tryz.f107.body.getD .skip) 77 2 Tryz.f107.results.toList := ⟨⟨_, Tryz.func107, by kernel_rfl, by kernel_rfl, rfl, by kernel_rfl⟩, by decide, by kernel_rfl⟩
abbrev utf_begins : Nat := 108
theorem utf_begins_is : FnIs PP 108 (Tryz.f108.body.getD .skip) 30 1 Tryz.f108.results.toList := ⟨⟨_, Tryz.func108, by kernel_rfl, by kernel_rfl, rfl, by kernel_rfl⟩, by decide, by kernel_rfl⟩
abbrev utf_Good : Nat := 109
theorem utf_Good_is : FnIs PP 109 (Tryz.f109.body.getD .skip) 17 1 Tryz.f109.results.toList := ⟨⟨_, Tryz.func109, by kernel_rfl, by kernel_rfl, rfl, by kernel_rfl⟩, by decide, by kernel_rfl⟩
abbrev utf_size : Nat := 110
theorem utf_size_is : FnIs PP 110 (Tryz.f110.body.getD .skip) 12 1 Tryz.f110.results.toList := ⟨⟨_, Tryz.func110, by kernel_rfl, by kernel_rfl, rfl, by kernel_rfl⟩, by decide, by kernel_rfl⟩
abbrev internal_bytealg_IndexByteString : Nat := 114
abbrev strings_HasPrefix : Nat := 115
theorem strings_HasPrefix_is : FnIs PP 115 (Tryz.f115.body.getD .skip) 8 2 Tryz.f115.results.toList := ⟨⟨_, Tryz.func115, by kernel_rfl, by kernel_rfl, rfl, by kernel_rfl⟩, by decide, by kernel_rfl⟩
abbrev esc_short : Nat := 116
theorem esc_short_is : FnIs PP 116 (Tryz.f116.body.getD .skip) 28 2 Tryz.f116.results.toList := ⟨⟨_, Tryz.func116, by kernel_rfl, by kernel_rfl, rfl, by kernel_rfl⟩, by decide, by kernel_rfl⟩
abbrev esc_reader_put : Nat := 117
theorem esc_reader_put_is : FnIs PP 117 (Tryz.f117.body.getD .skip) 27 3 Tryz.f117.results.toList := ⟨⟨_, Tryz.func117, by kernel_rfl, by kernel_rfl, rfl, by kernel_rfl⟩, by decide, by kernel_rfl⟩
abbrev esc_reader_digits : Nat := 118
theorem esc_reader_digits_is : FnIs PP 118 (Tryz.f118.body.getD .skip) 38 3 Tryz.f118.results.toList := ⟨⟨_, Tryz.func118, by kernel_rfl, by kernel_rfl, rfl, by kernel_rfl⟩, by decide, by kernel_rfl⟩
abbrev dec_parse : Nat := 119
noncomputable abbrev dec_parse_c : Option Code := Tryz.f119.body
theorem dec_parse_is : FnIs PP 119 (Tryz.f119.body.getD .skip) 103 1 Tryz.f119.results.toList := ⟨⟨_, Tryz.func119, by kernel_rfl, by kernel_rfl, rfl, by kernel_rfl⟩, by decide, by kernel_rfl⟩
abbrev strings_IndexAny : Nat := 120
abbrev utf_step : Nat := 125
theorem utf_step_is : FnIs PP 125 (Tryz.f125.body.getD .skip) 12 1 Tryz.f125.results.toList := ⟨⟨_, Tryz.func125, by kernel_rfl, by kernel_rfl, rfl, by kernel_rfl⟩, by decide, by kernel_rfl⟩
abbrev slices_Sorted_string : Nat := 128
abbrev maps_Keys_map_string_api_Value_string_api_Value : Nat := 129
theorem maps_Keys_map_string_api_Value_string_api_Value_is : FnIs PP 129 (Tryz.f129.body.getD .skip) 4 1 Tryz.f129.results.toList := ⟨⟨_, Tryz.func129, by kernel_rfl, by kernel_rfl, rfl, by kernel_rfl⟩, by decide, by kernel_rfl⟩
abbrev value_stamp_1 : Nat := 130
theorem value_stamp_1_is : FnIs PP 130 (Tryz.f130.body.getD .skip) 9 1 Tryz.f130.results.toList := ⟨⟨_, Tryz.func130, by kernel_rfl, by kernel_rfl, rfl, by kernel_rfl⟩, by decide, by kernel_rfl⟩
abbrev slices_ContainsFunc_byte_byte : Nat := 131
theorem slices_ContainsFunc_byte_byte_is : FnIs PP 131 (Tryz.f131.body.getD .skip) 9 2 Tryz.f131.results.toList := ⟨⟨_, Tryz.func131, by kernel_rfl, by kernel_rfl, rfl, by kernel_rfl⟩, by decide, by kernel_rfl⟩
abbrev internal_stringslite_HasPrefix : Nat := 141
theorem internal_stringslite_HasPrefix_is : FnIs PP 141 (Tryz.f141.body.getD .skip) 18 2 Tryz.f141.results.toList := ⟨⟨_, Tryz.func141, by kernel_rfl, by kernel_rfl, rfl, by kernel_rfl⟩, by decide, by kernel_rfl⟩
abbrev esc_Hex : Nat := 142
noncomputable abbrev esc_Hex_c : Option Code := Tryz.f142.body
theorem esc_Hex_is : FnIs PP 142 (Tryz.f142.body.getD .skip) 65 1 Tryz.f142.results.toList := ⟨⟨_, Tryz.func142, by kernel_rfl, by kernel_rfl, rfl, by kernel_rfl⟩, by decide, by kernel_rfl⟩
abbrev strings_CutPrefix : Nat := 143
theorem strings_CutPrefix_is : FnIs PP 143 (Tryz.f143.body.getD .skip) 11 2 Tryz.f143.results.toList := ⟨⟨_, Tryz.func143, by kernel_rfl, by kernel_rfl, rfl, by kernel_rfl⟩, by decide, by kernel_rfl⟩
abbrev dec_digits : Nat := 144
noncomputable abbrev dec_digits_c : Option Code := Tryz.f144.body
theorem dec_digits_is : FnIs PP 144 (Tryz.f144.body.getD .skip) 23 1 Tryz.f144.results.toList := ⟨⟨_, Tryz.func144, by kernel_rfl, by kernel_rfl, rfl, by kernel_rfl⟩, by decide, by kernel_rfl⟩
abbrev dec_power : Nat := 145
noncomputable abbrev dec_power_c : Option Code := Tryz.f145.body
theorem dec_power_is : FnIs PP 145 (Tryz.f145.body.getD .skip) 46 1 Tryz.f145.results.toList := ⟨⟨_, Tryz.func145, by kernel_rfl, by kernel_rfl, rfl, by kernel_rfl⟩, by decide, by kernel_rfl⟩
abbrev strings_TrimRight : Nat := 146
theorem strings_TrimRight_is : FnIs PP 146 (Tryz.f146.body.getD .skip) 37 2 Tryz.f146.results.toList := ⟨⟨_, Tryz.func146, by kernel_rfl, by kernel_rfl, rfl, by kernel_rfl⟩, by decide, by kernel_rfl⟩
abbrev maps_Keys_map_string_api_Value_string_api_Value_1 : Nat := 156
abbrev slices_IndexFunc_byte_byte : Nat := 157
noncomputable abbrev slices_IndexFunc_byte_byte_c : Option Code := Tryz.f157.body
theorem slices_IndexFunc_byte_byte_is : FnIs PP 157 (Tryz.f157.body.getD .skip) 19 2 Tryz.f157.results.toList := ⟨⟨_, Tryz.func157, by kernel_rfl, by kernel_rfl, rfl, by kernel_rfl⟩, by decide, by kernel_rfl⟩
abbrev internal_stringslite_CutPrefix : Nat := 169
theorem internal_stringslite_CutPrefix_is : FnIs PP 169 (Tryz.f169.body.getD .skip) 15 2 Tryz.f169.results.toList := ⟨⟨_, Tryz.func169, by kernel_rfl, by kernel_rfl, rfl, by kernel_rfl⟩, by decide, by kernel_rfl⟩
abbrev strings_trimRightByte : Nat := 170
noncomputable abbrev strings_trimRightByte_c : Option Code := Tryz.f170.body
theorem strings_trimRightByte_is : FnIs PP 170 (Tryz.f170.body.getD .skip) 23 2 Tryz.f170.results.toList := ⟨⟨_, Tryz.func170, by kernel_rfl, by kernel_rfl, rfl, by kernel_rfl⟩, by decide, by kernel_rfl⟩
def ref1_plain_t28 : List Nat × List Nat × List Nat := ([0, 1, 0, 7, 15, 31, 63, 127, 255, 511, 1023, 2047, 4095, 8191, 4095, 32767, 65535, 131071, 4095, 266239, 4095, 1052671, 3936255, 8130559, 16519167, 33554431, 67108863, 134217727, 268435455, 536870911, 1073741823, 536870911, 4294967295, 8589934591, 17179869183, 34359738367, 68719476735, 137438953471], [0, 1, 2, 3, 4, 5, 7, 8, 9, 10, 11, 12, 13, 14, 15, 16, 17, 18, 19, 20, 21, 22, 23, 24, 25, 26, 27, 28, 29, 30, 31, 32, 33, 34, 36, 37], [6, 35])
def value_judge_value_t13 : List Nat × List Nat × List Nat := ([0, 1, 3, 7, 15, 7, 39, 7, 135, 487, 999, 2023, 4095, 8191, 16383, 32767, 65535, 131071, 262143, 524287, 1048575, 2097151, 2097151, 6291455, 2097151, 18874367, 67108863, 134217727, 268435455], [0, 1, 2, 3, 4, 5, 6, 7, 8, 9, 10, 11, 12, 13, 14, 15, 16, 18, 19, 20, 21, 22, 23, 24, 25, 27, 28], [17, 26])
end F
end Go.Proofs.YtaoejccgdpppgaaGreatDoor
end

section
namespace Go.Proofs.YtaoejccgdpppgaaGreatDoor
open Go Go.Am Go.RowKit
def GG : Nat → Option PV := fun g => match Nat.beq g Gl.internal_strconv_uint64pow10 with
  | true => some (tabV .u64 ([1, 10, 100, 1000, 10000, 100000, 1000000, 10000000, 100000000, 1000000000, 10000000000, 100000000000, 1000000000000, 10000000000000, 100000000000000, 1000000000000000, 10000000000000000, 100000000000000000, 1000000000000000000, 10000000000000000000]))
  | false => match Nat.beq g Gl.strconv_ErrSyntax with
    | true => some (.iface T.ptr_errors_errorString .anyp)
    | false => match Nat.beq g Gl.strconv_ErrRange with
      | true => some (.iface T.ptr_errors_errorString .anyp)
      | false => none
theorem pow10_lit : Lib.pow10Tab = [1, 10, 100, 1000, 10000, 100000, 1000000, 10000000, 100000000, 1000000000, 10000000000, 100000000000, 1000000000000, 10000000000000, 100000000000000, 1000000000000000, 10000000000000000, 100000000000000000, 1000000000000000000, 10000000000000000000] := by decide
theorem gPow : PP.globalNamed "internal/strconv.uint64pow10" = some Gl.internal_strconv_uint64pow10 := by kernel_rfl
def polG : Pol := { keepR := fun f => Nat.beq f F.utf_Put, byref := fun _ => false, mask := fun _ _ => none }
def polC (l : List Nat) : Pol := { keepR := fun f => Nat.beq f F.utf_Put, byref := fun _ => false, mask := fun _ _ => none, cut := cutAt l }
def ngOk (P : Program) : Bool := P.funcs.all fun fn => !(fn.name == "runtime.NumGoroutine")
theorem ngP (f : Nat) (fn : Func) (h : PP.funcs[f]? = some fn) : (fn.name == "runtime.NumGoroutine") = false := by
  have h0 : ngOk PP = true := by kernel_rfl
  unfold ngOk at h0
  rw [Array.all_eq_true_iff_forall_mem] at h0
  simpa using h0 fn (Array.mem_of_getElem? h)
theorem bytealg_IndexByteString (s : List UInt8) (c : Int) (H : Heap) : AbsCall PP GG F.internal_bytealg_IndexByteString [.p (.str s), .p (.int .u8 c)] H ⟨.ret (.p (.int .i64 (firstIdx ⟨s.toArray⟩ c.toNat.toUInt8))), H, []⟩ :=
  abs_indexByte Tryz.func114 (by kernel_rfl) (by kernel_rfl) (by kernel_rfl) (by kernel_rfl) s c H
end Go.Proofs.YtaoejccgdpppgaaGreatDoor
end

section
namespace Go.Am
open Go
abbrev Str := List UInt8
inductive Tree where
  | mk (kind n : Int) (s : Str) (l : List Tree) (m : List (Str × Tree))
  deriving Inhabited
namespace Tree
def kind : Tree → Int | .mk k _ _ _ _ => k
def n : Tree → Int | .mk _ n _ _ _ => n
def s : Tree → Str | .mk _ _ s _ _ => s
def l : Tree → List Tree | .mk _ _ _ l _ => l
def m : Tree → List (Str × Tree) | .mk _ _ _ _ m => m
mutual
def enc : Tree → PV
  | .mk k n s l m => .agg [.int .i64 k, .int .i64 n, .str s, .lst false (encL l), .lst false (encM m)]
def encL : List Tree → List PV
  | [] => []
  | t :: l => enc t :: encL l
def encM : List (Str × Tree) → List PV
  | [] => []
  | p :: m => encP p :: encM m
def encP : Str × Tree → PV
  | (k, t) => .agg (.str k :: (enc t).cells)
end
mutual
def nodes : Tree → Nat
  | .mk _ _ _ l m => 1 + nodesL l + nodesM m
def nodesL : List Tree → Nat
  | [] => 0
  | t :: l => nodes t + nodesL l
def nodesM : List (Str × Tree) → Nat
  | [] => 0
  | p :: m => nodesP p + nodesM m
def nodesP : Str × Tree → Nat
  | (_, t) => nodes t
end
mutual
def depth : Tree → Nat
  | .mk _ _ _ l m => 1 + max (depthL l) (depthM m)
def depthL : List Tree → Nat
  | [] => 0
  | t :: l => max (depth t) (depthL l)
def depthM : List (Str × Tree) → Nat
  | [] => 0
  | p :: m => max (depthP p) (depthM m)
def depthP : Str × Tree → Nat
  | (_, t) => depth t
end
theorem encL_eq : ∀ l : List Tree, encL l = l.map enc
  | [] => rfl
  | t :: l => by rw [encL, encL_eq l]; rfl
theorem encM_eq : ∀ m : List (Str × Tree), encM m = m.map encP
  | [] => rfl
  | p :: m => by rw [encM, encM_eq m]; rfl
theorem encL_length (l : List Tree) : (encL l).length = l.length := by rw [encL_eq, List.length_map]
theorem encM_length (m : List (Str × Tree)) : (encM m).length = m.length := by rw [encM_eq, List.length_map]
theorem encL_get {l : List Tree} {i : Nat} {t : Tree} (h : l[i]? = some t) : (encL l)[i]? = some (enc t) := by rw [encL_eq, List.getElem?_map, h]; rfl
theorem encM_get {m : List (Str × Tree)} {i : Nat} {p : Str × Tree} (h : m[i]? = some p) : (encM m)[i]? = some (encP p) := by rw [encM_eq, List.getElem?_map, h]; rfl
theorem encM_append (l r : List (Str × Tree)) : encM (l ++ r) = encM l ++ encM r := by simp [encM_eq]
theorem enc_cells : ∀ t : Tree, (enc t).cells.length = 5
  | .mk _ _ _ _ _ => rfl
theorem encP_cells : ∀ p : Str × Tree, (encP p).cells.length = 6
  | (_, .mk _ _ _ _ _) => rfl
theorem enc_isAgg : ∀ t : Tree, (enc t).isAgg = true
  | .mk _ _ _ _ _ => rfl
theorem enc_leaf : ∀ (t : Tree), ∀ c ∈ (enc t).cells, c.leaf = true
  | .mk _ _ _ _ _ => by simp [enc, PV.cells, PV.leaf]
theorem encP_leaf : ∀ (p : Str × Tree), ∀ c ∈ (encP p).cells, c.leaf = true
  | (_, .mk _ _ _ _ _) => by simp [encP, enc, PV.cells, PV.leaf]
theorem nodesL_mem {l : List Tree} {t : Tree} (h : t ∈ l) : nodes t ≤ nodesL l := by
  induction l with
  | nil => simp at h
  | cons x l ih =>
    rw [nodesL]
    rcases List.mem_cons.1 h with rfl | h
    · omega
    · have := ih h; omega
theorem nodesM_mem {m : List (Str × Tree)} {p : Str × Tree} (h : p ∈ m) : nodes p.2 ≤ nodesM m := by
  induction m with
  | nil => simp at h
  | cons x l ih =>
    rw [nodesM]
    rcases List.mem_cons.1 h with rfl | h
    · obtain ⟨a, b⟩ := p; simp [nodesP]
    · have := ih h; omega
theorem nodes_l {t x : Tree} (h : x ∈ t.l) : nodes x < nodes t := by
  obtain ⟨k, n, s, l, m⟩ := t
  have := nodesL_mem (show x ∈ l from h)
  rw [nodes.eq_def (.mk k n s l m)]
  simp only []
  omega
theorem nodes_m {t : Tree} {p : Str × Tree} (h : p ∈ t.m) : nodes p.2 < nodes t := by
  obtain ⟨k, n, s, l, m⟩ := t
  have := nodesM_mem (show p ∈ m from h)
  rw [nodes.eq_def (.mk k n s l m)]
  simp only []
  omega
theorem ind {p : Tree → Prop} (h : ∀ t : Tree, (∀ x ∈ t.l, p x) → (∀ x ∈ t.m, p x.2) → p t) : ∀ t, p t := by
  intro t
  generalize hn : nodes t = q
  induction q using Nat.strongRecOn generalizing t with
  | ind q ih =>
    subst hn
    exact h t (fun x hx => ih _ (nodes_l hx) x rfl) (fun x hx => ih _ (nodes_m hx) x.2 rfl)
theorem eta (t : Tree) : t = .mk t.kind t.n t.s t.l t.m := by cases t; rfl
theorem enc_eta (t : Tree) : enc t = .agg [.int .i64 t.kind, .int .i64 t.n, .str t.s, .lst false (encL t.l), .lst false (encM t.m)] := by cases t; rfl
end Tree
theorem ElemZ.tree {l : List Tree} {i : Nat} {K : PV → Prop} {t : Tree} (h : l[i]? = some t) (k : K t.enc) : ElemZ (Tree.encL l) i 5 K := ⟨_, Tree.encL_get h, Tree.enc_cells t, k⟩
theorem ElemZ.pair {m : List (Str × Tree)} {i : Nat} {K : PV → Prop} {p : Str × Tree} (h : m[i]? = some p) (k : K (Tree.encP p)) : ElemZ (Tree.encM m) i 6 K := ⟨_, Tree.encM_get h, Tree.encP_cells p, k⟩
theorem CLe.eq {c c' : CR} (h : c = c') : CLe c c' := h ▸ CLe.refl c
theorem CLe.retP {d e : PV} {H : Heap} {mv : List Nat} (h : d = e) : CLe ⟨.ret (.p d), H, mv⟩ ⟨.ret (.p e), H, mv⟩ := by rw [h]; exact CLe.refl _
theorem drop_cons {α : Type} {l : List α} {i : Nat} {x : α} (h : l[i]? = some x) : l.drop i = x :: l.drop (i + 1) := by
  obtain ⟨hi, rfl⟩ := List.getElem?_eq_some_iff.1 h
  exact List.drop_eq_getElem_cons hi
end Go.Am
namespace Go.Am
theorem strNil (s : Str) : (s = []) = (s.length = 0) := by simp
theorem not_strNil (s : Str) : (¬ s = []) = (0 < s.length) := by simp [List.length_pos_iff]
end Go.Am
namespace Go.Am
theorem isEmptyCons {α : Type} (a : α) (l : List α) : (a :: l).isEmpty = false := rfl
theorem Br.not {c : Bool} {A B : Prop} (h : Br c B A) : Br (!c) A B := ⟨fun e => h.f (by simpa using e), fun e => h.t (by simpa using e)⟩
end Go.Am
namespace Go.Am
theorem Br.dec {p : Prop} [inst : Decidable p] {A B : Prop} (t : p → A) (f : ¬ p → B) : Br (decide p) A B := ⟨fun h => t (of_decide_eq_true h), fun h => f (of_decide_eq_false h)⟩
theorem Br.ndec {p : Prop} [inst : Decidable p] {A B : Prop} (t : ¬ p → A) (f : p → B) : Br (!decide p) A B := ⟨fun h => t (of_decide_eq_false (by simpa using h)), fun h => f (of_decide_eq_true (by simpa using h))⟩
end Go.Am
namespace Go.Am
namespace Tree
mutual
def wt : Tree → Nat
  | .mk _ _ s l m => 1 + s.length + wtL l + wtM m
def wtL : List Tree → Nat
  | [] => 0
  | t :: l => wt t + wtL l
def wtM : List (Str × Tree) → Nat
  | [] => 0
  | p :: m => wtP p + wtM m
def wtP : Str × Tree → Nat
  | (k, t) => k.length + wt t
end
theorem wt_pos : ∀ t : Tree, 0 < wt t
  | .mk _ _ _ _ _ => by simp [wt]; omega
theorem wtL_mem {l : List Tree} {t : Tree} (h : t ∈ l) : wt t ≤ wtL l := by
  induction l with
  | nil => simp at h
  | cons x l ih =>
    rw [wtL]
    rcases List.mem_cons.1 h with rfl | h
    · omega
    · have := ih h; omega
theorem wtM_mem {m : List (Str × Tree)} {p : Str × Tree} (h : p ∈ m) : p.1.length + wt p.2 ≤ wtM m := by
  induction m with
  | nil => simp at h
  | cons x l ih =>
    rw [wtM]
    rcases List.mem_cons.1 h with rfl | h
    · obtain ⟨a, b⟩ := p; simp [wtP]
    · have := ih h; omega
theorem wtL_len : ∀ l : List Tree, l.length ≤ wtL l
  | [] => by simp [wtL]
  | t :: l => by have := wtL_len l; have := wt_pos t; simp only [wtL, List.length_cons]; omega
theorem wtM_len : ∀ l : List (Str × Tree), l.length ≤ wtM l
  | [] => by simp [wtM]
  | (k, t) :: l => by have := wtM_len l; have := wt_pos t; simp only [wtM, wtP, List.length_cons]; omega
theorem wt_eq (t : Tree) : wt t = 1 + t.s.length + wtL t.l + wtM t.m := by cases t; simp [wt, s, l, m]
theorem wt_s (t : Tree) : t.s.length < wt t := by rw [wt_eq]; omega
theorem wt_ll (t : Tree) : t.l.length < wt t := by rw [wt_eq]; have := wtL_len t.l; omega
theorem wt_ml (t : Tree) : t.m.length < wt t := by rw [wt_eq]; have := wtM_len t.m; omega
theorem wt_l {t x : Tree} (h : x ∈ t.l) : wt x < wt t := by rw [wt_eq t]; have := wtL_mem h; omega
theorem wt_m {t : Tree} {p : Str × Tree} (h : p ∈ t.m) : p.1.length + wt p.2 < wt t := by rw [wt_eq t]; have := wtM_mem h; omega
theorem indW {B : Nat} {p : Tree → Prop} (h : ∀ t : Tree, wt t ≤ B → (∀ x ∈ t.l, wt x ≤ B ∧ p x) → (∀ x ∈ t.m, x.1.length ≤ B ∧ wt x.2 ≤ B ∧ p x.2) → p t) : ∀ t, wt t ≤ B → p t := by
  refine ind ?_
  intro t hl hm hw
  refine h t hw (fun x hx => ?_) (fun x hx => ?_)
  · have := wt_l hx
    exact ⟨by omega, hl x hx (by omega)⟩
  · have := wt_m hx
    exact ⟨by omega, by omega, hm x hx (by omega)⟩
end Tree
end Go.Am
namespace Go.Am
theorem PLe.lstE {ex : Bool} {l m : List PV} (hl : l.length = m.length) (hs : ∀ sz, (∀ x ∈ l, x.cells.length = sz) → ∀ y ∈ m, y.cells.length = sz) (hf : ∀ x ∈ flat m, x.leaf = true) (h : LeL (flat l) (flat m)) : PLe (.lst ex l) (.lst ex m) := fun B w x hx => by
  obtain ⟨h1, h2⟩ := h.spec
  cases hx with
  | lst0 ex a cap he =>
    cases m with
    | nil => exact .lst0 ex a cap he
    | cons y m => cases hl
  | lst ex l b o cap sz u hb hw hz hsz hfl hcap he hc hr =>
    rw [hl]
    refine .lst ex m b o cap sz u hb hw hz (hs sz hsz) hf (by omega) (fun e => ?_) (fun k hk => hc k (by omega)) fun k y hk => ?_
    · obtain ⟨h3, h4⟩ := he e
      refine ⟨by omega, ?_⟩
      rintro rfl
      exact h4 (List.eq_nil_of_length_eq_zero hl)
    · have hk' : k < (flat l).length := by have := (List.getElem?_eq_some_iff.1 hk).1; omega
      exact h2 k (flat l)[k] y (by simp [hk']) hk B w (u k) (hr k _ (by simp [hk']))
end Go.Am
namespace Go.Am
theorem APN : (∀ a b c : Str, (a ++ b) ++ c = a ++ (b ++ c)) ∧ (∀ a : Str, [] ++ a = a) := ⟨fun _ _ _ => by simp, fun _ => rfl⟩
theorem NN : Int.toNat 0 = 0 ∧ Int.toNat 1 = 1 ∧ Int.toNat 2 = 2 ∧ Int.toNat 3 = 3 ∧ Int.toNat 4 = 4 ∧ Int.toNat 5 = 5 ∧ Int.toNat 6 = 6 ∧ Int.toNat 7 = 7 ∧ Int.toNat 8 = 8 ∧ Int.toNat 9 = 9 ∧ Int.toNat 10 = 10 ∧ Int.toNat 11 = 11 ∧ Int.toNat 12 = 12 ∧ Int.toNat 16 = 16 ∧ Int.toNat 18 = 18 := by decide
theorem CC : (∀ l : List PV, PV.cells (.agg l) = l) ∧ (∀ (b : Bool), PV.cells (PV.bool b) = [PV.bool b]) ∧ (∀ (k : IntKind) (n : Int), PV.cells (PV.int k n) = [PV.int k n]) ∧ (∀ (s : List UInt8), PV.cells (PV.str s) = [PV.str s]) ∧ (∀ (e : Bool) (l : List PV), PV.cells (PV.lst e l) = [PV.lst e l]) ∧ (∀ (l : List PV), PV.cells (PV.tup l) = [PV.tup l]) ∧ PV.cells PV.nilptr = [PV.nilptr] ∧ PV.cells PV.nilmap = [PV.nilmap] ∧ PV.cells PV.nilfunc = [PV.nilfunc] ∧ PV.cells PV.nili = [PV.nili] ∧ (∀ (f : Fn), PV.cells (PV.fn f) = [PV.fn f]) ∧ (∀ (t : TypeId) (v : PV), PV.cells (PV.iface t v) = [PV.iface t v]) ∧ (∀ (v : PV), PV.cells (PV.cptr v) = [PV.cptr v]) ∧ PV.cells PV.anyp = [PV.anyp] ∧ PV.cells PV.nils = [PV.nils] ∧ (∀ l : List PV, PV.leaf (.agg l) = false) ∧ (∀ (b : Bool), PV.leaf (PV.bool b) = true) ∧ (∀ (k : IntKind) (n : Int), PV.leaf (PV.int k n) = true) ∧ (∀ (s : List UInt8), PV.leaf (PV.str s) = true) ∧ (∀ (e : Bool) (l : List PV), PV.leaf (PV.lst e l) = true) ∧ (∀ (l : List PV), PV.leaf (PV.tup l) = false) ∧ PV.leaf PV.nilptr = true ∧ PV.leaf PV.nilmap = true ∧ PV.leaf PV.nilfunc = true ∧ PV.leaf PV.nili = true ∧ (∀ (f : Fn), PV.leaf (PV.fn f) = true) ∧ (∀ (t : TypeId) (v : PV), PV.leaf (PV.iface t v) = true) ∧ (∀ (v : PV), PV.leaf (PV.cptr v) = true) ∧ PV.leaf PV.anyp = true ∧ PV.leaf PV.nils = true ∧ (∀ b : UInt8, byteP b = .int .u8 b.toNat) := by
  refine ⟨fun _ => rfl, fun _ => rfl, fun _ _ => rfl, fun _ => rfl, fun _ _ => rfl, fun _ => rfl, rfl, rfl, rfl, rfl, fun _ => rfl, fun _ _ => rfl, fun _ => rfl, rfl, rfl, fun _ => rfl, fun _ => rfl, fun _ _ => rfl, fun _ => rfl, fun _ _ => rfl, fun _ => rfl, rfl, rfl, rfl, rfl, fun _ => rfl, fun _ _ => rfl, fun _ => rfl, rfl, rfl, fun _ => rfl⟩
theorem ZZ : (∀ (p : Prop) [Decidable p], (decide p = true) = p) ∧ (∀ (p : Prop) [Decidable p], (decide p = false) = ¬ p) ∧ (∀ b : Bool, ((!b) = true) = (b = false)) ∧ (∀ b : Bool, ((!b) = false) = (b = true)) ∧
    (∀ a b : Bool, ((a || b) = true) = (a = true ∨ b = true)) ∧ (∀ a b : Bool, ((a || b) = false) = (a = false ∧ b = false)) ∧ (∀ a b : Bool, ((a && b) = true) = (a = true ∧ b = true)) ∧ (∀ a b : Bool, ((a && b) = false) = (a = false ∨ b = false)) ∧
    (∀ b : Bool, (!(!b)) = b) ∧ (∀ s : Str, (s = []) = (s.length = 0)) ∧ (∀ s : Str, (¬ s = []) = (0 < s.length)) ∧ (∀ b : Bool, (¬ (b = true)) = (b = false)) ∧ (∀ b : Bool, (¬ (b = false)) = (b = true)) :=
  ⟨fun _ _ => by simp, fun _ _ => by simp, by simp, by simp, by simp, by simp, by simp, fun _ _ => propext Bool.and_eq_false_iff, by simp, strNil, not_strNil, by simp, by simp⟩
theorem InR.natK {k : IntKind} {n : Nat} (h : n < 2 ^ (k.bits - 1)) : InR k n := by
  cases k <;> simp only [IntKind.bits, Nat.reduceSub, Nat.reducePow] at h <;> (constructor <;> omega)
theorem bv_nat (w a : Nat) : (BitVec.ofInt w (a : Int)) = BitVec.ofNat w a := BitVec.ofInt_natCast w a
theorem iand_nat {k : IntKind} {a b : Nat} (ha : a < 2 ^ k.bits) (hb : b < 2 ^ (k.bits - 1)) : iand k a b = ((a &&& b : Nat) : Int) := by
  have hb' : b < 2 ^ k.bits := Nat.lt_of_lt_of_le hb (Nat.pow_le_pow_right (by omega) (Nat.sub_le _ _))
  unfold iand
  rw [bv_nat, bv_nat, BitVec.toNat_and, BitVec.toNat_ofNat, BitVec.toNat_ofNat, Nat.mod_eq_of_lt ha, Nat.mod_eq_of_lt hb']
  exact InR.wrap (InR.natK (Nat.lt_of_le_of_lt Nat.and_le_right hb))
theorem ior_nat {k : IntKind} {a b : Nat} (ha : a < 2 ^ (k.bits - 1)) (hb : b < 2 ^ (k.bits - 1)) : ior k a b = ((a ||| b : Nat) : Int) := by
  have ha' : a < 2 ^ k.bits := Nat.lt_of_lt_of_le ha (Nat.pow_le_pow_right (by omega) (Nat.sub_le _ _))
  have hb' : b < 2 ^ k.bits := Nat.lt_of_lt_of_le hb (Nat.pow_le_pow_right (by omega) (Nat.sub_le _ _))
  unfold ior
  rw [bv_nat, bv_nat, BitVec.toNat_or, BitVec.toNat_ofNat, BitVec.toNat_ofNat, Nat.mod_eq_of_lt ha', Nat.mod_eq_of_lt hb']
  exact InR.wrap (InR.natK (Nat.or_lt_two_pow ha hb))
theorem iand_low {k : IntKind} {a : Int} (q : Nat) (h0 : 0 ≤ a) (ha : a < 2 ^ k.bits) (hq : q < k.bits) : iand k a (2 ^ q - 1 : Nat) = a % 2 ^ q := by
  obtain ⟨n, rfl⟩ := Int.eq_ofNat_of_zero_le h0
  have hn : n < 2 ^ k.bits := by exact_mod_cast ha
  have hb : 2 ^ q - 1 < 2 ^ (k.bits - 1) := by
    have : 2 ^ q ≤ 2 ^ (k.bits - 1) := Nat.pow_le_pow_right (by omega) (by omega)
    have := Nat.pow_pos (n := q) (show 0 < 2 by omega)
    omega
  rw [iand_nat hn hb, Nat.and_two_pow_sub_one_eq_mod]
  simp
theorem iand63 {a : Int} (h0 : 0 ≤ a) (ha : a ≤ 9223372036854775807) : iand .i64 a 63 = a % 64 := by
  have h2 : a < 2 ^ (IntKind.i64).bits := by
    show a < 2 ^ 64
    omega
  have h3 := iand_low (k := .i64) 6 h0 h2 (by decide)
  rw [show ((2 ^ 6 - 1 : Nat) : Int) = 63 from rfl, show (2 : Int) ^ 6 = 64 from rfl] at h3
  exact h3
theorem ior_shift {a : Int} {q : Nat} {x : Int} (h0 : 0 ≤ a) (ha : a * 2 ^ q ≤ 9223372036854775807) (hx0 : 0 ≤ x) (hx : x < 2 ^ q) (hq : q < 63) : ior .i64 (a * 2 ^ q) x = a * 2 ^ q + x := by
  obtain ⟨n, rfl⟩ := Int.eq_ofNat_of_zero_le h0
  obtain ⟨y, rfl⟩ := Int.eq_ofNat_of_zero_le hx0
  have hy : y < 2 ^ q := by exact_mod_cast hx
  have hn : n * 2 ^ q < 2 ^ 63 := by
    have : ((n * 2 ^ q : Nat) : Int) ≤ 9223372036854775807 := by push_cast; exact ha
    have h : n * 2 ^ q ≤ 9223372036854775807 := Int.ofNat_le.1 (show ((n * 2 ^ q : Nat) : Int) ≤ ((9223372036854775807 : Nat) : Int) from this)
    omega
  have h2 : y < 2 ^ 63 := Nat.lt_trans hy (Nat.pow_lt_pow_right (by omega) hq)
  have e : ((n : Int) * 2 ^ q) = ((n * 2 ^ q : Nat) : Int) := by push_cast; rfl
  rw [e, ior_nat (k := .i64) hn h2, ← Nat.shiftLeft_eq, ← Nat.shiftLeft_add_eq_or_of_lt hy]
  push_cast
  rfl
theorem oct_and63 : ∀ n : Nat, n < 256 → iand .u8 n 63 = ((n % 64 : Nat) : Int) := by decide +kernel
theorem oct_and192 : ∀ n : Nat, n < 256 → (decide (iand .u8 n 192 = 128)) = decide (128 ≤ n ∧ n < 192) := by decide +kernel
theorem oct_andn192 : ∀ n : Nat, n < 256 → 192 ≤ n → iandn .u8 n 192 = ((n % 64 : Nat) : Int) := by decide +kernel
theorem oct_andn224 : ∀ n : Nat, n < 256 → 224 ≤ n → iandn .u8 n 224 = ((n % 32 : Nat) : Int) := by decide +kernel
theorem oct_andn240 : ∀ n : Nat, n < 256 → 240 ≤ n → iandn .u8 n 240 = ((n % 16 : Nat) : Int) := by decide +kernel
theorem oct_or128 : ∀ n : Nat, n < 64 → ior .i64 128 n = ((128 + n : Nat) : Int) := by decide +kernel
theorem oct_or192 : ∀ n : Nat, n < 32 → ior .i64 192 n = ((192 + n : Nat) : Int) := by decide +kernel
theorem oct_or224 : ∀ n : Nat, n < 16 → ior .i64 224 n = ((224 + n : Nat) : Int) := by decide +kernel
theorem oct_or240 : ∀ n : Nat, n < 8 → ior .i64 240 n = ((240 + n : Nat) : Int) := by decide +kernel
def utfSize (r : Int) : Int := if r < 128 then 1 else if r < 2048 then 2 else if r < 65536 then 3 else 4
def utfGood (r : Int) : Bool := decide (0 ≤ r ∧ r ≤ 1114111 ∧ (r < 55296 ∨ 57343 < r))
def utfBegins (c : Nat) : Int × Int :=
  if c < 128 then (1, c) else if c < 192 then (0, 0) else if c < 224 then (2, (c % 64 : Nat)) else if c < 240 then (3, (c % 32 : Nat)) else if c < 248 then (4, (c % 16 : Nat)) else (0, 0)
def takeL : Nat → Str → Int → Option Int
  | 0, _, r => some r
  | _ + 1, [], _ => none
  | q + 1, b :: s, r => if 128 ≤ b.toNat ∧ b.toNat < 192 then takeL q s (r * 64 + (b.toNat % 64 : Nat)) else none
def utfTake (s : Str) : Int × Int :=
  match s with
  | [] => (0, 0)
  | c :: cs => if (utfBegins c.toNat).1 = 0 ∨ (s.length : Int) < (utfBegins c.toNat).1 then (0, 0) else
    match takeL ((utfBegins c.toNat).1.toNat - 1) cs (utfBegins c.toNat).2 with
    | none => (0, 0)
    | some r => if utfGood r = true ∧ utfSize r = (utfBegins c.toNat).1 then (r, (utfBegins c.toNat).1) else (0, 0)
def utfEnc (r : Int) : Str :=
  if utfGood r = false then [] else
  if r < 128 then [UInt8.ofNat r.toNat] else
  if r < 2048 then [UInt8.ofNat (192 + r.toNat / 64), UInt8.ofNat (128 + r.toNat % 64)] else
  if r < 65536 then [UInt8.ofNat (224 + r.toNat / 4096), UInt8.ofNat (128 + r.toNat / 64 % 64), UInt8.ofNat (128 + r.toNat % 64)] else
  [UInt8.ofNat (240 + r.toNat / 262144), UInt8.ofNat (128 + r.toNat / 4096 % 64), UInt8.ofNat (128 + r.toNat / 64 % 64), UInt8.ofNat (128 + r.toNat % 64)]
theorem utfBegins_n (c : Nat) : (utfBegins c).1 = 0 ∨ (utfBegins c).1 = 1 ∨ (utfBegins c).1 = 2 ∨ (utfBegins c).1 = 3 ∨ (utfBegins c).1 = 4 := by
  unfold utfBegins
  repeat' split
  all_goals simp
theorem utfBegins_r (c : Nat) : 0 ≤ (utfBegins c).2 ∧ (utfBegins c).2 ≤ 127 := by
  unfold utfBegins
  repeat' split
  all_goals (constructor <;> simp only [] <;> omega)
def utfScan : Nat → Str → Int → Int × Bool
  | 0, _, at_ => (at_, true)
  | q + 1, s, at_ => match s with
    | [] => (at_, true)
    | c :: cs => if (utfTake (c :: cs)).2 = 0 then (at_, false) else utfScan q ((c :: cs).drop (utfTake (c :: cs)).2.toNat) (at_ + (utfTake (c :: cs)).2)
def utfValid (s : Str) : Int × Bool := utfScan s.length s 0
theorem utfTake_n (s : Str) : (utfTake s).2 = 0 ∨ (1 ≤ (utfTake s).2 ∧ (utfTake s).2 ≤ 4 ∧ (utfTake s).2 ≤ s.length) := by
  unfold utfTake
  split
  · simp
  · rename_i c cs
    split
    · simp
    · rename_i h
      simp only [not_or, Int.not_lt] at h
      split
      · simp
      · split
        · have := utfBegins_n c.toNat
          right
          simp only []
          omega
        · simp
theorem utfTake_r (s : Str) : (utfTake s).2 = 0 ∨ utfGood (utfTake s).1 = true := by
  unfold utfTake
  split
  · simp
  · split
    · simp
    · split
      · simp
      · split
        · rename_i h; right; exact h.1
        · simp
theorem utfTake_0 {s : Str} (h : (utfTake s).2 = 0) : (utfTake s).1 = 0 := by
  unfold utfTake at h ⊢
  split
  · rfl
  · rename_i c cs
    simp only [] at h
    split
    · rfl
    · rename_i h1
      rw [if_neg h1] at h
      split
      · rfl
      · rename_i r hr
        rw [hr] at h
        simp only [] at h
        split
        · rename_i h2
          rw [if_pos h2] at h
          simp only [] at h
          exact absurd h (fun e => h1 (.inl e))
        · rfl
end Go.Am
namespace Go.Am
def takeU : Nat → Int
  | 0 => 1073741824
  | 1 => 16777216
  | 2 => 262144
  | 3 => 4096
  | _ => 64
theorem takeU_step {q : Nat} (hq : q ≤ 2) {r x : Int} (h : r < takeU (q + 1)) (hx : x < 64) : r * 64 + x < takeU q ∧ takeU q ≤ 1073741824 := by
  have : q = 0 ∨ q = 1 ∨ q = 2 := by omega
  rcases this with rfl | rfl | rfl <;> simp only [takeU] at h ⊢ <;> (constructor <;> omega)
theorem takeU_pos (q : Nat) (hq : q ≤ 3) : 127 < takeU q := by
  have : q = 0 ∨ q = 1 ∨ q = 2 ∨ q = 3 := by omega
  rcases this with rfl | rfl | rfl | rfl <;> simp [takeU]
theorem getD_of {s : Str} {i : Nat} {b : UInt8} (h : s[i]? = some b) : s.getD i 0 = b := by simp [List.getD, h]
end Go.Am
namespace Go.Am
theorem CLe.arr {t : TypeId} {sz : Nat} {es es' : List PV} {mv : List Nat} (h : es = es') : CLe ⟨.ret (.sl 0 0 es.length), [.arr t sz es], mv⟩ ⟨.ret (.sl 0 0 es'.length), [.arr t sz es'], mv⟩ := by rw [h]; exact CLe.refl _
theorem bytes_cells (s : Str) : ∀ y ∈ s.map byteP, y.cells.length = 1 := by
  intro y hy; obtain ⟨b, _, rfl⟩ := List.mem_map.1 hy; rfl
theorem byte_of {x : Int} (h0 : 0 ≤ x) (h1 : x ≤ 255) : PV.int .u8 (IntKind.u8.wrap x) = byteP (UInt8.ofNat x.toNat) := by
  obtain ⟨n, rfl⟩ := Int.eq_ofNat_of_zero_le h0
  have hn : n < 256 := by omega
  rw [InR.wrap (show InR .u8 (n : Int) from ⟨by omega, by omega⟩)]
  unfold byteP
  rw [Int.toNat_natCast, UInt8.toNat_ofNat']
  congr 1
  simp only [Nat.reducePow]
  omega
theorem bytesOf_map (s : Str) : bytesOf (s.map byteP) = some s := by
  induction s with
  | nil => rfl
  | cons b s ih =>
    rw [List.map_cons]
    simp only [byteP, bytesOf, ih, Option.map_some, Int.toNat_natCast]
    simp
theorem Bytes.mk' {l : List PV} {s : Str} {K : Str → Prop} (h : l = s.map byteP) (k : K s) : Bytes l K := ⟨s, by rw [h, bytesOf_map], k⟩
end Go.Am
namespace Go.Am
theorem utfSize_1 (r : Int) : utfSize r = 1 ↔ r < 128 := by
  unfold utfSize
  repeat' split
  all_goals (constructor <;> intro h <;> omega)
theorem utfSize_2 (r : Int) : utfSize r = 2 ↔ 128 ≤ r ∧ r < 2048 := by
  unfold utfSize
  repeat' split
  all_goals (constructor <;> intro h <;> omega)
theorem utfSize_3 (r : Int) : utfSize r = 3 ↔ 2048 ≤ r ∧ r < 65536 := by
  unfold utfSize
  repeat' split
  all_goals (constructor <;> intro h <;> omega)
end Go.Am
end
