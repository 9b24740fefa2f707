/-
The abstract machine: operations that may come in any order: what is run.
-/
import Derived.Test.YthkoefpidnphpaaGreatDoorPC
import Derived.Below
import Derived.Laws.Externs
import Derived.Lib.ItoaNum
import Derived.ChangeSame
import Derived.Lib.LaidTab

section
namespace Go.Am
open Go
mutual
def PV.beq : PV → PV → Bool
  | .bool a, .bool b => a == b
  | .int k n, .int j m => decide (k = j) && decide (n = m)
  | .str a, .str b => a == b
  | .agg a, .agg b => PV.beqL a b
  | .lst e a, .lst f b => e == f && PV.beqL a b
  | .tup a, .tup b => PV.beqL a b
  | .nilptr, .nilptr => true
  | .nilmap, .nilmap => true
  | .nilfunc, .nilfunc => true
  | .nili, .nili => true
  | .nils, .nils => true
  | .emp, .emp => true
  | .anyp, .anyp => true
  | .anyi k, .anyi j => decide (k = j)
  | .fn (.func f), .fn (.func g) => decide (f = g)
  | .iface t a, .iface u b => decide (t = u) && PV.beq a b
  | .cptr a, .cptr b => PV.beq a b
  | _, _ => false
def PV.beqL : List PV → List PV → Bool
  | [], [] => true
  | x :: a, y :: b => PV.beq x y && PV.beqL a b
  | _, _ => false
end
mutual
theorem PV.beq_eq : ∀ (a b : PV), PV.beq a b = true → a = b
  | .bool a, b, h => by cases b <;> simp_all [PV.beq]
  | .int k n, b, h => by cases b <;> simp_all [PV.beq]
  | .str a, b, h => by cases b <;> simp_all [PV.beq]
  | .agg a, b, h => by
    cases b <;> try (simp [PV.beq] at h; done)
    rename_i b
    simp only [PV.beq] at h
    rw [PV.beqL_eq a b h]
  | .lst e a, b, h => by
    cases b <;> try (simp [PV.beq] at h; done)
    rename_i f b
    simp only [PV.beq, Bool.and_eq_true, beq_iff_eq] at h
    rw [PV.beqL_eq a b h.2, h.1]
  | .tup a, b, h => by
    cases b <;> try (simp [PV.beq] at h; done)
    rename_i b
    simp only [PV.beq] at h
    rw [PV.beqL_eq a b h]
  | .nilptr, b, h => by cases b <;> simp_all [PV.beq]
  | .nilmap, b, h => by cases b <;> simp_all [PV.beq]
  | .nilfunc, b, h => by cases b <;> simp_all [PV.beq]
  | .nili, b, h => by cases b <;> simp_all [PV.beq]
  | .nils, b, h => by cases b <;> simp_all [PV.beq]
  | .emp, b, h => by cases b <;> simp_all [PV.beq]
  | .anyp, b, h => by cases b <;> simp_all [PV.beq]
  | .anyi k, b, h => by cases b <;> simp_all [PV.beq]
  | .fn f, b, h => by
    cases f <;> cases b <;> try (simp [PV.beq] at h; done)
    rename_i f g
    cases g <;> simp_all [PV.beq]
  | .iface t a, b, h => by
    cases b <;> try (simp [PV.beq] at h; done)
    rename_i u b
    simp only [PV.beq, Bool.and_eq_true, decide_eq_true_eq] at h
    rw [PV.beq_eq a b h.2, h.1]
  | .cptr a, b, h => by
    cases b <;> try (simp [PV.beq] at h; done)
    rename_i b
    simp only [PV.beq] at h
    rw [PV.beq_eq a b h]
theorem PV.beqL_eq : ∀ (a b : List PV), PV.beqL a b = true → a = b
  | [], b, h => by cases b <;> simp_all [PV.beqL]
  | x :: a, b, h => by
    cases b <;> try (simp [PV.beqL] at h; done)
    rename_i y b
    simp only [PV.beqL, Bool.and_eq_true] at h
    rw [PV.beq_eq x y h.1, PV.beqL_eq a b h.2]
end
mutual
def V.beq : V → V → Bool
  | .p a, .p b => PV.beq a b
  | .ptr n o, .ptr m o2 => decide (n = m) && decide (o = o2)
  | .eptr n i o, .eptr m j o2 => decide (n = m) && decide (i = j) && decide (o = o2)
  | .sl n o l, .sl m o2 k => decide (n = m) && decide (o = o2) && decide (l = k)
  | .mapr n, .mapr m => decide (n = m)
  | .func (.func f) a, .func (.func g) b => decide (f = g) && V.beqL a b
  | .agg a, .agg b => V.beqL a b
  | .tup a, .tup b => V.beqL a b
  | .iface t a, .iface u b => decide (t = u) && V.beq a b
  | .junk, .junk => true
  | _, _ => false
def V.beqL : List V → List V → Bool
  | [], [] => true
  | x :: a, y :: b => V.beq x y && V.beqL a b
  | _, _ => false
end
mutual
theorem V.beq_eq : ∀ (a b : V), V.beq a b = true → a = b
  | .p a, b, h => by
    cases b <;> try (simp [V.beq] at h; done)
    rename_i b
    simp only [V.beq] at h
    rw [PV.beq_eq a b h]
  | .ptr n o, b, h => by cases b <;> simp_all [V.beq]
  | .eptr n i o, b, h => by cases b <;> simp_all [V.beq]
  | .sl n o l, b, h => by cases b <;> simp_all [V.beq]
  | .mapr n, b, h => by cases b <;> simp_all [V.beq]
  | .func f a, b, h => by
    cases f <;> cases b <;> try (simp [V.beq] at h; done)
    rename_i f g b
    cases g <;> try (simp [V.beq] at h; done)
    simp only [V.beq, Bool.and_eq_true, decide_eq_true_eq] at h
    rw [V.beqL_eq a b h.2, h.1]
  | .agg a, b, h => by
    cases b <;> try (simp [V.beq] at h; done)
    rename_i b
    simp only [V.beq] at h
    rw [V.beqL_eq a b h]
  | .tup a, b, h => by
    cases b <;> try (simp [V.beq] at h; done)
    rename_i b
    simp only [V.beq] at h
    rw [V.beqL_eq a b h]
  | .iface t a, b, h => by
    cases b <;> try (simp [V.beq] at h; done)
    rename_i u b
    simp only [V.beq, Bool.and_eq_true, decide_eq_true_eq] at h
    rw [V.beq_eq a b h.2, h.1]
  | .junk, b, h => by cases b <;> simp_all [V.beq]
theorem V.beqL_eq : ∀ (a b : List V), V.beqL a b = true → a = b
  | [], b, h => by cases b <;> simp_all [V.beqL]
  | x :: a, b, h => by
    cases b <;> try (simp [V.beqL] at h; done)
    rename_i y b
    simp only [V.beqL, Bool.and_eq_true] at h
    rw [V.beq_eq x y h.1, V.beqL_eq a b h.2]
end
def aheadM (tab : List Nat) : List Edge → Nat
  | [] => 0
  | e :: l => if Region.binds .any e = true then (1 <<< e.on) ||| ((tab[e.on]?).getD 0) ||| aheadM tab l else aheadM tab l
def ancTab : List Oper → List Nat → List Nat
  | [], tab => tab
  | o :: l, tab => ancTab l (tab ++ [aheadM tab o.after.toList])
def isAnc (tab : List Nat) (i j : Nat) : Bool := ((tab[j]?).getD 0).testBit i
def simpleK (P : Program) (bs : Bool) : Op → Bool
  | .move _ | .assign _ | .pick _ _ _ | .load _ _ | .nilCheck _ | .binOp _ _ _ _ _ | .unOp _ _ _ | .slice _ _ _ _ _ | .fieldAddr _ _ _ | .field _ _ _ | .indexAddr _ _ _ | .index _ _ _ | .extract _ _ | .build _ _ => true
  | .makeFunc _ _ _ => true
  | .buildSlice _ _ _ => bs
  | .alloc _ => bs
  | .convert _ b _ => match P.underlying b with
    | some (.slice _) => false
    | some _ => true
    | none => false
  | .call ⟨.builtin .unsafeSliceData, _, _⟩ => true
  | .call ⟨.builtin .len, _, _⟩ | .call ⟨.builtin .min, _, _⟩ | .call ⟨.builtin .max, _, _⟩ => true
  | _ => false
def slotOf (ops : Array Oper) (i : Nat) : Option Nat := (ops[i]?).bind (·.dst)
def isAllocO : Op → Bool
  | .alloc _ => true
  | _ => false
def isAllocL (ops : List Oper) (i : Nat) : Bool := match ops[i]? with
  | some o => isAllocO o.op
  | none => false
def aloneD (ops : Array Oper) (o : Oper) (i d : Nat) : Bool := !isAllocO o.op || (List.range ops.size).all fun j => j == i || !(slotOf ops j == some d)
def isSimple (P : Program) (bs : Bool) (ops : Array Oper) (tab : List Nat) (i : Nat) : Bool :=
  match ops[i]? with
  | none => false
  | some o => simpleK P bs o.op && match o.dst with
    | none => false
    | some d => aloneD ops o i d && (List.range ops.size).all fun j => match ops[j]? with
      | none => true
      | some p => if (Oper.looksAt ops p).contains d || (j != i && p.dst == some d) then isAnc tab i j else true
def maskOf : List Nat → Nat
  | [] => 0
  | c :: l => (1 <<< c) ||| maskOf l
abbrev OneF := Nat → Fr → Option (Ex × Fr)
def eagerL (one : OneF) (ops : Array Oper) : List Nat → Fr → Option Fr
  | [], fr => some fr
  | i :: l, fr => match one i fr, slotOf ops i with
    | some (.normal, fr'), some d => match fr'.env[d]? with
      | some v => eagerL one ops l { fr with env := fr.env.set d v }
      | none => none
    | _, _ => none
def idem (one : OneF) (ops : Array Oper) (F : Fr) (i : Nat) : Bool :=
  match one i F, slotOf ops i with
  | some (.normal, fr'), some d => match fr'.env[d]?, F.env[d]? with
    | some v, some u => V.beq v u
    | _, _ => false
  | _, _ => false
def isNow (tab : List Nat) (rm : Nat) (i : Nat) : Bool := ((tab[i]?).getD 0) &&& rm == 0
def settle (one : OneF) (ops : Array Oper) (tab simples rest : List Nat) (past : Nat) (todo : List Nat) (fr : Fr) : Option Fr :=
  match eagerL one ops (todo.filter (isNow tab (maskOf rest))) fr with
  | some F => if simples.all (fun i => if isNow tab (maskOf rest) i = true ∧ past.testBit i = false then idem one ops F i else true) = true then some F else none
  | none => none
def takesA (ops : List Oper) (tab simples : List Nat) (past c : Nat) : List Nat := simples.filter fun i => isAllocL ops i && isAnc tab i c && !past.testBit i
def adoptA (one0 : OneF) : List Nat → Fr → Option Fr
  | [], F => some F
  | [i], F => match one0 i F with
    | some (.normal, F') => some F'
    | _ => none
  | _, _ => none
def drawGo (one0 one : OneF) (ops : Array Oper) (tab simples : List Nat) : List Nat → Nat → List Nat → Fr → Option (Ex × Fr)
  | [], past, todo, fr => match settle one ops tab simples [] past todo fr with
    | some F => some (.normal, F)
    | none => none
  | c :: rest, past, todo, fr => match settle one ops tab simples (c :: rest) past todo fr with
    | some F => match adoptA one0 (takesA ops.toList tab simples past c) F with
     | none => none
     | some F => match one c F with
      | some (.normal, F') => drawGo one0 one ops tab simples rest (past ||| ((tab[c]?).getD 0)) (todo.filter fun i => !isNow tab (maskOf (c :: rest)) i) F'
      | some (.pan v, F') => some (.pan v, { F' with env := F'.env.map fun _ => .junk })
      | _ => none
    | none => none
def chainOk (tab : List Nat) : List Nat → Bool
  | c :: d :: l => isAnc tab c d && chainOk tab (d :: l)
  | _ => true
def backOk (ops : Array Oper) : Bool := (List.range ops.size).all fun i => match ops[i]? with
  | none => true
  | some o => o.after.toList.all fun e => !(Region.binds .any e) || decide (e.on < i)
def fixedB (P : Program) (G : Nat → Option PV) (o : Oper) (fr : Fr) : Option (Ex × Fr) :=
  match o.op, o.guard, o.dst with
  | .buildSlice t len parts, none, some d =>
    match aop P (Heap.at fr.H) 0 (evalO G fr.env) (.buildSlice t len parts) with
    | some ⟨.sl _ 0 n, .new (.arr _ _ es)⟩ => if n = es.length then some (.normal, { fr with env := fr.env.set d (.p (.lst es.isEmpty es)) }) else none
    | _ => none
  | .alloc t, none, some d => match zeroT P t with
    | some _ => some (.normal, { fr with env := fr.env.set d .junk })
    | none => none
  | _, _, _ => none
def isBuildS : Op → Bool
  | .buildSlice _ _ _ => true
  | .alloc _ => true
  | _ => false
def oneA (P : Program) (G : Nat → Option PV) (pol : Pol) (bs : Bool) (C : CallF) (ops : Array Oper) (i : Nat) (fr : Fr) : Option (Ex × Fr) :=
  match ops[i]? with
  | some o => if bs = true ∧ isBuildS o.op = true then fixedB P G o fr else runOps P G pol C ops [i] fr
  | none => none
def drawB (P : Program) (G : Nat → Option PV) (pol : Pol) (bs : Bool) : DrawG := fun C ops fr =>
  let tab := ancTab ops.toList []
  let simples := (List.range ops.size).filter (isSimple P bs ops tab)
  let chain := (List.range ops.size).filter (fun i => !isSimple P bs ops tab i)
  if backOk ops = true ∧ chainOk tab chain = true then drawGo (oneA P G pol false C ops) (oneA P G pol bs C ops) ops tab simples chain 0 simples fr else none
def drawA (P : Program) (G : Nat → Option PV) (pol : Pol) : DrawG := fun C ops fr =>
  match drawB P G pol false C ops fr with
  | some r => some r
  | none => drawB P G pol true C ops fr
end Go.Am
end

section
namespace Go.Am
open Go
section
variable {P : Program} {G : Nat → Option PV} {pol : Pol} {C : CallF}
theorem opX {X : Nat → Prop} {o : Oper} (h : ∀ t ∈ (o.op.operands.toList.filterMap fun | .tmp t => some t | _ => none), ¬ X t) : ∀ x ∈ o.op.operands, ∀ t, x = .tmp t → ¬ X t := by
  intro x hx t ht
  subst ht
  refine h t ?_
  rw [List.mem_filterMap]
  exact ⟨.tmp t, by simpa using hx, rfl⟩
theorem preNames_congr {ev ev' : Operand → V} (op : Op) (h : ∀ x ∈ op.operands, ev x = ev' x) : preNames ev op = preNames ev' op := by
  cases op with
  | buildSlice t n ps =>
    have hp : ∀ p ∈ ps.toList, ev p.2 = ev' p.2 := fun p hp => h _ (by simp only [Op.operands, List.mem_toArray, List.mem_map]; exact ⟨p, hp, rfl⟩)
    have e1 : (ps.toList.map fun p => ev p.2) = ps.toList.map fun p => ev' p.2 := List.map_congr_left hp
    simp only [preNames, e1]
  | store t a x =>
    have h1 : ev a = ev' a := h _ (by simp [Op.operands])
    have h2 : ev x = ev' x := h _ (by simp [Op.operands])
    simp only [preNames, h1, h2]
  | _ => rfl
theorem sealOp_like {X : Nat → Prop} {fr fr1 : Fr} {e' : List V} {args : List Operand} {ts : List TypeId} {dst : Option Tmp} {ex : Ex} (h : Like X fr.env e') (ha : ∀ x ∈ args, ∀ t, x = .tmp t → ¬ X t) (hs : sealOp P G fr args ts dst = some (ex, fr1)) :
    ∃ e1, sealOp P G (fr.envd e') args ts dst = some (ex, fr1.envd e1) ∧ Like X fr1.env e1 ∧ (ex = .normal → Like (Minus X dst) fr1.env e1) := by
  have hmap : args.map (evalO G (fr.envd e').env) = args.map (evalO G fr.env) := List.map_congr_left fun x hx => h.evalO (ha x hx)
  unfold sealOp at hs ⊢
  have hH : (fr.envd e').H = fr.H := rfl
  rw [hmap, hH]
  split at hs
  · rename_i n k pt it hargs
    split at hs
    case h_2 => cases hs
    split at hs
    case h_2 => cases hs
    rename_i s _
    split at hs
    case isFalse => cases hs
    rename_i hc
    cases hs
    obtain ⟨e1, h1, h2⟩ := freeze_like h n
    rw [if_pos hc, h1]
    exact ⟨putO e1 dst _, rfl, (h2.putO _ _).mono fun x hx => hx.1, fun _ => h2.putO _ _⟩
  · cases hs
    exact ⟨putO e' dst _, rfl, (h.putO _ _).mono fun x hx => hx.1, fun _ => h.putO _ _⟩
  · cases hs
theorem stepOp_like {X : Nat → Prop} {o : Oper} {fr fr1 : Fr} {e' : List V} {ex : Ex} (h : Like X fr.env e') (hx : ∀ x ∈ o.op.operands, ∀ t, x = .tmp t → ¬ X t) (hs : stepOp P G pol C o fr = some (ex, fr1)) :
    ∃ e1, stepOp P G pol C o (fr.envd e') = some (ex, fr1.envd e1) ∧ Like X fr1.env e1 ∧ (ex = .normal → Like (Minus X o.dst) fr1.env e1) := by
  unfold stepOp at hs ⊢
  split at hs
  · rename_i g args ts hop
    rw [hop] at hx
    refine callOp_like h (fun t ht => hx g (by simp [Op.operands, Call.operands]) t ht) (fun x hxa t ht => hx x ?_ t ht) hs
    simp only [Op.operands, Call.operands, Array.mem_append]
    exact .inr (by simpa using hxa)
  · rename_i args ts hop
    rw [hop] at hx
    refine sealOp_like h (fun x hxa t ht => hx x ?_ t ht) hs
    simp only [Op.operands, Call.operands, Array.mem_append]
    exact .inr (by simpa using hxa)
  · rename_i x hop
    rw [hop] at hx
    have hev : evalO G (fr.envd e').env x = evalO G fr.env x := h.evalO (hx x (by simp [Op.operands]))
    rw [hev]
    split at hs
    · rename_i t d hxv
      cases hs
      exact ⟨e', rfl, h, fun e => by cases e⟩
    · rename_i t d hxv
      cases hs
      exact ⟨e', rfl, h, fun e => by cases e⟩
    · cases hs
  · rename_i hn1 hn2
    have hev : ∀ x ∈ o.op.operands, evalO G (fr.envd e').env x = evalO G fr.env x := fun x hxo => h.evalO (hx x hxo)
    simp only [] at hs ⊢
    rw [preNames_congr o.op hev]
    obtain ⟨e1, h1, h2⟩ := freezeAll_like (preNames (evalO G fr.env) o.op) h
    rw [h1]
    have hev2 : ∀ x ∈ o.op.operands, evalO G ((fr.freezeAll (preNames (evalO G fr.env) o.op)).envd e1).env x = evalO G (fr.freezeAll (preNames (evalO G fr.env) o.op)).env x := fun x hxo => h2.evalO (hx x hxo)
    have hH : ((fr.freezeAll (preNames (evalO G fr.env) o.op)).envd e1).H = (fr.freezeAll (preNames (evalO G fr.env) o.op)).H := rfl
    rw [hH, aopA_congr o.op hev2]
    split at hs
    case h_2 => cases hs
    rename_i r hr
    split at hs
    case h_2 => cases hs
    rename_i fr2 hfr2
    cases hs
    obtain ⟨e2, h3, h4⟩ := eff_like h2 hfr2
    rw [h3]
    exact ⟨putO e2 o.dst r.val, rfl, (h4.putO _ _).mono fun x hx => hx.1, fun _ => h4.putO _ _⟩
theorem runOne_like {X : Nat → Prop} {ops : Array Oper} {i : Nat} {o : Oper} (ho : ops[i]? = some o) {fr fr1 : Fr} {e' : List V} {ex : Ex} (h : Like X fr.env e') (hx : ∀ t ∈ Oper.looksAt ops o, ¬ X t) (hs : runOps P G pol C ops [i] fr = some (ex, fr1)) :
    ∃ e1, runOps P G pol C ops [i] (fr.envd e') = some (ex, fr1.envd e1) ∧ Like X fr1.env e1 ∧ (ex = .normal → Like (Minus X o.dst) fr1.env e1) := by
  have hxo : ∀ x ∈ o.op.operands, ∀ t, x = .tmp t → ¬ X t := opX fun t ht => hx t (by unfold Oper.looksAt; exact List.mem_append_left _ ht)
  have one : ∀ {frx frx1 : Fr} {ex1 : Ex} {e2 : List V}, Like X frx.env e2 → (match stepOp P G pol C o frx with
      | some (.normal, fr') => runOps P G pol C ops [] fr'
      | x => x) = some (ex1, frx1) →
      ∃ e1, (match stepOp P G pol C o (frx.envd e2) with
      | some (.normal, fr') => runOps P G pol C ops [] fr'
      | x => x) = some (ex1, frx1.envd e1) ∧ Like X frx1.env e1 ∧ (ex1 = .normal → Like (Minus X o.dst) frx1.env e1) := by
    intro frx frx1 ex1 e2 hl hm
    cases hst : stepOp P G pol C o frx with
    | none => rw [hst] at hm; cases hm
    | some q =>
      obtain ⟨exq, frq⟩ := q
      obtain ⟨e1, h1, h2, h3⟩ := stepOp_like hl hxo hst
      rw [hst] at hm
      rw [h1]
      cases exq <;> simp only [runOps, Option.some.injEq, Prod.mk.injEq] at hm ⊢ <;> obtain ⟨rfl, rfl⟩ := hm <;> exact ⟨e1, ⟨rfl, rfl⟩, h2, fun e => by first | exact h3 rfl | cases e⟩
  simp only [runOps, ho] at hs ⊢
  cases hgd : o.guard with
  | none =>
    rw [hgd] at hs
    exact one h hs
  | some p =>
    obtain ⟨j, want⟩ := p
    rw [hgd] at hs
    simp only [] at hs ⊢
    cases hd : (ops[j]?).bind (·.dst) with
    | none => rw [hd] at hs; cases hs
    | some d =>
      rw [hd] at hs
      simp only [] at hs ⊢
      have hdX : ¬ X d := hx d (by unfold Oper.looksAt; rw [hgd]; exact List.mem_append_right _ (by simp [hd]))
      have hg : (fr.envd e').env[d]? = fr.env[d]? := h.get hdX
      rw [hg]
      split at hs
      · rename_i b hb
        split at hs
        · rename_i e
          rw [if_pos e]
          exact one (frx := { fr with env := fr.env.set d (.p (.bool want)) }) (e2 := e'.set d (.p (.bool want))) ((h.set d _).mono fun x hx => hx.1) hs
        · rename_i e
          rw [if_neg e]
          simp only [Option.some.injEq, Prod.mk.injEq] at hs ⊢
          obtain ⟨rfl, rfl⟩ := hs
          have := ((h.set d (.p (.bool (!want)))).mono (Y := X) fun x hx => hx.1).putO o.dst (.p (.tup []))
          exact ⟨_, ⟨rfl, rfl⟩, this.mono fun x hx => hx.1, fun _ => this⟩
      · simp only [Option.some.injEq, Prod.mk.injEq] at hs ⊢
        obtain ⟨rfl, rfl⟩ := hs
        have := h.putO o.dst (.p (.tup []))
        exact ⟨_, ⟨rfl, rfl⟩, this.mono fun x hx => hx.1, fun _ => this⟩
      · cases hs
theorem fixedB_like {X : Nat → Prop} {o : Oper} {fr fr1 : Fr} {e' : List V} {ex : Ex} (h : Like X fr.env e') (hx : ∀ x ∈ o.op.operands, ∀ t, x = .tmp t → ¬ X t) (hs : fixedB P G o fr = some (ex, fr1)) :
    ∃ e1, fixedB P G o (fr.envd e') = some (ex, fr1.envd e1) ∧ Like X fr1.env e1 ∧ (ex = .normal → Like (Minus X o.dst) fr1.env e1) := by
  have hev : ∀ x ∈ o.op.operands, evalO G (fr.envd e').env x = evalO G fr.env x := fun x hxo => h.evalO (hx x hxo)
  unfold fixedB at hs ⊢
  split at hs
  case h_3 => cases hs
  case h_2 =>
    rename_i t d hop hgd hdst
    split at hs
    case h_2 => cases hs
    rename_i z hz
    cases hs
    exact ⟨_, rfl, (h.set _ _).mono fun x hx => hx.1, fun _ => (h.set _ _).mono fun x hx => ⟨hx.1, fun e => hx.2 (Option.some.inj (hdst.symm.trans e)).symm⟩⟩
  rename_i t len parts d hop hgd hdst
  rw [hop] at hev
  have hH : (fr.envd e').H = fr.H := rfl
  rw [hH, aop_congr _ hev]
  split at hs
  case h_2 => cases hs
  rename_i b n sz es hr
  split at hs
  case isFalse => cases hs
  rename_i hc
  cases hs
  rw [if_pos hc]
  exact ⟨_, rfl, (h.set _ _).mono fun x hx => hx.1, fun _ => (h.set _ _).mono fun x hx => ⟨hx.1, fun e => hx.2 (Option.some.inj (hdst.symm.trans e)).symm⟩⟩
theorem oneA_like {X : Nat → Prop} {bs : Bool} {ops : Array Oper} {i : Nat} {o : Oper} (ho : ops[i]? = some o) {fr fr1 : Fr} {e' : List V} {ex : Ex} (h : Like X fr.env e') (hx : ∀ t ∈ Oper.looksAt ops o, ¬ X t) (hs : oneA P G pol bs C ops i fr = some (ex, fr1)) :
    ∃ e1, oneA P G pol bs C ops i (fr.envd e') = some (ex, fr1.envd e1) ∧ Like X fr1.env e1 ∧ (ex = .normal → Like (Minus X o.dst) fr1.env e1) := by
  unfold oneA at hs ⊢
  simp only [ho] at hs ⊢
  split at hs
  · rename_i hc
    rw [if_pos hc]
    exact fixedB_like h (opX fun t ht => hx t (by unfold Oper.looksAt; exact List.mem_append_left _ ht)) hs
  · rename_i hc
    rw [if_neg hc]
    exact runOne_like ho h hx hs
theorem simple_eff {bs : Bool} {H : Nat → HO} {base : Nat} {ev : Operand → V} {op : Op} (hb : isBuildS op = false) (hs : simpleK P bs op = true) {r : Res} (hr : aop P H base ev op = some r) : r.eff = .none := by
  have pure : ∀ {v : V}, pureR v = some r → r.eff = .none := fun h => by simp only [pureR, Option.some.injEq] at h; subst h; rfl
  have bindp : ∀ {α : Type} {x : Option α} {f : α → V}, (x.bind fun a => pureR (f a)) = some r → r.eff = .none := by
    intro α x f h
    cases x with
    | none => cases h
    | some a => exact pure h
  cases op <;> simp only [simpleK, isBuildS, Bool.false_eq_true, Bool.true_eq_false] at hs hb <;> try (cases hs; done)
  case convert a b x =>
    simp only [aop] at hr
    cases hb2 : P.underlying b with
    | none => rw [hb2] at hs; cases hs
    | some T =>
      rw [hb2] at hs
      have hns : ∀ e, T ≠ .slice e := by rintro e rfl; simp at hs
      have h0 : bytesA P base a b (ev x) = none := by
        unfold bytesA
        rw [hb2]
        split
        · rename_i e1 e2 _; exact (hns _ (Option.some.inj e2)).elim
        · rfl
      rw [h0] at hr
      split at hr
      · rename_i r' hc
        cases hr
        unfold convA at hc
        split at hc
        · exact pure hc
        · exact pure hc
        · split at hc
          · split at hc
            · rename_i l _
              cases hbl : bytesOf l with
              | none => rw [hbl] at hc; cases hc
              | some s => rw [hbl] at hc; exact pure hc
            · cases hc
          · cases hc
        · cases hc
      · cases hr
  case makeFunc f first cs =>
    cases f <;> simp only [aop] at hr
    all_goals first
      | (cases hr; done)
      | (split at hr
         · split at hr <;> exact pure hr
         · cases hr)
  case call c =>
    obtain ⟨callee, args, ts⟩ := c
    cases callee with
    | builtin b =>
      cases b <;> first | (simp at hs; done) | skip
      all_goals
        simp only [aop] at hr
        repeat' split at hr
        all_goals first | exact pure hr | exact bindp hr | cases hr
    | _ => simp at hs
  all_goals
    simp only [aop] at hr
    first
      | exact pure hr
      | exact bindp hr
      | (repeat' split at hr
         all_goals first | exact pure hr | exact bindp hr | cases hr)
theorem simple_effA {bs : Bool} {H : Nat → HO} {base : Nat} {ev : Operand → V} {op : Op} (hb : isBuildS op = false) (hs : simpleK P bs op = true) {r : Res} (hr : aopA P H base ev op = some r) : r.eff = .none := by
  unfold aopA at hr
  split at hr
  · rename_i r' h'; cases hr; exact simple_eff hb hs h'
  · split at hr
    · cases hr; rfl
    · split at hr
      · cases hr; rfl
      · split at hr
        · cases hr; rfl
        · unfold aopM at hr
          split at hr
          · simp [simpleK] at hs
          · simp [simpleK] at hs
          · simp [simpleK] at hs
          · simp [simpleK] at hs
          · cases hr
theorem simple_pre {bs : Bool} {ev : Operand → V} {op : Op} (hb : isBuildS op = false) (hs : simpleK P bs op = true) : preNames ev op = [] := by
  cases op <;> simp_all [simpleK, isBuildS, preNames]
theorem simple_step {bs : Bool} {o : Oper} (hb : isBuildS o.op = false) (hs : simpleK P bs o.op = true) {fr fr1 : Fr} {ex : Ex} (h : stepOp P G pol C o fr = some (ex, fr1)) : ex = .normal ∧ ∃ v, fr1 = { fr with env := putO fr.env o.dst v } := by
  unfold stepOp at h
  split at h
  · rename_i hop; rw [hop] at hs; simp [simpleK] at hs
  · rename_i hop; rw [hop] at hs; simp [simpleK] at hs
  · rename_i hop; rw [hop] at hs; simp [simpleK] at hs
  · simp only [simple_pre hb hs, Fr.freezeAll] at h
    split at h
    case h_2 => cases h
    rename_i r hr
    rw [simple_effA hb hs hr] at h
    simp only [Fr.eff, Option.some.injEq, Prod.mk.injEq] at h
    obtain ⟨rfl, rfl⟩ := h
    exact ⟨rfl, _, rfl⟩
theorem set_self {env : List V} {d : Nat} {v : V} (h : env[d]? = some v) : env.set d v = env := by
  apply List.ext_getElem?
  intro i
  rw [List.getElem?_set]
  split
  · rename_i e; subst e
    rw [if_pos (List.getElem?_eq_some_iff.1 h).1, h]
  · rfl
theorem oneA_simple {bs : Bool} {ops : Array Oper} {i d : Nat} {o : Oper} (ho : ops[i]? = some o) (hd : o.dst = some d) (hs : simpleK P bs o.op = true) {fr fr1 : Fr} {ex : Ex} (h : oneA P G pol bs C ops i fr = some (ex, fr1)) :
    ex = .normal ∧ ∃ v, fr1 = { fr with env := fr.env.set d v } := by
  unfold oneA at h
  simp only [ho] at h
  split at h
  · unfold fixedB at h
    split at h
    case h_3 => cases h
    case h_2 =>
      rename_i t d' hop hgd hdst
      rw [hd] at hdst
      cases hdst
      split at h
      · cases h; exact ⟨rfl, _, rfl⟩
      · cases h
    rename_i t len parts d' hop hgd hdst
    rw [hd] at hdst
    cases hdst
    split at h
    case h_2 => cases h
    split at h
    · cases h; exact ⟨rfl, _, rfl⟩
    · cases h
  · rename_i hc
    have hb : isBuildS o.op = false := by
      cases hq : isBuildS o.op with
      | false => rfl
      | true =>
        have : bs = false := by cases bs with
          | false => rfl
          | true => exact (hc ⟨rfl, hq⟩).elim
        subst this
        cases hop : o.op <;> simp [hop, isBuildS] at hq <;> simp [hop, simpleK] at hs
    have one : ∀ {frx : Fr}, frx.H = fr.H → frx.k = fr.k → frx.mv = fr.mv → frx.env = fr.env → (match stepOp P G pol C o frx with
      | some (.normal, fr') => runOps P G pol C ops [] fr'
      | x => x) = some (ex, fr1) → ex = .normal ∧ ∃ v, fr1 = { fr with env := fr.env.set d v } := by
      intro frx h1 h2 h3 h4 hm
      have e : frx = fr := by cases frx; cases fr; simp_all
      subst e
      cases hst : stepOp P G pol C o frx with
      | none => rw [hst] at hm; cases hm
      | some q =>
        obtain ⟨exq, frq⟩ := q
        obtain ⟨rfl, v, rfl⟩ := simple_step hb hs hst
        rw [hst] at hm
        simp only [runOps, Option.some.injEq, Prod.mk.injEq] at hm
        obtain ⟨rfl, rfl⟩ := hm
        exact ⟨rfl, v, by rw [hd]; rfl⟩
    simp only [runOps, ho] at h
    cases hgd : o.guard with
    | none =>
      rw [hgd] at h
      exact one rfl rfl rfl rfl h
    | some p =>
      obtain ⟨j, want⟩ := p
      rw [hgd] at h
      simp only [] at h
      split at h
      · cases h
      · split at h
        · rename_i b hb
          split at h
          · rename_i e
            subst e
            exact one (frx := { fr with env := fr.env.set _ (.p (.bool b)) }) rfl rfl rfl (set_self hb) h
          · rename_i e
            have : b = !want := by cases b <;> cases want <;> simp_all
            rw [← this, set_self hb] at h
            simp only [Option.some.injEq, Prod.mk.injEq] at h
            obtain ⟨rfl, rfl⟩ := h
            exact ⟨rfl, _, by rw [hd]; rfl⟩
        · simp only [Option.some.injEq, Prod.mk.injEq] at h
          obtain ⟨rfl, rfl⟩ := h
          exact ⟨rfl, _, by rw [hd]; rfl⟩
        · cases h
end
end Go.Am
end

section
namespace Go.Am
open Go
section
variable {P : Program} {G : Nat → Option PV} {pol : Pol} {C : CallF}
theorem Step.less {B : Nat → Prop} {w : World} (b : Nat) : Step B w (less B b) w := ⟨Nat.le_refl _, fun _ _ _ => rfl, fun _ _ h => h.1⟩
theorem drop_new {B B' : Nat → Prop} {L L' : Loc} {w w' : World} {H : Heap} {mv : List Nat} {k sz N : Nat} (hN : H.length ≤ N) {ty : TypeId} {es : List PV} {u : Value} (hst' : St B' L' w' (Heap.put H N (.arr ty sz es)))
    (hfs : FS k B L w H mv B' L' w' (Heap.put H N (.arr ty sz es)) mv) (hv : VRel B' L' w' (.sl N 0 es.length) u) :
    FS k B L w H mv (less B' (L'.blk N)) L' w' H mv ∧ St (less B' (L'.blk N)) L' w' H ∧ VRel (less B' (L'.blk N)) L' w' (.p (.lst false es)) u ∧ Step B' w' (less B' (L'.blk N)) w' := by
  have hat : Heap.at (Heap.put H N (.arr ty sz es)) N = .arr ty sz es := Heap.at_put_same _ _ _
  have hdead : Heap.at H N = .dead := by simp [Heap.at, List.getElem?_eq_none hN]
  have hne : ∀ n, (Heap.at H n).live → n ≠ N := by rintro n hl rfl; rw [hdead] at hl; exact hl
  have hat' : ∀ n, n ≠ N → Heap.at (Heap.put H N (.arr ty sz es)) n = Heap.at H n := fun n hn => Heap.at_put_ne _ _ hn
  have hlv : (Heap.at (Heap.put H N (.arr ty sz es)) N).live := by rw [hat]; trivial
  have hrel := hst'.rel N
  rw [hat] at hrel
  refine ⟨?_, ?_, ?_, Step.less _⟩
  · refine ⟨hfs.size, hfs.same, hfs.own, fun b hb h => hfs.sub b hb h.1, fun b hb hB hn => ⟨hfs.keep b hb hB hn, ?_⟩, hfs.mvs, hfs.loc, fun n hl => ?_⟩
    · rintro rfl
      rcases hfs.fresh _ hlv with ⟨m, h1, h2⟩ | h1
      · exact hn m h1 h2.symm
      · omega
    · exact hfs.fresh n (by rw [hat' n (hne n hl)]; exact hl)
  · refine ⟨fun n => ?_, fun n hl => ?_, fun n m hn hm e => ?_, fun b hb => hst'.bnd b hb.1⟩
    · by_cases e : n = N
      · subst e; rw [hdead]; exact .dead
      · have := hst'.rel n
        rw [hat' n e] at this
        exact this.step (Step.less _) (fun _ => rfl)
    · have h1 := hst'.own n (by rw [hat' n (hne n hl)]; exact hl)
      refine ⟨⟨h1.1, fun e => hne n hl (hst'.inj n _ (by rw [hat' n (hne n hl)]; exact hl) hlv e)⟩, h1.2⟩
    · exact hst'.inj n m (by rw [hat' n (hne n hn)]; exact hn) (by rw [hat' m (hne m hm)]; exact hm) e
  · have := hv.frz hrel (hst'.own _ hlv).2
    simpa [V.frz] using this
theorem fresh_ex (fr : Fr) : ∃ N, fr.fresh N = true ∧ fr.k ≤ N ∧ fr.H.length ≤ N := by
  have key : ∀ l : List Nat, ∃ M, ∀ n ∈ l, n < M := by
    intro l
    induction l with
    | nil => exact ⟨0, by simp⟩
    | cons a l ih =>
      obtain ⟨M, hM⟩ := ih
      refine ⟨M + a + 1, fun n hn => ?_⟩
      rcases List.mem_cons.1 hn with rfl | hn
      · omega
      · have := hM n hn; omega
  obtain ⟨M1, h1⟩ := key (fr.env.flatMap V.names)
  obtain ⟨M2, h2⟩ := key (fr.H.flatMap HO.names)
  refine ⟨M1 + M2 + fr.k + fr.H.length, ?_, by omega, by omega⟩
  unfold Fr.fresh
  simp only [Bool.and_eq_true, Bool.not_eq_true', List.any_eq_false]
  refine ⟨fun v hv e => ?_, fun o ho e => ?_⟩
  · have := h1 _ (List.mem_flatMap.2 ⟨v, hv, has_names.1 e⟩)
    omega
  · have hm : (M1 + M2 + fr.k + fr.H.length) ∈ o.names := by simpa using e
    have := h2 _ (List.mem_flatMap.2 ⟨o, ho, hm⟩)
    omega
theorem wpOp_dst {ops : Array Oper} {Q : Exit → Act → World → Prop} {i : Nat} {o : Oper} (ho : ops[i]? = some o) {a : Act} {w : World} {K K' : Act → World → Prop} (h : ∀ a' w' v, a'.tmps = (a.put o.dst v).tmps → K a' w' → K' a' w')
    (hh : wpOp P ops Q i K a w) : wpOp P ops Q i K' a w := by
  unfold wpOp at *
  simp only [ho] at hh ⊢
  split
  · rename_i hw
    rw [if_pos hw] at hh
    refine hh.imp (fun hh => ?_) id
    unfold Oper.wp at *
    generalize (execOp a.eval o).run P w = r at *
    cases r with
    | ok n w' =>
      cases n <;> simp only [Oper.upon] at hh ⊢
      all_goals first
        | exact h _ _ _ rfl hh
        | exact h _ _ undef (by cases o.dst <;> rfl) hh
        | exact Calls.mono hh (fun e w'' he => by cases e <;> first | exact h _ _ _ rfl he | exact he)
        | exact Rows.mono hh (fun _ _ he => h _ _ _ rfl he)
    | halt x w' => cases x <;> simp only [Oper.upon] at hh ⊢ <;> exact hh
  · rename_i hw
    rw [if_neg hw] at hh
    exact h _ _ _ rfl hh
theorem put_other {a : Act} {dst : Option Tmp} {v : Value} {d : Nat} (h : dst ≠ some d) : (a.put dst v).tmps[d]? = a.tmps[d]? := by
  cases dst with
  | none => rfl
  | some e => simp only [Act.put]; rw [Array.getElem?_setIfInBounds_ne (fun e' => h (by rw [e']))]
theorem St.grow {B : Nat → Prop} {L : Loc} {w : World} {H : Heap} (ob : Obj) (h : St B L w H) : St (more B w.heap.size) L (w.alloc ob) H := by
  constructor
  · intro m
    exact (h.rel m).step (step_alloc B w ob) fun hm => RowKit.Below.heap_alloc w ob _ (h.own m hm).2
  · intro m hm; have := h.own m hm; exact ⟨.inl this.1, by rw [alloc_size]; omega⟩
  · exact h.inj
  · intro b hb
    rcases hb with hb | hb
    · have := h.bnd b hb; rw [alloc_size]; omega
    · rw [alloc_size]; omega
theorem FS.grow {k : Nat} {B : Nat → Prop} {L : Loc} {w : World} {H : Heap} {mv : List Nat} (ob : Obj) : FS k B L w H mv (more B w.heap.size) L (w.alloc ob) H mv :=
  ⟨by rw [alloc_size]; omega, ⟨rfl, rfl, rfl⟩, fun b hb _ => RowKit.Below.heap_alloc w ob b hb, fun b hb h => h.elim id fun e => by omega, fun _ _ h _ => .inl h, fun _ h => h, fun _ _ _ => ⟨rfl, rfl, rfl⟩, fun n h => .inl ⟨n, h, rfl⟩⟩
def PendAt (P : Program) (ops : Array Oper) (s0 : Nat) (B : Nat → Prop) (L : Loc) (w : World) (H : Heap) (tmps : Array Value) (i b : Nat) : Prop :=
  ∃ o t d inf v, ops[i]? = some o ∧ o.op = .alloc t ∧ o.guard = none ∧ o.dst = some d ∧ P.info? t = some inf ∧ inf.zero = some v ∧ B b ∧ b < w.heap.size ∧ s0 ≤ b ∧ (∀ n, (Heap.at H n).live → L.blk n ≠ b) ∧
    w.heap[b]? = some (.cells v.cells t) ∧ tmps[d]? = some (.pointer (some ⟨b, 0, none⟩))
theorem PendAt.step {ops : Array Oper} {s0 k i b : Nat} {B B' : Nat → Prop} {L L' : Loc} {w w' : World} {H H' : Heap} {mv mv' : List Nat} {tmps tmps' : Array Value} (h : PendAt P ops s0 B L w H tmps i b)
    (hfs : FS k B L w H mv B' L' w' H' mv') (ht : ∀ d, slotOf ops i = some d → tmps'[d]? = tmps[d]?) : PendAt P ops s0 B' L' w' H' tmps' i b := by
  obtain ⟨o, t, d, inf, v, h1, h2, h3, h4, h5, h6, h7, h8, h9, h10, h11, h12⟩ := h
  refine ⟨o, t, d, inf, v, h1, h2, h3, h4, h5, h6, hfs.keep b h8 h7 h10, Nat.lt_of_lt_of_le h8 hfs.size, h9, fun n hl e => ?_, by rw [hfs.own b h8 h10]; exact h11, by rw [ht d (by simp [slotOf, h1, h4])]; exact h12⟩
  rcases hfs.fresh n hl with ⟨m, hm, hm2⟩ | hm
  · exact h10 m hm (hm2 ▸ e)
  · omega
theorem alloc_sound {ops : Array Oper} {i : Nat} {o : Oper} {t : TypeId} {d : Nat} {z : PV} (ho : ops[i]? = some o) (hop : o.op = .alloc t) (hgd : o.guard = none) (hdst : o.dst = some d) (hz : zeroT P t = some z)
    {B : Nat → Prop} {L : Loc} {w : World} {fr : Fr} {a : Act} (hst : St B L w fr.H) (he : ERel B L w fr.env a.tmps) (K : Act → World → Prop) (Q : Exit → Act → World → Prop)
    (hK : ∀ a' w', EPost fr.k B L w fr.H fr.mv a.defers .normal { fr with env := fr.env.set d .junk } .normal a' w' →
      (d < a.tmps.size → ∃ B', FS fr.k B L w fr.H fr.mv B' L w' fr.H fr.mv ∧ St B' L w' fr.H ∧ ERel B' L w' (fr.env.set d .junk) a'.tmps ∧ a'.defers = a.defers ∧ (∀ s0, s0 ≤ w.heap.size → PendAt P ops s0 B' L w' fr.H a'.tmps i w.heap.size)) → K a' w') : wpOp P ops Q i K a w := by
  obtain ⟨inf, v, hi, hzv, hoc⟩ := zeroT_some hz
  unfold wpOp
  simp only [ho]
  rw [if_pos (by simp [Region.wanted, hgd])]
  refine .inl ?_
  obtain ⟨dst, op, type, pos, after, guard⟩ := o
  simp only [] at hop hgd hdst
  subst hop
  subst hgd
  subst hdst
  have hrun : (execOp a.eval ⟨some d, .alloc t, type, pos, after, none⟩).run P w = .ok (.value (.pointer (some ⟨w.heap.size, 0, none⟩))) (w.alloc (.cells v.cells t)) := by
    simp [execOp, Instr.alloc, zeroValue, typeInfo, hi, hzv, newVar, newRow]
  unfold Oper.wp
  rw [hrun, Oper.upon_value]
  have hst' := hst.grow (.cells v.cells t)
  have hfs : FS fr.k B L w fr.H fr.mv (more B w.heap.size) L (w.alloc (.cells v.cells t)) fr.H fr.mv := FS.grow _
  have he' : ERel (more B w.heap.size) L (w.alloc (.cells v.cells t)) fr.env a.tmps := by
    have := he.map id (fun x u _ h => h.step (step_alloc B w (.cells v.cells t)))
    simpa using this
  have he2 : ERel (more B w.heap.size) L (w.alloc (.cells v.cells t)) (fr.env.set d .junk) (a.put (some d) (.pointer (some ⟨w.heap.size, 0, none⟩))).tmps := he'.put (some d) (VRel.junk _)
  refine hK _ _ ⟨_, L, hfs, he2, hst', rfl, rfl, trivial⟩ fun hd => ⟨_, hfs, hst', he2, rfl, fun s0 hs => ?_⟩
  refine ⟨_, t, d, inf, v, ho, rfl, rfl, rfl, hi, hzv, .inr rfl, by rw [alloc_size]; omega, hs, fun n hl e => ?_, ?_, ?_⟩
  · have := (hst.own n hl).2; omega
  · show (w.heap.push _)[w.heap.size]? = _; simp
  · simp only [Act.put]
    rw [Array.getElem?_setIfInBounds_self_of_lt hd]
theorem oneA_alloc {ops : Array Oper} {i : Nat} {o : Oper} {t : TypeId} {d : Nat} (ho : ops[i]? = some o) (hop : o.op = .alloc t) (hgd : o.guard = none) (hdst : o.dst = some d) {F F0 : Fr} (h : oneA P G pol false C ops i F = some (.normal, F0)) :
    ∃ z, zeroT P t = some z ∧ F.fresh F.H.length = true ∧ F.k ≤ F.H.length ∧ F0 = { F with H := F.H.put F.H.length (.var t (.p z)), env := F.env.set d (.ptr F.H.length 0) } := by
  unfold oneA at h
  simp only [ho] at h
  rw [if_neg (by simp)] at h
  simp only [runOps, ho, hgd] at h
  cases hs : stepOp P G pol C o F with
  | none => rw [hs] at h; cases h
  | some q =>
    obtain ⟨ex, fr⟩ := q
    rw [hs] at h
    unfold stepOp at hs
    split at hs
    · rename_i e; rw [hop] at e; cases e
    · rename_i e; rw [hop] at e; cases e
    · rename_i e; rw [hop] at e; cases e
    rw [hop] at hs
    simp only [preNames, Fr.freezeAll] at hs
    cases hz : zeroT P t with
    | none =>
      have : aopA P (Heap.at F.H) F.H.length (evalO G F.env) (.alloc t) = none := by simp [aopA, aop, aopX, aopZ, aopI, aopM, hz]
      rw [this] at hs
      cases hs
    | some z =>
      have : aopA P (Heap.at F.H) F.H.length (evalO G F.env) (.alloc t) = some ⟨.ptr F.H.length 0, .new (.var t (.p z))⟩ := by simp [aopA, aop, hz]
      rw [this] at hs
      simp only [Fr.eff] at hs
      split at hs
      case h_2 => cases hs
      rename_i fr2 hfr2
      split at hfr2
      case isFalse => cases hfr2
      rename_i hc
      cases hfr2
      cases hs
      simp only [Option.some.injEq, Prod.mk.injEq, true_and] at h
      subst h
      exact ⟨z, rfl, hc.1, hc.2, by rw [hdst]; rfl⟩
theorem adopt_sound {ops : Array Oper} {X : Nat → Prop} {i b : Nat} {k : Nat} {B0 B : Nat → Prop} {L0 L : Loc} {w0 w : World} {H0 : Heap} {mv0 : List Nat} {F F0 : Fr} {tmps : Array Value}
    (hp : PendAt P ops w0.heap.size B L w F.H tmps i b) (h : oneA P G pol false C ops i F = some (.normal, F0)) (hst : St B L w F.H) (hlen : F.env.length = tmps.toList.length)
    (he : ∀ (j : Nat) x y, F.env[j]? = some x → ¬ X j → tmps.toList[j]? = some y → VRel B L w x y) (hk : F.k = k) (hfs : FS k B0 L0 w0 H0 mv0 B L w F.H F.mv) :
    ∃ L1, St B L1 w F0.H ∧ F0.env.length = tmps.toList.length ∧ (∀ (j : Nat) x y, F0.env[j]? = some x → ¬ X j → tmps.toList[j]? = some y → VRel B L1 w x y) ∧ F0.k = k ∧ FS k B0 L0 w0 H0 mv0 B L1 w F0.H F0.mv ∧
      ∀ i' b', b' ≠ b → PendAt P ops w0.heap.size B L w F.H tmps i' b' → PendAt P ops w0.heap.size B L1 w F0.H tmps i' b' := by
  obtain ⟨o, t, d, inf, v, ho, hop, hgd, hdst, hi, hzv, hBb, hbs, hsb, hun, hcell, htmp⟩ := hp
  obtain ⟨z, hz, hfr, hkk, rfl⟩ := oneA_alloc ho hop hgd hdst h
  obtain ⟨inf', v', hi', hzv', hoc⟩ := zeroT_some hz
  rw [hi] at hi'
  cases hi'
  rw [hzv] at hzv'
  cases hzv'
  obtain ⟨hfe, hfh⟩ := Fr.fresh_spec hfr
  have hzr := (ofConst_sound (B := B) (w := w) hoc).1
  generalize hN : F.H.length = N at *
  have hdead : Heap.at F.H N = .dead := by simp [Heap.at, ← hN]
  have hne : ∀ n, (Heap.at F.H n).live → n ≠ N := by rintro n hl rfl; rw [hdead] at hl; exact hl
  have hsame := L.lay_same N b 0 0
  have hother : ∀ n, n ≠ N → (L.lay N b 0 0).blk n = L.blk n ∧ (L.lay N b 0 0).sz n = L.sz n ∧ (L.lay N b 0 0).cap n = L.cap n := fun n hn => L.lay_ne b 0 0 hn
  have hat' : ∀ n, n ≠ N → Heap.at (Heap.put F.H N (.var t (.p z))) n = Heap.at F.H n := fun n hn => Heap.at_put_ne _ _ hn
  refine ⟨L.lay N b 0 0, ?_, by simpa using hlen, fun j x y hx hnX hy => ?_, hk, ?_, ?_⟩
  · refine hst.lay hfh hBb (fun m _ hm e => hun m hm e) ?_
    have hc := (VRel.p (B := B) (L := L.lay N b 0 0) (w := w) z v hzr).cells (by simp)
    exact .var (.p z) v.cells t (0, 0) (by rw [hsame.1]; exact hcell) (.inl (Nat.le_refl _)) (by simpa using hc.1) fun i p q hp hq => hc.2 i p q hp (by simpa using hq)
  · simp only [List.getElem?_set] at hx
    split at hx
    · rename_i e
      subst e
      split at hx
      · cases hx
        have : y = .pointer (some ⟨b, 0, none⟩) := by
          rw [Array.getElem?_toList, htmp] at hy
          exact (Option.some.inj hy).symm
        subst this
        have := VRel.ptr (B := B) (L := L.lay N b 0 0) (w := w) N 0
        rw [hsame.1] at this
        exact this
      · cases hx
    · exact (he j x y hx hnX hy).loc fun n hn => hother n fun e => hfe x (List.mem_of_getElem? hx) (e ▸ hn)
  · refine ⟨hfs.size, hfs.same, hfs.own, hfs.sub, hfs.keep, hfs.mvs, fun n hn hm => ?_, fun n hl => ?_⟩
    · have := hfs.loc n hn hm
      obtain ⟨a1, a2, a3⟩ := hother n (by omega)
      exact ⟨a1.trans this.1, a2.trans this.2.1, a3.trans this.2.2⟩
    · by_cases e : n = N
      · subst e; right; rw [hsame.1]; exact hsb
      · have hl' : (Heap.at F.H n).live := by
          have := hat' n e
          simp only [] at hl
          rw [this] at hl; exact hl
        rw [(hother n e).1]
        exact hfs.fresh n hl'
  · rintro i' b' hbb ⟨o', t', d', inf', v', h1, h2, h3, h4, h5, h6, h7, h8, h9, h10, h11, h12⟩
    refine ⟨o', t', d', inf', v', h1, h2, h3, h4, h5, h6, h7, h8, h9, fun n hl e => ?_, h11, h12⟩
    by_cases en : n = N
    · subst en; rw [hsame.1] at e; exact hbb e.symm
    · simp only [] at hl
      rw [hat' n en] at hl
      rw [(hother n en).1] at e
      exact h10 n hl e
theorem oneA_sound (hC : SoundC P G C) {bs : Bool} {ops : Array Oper} {i : Nat} {B : Nat → Prop} {L : Loc} {w : World} {fr fr' : Fr} {ex : Ex} {a : Act} (hst : St B L w fr.H) (he : ERel B L w fr.env a.tmps) (hg : GOk G B w)
    (h : oneA P G pol bs C ops i fr = some (ex, fr')) (K : Act → World → Prop) (Q : Exit → Act → World → Prop)
    (hK : ∀ a' w', EPost fr.k B L w fr.H fr.mv a.defers ex fr' .normal a' w' → ex = .normal → K a' w')
    (hQ : ∀ e a' w', e ≠ .normal → EPost fr.k B L w fr.H fr.mv a.defers ex fr' e a' w' → Q e a' w') : wpOp P ops Q i K a w := by
  unfold oneA at h
  cases ho : ops[i]? with
  | none => rw [ho] at h; cases h
  | some o =>
    rw [ho] at h
    simp only [] at h
    unfold wpOp
    simp only [ho]
    split at h
    · -- a slice's literal
      unfold fixedB at h
      split at h
      case h_3 => cases h
      case h_2 =>
        rename_i t d hop hgd hdst
        split at h
        case h_2 => cases h
        rename_i z hz
        cases h
        have := alloc_sound (P := P) (Q := Q) ho hop hgd hdst hz hst he K (fun a' w' hp _ => hK a' w' hp rfl)
        unfold wpOp at this
        simp only [ho] at this
        exact this
      rename_i t len parts d hop hgd hdst
      split at h
      case h_2 => cases h
      rename_i b n ty sz es hr
      split at h
      case isFalse => cases h
      rename_i hc
      subst hc
      cases h
      rw [if_pos (by simp [Region.wanted, hgd])]
      obtain ⟨N, hfr, hk, hN⟩ := fresh_ex fr
      have hev := evalO_sound he hg
      have hr' : aop P (Heap.at fr.H) N (evalO G fr.env) o.op = some ⟨.sl N 0 es.length, .new (.arr ty sz es)⟩ := by
        rw [hop]
        unfold aop at hr ⊢
        simp only [] at hr ⊢
        split at hr
        · split at hr
          · split at hr
            · cases hr; rw [if_pos (by assumption)]
            · cases hr
          · cases hr
        · cases hr
      have hd := aop_sound (o := o) hst hev (fun _ => by
        obtain ⟨h1, h2⟩ := Fr.fresh_spec hfr
        exact ⟨h2, fun x => evalO_names h1 x⟩) hr'
      have heff : fr.eff N (Eff.new (.arr ty sz es)) = some { fr with H := fr.H.put N (.arr ty sz es) } := by
        simp only [Fr.eff]; rw [if_pos ⟨hfr, hk⟩]
      obtain ⟨v, w', B', L', hR, hfs, he2, hst2, hv, hk2⟩ := Done.frame he hd heff
      obtain ⟨g1, g2, g3, g4⟩ := drop_new hN hst2 hfs hv
      replace g3 : VRel (less B' (L'.blk N)) L' w' (.p (.lst es.isEmpty es)) v := by
        cases es with
        | cons _ _ => exact g3
        | nil =>
          rcases hR with hR | ⟨hR, _⟩
          · obtain ⟨a', e⟩ := aop_slice0 hop hr' hR
            cases e
            exact .p _ _ (.lst0 true _ _ (fun _ => rfl) (fun e => by cases e))
          · obtain ⟨a', e⟩ := aop_slice0 hop hr' hR
            cases e
      have he3 : ERel (less B' (L'.blk N)) L' w' fr.env a.tmps := by
        have := he2.map id (fun v u _ h => h.step g4)
        simpa using this
      have hpost : EPost fr.k B L w fr.H fr.mv a.defers .normal { fr with env := fr.env.set d (.p (.lst es.isEmpty es)) } .normal (a.put o.dst v) w' := by
        refine ⟨_, L', g1, ?_, g2, rfl, by cases o.dst <;> rfl, trivial⟩
        have := he3.put o.dst g3
        rw [hdst] at this ⊢
        exact this
      refine .inl ?_
      unfold Oper.wp
      rcases hR with hR | ⟨hR, rfl⟩
      · rw [hR, Oper.upon_value]; exact hK _ _ hpost rfl
      · rw [hR, Oper.upon_skip]; exact hK _ _ hpost rfl
    · simp only [runOps, ho] at h
      have one : ∀ (frx : Fr), frx.H = fr.H → frx.k = fr.k → frx.mv = fr.mv → ERel B L w frx.env a.tmps →
          (match stepOp P G pol C o frx with
            | some (.normal, fr') => runOps P G pol C ops [] fr'
            | x => x) = some (ex, fr') → o.wp P a w K Q := by
        intro frx hH hk hm hex hx
        have hstx : St B L w frx.H := by rw [hH]; exact hst
        cases hs : stepOp P G pol C o frx with
        | none => rw [hs] at hx; cases hx
        | some p =>
          obtain ⟨ex1, fr1⟩ := p
          rw [hs] at hx
          have hx' : ex1 = ex ∧ fr1 = fr' := by
            cases ex1 <;> simpa only [runOps, Option.some.injEq, Prod.mk.injEq] using hx
          obtain ⟨rfl, rfl⟩ := hx'
          refine stepOp_sound hC hstx hex hg hs K Q ?_ ?_
          · intro a1 w1 hp
            rw [hH, hk, hm] at hp
            obtain ⟨B1, L1, hfs, he1, hst1, hk1, hd1, hm1⟩ := hp
            cases ex1 with
            | normal => exact hK _ _ ⟨B1, L1, hfs, he1, hst1, hk1, hd1, hm1⟩ rfl
            | _ => exact hm1.elim
          · intro e a1 w1 hne hp
            rw [hH, hk, hm] at hp
            exact hQ e a1 w1 hne hp
      cases hgd : o.guard with
      | none =>
        rw [hgd] at h
        simp only [] at h
        rw [if_pos (by simp [Region.wanted, hgd])]
        exact .inl (one fr rfl rfl rfl he h)
      | some p =>
        obtain ⟨j, want⟩ := p
        rw [hgd] at h
        simp only [] at h
        cases hd : (ops[j]?).bind (·.dst) with
        | none => rw [hd] at h; cases h
        | some d =>
          rw [hd] at h
          simp only [] at h
          have skip : ∀ (_ : ¬ Region.wanted o (yielded ops a.tmps) = true) (_ : ex = .normal ∧ fr' = { fr with env := putO fr.env o.dst (.p (.tup [])) }),
              if Region.wanted o (yielded ops a.tmps) = true then (o.wp P a w K Q ∨ (o.asks P a w ∧ LetsOut Q)) else K (a.put o.dst undef) w := by
            rintro hwn ⟨rfl, rfl⟩
            rw [if_neg hwn]
            have he2 : ERel B L w (putO fr.env o.dst (.p (.tup []))) (a.put o.dst undef).tmps := he.put o.dst (VRel.p _ _ (PRel.tup [] [] rfl (by simp)))
            exact hK _ _ ⟨B, L, FS.refl _ _ _ _ _ _, he2, hst, rfl, by cases o.dst <;> rfl, trivial⟩ rfl
          split at h
          case h_3 => cases h
          case h_2 =>
            rename_i hb
            refine skip ?_ ?_
            · simp [Region.wanted, hgd, yielded_und he hd hb]
            · simp only [Option.some.injEq, Prod.mk.injEq] at h
              exact ⟨h.1.symm, h.2.symm⟩
          rename_i b hb
          have hy := yielded_of he hd hb
          split at h
          · rename_i e
            subst e
            rw [if_pos (by simp [Region.wanted, hgd, hy])]
            exact .inl (one { fr with env := fr.env.set d (.p (.bool b)) } rfl rfl rfl (by rw [ERel.lit hb]; exact he) h)
          · rename_i hne
            have hbn : b = !want := by cases b <;> cases want <;> simp_all
            refine skip ?_ ?_
            · simp only [Region.wanted, hgd, hy]
              simpa using hne
            · rw [← hbn, ERel.lit hb] at h
              simp only [Option.some.injEq, Prod.mk.injEq] at h
              exact ⟨h.1.symm, h.2.symm⟩
end
end Go.Am
end

section
namespace Go.Am
open Go
def ERelX (X : Nat → Prop) (B : Nat → Prop) (L : Loc) (w : World) (env : List V) (tmps : Array Value) : Prop :=
  env.length = tmps.toList.length ∧ ∀ (i : Nat) x y, env[i]? = some x → ¬ X i → tmps.toList[i]? = some y → VRel B L w x y
theorem ERelX.of (X : Nat → Prop) {B : Nat → Prop} {L : Loc} {w : World} {env : List V} {tmps : Array Value} (h : ERel B L w env tmps) : ERelX X B L w env tmps :=
  ⟨h.1, fun i x y hx _ hy => h.2 i x y hx hy⟩
theorem ERelX.all {X : Nat → Prop} {B : Nat → Prop} {L : Loc} {w : World} {env : List V} {tmps : Array Value} (h : ERelX X B L w env tmps) (hX : ∀ x, ¬ X x) : ERel B L w env tmps :=
  ⟨h.1, fun i x y hx hy => h.2 i x y hx (hX i) hy⟩
theorem ERelX.mono {X Y : Nat → Prop} {B : Nat → Prop} {L : Loc} {w : World} {env : List V} {tmps : Array Value} (h : ERelX X B L w env tmps) (hs : ∀ x, X x → Y x) : ERelX Y B L w env tmps :=
  ⟨h.1, fun i x y hx hn hy => h.2 i x y hx (fun hX => hn (hs i hX)) hy⟩
theorem ERelX.like {X : Nat → Prop} {B : Nat → Prop} {L : Loc} {w : World} {env e' : List V} {tmps : Array Value} (hl : Like X env e') (h : ERel B L w e' tmps) : ERelX X B L w env tmps := by
  refine ⟨hl.1.trans h.1, fun i x y hx hn hy => ?_⟩
  rcases hl.2 i x hx with h1 | h1
  · exact h.2 i x y h1 hy
  · exact (hn h1.1).elim
open Classical in
theorem ERelX.mask {X : Nat → Prop} {B : Nat → Prop} {L : Loc} {w : World} {env : List V} {tmps : Array Value} (h : ERelX X B L w env tmps) : ∃ e', Like X env e' ∧ ERel B L w e' tmps := by
  refine ⟨env.mapIdx fun i v => if X i then .junk else v, ⟨by simp, fun i v hv => ?_⟩, by simpa using h.1, fun i x y hx hy => ?_⟩
  · by_cases hX : X i
    · exact .inr ⟨hX, by simp [hv, hX]⟩
    · exact .inl (by simp [hv, hX])
  · rw [List.getElem?_mapIdx, Option.map_eq_some_iff] at hx
    obtain ⟨v, hv, rfl⟩ := hx
    split
    · exact .junk _
    · rename_i hX; exact h.2 i v y hv hX hy
def Clo (ops : Array Oper) (listed : Array Bool) : Prop := ∀ j o, ops[j]? = some o → listed.getD j false = true → ∀ e ∈ o.after, Region.binds .any e = true → listed.getD e.on false = true
def Row (ops : Array Oper) (r j : Nat) : Prop := ∀ o, ops[j]? = some o → ∀ i, r.testBit i = true → ∀ listed, Clo ops listed → (∀ e ∈ o.after, Region.binds .any e = true → listed.getD e.on false = true) → listed.getD i false = true
theorem testBit_shl {c i : Nat} (h : (1 <<< c).testBit i = true) : i = c := by
  rw [Nat.testBit_shiftLeft] at h
  simp only [Bool.and_eq_true, decide_eq_true_eq] at h
  obtain ⟨h1, h2⟩ := h
  have : i - c = 0 := by
    by_cases hz : i - c = 0
    · exact hz
    · rw [Nat.testBit_one_eq_true_iff_self_eq_zero] at h2
      omega
  omega
theorem aheadM_spec {tab : List Nat} : ∀ (es : List Edge) (i : Nat), (aheadM tab es).testBit i = true → ∃ e ∈ es, Region.binds .any e = true ∧ (i = e.on ∨ ((tab[e.on]?).getD 0).testBit i = true)
  | [], i, h => by simp [aheadM] at h
  | e :: es, i, h => by
    simp only [aheadM] at h
    split at h
    · rename_i hb
      rw [Nat.testBit_or, Nat.testBit_or, Bool.or_eq_true, Bool.or_eq_true] at h
      rcases h with (h | h) | h
      · exact ⟨e, by simp, hb, .inl (testBit_shl h)⟩
      · exact ⟨e, by simp, hb, .inr h⟩
      · obtain ⟨e', h1, h2, h3⟩ := aheadM_spec es i h
        exact ⟨e', by simp [h1], h2, h3⟩
    · obtain ⟨e', h1, h2, h3⟩ := aheadM_spec es i h
      exact ⟨e', by simp [h1], h2, h3⟩
theorem ancTab_spec {ops : Array Oper} : ∀ (l pre : List Oper) (tab : List Nat), ops.toList = pre ++ l → pre.length = tab.length → (∀ j r, tab[j]? = some r → Row ops r j) → ∀ j r, (ancTab l tab)[j]? = some r → Row ops r j
  | [], pre, tab, _, _, h => h
  | o :: l, pre, tab, he, hl, h => by
    simp only [ancTab]
    refine ancTab_spec l (pre ++ [o]) (tab ++ [aheadM tab o.after.toList]) (by simp [he]) (by simp [hl]) fun j r hr => ?_
    rw [List.getElem?_append] at hr
    split at hr
    · exact h j r hr
    · rename_i hj
      have hj' : j = tab.length := by
        have := (List.getElem?_eq_some_iff.1 hr).1
        simp at this
        omega
      subst hj'
      simp at hr
      subst hr
      intro o' ho' i hi listed hc hd
      have hoo : o' = o := by
        have : ops.toList[tab.length]? = some o' := by rw [Array.getElem?_toList]; exact ho'
        rw [he, ← hl] at this
        simpa using this.symm
      subst hoo
      obtain ⟨e, he1, he2, he3⟩ := aheadM_spec _ i hi
      have hlist := hd e (by simpa using he1) he2
      rcases he3 with rfl | h3
      · exact hlist
      · cases ht : tab[e.on]? with
        | none => rw [ht] at h3; simp at h3
        | some r =>
          rw [ht] at h3
          have hlt : e.on < pre.length := by rw [hl]; exact (List.getElem?_eq_some_iff.1 ht).1
          have ho2 : ∃ o2, ops[e.on]? = some o2 := by
            rw [← Array.getElem?_toList, he]
            exact ⟨pre[e.on], by rw [List.getElem?_append_left hlt]; simp [hlt]⟩
          obtain ⟨o2, ho2⟩ := ho2
          exact h e.on r ht o2 ho2 i h3 listed hc (fun e' he' hb' => hc e.on o2 ho2 hlist e' he' hb')
theorem anc_spec {ops : Array Oper} {i j : Nat} {o : Oper} {listed : Array Bool} (ha : isAnc (ancTab ops.toList []) i j = true) (ho : ops[j]? = some o) (hc : Clo ops listed) (hd : ∀ e ∈ o.after, Region.binds .any e = true → listed.getD e.on false = true) :
    listed.getD i false = true := by
  unfold isAnc at ha
  cases ht : (ancTab ops.toList [])[j]? with
  | none => rw [ht] at ha; simp at ha
  | some r =>
    rw [ht] at ha
    exact ancTab_spec ops.toList [] [] rfl rfl (by simp) j r ht o ho i ha listed hc hd
theorem maskOf_spec : ∀ (l : List Nat) (i : Nat), (maskOf l).testBit i = true ↔ i ∈ l
  | [], i => by simp [maskOf]
  | c :: l, i => by
    simp only [maskOf, Nat.testBit_or, Bool.or_eq_true, List.mem_cons, maskOf_spec l i]
    refine ⟨fun h => h.imp testBit_shl id, fun h => h.imp (fun e => ?_) id⟩
    subst e
    simp [Nat.testBit_shiftLeft]
theorem notNow_spec {tab rest : List Nat} {i : Nat} (h : isNow tab (maskOf rest) i = false) : ∃ c ∈ rest, isAnc tab c i = true := by
  unfold isNow at h
  have hne : ((tab[i]?).getD 0) &&& maskOf rest ≠ 0 := by simpa using h
  obtain ⟨c, hc⟩ := Nat.exists_testBit_of_ne_zero hne
  rw [Nat.testBit_and, Bool.and_eq_true] at hc
  exact ⟨c, (maskOf_spec _ _).1 hc.2, hc.1⟩
theorem now_spec {tab rest : List Nat} {i c : Nat} (h : isNow tab (maskOf rest) i = true) (hc : c ∈ rest) : isAnc tab c i = false := by
  unfold isNow at h
  simp only [beq_iff_eq] at h
  have := congrArg (Nat.testBit · c) h
  simp only [Nat.testBit_and, Nat.zero_testBit, Bool.and_eq_false_iff] at this
  unfold isAnc
  rcases this with h1 | h1
  · exact h1
  · rw [(maskOf_spec _ _).2 hc] at h1; cases h1
theorem chainOk_spec {tab : List Nat} : ∀ (l : List Nat) (c : Nat), chainOk tab (c :: l) = true → ∀ i ∈ l, ∃ j ∈ c :: l, isAnc tab j i = true
  | [], c, _, i, hi => by simp at hi
  | d :: l, c, h, i, hi => by
    simp only [chainOk, Bool.and_eq_true] at h
    rcases List.mem_cons.1 hi with rfl | hi
    · exact ⟨c, by simp, h.1⟩
    · obtain ⟨j, h1, h2⟩ := chainOk_spec l d h.2 i hi
      exact ⟨j, List.mem_cons_of_mem _ h1, h2⟩
theorem chainOk_tail {tab : List Nat} {c : Nat} {l : List Nat} (h : chainOk tab (c :: l) = true) : chainOk tab l = true := by
  cases l with
  | nil => rfl
  | cons d l => simp only [chainOk, Bool.and_eq_true] at h; exact h.2
theorem getD_set_self {listed : Array Bool} {i : Nat} (h : i < listed.size) : (listed.setIfInBounds i true).getD i false = true := by
  simp [Array.getD, h]
theorem getD_set_other {listed : Array Bool} {i j : Nat} (d : Bool) (h : i ≠ j) : (listed.setIfInBounds i true).getD j d = listed.getD j d := Go.getD_set_ne d h
theorem getD_false_true {listed : Array Bool} {i : Nat} (h : listed.getD i true = false) : listed.getD i false = false := by
  simp only [Array.getD] at h ⊢
  split at h
  · rename_i hl; rw [dif_pos hl]; exact h
  · cases h
def unl (listed : Array Bool) (n : Nat) : Nat := ((List.range n).filter fun i => !listed.getD i true).length
theorem unl_set {listed : Array Bool} {n i : Nat} (hi : i < n) (h : listed.getD i true = false) (hs : listed.size = n) : unl (listed.setIfInBounds i true) n < unl listed n := by
  unfold unl
  rw [← List.countP_eq_length_filter, ← List.countP_eq_length_filter]
  have key : ∀ l : List Nat, i ∈ l → List.countP (fun j => !(listed.setIfInBounds i true).getD j true) l < List.countP (fun j => !listed.getD j true) l := by
    intro l
    have le : ∀ l : List Nat, List.countP (fun j => !(listed.setIfInBounds i true).getD j true) l ≤ List.countP (fun j => !listed.getD j true) l := by
      intro l
      apply List.countP_mono_left
      intro j _ hj
      by_cases e : i = j
      · subst e
        simp [Array.getD, hs, hi] at hj
      · rwa [getD_set_other true e] at hj
    induction l with
    | nil => intro hm; simp at hm
    | cons j l ih =>
      intro hm
      rw [List.countP_cons, List.countP_cons]
      by_cases e : i = j
      · subst e
        have h1 : (!(listed.setIfInBounds i true).getD i true) = false := by simp [Array.getD, hs, hi]
        have h2 : (!listed.getD i true) = true := by simp [h]
        have := le l
        simp only [h1, h2, if_true, Bool.false_eq_true, if_false]
        omega
      · have := ih ((List.mem_cons.1 hm).resolve_left e)
        rw [getD_set_other true e]
        omega
  exact key _ (by simpa using hi)
end Go.Am
end

section
namespace Go.Am
open Go
section
variable {P : Program} {G : Nat → Option PV} {pol : Pol} {C : CallF}
def UnX (ops : Array Oper) (simples : List Nat) (listed : Array Bool) (x : Nat) : Prop := ∃ i ∈ simples, listed.getD i false = false ∧ slotOf ops i = some x
def allJunk (e : List V) : List V := e.map fun _ => .junk
theorem allJunk_rel {B : Nat → Prop} {L : Loc} {w : World} {e : List V} {tmps : Array Value} (h : e.length = tmps.toList.length) : ERel B L w (allJunk e) tmps := by
  refine ⟨by simpa [allJunk] using h, fun i x y hx _ => ?_⟩
  simp only [allJunk, List.getElem?_map, Option.map_eq_some_iff] at hx
  obtain ⟨_, _, rfl⟩ := hx
  exact .junk _
theorem isSimple_spec {bs : Bool} {ops : Array Oper} {tab : List Nat} {i : Nat} (h : isSimple P bs ops tab i = true) :
    ∃ o d, ops[i]? = some o ∧ o.dst = some d ∧ simpleK P bs o.op = true ∧ (∀ j p, ops[j]? = some p → d ∈ Oper.looksAt ops p → isAnc tab i j = true) ∧ ∀ j p, ops[j]? = some p → j ≠ i → p.dst = some d → isAnc tab i j = true := by
  unfold isSimple at h
  split at h
  · cases h
  · rename_i o ho
    rw [Bool.and_eq_true] at h
    obtain ⟨h1, h2⟩ := h
    split at h2
    · cases h2
    · rename_i d hd
      rw [Bool.and_eq_true] at h2
      replace h2 := h2.2
      simp only [List.all_eq_true] at h2
      have key : ∀ j p, ops[j]? = some p → ((Oper.looksAt ops p).contains d || (j != i && p.dst == some d)) = true → isAnc tab i j = true := by
        intro j p hp hc
        have := h2 j (by simpa using (Array.getElem?_eq_some_iff.1 hp).1)
        rw [hp] at this
        simp only [] at this
        rw [if_pos hc] at this
        exact this
      exact ⟨o, d, ho, hd, h1, fun j p hp hl => key j p hp (by simp [hl]), fun j p hp hne hd' => key j p hp (by simp [hne, hd'])⟩
theorem isSimple_alone {bs : Bool} {ops : Array Oper} {tab : List Nat} {i d : Nat} (h : isSimple P bs ops tab i = true) (ha : isAllocL ops.toList i = true) (hd : slotOf ops i = some d) : ∀ j, j ≠ i → slotOf ops j ≠ some d := by
  unfold isSimple at h
  split at h
  · cases h
  · rename_i o ho
    rw [Bool.and_eq_true] at h
    have ho2 : ops.toList[i]? = some o := by rw [Array.getElem?_toList]; exact ho
    simp only [isAllocL, ho2] at ha
    simp only [slotOf, ho, Option.bind_some] at hd
    rw [hd] at h
    simp only [Bool.and_eq_true] at h
    have h2 := h.2.1
    unfold aloneD at h2
    rw [ha] at h2
    simp only [Bool.not_true, Bool.false_or, List.all_eq_true, List.mem_range] at h2
    intro j hj e
    have hlt : j < ops.size := by
      unfold slotOf at e
      cases hq : ops[j]? with
      | none => rw [hq] at e; cases e
      | some p => exact (Array.getElem?_eq_some_iff.1 hq).1
    have := h2 j hlt
    simp [hj, e] at this
theorem oneA_allocS {bs : Bool} {ops : Array Oper} {i : Nat} {o : Oper} (ho : ops[i]? = some o) (hs : simpleK P bs o.op = true) (ha : isAllocO o.op = true) {fr fr1 : Fr} {ex : Ex} (h : oneA P G pol bs C ops i fr = some (ex, fr1)) :
    ∃ t d z, o.op = .alloc t ∧ o.guard = none ∧ o.dst = some d ∧ zeroT P t = some z ∧ fr1 = { fr with env := fr.env.set d .junk } := by
  cases hop : o.op <;> simp only [hop, isAllocO, Bool.false_eq_true] at ha
  rename_i t
  simp only [hop, simpleK] at hs
  subst hs
  unfold oneA at h
  simp only [ho] at h
  rw [if_pos ⟨trivial, by rw [hop]; rfl⟩] at h
  unfold fixedB at h
  rw [hop] at h
  split at h
  · rename_i e _ _; cases e
  · rename_i t' d e hgd hdst
    cases e
    split at h
    · rename_i z hz
      cases h
      exact ⟨t, d, z, rfl, hgd, hdst, hz, rfl⟩
    · cases h
  · cases h
variable {bs : Bool}
def Waits (ops : Array Oper) (simples : List Nat) (listed : Array Bool) (past i : Nat) : Prop := i ∈ simples ∧ isAllocL ops.toList i = true ∧ listed.getD i false = true ∧ past.testBit i = false
def PI (P : Program) (ops : Array Oper) (simples : List Nat) (s0 : Nat) (listed : Array Bool) (past : Nat) (B : Nat → Prop) (L : Loc) (w : World) (H : Heap) (tmps : Array Value) : Prop :=
  ∃ pb : Nat → Nat, (∀ i, Waits ops simples listed past i → PendAt P ops s0 B L w H tmps i (pb i)) ∧ ∀ i j, Waits ops simples listed past i → Waits ops simples listed past j → pb i = pb j → i = j
def OneB (P : Program) (G : Nat → Option PV) (pol : Pol) (bs : Bool) (ops : Array Oper) (i : Nat) (fr : Fr) (ex : Ex) (fr' : Fr) : Prop :=
  ∃ C, SoundC P G C ∧ oneA P G pol bs C ops i fr = some (ex, fr')
def OneV (P : Program) (G : Nat → Option PV) (pol : Pol) (bs : Bool) (ops : Array Oper) (i : Nat) (fr : Fr) (v : V) : Prop :=
  ∃ fr' d, OneB P G pol bs ops i fr .normal fr' ∧ slotOf ops i = some d ∧ fr'.env[d]? = some v
def IdemP (P : Program) (G : Nat → Option PV) (pol : Pol) (bs : Bool) (ops : Array Oper) (F : Fr) (i : Nat) : Prop :=
  ∃ d v, slotOf ops i = some d ∧ OneV P G pol bs ops i F v ∧ F.env[d]? = some v
def EagerP (P : Program) (G : Nat → Option PV) (pol : Pol) (bs : Bool) (ops : Array Oper) : List Nat → Fr → Fr → Prop
  | [], fr, F => F = fr
  | i :: l, fr, F => ∃ d v, slotOf ops i = some d ∧ OneV P G pol bs ops i fr v ∧ EagerP P G pol bs ops l { fr with env := fr.env.set d v } F
def AdoptP (P : Program) (G : Nat → Option PV) (pol : Pol) (ops : Array Oper) : List Nat → Fr → Fr → Prop
  | [], F, F0 => F0 = F
  | [i], F, F0 => OneB P G pol false ops i F .normal F0
  | _, _, _ => False
def ContP (P : Program) (G : Nat → Option PV) (pol : Pol) (bs : Bool) (ops : Array Oper) (tab simples : List Nat) : List Nat → Nat → List Nat → Fr → Ex → Fr → Prop
  | [], _, _, F, ex, fr' => ex = .normal ∧ fr' = F
  | c :: rest, past, todo, F, ex, fr' =>
    ∃ F0, AdoptP P G pol ops (takesA ops.toList tab simples past c) F F0 ∧
    ((∃ F', OneB P G pol bs ops c F0 .normal F' ∧ ∃ F2, EagerP P G pol bs ops ((todo.filter fun i => !isNow tab (maskOf (c :: rest)) i).filter (isNow tab (maskOf rest))) F' F2 ∧
      (∀ i ∈ simples, isNow tab (maskOf rest) i = true → (past ||| ((tab[c]?).getD 0)).testBit i = false → IdemP P G pol bs ops F2 i) ∧
      ContP P G pol bs ops tab simples rest (past ||| ((tab[c]?).getD 0)) (todo.filter fun i => !isNow tab (maskOf (c :: rest)) i) F2 ex fr') ∨
    ∃ v F', OneB P G pol bs ops c F0 (.pan v) F' ∧ ex = .pan v ∧ fr' = { F' with env := allJunk F'.env })
theorem eagerP_spec {ops : Array Oper} : ∀ (l : List Nat) {fr F : Fr}, EagerP P G pol bs ops l fr F →
    F.H = fr.H ∧ F.k = fr.k ∧ F.mv = fr.mv ∧ F.env.length = fr.env.length ∧ ∀ x, (∀ i ∈ l, slotOf ops i ≠ some x) → F.env[x]? = fr.env[x]?
  | [], fr, F, h => by cases h; exact ⟨rfl, rfl, rfl, rfl, fun _ _ => rfl⟩
  | i :: l, fr, F, h => by
    obtain ⟨d, v, h2, _, h⟩ := h
    obtain ⟨g1, g2, g3, g4, g5⟩ := eagerP_spec l h
    refine ⟨g1, g2, g3, by simpa using g4, fun x hx => ?_⟩
    rw [g5 x fun j hj => hx j (List.mem_cons_of_mem _ hj)]
    show (fr.env.set d v)[x]? = _
    rw [List.getElem?_set_ne]
    intro e
    exact hx i (by simp) (by rw [h2, e])
theorem drawP_sound {ops : Array Oper} {tab simples chain : List Nat} (htab : tab = ancTab ops.toList []) (hsimp : simples = (List.range ops.size).filter (isSimple P bs ops tab))
    (hchain : chain = (List.range ops.size).filter fun i => !isSimple P bs ops tab i) (hback : backOk ops = true)
    {k : Nat} {B0 : Nat → Prop} {L0 : Loc} {w0 : World} {H0 : Heap} {mv0 : List Nat} {d0 : List Deferred} {ex : Ex} {fr' : Fr} {Q : Exit → Act → World → Prop}
    (hQ : ∀ e a' w', EPost k B0 L0 w0 H0 mv0 d0 ex fr' e a' w' → Q e a' w') :
    ∀ (fuel : Nat) (listed : Array Bool) (rest : List Nat) (past : Nat) (todo : List Nat) (F : Fr) (B : Nat → Prop) (L : Loc) (a : Act) (w : World),
      unl listed ops.size ≤ fuel → listed.size = ops.size → Clo ops listed → (∀ c ∈ rest, c ∈ chain ∧ listed.getD c false = false) → (∀ c ∈ chain, c ∉ rest → listed.getD c false = true) → chainOk tab rest = true →
      (∀ i, past.testBit i = true → listed.getD i false = true) → (∀ i ∈ todo, i ∈ simples) → (∀ i ∈ simples, isNow tab (maskOf rest) i = true → past.testBit i = false → IdemP P G pol bs ops F i) →
      ContP P G pol bs ops tab simples rest past todo F ex fr' → PI P ops simples w0.heap.size listed past B L w F.H a.tmps →
      St B L w F.H → ERelX (UnX ops simples listed) B L w F.env a.tmps → GOk G B w → F.k = k → FS k B0 L0 w0 H0 mv0 B L w F.H F.mv → a.defers = d0 → rest.Nodup → wpAny P .any ops Q fuel listed a w := by
  subst htab
  generalize htab : ancTab ops.toList [] = tab at *
  have anc : ∀ {i j : Nat} {o : Oper} {listed : Array Bool}, isAnc tab i j = true → ops[j]? = some o → Clo ops listed → (∀ e ∈ o.after, Region.binds .any e = true → listed.getD e.on false = true) → listed.getD i false = true := by
    intro i j o listed ha; rw [← htab] at ha; exact anc_spec ha
  have mem_simple : ∀ i, i ∈ simples ↔ i < ops.size ∧ isSimple P bs ops tab i = true := fun i => by rw [hsimp]; simp
  have mem_chain : ∀ i, i ∈ chain ↔ i < ops.size ∧ isSimple P bs ops tab i = false := fun i => by rw [hchain]; simp
  -- nothing ready: all are listed
  have done : ∀ (listed : Array Bool), listed.size = ops.size → Region.ready .any ops listed = [] → ∀ i, i < ops.size → listed.getD i false = true := by
    intro listed hls hr i
    induction i using Nat.strongRecOn with
    | ind i ih =>
      intro hi
      cases hq : listed.getD i true with
      | true => simpa [Array.getD, hls, hi] using hq
      | false =>
        have ho : ops[i]? = some ops[i] := by simp [hi]
        have : i ∈ Region.ready .any ops listed := Go.mem_ready.2 ⟨hq, ops[i], ho, fun e he hb => by
          have hbk := hback
          unfold backOk at hbk
          rw [List.all_eq_true] at hbk
          have := hbk i (by simpa using hi)
          rw [ho] at this
          simp only [List.all_eq_true] at this
          have := this e (by simpa using he)
          simp only [hb, Bool.not_true, Bool.false_or, decide_eq_true_eq] at this
          exact ih e.on this (by omega)⟩
        rw [hr] at this
        simp at this
  have fin : ∀ (listed : Array Bool) (rest : List Nat) (past : Nat) (todo : List Nat) (F : Fr) (B : Nat → Prop) (L : Loc) (a : Act) (w : World), listed.size = ops.size → Region.ready .any ops listed = [] → (∀ c ∈ rest, c ∈ chain ∧ listed.getD c false = false) →
      ContP P G pol bs ops tab simples rest past todo F ex fr' → St B L w F.H → ERelX (UnX ops simples listed) B L w F.env a.tmps → F.k = k → FS k B0 L0 w0 H0 mv0 B L w F.H F.mv → a.defers = d0 → Q .normal a w := by
    intro listed rest past todo F B L a w hls hr hrest hcont hst he hk hfs hd
    have hall := done listed hls hr
    cases rest with
    | cons c rest =>
      have h1 := hrest c (by simp)
      rw [hall c ((mem_chain c).1 h1.1).1] at h1
      cases h1.2
    | nil =>
      obtain ⟨rfl, rfl⟩ := hcont
      refine hQ _ _ _ ⟨B, L, hfs, he.all ?_, hst, hk, hd, trivial⟩
      rintro x ⟨i, hi, hl, _⟩
      rw [hall i ((mem_simple i).1 hi).1] at hl
      cases hl
  intro fuel
  induction fuel with
  | zero =>
    intro listed rest past todo F B L a w hun hls hclo hrest hch hcok hpast htodo hidem hcont hpi hst he hg hk hfs hd hnd
    have hr : Region.ready .any ops listed = [] := by
      cases hq : Region.ready .any ops listed with
      | nil => rfl
      | cons i l =>
        have hi : i ∈ Region.ready .any ops listed := by rw [hq]; simp
        obtain ⟨h1, o, ho, _⟩ := Go.mem_ready.1 hi
        have := unl_set (Array.getElem?_eq_some_iff.1 ho).1 h1 hls
        omega
    exact ⟨hr, fin listed rest past todo F B L a w hls hr hrest hcont hst he hk hfs hd⟩
  | succ fuel ih =>
    intro listed rest past todo F B L a w hun hls hclo hrest hch hcok hpast htodo hidem hcont hpi hst he hg hk hfs hd hnd
    refine ⟨fun hr => fin listed rest past todo F B L a w hls hr hrest hcont hst he hk hfs hd, fun i hi => ?_⟩
    obtain ⟨hun1, o, ho, hpre⟩ := Go.mem_ready.1 hi
    have hunl : listed.getD i false = false := getD_false_true hun1
    have hin : i < ops.size := (Array.getElem?_eq_some_iff.1 ho).1
    have hfu : unl (listed.setIfInBounds i true) ops.size ≤ fuel := by have := unl_set hin hun1 hls; omega
    have hls' : (listed.setIfInBounds i true).size = ops.size := by simpa using hls
    have keepT : ∀ j, listed.getD j false = true → (listed.setIfInBounds i true).getD j false = true := fun j hj => Go.getD_set_true hj
    have hclo' : Clo ops (listed.setIfInBounds i true) := by
      intro j p hp hl e he hb
      by_cases e1 : i = j
      · subst e1
        rw [ho] at hp
        cases hp
        exact keepT _ (hpre e he hb)
      · rw [getD_set_other false e1] at hl
        exact keepT _ (hclo j p hp hl e he hb)
    have hX : ∀ t ∈ Oper.looksAt ops o, ¬ UnX ops simples listed t := by
      rintro t ht ⟨j, hj, hl, hs⟩
      obtain ⟨oj, dj, hoj, hdj, _, hlk, _⟩ := isSimple_spec ((mem_simple j).1 hj).2
      have : t = dj := by simp only [slotOf, hoj, Option.bind_some, hdj, Option.some.injEq] at hs; exact hs.symm
      subst this
      rw [anc (hlk i o ho ht) ho hclo hpre] at hl
      cases hl
    have hXd : ∀ t, o.dst = some t → ∀ j ∈ simples, listed.getD j false = false → slotOf ops j = some t → j = i := by
      intro t ht j hj hl hs
      obtain ⟨oj, dj, hoj, hdj, _, _, hw⟩ := isSimple_spec ((mem_simple j).1 hj).2
      have : t = dj := by simp only [slotOf, hoj, Option.bind_some, hdj, Option.some.injEq] at hs; exact hs.symm
      subst this
      by_cases e : i = j
      · exact e.symm
      · rw [anc (hw i o ho e ht) ho hclo hpre] at hl
        cases hl
    have hXsub : ∀ x, Minus (UnX ops simples listed) o.dst x → UnX ops simples (listed.setIfInBounds i true) x := by
      rintro x ⟨⟨j, hj, hl, hs⟩, hne⟩
      refine ⟨j, hj, ?_, hs⟩
      by_cases e : i = j
      · subst e
        exact (hne (by simpa [slotOf, ho] using hs)).elim
      · rw [getD_set_other false e]; exact hl
    have hso' : slotOf ops i = o.dst := by simp [slotOf, ho]
    have getD_o : ∀ j, j ≠ i → (listed.setIfInBounds i true).getD j false = true → listed.getD j false = true := fun j hj hl => by rw [getD_set_other false (fun e => hj e.symm)] at hl; exact hl
    cases hsi : isSimple P bs ops tab i with
    | true =>
      obtain ⟨e', hlike, hrel⟩ := he.mask
      have hFk : (F.envd e').k = k := hk
      have his : i ∈ simples := (mem_simple i).2 ⟨hin, hsi⟩
      have hnow : isNow tab (maskOf rest) i = true := by
        cases hq : isNow tab (maskOf rest) i with
        | true => rfl
        | false =>
          obtain ⟨c, hc, hac⟩ := notNow_spec hq
          have := anc hac ho hclo hpre
          rw [(hrest c hc).2] at this
          cases this
      have hp : past.testBit i = false := by
        cases hq : past.testBit i with
        | false => rfl
        | true => rw [hpast i hq] at hunl; cases hunl
      have hid := hidem i his hnow hp
      obtain ⟨o', d, ho', hdst, hsk, _, _⟩ := isSimple_spec hsi
      rw [ho] at ho'
      cases ho'
      have hso : slotOf ops i = some d := by simp [slotOf, ho, hdst]
      obtain ⟨d', v, hd', ⟨fr1, d'', ⟨C, hC, hone⟩, hd'', hv⟩, hu⟩ := hid
      rw [hso] at hd' hd''
      cases hd'
      cases hd''
      obtain ⟨_, v', hfr1⟩ := oneA_simple ho hdst hsk hone
      have hfr : fr1 = F := by
        rw [hfr1] at hv ⊢
        have hl : d < F.env.length := (List.getElem?_eq_some_iff.1 hu).1
        have : v' = v := by
          have : (F.env.set d v')[d]? = some v := hv
          rw [List.getElem?_set, if_pos rfl, if_pos hl] at this
          exact Option.some.inj this
        subst this
        rw [set_self hu]
      subst hfr
      obtain ⟨e1, h1, h2, h3⟩ := oneA_like ho hlike hX hone
      have hdlt : d < a.tmps.size := by
        have := (List.getElem?_eq_some_iff.1 hu).1
        rw [he.1] at this
        simpa using this
      have go : ∀ (B1 : Nat → Prop) (L1 : Loc) (a1 : Act) (w1 : World), FS k B L w fr1.H fr1.mv B1 L1 w1 fr1.H fr1.mv → ERel B1 L1 w1 e1 a1.tmps → St B1 L1 w1 fr1.H → a1.defers = a.defers → PI P ops simples w0.heap.size (listed.setIfInBounds i true) past B1 L1 w1 fr1.H a1.tmps →
          wpAny P .any ops Q fuel (listed.setIfInBounds i true) a1 w1 := by
        intro B1 L1 a1 w1 hfs1 he1 hst1 hd1 hpi1
        refine ih _ rest past todo fr1 B1 L1 a1 w1 hfu hls' hclo' (fun c hc => ⟨(hrest c hc).1, ?_⟩) (fun c hc hcr => keepT c (hch c hc hcr)) hcok (fun j hj => keepT j (hpast j hj)) htodo hidem hcont hpi1 hst1 ((ERelX.like (h3 rfl) he1).mono hXsub)
          (hg.step (hfs1.step hst)) hk (hfs.trans hfs1) (hd1.trans hd) hnd
        rw [getD_set_other false]
        · exact (hrest c hc).2
        · rintro rfl
          have := ((mem_chain _).1 (hrest _ hc).1).2
          rw [hsi] at this; cases this
      obtain ⟨pb, hpb, hinj⟩ := hpi
      have waits : ∀ j, j ≠ i → Waits ops simples (listed.setIfInBounds i true) past j → Waits ops simples listed past j := fun j hj hw => ⟨hw.1, hw.2.1, getD_o j hj hw.2.2.1, hw.2.2.2⟩
      have tmpj : ∀ (a1 : Act) (v : Value), a1.tmps = (a.put o.dst v).tmps → ∀ j, j ≠ i → Waits ops simples (listed.setIfInBounds i true) past j → ∀ dj, slotOf ops j = some dj → a1.tmps[dj]? = a.tmps[dj]? := by
        intro a1 v ht j hj hw dj hdj
        rw [ht, put_other]
        rw [← hso']
        exact isSimple_alone ((mem_simple j).1 hw.1).2 hw.2.1 hdj i (fun e => hj e.symm)
      cases hal : isAllocO o.op with
      | false =>
        have hnal : isAllocL ops.toList i = false := by
          have ho2 : ops.toList[i]? = some o := by rw [Array.getElem?_toList]; exact ho
          simp only [isAllocL, ho2, hal]
        refine wpOp_dst ho ?_ (oneA_sound (fr := fr1.envd e') (fr' := fr1.envd e1) hC hst hrel hg h1 (fun a1 w1 => EPost (fr1.envd e').k B L w (fr1.envd e').H (fr1.envd e').mv a.defers .normal (fr1.envd e1) .normal a1 w1) Q (fun _ _ hp _ => hp) ?_)
        · rintro a1 w1 v' ht ⟨B1, L1, hfs1, he1, hst1, hk1, hd1, _⟩
          rw [hFk] at hfs1
          have hne : ∀ j, Waits ops simples (listed.setIfInBounds i true) past j → j ≠ i := by rintro j hw rfl; rw [hw.2.1] at hnal; cases hnal
          exact go B1 L1 a1 w1 hfs1 he1 hst1 hd1 ⟨pb, fun j hw => (hpb j (waits j (hne j hw) hw)).step hfs1 (tmpj a1 v' ht j (hne j hw) hw), fun j j' hw hw' e => hinj j j' (waits j (hne j hw) hw) (waits j' (hne j' hw') hw') e⟩
        · rintro e a1 w1 hne ⟨B1, L1, _, _, _, _, _, hm⟩
          cases e <;> first | exact absurd rfl hne | exact hm.elim
      | true =>
        obtain ⟨t, d', z, hop, hgd, hdst', hz, hfr1'⟩ := oneA_allocS ho hsk hal h1
        rw [hdst] at hdst'
        cases hdst'
        have he1' : e1 = e'.set d .junk := congrArg Fr.env hfr1'
        subst he1'
        refine wpOp_dst ho ?_ (alloc_sound (P := P) (fr := fr1.envd e') (K := fun a1 w1 => ∃ B', FS (fr1.envd e').k B L w (fr1.envd e').H (fr1.envd e').mv B' L w1 (fr1.envd e').H (fr1.envd e').mv ∧ St B' L w1 (fr1.envd e').H ∧ ERel B' L w1 ((fr1.envd e').env.set d .junk) a1.tmps ∧ a1.defers = a.defers ∧
          ∀ s0, s0 ≤ w.heap.size → PendAt P ops s0 B' L w1 (fr1.envd e').H a1.tmps i w.heap.size) (Q := Q) ho hop hgd hdst hz hst hrel fun a1 w1 _ hh => hh hdlt)
        rintro a1 w1 v' ht ⟨B1, hfs1, hst1, he1, hd1, hpe⟩
        rw [hFk] at hfs1
        refine go B1 L a1 w1 hfs1 he1 hst1 hd1 ⟨fun j => if j = i then w.heap.size else pb j, fun j hw => ?_, fun j j' hw hw' e => ?_⟩
        · show PendAt P ops w0.heap.size B1 L w1 fr1.H a1.tmps j (if j = i then w.heap.size else pb j)
          by_cases hj : j = i
          · rw [if_pos hj, hj]
            exact hpe _ hfs.size
          · rw [if_neg hj]
            exact (hpb j (waits j hj hw)).step hfs1 (tmpj a1 v' ht j hj hw)
        · have lt : ∀ q, q ≠ i → Waits ops simples (listed.setIfInBounds i true) past q → pb q < w.heap.size := by
            intro q hq hwq
            obtain ⟨_, _, _, _, _, _, _, _, _, _, _, _, h8, _⟩ := hpb q (waits q hq hwq)
            exact h8
          have e : (if j = i then w.heap.size else pb j) = (if j' = i then w.heap.size else pb j') := e
          by_cases hj : j = i <;> by_cases hj' : j' = i
          · rw [hj, hj']
          · rw [if_pos hj, if_neg hj'] at e; have := lt j' hj' hw'; omega
          · rw [if_neg hj, if_pos hj'] at e; have := lt j hj hw; omega
          · rw [if_neg hj, if_neg hj'] at e; exact hinj j j' (waits j hj hw) (waits j' hj' hw') e
    | false =>
      have hic : i ∈ chain := (mem_chain i).2 ⟨hin, hsi⟩
      have hir : i ∈ rest := by
        apply Classical.byContradiction
        intro hn
        rw [hch i hic hn] at hunl
        cases hunl
      cases rest with
      | nil => simp at hir
      | cons c rest =>
        have hci : c = i := by
          apply Classical.byContradiction
          intro hne
          obtain ⟨j, hj, haj⟩ := chainOk_spec rest c hcok i ((List.mem_cons.1 hir).resolve_left fun e => hne e.symm)
          have := anc haj ho hclo hpre
          rw [(hrest j hj).2] at this
          cases this
        subst hci
        have hcn : c ∉ rest := (List.nodup_cons.1 hnd).1
        obtain ⟨F0, had, hcont⟩ := hcont
        obtain ⟨pb, hpb, hinj⟩ := hpi
        have adopted : ∃ L1, St B L1 w F0.H ∧ ERelX (UnX ops simples listed) B L1 w F0.env a.tmps ∧ F0.k = k ∧ FS k B0 L0 w0 H0 mv0 B L1 w F0.H F0.mv ∧
            ∀ j, Waits ops simples listed past j → isAnc tab j c = false → PendAt P ops w0.heap.size B L1 w F0.H a.tmps j (pb j) := by
          have mem : ∀ j, j ∈ takesA ops.toList tab simples past c ↔ j ∈ simples ∧ isAllocL ops.toList j = true ∧ isAnc tab j c = true ∧ past.testBit j = false := by
            intro j
            unfold takesA
            rw [List.mem_filter]
            simp only [Bool.and_eq_true, Bool.not_eq_true', and_assoc]
          generalize takesA ops.toList tab simples past c = T at had mem
          match T, had with
          | [], had =>
            cases had
            exact ⟨L, hst, he, hk, hfs, fun j hw _ => hpb j hw⟩
          | [i0], ⟨C0, _, hone0⟩ =>
            obtain ⟨m1, m2, m3, m4⟩ := (mem i0).1 (by simp)
            have hw0 : Waits ops simples listed past i0 := ⟨m1, m2, anc m3 ho hclo hpre, m4⟩
            obtain ⟨L1, g1, g2, g3, g4, g5, g6⟩ := adopt_sound (X := UnX ops simples listed) (hpb i0 hw0) hone0 hst he.1 he.2 hk hfs
            refine ⟨L1, g1, ⟨g2, g3⟩, g4, g5, fun j hw hna => g6 j _ (fun e => ?_) (hpb j hw)⟩
            have := hinj j i0 hw hw0 e
            subst this
            rw [m3] at hna; cases hna
        obtain ⟨L1', hst, he, hk, hfs, hpb⟩ := adopted
        clear had
        obtain ⟨e', hlike, hrel⟩ := he.mask
        have hFk : (F0.envd e').k = k := hk
        have waits : ∀ j, Waits ops simples (listed.setIfInBounds c true) (past ||| ((tab[c]?).getD 0)) j → j ≠ c ∧ Waits ops simples listed past j ∧ isAnc tab j c = false := by
          intro j hw
          have hjc : j ≠ c := by
            rintro rfl
            have := ((mem_simple _).1 hw.1).2
            rw [hsi] at this; cases this
          have hb := hw.2.2.2
          rw [Nat.testBit_or, Bool.or_eq_false_iff] at hb
          exact ⟨hjc, ⟨hw.1, hw.2.1, getD_o j hjc hw.2.2.1, hb.1⟩, hb.2⟩
        rcases hcont with ⟨F', ⟨C, hC, hone⟩, hcont⟩ | ⟨v, F', ⟨C, hC, hone⟩, rfl, rfl⟩
        · -- on
          obtain ⟨e1, h1, h2, h3⟩ := oneA_like ho hlike hX hone
          refine wpOp_dst ho ?_ (oneA_sound (fr := F0.envd e') (fr' := F'.envd e1) hC hst hrel hg h1 (fun a1 w1 => EPost (F0.envd e').k B L1' w (F0.envd e').H (F0.envd e').mv a.defers .normal (F'.envd e1) .normal a1 w1) Q (fun _ _ hp _ => hp) ?_)
          · rintro a1 w1 vv ht ⟨B1, L1, hfs1, he1, hst1, hk1, hd1, _⟩
            rw [hFk] at hfs1
            obtain ⟨F2, heag, hidem2, hcont2⟩ := hcont
            obtain ⟨g1, g2, g3, g4, g5⟩ := eagerP_spec _ heag
            have hrest' : ∀ c' ∈ rest, c' ∈ chain ∧ (listed.setIfInBounds c true).getD c' false = false := by
              intro c' hc'
              have hne : c ≠ c' := by rintro rfl; exact hcn hc'
              exact ⟨(hrest c' (List.mem_cons_of_mem _ hc')).1, by
                rw [getD_set_other false hne]
                exact (hrest c' (List.mem_cons_of_mem _ hc')).2⟩
            refine ih _ rest _ _ F2 B1 L1 a1 w1 hfu hls' hclo' hrest' (fun c' hc' hcr => ?_) (chainOk_tail hcok) (fun j hj => ?_) (fun j hj => htodo j (List.mem_filter.1 hj).1) hidem2 hcont2 ⟨pb, fun j hw => ?_, fun j j' hw hw' e => hinj j j' (waits j hw).2.1 (waits j' hw').2.1 e⟩ (by rw [g1]; exact hst1) ?_
              (hg.step (hfs1.step hst)) (g2.trans (hk1.trans hk)) ?_ (hd1.trans hd) (List.nodup_cons.1 hnd).2
            · by_cases e : c = c'
              · subst e; exact getD_set_self (by rw [hls]; exact hin)
              · exact keepT c' (hch c' hc' (by simp only [List.mem_cons, not_or]; exact ⟨fun h => e h.symm, hcr⟩))
            · rw [Nat.testBit_or, Bool.or_eq_true] at hj
              rcases hj with hj | hj
              · exact keepT j (hpast j hj)
              · exact keepT j (anc (show isAnc tab j c = true from hj) ho hclo hpre)
            · obtain ⟨hjc, hw1, hna⟩ := waits j hw
              rw [g1]
              refine (hpb j hw1 hna).step hfs1 fun dj hdj => ?_
              rw [ht, put_other]
              rw [← hso']
              exact isSimple_alone ((mem_simple j).1 hw.1).2 hw.2.1 hdj c (fun e => hjc e.symm)
            · have hbase : ERelX (UnX ops simples (listed.setIfInBounds c true)) B1 L1 w1 F'.env a1.tmps := (ERelX.like (h3 rfl) he1).mono hXsub
              refine ⟨g4.trans hbase.1, fun x u y hu hnx hy => hbase.2 x u y ?_ hnx hy⟩
              rw [← hu, g5 x]
              intro j hj hs
              obtain ⟨hj1, hj2⟩ := List.mem_filter.1 hj
              obtain ⟨hj3, hj4⟩ := List.mem_filter.1 hj1
              refine hnx ⟨j, htodo j hj3, ?_, hs⟩
              obtain ⟨c', hc', hac⟩ := notNow_spec (by simpa using hj4 : isNow tab (maskOf (c :: rest)) j = false)
              obtain ⟨oj, dj, hoj, _⟩ := isSimple_spec ((mem_simple j).1 (htodo j hj3)).2
              have hjl : listed.getD j false = false := by
                cases hq : listed.getD j false with
                | false => rfl
                | true =>
                  have := anc hac hoj hclo (fun e he hb => hclo j oj hoj hq e he hb)
                  rw [(hrest c' hc').2] at this
                  cases this
              rw [getD_set_other false]
              · exact hjl
              · rintro rfl
                have := ((mem_simple _).1 (htodo _ hj3)).2
                rw [hsi] at this; cases this
            · rw [g1, g3]
              exact hfs.trans hfs1
          · rintro e a1 w1 hne ⟨B1, L1, _, _, _, _, _, hm⟩
            cases e <;> first | exact absurd rfl hne | exact hm.elim
        · -- a panic
          obtain ⟨e1, h1, h2, h3⟩ := oneA_like ho hlike hX hone
          refine oneA_sound (fr := F0.envd e') (fr' := F'.envd e1) hC hst hrel hg h1 _ _ (fun _ _ _ e => by cases e) ?_
          rintro e a1 w1 hne ⟨B1, L1, hfs1, he1, hst1, hk1, hd1, hm⟩
          rw [hFk] at hfs1
          exact hQ _ _ _ ⟨B1, L1, hfs.trans hfs1, allJunk_rel (by rw [h2.1]; exact he1.1), hst1, hk1.trans hk, hd1.trans hd, hm⟩
theorem FS.drew {k : Nat} {B : Nat → Prop} {L : Loc} {w : World} {H : Heap} {mv : List Nat} : FS k B L w H mv B L w.drew H mv :=
  ⟨Nat.le_refl _, ⟨rfl, rfl, rfl⟩, fun _ _ _ => rfl, fun _ _ h => h, fun _ _ h _ => h, fun _ h => h, fun _ _ _ => ⟨rfl, rfl, rfl⟩, fun n h => .inl ⟨n, h, rfl⟩⟩
theorem eagerL_P (hC : SoundC P G C) {ops : Array Oper} : ∀ (l : List Nat) {fr F : Fr}, eagerL (oneA P G pol bs C ops) ops l fr = some F → EagerP P G pol bs ops l fr F
  | [], fr, F, h => by simp only [eagerL, Option.some.injEq] at h; exact h.symm
  | i :: l, fr, F, h => by
    simp only [eagerL] at h
    split at h
    case h_2 => cases h
    rename_i fr' d h1 h2
    split at h
    case h_2 => cases h
    rename_i v hv
    exact ⟨d, v, h2, ⟨fr', d, ⟨C, hC, h1⟩, h2, hv⟩, eagerL_P hC l h⟩
theorem idem_P (hC : SoundC P G C) {ops : Array Oper} {F : Fr} {i : Nat} (h : idem (oneA P G pol bs C ops) ops F i = true) : IdemP P G pol bs ops F i := by
  unfold idem at h
  split at h
  case h_2 => cases h
  rename_i fr' d h1 h2
  split at h
  case h_2 => cases h
  rename_i v u hv hu
  have := V.beq_eq v u h
  subst this
  exact ⟨d, v, h2, ⟨fr', d, ⟨C, hC, h1⟩, h2, hv⟩, hu⟩
theorem settle_P (hC : SoundC P G C) {ops : Array Oper} {tab simples rest : List Nat} {past : Nat} {todo : List Nat} {fr F : Fr} (h : settle (oneA P G pol bs C ops) ops tab simples rest past todo fr = some F) :
    EagerP P G pol bs ops (todo.filter (isNow tab (maskOf rest))) fr F ∧ ∀ i ∈ simples, isNow tab (maskOf rest) i = true → past.testBit i = false → IdemP P G pol bs ops F i := by
  unfold settle at h
  split at h
  · rename_i F' hF
    split at h
    · rename_i hc
      cases h
      refine ⟨eagerL_P hC _ hF, fun i hi h1 h2 => idem_P hC ?_⟩
      simp only [List.all_eq_true] at hc
      have := hc i hi
      rw [if_pos ⟨h1, h2⟩] at this
      exact this
    · cases h
  · cases h
theorem drawGo_P (hC : SoundC P G C) {ops : Array Oper} {tab simples : List Nat} {ex : Ex} {fr' : Fr} : ∀ (rest : List Nat) (past : Nat) (todo : List Nat) {fr : Fr},
    drawGo (oneA P G pol false C ops) (oneA P G pol bs C ops) ops tab simples rest past todo fr = some (ex, fr') →
    ∃ F, EagerP P G pol bs ops (todo.filter (isNow tab (maskOf rest))) fr F ∧ (∀ i ∈ simples, isNow tab (maskOf rest) i = true → past.testBit i = false → IdemP P G pol bs ops F i) ∧ ContP P G pol bs ops tab simples rest past todo F ex fr'
  | [], past, todo, fr, h => by
    simp only [drawGo] at h
    split at h
    · rename_i F hF
      simp only [Option.some.injEq, Prod.mk.injEq] at h
      obtain ⟨h1, h2⟩ := settle_P hC hF
      exact ⟨F, h1, h2, h.1.symm, h.2.symm⟩
    · cases h
  | c :: rest, past, todo, fr, h => by
    simp only [drawGo] at h
    split at h
    case h_2 => cases h
    rename_i F hF
    obtain ⟨h1, h2⟩ := settle_P hC hF
    split at h
    · cases h
    rename_i F0 hF0
    have had : AdoptP P G pol ops (takesA ops.toList tab simples past c) F F0 := by
      generalize takesA ops.toList tab simples past c = T at hF0
      match T, hF0 with
      | [], hF0 => simp only [adoptA, Option.some.injEq] at hF0; exact hF0.symm
      | [i], hF0 =>
        simp only [adoptA] at hF0
        split at hF0
        · rename_i F' hone; cases hF0; exact ⟨C, hC, hone⟩
        · cases hF0
      | _ :: _ :: _, hF0 => simp [adoptA] at hF0
    split at h
    · rename_i F' hone
      obtain ⟨F2, q1, q2, q3⟩ := drawGo_P hC rest _ _ h
      exact ⟨F, h1, h2, F0, had, .inl ⟨F', ⟨C, hC, hone⟩, F2, q1, q2, q3⟩⟩
    · rename_i v F' hone
      simp only [Option.some.injEq, Prod.mk.injEq] at h
      exact ⟨F, h1, h2, F0, had, .inr ⟨v, F', ⟨C, hC, hone⟩, h.1.symm, h.2.symm⟩⟩
    · cases h
theorem PI.start {ops : Array Oper} {simples : List Nat} {s0 : Nat} {B : Nat → Prop} {L : Loc} {w : World} {H : Heap} {tmps : Array Value} {listed : Array Bool} (hrep : ∀ i, listed.getD i false = false) : PI P ops simples s0 listed 0 B L w H tmps :=
  ⟨fun _ => 0, fun i h => (by have := h.2.2.1; rw [hrep] at this; cases this), fun i _ h => (by have := h.2.2.1; rw [hrep] at this; cases this)⟩
theorem drawB_sound (hm : P.follows .mixedOrders = true) (bs : Bool) : SoundDG P G (drawB P G pol bs) := by
  intro C hC id ops B L w fr fr' ex a hst he hg h Q hQ
  refine wp_region_any hm ?_
  unfold drawB at h
  simp only [] at h
  split at h
  case isFalse => cases h
  rename_i hc
  obtain ⟨F, heag, hidem, hcont⟩ := drawGo_P hC _ _ _ h
  obtain ⟨g1, g2, g3, g4, g5⟩ := eagerP_spec _ heag
  have hrep : ∀ i, (Array.replicate ops.size false).getD i false = false := fun i => by
    simp only [Array.getD]
    split <;> simp
  have hstep : Step B w B w.drew := step_drew B w
  refine drawP_sound rfl rfl rfl hc.1 hQ ops.size _ _ _ _ F B L a w.drew ?_ (by simp) ?_ ?_ ?_ hc.2 ?_ ?_ hidem hcont (PI.start hrep) (by rw [g1]; exact hst.drew) ?_ (hg.step hstep) g2 (by rw [g1, g3]; exact FS.drew) rfl ?_
  · unfold unl
    exact Nat.le_trans (List.length_filter_le _ _) (by simp)
  · intro j o _ hl
    rw [hrep] at hl; cases hl
  · exact fun c hc => ⟨hc, hrep c⟩
  · exact fun c hc hn => (hn hc).elim
  · exact fun i hi => by simp at hi
  · exact fun i hi => hi
  · refine ⟨g4.trans he.1, fun x u y hu hnx hy => ?_⟩
    have : fr.env[x]? = some u := by
      rw [← hu]
      symm
      refine g5 x ?_
      intro j hj hs
      exact hnx ⟨j, (List.mem_filter.1 hj).1, hrep j, hs⟩
    exact (he.2 x u y this hy).step hstep
  · exact List.Pairwise.filter _ List.nodup_range
theorem drawA_sound (hm : P.follows .mixedOrders = true) : SoundDG P G (drawA P G pol) := by
  intro C hC id ops B L w fr fr' ex a hst he hg h Q hQ
  unfold drawA at h
  split at h
  · rename_i r hr
    cases h
    exact drawB_sound hm false C hC id ops hst he hg hr Q hQ
  · exact drawB_sound hm true C hC id ops hst he hg h Q hQ
end
end Go.Am
end

section
namespace Go.Am
open Go Go.RowKit
section
variable {P : Program} {G : Nat → Option PV}
theorem FS.below {k : Nat} {B : Nat → Prop} {L : Loc} {w w' : World} {H : Heap} {mv : List Nat} (h : Below w.heap.size w w') : FS k B L w H mv B L w' H mv :=
  ⟨h.size, ⟨h.os, h.tape, h.output⟩, fun b hb _ => h.block b hb, fun _ _ h => h, fun _ _ h _ => h, fun _ h => h, fun _ _ _ => ⟨rfl, rfl, rfl⟩, fun n hn => .inl ⟨n, hn, rfl⟩⟩
theorem St.below {B : Nat → Prop} {L : Loc} {w w' : World} {H : Heap} (hst : St B L w H) (h : Below w.heap.size w w') : St B L w' H := by
  have hs : Step B w B w' := ⟨h.size, fun b hb _ => h.block b hb, fun _ _ h => h⟩
  exact ⟨fun n => (hst.rel n).step hs fun hl => h.block _ (hst.own n hl).2, fun n hl => ⟨(hst.own n hl).1, Nat.lt_of_lt_of_le (hst.own n hl).2 h.size⟩, hst.inj, fun b hb => Nat.lt_of_lt_of_le (hst.bnd b hb) h.size⟩
theorem absBelow {f : FuncId} {args : List V} {H : Heap} {r : V} (h : ∀ (B : Nat → Prop) (L : Loc) (w : World) (vs : List Value), St B L w H → VRelL B L w args vs → GOk G B w →
    CallTo P f vs.toArray w fun e w' => Below w.heap.size w w' ∧ ∃ v, e = .returned v ∧ VRel B L w' r v) : AbsCall P G f args H ⟨.ret r, H, []⟩ := by
  intro B L w vs hst ha hg
  refine (h B L w vs hst ha hg).mono ?_
  rintro e w' ⟨hb, v, rfl, hv⟩
  exact ⟨B, L, FS.below hb, hst.below hb, hv⟩
theorem enters {f : FuncId} {fn : Func} {c : Code} (hf : P.funcs[f]? = some fn) (hname : (fn.name == "runtime.NumGoroutine") = false) (hb : fn.body = some c) (args : Array Value) (w : World) : (callFunc f args).run P w = .ok (.enter f args) w := by
  have hne : fn.name ≠ "runtime.NumGoroutine" := by simpa using hname
  simp [callFunc, hf, hne, hb]
theorem CallTo.of_calls {f : FuncId} {fn : Func} {c : Code} {args : Array Value} {w : World} {R : Ending → World → Prop} (hf : P.funcs[f]? = some fn) (hname : (fn.name == "runtime.NumGoroutine") = false) (hb : fn.body = some c) (h : Calls P f args w R) : CallTo P f args w R :=
  .inl ⟨enters hf hname hb args w, h⟩
theorem CallTo.calls {f : FuncId} {fn : Func} {c : Code} {args : Array Value} {w : World} {R : Ending → World → Prop} (hf : P.funcs[f]? = some fn) (hname : (fn.name == "runtime.NumGoroutine") = false) (hb : fn.body = some c) (h : CallTo P f args w R) : Calls P f args w R := by
  rcases h with ⟨_, h⟩ | ⟨v, w', h, _⟩
  · exact h
  · rw [enters hf hname hb] at h; cases h
theorem CallTo.extern {f : FuncId} {fn : Func} {e : Array Value → Sem Value} {args : Array Value} {v : Value} {w : World} {R : Ending → World → Prop} (hf : P.funcs[f]? = some fn) (hname : (fn.name == "runtime.NumGoroutine") = false)
    (hb : fn.body.isNone = true) (hn : Extern.findNext fn = none) (he : Extern.find fn = some e) (hr : (e args).run P w = .ok v w) (h : R (.returned v) w) : CallTo P f args w R :=
  .inr ⟨v, w, by rw [run_callFunc_extern hf hname hb hn he, hr]; rfl, h⟩
theorem vrel1 {B : Nat → Prop} {L : Loc} {w : World} {x : V} {vs : List Value} (h : VRelL B L w [x] vs) : ∃ v, vs = [v] ∧ VRel B L w x v := by
  match vs, h with
  | [v], h => exact ⟨v, rfl, h.2 0 _ _ rfl rfl⟩
  | [], h => have := h.1; simp at this
  | _ :: _ :: _, h => have := h.1; simp at this
theorem vrel2 {B : Nat → Prop} {L : Loc} {w : World} {x y : V} {vs : List Value} (h : VRelL B L w [x, y] vs) : ∃ v u, vs = [v, u] ∧ VRel B L w x v ∧ VRel B L w y u := by
  match vs, h with
  | [v, u], h => exact ⟨v, u, rfl, h.2 0 _ _ rfl rfl, h.2 1 _ _ rfl rfl⟩
  | [], h => have := h.1; simp at this
  | [_], h => have := h.1; simp at this
  | _ :: _ :: _ :: _, h => have := h.1; simp at this
theorem vstr {B : Nat → Prop} {L : Loc} {w : World} {s : List UInt8} {v : Value} (h : VRel B L w (.p (.str s)) v) : v = .string ⟨s.toArray⟩ := by cases h.of_p; rfl
theorem vint {B : Nat → Prop} {L : Loc} {w : World} {k : IntKind} {n : Int} {v : Value} (h : VRel B L w (.p (.int k n)) v) : v = .int k n := by cases h.of_p; rfl
theorem abs_same {f : FuncId} {fn : Func} (hf : P.funcs[f]? = some fn) (hname : (fn.name == "runtime.NumGoroutine") = false) (hb : fn.body.isNone = true) (hn : Extern.findNext fn = none) (he : Extern.find fn = some Extern.AbiNoEscape.same)
    (x : V) (H : Heap) : AbsCall P G f [x] H ⟨.ret x, H, []⟩ := by
  refine absBelow fun B L w vs _ ha _ => ?_
  obtain ⟨v, rfl, hv⟩ := vrel1 ha
  exact CallTo.extern (e := Extern.AbiNoEscape.same) (v := v) hf hname hb hn he rfl ⟨Below.refl _ _, v, rfl, hv⟩
def digitsK : Nat → Nat → List UInt8
  | 0, _ => []
  | k + 1, n => if n < 10 then [UInt8.ofNat (48 + n)] else digitsK k (n / 10) ++ [UInt8.ofNat (48 + n % 10)]
theorem digitsK_eq : ∀ (k n : Nat), n < 10 ^ (k + 1) → digitsK (k + 1) n = Lib.decDigits n
  | 0, n, h => by
    have : n < 10 := by simpa using h
    rw [Lib.decDigits, digitsK, if_pos this, dif_pos this]
  | k + 1, n, h => by
    rw [Lib.decDigits, digitsK]
    by_cases h1 : n < 10
    · rw [if_pos h1, dif_pos h1]
    · rw [if_neg h1, dif_neg h1, digitsK_eq k (n / 10) (by rw [Nat.pow_succ] at h; omega)]
def itoaK (n : Int) : List UInt8 := if n < 0 then 45 :: digitsK 20 n.natAbs else digitsK 20 n.toNat
theorem itoaK_eq {n : Int} (h0 : -9223372036854775808 ≤ n) (h1 : n ≤ 9223372036854775807) : itoaK n = Lib.itoa n := by
  unfold itoaK Lib.itoa
  split
  · rw [digitsK_eq 19 _ (by omega)]
  · rw [digitsK_eq 19 _ (by omega)]
def tabV (k : IntKind) (zs : List Int) : PV := .agg (zs.map fun z => .int k z)
theorem tab_gok {name : String} {k : IntKind} {zs : List Int} {g : Nat} {W : World} (h : Lib.TabIs P W name k zs) (hg : P.globalNamed name = some g) :
    PRel (fun _ => False) W (.cptr (tabV k zs)) (.pointer (some ⟨g, 0, none⟩)) ∧ ∃ c t fr, W.heap[g]? = some (.cells c t fr) ∧ c.size = (tabV k zs).cells.length := by
  unfold Lib.TabIs World.var? at h
  rw [hg] at h
  simp only [Option.bind_some] at h
  split at h
  case h_2 => cases h
  rename_i cs t fr hw
  cases h
  refine ⟨.cptr _ g 0 (fun i => .int k (zs.getD i 0)) (fun h => h) (Array.getElem?_eq_some_iff.1 hw).1 ?_ (fun i hi => ?_) (fun i x hx => ?_), _, t, fr, hw, by simp [tabV, PV.cells]⟩
  · intro x hx
    simp only [tabV, PV.cells, List.mem_map] at hx
    obtain ⟨z, _, rfl⟩ := hx
    rfl
  · simp only [tabV, PV.cells, List.length_map] at hi
    simp [World.cell?, hw, List.getD, hi]
  · simp only [tabV, PV.cells, List.getElem?_map, Option.map_eq_some_iff] at hx
    obtain ⟨z, hz, rfl⟩ := hx
    simp [List.getD, hz]
    exact .int k z
theorem tab_of_gok {B : Nat → Prop} {name : String} {k : IntKind} {zs : List Int} {g : Nat} {w : World} (h : GOk G B w) (hG : G g = some (tabV k zs)) (hg : P.globalNamed name = some g) : Lib.TabIs P w name k zs := by
  obtain ⟨h1, c, t, fr, hw, hl⟩ := h g _ hG
  unfold Lib.TabIs World.var?
  rw [hg]
  simp only [Option.bind_some, hw, Option.some.injEq]
  simp only [tabV, PV.cells, List.length_map] at hl
  apply Array.ext_getElem?
  intro i
  generalize hd : tabV k zs = d at h1
  cases h1 with
  | cptr d b o u hb hw' hf hc hr =>
    subst hd
    by_cases hi : i < zs.length
    · have h2 := hc i (by simpa [tabV, PV.cells] using hi)
      have h3 := hr i (.int k zs[i]) (by simp [tabV, PV.cells, hi])
      simp only [World.cell?, hw, Nat.zero_add] at h2
      have h4 : u i = .int k zs[i] := by generalize u i = q at h3; cases h3; rfl
      rw [h4] at h2
      simp only [Option.isSome_none, Bool.false_eq_true, if_false] at h2
      rw [show c[i]? = some (.int k zs[i]) from by simpa using h2]
      simp [hi]
    · rw [Array.getElem?_eq_none (by omega), Array.getElem?_eq_none (by simp; omega)]
theorem below_of_FS {B B' : Nat → Prop} {L L' : Loc} {w w' : World} {mv : List Nat} {H' : Heap} (h : FS 0 B L w [] [] B' L' w' H' mv) : Below w.heap.size w w' :=
  ⟨h.same.1, h.same.2.1, h.same.2.2, h.size, fun b hb => h.own b hb fun n hn => by simp [Heap.at, HO.live] at hn⟩
open ChangeShapes WideShapes in
theorem post_of_below {H : Type} {enc : TypeId × Value → H} {f : Func} {s : ChangeSpec} {apart fresh handsOn again : Bool} {W W' : World} {args : Array Value} {v : Value} {ds gs : List (DataW H)} {before pa pv : List MemPlace}
    (hW : DataW.Whole enc P f.params.toList s.vars apart W args.toList ds gs before)
    (hres : ∀ (b : Nat) (sp : Nat → Bool) (hd : Bool), DataW.TrodAll enc P W' b sp hd f.resultTypes.toList (v.resultList f.resultTypes.size) (s.fn H (ds ++ gs)).results [])
    (hargs : ∀ sp : Nat → Bool, (∀ p ∈ before, sp p.block = true) → DataW.TrodAll enc P W' 0 sp true f.params.toList args.toList (s.fn H (ds ++ gs)).args pa)
    (hvars : ∀ sp : Nat → Bool, (∀ p ∈ before, sp p.block = true) → DataW.TrodVars enc P W' sp s.vars (s.fn H (ds ++ gs)).vars pv)
    (hps : before = pa ++ pv) (hb : Below W.heap.size W W')
    (hok : ∀ (j : Nat) (t : TypeId) (r : Value), f.resultTypes[j]? = some t → (v.resultList f.resultTypes.size)[j]? = some r → Value.okWide P W' .any 0 t r) :
    s.post enc P f apart fresh handsOn again W args v W' := by
  have hold : ∀ p ∈ before, (fun b => decide (b < W.heap.size)) p.block = true := fun p hp => by simpa using hW.lt p hp
  refine ⟨ds, gs, before, [], pa, pv, hW, hres _ _ _, hargs _ hold, hvars _ hold, hb.frame _, fun _ => ?_⟩
  have hlt := hW.lt
  obtain ⟨_, _, _, _, _, hz, hn⟩ := hW
  refine ⟨hok, _, _, ([] ++ pa) ++ pv, ⟨[] ++ pa, pv, trodAll_append (hargs _ (fun _ _ => rfl)) (hres _ _ _), hvars _ (fun _ _ => rfl), rfl, ?_, ?_⟩, ?_⟩
  · intro b off hp
    have hp' : MemPlace.cell b off ∈ before := by rw [hps]; simpa using hp
    rw [hb.frozen (hlt _ hp')]
    exact hz b off hp'
  · intro ha
    have := hn ha
    rw [hps] at this
    simpa using this
  · intro p hp _
    rw [hps]
    simpa using hp
end
end Go.Am
end

section
namespace Go.Am
open Go
abbrev Env := List (Nat × V)
def look : Env → Nat → V
  | [], _ => .junk
  | (i, v) :: l, t => match Nat.beq i t with
    | true => v
    | false => look l t
def toEnv (n : Nat) (σ : Env) : List V := (List.range n).map (look σ)
def Bdd (n : Nat) (σ : Env) : Prop := ∀ t, n ≤ t → look σ t = .junk
theorem look_cons (i : Nat) (v : V) (σ : Env) (t : Nat) : look ((i, v) :: σ) t = if i = t then v else look σ t := by
  simp only [look]
  by_cases h : i = t
  · subst h; simp
  · have : Nat.beq i t = false := by
      cases hq : Nat.beq i t with
      | false => rfl
      | true => exact absurd (Nat.eq_of_beq_eq_true hq) h
    rw [this, if_neg h]
theorem toEnv_length (n : Nat) (σ : Env) : (toEnv n σ).length = n := by simp [toEnv]
theorem toEnv_get {n : Nat} {σ : Env} {t : Nat} : (toEnv n σ)[t]? = if t < n then some (look σ t) else none := by
  simp only [toEnv, List.getElem?_map]
  split
  · rename_i h; rw [List.getElem?_range h]; rfl
  · rename_i h; rw [List.getElem?_eq_none (by simp; omega)]; rfl
theorem toEnv_getD {n : Nat} {σ : Env} (hb : Bdd n σ) (t : Nat) : ((toEnv n σ)[t]?).getD .junk = look σ t := by
  rw [toEnv_get]
  split
  · rfl
  · rename_i h; rw [hb t (by omega)]; rfl
theorem Bdd.cons {n d : Nat} {σ : Env} (h : Bdd n σ) (hd : d < n) (v : V) : Bdd n ((d, v) :: σ) := by
  intro t ht
  rw [look_cons, if_neg (by omega)]
  exact h t ht
theorem toEnv_set {n d : Nat} {σ : Env} (v : V) : (toEnv n σ).set d v = toEnv n ((d, v) :: σ) := by
  apply List.ext_getElem?
  intro i
  rw [List.getElem?_set, toEnv_get, toEnv_get, look_cons, toEnv_length]
  split
  · rename_i e; subst e; simp
  · simp
theorem look_map (f : V → V) (hf : f .junk = .junk) : ∀ (σ : Env) (t : Nat), look (σ.map fun p => (p.1, f p.2)) t = f (look σ t)
  | [], t => hf.symm
  | (i, v) :: σ, t => by
    rw [List.map_cons, look_cons, look_cons]
    split
    · rfl
    · exact look_map f hf σ t
theorem toEnv_map (f : V → V) (hf : f .junk = .junk) (n : Nat) (σ : Env) : (toEnv n σ).map f = toEnv n (σ.map fun p => (p.1, f p.2)) := by
  simp only [toEnv, List.map_map]
  apply List.map_congr_left
  intro t _
  exact (look_map f hf σ t).symm
theorem Bdd.map {n : Nat} {σ : Env} (h : Bdd n σ) (f : V → V) (hf : f .junk = .junk) : Bdd n (σ.map fun p => (p.1, f p.2)) := by
  intro t ht
  rw [look_map f hf, h t ht, hf]
def evS (G : Nat → Option PV) (σ : Env) : Operand → V
  | .tmp t => look σ t
  | .const v => match ofConst v with
    | some d => .p d
    | none => .junk
  | .global g => match G g with
    | some d => .p (.cptr d)
    | none => .junk
  | .func f => .p (.fn (.func f))
theorem evS_eq {G : Nat → Option PV} {n : Nat} {σ : Env} (h : Bdd n σ) (x : Operand) : evalO G (toEnv n σ) x = evS G σ x := by
  cases x with
  | tmp t => exact toEnv_getD h t
  | _ => rfl
theorem evS_fun {G : Nat → Option PV} {n : Nat} {σ : Env} (h : Bdd n σ) : evalO G (toEnv n σ) = evS G σ := funext (evS_eq h)
structure Side (c r : Prop) : Prop where
  l : c
  r : r
structure Br (c : Bool) (A B : Prop) : Prop where
  t : c = true → A
  f : c = false → B
theorem Br.tt {c : Bool} {A B : Prop} (h : c = true) (a : A) : Br c A B := ⟨fun _ => a, fun e => by (rw [h] at e; cases e)⟩
theorem Br.ff {c : Bool} {A B : Prop} (h : c = false) (b : B) : Br c A B := ⟨fun e => by (rw [h] at e; cases e), fun _ => b⟩
inductive Bytes (l : List PV) (K : List UInt8 → Prop) : Prop
  | mk (s : List UInt8) (h : bytesOf l = some s) (k : K s)
inductive FrzV (m : Nat) (es : List PV) (v : V) (K : V → Prop) : Prop
  | mk (u : V) (h : v.frz m es = u) (k : K u)
inductive FrzO (m : Nat) (es : List PV) (o : HO) (K : HO → Prop) : Prop
  | mk (u : HO) (h : o.frz m es = u) (k : K u)
theorem FrzV.whole {m : Nat} {es : List PV} {K : V → Prop} (k : K (.p (.lst false es))) : FrzV m es (.sl m 0 es.length) K :=
  ⟨.p (.lst false es), by simp [V.frz], k⟩
def litK (n : Nat) (K : Nat → Prop) : Prop := match n with
  | 0 => K 0
  | 1 => K 1
  | 2 => K 2
  | 3 => K 3
  | 4 => K 4
  | 5 => K 5
  | 6 => K 6
  | 7 => K 7
  | 8 => K 8
  | 9 => K 9
  | 10 => K 10
  | 11 => K 11
  | 12 => K 12
  | 13 => K 13
  | 14 => K 14
  | 15 => K 15
  | 16 => K 16
  | 17 => K 17
  | 18 => K 18
  | 19 => K 19
  | 20 => K 20
  | 21 => K 21
  | 22 => K 22
  | 23 => K 23
  | n => K n
theorem litK_eq (n : Nat) (K : Nat → Prop) : litK n K = K n := by
  unfold litK
  split <;> rfl
def V.f1K (v : V) (K : V → Prop) : Prop := match v with
  | .p d => K (.p d)
  | .ptr a b => litK a fun a => litK b fun b => K (.ptr a b)
  | .eptr a b c => litK a fun a => litK c fun c => K (.eptr a b c)
  | .sl a b c => litK a fun a => K (.sl a b c)
  | .mapr a => litK a fun a => K (.mapr a)
  | .func f l => K (.func f l)
  | .agg l => K (.agg l)
  | .tup l => K (.tup l)
  | .iface t x => K (.iface t x)
  | .junk => K .junk
theorem V.f1K_eq (v : V) (K : V → Prop) : v.f1K K = K v := by cases v <;> simp only [V.f1K, litK_eq]
def list1K : List V → (List V → Prop) → Prop
  | [], K => K []
  | v :: l, K => v.f1K fun u => list1K l fun l' => K (u :: l')
theorem list1K_eq : ∀ (l : List V) (K : List V → Prop), list1K l K = K l
  | [], K => rfl
  | v :: l, K => by rw [list1K, V.f1K_eq, list1K_eq l]
def V.fK (v : V) (K : V → Prop) : Prop := match v with
  | .p d => K (.p d)
  | .func f l => list1K l fun l => K (.func f l)
  | .agg l => list1K l fun l => K (.agg l)
  | .tup l => list1K l fun l => K (.tup l)
  | v => v.f1K K
theorem V.fK_eq (v : V) (K : V → Prop) : v.fK K = K v := by cases v <;> simp only [V.fK, V.f1K_eq, list1K_eq]
def mapK (f : V → V) : List V → (List V → Prop) → Prop
  | [], K => K []
  | v :: l, K => (f v).fK fun u => mapK f l fun l' => K (u :: l')
theorem mapK_eq (f : V → V) : ∀ (l : List V) (K : List V → Prop), mapK f l K = K (l.map f)
  | [], K => rfl
  | v :: l, K => by rw [mapK, V.fK_eq, mapK_eq f l, List.map_cons]
def spineK {α : Type} : List α → (List α → Prop) → Prop
  | [], K => K []
  | x :: l, K => spineK l fun l' => K (x :: l')
theorem spineK_eq {α : Type} : ∀ (l : List α) (K : List α → Prop), spineK l K = K l
  | [], K => rfl
  | x :: l, K => by rw [spineK, spineK_eq l]
def HO.fK (o : HO) (K : HO → Prop) : Prop := match o with
  | .var t v => v.fK fun u => K (.var t u)
  | .arr t s es => K (.arr t s es)
  | .mp ks vs => K (.mp ks vs)
  | .dead => K .dead
theorem HO.fK_eq (o : HO) (K : HO → Prop) : o.fK K = K o := by cases o <;> simp [HO.fK, V.fK_eq]
def heapK : Heap → (Heap → Prop) → Prop
  | [], K => K []
  | o :: H, K => o.fK fun o' => heapK H fun H' => K (o' :: H')
theorem heapK_eq : ∀ (H : Heap) (K : Heap → Prop), heapK H K = K H
  | [], K => rfl
  | o :: H, K => by rw [heapK, HO.fK_eq, heapK_eq H]
def killEnvK (m : Nat) : Env → (Env → Prop) → Prop
  | [], K => K []
  | (i, v) :: σ, K => match V.has m v with
    | false => killEnvK m σ fun σ' => K ((i, v) :: σ')
    | true => (v.kill m).fK fun u => killEnvK m σ fun σ' => K ((i, u) :: σ')
mutual
theorem V.kill_not {m : Nat} : ∀ (v : V), m ∉ v.names → v.kill m = v
  | .p d, _ => rfl
  | .ptr a b, h => by simp only [V.names, List.mem_singleton] at h; simp only [V.kill]; rw [if_neg (fun e => h e.symm)]
  | .eptr a b c, h => by simp only [V.names, List.mem_singleton] at h; simp only [V.kill]; rw [if_neg (fun e => h e.symm)]
  | .sl a b c, h => by simp only [V.names, List.mem_singleton] at h; simp only [V.kill]; rw [if_neg (fun e => h e.symm)]
  | .mapr a, h => by simp only [V.names, List.mem_singleton] at h; simp only [V.kill]; rw [if_neg (fun e => h e.symm)]
  | .func f l, h => by simp only [V.names] at h; simp only [V.kill, V.killL_not l h]
  | .agg l, h => by simp only [V.names] at h; simp only [V.kill, V.killL_not l h]
  | .tup l, h => by simp only [V.names] at h; simp only [V.kill, V.killL_not l h]
  | .iface t v, h => by simp only [V.names] at h; simp only [V.kill, V.kill_not v h]
  | .junk, _ => rfl
theorem V.killL_not {m : Nat} : ∀ (l : List V), m ∉ V.namesL l → V.killL m l = l
  | [], _ => rfl
  | x :: l, h => by
    simp only [V.namesL, List.mem_append, not_or] at h
    simp only [V.killL, V.kill_not x h.1, V.killL_not l h.2]
end
theorem V.has_false {m : Nat} {v : V} (h : V.has m v = false) : m ∉ v.names := by
  intro hm
  rw [has_names.2 hm] at h; cases h
theorem killEnvK_eq (m : Nat) : ∀ (σ : Env) (K : Env → Prop), killEnvK m σ K = K (σ.map fun p => (p.1, p.2.kill m))
  | [], K => rfl
  | (i, v) :: σ, K => by
    simp only [killEnvK, List.map_cons]
    split
    · rename_i h
      rw [killEnvK_eq m σ, V.kill_not v (V.has_false h)]
    · rw [V.fK_eq, killEnvK_eq m σ]
def killEnvsK : List Nat → Env → (Env → Prop) → Prop
  | [], σ, K => K σ
  | m :: l, σ, K => killEnvK m σ fun σ' => killEnvsK l σ' K
def frzK (m : Nat) (es : List PV) (v : V) (K : V → Prop) : Prop :=
  match V.has m v with
  | true => FrzV m es v K
  | false => match v with
    | .p d => K (.p d)
    | .ptr a b => K (.ptr a b)
    | .eptr a b c => K (.eptr a b c)
    | .sl a b c => K (.sl a b c)
    | .mapr a => K (.mapr a)
    | .junk => K .junk
    | v => (v.frz m es).fK K
theorem frzK_eq (m : Nat) (es : List PV) (v : V) (K : V → Prop) (h : frzK m es v K) : K (v.frz m es) := by
  unfold frzK at h
  split at h
  · obtain ⟨u, rfl, k⟩ := h; exact k
  · rename_i hn
    have hn := V.has_false hn
    split at h
    · exact h
    · exact h
    · simp only [V.names, List.mem_singleton] at hn; simp only [V.frz]; rw [if_neg (fun e => hn e.symm)]; exact h
    · simp only [V.names, List.mem_singleton] at hn; simp only [V.frz]; rw [if_neg (fun e => hn e.symm)]; exact h
    · exact h
    · exact h
    · rw [V.fK_eq] at h; exact h
def frzEnvK (m : Nat) (es : List PV) : Env → (Env → Prop) → Prop
  | [], K => K []
  | (i, v) :: σ, K => frzK m es v fun u => frzEnvK m es σ fun σ' => K ((i, u) :: σ')
theorem frzEnvK_eq (m : Nat) (es : List PV) : ∀ (σ : Env) (K : Env → Prop), frzEnvK m es σ K → K (σ.map fun p => (p.1, p.2.frz m es))
  | [], K, h => h
  | (i, v) :: σ, K, h => by
    have := frzEnvK_eq m es σ _ (frzK_eq m es v _ h)
    exact this
def frzHeapK (m : Nat) (es : List PV) : Heap → (Heap → Prop) → Prop
  | [], K => K []
  | o :: H, K => match o.names.contains m with
    | false => (o.frz m es).fK fun o' => frzHeapK m es H fun H' => K (o' :: H')
    | true => FrzO m es o fun o' => frzHeapK m es H fun H' => K (o' :: H')
theorem frzHeapK_eq (m : Nat) (es : List PV) : ∀ (H : Heap) (K : Heap → Prop), frzHeapK m es H K → K (H.map (HO.frz m es))
  | [], K, h => h
  | o :: H, K, h => by
    unfold frzHeapK at h
    split at h
    · rw [HO.fK_eq] at h; exact frzHeapK_eq m es H _ h
    · obtain ⟨u, rfl, k⟩ := h; exact frzHeapK_eq m es H _ k
def frzAllK : List Nat → Env → Heap → (Env → Heap → Prop) → Prop
  | [], σ, H, K => K σ H
  | m :: l, σ, H, K => match Heap.at H m with
    | .arr _ _ es => frzEnvK m es σ fun σ' => frzHeapK m es H fun H' => heapK (Heap.put H' m .dead) fun H'' => frzAllK l σ' H'' K
    | _ => frzAllK l σ H K
theorem frz_junk' (n : Nat) (es : List PV) : V.frz n es .junk = .junk := by simp [V.frz]
theorem kill_junk' (n : Nat) : V.kill n .junk = .junk := by simp [V.kill]
theorem frzAllK_eq {n k : Nat} {mv : List Nat} : ∀ (l : List Nat) (σ : Env) (H : Heap) (K : Env → Heap → Prop), Bdd n σ → frzAllK l σ H K →
    ∃ σ' H', Fr.freezeAll ⟨toEnv n σ, H, k, mv⟩ l = ⟨toEnv n σ', H', k, mv⟩ ∧ Bdd n σ' ∧ K σ' H'
  | [], σ, H, K, hb, h => ⟨σ, H, rfl, hb, h⟩
  | m :: l, σ, H, K, hb, h => by
    unfold frzAllK at h
    simp only [Fr.freezeAll, Fr.freeze]
    split at h
    · rename_i t s es hm
      simp only [hm]
      have h1 := frzHeapK_eq _ _ _ _ (frzEnvK_eq _ _ _ _ h)
      rw [heapK_eq] at h1
      obtain ⟨σ', H', h2, h3, h4⟩ := frzAllK_eq (k := k) (mv := mv) l _ _ K (hb.map _ (frz_junk' m es)) h1
      refine ⟨σ', H', ?_, h3, h4⟩
      rw [toEnv_map _ (frz_junk' m es)]
      exact h2
    · rename_i hne
      obtain ⟨σ', H', h2, h3, h4⟩ := frzAllK_eq (k := k) (mv := mv) l _ _ K hb h
      refine ⟨σ', H', ?_, h3, h4⟩
      rw [← h2]
      congr 1
      cases hq : Heap.at H m with
      | arr t s es => exact absurd hq (hne t s es)
      | _ => rfl
def lenH (H : Heap) : Nat := match H with
  | [] => 0
  | [_] => 1
  | [_, _] => 2
  | [_, _, _] => 3
  | [_, _, _, _] => 4
  | [_, _, _, _, _] => 5
  | [_, _, _, _, _, _] => 6
  | [_, _, _, _, _, _, _] => 7
  | [_, _, _, _, _, _, _, _] => 8
  | [_, _, _, _, _, _, _, _, _] => 9
  | [_, _, _, _, _, _, _, _, _, _] => 10
  | [_, _, _, _, _, _, _, _, _, _, _] => 11
  | [_, _, _, _, _, _, _, _, _, _, _, _] => 12
  | [_, _, _, _, _, _, _, _, _, _, _, _, _] => 13
  | [_, _, _, _, _, _, _, _, _, _, _, _, _, _] => 14
  | [_, _, _, _, _, _, _, _, _, _, _, _, _, _, _] => 15
  | [_, _, _, _, _, _, _, _, _, _, _, _, _, _, _, _] => 16
  | H => H.length
theorem lenH_eq (H : Heap) : lenH H = H.length := by
  unfold lenH
  split <;> rfl
def freshS (b : Nat) : Env → Bool
  | [] => true
  | (_, v) :: σ => match V.has b v with
    | true => false
    | false => freshS b σ
def freshH (b : Nat) : Heap → Bool
  | [] => true
  | o :: H => match o.names.contains b with
    | true => false
    | false => freshH b H
theorem freshS_spec {b : Nat} : ∀ {σ : Env}, freshS b σ = true → ∀ t, V.has b (look σ t) = false
  | [], _, t => by simp [look, V.has, V.names]
  | (i, v) :: σ, h, t => by
    unfold freshS at h
    split at h
    · cases h
    · rename_i hv
      rw [look_cons]
      split
      · exact hv
      · exact freshS_spec h t
theorem freshH_spec {b : Nat} : ∀ {H : Heap}, freshH b H = true → (H.any fun o => o.names.contains b) = false
  | [], _ => rfl
  | o :: H, h => by
    unfold freshH at h
    split at h
    · cases h
    · rename_i ho
      rw [List.any_cons, ho, freshH_spec h]; rfl
theorem fresh_of {b n k : Nat} {σ : Env} {H : Heap} {mv : List Nat} (h1 : freshS b σ = true) (h2 : freshH b H = true) : Fr.fresh ⟨toEnv n σ, H, k, mv⟩ b = true := by
  unfold Fr.fresh
  simp only [freshH_spec h2, Bool.not_false, Bool.and_true, Bool.not_eq_true', List.any_eq_false]
  intro v hv
  simp only [toEnv, List.mem_map] at hv
  obtain ⟨t, _, rfl⟩ := hv
  rw [freshS_spec h1 t]
  simp
def effK (k : Nat) (σ : Env) (H : Heap) (mv : List Nat) (e : Eff) (K : Env → Heap → List Nat → Prop) : Prop :=
  match e with
  | .none => K σ H mv
  | .new o => match freshS (lenH H) σ, freshH (lenH H) H, Nat.ble k (lenH H) with
    | true, true, true => o.fK fun o' => heapK (H.put (lenH H) o') fun H' => K σ H' mv
    | _, _, _ => False
  | .upd m o => o.fK fun o' => heapK (H.put m o') fun H' => K σ H' mv
  | .repoint m o => killEnvK m σ fun σ' => heapK ((H.kill m).put m o) fun H' => spineK (addMv k mv m) fun mv' => K σ' H' mv'
theorem effK_eq {n k : Nat} {σ : Env} {H : Heap} {mv : List Nat} {e : Eff} {K : Env → Heap → List Nat → Prop} (hb : Bdd n σ) (h : effK k σ H mv e K) :
    ∃ σ' H' mv', Fr.eff ⟨toEnv n σ, H, k, mv⟩ H.length e = some ⟨toEnv n σ', H', k, mv'⟩ ∧ Bdd n σ' ∧ K σ' H' mv' := by
  cases e with
  | none => exact ⟨σ, H, mv, rfl, hb, h⟩
  | new o =>
    simp only [effK] at h
    split at h
    · rename_i h1 h2 h3
      rw [HO.fK_eq, heapK_eq] at h
      rw [lenH_eq] at h h1 h2 h3
      refine ⟨σ, _, mv, ?_, hb, h⟩
      simp only [Fr.eff]
      rw [if_pos ⟨fresh_of h1 h2, Nat.le_of_ble_eq_true h3⟩]
    · exact h.elim
  | upd m o =>
    simp only [effK] at h
    rw [HO.fK_eq, heapK_eq] at h
    exact ⟨σ, _, mv, rfl, hb, h⟩
  | repoint m o =>
    simp only [effK] at h
    rw [killEnvK_eq, heapK_eq, spineK_eq] at h
    refine ⟨_, _, _, ?_, hb.map _ (kill_junk' m), h⟩
    simp only [Fr.eff]
    rw [toEnv_map _ (kill_junk' m)]
def putK (n : Nat) (σ : Env) (dst : Option Tmp) (v : V) (K : Env → Prop) : Prop :=
  match dst with
  | none => K σ
  | some d => match Nat.ble n d with
    | false => v.fK fun u => K ((d, u) :: σ)
    | true => False
theorem putK_eq {n : Nat} {σ : Env} {dst : Option Tmp} {v : V} {K : Env → Prop} (hb : Bdd n σ) (h : putK n σ dst v K) : ∃ σ', putO (toEnv n σ) dst v = toEnv n σ' ∧ Bdd n σ' ∧ K σ' := by
  cases dst with
  | none => exact ⟨σ, rfl, hb, h⟩
  | some d =>
    simp only [putK] at h
    split at h
    · rename_i hd
      have hd : d < n := by
        rcases Nat.lt_or_ge d n with h1 | h1
        · exact h1
        · rw [Nat.ble_eq_true_of_le h1] at hd; cases hd
      rw [V.fK_eq] at h
      exact ⟨_, toEnv_set v, hb.cons hd v, h⟩
    · exact h.elim
end Go.Am
end
