/-
The abstract machine: frames, calls, code.
-/
import Derived.Test.YthkoefpidnphpaaGreatDoorPB
import Derived.Orders

section
namespace Go.Am
open Go
mutual
def V.ren (f : Nat → Nat) : V → V
  | .p d => .p d
  | .ptr m o => .ptr (f m) o
  | .eptr m i o => .eptr (f m) i o
  | .sl m o l => .sl (f m) o l
  | .mapr m => .mapr (f m)
  | .func g l => .func g (V.renL f l)
  | .agg l => .agg (V.renL f l)
  | .tup l => .tup (V.renL f l)
  | .iface t v => .iface t (v.ren f)
  | .junk => .junk
def V.renL (f : Nat → Nat) : List V → List V
  | [] => []
  | x :: l => x.ren f :: V.renL f l
end
def HO.ren (f : Nat → Nat) : HO → HO
  | .var t v => .var t (v.ren f)
  | .mp ks vs => .mp ks (vs.map (V.ren f))
  | o => o
mutual
def V.frz (n : Nat) (es : List PV) : V → V
  | .p d => .p d
  | .ptr m o => .ptr m o
  | .eptr m i o => if m = n then .junk else .eptr m i o
  | .sl m o l => if m = n then (if o + l ≤ es.length then .p (.lst false ((es.drop o).take l)) else .junk) else .sl m o l
  | .mapr m => .mapr m
  | .func g l => .func g (V.frzL n es l)
  | .agg l => V.mk (V.frzL n es l)
  | .tup l => .tup (V.frzL n es l)
  | .iface t v => .iface t (v.frz n es)
  | .junk => .junk
def V.frzL (n : Nat) (es : List PV) : List V → List V
  | [] => []
  | x :: l => x.frz n es :: V.frzL n es l
end
def HO.frz (n : Nat) (es : List PV) : HO → HO
  | .var t v => .var t (v.frz n es)
  | .mp ks vs => .mp ks (vs.map (V.frz n es))
  | o => o
structure Fr where
  env : List V
  H : Heap
  k : Nat
  mv : List Nat
structure Pol where
  keepR : FuncId → Bool
  byref : FuncId → Bool
  mask : FuncId → Nat → Option (List Nat)
  /-- at which regions (ahead of which) the walk stops, and asks for a lemma -/
  cut : Option Nat → Bool := fun _ => false
inductive Out where
  | ret (v : V)
  | pan (v : V)
structure CR where
  out : Out
  H : Heap
  mv : List Nat
inductive Ex where
  | normal
  | exit (id : Nat)
  | ret
  | pan (v : V)
def evalO (G : Nat → Option PV) (env : List V) : Operand → V
  | .tmp t => (env[t]?).getD .junk
  | .const v => match ofConst v with
    | some d => .p d
    | none => .junk
  | .global g => match G g with
    | some d => .p (.cptr d)
    | none => .junk
  | .func f => .p (.fn (.func f))
def putO (env : List V) (dst : Option Tmp) (v : V) : List V :=
  match dst with
  | some d => env.set d v
  | none => env
def V.has (n : Nat) (v : V) : Bool := v.names.contains n
def Fr.fresh (fr : Fr) (n : Nat) : Bool := !(fr.env.any (V.has n)) && !(fr.H.any fun o => o.names.contains n)
def addMv (k : Nat) (mv : List Nat) (n : Nat) : List Nat := if n < k then (if n ∈ mv then mv else n :: mv) else mv
def Fr.eff (fr : Fr) (base : Nat) : Eff → Option Fr
  | .none => some fr
  | .new o => if fr.fresh base = true ∧ fr.k ≤ base then some { fr with H := fr.H.put base o } else none
  | .upd n o => some { fr with H := fr.H.put n o }
  | .repoint n o => some { env := fr.env.map (V.kill n), H := (fr.H.kill n).put n o, k := fr.k, mv := addMv fr.k fr.mv n }
def Fr.freeze (fr : Fr) (n : Nat) : Fr :=
  match Heap.at fr.H n with
  | .arr _ _ es => { fr with env := fr.env.map (V.frz n es), H := Heap.put (fr.H.map (HO.frz n es)) n .dead }
  | _ => fr
def Fr.freezeAll (fr : Fr) : List Nat → Fr
  | [] => fr
  | n :: l => (fr.freeze n).freezeAll l
def preNames (ev : Operand → V) : Op → List Nat
  | .buildSlice _ _ parts => V.namesL (parts.toList.map fun p => ev p.2)
  | .store _ a x => match ev a with
    | .eptr _ _ _ => (ev x).names
    | _ => []
  | _ => []
def reachL (H : Nat → HO) : Nat → List Nat → List Nat → List Nat
  | 0, _, acc => acc
  | _ + 1, [], acc => acc
  | k + 1, n :: todo, acc => if n ∈ acc then reachL H k todo acc else reachL H k (todo ++ (H n).names) (acc ++ [n])
def closedN (H : Nat → HO) (ns : List Nat) : Bool := ns.all fun n => (H n).names.all fun m => ns.contains m
def Heap.putAll : Heap → List (Nat × HO) → Heap
  | H, [] => H
  | H, (n, o) :: l => (H.put n o).putAll l
def killAll : List Nat → List V → List V
  | [], env => env
  | n :: l, env => killAll l (env.map (V.kill n))
def Heap.killAll : List Nat → Heap → Heap
  | [], H => H
  | n :: l, H => Heap.killAll l (H.kill n)
def backN (ns : List Nat) (base : Nat) (i : Nat) : Nat := if i < ns.length then (ns[i]?).getD 0 else base + (i - ns.length)
abbrev CallF := FuncId → List V → Heap → Option CR
def outNames : Out → List Nat
  | .ret v => v.names
  | .pan v => v.names
def Out.ren (f : Nat → Nat) : Out → Out
  | .ret v => .ret (v.ren f)
  | .pan v => .pan (v.ren f)
def callS (C : CallF) (fr : Fr) (f : FuncId) (args : List V) : Option (Out × Fr) :=
  let ns := reachL (Heap.at fr.H) 200 (V.namesL args) []
  if (V.namesL args).all (ns.contains ·) = true ∧ closedN (Heap.at fr.H) ns = true ∧ ns.Nodup then
    match C f (args.map (V.ren (ns.idxOf ·))) (ns.map fun n => (Heap.at fr.H n).ren (ns.idxOf ·)) with
    | some cr =>
      let base := fr.H.length
      if ns.length ≤ cr.H.length ∧ (List.range (cr.H.length - ns.length)).all (fun j => fr.fresh (base + j) && !(ns.contains (base + j))) = true ∧ cr.mv.all (· < ns.length) = true ∧ fr.k ≤ base ∧
          (outNames cr.out).all (· < cr.H.length) = true ∧ cr.H.all (fun o => o.names.all (· < cr.H.length)) = true then
        let moved := cr.mv.map (backN ns base)
        let H1 := (Heap.killAll moved fr.H).putAll ((List.range cr.H.length).map fun i => (backN ns base i, (Heap.at cr.H i).ren (backN ns base)))
        let fr' : Fr := { env := killAll moved fr.env, H := H1, k := fr.k, mv := moved.foldl (addMv fr.k) fr.mv }
        some (cr.out.ren (backN ns base), fr')
      else none
    | none => none
  else none
def isArr : HO → Bool
  | .arr _ _ _ => true
  | _ => false
def targetV : V → Option (FuncId × List V)
  | .p (.fn (.func f)) => some (f, [])
  | .func (.func f) cap => some (f, cap)
  | _ => none
def callOp (G : Nat → Option PV) (pol : Pol) (C : CallF) (fr : Fr) (g : Operand) (args : List Operand) (dst : Option Tmp) : Option (Ex × Fr) :=
  match targetV (evalO G fr.env g) with
  | none => none
  | some (f, cap) =>
    let fr1 := if pol.byref f = true then fr else fr.freezeAll ((V.namesL (args.map (evalO G fr.env) ++ cap)).filter fun n => isArr (Heap.at fr.H n))
    match targetV (evalO G fr1.env g) with
    | none => none
    | some (f', cap') =>
      match callS C fr1 f' (args.map (evalO G fr1.env) ++ cap') with
      | some (.ret v, fr') => some (.normal, { fr' with env := putO fr'.env dst v })
      | some (.pan v, fr') => some (.pan v, fr')
      | none => none
def bytesX : List PV → Option (List UInt8)
  | [] => some []
  | .int .u8 n :: l => if 0 ≤ n ∧ n < 256 then (match bytesX l with | some s => some (UInt8.ofNat n.toNat :: s) | none => none) else none
  | _ :: _ => none
def sealOp (P : Program) (G : Nat → Option PV) (fr : Fr) (args : List Operand) (ts : List TypeId) (dst : Option Tmp) : Option (Ex × Fr) :=
  match args.map (evalO G fr.env), ts with
  | [.eptr n 0 0, .p (.int .i64 k)], [pt, _] => match Heap.at fr.H n, P.underlying pt with
    | .arr ty 1 es, some (.pointer e) => match bytesX es with
      | some s => if e = ty ∧ P.cellsOf e = 1 ∧ k = (s.length : Int) ∧ s ≠ [] ∧ s.length ≤ maxInt then some (.normal, { fr.freeze n with env := putO (fr.freeze n).env dst (.p (.str s)) }) else none
      | none => none
    | _, _ => none
  | [.p .anyp, .p (.int .i64 0)], [_, _] => some (.normal, { fr with env := putO fr.env dst (.p (.str [])) })
  | _, _ => none
def stepOp (P : Program) (G : Nat → Option PV) (pol : Pol) (C : CallF) (o : Oper) (fr : Fr) : Option (Ex × Fr) :=
  match o.op with
  | .call ⟨.value g, args, _⟩ => callOp G pol C fr g args.toList o.dst
  | .call ⟨.builtin .unsafeString, args, ts⟩ => sealOp P G fr args.toList ts.toList o.dst
  | .panic x => match evalO G fr.env x with
    | .p (.iface t d) => some (.pan (.p (.iface t d)), fr)
    | .iface t v => some (.pan (.iface t v), fr)
    | _ => none
  | op =>
    let fr := fr.freezeAll (preNames (evalO G fr.env) op)
    match aopA P (Heap.at fr.H) fr.H.length (evalO G fr.env) op with
    | some r => match fr.eff fr.H.length r.eff with
      | some fr' => some (.normal, { fr' with env := putO fr'.env o.dst r.val })
      | none => none
    | none => none
def runOps (P : Program) (G : Nat → Option PV) (pol : Pol) (C : CallF) (ops : Array Oper) : List Nat → Fr → Option (Ex × Fr)
  | [], fr => some (.normal, fr)
  | i :: rest, fr =>
    match ops[i]? with
    | none => none
    | some o =>
      match o.guard with
      | none => match stepOp P G pol C o fr with
        | some (.normal, fr') => runOps P G pol C ops rest fr'
        | x => x
      | some (j, want) =>
        match (ops[j]?).bind (·.dst) with
        | none => none
        | some d =>
          match fr.env[d]? with
          | some (.p (.bool b)) =>
            if b = want then
              match stepOp P G pol C o { fr with env := fr.env.set d (.p (.bool want)) } with
              | some (.normal, fr') => runOps P G pol C ops rest fr'
              | x => x
            else runOps P G pol C ops rest { fr with env := putO (fr.env.set d (.p (.bool (!want)))) o.dst (.p (.tup [])) }
          | some (.p (.tup [])) => runOps P G pol C ops rest { fr with env := putO fr.env o.dst (.p (.tup [])) }
          | _ => none
abbrev LoopF := Code → Fr → Option (Ex × Fr)
def exec0 (P : Program) (G : Nat → Option PV) (pol : Pol) (C : CallF) (Lp : LoopF) (Dr : Array Oper → Fr → Option (Ex × Fr)) : Code → Fr → Option (Ex × Fr)
  | .skip, fr => some (.normal, fr)
  | .label _, fr => some (.normal, fr)
  | .region _ ops false, fr => runOps P G pol C ops (List.range ops.size) fr
  | .region _ ops true, fr => Dr ops fr
  | .seq a b, fr => match exec0 P G pol C Lp Dr a fr with
    | some (.normal, fr') => exec0 P G pol C Lp Dr b fr'
    | x => x
  | .cond c a b, fr => match evalO G fr.env c with
    | .p (.bool t) => if t = true then exec0 P G pol C Lp Dr a fr else exec0 P G pol C Lp Dr b fr
    | _ => none
  | .block id b, fr => match exec0 P G pol C Lp Dr b fr with
    | some (.exit j, fr') => if j = id then some (.normal, fr') else some (.exit j, fr')
    | x => x
  | .loop b, fr => Lp b fr
  | .exit id, fr => some (.exit id, fr)
  | .ret, fr => some (.ret, fr)
  | _, _ => none
def resultsA (P : Program) (fr : Fr) : List ResultVar → Option (List V)
  | [] => some []
  | .tmp t :: l => match fr.env[t]?, resultsA P fr l with
    | some v, some vs => some (v :: vs)
    | _, _ => none
  | .cell a t :: l => match fr.env[a]?, resultsA P fr l with
    | some av, some vs => match loadA P (Heap.at fr.H) t av with
      | some v => some (v :: vs)
      | none => none
    | _, _ => none
def tupV : List V → V
  | [v] => v
  | vs => .tup vs
def finish (pol : Pol) (f : FuncId) (fr : Fr) (v : V) : Option (V × Heap) :=
  let names := v.names
  let fr1 : Fr := { fr with env := [v] }
  let fr2 := if pol.keepR f = true then fr1 else fr1.freezeAll (names.filter fun n => decide (fr.k ≤ n) && isArr (Heap.at fr.H n))
  match fr2.env with
  | [u] =>
    let ns := reachL (Heap.at fr2.H) 200 (List.range fr.k ++ u.names) []
    if ns.take fr.k = List.range fr.k ∧ u.names.all (ns.contains ·) = true ∧ closedN (Heap.at fr2.H) ns = true ∧ ns.Nodup then
      some (u.ren (ns.idxOf ·), ns.map fun n => (Heap.at fr2.H n).ren (ns.idxOf ·))
    else none
  | _ => none
def callBody (P : Program) (G : Nat → Option PV) (pol : Pol) (C : CallF) (Lp : LoopF) (Dr : Array Oper → Fr → Option (Ex × Fr)) (f : FuncId) (args : List V) (H : Heap) : Option CR :=
  match P.funcs[f]? with
  | some fn => match fn.body with
    | some c =>
      match exec0 P G pol C Lp Dr c { env := args ++ List.replicate (fn.ntmps - args.length) .junk, H := H, k := H.length, mv := [] } with
      | some (.normal, fr) | some (.ret, fr) => match resultsA P fr fn.results.toList with
        | some vs => match finish pol f fr (tupV vs) with
          | some (v, H') => some ⟨.ret v, H', fr.mv⟩
          | none => none
        | none => none
      | some (.pan v, fr) => match finish pol f fr v with
        | some (v, H') => some ⟨.pan v, H', fr.mv⟩
        | none => none
      | _ => none
    | none => none
  | none => none
end Go.Am
end

section
namespace Go.Am
open Go
theorem V.renL_eq (f : Nat → Nat) : ∀ l : List V, V.renL f l = l.map (V.ren f)
  | [] => rfl
  | x :: l => by simp [V.renL, V.renL_eq f l]
theorem V.frzL_eq (n : Nat) (es : List PV) : ∀ l : List V, V.frzL n es l = l.map (V.frz n es)
  | [] => rfl
  | x :: l => by simp [V.frzL, V.frzL_eq n es l]
def LocEq (L : Loc) (n : Nat) (L' : Loc) (m : Nat) : Prop := L'.blk m = L.blk n ∧ L'.sz m = L.sz n ∧ L'.cap m = L.cap n
section
variable {P : Program} {B : Nat → Prop} {L : Loc} {w : World}
theorem VRel.ren {L' : Loc} {f : Nat → Nat} {v : V} {a : Value} (h : VRel B L w v a) (he : ∀ n ∈ v.names, LocEq L n L' (f n)) : VRel B L' w (v.ren f) a := by
  induction h with
  | p d v h => exact .p d v h
  | ptr n off => have := he n (by simp [V.names]); rw [← this.1]; exact .ptr (f n) off
  | eptr n i off => have := he n (by simp [V.names]); rw [← this.1, ← this.2.1]; exact .eptr (f n) i off
  | sl n off len cap h hl => have := he n (by simp [V.names]); rw [← this.1, ← this.2.1]; exact .sl (f n) off len cap (by rw [this.2.2]; exact h) hl
  | sl0 n off a h => have := he n (by simp [V.names]); exact .sl0 (f n) off a (by rw [this.2.2]; exact h)
  | mapr n => have := he n (by simp [V.names]); rw [← this.1]; exact .mapr (f n)
  | func g l c hl _ ih =>
    simp only [V.ren, V.renL_eq]
    refine .func g _ c (by simpa using hl) (fun i x y hx hy => ?_)
    simp only [List.getElem?_map, Option.map_eq_some_iff] at hx
    obtain ⟨z, hz, rfl⟩ := hx
    exact ih i z y hz hy fun n hn => he n (by simp only [V.names]; exact V.names_mem hz hn)
  | agg l c hl _ ih =>
    simp only [V.ren, V.renL_eq]
    refine .agg _ c (by simpa using hl) (fun i x y hx hy => ?_)
    simp only [List.getElem?_map, Option.map_eq_some_iff] at hx
    obtain ⟨z, hz, rfl⟩ := hx
    exact ih i z y hz hy fun n hn => he n (by simp only [V.names]; exact V.names_mem hz hn)
  | tup l c hl _ ih =>
    simp only [V.ren, V.renL_eq]
    refine .tup _ c (by simpa using hl) (fun i x y hx hy => ?_)
    simp only [List.getElem?_map, Option.map_eq_some_iff] at hx
    obtain ⟨z, hz, rfl⟩ := hx
    exact ih i z y hz hy fun n hn => he n (by simp only [V.names]; exact V.names_mem hz hn)
  | iface t d v _ ih => exact .iface t _ v (ih fun n hn => he n (by simpa [V.names] using hn))
  | junk v => exact .junk v
theorem V.cells_ren (f : Nat → Nat) (v : V) : (v.ren f).cells = v.cells.map (V.ren f) := by
  cases v with
  | p d => cases d <;> simp [V.ren, V.cells, Function.comp_def]
  | agg l => simp [V.ren, V.cells, V.renL_eq]
  | _ => simp [V.ren, V.cells]
theorem HRel.ren {L' : Loc} {f : Nat → Nat} {n m : Nat} {o : HO} (h : HRel B L w n o) (hn : o.live → LocEq L n L' m) (he : ∀ k ∈ o.names, LocEq L k L' (f k)) : HRel B L' w m (o.ren f) := by
  cases h with
  | var v c t fr hw hfr hl h =>
    refine .var _ c t fr (by rw [(hn trivial).1]; exact hw) hfr (by rw [V.cells_ren]; simpa using hl) (fun i x y hx hy => ?_)
    rw [V.cells_ren] at hx
    simp only [List.getElem?_map, Option.map_eq_some_iff] at hx
    obtain ⟨z, hz, rfl⟩ := hx
    exact (h i z y hz hy).ren fun k hk => he k (V.names_cells hz hk)
  | arr sz es c t fr hw hfr hz hsz hcap hle hss hf h =>
    exact .arr sz es c t fr (by rw [(hn trivial).1]; exact hw) hfr hz (by rw [(hn trivial).2.1]; exact hsz) (by rw [(hn trivial).2.2]; exact hcap) (by rw [(hn trivial).2.2]; exact hle) hss hf h
  | mp ks vs ms clock hw hl hlv hk hv hb =>
    exact .mp ks _ ms clock (by rw [(hn trivial).1]; exact hw) hl (by rw [MV.map_length]; exact hlv) hk (fun i x y hx hy => by
      rw [MV.toL_map (fun _ => rfl)] at hx
      simp only [List.getElem?_map, Option.map_eq_some_iff] at hx
      obtain ⟨z, hz, rfl⟩ := hx
      exact (hv i z y hz hy).ren fun m hm => he m (by simp only [HO.names]; exact MV.mem_names hz hm)) hb
  | dead => exact .dead
theorem HO.ren_live (f : Nat → Nat) (o : HO) : (o.ren f).live ↔ o.live := by cases o <;> simp [HO.ren, HO.live]
def Loc.sub (L : Loc) (ns : List Nat) : Loc :=
  { blk := fun i => L.blk ((ns[i]?).getD 0), sz := fun i => L.sz ((ns[i]?).getD 0), cap := fun i => L.cap ((ns[i]?).getD 0) }
theorem Loc.sub_eq (L : Loc) {ns : List Nat} {n : Nat} (hn : n ∈ ns) : LocEq L n (L.sub ns) (ns.idxOf n) := by
  have h := List.idxOf_lt_length_of_mem hn
  have e : ns[ns.idxOf n]? = some n := by rw [List.getElem?_eq_getElem h, List.getElem_idxOf]
  simp [LocEq, Loc.sub, e]
def Heap.sub (H : Heap) (ns : List Nat) : Heap := ns.map fun n => (Heap.at H n).ren (ns.idxOf ·)
theorem Heap.at_sub (H : Heap) (ns : List Nat) (i : Nat) : Heap.at (Heap.sub H ns) i = match ns[i]? with | some n => (Heap.at H n).ren (ns.idxOf ·) | none => .dead := by
  simp only [Heap.at, Heap.sub, List.getElem?_map]
  cases ns[i]? <;> simp
theorem closedN_spec {H : Nat → HO} {ns : List Nat} (h : closedN H ns = true) : ∀ n ∈ ns, ∀ m ∈ (H n).names, m ∈ ns := by
  intro n hn m hm
  simp only [closedN, List.all_eq_true] at h
  simpa using h n hn m hm
theorem St.sub {H : Heap} {ns : List Nat} (h : St B L w H) (hd : ns.Nodup) (hc : ∀ n ∈ ns, ∀ m ∈ (Heap.at H n).names, m ∈ ns) : St B (L.sub ns) w (Heap.sub H ns) := by
  have key : ∀ i, (Heap.at (Heap.sub H ns) i).live → ∃ n, ns[i]? = some n ∧ (Heap.at H n).live ∧ (L.sub ns).blk i = L.blk n := by
    intro i hi
    rw [Heap.at_sub] at hi
    cases hn : ns[i]? with
    | none => rw [hn] at hi; exact hi.elim
    | some n => rw [hn] at hi; exact ⟨n, rfl, (HO.ren_live _ _).1 hi, by simp [Loc.sub, hn]⟩
  constructor
  · intro i
    rw [Heap.at_sub]
    cases hn : ns[i]? with
    | none => exact .dead
    | some n =>
      refine (h.rel n).ren (fun _ => ?_) (fun k hk => L.sub_eq (hc n (List.mem_of_getElem? hn) k hk))
      simp [LocEq, Loc.sub, hn]
  · intro i hi
    obtain ⟨n, _, hl, e⟩ := key i hi
    rw [e]; exact h.own n hl
  · intro i j hi hj hb
    obtain ⟨n, hn, hl, e⟩ := key i hi
    obtain ⟨m, hm, hl', e'⟩ := key j hj
    rw [e, e'] at hb
    have := h.inj n m hl hl' hb
    subst this
    have hi' := (List.getElem?_eq_some_iff.1 hn)
    have hj' := (List.getElem?_eq_some_iff.1 hm)
    exact (List.getElem_inj hd).1 (hi'.2.trans hj'.2.symm)
  · exact h.bnd
def less (B : Nat → Prop) (b : Nat) : Nat → Prop := fun x => B x ∧ x ≠ b
theorem step_less (B : Nat → Prop) (w : World) (b : Nat) : Step B w (less B b) w := ⟨Nat.le_refl _, fun _ _ _ => rfl, fun _ _ h => h.1⟩
theorem arr_part {n sz off len : Nat} {es : List PV} {ty : TypeId} (h : HRel B L w n (.arr ty sz es)) (hb : L.blk n < w.heap.size) (hle : off + len ≤ es.length) {cap : Nat} (hcap : len ≤ cap) :
    PRel (less B (L.blk n)) w (.lst false ((es.drop off).take len)) (.slice (some ⟨L.blk n, off * L.sz n, none⟩) len cap) := by
  by_cases hl0 : len = 0
  · subst hl0; rw [List.take_zero]; exact .lst0 false _ _ (by simp) (by simp)
  · have hrel := h
    cases h with
    | arr sz es c t fr hw hfr hz hsz hcap' hle' hs hf h =>
      have hlen : ((es.drop off).take len).length = len := by simp; omega
      have hsd : ∀ x ∈ es.drop off, x.cells.length = sz := fun x hx => hs x (List.mem_of_mem_drop hx)
      have hfl : flat ((es.drop off).take len) = ((flat es).drop (off * sz)).take (len * sz) := by
        rw [flat_take hsd len (by simp; omega), flat_drop hs off (by omega)]
      have hfll := flat_length hs
      have hin : off * sz + len * sz ≤ (flat es).length := by rw [hfll, ← Nat.add_mul]; exact Nat.mul_le_mul_right _ hle
      have hcs : (flat es).length ≤ c.size := by rw [hcap', hfll]; exact Nat.mul_le_mul_right _ hle'
      have := PRel.lst (B := less B (L.blk n)) (w := w) false ((es.drop off).take len) (L.blk n) (off * L.sz n) cap sz (fun k => c.getD (off * sz + k) undef) (fun hh => hh.2 rfl) hb hz
        (fun x hx => hsd x (List.mem_of_mem_take hx)) (fun x hx => by rw [hfl] at hx; exact hf x (List.mem_of_mem_drop (List.mem_of_mem_take hx))) (by omega) (by simp)
        (fun k hk => by
          rw [hfl, List.length_take, List.length_drop] at hk
          simp only [World.cell?, hw, hsz]
          have : off * sz + k < c.size := by omega
          simp [this])
        (fun k x hx => by
          rw [hfl, List.getElem?_take] at hx
          split at hx
          · rename_i hk
            rw [List.getElem?_drop] at hx
            have hlt : off * sz + k < c.size := by omega
            have := h (off * sz + k) x c[off * sz + k] hx (by simp [hlt])
            simp only [Array.getD, hlt, dite_true]
            exact this.step (step_less B w _)
          · cases hx)
      rw [hlen] at this
      exact this
theorem VRel.frz {n sz : Nat} {es : List PV} {ty : TypeId} (hn : HRel B L w n (.arr ty sz es)) (hb : L.blk n < w.heap.size) {v : V} {a : Value} (h : VRel B L w v a) : VRel (less B (L.blk n)) L w (v.frz n es) a := by
  induction h with
  | p d v h => exact .p d v (h.step (step_less B w _))
  | ptr n off => exact .ptr n off
  | eptr m i off => simp only [V.frz]; split; exact .junk _; exact .eptr m i off
  | sl m off len cap h hl =>
    simp only [V.frz]
    split
    · rename_i e; subst e
      split
      · rename_i hle; exact .p _ _ (arr_part hn hb hle hl)
      · exact .junk _
    · exact .sl m off len cap h hl
  | sl0 m off a h =>
    simp only [V.frz]
    split
    · split
      · exact .p _ _ (by rw [List.take_zero]; exact .lst0 false _ _ (by simp) (by simp))
      · exact .junk _
    · exact .sl0 m off a h
  | mapr m => exact .mapr m
  | func f l c hl _ ih =>
    simp only [V.frz, V.frzL_eq]
    exact .func f _ c (by simpa using hl) (fun i x y hx hy => by
      simp only [List.getElem?_map, Option.map_eq_some_iff] at hx
      obtain ⟨z, hz, rfl⟩ := hx; exact ih i z y hz hy)
  | agg l c hl _ ih =>
    simp only [V.frz, V.frzL_eq]
    exact VRel.mk ⟨by simpa using hl, fun i x y hx hy => by
      simp only [List.getElem?_map, Option.map_eq_some_iff] at hx
      obtain ⟨z, hz, rfl⟩ := hx; exact ih i z y hz hy⟩
  | tup l c hl _ ih =>
    simp only [V.frz, V.frzL_eq]
    exact .tup _ c (by simpa using hl) (fun i x y hx hy => by
      simp only [List.getElem?_map, Option.map_eq_some_iff] at hx
      obtain ⟨z, hz, rfl⟩ := hx; exact ih i z y hz hy)
  | iface t d v _ ih => exact .iface t _ v ih
  | junk v => exact .junk v
theorem VRel.frz_cells {n sz : Nat} {es : List PV} {ty : TypeId} (hn : HRel B L w n (.arr ty sz es)) (hb : L.blk n < w.heap.size) {v : V} {c : List Value} (h : VRelL B L w v.cells c) : VRelL (less B (L.blk n)) L w (v.frz n es).cells c := by
  have all : ∀ l : List V, VRelL B L w l c → VRelL (less B (L.blk n)) L w (l.map (V.frz n es)) c := fun l h =>
    ⟨by simpa using h.1, fun i x y hx hy => by
      simp only [List.getElem?_map, Option.map_eq_some_iff] at hx
      obtain ⟨z, hz, rfl⟩ := hx
      exact (h.2 i z y hz hy).frz hn hb⟩
  cases v with
  | p d =>
    have := all _ h
    rw [V.cells_p, List.map_map] at this
    simp only [V.frz, V.cells_p]
    exact this
  | agg l =>
    simp only [V.frz, V.frzL_eq, V.cells_mk]
    exact all l h
  | sl m o len =>
    have := all _ h
    simp only [V.cells, List.map_cons, List.map_nil] at this
    have e : (V.frz n es (.sl m o len)).cells = [V.frz n es (.sl m o len)] := by
      simp only [V.frz]
      split
      · split <;> rfl
      · rfl
    rw [e]; exact this
  | eptr m i o =>
    have := all _ h
    simp only [V.cells, List.map_cons, List.map_nil] at this
    have e : (V.frz n es (.eptr m i o)).cells = [V.frz n es (.eptr m i o)] := by
      simp only [V.frz]
      split <;> rfl
    rw [e]; exact this
  | ptr m o => exact all _ h
  | mapr m => exact all _ h
  | func g l => exact all _ h
  | tup l => exact all _ h
  | iface t v => exact all _ h
  | junk => exact all _ h
theorem HO.frz_live (n : Nat) (es : List PV) (o : HO) : (o.frz n es).live ↔ o.live := by cases o <;> simp [HO.frz, HO.live]
theorem Heap.at_map_frz (n : Nat) (es : List PV) (H : Heap) (m : Nat) : Heap.at (H.map (HO.frz n es)) m = (Heap.at H m).frz n es := by
  simp only [Heap.at, List.getElem?_map]
  cases H[m]? <;> simp [HO.frz]
theorem St.frz {H : Heap} {n sz : Nat} {es : List PV} (h : St B L w H) {ty : TypeId} (hn : Heap.at H n = .arr ty sz es) : St (less B (L.blk n)) L w (Heap.put (H.map (HO.frz n es)) n .dead) := by
  have hrel := h.rel n
  rw [hn] at hrel
  have hlive : (Heap.at H n).live := by rw [hn]; trivial
  have hb := (h.own n hlive).2
  have at_ne : ∀ m, m ≠ n → Heap.at (Heap.put (H.map (HO.frz n es)) n .dead) m = (Heap.at H m).frz n es := fun m hm => by rw [Heap.at_put_ne _ _ hm, Heap.at_map_frz]
  have live_ne : ∀ m, (Heap.at (Heap.put (H.map (HO.frz n es)) n .dead) m).live → m ≠ n ∧ (Heap.at H m).live := by
    intro m hm
    by_cases e : m = n
    · subst e; rw [Heap.at_put_same] at hm; exact hm.elim
    · rw [at_ne m e, HO.frz_live] at hm; exact ⟨e, hm⟩
  constructor
  · intro m
    by_cases e : m = n
    · subst e; rw [Heap.at_put_same]; exact .dead
    · rw [at_ne m e]
      have hm := h.rel m
      generalize Heap.at H m = o at hm
      cases hm with
      | var v c t fr hw hfr hl h' =>
        have hv : VRelL B L w v.cells c.toList := ⟨by simpa using hl, fun i x y hx hy => h' i x y hx (by simpa using hy)⟩
        have := VRel.frz_cells hrel hb hv
        exact .var _ c t fr hw hfr (by have := this.1; simpa using this) (fun i x y hx hy => this.2 i x y hx (by simpa using hy))
      | arr sz es c t fr hw hfr hz hsz hcap hle hss hf h' => exact .arr sz es c t fr hw hfr hz hsz hcap hle hss hf (fun i x y hx hy => (h' i x y hx hy).step (step_less B w _))
      | mp ks vs ms clock hw hl hlv hk hv hb' =>
        exact .mp ks _ ms clock hw hl (by rw [MV.map_length]; exact hlv) (fun i x y hx hy => ⟨(hk i x y hx hy).1.step (step_less B w _), (hk i x y hx hy).2⟩) (fun i x y hx hy => by
          rw [MV.toL_map (fun _ => rfl)] at hx
          simp only [List.getElem?_map, Option.map_eq_some_iff] at hx
          obtain ⟨z, hz, rfl⟩ := hx
          exact (hv i z y hz hy).frz hrel hb) hb'
      | dead => exact .dead
  · intro m hm
    obtain ⟨e, hl⟩ := live_ne m hm
    have := h.own m hl
    exact ⟨⟨this.1, fun e' => e (h.inj m n hl hlive e')⟩, this.2⟩
  · intro m k hm hk hbb
    exact h.inj m k (live_ne m hm).2 (live_ne k hk).2 hbb
  · intro b hb'; exact h.bnd b hb'.1
end
end Go.Am
end

section
namespace Go.Am
open Go
structure FS (k : Nat) (B : Nat → Prop) (L : Loc) (w : World) (H : Heap) (mv : List Nat) (B' : Nat → Prop) (L' : Loc) (w' : World) (H' : Heap) (mv' : List Nat) : Prop where
  size : w.heap.size ≤ w'.heap.size
  same : Same w w'
  own : ∀ b, b < w.heap.size → (∀ n, (Heap.at H n).live → L.blk n ≠ b) → w'.heap[b]? = w.heap[b]?
  sub : ∀ b, b < w.heap.size → B' b → B b
  keep : ∀ b, b < w.heap.size → B b → (∀ n, (Heap.at H n).live → L.blk n ≠ b) → B' b
  mvs : ∀ n, n ∈ mv → n ∈ mv'
  loc : ∀ n, n < k → n ∉ mv' → LocEq L n L' n
  fresh : ∀ n, (Heap.at H' n).live → (∃ m, (Heap.at H m).live ∧ L'.blk n = L.blk m) ∨ w.heap.size ≤ L'.blk n
theorem FS.refl (k : Nat) (B : Nat → Prop) (L : Loc) (w : World) (H : Heap) (mv : List Nat) : FS k B L w H mv B L w H mv :=
  ⟨Nat.le_refl _, Same.refl w, fun _ _ _ => rfl, fun _ _ h => h, fun _ _ h _ => h, fun _ h => h, fun _ _ _ => ⟨rfl, rfl, rfl⟩, fun n h => .inl ⟨n, h, rfl⟩⟩
theorem FS.trans {k : Nat} {B B' B'' : Nat → Prop} {L L' L'' : Loc} {w w' w'' : World} {H H' H'' : Heap} {mv mv' mv'' : List Nat} (h : FS k B L w H mv B' L' w' H' mv') (g : FS k B' L' w' H' mv' B'' L'' w'' H'' mv'') :
    FS k B L w H mv B'' L'' w'' H'' mv'' := by
  have apart : ∀ b, b < w.heap.size → (∀ n, (Heap.at H n).live → L.blk n ≠ b) → ∀ n, (Heap.at H' n).live → L'.blk n ≠ b := by
    intro b hb hn n hl e
    rcases h.fresh n hl with ⟨m, h1, h2⟩ | h1
    · exact hn m h1 (h2 ▸ e)
    · omega
  constructor
  · exact Nat.le_trans h.size g.size
  · exact h.same.trans g.same
  · intro b hb hn
    exact (g.own b (Nat.lt_of_lt_of_le hb h.size) (apart b hb hn)).trans (h.own b hb hn)
  · intro b hb hh
    exact h.sub b hb (g.sub b (Nat.lt_of_lt_of_le hb h.size) hh)
  · intro b hb hB hn
    exact g.keep b (Nat.lt_of_lt_of_le hb h.size) (h.keep b hb hB hn) (apart b hb hn)
  · intro n hn; exact g.mvs n (h.mvs n hn)
  · intro n hk hn
    have h1 := h.loc n hk (fun e => hn (g.mvs n e))
    have h2 := g.loc n hk hn
    exact ⟨h2.1.trans h1.1, h2.2.1.trans h1.2.1, h2.2.2.trans h1.2.2⟩
  · intro n hl
    rcases g.fresh n hl with ⟨m, h1, h2⟩ | h1
    · rcases h.fresh m h1 with ⟨m', h3, h4⟩ | h3
      · exact .inl ⟨m', h3, h2.trans h4⟩
      · exact .inr (by omega)
    · exact .inr (Nat.le_trans h.size h1)
theorem FS.step {k : Nat} {B B' : Nat → Prop} {L L' : Loc} {w w' : World} {H H' : Heap} {mv mv' : List Nat} (h : FS k B L w H mv B' L' w' H' mv') (hst : St B L w H) : Step B w B' w' :=
  ⟨h.size, fun b hb hn => h.own b hb fun n hl e => hn (e ▸ (hst.own n hl).1), h.sub⟩
def ERel (B : Nat → Prop) (L : Loc) (w : World) (env : List V) (tmps : Array Value) : Prop := VRelL B L w env tmps.toList
def GOk (G : Nat → Option PV) (B : Nat → Prop) (w : World) : Prop := ∀ g d, G g = some d → PRel B w (.cptr d) (.pointer (some ⟨g, 0, none⟩)) ∧ ∃ c t fr, w.heap[g]? = some (.cells c t fr) ∧ c.size = d.cells.length
theorem GOk.step {G : Nat → Option PV} {B B' : Nat → Prop} {w w' : World} (h : GOk G B w) (hs : Step B w B' w') : GOk G B' w' := fun g d hg => by
  obtain ⟨h1, c, t, fr, h2, h3⟩ := h g d hg
  refine ⟨h1.step hs, c, t, fr, ?_, h3⟩
  cases h1 with
  | cptr d b o u hb hw hf hc hr => rw [hs.old g hw hb]; exact h2
section
variable {P : Program} {G : Nat → Option PV} {B : Nat → Prop} {L : Loc} {w : World}
theorem ERel.get {env : List V} {tmps : Array Value} (h : ERel B L w env tmps) (t : Nat) : VRel B L w ((env[t]?).getD .junk) (tmps.getD t undef) := by
  cases hv : env[t]? with
  | none => exact .junk _
  | some v =>
    have hlt := (List.getElem?_eq_some_iff.1 hv).1
    have hlt' : t < tmps.size := by have := h.1; simp at this; omega
    have := h.2 t v tmps[t] hv (by simp [hlt'])
    simp only [Option.getD_some, Array.getD, hlt', dite_true]
    exact this
theorem evalO_sound {env : List V} {a : Act} (h : ERel B L w env a.tmps) (hg : GOk G B w) (x : Operand) : VRel B L w (evalO G env x) (a.eval x) := by
  cases x with
  | tmp t => exact h.get t
  | const v =>
    simp only [evalO, Act.eval]
    split
    · rename_i d hd; exact .p _ _ (ofConst_sound hd).1
    · exact .junk _
  | global g =>
    simp only [evalO, Act.eval]
    split
    · rename_i d hd; exact .p _ _ (hg g d hd).1
    · exact .junk _
  | func f => exact .p _ _ (.fn _)
theorem ERel.put {env : List V} {a : Act} (h : ERel B L w env a.tmps) (dst : Option Tmp) {v : V} {u : Value} (hv : VRel B L w v u) : ERel B L w (putO env dst v) (a.put dst u).tmps := by
  cases dst with
  | none => exact h
  | some d =>
    refine ⟨by have := h.1; simp [putO, Act.put] at this ⊢; exact this, fun i x y hx hy => ?_⟩
    simp only [putO, Act.put, Array.toList_setIfInBounds] at hx hy
    rw [List.getElem?_set] at hx hy
    split at hx
    · rename_i e
      rw [if_pos e] at hy
      split at hx
      · split at hy
        · cases hx; cases hy; exact hv
        · cases hy
      · cases hx
    · rename_i e
      rw [if_neg e] at hy
      exact h.2 i x y hx hy
theorem ERel.map {B' : Nat → Prop} {L' : Loc} {w' : World} {env : List V} {tmps : Array Value} (h : ERel B L w env tmps) (f : V → V) (hf : ∀ v u, v ∈ env → VRel B L w v u → VRel B' L' w' (f v) u) : ERel B' L' w' (env.map f) tmps :=
  ⟨by simpa using h.1, fun i x y hx hy => by
    simp only [List.getElem?_map, Option.map_eq_some_iff] at hx
    obtain ⟨z, hz, rfl⟩ := hx
    exact hf z y (List.mem_of_getElem? hz) (h.2 i z y hz hy)⟩
theorem Fr.freeze_sound {fr : Fr} {n : Nat} {tmps : Array Value} (hst : St B L w fr.H) (he : ERel B L w fr.env tmps) :
    ∃ B', FS fr.k B L w fr.H fr.mv B' L w (fr.freeze n).H (fr.freeze n).mv ∧ ERel B' L w (fr.freeze n).env tmps ∧ St B' L w (fr.freeze n).H ∧ (fr.freeze n).k = fr.k := by
  unfold Fr.freeze
  split
  · rename_i sz es hn
    have hlive : (Heap.at fr.H n).live := by rw [hn]; trivial
    have hrel := hst.rel n
    rw [hn] at hrel
    refine ⟨less B (L.blk n), ?_, ?_, hst.frz hn, rfl⟩
    · refine ⟨Nat.le_refl _, Same.refl w, fun _ _ _ => rfl, fun _ _ h => h.1, fun b _ hB hno => ⟨hB, fun e => hno n hlive e.symm⟩, fun _ h => h, fun _ _ _ => ⟨rfl, rfl, rfl⟩, fun m hm => .inl ⟨m, ?_, rfl⟩⟩
      by_cases e : m = n
      · subst e; rw [Heap.at_put_same] at hm; exact hm.elim
      · rw [Heap.at_put_ne _ _ e, Heap.at_map_frz, HO.frz_live] at hm; exact hm
    · exact he.map _ fun v u _ h => h.frz hrel (hst.own n hlive).2
  · exact ⟨B, FS.refl _ _ _ _ _ _, he, hst, rfl⟩
theorem Fr.freezeAll_sound : ∀ (l : List Nat) {B : Nat → Prop} {fr : Fr} {tmps : Array Value} (_ : St B L w fr.H) (_ : ERel B L w fr.env tmps),
    ∃ B', FS fr.k B L w fr.H fr.mv B' L w (fr.freezeAll l).H (fr.freezeAll l).mv ∧ ERel B' L w (fr.freezeAll l).env tmps ∧ St B' L w (fr.freezeAll l).H ∧ (fr.freezeAll l).k = fr.k
  | [], B, fr, tmps, hst, he => ⟨B, FS.refl _ _ _ _ _ _, he, hst, rfl⟩
  | n :: l, B, fr, tmps, hst, he => by
    obtain ⟨B1, h1, he1, hst1, hk1⟩ := Fr.freeze_sound (n := n) hst he
    obtain ⟨B2, h2, he2, hst2, hk2⟩ := Fr.freezeAll_sound l hst1 he1
    rw [hk1] at h2
    exact ⟨B2, h1.trans h2, he2, hst2, hk2.trans hk1⟩
theorem has_names {n : Nat} {v : V} : V.has n v = true ↔ n ∈ v.names := by simp [V.has]
theorem Fr.fresh_spec {fr : Fr} {n : Nat} (h : fr.fresh n = true) : (∀ v ∈ fr.env, n ∉ v.names) ∧ ∀ m, n ∉ (Heap.at fr.H m).names := by
  simp only [Fr.fresh, Bool.and_eq_true, Bool.not_eq_true', List.any_eq_false] at h
  refine ⟨fun v hv e => h.1 v hv (has_names.2 e), fun m e => ?_⟩
  simp only [Heap.at] at e
  cases hm : fr.H[m]? with
  | none => rw [hm] at e; simp [HO.names] at e
  | some o =>
    rw [hm] at e
    exact h.2 o (List.mem_of_getElem? hm) (by simpa using e)
theorem evalO_names {env : List V} {n : Nat} (h : ∀ v ∈ env, n ∉ v.names) (x : Operand) : n ∉ (evalO G env x).names := by
  cases x with
  | tmp t =>
    simp only [evalO]
    cases hv : env[t]? with
    | none => simp [V.names]
    | some v => exact h v (List.mem_of_getElem? hv)
  | const v => simp only [evalO]; split <;> simp [V.names]
  | global g => simp only [evalO]; split <;> simp [V.names]
  | func f => simp [evalO, V.names]
theorem addMv_sub {k n : Nat} {mv : List Nat} : ∀ m ∈ mv, m ∈ addMv k mv n := by
  intro m hm
  unfold addMv
  split
  · split
    · exact hm
    · exact List.mem_cons_of_mem _ hm
  · exact hm
theorem addMv_mem {k n : Nat} {mv : List Nat} (h : n < k) : n ∈ addMv k mv n := by
  unfold addMv
  rw [if_pos h]
  split
  · assumption
  · exact List.mem_cons_self
theorem Done.frame {fr fr' : Fr} {base : Nat} {r : Res} {R : Result Next} {tmps : Array Value} (he : ERel B L w fr.env tmps) (hd : Done B L w fr.H base r R) (hr : fr.eff base r.eff = some fr') :
    ∃ v w' B' L', (R = .ok (.value v) w' ∨ (R = .ok .skip w' ∧ v = undef)) ∧ FS fr.k B L w fr.H fr.mv B' L' w' fr'.H fr'.mv ∧ ERel B' L' w' fr'.env tmps ∧ St B' L' w' fr'.H ∧ VRel B' L' w' r.val v ∧ fr'.k = fr.k := by
  obtain ⟨v, w', B', L', hR, hstep, hsame, hv, hst', hloc, htail, hok⟩ := hd
  obtain ⟨val, e⟩ := r
  have live_of : ∀ (o : HO) (m n : Nat), (Heap.at (Heap.put fr.H m o) n).live → n ≠ m → (Heap.at fr.H n).live := fun o m n h hne => by rw [Heap.at_put_ne _ _ hne] at h; exact h
  cases e with
  | none =>
    simp only [Fr.eff, Option.some.injEq] at hr
    subst hr
    refine ⟨v, w', B', L', hR, ?_, he.map id (fun x u _ h => (h.step hstep).loc fun n _ => hloc n (by simp [Eff.moved])) |> (by simpa using ·), hst', hv, rfl⟩
    exact ⟨hstep.size, hsame, htail.own, htail.sub, fun b _ hB _ => htail.grow b hB, fun _ h => h, fun n _ _ => hloc n (by simp [Eff.moved]), fun n hn => .inl ⟨n, hn, (hloc n (by simp [Eff.moved])).1⟩⟩
  | new o =>
    simp only [Fr.eff] at hr
    split at hr
    · rename_i hf
      simp only [Option.some.injEq] at hr
      subst hr
      have hbk := hf.2
      replace hf := hf.1
      obtain ⟨hfe, hfh⟩ := Fr.fresh_spec hf
      refine ⟨v, w', B', L', hR, ?_, he.map id (fun x u hx h => (h.step hstep).loc fun n hn => hloc n (by simp only [Eff.moved]; intro e; cases e; exact hfe x hx hn)) |> (by simpa using ·), hst', hv, rfl⟩
      refine ⟨hstep.size, hsame, htail.own, htail.sub, fun b _ hB _ => htail.grow b hB, fun _ h => h, fun n hk _ => hloc n (by simp only [Eff.moved]; intro e; cases e; omega), fun n hn => ?_⟩
      by_cases e : n = base
      · subst e; exact .inr hok
      · exact .inl ⟨n, live_of _ _ _ hn e, (hloc n (by simp only [Eff.moved]; intro e'; cases e'; exact e rfl)).1⟩
    · cases hr
  | upd m o =>
    simp only [Fr.eff, Option.some.injEq] at hr
    subst hr
    have hl : (Heap.at fr.H m).live := hok
    refine ⟨v, w', B', L', hR, ?_, he.map id (fun x u _ h => (h.step hstep).loc fun n _ => hloc n (by simp [Eff.moved])) |> (by simpa using ·), hst', hv, rfl⟩
    refine ⟨hstep.size, hsame, htail.own, htail.sub, fun b _ hB _ => htail.grow b hB, fun _ h => h, fun n _ _ => hloc n (by simp [Eff.moved]), fun n hn => .inl ⟨n, ?_, (hloc n (by simp [Eff.moved])).1⟩⟩
    by_cases e : n = m
    · rw [e]; exact hl
    · exact live_of _ _ _ hn e
  | repoint m o =>
    simp only [Fr.eff, Option.some.injEq] at hr
    subst hr
    have hl : (Heap.at fr.H m).live := hok
    refine ⟨v, w', B', L', hR, ?_, he.map (V.kill m) (fun x u _ h => ((h.kill m).step hstep).loc fun n hn => hloc n (by simp only [Eff.moved]; intro e; cases e; exact V.kill_names m x hn)), hst', hv, rfl⟩
    refine ⟨hstep.size, hsame, htail.own, htail.sub, fun b _ hB _ => htail.grow b hB, addMv_sub, fun n hk hn => hloc n (by simp only [Eff.moved]; intro e; cases e; exact hn (addMv_mem hk)), fun n hn => ?_⟩
    by_cases e : n = m
    · subst e
      rcases htail.far n with h | h
      · exact .inl ⟨n, hl, h⟩
      · exact .inr h
    · refine .inl ⟨n, ?_, (hloc n (by simp only [Eff.moved]; intro e'; cases e'; exact e rfl)).1⟩
      rw [Heap.at_put_ne _ _ e, Heap.at_kill, HO.kill_live] at hn
      exact hn
end
end Go.Am
end

section
namespace Go.Am
open Go
def CallTo (P : Program) (f : FuncId) (vs : Array Value) (w : World) (R : Ending → World → Prop) : Prop :=
  ((callFunc f vs).run P w = .ok (.enter f vs) w ∧ Calls P f vs w R) ∨ ∃ v w', (callFunc f vs).run P w = .ok (.value v) w' ∧ R (.returned v) w'
def OutRel (B : Nat → Prop) (L : Loc) (w : World) : Out → Ending → Prop
  | .ret r, .returned v => VRel B L w r v
  | .pan r, .panicked [⟨v, false, false⟩] => VRel B L w r v
  | _, _ => False
def AbsCall (P : Program) (G : Nat → Option PV) (f : FuncId) (args : List V) (H : Heap) (cr : CR) : Prop :=
  ∀ (B : Nat → Prop) (L : Loc) (w : World) (vs : List Value), St B L w H → VRelL B L w args vs → GOk G B w →
    CallTo P f vs.toArray w fun e w' => ∃ B' L', FS H.length B L w H [] B' L' w' cr.H cr.mv ∧ St B' L' w' cr.H ∧ OutRel B' L' w' cr.out e
def SoundC (P : Program) (G : Nat → Option PV) (C : CallF) : Prop := ∀ f args H cr, C f args H = some cr → AbsCall P G f args H cr
theorem CallTo.mono {P : Program} {f : FuncId} {vs : Array Value} {w : World} {R R' : Ending → World → Prop} (h : CallTo P f vs w R) (hr : ∀ e w', R e w' → R' e w') : CallTo P f vs w R' := by
  rcases h with ⟨h1, h2⟩ | ⟨v, w', h1, h2⟩
  · exact .inl ⟨h1, h2.mono hr⟩
  · exact .inr ⟨v, w', h1, hr _ _ h2⟩
theorem Heap.at_putAll_out : ∀ (l : List (Nat × HO)) (H : Heap) (m : Nat), m ∉ l.map (·.1) → Heap.at (Heap.putAll H l) m = Heap.at H m
  | [], _, _, _ => rfl
  | (n, o) :: l, H, m, h => by
    simp only [List.map_cons, List.mem_cons, not_or] at h
    rw [Heap.putAll, Heap.at_putAll_out l _ m h.2, Heap.at_put_ne _ _ h.1]
theorem Heap.at_putAll_in : ∀ (l : List (Nat × HO)) (H : Heap) (_ : (l.map (·.1)).Nodup) (n : Nat) (o : HO), (n, o) ∈ l → Heap.at (Heap.putAll H l) n = o
  | [], _, _, _, _, h => by simp at h
  | (m, q) :: l, H, hd, n, o, h => by
    simp only [List.map_cons, List.nodup_cons] at hd
    rw [Heap.putAll]
    rcases List.mem_cons.1 h with e | h
    · cases e
      rw [Heap.at_putAll_out l _ _ hd.1, Heap.at_put_same]
    · exact Heap.at_putAll_in l _ hd.2 n o h
theorem Heap.at_killAll_names : ∀ (l : List Nat) (H : Heap) (m n : Nat), n ∈ l → n ∉ (Heap.at (Heap.killAll l H) m).names
  | [], _, _, _, h => by simp at h
  | k :: l, H, m, n, h => by
    rw [Heap.killAll]
    by_cases hn : n ∈ l
    · exact Heap.at_killAll_names l _ m n hn
    · have e : n = k := by rcases List.mem_cons.1 h with h | h; exact h; exact absurd h hn
      subst e
      have sub : ∀ (l : List Nat) (H : Heap), n ∉ (Heap.at H m).names → n ∉ (Heap.at (Heap.killAll l H) m).names := by
        intro l
        induction l with
        | nil => intro H h; exact h
        | cons j l ih =>
          intro H h
          rw [Heap.killAll]
          refine ih _ ?_
          rw [Heap.at_kill]
          exact fun hh => h (HO.names_kill_sub hh)
      exact sub l _ (by rw [Heap.at_kill]; exact HO.kill_names _ _)
where
  HO.names_kill_sub {j n : Nat} {o : HO} (h : n ∈ (o.kill j).names) : n ∈ o.names := by
    cases o with
    | var v => exact names_kill_sub h
    | mp ks vs =>
      cases vs with
      | pure l => exact h
      | any vs =>
        simp only [HO.kill, HO.names, MV.map, MV.names] at h ⊢
        induction vs with
        | nil => exact h
        | cons x l ih =>
          simp only [List.map_cons, V.namesL, List.mem_append] at h ⊢
          exact h.imp names_kill_sub ih
    | _ => exact h
  names_kill_sub {j n : Nat} : ∀ {v : V}, n ∈ (v.kill j).names → n ∈ v.names := by
    intro v
    exact V.rec (motive_1 := fun v => n ∈ (v.kill j).names → n ∈ v.names) (motive_2 := fun l => n ∈ V.namesL (V.killL j l) → n ∈ V.namesL l)
      (fun d h => h)
      (fun m o h => by by_cases e : m = j <;> simp_all [V.kill, V.names])
      (fun m i o h => by by_cases e : m = j <;> simp_all [V.kill, V.names])
      (fun m o l h => by by_cases e : m = j <;> simp_all [V.kill, V.names])
      (fun m h => by by_cases e : m = j <;> simp_all [V.kill, V.names])
      (fun f l ih h => by simp only [V.kill, V.names] at h ⊢; exact ih h)
      (fun l ih h => by simp only [V.kill, V.names] at h ⊢; exact ih h)
      (fun l ih h => by simp only [V.kill, V.names] at h ⊢; exact ih h)
      (fun t v ih h => by simp only [V.kill, V.names] at h ⊢; exact ih h)
      (fun h => h)
      (fun h => h)
      (fun x l ih1 ih2 h => by
        simp only [V.killL, V.namesL, List.mem_append] at h ⊢
        exact h.imp ih1 ih2) v
theorem Heap.at_killAll_live : ∀ (l : List Nat) (H : Heap) (m : Nat), (Heap.at (Heap.killAll l H) m).live ↔ (Heap.at H m).live
  | [], _, _ => Iff.rfl
  | k :: l, H, m => by rw [Heap.killAll, Heap.at_killAll_live l, Heap.at_kill, HO.kill_live]
section
variable {P : Program} {G : Nat → Option PV} {B : Nat → Prop} {L : Loc} {w : World}
theorem St.killAll : ∀ (l : List Nat) {H : Heap}, St B L w H → St B L w (Heap.killAll l H)
  | [], _, h => h
  | n :: l, _, h => St.killAll l (h.kill n)
theorem ERel.killAll : ∀ (l : List Nat) {env : List V} {tmps : Array Value}, ERel B L w env tmps → ERel B L w (killAll l env) tmps
  | [], _, _, h => h
  | n :: l, _, _, h => ERel.killAll l (h.map (V.kill n) fun _ _ _ h => h.kill n)
theorem killAll_names : ∀ (l : List Nat) (env : List V) (v : V), v ∈ killAll l env → (∀ n ∈ l, n ∉ v.names) ∧ ∀ n, (∀ u ∈ env, n ∉ u.names) → n ∉ v.names
  | [], env, v, h => ⟨by simp, fun n hn => hn v h⟩
  | k :: l, env, v, h => by
    obtain ⟨h1, h2⟩ := killAll_names l _ v h
    have hk : k ∉ v.names := h2 k fun u hu => by
      obtain ⟨x, _, rfl⟩ := List.mem_map.1 hu
      exact V.kill_names k x
    refine ⟨fun n hn => ?_, fun n hn => h2 n fun u hu => ?_⟩
    · rcases List.mem_cons.1 hn with e | hn
      · rw [e]; exact hk
      · exact h1 n hn
    · obtain ⟨x, hx, rfl⟩ := List.mem_map.1 hu
      exact fun hh => hn x hx (Heap.at_killAll_names.names_kill_sub hh)
theorem foldl_addMv_sub (k : Nat) : ∀ (l mv : List Nat) (m : Nat), m ∈ mv → m ∈ l.foldl (addMv k) mv
  | [], _, _, h => h
  | _ :: l, _, m, h => foldl_addMv_sub k l _ m (addMv_sub m h)
theorem foldl_addMv_mem (k : Nat) : ∀ (l mv : List Nat) (m : Nat), m ∈ l → m < k → m ∈ l.foldl (addMv k) mv
  | [], _, _, h, _ => by simp at h
  | n :: l, mv, m, h, hk => by
    rcases List.mem_cons.1 h with e | h
    · subst e; exact foldl_addMv_sub k l _ m (addMv_mem hk)
    · exact foldl_addMv_mem k l _ m h hk
theorem killAll_HO_names : ∀ (l : List Nat) (H : Heap) (m : Nat) {n : Nat}, n ∈ (Heap.at (Heap.killAll l H) m).names → n ∈ (Heap.at H m).names
  | [], _, _, _, h => h
  | k :: l, H, m, n, h => by
    rw [Heap.killAll] at h
    have := killAll_HO_names l _ m h
    rw [Heap.at_kill] at this
    exact Heap.at_killAll_names.HO.names_kill_sub this
def Loc.after (L L' : Loc) (ns : List Nat) (base nn : Nat) : Loc :=
  let pick (f g : Nat → Nat) (m : Nat) : Nat := if m ∈ ns then f (ns.idxOf m) else if base ≤ m ∧ m < base + nn then f (ns.length + (m - base)) else g m
  { blk := pick L'.blk L.blk, sz := pick L'.sz L.sz, cap := pick L'.cap L.cap }
theorem Loc.after_in (L L' : Loc) {ns : List Nat} (base nn : Nat) {m : Nat} (h : m ∈ ns) : LocEq L' (ns.idxOf m) (L.after L' ns base nn) m := by simp [LocEq, Loc.after, h]
theorem Loc.after_new (L L' : Loc) {ns : List Nat} {base nn j : Nat} (h : base + j ∉ ns) (hj : j < nn) : LocEq L' (ns.length + j) (L.after L' ns base nn) (base + j) := by
  have : base + j - base = j := by omega
  simp [LocEq, Loc.after, h, hj, this]
theorem Loc.after_out (L L' : Loc) {ns : List Nat} {base nn m : Nat} (h : m ∉ ns) (hj : ¬ (base ≤ m ∧ m < base + nn)) : LocEq L m (L.after L' ns base nn) m := by
  simp [LocEq, Loc.after, h, hj]
theorem OutRel.ren {L' : Loc} {f : Nat → Nat} {out : Out} {e : Ending} (h : OutRel B L w out e) (he : ∀ n ∈ outNames out, LocEq L n L' (f n)) : OutRel B L' w (out.ren f) e := by
  cases out with
  | ret v =>
    cases e with
    | returned u => exact VRel.ren h he
    | _ => exact h.elim
  | pan v =>
    cases e with
    | panicked c =>
      unfold OutRel at h
      split at h
      · rename_i e; cases e
      · rename_i e1 e2; cases e1; cases e2; exact VRel.ren h he
      · exact h.elim
    | _ => exact h.elim
theorem callS_sound {C : CallF} (hC : SoundC P G C) {fr fr' : Fr} {f : FuncId} {args : List V} {vs : List Value} {tmps : Array Value} {out : Out} (hst : St B L w fr.H) (he : ERel B L w fr.env tmps) (hg : GOk G B w) (ha : VRelL B L w args vs)
    (h : callS C fr f args = some (out, fr')) :
    CallTo P f vs.toArray w fun e w' => ∃ B' L', FS fr.k B L w fr.H fr.mv B' L' w' fr'.H fr'.mv ∧ ERel B' L' w' fr'.env tmps ∧ St B' L' w' fr'.H ∧ OutRel B' L' w' out e ∧ fr'.k = fr.k := by
  unfold callS at h
  simp only [] at h
  generalize hns : reachL (Heap.at fr.H) 200 (V.namesL args) [] = ns at h
  split at h
  case isFalse => cases h
  rename_i hc
  obtain ⟨hargs, hclosed, hnd⟩ := hc
  split at h
  case h_2 => cases h
  rename_i cr hcr
  split at h
  case isFalse => cases h
  rename_i hc2
  obtain ⟨hlen, hfresh, hmv, hk, hon, hhn⟩ := hc2
  simp only [Option.some.injEq, Prod.mk.injEq] at h
  obtain ⟨rfl, rfl⟩ := h
  -- the callee's state
  have hcl := closedN_spec hclosed
  have hsub := hst.sub hnd hcl
  have hargs' : VRelL B (L.sub ns) w (args.map (V.ren (ns.idxOf ·))) vs :=
    ⟨by simpa using ha.1, fun i x y hx hy => by
      simp only [List.getElem?_map, Option.map_eq_some_iff] at hx
      obtain ⟨z, hz, rfl⟩ := hx
      refine (ha.2 i z y hz hy).ren fun n hn => L.sub_eq ?_
      simp only [List.all_eq_true] at hargs
      simpa using hargs n (V.names_mem hz hn)⟩
  refine (hC f _ _ cr hcr B (L.sub ns) w vs hsub hargs' hg).mono ?_
  rintro e w' ⟨B', L', hfs, hst', hout⟩
  have hHlen : (List.map (fun n => HO.ren (fun x => List.idxOf x ns) (Heap.at fr.H n)) ns).length = ns.length := by simp
  rw [hHlen] at hfs
  generalize hbase : fr.H.length = base at *
  generalize hnn : cr.H.length - ns.length = nn at *
  have hcl2 : cr.H.length = ns.length + nn := by omega
  have hfr : ∀ j, j < nn → (∀ v ∈ fr.env, base + j ∉ v.names) ∧ (∀ m, base + j ∉ (Heap.at fr.H m).names) ∧ base + j ∉ ns := by
    intro j hj
    simp only [List.all_eq_true, List.mem_range, Bool.and_eq_true, Bool.not_eq_true'] at hfresh
    have := hfresh j hj
    have h1 := Fr.fresh_spec this.1
    exact ⟨h1.1, h1.2, by simpa using this.2⟩
  -- names there and back
  have back_lt : ∀ i, i < ns.length → ∃ n, ns[i]? = some n ∧ backN ns base i = n ∧ n ∈ ns ∧ ns.idxOf n = i := by
    intro i hi
    have hn : ns[i]? = some ns[i] := List.getElem?_eq_getElem hi
    refine ⟨ns[i], hn, by simp [backN, hi], List.getElem_mem hi, ?_⟩
    have hm := List.getElem_mem hi
    have hlt := List.idxOf_lt_length_of_mem hm
    exact (List.getElem_inj hnd).1 (List.getElem_idxOf hlt)
  have back_ge : ∀ i, ¬ i < ns.length → backN ns base i = base + (i - ns.length) := fun i hi => by simp [backN, hi]
  have back_idx : ∀ n ∈ ns, backN ns base (ns.idxOf n) = n := by
    intro n hn
    have hlt := List.idxOf_lt_length_of_mem hn
    simp only [backN, hlt, if_true]
    rw [List.getElem?_eq_getElem hlt, List.getElem_idxOf]; rfl
  have F1 : ∀ i, i < cr.H.length → LocEq L' i (L.after L' ns base nn) (backN ns base i) := by
    intro i hi
    by_cases hik : i < ns.length
    · obtain ⟨n, _, hb, hmem, hidx⟩ := back_lt i hik
      rw [hb]
      have := L.after_in L' base nn hmem
      rw [hidx] at this
      exact this
    · rw [back_ge i hik]
      have hj : i - ns.length < nn := by omega
      have := L.after_new L' (hfr _ hj).2.2 hj
      rw [show ns.length + (i - ns.length) = i by omega] at this
      exact this
  have back_inj : ∀ i j, i < cr.H.length → j < cr.H.length → backN ns base i = backN ns base j → i = j := by
    intro i j hi hj e
    by_cases hik : i < ns.length
    · obtain ⟨n, hn, hb, hmem, hidx⟩ := back_lt i hik
      by_cases hjk : j < ns.length
      · obtain ⟨m, hm, hb', hmem', hidx'⟩ := back_lt j hjk
        rw [hb, hb'] at e
        rw [← hidx, ← hidx', e]
      · rw [hb, back_ge j hjk] at e
        exact absurd (e ▸ hmem) (hfr _ (by omega)).2.2
    · by_cases hjk : j < ns.length
      · obtain ⟨m, hm, hb', hmem', hidx'⟩ := back_lt j hjk
        rw [hb', back_ge i hik] at e
        exact absurd (e ▸ hmem') (hfr _ (by omega)).2.2
      · rw [back_ge i hik, back_ge j hjk] at e
        omega
  have moved_in : ∀ m, m ∈ cr.mv.map (backN ns base) → m ∈ ns := by
    intro m hm
    obtain ⟨i, hi, rfl⟩ := List.mem_map.1 hm
    simp only [List.all_eq_true, decide_eq_true_eq] at hmv
    obtain ⟨n, _, hb, hmem, _⟩ := back_lt i (hmv i hi)
    rw [hb]; exact hmem
  have F2 : ∀ m, m ∉ cr.mv.map (backN ns base) → ¬ (base ≤ m ∧ m < base + nn) → LocEq L m (L.after L' ns base nn) m := by
    intro m hm hnew
    by_cases hmn : m ∈ ns
    · have h1 := L.after_in L' base nn hmn
      have hlt := List.idxOf_lt_length_of_mem hmn
      have h2 := hfs.loc (ns.idxOf m) hlt (fun hh => hm (List.mem_map.2 ⟨_, hh, back_idx m hmn⟩))
      have h3 := L.sub_eq hmn
      exact ⟨h1.1.trans (h2.1.trans h3.1), h1.2.1.trans (h2.2.1.trans h3.2.1), h1.2.2.trans (h2.2.2.trans h3.2.2)⟩
    · exact L.after_out L' hmn hnew
  have hstep := hfs.step hsub
  have names_new : ∀ n, (∀ j, j < nn → n ≠ base + j) → ¬ (base ≤ n ∧ n < base + nn) := fun n hn hh => hn (n - base) (by omega) (by omega)
  -- a live object of the callee's beginning
  have sub_live : ∀ i, (Heap.at (List.map (fun n => HO.ren (fun x => List.idxOf x ns) (Heap.at fr.H n)) ns) i).live → ∃ n, ns[i]? = some n ∧ (Heap.at fr.H n).live ∧ (L.sub ns).blk i = L.blk n := by
    intro i hi
    have e : List.map (fun n => HO.ren (fun x => List.idxOf x ns) (Heap.at fr.H n)) ns = Heap.sub fr.H ns := rfl
    rw [e, Heap.at_sub] at hi
    cases hn : ns[i]? with
    | none => rw [hn] at hi; exact hi.elim
    | some n => rw [hn] at hi; exact ⟨n, rfl, (HO.ren_live _ _).1 hi, by simp [Loc.sub, hn]⟩
  -- the new heap, name by name
  have hkeys : (((List.range cr.H.length).map fun i => (backN ns base i, (Heap.at cr.H i).ren (backN ns base))).map (·.1)).Nodup := by
    rw [List.map_map]
    refine List.pairwise_map.2 (List.Pairwise.imp_of_mem ?_ List.nodup_range)
    intro i j hi hj hne e
    exact hne (back_inj i j (List.mem_range.1 hi) (List.mem_range.1 hj) e)
  have at_in : ∀ i, i < cr.H.length → Heap.at (Heap.putAll (Heap.killAll (cr.mv.map (backN ns base)) fr.H) ((List.range cr.H.length).map fun i => (backN ns base i, (Heap.at cr.H i).ren (backN ns base)))) (backN ns base i) = (Heap.at cr.H i).ren (backN ns base) :=
    fun i hi => Heap.at_putAll_in _ _ hkeys _ _ (List.mem_map.2 ⟨i, List.mem_range.2 hi, rfl⟩)
  have at_out : ∀ m, (∀ i, i < cr.H.length → backN ns base i ≠ m) → Heap.at (Heap.putAll (Heap.killAll (cr.mv.map (backN ns base)) fr.H) ((List.range cr.H.length).map fun i => (backN ns base i, (Heap.at cr.H i).ren (backN ns base)))) m = Heap.at (Heap.killAll (cr.mv.map (backN ns base)) fr.H) m := by
    intro m hm
    refine Heap.at_putAll_out _ _ _ fun hh => ?_
    rw [List.map_map] at hh
    obtain ⟨i, hi, e⟩ := List.mem_map.1 hh
    exact hm i (List.mem_range.1 hi) e
  have out_ns : ∀ m, (∀ i, i < cr.H.length → backN ns base i ≠ m) → m ∉ ns ∧ ¬ (base ≤ m ∧ m < base + nn) := by
    intro m hm
    refine ⟨fun hmn => ?_, fun hh => ?_⟩
    · have hlt := List.idxOf_lt_length_of_mem hmn
      exact hm _ (by omega) (back_idx m hmn)
    · refine hm (ns.length + (m - base)) (by omega) ?_
      rw [back_ge _ (by omega)]; omega
  have hcrn : ∀ i, ∀ n ∈ (Heap.at cr.H i).names, n < cr.H.length := by
    intro i n hn
    simp only [Heap.at] at hn
    cases ho : cr.H[i]? with
    | none => rw [ho] at hn; simp [HO.names] at hn
    | some o =>
      rw [ho] at hn
      simp only [List.all_eq_true, decide_eq_true_eq] at hhn
      exact hhn o (List.mem_of_getElem? ho) n hn
  -- old objects that were not handed on
  have old_apart : ∀ m, (Heap.at fr.H m).live → m ∉ ns → ∀ n, (Heap.at (List.map (fun n => HO.ren (fun x => List.idxOf x ns) (Heap.at fr.H n)) ns) n).live → (L.sub ns).blk n ≠ L.blk m := by
    intro m hm hmn n hn e
    obtain ⟨k, hk', hkl, hkb⟩ := sub_live n hn
    rw [hkb] at e
    have := hst.inj k m hkl hm e
    subst this
    exact hmn (List.mem_of_getElem? hk')
  refine ⟨B', L.after L' ns base nn, ?_, ?_, ?_, ?_, rfl⟩
  · -- what may have turned
    constructor
    · exact hfs.size
    · exact hfs.same
    · intro b hb hn
      refine hfs.own b hb fun n hl e => ?_
      obtain ⟨k, _, hkl, hkb⟩ := sub_live n hl
      exact hn k hkl (hkb ▸ e)
    · exact hfs.sub
    · intro b hb hB hn
      refine hfs.keep b hb hB fun n hl e => ?_
      obtain ⟨k, _, hkl, hkb⟩ := sub_live n hl
      exact hn k hkl (hkb ▸ e)
    · intro n hn; exact foldl_addMv_sub _ _ _ _ hn
    · intro n hnk hn
      exact F2 n (fun hh => hn (foldl_addMv_mem _ _ _ _ hh hnk)) (by omega)
    · intro m hl
      by_cases hm : ∃ i, i < cr.H.length ∧ backN ns base i = m
      · obtain ⟨i, hi, rfl⟩ := hm
        simp only [] at hl
        rw [at_in i hi, HO.ren_live] at hl
        rcases hfs.fresh i hl with ⟨m, h1, h2⟩ | h1
        · obtain ⟨n, hn, hnl, hnb⟩ := sub_live m h1
          exact .inl ⟨n, hnl, (F1 i hi).1.trans (h2.trans hnb)⟩
        · exact .inr (by rw [(F1 i hi).1]; exact h1)
      · have hm' : ∀ i, i < cr.H.length → backN ns base i ≠ m := fun i hi e => hm ⟨i, hi, e⟩
        simp only [] at hl
        rw [at_out m hm', Heap.at_killAll_live] at hl
        obtain ⟨h1, h2⟩ := out_ns m hm'
        exact .inl ⟨m, hl, (L.after_out L' h1 h2).1⟩
  · -- the slots
    have hk1 := ERel.killAll (cr.mv.map (backN ns base)) he
    refine ⟨hk1.1, fun i x y hx hy => ?_⟩
    obtain ⟨h1, h2⟩ := killAll_names _ _ x (List.mem_of_getElem? hx)
    exact ((hk1.2 i x y hx hy).step hstep).loc fun n hn => F2 n (fun hh => h1 n hh hn) (names_new n fun j hj e => by subst e; exact h2 _ (fun u hu => (hfr j hj).1 u hu) hn)
  · -- the heap
    have hkst := St.killAll (cr.mv.map (backN ns base)) hst
    have live_cases : ∀ m, (Heap.at (Heap.putAll (Heap.killAll (cr.mv.map (backN ns base)) fr.H) ((List.range cr.H.length).map fun i => (backN ns base i, (Heap.at cr.H i).ren (backN ns base)))) m).live →
        (∃ i, i < cr.H.length ∧ backN ns base i = m ∧ (Heap.at cr.H i).live ∧ (L.after L' ns base nn).blk m = L'.blk i) ∨ (m ∉ ns ∧ (Heap.at fr.H m).live ∧ (L.after L' ns base nn).blk m = L.blk m) := by
      intro m hl
      by_cases hm : ∃ i, i < cr.H.length ∧ backN ns base i = m
      · obtain ⟨i, hi, rfl⟩ := hm
        rw [at_in i hi, HO.ren_live] at hl
        exact .inl ⟨i, hi, rfl, hl, (F1 i hi).1⟩
      · have hm' : ∀ i, i < cr.H.length → backN ns base i ≠ m := fun i hi e => hm ⟨i, hi, e⟩
        rw [at_out m hm', Heap.at_killAll_live] at hl
        obtain ⟨h1, h2⟩ := out_ns m hm'
        exact .inr ⟨h1, hl, (L.after_out L' h1 h2).1⟩
    have cross : ∀ i m, i < cr.H.length → (Heap.at cr.H i).live → m ∉ ns → (Heap.at fr.H m).live → L'.blk i ≠ L.blk m := by
      intro i m hi hil hmn hml e
      rcases hfs.fresh i hil with ⟨n, h1, h2⟩ | h1
      · exact old_apart m hml hmn n h1 (h2.symm.trans e)
      · have := (hst.own m hml).2; omega
    constructor
    · intro m
      by_cases hm : ∃ i, i < cr.H.length ∧ backN ns base i = m
      · obtain ⟨i, hi, rfl⟩ := hm
        show HRel B' _ w' _ (Heap.at (Heap.putAll _ _) _)
        rw [at_in i hi]
        exact (hst'.rel i).ren (fun _ => F1 i hi) (fun n hn => F1 n (hcrn i n hn))
      · have hm' : ∀ i, i < cr.H.length → backN ns base i ≠ m := fun i hi e => hm ⟨i, hi, e⟩
        obtain ⟨h1, h2⟩ := out_ns m hm'
        show HRel B' _ w' _ (Heap.at (Heap.putAll _ _) _)
        rw [at_out m hm']
        have hold := hkst.rel m
        refine (hold.step hstep fun hl => ?_).loc (fun _ => L.after_out L' h1 h2) (fun n hn => F2 n ?_ ?_)
        · rw [Heap.at_killAll_live] at hl
          exact hfs.own _ (hst.own m hl).2 (fun n hn => old_apart m hl h1 n hn)
        · intro hh; exact Heap.at_killAll_names _ _ _ _ hh hn
        · refine names_new n fun j hj e => ?_
          subst e
          exact (hfr j hj).2.1 m (killAll_HO_names _ _ _ hn)
    · intro m hl
      rcases live_cases m hl with ⟨i, hi, _, hil, hb⟩ | ⟨h1, h2, hb⟩
      · rw [hb]; exact hst'.own i hil
      · rw [hb]
        have := hst.own m h2
        exact ⟨hfs.keep _ this.2 this.1 (fun n hn => old_apart m h2 h1 n hn), Nat.lt_of_lt_of_le this.2 hfs.size⟩
    · intro m n hm hn hb
      rcases live_cases m hm with ⟨i, hi, e1, hil, hb1⟩ | ⟨h1, h2, hb1⟩
      · rcases live_cases n hn with ⟨j, hj, e2, hjl, hb2⟩ | ⟨h3, h4, hb2⟩
        · rw [hb1, hb2] at hb
          have := hst'.inj i j hil hjl hb
          rw [← e1, ← e2, this]
        · rw [hb1, hb2] at hb
          exact absurd hb (cross i n hi hil h3 h4)
      · rcases live_cases n hn with ⟨j, hj, e2, hjl, hb2⟩ | ⟨h3, h4, hb2⟩
        · rw [hb1, hb2] at hb
          exact absurd hb.symm (cross j m hj hjl h1 h2)
        · rw [hb1, hb2] at hb
          exact hst.inj m n h2 h4 hb
    · exact hst'.bnd
  · refine hout.ren fun n hn => F1 n ?_
    simp only [List.all_eq_true, decide_eq_true_eq] at hon
    exact hon n hn
end
end Go.Am
end

section
namespace Go.Am
open Go
section
variable {P : Program} {G : Nat → Option PV} {B : Nat → Prop} {L : Loc} {w w' : World}
def SameCells (w w' : World) : Prop := w'.heap.size = w.heap.size ∧ ∀ b o, w'.cell? ⟨b, o, none⟩ = w.cell? ⟨b, o, none⟩
theorem PRel.cellsEq (hs : SameCells w w') {d : PV} {v : Value} (h : PRel B w d v) : PRel B w' d v := by
  induction h with
  | bool b => exact .bool b
  | int k n => exact .int k n
  | str s => exact .str s
  | agg l c hl _ ih => exact .agg l c hl ih
  | tup l c hl _ ih => exact .tup l c hl ih
  | lst0 ex a cap he hn => exact .lst0 ex a cap he hn
  | nils => exact .nils
  | lst ex l b o cap sz u hb hw hz hsz hf hcap he hc _ ih =>
    exact .lst ex l b o cap sz u hb (by rw [hs.1]; exact hw) hz hsz hf hcap he (fun k hk => by rw [hs.2]; exact hc k hk) ih
  | nilptr => exact .nilptr
  | nilmap => exact .nilmap
  | nilfunc => exact .nilfunc
  | nili => exact .nili
  | fn f => exact .fn f
  | iface t d v _ ih => exact .iface t d v ih
  | cptr d b o u hb hw hf hc _ ih => exact .cptr d b o u hb (by rw [hs.1]; exact hw) hf (fun k hk => by rw [hs.2]; exact hc k hk) ih
  | anyp p => exact .anyp p
  | emp a cap => exact .emp a cap
  | anyi k n => exact .anyi k n
theorem VRel.cellsEq (hs : SameCells w w') {d : V} {v : Value} (h : VRel B L w d v) : VRel B L w' d v := by
  induction h with
  | p d v h => exact .p d v (h.cellsEq hs)
  | ptr n off => exact .ptr n off
  | eptr n i off => exact .eptr n i off
  | sl n off len cap h hl => exact .sl n off len cap h hl
  | sl0 n off a h => exact .sl0 n off a h
  | mapr n => exact .mapr n
  | func f l c hl _ ih => exact .func f l c hl ih
  | agg l c hl _ ih => exact .agg l c hl ih
  | tup l c hl _ ih => exact .tup l c hl ih
  | iface t d v _ ih => exact .iface t d v ih
  | junk v => exact .junk v
theorem HRel.cellsEq (hs : SameCells w w') {n : Nat} {o : HO} (hb : o.live → w'.heap[L.blk n]? = w.heap[L.blk n]?) (h : HRel B L w n o) : HRel B L w' n o := by
  cases h with
  | var v c t fr hw hfr hl h => exact .var v c t fr (by rw [hb trivial]; exact hw) hfr hl (fun i x y hx hy => (h i x y hx hy).cellsEq hs)
  | arr sz es c t fr hw hfr hz hsz hcap hle hss hf h =>
    exact .arr sz es c t fr (by rw [hb trivial]; exact hw) hfr hz hsz hcap hle hss hf (fun i x y hx hy => (h i x y hx hy).cellsEq hs)
  | mp ks vs ms clock hw hl hlv hk hv hn =>
    exact .mp ks vs ms clock (by rw [hb trivial]; exact hw) hl hlv (fun i x y hx hy => ⟨(hk i x y hx hy).1.cellsEq hs, (hk i x y hx hy).2⟩) (fun i x y hx hy => (hv i x y hx hy).cellsEq hs) hn
  | dead => exact .dead
theorem freeze_other (w : World) (a : Addr) (n b : Nat) (h : b ≠ a.block) : (w.freeze a n).heap[b]? = w.heap[b]? := by
  unfold World.freeze
  split
  · rfl
  · simp only [Array.getElem?_modify]
    rw [if_neg (fun e => h e.symm)]
theorem freeze_sameCells (w : World) (a : Addr) (n : Nat) {c : Array Value} {t : TypeId} {fr : Nat × Nat} (hw : w.heap[a.block]? = some (.cells c t fr)) : SameCells w (w.freeze a n) := by
  refine ⟨by unfold World.freeze; split <;> simp, fun b o => ?_⟩
  by_cases e : b = a.block
  · subst e
    have : ∃ fr', (w.freeze a n).heap[a.block]? = some (.cells c t fr') := by
      unfold World.freeze
      split
      · exact ⟨fr, hw⟩
      · simp only [Array.getElem?_modify, if_true, hw, Option.map_some]
        exact ⟨_, rfl⟩
    obtain ⟨fr', h'⟩ := this
    simp [World.cell?, hw, h']
  · exact cell_of_block (freeze_other w a n b e)
theorem bytesX_spec : ∀ {es : List PV} {s : List UInt8}, bytesX es = some s → es = s.map byteP
  | [], s, h => by simp only [bytesX, Option.some.injEq] at h; subst h; rfl
  | x :: es, s, h => by
    unfold bytesX at h
    split at h
    · rename_i e; cases e
    · rename_i n l e
      cases e
      split at h
      · rename_i hn
        split at h
        · rename_i s' hs'
          cases h
          have := bytesX_spec hs'
          subst this
          simp only [List.map_cons, List.cons.injEq, and_true, byteP]
          have : (UInt8.ofNat n.toNat).toNat = n.toNat := by simp; omega
          rw [this, Int.toNat_of_nonneg hn.1]
        · cases h
      · cases h
    · cases h
theorem sealOp_run {fr fr' : Fr} {ex : Ex} {args : List Operand} {ts : List TypeId} {dst : Option Tmp} {ρ : Operand → Value} {type : TypeId} {a : Act} (hst : St B L w fr.H) (he : ERel B L w fr.env a.tmps) (hev : ∀ x, VRel B L w (evalO G fr.env x) (ρ x))
    (h : sealOp P G fr args ts dst = some (ex, fr')) :
    ex = .normal ∧ ∃ v w' B' L', (Builtin.unsafeString_ ts.toArray type (args.map ρ).toArray).run P w = .ok v w' ∧ FS fr.k B L w fr.H fr.mv B' L' w' fr'.H fr'.mv ∧ St B' L' w' fr'.H ∧ fr'.k = fr.k ∧ ERel B' L' w' fr'.env (a.put dst v).tmps := by
  unfold sealOp at h
  split at h
  · rename_i n k pt it hargs
    have hr : VRelL B L w (args.map (evalO G fr.env)) (args.map ρ) := by
      refine ⟨by simp, fun i x y hx hy => ?_⟩
      simp only [List.getElem?_map, Option.map_eq_some_iff] at hx hy
      obtain ⟨z, hz, rfl⟩ := hx
      obtain ⟨z', hz', rfl⟩ := hy
      rw [hz] at hz'
      cases hz'
      exact hev z
    rw [hargs] at hr
    split at h
    case h_2 => cases h
    rename_i ty es e hn hp
    split at h
    case h_2 => cases h
    rename_i s hs
    split at h
    case isFalse => cases h
    rename_i hc
    obtain ⟨rfl, hco, rfl, hne, hmax⟩ := hc
    cases h
    refine ⟨rfl, ?_⟩
    obtain ⟨u1, u2, hu⟩ : ∃ u1 u2, args.map ρ = [u1, u2] := by
      have := hr.1
      generalize args.map ρ = q at this
      match q, this with
      | [x, y], _ => exact ⟨x, y, rfl⟩
    rw [hu] at hr
    have h1 := hr.2 0 _ _ rfl rfl
    have h2 := hr.2 1 _ _ rfl rfl
    cases h1
    cases h2.of_p
    rw [hu]
    have hrel := hst.rel n
    rw [hn] at hrel
    have hes := bytesX_spec hs
    obtain ⟨c, fz, hw, hle, hcc⟩ : ∃ c fz, w.heap[L.blk n]? = some (.cells c e fz) ∧ es.length ≤ c.size ∧ ∀ (i : Nat) x y, (flat es)[i]? = some x → c[i]? = some y → PRel B w x y := by
      cases hrel with
      | arr sz es c t fr hw hfr hz hsz hcap hle hs' hf h' => exact ⟨c, fr, hw, by omega, h'⟩
    have hlen : es.length = s.length := by rw [hes]; simp
    have hflat : flat es = es := by rw [hes]; exact flat_bytes s
    have hcell : ∀ j x, s[j]? = some x → w.cell? ((⟨L.blk n, 0, none⟩ : Addr).add j) = some (.int .u8 x.toNat) := by
      intro j x hx
      have hj : j < c.size := by have := (List.getElem?_eq_some_iff.1 hx).1; omega
      have hp := hcc j (byteP x) c[j] (by rw [hflat, hes]; simp [hx]) (by simp [hj])
      have : c[j] = .int .u8 x.toNat := by
        generalize c[j] = q at hp
        unfold byteP at hp
        cases hp
        rfl
      rw [Addr.add_mid, Nat.zero_add]
      simp [World.cell?, hw, hj, this]
    have hrun := Lib.run_unsafeString_row (P := P) w pt it type e hp hco (L.blk n) c.size (by simp [World.shape?, hw]) s hne (by omega) hmax hcell
    have hsc : SameCells w (w.freeze ⟨L.blk n, 0, none⟩ s.length) := freeze_sameCells w ⟨L.blk n, 0, none⟩ s.length hw
    obtain ⟨B1, hfs1, he1, hst1, hk1⟩ := Fr.freeze_sound (n := n) hst he
    have hH : (fr.freeze n).H = Heap.put (fr.H.map (HO.frz n es)) n .dead := by simp [Fr.freeze, hn]
    have hlive : (Heap.at fr.H n).live := by rw [hn]; trivial
    have hother : ∀ m, (Heap.at (fr.freeze n).H m).live → L.blk m ≠ L.blk n := by
      intro m hm e'
      by_cases hmn : m = n
      · subst hmn
        rw [hH, Heap.at_put_same] at hm
        exact hm
      · rw [hH, Heap.at_put_ne _ _ hmn, Heap.at_map_frz, HO.frz_live] at hm
        exact hmn (hst.inj m n hm hlive e')
    have hst2 : St B1 L (w.freeze ⟨L.blk n, 0, none⟩ s.length) (fr.freeze n).H :=
      ⟨fun m => (hst1.rel m).cellsEq hsc fun hl => freeze_other w _ _ _ (hother m hl), fun m hm => ⟨(hst1.own m hm).1, by rw [hsc.1]; exact (hst1.own m hm).2⟩, hst1.inj, fun b hb => by rw [hsc.1]; exact hst1.bnd b hb⟩
    have he2 : ERel B1 L (w.freeze ⟨L.blk n, 0, none⟩ s.length) (fr.freeze n).env a.tmps := ⟨he1.1, fun i x y hx hy => (he1.2 i x y hx hy).cellsEq hsc⟩
    have hrun' : (Builtin.unsafeString_ #[pt, it] type #[.pointer (some ⟨L.blk n, 0, none⟩), .int .i64 s.length]).run P w = .ok (.string ⟨s.toArray⟩) (w.freeze ⟨L.blk n, 0, none⟩ s.length) := hrun
    refine ⟨_, _, B1, L, ?_, ?_, hst2, hk1, he2.put dst (.p _ _ (.str s))⟩
    · simpa using hrun'
    · refine ⟨by rw [hsc.1]; exact Nat.le_refl _, ?_, fun b hb hno => freeze_other w _ _ _ (fun e' => hno n hlive e'.symm), hfs1.sub, hfs1.keep, hfs1.mvs, hfs1.loc, hfs1.fresh⟩
      unfold World.freeze; split <;> exact ⟨rfl, rfl, rfl⟩
  · rename_i pt it hargs
    have hr : VRelL B L w (args.map (evalO G fr.env)) (args.map ρ) := by
      refine ⟨by simp, fun i x y hx hy => ?_⟩
      simp only [List.getElem?_map, Option.map_eq_some_iff] at hx hy
      obtain ⟨z, hz, rfl⟩ := hx
      obtain ⟨z', hz', rfl⟩ := hy
      rw [hz] at hz'
      cases hz'
      exact hev z
    rw [hargs] at hr
    cases h
    obtain ⟨u1, u2, hu⟩ : ∃ u1 u2, args.map ρ = [u1, u2] := by
      have := hr.1
      generalize args.map ρ = q at this
      match q, this with
      | [x, y], _ => exact ⟨x, y, rfl⟩
    rw [hu] at hr
    have h1 := hr.2 0 _ _ rfl rfl
    have h2 := hr.2 1 _ _ rfl rfl
    cases h1.of_p
    cases h2.of_p
    rw [hu]
    have hrun := Lib.run_unsafeString_none (P := P) w pt it type
    exact ⟨rfl, _, w, B, L, hrun _, FS.refl _ _ _ _ _ _, hst, rfl, he.put dst (.p _ _ (.str []))⟩
  · cases h
end
end Go.Am
end

section
namespace Go.Am
open Go
def ExMatch (B : Nat → Prop) (L : Loc) (w : World) : Ex → Exit → Prop
  | .normal, .normal => True
  | .exit i, .exit j => i = j
  | .ret, .ret => True
  | .pan v, .panic [⟨u, false, false⟩] => VRel B L w v u
  | _, _ => False
def EPost (k : Nat) (B : Nat → Prop) (L : Loc) (w : World) (H : Heap) (mv : List Nat) (d : List Deferred) (ex : Ex) (fr' : Fr) (e : Exit) (a' : Act) (w' : World) : Prop :=
  ∃ B' L', FS k B L w H mv B' L' w' fr'.H fr'.mv ∧ ERel B' L' w' fr'.env a'.tmps ∧ St B' L' w' fr'.H ∧ fr'.k = k ∧ a'.defers = d ∧ ExMatch B' L' w' ex e
theorem EPost.trans {k : Nat} {B B' : Nat → Prop} {L L' : Loc} {w w' : World} {H H' : Heap} {mv mv' : List Nat} {d : List Deferred} {ex : Ex} {fr' : Fr} {e : Exit} {a' : Act} {w'' : World}
    (h : FS k B L w H mv B' L' w' H' mv') (g : EPost k B' L' w' H' mv' d ex fr' e a' w'') : EPost k B L w H mv d ex fr' e a' w'' := by
  obtain ⟨B2, L2, h1, h2, h3, h4, h5, h6⟩ := g
  exact ⟨B2, L2, h.trans h1, h2, h3, h4, h5, h6⟩
section
variable {P : Program} {G : Nat → Option PV} {pol : Pol} {C : CallF}
theorem targetV_sound {B : Nat → Prop} {L : Loc} {w : World} {v : V} {u : Value} {f : FuncId} {cap : List V} (h : VRel B L w v u) (ht : targetV v = some (f, cap)) : ∃ c : List Value, u = .func (.func f) #[] c.toArray ∧ VRelL B L w cap c := by
  unfold targetV at ht
  split at ht
  · cases ht; cases h.of_p; exact ⟨[], rfl, VRelL.nil⟩
  · cases ht
    cases h with
    | func f l c hl h' => exact ⟨c, rfl, hl, h'⟩
  · cases ht
theorem rel_args {B : Nat → Prop} {L : Loc} {w : World} {ev : Operand → V} {ρ : Operand → Value} (hev : ∀ x, VRel B L w (ev x) (ρ x)) : ∀ (l : List Operand), VRelL B L w (l.map ev) (l.map ρ)
  | [] => VRelL.nil
  | x :: l => VRelL.cons (hev x) (rel_args hev l)
theorem stepOp_sound (hC : SoundC P G C) {B : Nat → Prop} {L : Loc} {w : World} {o : Oper} {fr fr' : Fr} {ex : Ex} {a : Act} (hst : St B L w fr.H) (he : ERel B L w fr.env a.tmps) (hg : GOk G B w)
    (h : stepOp P G pol C o fr = some (ex, fr')) (next : Act → World → Prop) (Q : Exit → Act → World → Prop)
    (hn : ∀ a' w', EPost fr.k B L w fr.H fr.mv a.defers ex fr' .normal a' w' → next a' w') (hq : ∀ e a' w', e ≠ .normal → EPost fr.k B L w fr.H fr.mv a.defers ex fr' e a' w' → Q e a' w') : o.wp P a w next Q := by
  unfold stepOp at h
  split at h
  · -- a call
    rename_i g args ts hop
    unfold callOp at h
    split at h
    · cases h
    rename_i f cap ht
    simp only [] at h
    obtain ⟨fr1, hfr1⟩ : ∃ fr1 : Fr, (if pol.byref f = true then fr else fr.freezeAll ((V.namesL (args.toList.map (evalO G fr.env) ++ cap)).filter fun n => isArr (Heap.at fr.H n))) = fr1 := ⟨_, rfl⟩
    rw [hfr1] at h
    obtain ⟨B1, hfs1, he1, hst1, hk1⟩ : ∃ B1, FS fr.k B L w fr.H fr.mv B1 L w fr1.H fr1.mv ∧ ERel B1 L w fr1.env a.tmps ∧ St B1 L w fr1.H ∧ fr1.k = fr.k := by
      rw [← hfr1]
      split
      · exact ⟨B, FS.refl _ _ _ _ _ _, he, hst, rfl⟩
      · exact Fr.freezeAll_sound _ hst he
    have hg1 := hg.step (hfs1.step hst)
    split at h
    · cases h
    rename_i f' cap' ht'
    have hev := evalO_sound he1 hg1
    obtain ⟨c, hρ, hc⟩ := targetV_sound (hev g) ht'
    have hargs := (rel_args hev args.toList).append hc
    have hrun : (execOp a.eval o).run P w = (callFunc f' (args.toList.map a.eval ++ c).toArray).run P w := by
      have e : args.map a.eval ++ c.toArray = (args.toList.map a.eval ++ c).toArray := by apply Array.ext'; simp
      simp only [execOp, hop, resolve, hρ, Deferred.ofValue]
      simp [invoke, e]
    have key : ∀ (out : Out) (fr2 : Fr), callS C fr1 f' (args.toList.map (evalO G fr1.env) ++ cap') = some (out, fr2) →
        (∀ v, out = .ret v → ex = .normal ∧ fr' = { fr2 with env := putO fr2.env o.dst v }) → (∀ v, out = .pan v → ex = .pan v ∧ fr' = fr2) → o.wp P a w next Q := by
      intro out fr2 hcs hret hpan
      have hcall := callS_sound hC hst1 he1 hg1 hargs hcs
      have fin : ∀ (e : Ending) (w' : World), (∃ B' L', FS fr1.k B1 L w fr1.H fr1.mv B' L' w' fr2.H fr2.mv ∧ ERel B' L' w' fr2.env a.tmps ∧ St B' L' w' fr2.H ∧ OutRel B' L' w' out e ∧ fr2.k = fr1.k) →
          match e with
          | .returned v => next (a.put o.dst v) w'
          | .panicked chain => Q (.panic chain) a w'
          | .outgrown => LetsOut Q := by
        rintro e w' ⟨B', L', hfs, he', hst', hout, hk'⟩
        rw [hk1] at hfs hk'
        cases out with
        | ret v =>
          obtain ⟨rfl, rfl⟩ := hret v rfl
          cases e with
          | returned u => exact hn _ _ ⟨B', L', hfs1.trans hfs, he'.put o.dst hout, hst', hk', by cases o.dst <;> rfl, trivial⟩
          | _ => exact hout.elim
        | pan v =>
          obtain ⟨rfl, rfl⟩ := hpan v rfl
          cases e with
          | panicked ch => exact hq _ _ _ (by simp) ⟨B', L', hfs1.trans hfs, he', hst', hk', rfl, by
              unfold OutRel at hout
              split at hout
              · rename_i e1 e2; cases e1
              · rename_i e1 e2; cases e1; cases e2; exact hout
              · exact hout.elim⟩
          | _ => exact hout.elim
      unfold Oper.wp
      rw [hrun]
      rcases hcall with ⟨h1, h2⟩ | ⟨v, w', h1, h2⟩
      · rw [h1, Oper.upon_enter]
        exact h2.mono fun e w' hh => by have := fin e w' hh; cases e <;> exact this
      · rw [h1, Oper.upon_value]
        exact fin _ _ h2
    split at h
    · rename_i v fr2 hcs
      cases h
      exact key _ _ hcs (fun v' e => by cases e; exact ⟨rfl, rfl⟩) (fun v' e => by cases e)
    · rename_i v fr2 hcs
      cases h
      exact key _ _ hcs (fun v' e => by cases e) (fun v' e => by cases e; exact ⟨rfl, rfl⟩)
    · cases h
  · -- a string of bytes
    rename_i args ts hop
    obtain ⟨rfl, v, w', B', L', hrun, hfs, hst2, hk2, he2⟩ := sealOp_run (P := P) (ρ := a.eval) (type := o.type) hst he (fun x => evalO_sound he hg x) h
    have hR : (execOp a.eval o).run P w = .ok (.value v) w' := by
      have e1 : (execOp a.eval o).run P w = (do let u ← Builtin.unsafeString_ ts o.type (args.map a.eval); pure (.value u) : Sem Next).run P w := by
        simp [execOp, hop, resolve, invoke, builtin]
      have e2 : Builtin.unsafeString_ ts o.type (args.map a.eval) = Builtin.unsafeString_ ts.toList.toArray o.type (args.toList.map a.eval).toArray := by
        congr 1
        apply Array.ext'; simp
      rw [e1, e2, Sem.run_bind, hrun]
      rfl
    unfold Oper.wp
    rw [hR, Oper.upon_value]
    exact hn _ _ ⟨B', L', hfs, he2, hst2, hk2, by cases o.dst <;> rfl, trivial⟩
  · -- a panic
    rename_i x hop
    have hx := evalO_sound he hg x
    have fin : ∀ (t : TypeId) (u : Value) (v : V), a.eval x = .iface t u → VRel B L w v (.iface t u) → ex = .pan v → fr' = fr → o.wp P a w next Q := by
      rintro t u v hρ hv rfl rfl
      have hrun : (execOp a.eval o).run P w = .halt (.panic (.iface t u)) w := by
        simp [execOp, hop, hρ, Instr.panic]
      unfold Oper.wp
      rw [hrun, Oper.upon_panic]
      exact hq _ _ _ (by simp) ⟨B, L, FS.refl _ _ _ _ _ _, he, hst, rfl, rfl, hv⟩
    split at h
    · rename_i t d hxv
      cases h
      rw [hxv] at hx
      generalize hρ : a.eval x = vx at hx
      have hp := hx.of_p
      cases hp with
      | iface t d u hu => exact fin t u _ hρ hx rfl rfl
    · rename_i t d hxv
      cases h
      rw [hxv] at hx
      generalize hρ : a.eval x = vx at hx
      have hx' := hx
      cases hx with
      | iface t d u hu => exact fin t u _ hρ hx' rfl rfl
    · cases h
  · -- any other
    simp only [] at h
    obtain ⟨B1, hfs1, he1, hst1, hk1⟩ := Fr.freezeAll_sound (preNames (evalO G fr.env) o.op) hst he
    have hg1 := hg.step (hfs1.step hst)
    split at h
    case h_2 => cases h
    rename_i r hr
    split at h
    case h_2 => cases h
    rename_i fr2 hfr2
    cases h
    have hev := evalO_sound he1 hg1
    have hnew : r.eff.isNew = true → (∀ m, (fr.freezeAll (preNames (evalO G fr.env) o.op)).H.length ∉ (Heap.at (fr.freezeAll (preNames (evalO G fr.env) o.op)).H m).names) ∧ ∀ x, (fr.freezeAll (preNames (evalO G fr.env) o.op)).H.length ∉ (evalO G (fr.freezeAll (preNames (evalO G fr.env) o.op)).env x).names := by
      intro hnw
      cases hre : r.eff with
      | new oo =>
        rw [hre] at hfr2
        simp only [Fr.eff] at hfr2
        split at hfr2
        · rename_i hc
          obtain ⟨h1, h2⟩ := Fr.fresh_spec hc.1
          exact ⟨h2, fun x => evalO_names h1 x⟩
        · cases hfr2
      | _ => rw [hre] at hnw; simp [Eff.isNew] at hnw
    have hd := aopA_sound (o := o) hst1 hev hnew hr
    obtain ⟨v, w', B', L', hR, hfs, he2, hst2, hv, hk2⟩ := Done.frame he1 hd hfr2
    rw [hk1] at hfs hk2
    have hpost : EPost fr.k B L w fr.H fr.mv a.defers .normal { fr2 with env := putO fr2.env o.dst r.val } .normal (a.put o.dst v) w' :=
      ⟨B', L', hfs1.trans hfs, he2.put o.dst hv, hst2, hk2, by cases o.dst <;> rfl, trivial⟩
    unfold Oper.wp
    rcases hR with hR | ⟨hR, rfl⟩
    · rw [hR, Oper.upon_value]; exact hn _ _ hpost
    · rw [hR, Oper.upon_skip]; exact hn _ _ hpost
theorem yielded_of {B : Nat → Prop} {L : Loc} {w : World} {ops : Array Oper} {env : List V} {tmps : Array Value} {j d : Nat} {b : Bool} (he : ERel B L w env tmps) (hd : (ops[j]?).bind (·.dst) = some d) (hb : env[d]? = some (.p (.bool b))) :
    yielded ops tmps j = some b := by
  have hlt := (List.getElem?_eq_some_iff.1 hb).1
  have hlt' : d < tmps.size := by have := he.1; simp at this; omega
  have hv := he.2 d _ tmps[d] hb (by simp [hlt'])
  have hp := hv.of_p
  generalize hq : tmps[d] = q at hp
  cases hp
  simp [yielded, hd, hlt', hq]
theorem yielded_und {B : Nat → Prop} {L : Loc} {w : World} {ops : Array Oper} {env : List V} {tmps : Array Value} {j d : Nat} (he : ERel B L w env tmps) (hd : (ops[j]?).bind (·.dst) = some d) (hb : env[d]? = some (.p (.tup []))) :
    yielded ops tmps j = none := by
  have hlt := (List.getElem?_eq_some_iff.1 hb).1
  have hlt' : d < tmps.size := by have := he.1; simp at this; omega
  have hv := he.2 d _ tmps[d] hb (by simp [hlt'])
  have hp := hv.of_p
  generalize hq : tmps[d] = q at hp
  cases hp
  simp [yielded, hd, hlt', hq]
theorem ERel.lit {env : List V} {d : Nat} {b : Bool} (hb : env[d]? = some (.p (.bool b))) : env.set d (.p (.bool b)) = env := by
  apply List.ext_getElem?
  intro i
  rw [List.getElem?_set]
  split
  · rename_i e; subst e
    rw [if_pos (List.getElem?_eq_some_iff.1 hb).1, hb]
  · rfl
theorem runOps_sound (hC : SoundC P G C) {ops : Array Oper} : ∀ (l : List Nat) {B : Nat → Prop} {L : Loc} {w : World} {fr fr' : Fr} {ex : Ex} {a : Act} (_ : St B L w fr.H) (_ : ERel B L w fr.env a.tmps) (_ : GOk G B w)
    (_ : runOps P G pol C ops l fr = some (ex, fr')) (Q : Exit → Act → World → Prop) (_ : ∀ e a' w', EPost fr.k B L w fr.H fr.mv a.defers ex fr' e a' w' → Q e a' w'), wpOps P ops Q l a w
  | [], B, L, w, fr, fr', ex, a, hst, he, hg, h, Q, hQ => by
    simp only [runOps, Option.some.injEq, Prod.mk.injEq] at h
    obtain ⟨rfl, rfl⟩ := h
    exact hQ _ _ _ ⟨B, L, FS.refl _ _ _ _ _ _, he, hst, rfl, rfl, trivial⟩
  | i :: rest, B, L, w, fr, fr', ex, a, hst, he, hg, h, Q, hQ => by
    simp only [runOps] at h
    simp only [wpOps]
    cases ho : ops[i]? with
    | none => rw [ho] at h; cases h
    | some o =>
      rw [ho] at h
      simp only [] at h ⊢
      -- one operation, then the rest
      have one : ∀ (frx : Fr), frx.H = fr.H → frx.k = fr.k → frx.mv = fr.mv → ERel B L w frx.env a.tmps →
          (match stepOp P G pol C o frx with
            | some (.normal, fr') => runOps P G pol C ops rest fr'
            | x => x) = some (ex, fr') → o.wp P a w (wpOps P ops Q rest) Q := by
        intro frx hH hk hm hex hx
        have hstx : St B L w frx.H := by rw [hH]; exact hst
        cases hs : stepOp P G pol C o frx with
        | none => rw [hs] at hx; cases hx
        | some p =>
          obtain ⟨ex1, fr1⟩ := p
          rw [hs] at hx
          refine stepOp_sound hC hstx hex hg hs (wpOps P ops Q rest) Q ?_ ?_
          · intro a1 w1 hp
            rw [hH, hk, hm] at hp
            obtain ⟨B1, L1, hfs, he1, hst1, hk1, hd1, hm1⟩ := hp
            cases ex1 with
            | normal =>
              simp only [] at hx
              have hg1 := hg.step (hfs.step hst)
              refine runOps_sound hC rest hst1 he1 hg1 hx Q fun e a2 w2 hp2 => hQ e a2 w2 ?_
              rw [hk1, hd1] at hp2
              exact EPost.trans hfs hp2
            | _ => exact hm1.elim
          · intro e a1 w1 hne hp
            rw [hH, hk, hm] at hp
            cases ex1 with
            | normal =>
              obtain ⟨B1, L1, hfs, he1, hst1, hk1, hd1, hm1⟩ := hp
              cases e <;> first | exact absurd rfl hne | exact hm1.elim
            | _ =>
              simp only [Option.some.injEq, Prod.mk.injEq] at hx
              obtain ⟨rfl, rfl⟩ := hx
              exact hQ e a1 w1 hp
      cases hgd : o.guard with
      | none =>
        rw [hgd] at h
        simp only [] at h
        rw [if_pos (by simp [Region.wanted, hgd])]
        exact .inl (one fr rfl rfl rfl he h)
      | some p =>
        obtain ⟨j, want⟩ := p
        rw [hgd] at h
        simp only [] at h
        cases hd : (ops[j]?).bind (·.dst) with
        | none => rw [hd] at h; cases h
        | some d =>
          rw [hd] at h
          simp only [] at h
          have skip : ∀ (_ : ¬ Region.wanted o (yielded ops a.tmps) = true) (_ : runOps P G pol C ops rest { fr with env := putO fr.env o.dst (.p (.tup [])) } = some (ex, fr')),
              if Region.wanted o (yielded ops a.tmps) = true then (o.wp P a w (wpOps P ops Q rest) Q ∨ (o.asks P a w ∧ LetsOut Q)) else wpOps P ops Q rest (a.put o.dst undef) w := by
            intro hwn h
            rw [if_neg hwn]
            have he2 : ERel B L w (putO fr.env o.dst (.p (.tup []))) (a.put o.dst undef).tmps := he.put o.dst (VRel.p _ _ (PRel.tup [] [] rfl (by simp)))
            refine runOps_sound hC rest (fr := { fr with env := putO fr.env o.dst (.p (.tup [])) }) hst he2 hg h Q fun e a2 w2 hp2 => hQ e a2 w2 ?_
            have hdd : (a.put o.dst undef).defers = a.defers := by cases o.dst <;> rfl
            rw [hdd] at hp2
            exact hp2
          split at h
          case h_3 => cases h
          case h_2 =>
            rename_i hb
            refine skip ?_ h
            simp [Region.wanted, hgd, yielded_und he hd hb]
          rename_i b hb
          have hy := yielded_of he hd hb
          split at h
          · rename_i e
            subst e
            rw [if_pos (by simp [Region.wanted, hgd, hy])]
            exact .inl (one { fr with env := fr.env.set d (.p (.bool b)) } rfl rfl rfl (by rw [ERel.lit hb]; exact he) h)
          · rename_i hne
            have hbn : b = !want := by cases b <;> cases want <;> simp_all
            have hwn : ¬ Region.wanted o (yielded ops a.tmps) = true := by
              simp only [Region.wanted, hgd, hy]
              simpa using hne
            rw [← hbn, ERel.lit hb] at h
            exact skip hwn h
def SoundL (P : Program) (G : Nat → Option PV) (Lp : LoopF) : Prop :=
  ∀ (b : Code) {B : Nat → Prop} {L : Loc} {w : World} {fr fr' : Fr} {ex : Ex} {a : Act}, St B L w fr.H → ERel B L w fr.env a.tmps → GOk G B w → Lp b fr = some (ex, fr') →
    ∀ Q : Exit → Act → World → Prop, (∀ e a' w', EPost fr.k B L w fr.H fr.mv a.defers ex fr' e a' w' → Q e a' w') → (Code.loop b).wp P Q a w
def SoundD (P : Program) (G : Nat → Option PV) (Dr : Array Oper → Fr → Option (Ex × Fr)) : Prop :=
  ∀ (id : Nat) (ops : Array Oper) {B : Nat → Prop} {L : Loc} {w : World} {fr fr' : Fr} {ex : Ex} {a : Act}, St B L w fr.H → ERel B L w fr.env a.tmps → GOk G B w → Dr ops fr = some (ex, fr') →
    ∀ Q : Exit → Act → World → Prop, (∀ e a' w', EPost fr.k B L w fr.H fr.mv a.defers ex fr' e a' w' → Q e a' w') → (Code.region id ops true).wp P Q a w
theorem exec0_sound {Lp : LoopF} {Dr : Array Oper → Fr → Option (Ex × Fr)} (hC : SoundC P G C) (hL : SoundL P G Lp) (hD : SoundD P G Dr) : ∀ (c : Code) {B : Nat → Prop} {L : Loc} {w : World} {fr fr' : Fr} {ex : Ex} {a : Act}
    (_ : St B L w fr.H) (_ : ERel B L w fr.env a.tmps) (_ : GOk G B w) (_ : exec0 P G pol C Lp Dr c fr = some (ex, fr')) (Q : Exit → Act → World → Prop)
    (_ : ∀ e a' w', EPost fr.k B L w fr.H fr.mv a.defers ex fr' e a' w' → Q e a' w'), c.wp P Q a w := by
  intro c
  induction c with
  | skip =>
    intro B L w fr fr' ex a hst he hg h Q hQ
    simp only [exec0, Option.some.injEq, Prod.mk.injEq] at h
    obtain ⟨rfl, rfl⟩ := h
    exact wp_skip (hQ _ _ _ ⟨B, L, FS.refl _ _ _ _ _ _, he, hst, rfl, rfl, trivial⟩)
  | label l =>
    intro B L w fr fr' ex a hst he hg h Q hQ
    simp only [exec0, Option.some.injEq, Prod.mk.injEq] at h
    obtain ⟨rfl, rfl⟩ := h
    exact wp_label (hQ _ _ _ ⟨B, L, FS.refl _ _ _ _ _ _, he, hst, rfl, rfl, trivial⟩)
  | region id ops draw =>
    intro B L w fr fr' ex a hst he hg h Q hQ
    cases draw with
    | false => exact wp_region (runOps_sound hC _ hst he hg (by simpa [exec0] using h) Q hQ)
    | true => exact hD id ops hst he hg (by simpa [exec0] using h) Q hQ
  | seq x y ihx ihy =>
    intro B L w fr fr' ex a hst he hg h Q hQ
    simp only [exec0] at h
    refine wp_seq ?_
    cases hx : exec0 P G pol C Lp Dr x fr with
    | none => rw [hx] at h; cases h
    | some p =>
      obtain ⟨ex1, fr1⟩ := p
      rw [hx] at h
      refine ihx hst he hg hx _ fun e a1 w1 hp => ?_
      cases ex1 with
      | normal =>
        simp only [] at h
        obtain ⟨B1, L1, hfs, he1, hst1, hk1, hd1, hm1⟩ := hp
        cases e with
        | normal =>
          refine ihy hst1 he1 (hg.step (hfs.step hst)) h Q fun e a2 w2 hp2 => hQ e a2 w2 ?_
          rw [hk1, hd1] at hp2
          exact EPost.trans hfs hp2
        | _ => exact hm1.elim
      | _ =>
        simp only [Option.some.injEq, Prod.mk.injEq] at h
        obtain ⟨rfl, rfl⟩ := h
        cases e with
        | normal => obtain ⟨_, _, _, _, _, _, _, hm1⟩ := hp; exact hm1.elim
        | _ => exact hQ _ _ _ hp
  | cond c x y ihx ihy =>
    intro B L w fr fr' ex a hst he hg h Q hQ
    simp only [exec0] at h
    split at h
    · rename_i t hc
      have hv := evalO_sound he hg c
      rw [hc] at hv
      have hp := hv.of_p
      generalize hq : a.eval c = q at hp
      cases hp
      refine wp_cond hq ?_
      split at h
      · rename_i ht; rw [if_pos ht]; exact ihx hst he hg h Q hQ
      · rename_i ht; rw [if_neg ht]; exact ihy hst he hg h Q hQ
    · cases h
  | block id b ih =>
    intro B L w fr fr' ex a hst he hg h Q hQ
    simp only [exec0] at h
    refine wp_block ?_
    cases hx : exec0 P G pol C Lp Dr b fr with
    | none => rw [hx] at h; cases h
    | some p =>
      obtain ⟨ex1, fr1⟩ := p
      rw [hx] at h
      refine ih hst he hg hx _ fun e a1 w1 hp => ?_
      cases ex1 with
      | exit j =>
        simp only [] at h
        obtain ⟨B1, L1, hfs, he1, hst1, hk1, hd1, hm1⟩ := hp
        cases e with
        | exit i =>
          have hji : j = i := hm1
          subst hji
          simp only [Exit.inBlock]
          split at h
          · rename_i e; subst e
            simp only [Option.some.injEq, Prod.mk.injEq] at h
            obtain ⟨rfl, rfl⟩ := h
            rw [if_pos rfl]
            exact hQ _ _ _ ⟨B1, L1, hfs, he1, hst1, hk1, hd1, trivial⟩
          · rename_i e
            simp only [Option.some.injEq, Prod.mk.injEq] at h
            obtain ⟨rfl, rfl⟩ := h
            rw [if_neg e]
            exact hQ _ _ _ ⟨B1, L1, hfs, he1, hst1, hk1, hd1, rfl⟩
        | _ => exact hm1.elim
      | _ =>
        simp only [Option.some.injEq, Prod.mk.injEq] at h
        obtain ⟨rfl, rfl⟩ := h
        cases e with
        | exit i => obtain ⟨_, _, _, _, _, _, _, hm1⟩ := hp; exact hm1.elim
        | _ => exact hQ _ _ _ hp
  | loop b ih =>
    intro B L w fr fr' ex a hst he hg h Q hQ
    simp only [exec0] at h
    exact hL b hst he hg h Q hQ
  | exit id =>
    intro B L w fr fr' ex a hst he hg h Q hQ
    simp only [exec0, Option.some.injEq, Prod.mk.injEq] at h
    obtain ⟨rfl, rfl⟩ := h
    exact wp_exit (hQ _ _ _ ⟨B, L, FS.refl _ _ _ _ _ _, he, hst, rfl, rfl, rfl⟩)
  | ret =>
    intro B L w fr fr' ex a hst he hg h Q hQ
    simp only [exec0, Option.some.injEq, Prod.mk.injEq] at h
    obtain ⟨rfl, rfl⟩ := h
    exact wp_ret (hQ _ _ _ ⟨B, L, FS.refl _ _ _ _ _ _, he, hst, rfl, rfl, trivial⟩)
  | _ =>
    intro B L w fr fr' ex a hst he hg h Q hQ
    simp only [exec0] at h
    cases h
end
end Go.Am
end

section
namespace Go.Am
open Go
def firstReg : Code → Nat
  | .region id _ _ => id
  | .seq a _ => firstReg a
  | .block _ b => firstReg b
  | .cond _ a _ => firstReg a
  | .loop b => firstReg b
  | _ => 0
def maskFrom (ks : List Nat) : Nat → List V → List V
  | _, [] => []
  | i, v :: l => (if ks.contains i = true then v else .junk) :: maskFrom ks (i + 1) l
def normFr (keep : Option (List Nat)) (fr : Fr) : Option Fr :=
  match keep with
  | none => some fr
  | some ks =>
    let env1 := maskFrom ks 0 fr.env
    let ns := reachL (Heap.at fr.H) 400 (List.range fr.k ++ V.namesL env1) []
    if ns.take fr.k = List.range fr.k ∧ (V.namesL env1).all (ns.contains ·) = true ∧ closedN (Heap.at fr.H) ns = true ∧ ns.Nodup then
      some { env := env1.map (V.ren (ns.idxOf ·)), H := ns.map fun n => (Heap.at fr.H n).ren (ns.idxOf ·), k := fr.k, mv := fr.mv }
    else none
abbrev DrawG := CallF → Array Oper → Fr → Option (Ex × Fr)
def exN (P : Program) (G : Nat → Option PV) (pol : Pol) (prim : CallF) (Dr : DrawG) : Nat → CallF × (FuncId → LoopF)
  | 0 => (fun _ _ _ => none, fun _ _ _ => none)
  | n + 1 =>
    (fun f args H => match prim f args H with
      | some r => some r
      | none => callBody P G pol (exN P G pol prim Dr n).1 ((exN P G pol prim Dr n).2 f) (Dr (exN P G pol prim Dr n).1) f args H,
     fun f b fr => match normFr (pol.mask f (firstReg b)) fr with
      | none => none
      | some fr0 => match exec0 P G pol (exN P G pol prim Dr n).1 ((exN P G pol prim Dr n).2 f) (Dr (exN P G pol prim Dr n).1) b fr0 with
        | some (.normal, fr') => (exN P G pol prim Dr n).2 f b fr'
        | x => x)
section
variable {P : Program} {G : Nat → Option PV} {pol : Pol} {C : CallF}
theorem FS.subH {k : Nat} {B : Nat → Prop} {L : Loc} {w : World} {H : Heap} {mv : List Nat} {ns : List Nat} (hk : ns.take k = List.range k) : FS k B L w H mv B (L.sub ns) w (Heap.sub H ns) mv := by
  refine ⟨Nat.le_refl _, Same.refl w, fun _ _ _ => rfl, fun _ _ h => h, fun _ _ h _ => h, fun _ h => h, fun n hn _ => ?_, fun i hi => ?_⟩
  · have h1 : (ns.take k)[n]? = some n := by rw [hk]; simp [hn]
    rw [List.getElem?_take, if_pos hn] at h1
    simp [LocEq, Loc.sub, h1]
  · rw [Heap.at_sub] at hi
    cases hn : ns[i]? with
    | none => rw [hn] at hi; exact hi.elim
    | some n => rw [hn] at hi; exact .inl ⟨n, (HO.ren_live _ _).1 hi, by simp [Loc.sub, hn]⟩
theorem ERel.ren {B : Nat → Prop} {L : Loc} {w : World} {env : List V} {tmps : Array Value} {ns : List Nat} (h : ERel B L w env tmps) (hn : (V.namesL env).all (ns.contains ·) = true) : ERel B (L.sub ns) w (env.map (V.ren (ns.idxOf ·))) tmps := by
  refine ⟨by simpa using h.1, fun i x y hx hy => ?_⟩
  simp only [List.getElem?_map, Option.map_eq_some_iff] at hx
  obtain ⟨z, hz, rfl⟩ := hx
  refine (h.2 i z y hz hy).ren fun n hnz => L.sub_eq ?_
  simp only [List.all_eq_true] at hn
  simpa using hn n (V.names_mem hz hnz)
theorem maskFrom_rel {B : Nat → Prop} {L : Loc} {w : World} (ks : List Nat) : ∀ (env : List V) (i : Nat) (c : List Value), VRelL B L w env c → VRelL B L w (maskFrom ks i env) c
  | [], _, c, h => h
  | v :: env, i, [], h => by have := h.1; simp at this
  | v :: env, i, u :: c, h => by
    have hrest : VRelL B L w env c := ⟨by have := h.1; simpa using this, fun k x y hx hy => h.2 (k + 1) x y (by simpa using hx) (by simpa using hy)⟩
    refine VRelL.cons ?_ (maskFrom_rel ks env (i + 1) c hrest)
    split
    · exact h.2 0 v u rfl rfl
    · exact .junk _
theorem normFr_sound {keep : Option (List Nat)} {B : Nat → Prop} {L : Loc} {w : World} {fr fr' : Fr} {tmps : Array Value} (hst : St B L w fr.H) (he : ERel B L w fr.env tmps) (h : normFr keep fr = some fr') :
    ∃ L', FS fr.k B L w fr.H fr.mv B L' w fr'.H fr'.mv ∧ ERel B L' w fr'.env tmps ∧ St B L' w fr'.H ∧ fr'.k = fr.k := by
  unfold normFr at h
  split at h
  · cases h; exact ⟨L, FS.refl _ _ _ _ _ _, he, hst, rfl⟩
  · rename_i ks
    simp only [] at h
    generalize hns : reachL (Heap.at fr.H) 400 (List.range fr.k ++ V.namesL (maskFrom ks 0 fr.env)) [] = ns at h
    split at h
    case isFalse => cases h
    rename_i hc
    obtain ⟨hk, hn, hcl, hnd⟩ := hc
    cases h
    exact ⟨L.sub ns, FS.subH hk, ERel.ren (maskFrom_rel ks _ _ _ he) hn, hst.sub hnd (closedN_spec hcl), rfl⟩
def LoopWp (P : Program) (c : Code) (Q : Exit → Act → World → Prop) (a : Act) (w : World) : Prop :=
  ∀ (b : Frame) (k : List Item) (cs : List Frame), ∃ e a' w', Q e a' w' ∧ Arrives P (lone (b.at a (.code c :: .inLoop c :: k)) cs w) b k cs e a' w'
theorem LoopWp.loop {c : Code} {Q : Exit → Act → World → Prop} {a : Act} {w : World} (h : LoopWp P c Q a w) : (Code.loop c).wp P Q a w :=
  fun b k cs => let ⟨e, a', w', q, r⟩ := h b k cs; ⟨e, a', w', q, .of_steps (.one step_loop) r⟩
theorem LoopWp.round {c : Code} {Q : Exit → Act → World → Prop} {a : Act} {w : World} (h : c.wp P (Exit.then (LoopWp P c Q) Q) a w) : LoopWp P c Q a w := by
  intro b k cs
  obtain ⟨e, a₁, w₁, hq, harr⟩ := h b (.inLoop c :: k) cs
  cases e with
  | normal =>
    obtain ⟨e₂, a₂, w₂, hq₂, harr₂⟩ := hq b k cs
    exact ⟨e₂, a₂, w₂, hq₂, .of_steps (Steps.trans harr (.one step_inLoop)) harr₂⟩
  | exit id => exact ⟨_, a₁, w₁, hq, .pass (x := .inLoop c) rfl (fun _ _ => .inl (by simp)) harr⟩
  | goto l => exact ⟨_, a₁, w₁, hq, .pass (x := .inLoop c) rfl (fun _ _ => .inl (by simp)) harr⟩
  | ret => exact ⟨_, a₁, w₁, hq, .pass (x := .inLoop c) rfl (fun _ _ => .inl (by simp)) harr⟩
  | panic ch => exact ⟨_, a₁, w₁, hq, .pass (x := .inLoop c) rfl (fun _ _ => .inl (by simp)) harr⟩
  | outgrown => exact ⟨_, a₁, w₁, hq, .pass (x := .inLoop c) rfl (fun _ _ => .inl (by simp)) harr⟩
def resSem (tmps : Array Value) : ResultVar → Sem Value
  | .tmp t => pure (tmps.getD t undef)
  | .cell a t => do loadVar t (← asAddr (tmps.getD a undef))
theorem resultsA_sound {B : Nat → Prop} {L : Loc} {w : World} {fr : Fr} {tmps : Array Value} (hst : St B L w fr.H) (he : ERel B L w fr.env tmps) : ∀ (rs : List ResultVar) (vs : List V), resultsA P fr rs = some vs →
    ∃ us : List Value, (rs.mapM (resSem tmps)).run P w = .ok us w ∧ VRelL B L w vs us
  | [], vs, h => by simp [resultsA] at h; subst h; exact ⟨[], by simp, VRelL.nil⟩
  | .tmp t :: l, vs, h => by
    simp only [resultsA] at h
    split at h
    · rename_i v vs' hv hvs
      cases h
      obtain ⟨us, hus, hr⟩ := resultsA_sound hst he l vs' hvs
      have := he.get t
      rw [hv] at this
      exact ⟨_ :: us, by simp [List.mapM_cons, hus, resSem], VRelL.cons this hr⟩
    · cases h
  | .cell a t :: l, vs, h => by
    simp only [resultsA] at h
    split at h
    · rename_i av vs' hv hvs
      split at h
      · rename_i v hl
        cases h
        obtain ⟨us, hus, hr⟩ := resultsA_sound hst he l vs' hvs
        have hav := he.get a
        rw [hv] at hav
        obtain ⟨u, hu, hru⟩ := loadA_sound hst hav hl
        have hu' : (do loadVar t (← asAddr (tmps.getD a undef)) : Sem Value).run P w = .ok u w := by
          rw [← hu]
          simp only [Option.getD_some] at hav
          generalize tmps.getD a undef = q at hu
          unfold Instr.loadAt at hu ⊢
          cases q with
          | pointer p => cases p with
            | none => simp [Instr.sureAddr] at hu
            | some x => rfl
          | _ => simp [Instr.sureAddr] at hu
        have hr' : (resSem tmps (.cell a t)).run P w = .ok u w := hu'
        exact ⟨u :: us, by simp only [List.mapM_cons, Sem.run_bind, hr', Result.andThen_ok, hus]; rfl, VRelL.cons hru hr⟩
      · cases h
    · cases h
theorem results_run {B : Nat → Prop} {L : Loc} {w : World} {fr : Fr} {tmps : Array Value} {fn : Func} {vs : List V} (hst : St B L w fr.H) (he : ERel B L w fr.env tmps) (h : resultsA P fr fn.results.toList = some vs) :
    ∃ u, (results fn tmps).run P w = .ok u w ∧ VRel B L w (tupV vs) u := by
  obtain ⟨us, hus, hr⟩ := resultsA_sound hst he _ _ h
  have hm : (fn.results.mapM (resSem tmps)).run P w = .ok us.toArray w := by
    rw [Array.mapM_eq_mapM_toList]
    simp only [Sem.run_map, hus, Result.andThen_ok]
  have hrun : (results fn tmps).run P w = .ok (if h : us.toArray.size = 1 then us.toArray[0] else .tuple us.toArray) w := by
    have e : results fn tmps = (do let vs ← fn.results.mapM (resSem tmps); pure (if h : vs.size = 1 then vs[0] else .tuple vs)) := by
      unfold results
      congr 2
    rw [e, Sem.run_bind, hm]
    rfl
  refine ⟨_, hrun, ?_⟩
  cases vs with
  | nil =>
    have : us = [] := List.length_eq_zero_iff.1 (by have := hr.1; simp at this; omega)
    subst this
    exact .tup [] [] rfl (fun i x y hx => by simp at hx)
  | cons v vs =>
    cases us with
    | nil => have := hr.1; simp at this
    | cons u us =>
      cases vs with
      | nil =>
        have : us = [] := List.length_eq_zero_iff.1 (by have := hr.1; simp only [List.length_cons, List.length_nil] at this; omega)
        subst this
        exact hr.2 0 v u rfl rfl
      | cons v2 vs =>
        cases us with
        | nil => have := hr.1; simp at this
        | cons u2 us => exact .tup _ _ hr.1 hr.2
theorem finish_sound {pol : Pol} {f : FuncId} {B : Nat → Prop} {L : Loc} {w : World} {fr : Fr} {v r : V} {u : Value} {H' : Heap} (hst : St B L w fr.H) (hv : VRel B L w v u) (h : finish pol f fr v = some (r, H')) :
    ∃ B' L', FS fr.k B L w fr.H fr.mv B' L' w H' fr.mv ∧ St B' L' w H' ∧ VRel B' L' w r u := by
  unfold finish at h
  simp only [] at h
  obtain ⟨fr2, hfr2⟩ : ∃ fr2 : Fr, (if pol.keepR f = true then { fr with env := [v] } else ({ fr with env := [v] } : Fr).freezeAll (v.names.filter fun n => decide (fr.k ≤ n) && isArr (Heap.at fr.H n))) = fr2 := ⟨_, rfl⟩
  rw [hfr2] at h
  have he : ERel B L w ({ fr with env := [v] } : Fr).env #[u] := VRelL.cons hv VRelL.nil
  obtain ⟨B1, hfs1, he1, hst1, hk1⟩ : ∃ B1, FS fr.k B L w fr.H fr.mv B1 L w fr2.H fr2.mv ∧ ERel B1 L w fr2.env #[u] ∧ St B1 L w fr2.H ∧ fr2.k = fr.k := by
    rw [← hfr2]
    split
    · exact ⟨B, FS.refl _ _ _ _ _ _, he, hst, rfl⟩
    · exact Fr.freezeAll_sound (fr := { fr with env := [v] }) _ hst he
  have hmv : fr2.mv = fr.mv := by
    rw [← hfr2]
    split
    · rfl
    · have : ∀ (l : List Nat) (g : Fr), (g.freezeAll l).mv = g.mv := by
        intro l
        induction l with
        | nil => intro g; rfl
        | cons n l ih =>
          intro g
          rw [Fr.freezeAll, ih]
          unfold Fr.freeze
          split <;> rfl
      exact this _ _
  split at h
  case h_2 => cases h
  rename_i x hx
  generalize hns : reachL (Heap.at fr2.H) 200 (List.range fr.k ++ x.names) [] = ns at h
  split at h
  case isFalse => cases h
  rename_i hc
  obtain ⟨hk, hn, hcl, hnd⟩ := hc
  simp only [Option.some.injEq, Prod.mk.injEq] at h
  obtain ⟨rfl, rfl⟩ := h
  rw [hx] at he1
  have hxv : VRel B1 L w x u := he1.2 0 x u rfl rfl
  rw [hmv] at hfs1
  refine ⟨B1, L.sub ns, hfs1.trans (FS.subH hk), hst1.sub hnd (closedN_spec hcl), hxv.ren fun n hnn => L.sub_eq ?_⟩
  simp only [List.all_eq_true] at hn
  simpa using hn n hnn
theorem ExMatch.pan_inv {B : Nat → Prop} {L : Loc} {w : World} {v : V} {e : Exit} (h : ExMatch B L w (.pan v) e) : ∃ u, e = .panic [⟨u, false, false⟩] ∧ VRel B L w v u := by
  unfold ExMatch at h
  split at h
  · rename_i e1; cases e1
  · rename_i e1; cases e1
  · rename_i e1; cases e1
  · rename_i u e1; cases e1; exact ⟨_, rfl, h⟩
  · exact h.elim
theorem callBody_sound {Lp : LoopF} {Dr : Array Oper → Fr → Option (Ex × Fr)} (hNG : ∀ (f : Nat) (fn : Func), P.funcs[f]? = some fn → (fn.name == "runtime.NumGoroutine") = false) (hC : SoundC P G C) (hL : SoundL P G Lp) (hD : SoundD P G Dr)
    {f : FuncId} {args : List V} {H : Heap} {cr : CR} (h : callBody P G pol C Lp Dr f args H = some cr) : AbsCall P G f args H cr := by
  intro B L w vs hst ha hg
  unfold callBody at h
  split at h
  case h_2 => cases h
  rename_i fn hf
  split at h
  case h_2 => cases h
  rename_i c hb
  refine .inl ⟨?_, ?_⟩
  · have := hNG f fn hf
    have hne : fn.name ≠ "runtime.NumGoroutine" := by simpa using this
    simp [callFunc, hf, hne, hb]
  · refine calls_of_wp hf hb ?_
    have he : ERel B L w (args ++ List.replicate (fn.ntmps - args.length) V.junk) (vs.toArray ++ Array.replicate (fn.ntmps - vs.toArray.size) undef) := by
      have e : (vs.toArray ++ Array.replicate (fn.ntmps - vs.toArray.size) undef).toList = vs ++ List.replicate (fn.ntmps - args.length) undef := by
        rw [Array.toList_append, Array.toList_replicate, List.size_toArray, ha.1]
      unfold ERel
      rw [e]
      refine ha.append ⟨by simp, fun i x y hx _ => ?_⟩
      rw [List.getElem?_replicate] at hx
      split at hx
      · cases hx; exact .junk _
      · cases hx
    have fin : ∀ (ex : Ex) (fr : Fr), exec0 P G pol C Lp Dr c { env := args ++ List.replicate (fn.ntmps - args.length) V.junk, H := H, k := H.length, mv := [] } = some (ex, fr) →
        (∀ e a' w', EPost H.length B L w H [] [] ex fr e a' w' → bodyPost P fn (fun e w' => ∃ B' L', FS H.length B L w H [] B' L' w' cr.H cr.mv ∧ St B' L' w' cr.H ∧ OutRel B' L' w' cr.out e) e a' w') →
        c.wp P (bodyPost P fn (fun e w' => ∃ B' L', FS H.length B L w H [] B' L' w' cr.H cr.mv ∧ St B' L' w' cr.H ∧ OutRel B' L' w' cr.out e)) { tmps := vs.toArray ++ Array.replicate (fn.ntmps - vs.toArray.size) undef, defers := [] } w := by
      intro ex fr hex hpost
      exact exec0_sound hC hL hD c (fr := { env := args ++ List.replicate (fn.ntmps - args.length) V.junk, H := H, k := H.length, mv := [] }) hst he hg hex _ hpost
    have good : ∀ (ex : Ex) (fr : Fr), (ex = .normal ∨ ex = .ret) → (match resultsA P fr fn.results.toList with
          | some vs => match finish pol f fr (tupV vs) with
            | some (v, H') => some (⟨.ret v, H', fr.mv⟩ : CR)
            | none => none
          | none => none) = some cr → ∀ e a' w', EPost H.length B L w H [] [] ex fr e a' w' → bodyPost P fn (fun e w' => ∃ B' L', FS H.length B L w H [] B' L' w' cr.H cr.mv ∧ St B' L' w' cr.H ∧ OutRel B' L' w' cr.out e) e a' w' := by
      intro ex fr hor hres e a' w' hp
      obtain ⟨B1, L1, hfs, he1, hst1, hk1, hd1, hm1⟩ := hp
      split at hres
      case h_2 => cases hres
      rename_i vs' hvs'
      split at hres
      case h_2 => cases hres
      rename_i v H' hfin
      cases hres
      obtain ⟨u, hu, hru⟩ := results_run (fn := fn) hst1 he1 hvs'
      obtain ⟨B2, L2, hfs2, hst2, hr2⟩ := finish_sound hst1 hru hfin
      rw [hk1] at hfs2
      have hconc : a'.defers = [] ∧ ∃ v, (results fn a'.tmps).run P w' = .ok v w' ∧ ∃ B' L', FS H.length B L w H [] B' L' w' H' fr.mv ∧ St B' L' w' H' ∧ OutRel B' L' w' (.ret _) (.returned v) := ⟨hd1, u, hu, B2, L2, hfs.trans hfs2, hst2, hr2⟩
      rcases hor with rfl | rfl
      · cases e with
        | normal => exact hconc
        | _ => exact hm1.elim
      · cases e with
        | ret => exact hconc
        | _ => exact hm1.elim
    split at h
    · rename_i fr hex; exact fin _ _ hex (good _ _ (.inl rfl) h)
    · rename_i fr hex; exact fin _ _ hex (good _ _ (.inr rfl) h)
    · rename_i v fr hex
      refine fin _ _ hex fun e a' w' hp => ?_
      obtain ⟨B1, L1, hfs, he1, hst1, hk1, hd1, hm1⟩ := hp
      split at h
      case h_2 => cases h
      rename_i r H' hfin
      cases h
      obtain ⟨u, rfl, hu⟩ := ExMatch.pan_inv hm1
      obtain ⟨B2, L2, hfs2, hst2, hr2⟩ := finish_sound hst1 hu hfin
      rw [hk1] at hfs2
      exact ⟨hd1, B2, L2, hfs.trans hfs2, hst2, hr2⟩
    · cases h
def SoundDG (P : Program) (G : Nat → Option PV) (Dr : DrawG) : Prop := ∀ C, SoundC P G C → SoundD P G (Dr C)
theorem exN_sound {prim : CallF} {Dr : DrawG} (hNG : ∀ (f : Nat) (fn : Func), P.funcs[f]? = some fn → (fn.name == "runtime.NumGoroutine") = false) (hp : SoundC P G prim) (hD : SoundDG P G Dr) : ∀ n,
    SoundC P G (exN P G pol prim Dr n).1 ∧ ∀ f (b : Code) {B : Nat → Prop} {L : Loc} {w : World} {fr fr' : Fr} {ex : Ex} {a : Act}, St B L w fr.H → ERel B L w fr.env a.tmps → GOk G B w → (exN P G pol prim Dr n).2 f b fr = some (ex, fr') →
      ∀ Q : Exit → Act → World → Prop, (∀ e a' w', EPost fr.k B L w fr.H fr.mv a.defers ex fr' e a' w' → Q e a' w') → LoopWp P b Q a w
  | 0 => by
    refine ⟨fun f args H cr h => ?_, fun f b B L w fr fr' ex a _ _ _ h => ?_⟩
    · cases h
    · cases h
  | n + 1 => by
    obtain ⟨ihC, ihL⟩ := exN_sound hNG hp hD n
    have hL : ∀ f, SoundL P G ((exN P G pol prim Dr n).2 f) := fun f b B L w fr fr' ex a hst he hg h Q hQ => (ihL f b hst he hg h Q hQ).loop
    refine ⟨fun f args H cr h => ?_, fun f b B L w fr fr' ex a hst he hg h Q hQ => ?_⟩
    · simp only [exN] at h
      split at h
      · rename_i r hr; cases h; exact hp f args H _ hr
      · exact callBody_sound hNG ihC (hL f) (hD _ ihC) h
    · simp only [exN] at h
      split at h
      · cases h
      rename_i fr0 hn
      obtain ⟨L0, hfs0, he0, hst0, hk0⟩ := normFr_sound hst he hn
      have hg0 := hg.step (hfs0.step hst)
      refine LoopWp.round ?_
      cases hx : exec0 P G pol (exN P G pol prim Dr n).1 ((exN P G pol prim Dr n).2 f) (Dr (exN P G pol prim Dr n).1) b fr0 with
      | none => rw [hx] at h; cases h
      | some p =>
        obtain ⟨ex1, fr1⟩ := p
        rw [hx] at h
        refine exec0_sound ihC (hL f) (hD _ ihC) b hst0 he0 hg0 hx _ fun e a1 w1 hp1 => ?_
        rw [hk0] at hp1
        have hp2 := EPost.trans hfs0 hp1
        cases ex1 with
        | normal =>
          simp only [] at h
          obtain ⟨B1, L1, hfs1, he1, hst1, hk1, hd1, hm1⟩ := hp2
          cases e with
          | normal =>
            refine ihL f b hst1 he1 (hg.step (hfs1.step hst)) h Q fun e a2 w2 hp3 => hQ e a2 w2 ?_
            rw [hk1, hd1] at hp3
            exact EPost.trans hfs1 hp3
          | _ => exact hm1.elim
        | _ =>
          simp only [Option.some.injEq, Prod.mk.injEq] at h
          obtain ⟨rfl, rfl⟩ := h
          cases e with
          | normal => obtain ⟨_, _, _, _, _, _, _, hm1⟩ := hp2; exact hm1.elim
          | _ => exact hQ _ _ _ hp2
end
end Go.Am
end

section
namespace Go.Am
open Go
def Like (X : Nat → Prop) (e e' : List V) : Prop := e.length = e'.length ∧ ∀ x v, e[x]? = some v → e'[x]? = some v ∨ (X x ∧ e'[x]? = some .junk)
theorem Like.refl (X : Nat → Prop) (e : List V) : Like X e e := ⟨rfl, fun _ _ h => .inl h⟩
theorem Like.mono {X Y : Nat → Prop} {e e' : List V} (h : Like X e e') (hs : ∀ x, X x → Y x) : Like Y e e' :=
  ⟨h.1, fun x v hx => (h.2 x v hx).imp id fun ⟨a, b⟩ => ⟨hs _ a, b⟩⟩
theorem Like.map {X : Nat → Prop} {e e' : List V} (h : Like X e e') (f : V → V) (hf : f .junk = .junk) : Like X (e.map f) (e'.map f) := by
  refine ⟨by simp [h.1], fun x v hx => ?_⟩
  simp only [List.getElem?_map, Option.map_eq_some_iff] at hx
  obtain ⟨u, hu, rfl⟩ := hx
  rcases h.2 x u hu with h1 | ⟨h1, h2⟩
  · exact .inl (by simp [h1])
  · exact .inr ⟨h1, by simp [h2, hf]⟩
theorem Like.set {X : Nat → Prop} {e e' : List V} (h : Like X e e') (d : Nat) (v : V) : Like (fun x => X x ∧ x ≠ d) (e.set d v) (e'.set d v) := by
  refine ⟨by simp [h.1], fun x u hx => ?_⟩
  rw [List.getElem?_set] at hx ⊢
  split at hx
  · rename_i hd
    subst hd
    rw [if_pos rfl]
    split at hx
    · rename_i hl
      rw [if_pos (by rw [← h.1]; exact hl)]
      exact .inl hx
    · cases hx
  · rename_i hd
    rw [if_neg hd]
    rcases h.2 x u hx with h1 | ⟨h1, h2⟩
    · exact .inl h1
    · exact .inr ⟨⟨h1, fun e => hd e.symm⟩, h2⟩
def Minus (X : Nat → Prop) (dst : Option Tmp) : Nat → Prop := fun x => X x ∧ dst ≠ some x
theorem Like.putO {X : Nat → Prop} {e e' : List V} (h : Like X e e') (dst : Option Tmp) (v : V) : Like (Minus X dst) (putO e dst v) (putO e' dst v) := by
  cases dst with
  | none => exact h.mono fun x hx => ⟨hx, by simp⟩
  | some d => exact (h.set d v).mono fun x hx => ⟨hx.1, fun e => hx.2 (Option.some.inj e).symm⟩
theorem Like.evalO {G : Nat → Option PV} {X : Nat → Prop} {e e' : List V} (h : Like X e e') {x : Operand} (hx : ∀ t, x = .tmp t → ¬ X t) : evalO G e' x = evalO G e x := by
  cases x with
  | tmp t =>
    have hx := hx t rfl
    simp only [Go.Am.evalO]
    cases ht : e[t]? with
    | none =>
      have : e'[t]? = none := by rw [List.getElem?_eq_none_iff] at ht ⊢; rw [← h.1]; exact ht
      rw [this]
    | some v =>
      rcases h.2 t v ht with h1 | ⟨h1, _⟩
      · rw [h1]
      · exact (hx h1).elim
  | _ => rfl
theorem Like.get {X : Nat → Prop} {e e' : List V} (h : Like X e e') {t : Nat} (hx : ¬ X t) : e'[t]? = e[t]? := by
  cases ht : e[t]? with
  | none => rw [List.getElem?_eq_none_iff] at ht ⊢; rw [← h.1]; exact ht
  | some v => exact (h.2 t v ht).resolve_right fun h' => hx h'.1
theorem Like.mem {X : Nat → Prop} {e e' : List V} (h : Like X e e') {v : V} (hv : v ∈ e') : v ∈ e ∨ v = .junk := by
  obtain ⟨i, hi⟩ := List.getElem?_of_mem hv
  have hl : i < e.length := by rw [h.1]; exact (List.getElem?_eq_some_iff.1 hi).1
  rcases h.2 i e[i] (by simp [hl]) with h1 | ⟨_, h1⟩
  · rw [hi] at h1; cases h1; exact .inl (by simp)
  · rw [hi] at h1; cases h1; exact .inr rfl
theorem Like.rel {X : Nat → Prop} {e e' : List V} {B : Nat → Prop} {L : Loc} {w : World} {tmps : Array Value} (h : Like X e e') (hr : ERel B L w e tmps) : ERel B L w e' tmps := by
  refine ⟨by rw [← h.1]; exact hr.1, fun i x y hx hy => ?_⟩
  have hl : i < e.length := by rw [h.1]; exact (List.getElem?_eq_some_iff.1 hx).1
  rcases h.2 i e[i] (by simp [hl]) with h1 | ⟨_, h1⟩
  · rw [hx] at h1; cases h1; exact hr.2 i _ y (by simp [hl]) hy
  · rw [hx] at h1; cases h1; exact .junk _
def Fr.envd (fr : Fr) (e : List V) : Fr := { fr with env := e }
theorem Like.fresh {X : Nat → Prop} {fr : Fr} {e' : List V} (h : Like X fr.env e') {n : Nat} (hf : fr.fresh n = true) : (fr.envd e').fresh n = true := by
  unfold Fr.fresh at *
  simp only [Bool.and_eq_true, Bool.not_eq_true', Fr.envd] at hf ⊢
  refine ⟨?_, hf.2⟩
  rw [List.any_eq_false] at hf ⊢
  intro v hv
  rcases h.mem hv with h1 | rfl
  · exact hf.1 v h1
  · simp [V.has, V.names]
theorem kill_junk (n : Nat) : V.kill n .junk = .junk := by simp [V.kill]
theorem frz_junk (n : Nat) (es : List PV) : V.frz n es .junk = .junk := by simp [V.frz]
theorem freeze_like {X : Nat → Prop} {fr : Fr} {e' : List V} (h : Like X fr.env e') (n : Nat) : ∃ e1, (fr.envd e').freeze n = (fr.freeze n).envd e1 ∧ Like X (fr.freeze n).env e1 := by
  unfold Fr.freeze
  have hH : (fr.envd e').H = fr.H := rfl
  rw [hH]
  cases ho : Heap.at fr.H n with
  | arr ty sz es => exact ⟨e'.map (V.frz n es), rfl, h.map _ (frz_junk _ _)⟩
  | _ => exact ⟨e', rfl, h⟩
theorem freezeAll_like {X : Nat → Prop} : ∀ (l : List Nat) {fr : Fr} {e' : List V} (_ : Like X fr.env e'), ∃ e1, (fr.envd e').freezeAll l = (fr.freezeAll l).envd e1 ∧ Like X (fr.freezeAll l).env e1
  | [], fr, e', h => ⟨e', rfl, h⟩
  | n :: l, fr, e', h => by
    obtain ⟨e1, h1, h2⟩ := freeze_like h n
    obtain ⟨e2, h3, h4⟩ := freezeAll_like l h2
    exact ⟨e2, by rw [Fr.freezeAll, h1, h3]; rfl, h4⟩
theorem eff_like {X : Nat → Prop} {fr fr1 : Fr} {e' : List V} {base : Nat} {eff : Eff} (h : Like X fr.env e') (he : fr.eff base eff = some fr1) : ∃ e1, (fr.envd e').eff base eff = some (fr1.envd e1) ∧ Like X fr1.env e1 := by
  cases eff with
  | none => simp only [Fr.eff, Option.some.injEq] at he; subst he; exact ⟨e', rfl, h⟩
  | new o =>
    simp only [Fr.eff] at he
    split at he
    · rename_i hc
      cases he
      refine ⟨e', ?_, h⟩
      simp only [Fr.eff]
      rw [if_pos ⟨h.fresh hc.1, hc.2⟩]
      rfl
    · cases he
  | upd n o => simp only [Fr.eff, Option.some.injEq] at he; subst he; exact ⟨e', rfl, h⟩
  | repoint n o => simp only [Fr.eff, Option.some.injEq] at he; subst he; exact ⟨e'.map (V.kill n), rfl, h.map _ (kill_junk n)⟩
theorem killAll_like {X : Nat → Prop} : ∀ (l : List Nat) {e e' : List V} (_ : Like X e e'), Like X (killAll l e) (killAll l e')
  | [], _, _, h => h
  | n :: l, _, _, h => killAll_like l (h.map _ (kill_junk n))
theorem callS_like {X : Nat → Prop} {C : CallF} {fr fr1 : Fr} {e' : List V} {f : FuncId} {args : List V} {out : Out} (h : Like X fr.env e') (hc : callS C fr f args = some (out, fr1)) :
    ∃ e1, callS C (fr.envd e') f args = some (out, fr1.envd e1) ∧ Like X fr1.env e1 := by
  unfold callS at hc ⊢
  simp only [] at hc ⊢
  have hH : (fr.envd e').H = fr.H := rfl
  have hk : (fr.envd e').k = fr.k := rfl
  have hm : (fr.envd e').mv = fr.mv := rfl
  rw [hH, hk, hm]
  generalize reachL (Heap.at fr.H) 200 (V.namesL args) [] = ns at hc ⊢
  split at hc
  case isFalse => cases hc
  rename_i h1
  rw [if_pos h1]
  split at hc
  case h_2 => cases hc
  rename_i cr hcr
  split at hc
  case isFalse => cases hc
  rename_i h2
  obtain ⟨a1, a2, a3, a4, a5, a6⟩ := h2
  cases hc
  have a2' : ((List.range (cr.H.length - ns.length)).all fun j => (fr.envd e').fresh (fr.H.length + j) && !(ns.contains (fr.H.length + j))) = true := by
    simp only [List.all_eq_true, Bool.and_eq_true] at a2 ⊢
    exact fun x hx => ⟨h.fresh (a2 x hx).1, (a2 x hx).2⟩
  rw [if_pos ⟨a1, a2', a3, a4, a5, a6⟩]
  exact ⟨_, rfl, killAll_like _ h⟩
theorem callOp_like {G : Nat → Option PV} {pol : Pol} {C : CallF} {X : Nat → Prop} {fr fr1 : Fr} {e' : List V} {g : Operand} {args : List Operand} {dst : Option Tmp} {ex : Ex} (h : Like X fr.env e') (hg : ∀ t, g = .tmp t → ¬ X t) (ha : ∀ x ∈ args, ∀ t, x = .tmp t → ¬ X t)
    (hc : callOp G pol C fr g args dst = some (ex, fr1)) :
    ∃ e1, callOp G pol C (fr.envd e') g args dst = some (ex, fr1.envd e1) ∧ Like X fr1.env e1 ∧ (ex = .normal → Like (Minus X dst) fr1.env e1) := by
  have hmap : ∀ (f : Fr) (e2 : List V), Like X f.env e2 → args.map (evalO G e2) = args.map (evalO G f.env) := fun f e2 h2 => List.map_congr_left fun x hx => h2.evalO (ha x hx)
  unfold callOp at hc ⊢
  have h0 : evalO G (fr.envd e').env g = evalO G fr.env g := h.evalO hg
  have h0' : args.map (evalO G (fr.envd e').env) = args.map (evalO G fr.env) := hmap fr e' h
  rw [h0, h0']
  split at hc
  case h_1 => cases hc
  rename_i f cap htv
  simp only [] at hc ⊢
  have key : ∀ (fr1' : Fr), (if pol.byref f = true then fr else fr.freezeAll ((V.namesL (args.map (evalO G fr.env) ++ cap)).filter fun n => isArr (Heap.at fr.H n))) = fr1' →
      ∃ e1, (if pol.byref f = true then fr.envd e' else (fr.envd e').freezeAll ((V.namesL (args.map (evalO G fr.env) ++ cap)).filter fun n => isArr (Heap.at (fr.envd e').H n))) = fr1'.envd e1 ∧ Like X fr1'.env e1 := by
    rintro _ rfl
    split
    · exact ⟨e', rfl, h⟩
    · exact freezeAll_like _ h
  generalize hf1 : (if pol.byref f = true then fr else fr.freezeAll ((V.namesL (args.map (evalO G fr.env) ++ cap)).filter fun n => isArr (Heap.at fr.H n))) = fra at hc
  obtain ⟨e1, hk1, hk2⟩ := key fra hf1
  rw [hk1]
  have h1 : evalO G (fra.envd e1).env g = evalO G fra.env g := hk2.evalO hg
  have h1' : args.map (evalO G (fra.envd e1).env) = args.map (evalO G fra.env) := hmap fra e1 hk2
  rw [h1, h1']
  split at hc
  case h_1 => cases hc
  rename_i f' cap' htv'
  split at hc
  · rename_i v fr' hcs
    obtain ⟨e2, h2, h3⟩ := callS_like hk2 hcs
    cases hc
    rw [h2]
    refine ⟨putO e2 dst v, rfl, ?_, fun _ => h3.putO dst v⟩
    exact (h3.putO dst v).mono fun x hx => hx.1
  · rename_i v fr' hcs
    obtain ⟨e2, h2, h3⟩ := callS_like hk2 hcs
    cases hc
    rw [h2]
    exact ⟨e2, rfl, h3, fun e => by cases e⟩
  · cases hc
theorem evp_congr {ev ev' : Operand → V} (ps : List (Nat × Operand)) (h : ∀ p ∈ ps, ev p.2 = ev' p.2) : (ps.map fun p => (p.1, ev p.2)) = ps.map fun p => (p.1, ev' p.2) :=
  List.map_congr_left fun p hp => by rw [h p hp]
theorem aop_congr {P : Program} {H : Nat → HO} {base : Nat} {ev ev' : Operand → V} (op : Op) (h : ∀ x ∈ op.operands, ev x = ev' x) : aop P H base ev op = aop P H base ev' op := by
  cases op with
  | build t ps =>
    have hp : ∀ p ∈ ps.toList, ev p.2 = ev' p.2 := fun p hp => h _ (by simp only [Op.operands, List.mem_toArray, List.mem_map]; exact ⟨p, hp, rfl⟩)
    have e1 : (ps.toList.all fun p => !(ev p.2).isJunk) = ps.toList.all fun p => !(ev' p.2).isJunk := by
      rw [Bool.eq_iff_iff, List.all_eq_true, List.all_eq_true]
      exact ⟨fun g p hq => by rw [← hp p hq]; exact g p hq, fun g p hq => by rw [hp p hq]; exact g p hq⟩
    simp only [aop, e1, evp_congr _ hp]
  | buildSlice t n ps =>
    have hp : ∀ p ∈ ps.toList, ev p.2 = ev' p.2 := fun p hp => h _ (by simp only [Op.operands, List.mem_toArray, List.mem_map]; exact ⟨p, hp, rfl⟩)
    simp only [aop, evp_congr _ hp]
  | makeFunc f first cs =>
    have e1 : cs.toList.map ev = cs.toList.map ev' := List.map_congr_left fun x hx => h x (by simp only [Op.operands, Array.mem_append]; exact .inr (by simpa using hx))
    cases f <;> simp only [aop, e1]
  | slice t x lo hi mx =>
    have hx : ev x = ev' x := h _ (by simp [Op.operands])
    have e1 : lo.map ev = lo.map ev' := by cases lo with
      | none => rfl
      | some y => simp [h y (by simp [Op.operands])]
    have e2 : hi.map ev = hi.map ev' := by cases hi with
      | none => rfl
      | some y => simp [h y (by simp [Op.operands])]
    have e3 : mx.map ev = mx.map ev' := by cases mx with
      | none => rfl
      | some y => simp [h y (by simp [Op.operands])]
    simp only [aop, hx, e1, e2, e3]
  | call c =>
    obtain ⟨callee, args, ts⟩ := c
    have ha : ∀ x ∈ args.toList, ev x = ev' x := fun x hx => h _ (by simp only [Op.operands, Call.operands, Array.mem_append]; exact .inr (by simpa using hx))
    cases callee with
    | builtin b =>
      cases b <;> try rfl
      all_goals
        simp only [aop]
        generalize args.toList = l at ha ⊢
        rcases l with _ | ⟨x, _ | ⟨y, _ | ⟨z, r⟩⟩⟩ <;> try rfl
        all_goals
          simp at ha
          first
            | (simp [ha]; done)
            | (generalize ts.toList = tl
               rcases tl with _ | ⟨t1, _ | ⟨t2, _ | ⟨t3, r⟩⟩⟩ <;> simp [ha])
    | _ => rfl
  | _ =>
    simp only [Op.operands] at h
    simp (discharger := simp) only [aop, h]
theorem aopX_congr {P : Program} {H : Nat → HO} {ev ev' : Operand → V} (op : Op) (h : ∀ x ∈ op.operands, ev x = ev' x) : aopX P H ev op = aopX P H ev' op := by
  cases op with
  | call c =>
    obtain ⟨callee, args, ts⟩ := c
    have ha : ∀ x ∈ args.toList, ev x = ev' x := fun x hx => h _ (by simp only [Op.operands, Call.operands, Array.mem_append]; exact .inr (by simpa using hx))
    cases callee with
    | builtin b =>
      cases b <;> try rfl
      all_goals
        simp only [aopX]
        generalize args.toList = l at ha ⊢
        rcases l with _ | ⟨x, _ | ⟨y, _ | ⟨z, r⟩⟩⟩ <;> try rfl
        all_goals
          simp at ha
          first
            | (simp [ha]; done)
            | (generalize ts.toList = tl
               rcases tl with _ | ⟨t1, _ | ⟨t2, _ | ⟨t3, r⟩⟩⟩ <;> simp [ha])
    | _ => rfl
  | binOp o t x y yt =>
    have h1 : ev x = ev' x := h _ (by simp [Op.operands])
    have h2 : ev y = ev' y := h _ (by simp [Op.operands])
    simp only [aopX, h1, h2]
  | convert a b x =>
    have h1 : ev x = ev' x := h _ (by simp [Op.operands])
    simp only [aopX, h1]
  | _ => rfl
theorem aopZ_congr {P : Program} {H : Nat → HO} {ev ev' : Operand → V} (op : Op) (h : ∀ x ∈ op.operands, ev x = ev' x) : aopZ P H ev op = aopZ P H ev' op := by
  cases op with
  | binOp o t x y yt =>
    have h1 : ev x = ev' x := h _ (by simp [Op.operands])
    have h2 : ev y = ev' y := h _ (by simp [Op.operands])
    simp only [aopZ, h1, h2]
  | _ => rfl
theorem aopI_congr {P : Program} {ev ev' : Operand → V} (op : Op) (h : ∀ x ∈ op.operands, ev x = ev' x) : aopI P ev op = aopI P ev' op := by
  cases op with
  | makeInterface t x =>
    have h1 : ev x = ev' x := h _ (by simp [Op.operands])
    simp only [aopI, h1]
  | typeAssert x xt at_ ok =>
    have h1 : ev x = ev' x := h _ (by simp [Op.operands])
    cases ok <;> simp only [aopI, h1]
  | _ => rfl
theorem aopM_congr {P : Program} {H : Nat → HO} {base : Nat} {ev ev' : Operand → V} (op : Op) (h : ∀ x ∈ op.operands, ev x = ev' x) : aopM P H base ev op = aopM P H base ev' op := by
  cases op with
  | makeMap t r => cases r <;> rfl
  | lookup t x ix ok =>
    have h1 : ev x = ev' x := h _ (by simp [Op.operands])
    have h2 : ev ix = ev' ix := h _ (by simp [Op.operands])
    simp only [aopM, h1, h2]
  | mapUpdate t m k x =>
    have h1 : ev m = ev' m := h _ (by simp [Op.operands])
    have h2 : ev k = ev' k := h _ (by simp [Op.operands])
    have h3 : ev x = ev' x := h _ (by simp [Op.operands])
    simp only [aopM, h1, h2, h3]
  | call c =>
    obtain ⟨callee, args, ts⟩ := c
    have ha : ∀ x ∈ args.toList, ev x = ev' x := fun x hx => h _ (by simp only [Op.operands, Call.operands, Array.mem_append]; exact .inr (by simpa using hx))
    cases callee with
    | builtin b =>
      cases b <;> try rfl
      all_goals
        simp only [aopM]
        generalize args.toList = l at ha ⊢
        rcases l with _ | ⟨x, _ | ⟨y, r⟩⟩ <;> try rfl
        all_goals
          simp at ha
          first
            | (simp [ha]; done)
            | (generalize ts.toList = tl
               rcases tl with _ | ⟨t1, _ | ⟨t2, r⟩⟩ <;> simp [ha])
    | _ => rfl
  | _ => rfl
theorem aopA_congr {P : Program} {H : Nat → HO} {base : Nat} {ev ev' : Operand → V} (op : Op) (h : ∀ x ∈ op.operands, ev x = ev' x) : aopA P H base ev op = aopA P H base ev' op := by
  unfold aopA
  rw [aop_congr op h, aopX_congr op h, aopZ_congr op h, aopI_congr op h, aopM_congr op h]
end Go.Am
end
