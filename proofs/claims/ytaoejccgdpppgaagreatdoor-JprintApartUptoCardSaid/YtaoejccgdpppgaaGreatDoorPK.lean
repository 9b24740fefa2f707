/-
What a row says of an argument that is a tree.
What a row's list of variables gives.
What all rows need.
-/
import Derived.Test.YtaoejccgdpppgaaGreatDoorPJ
import Derived.Test.YtaoejccgdpppgaaGreatDoorPI
import Derived.Test.YtaoejccgdpppgaaGreatDoorPF
import Derived.Test.YtaoejccgdpppgaaGreatDoorRows
import Derived.LaidLaws
import Derived.LaidSub
import Derived.Lib.LaidTab
import Derived.Deep.DeepHandedRow
import Derived.Test.YtaoejccgdpppgaaGreatDoorCards
import Derived.Test.YtaoejccgdpppgaaGreatDoorTie
import Derived.WalkKit
import Derived.ProofKit
import Derived.OpenShut
import Derived.Deep.DeepWitnessRowRef
import Derived.MakeChecks
import Derived.Carry
import Derived.Lay

section
namespace Go.Proofs.YtaoejccgdpppgaaGreatDoor
open Go Go.Am Go.RowKit
set_option maxRecDepth 100000
section
variable {H : Type} {enc : TypeId × Value → H} {W : World} {sp : Nat → Bool} {held : Bool}
theorem cells_T : PP.cellsOf T.api_Value = 5 := by kernel_rfl
theorem cells_P : PP.cellsOf T.api_Pair = 6 := by kernel_rfl
theorem c_kind : PP.underlying T.api_Kind = some (.int .i64) := by kernel_rfl
theorem c_i64 : PP.underlying T.int64 = some (.int .i64) := by kernel_rfl
theorem c_int : PP.underlying T.int = some (.int .i64) := by kernel_rfl
theorem c_str : PP.underlying T.string = some .string := by kernel_rfl
theorem c_vals : PP.underlying T.sl_api_Value = some (.slice T.api_Value) := by kernel_rfl
theorem c_pairs : PP.underlying T.sl_api_Pair = some (.slice T.api_Pair) := by kernel_rfl
/-- of what bulk a datum is, as the rows count -/
theorem bulk_pos (d : DataW H) : 1 ≤ Rows.uptoBulk d := by
  cases d with
  | lit l => cases l <;> simp [Rows.uptoBulk]
  | _ => simp [Rows.uptoBulk]
theorem bulk_str (s : List UInt8) : Rows.uptoBulk (DataW.lit (H := H) (.string s)) = s.length + 1 := by simp [Rows.uptoBulk]
def IsTree (d : DataW H) (x : PV) : Prop := ∃ t : Tree, x = t.enc ∧ okT t = true ∧ t.wt ≤ Rows.uptoBulk d
def IsPair (d : DataW H) (x : PV) : Prop := ∃ p : Str × Tree, x = Tree.encP p ∧ okT p.2 = true ∧ p.1.length + p.2.wt ≤ Rows.uptoBulk d
theorem trees_of : ∀ {l : List PV} {es : List (DataW H)}, l.length = es.length → (∀ (i : Nat) x y, l[i]? = some x → es[i]? = some y → IsTree y x) → ∃ ts : List Tree, l = Tree.encL ts ∧ okL ts = true ∧ Tree.wtL ts ≤ Rows.uptoBulkAll es
  | [], [], _, _ => ⟨[], rfl, rfl, by simp [Tree.wtL]⟩
  | x :: l, y :: es, hl, h => by
    obtain ⟨t, rfl, h1, h2⟩ := h 0 x y rfl rfl
    obtain ⟨ts, rfl, h3, h4⟩ := trees_of (by simpa using hl) (fun i x y hx hy => h (i + 1) x y (by simpa using hx) (by simpa using hy))
    refine ⟨t :: ts, rfl, by rw [okL, h1, h3]; rfl, ?_⟩
    rw [Tree.wtL, Rows.uptoBulkAll]
    omega
theorem pairs_of : ∀ {l : List PV} {es : List (DataW H)}, l.length = es.length → (∀ (i : Nat) x y, l[i]? = some x → es[i]? = some y → IsPair y x) → ∃ ts : List (Str × Tree), l = Tree.encM ts ∧ okM ts = true ∧ Tree.wtM ts ≤ Rows.uptoBulkAll es
  | [], [], _, _ => ⟨[], rfl, rfl, by simp [Tree.wtM]⟩
  | x :: l, y :: es, hl, h => by
    obtain ⟨⟨k, t⟩, rfl, h1, h2⟩ := h 0 x y rfl rfl
    obtain ⟨ts, rfl, h3, h4⟩ := pairs_of (by simpa using hl) (fun i x y hx hy => h (i + 1) x y (by simpa using hx) (by simpa using hy))
    simp only [] at h1 h2
    refine ⟨(k, t) :: ts, rfl, by rw [okM, okQ, h1, h3]; rfl, ?_⟩
    rw [Tree.wtM, Tree.wtP, Rows.uptoBulkAll]
    omega
theorem tree_of_trod : ∀ (n : Nat) (cs : List Value) (d : DataW H) (ps : List MemPlace), DataW.trod enc PP W 0 sp held n T.api_Value cs = some (d, ps) → ∃ x, IsTree d x ∧ RdE W cs x := by
  intro n
  induction n using Nat.strongRecOn with
  | ind n ih =>
    intro cs d ps h
    obtain ⟨xs, m, rfl, hx, hc, hlen, hget⟩ := DataW.trod_struct Tryz.underlying27 h
    simp only [Prod.mk.injEq] at hx
    obtain ⟨rfl, rfl⟩ := hx
    have hc : cs.length = 5 := hc
    have hlen : xs.length = 5 := hlen
    obtain ⟨a, b, c, e, f, rfl⟩ : ∃ a b c e f, cs = [a, b, c, e, f] := by
      match cs, hc with
      | [a, b, c, e, f], _ => exact ⟨a, b, c, e, f, rfl⟩
    obtain ⟨x0, x1, x2, x3, x4, rfl⟩ : ∃ a b c e f, xs = [a, b, c, e, f] := by
      match xs, hlen with
      | [a, b, c, e, f], _ => exact ⟨a, b, c, e, f, rfl⟩
    have h0 : DataW.trod enc PP W 0 sp held m T.api_Kind [a] = some x0 := hget 0 _ rfl
    have h1 : DataW.trod enc PP W 0 sp held m T.int64 [b] = some x1 := hget 1 _ rfl
    have h2 : DataW.trod enc PP W 0 sp held m T.string [c] = some x2 := hget 2 _ rfl
    have h3 : DataW.trod enc PP W 0 sp held m T.sl_api_Value [e] = some x3 := hget 3 _ rfl
    have h4 : DataW.trod enc PP W 0 sp held m T.sl_api_Pair [f] = some x4 := hget 4 _ rfl
    obtain ⟨k, hk, rk, _⟩ := rd_int (d := x0.1) (ps := x0.2) c_kind h0
    obtain ⟨z, hz, rz, hz1, hz2⟩ := rd_int (d := x1.1) (ps := x1.2) c_i64 h1
    obtain ⟨s, hs, rs⟩ := rd_str (d := x2.1) (ps := x2.2) c_str h2
    obtain ⟨l, rl, hl⟩ := rd_slice (d := x3.1) (ps := x3.2) c_vals (by rw [cells_T]; omega) IsTree (fun q hq cs d ps _ h => ih q (by omega) cs d ps h) h3
    -- a pair
    have pair : ∀ q, q < m → ∀ (cs : List Value) (d : DataW H) ps, cs.length = PP.cellsOf T.api_Pair → DataW.trod enc PP W 0 sp held q T.api_Pair cs = some (d, ps) → ∃ x, IsPair d x ∧ RdE W cs x := by
      intro q hq cs d ps _ h
      obtain ⟨xs, r, rfl, hx, hc, hlen, hget⟩ := DataW.trod_struct Tryz.underlying51 h
      simp only [Prod.mk.injEq] at hx
      obtain ⟨rfl, rfl⟩ := hx
      have hc : cs.length = 6 := hc
      have hlen : xs.length = 2 := hlen
      obtain ⟨a, b, c, e, f, g, rfl⟩ : ∃ a b c e f g, cs = [a, b, c, e, f, g] := by
        match cs, hc with
        | [a, b, c, e, f, g], _ => exact ⟨a, b, c, e, f, g, rfl⟩
      obtain ⟨y0, y1, rfl⟩ : ∃ a b, xs = [a, b] := by
        match xs, hlen with
        | [a, b], _ => exact ⟨a, b, rfl⟩
      have h0 : DataW.trod enc PP W 0 sp held r T.string [a] = some y0 := hget 0 _ rfl
      have h1 : DataW.trod enc PP W 0 sp held r T.api_Value [b, c, e, f, g] = some y1 := hget 1 _ rfl
      obtain ⟨k, hk, rk⟩ := rd_str (d := y0.1) (ps := y0.2) c_str h0
      obtain ⟨x, ⟨t, rfl, ht1, ht2⟩, rx⟩ := ih r (by omega) _ y1.1 y1.2 h1
      refine ⟨Tree.encP (k, t), ⟨(k, t), rfl, ht1, ?_⟩, ?_⟩
      · simp only [List.map_cons, List.map_nil, Rows.uptoBulk, Rows.uptoBulkAll, hk]
        omega
      · have := RdE.append (c1 := [a]) (c2 := [b, c, e, f, g]) (l1 := [.str k]) (l2 := t.enc.cells) rk.cells rx.cells
        exact this
    obtain ⟨l2, rl2, hl2⟩ := rd_slice (d := x4.1) (ps := x4.2) c_pairs (by rw [cells_P]; omega) IsPair pair h4
    have hL : ∃ ts, l = Tree.encL ts ∧ okL ts = true ∧ Tree.wtL ts ≤ Rows.uptoBulk x3.1 := by
      rcases hl with ⟨h, rfl⟩ | ⟨es, sps, h, h5, h6⟩
      · exact ⟨[], rfl, rfl, by simp [Tree.wtL]⟩
      · obtain ⟨ts, h7, h8, h9⟩ := trees_of h5 h6
        exact ⟨ts, h7, h8, by rw [h, Rows.uptoBulk]; omega⟩
    have hM : ∃ ts, l2 = Tree.encM ts ∧ okM ts = true ∧ Tree.wtM ts ≤ Rows.uptoBulk x4.1 := by
      rcases hl2 with ⟨h, rfl⟩ | ⟨es, sps, h, h5, h6⟩
      · exact ⟨[], rfl, rfl, by simp [Tree.wtM]⟩
      · obtain ⟨ts, h7, h8, h9⟩ := pairs_of h5 h6
        exact ⟨ts, h7, h8, by rw [h, Rows.uptoBulk]; omega⟩
    obtain ⟨tl, rfl, ol, wl⟩ := hL
    obtain ⟨tm, rfl, om, wm⟩ := hM
    refine ⟨(Tree.mk k z s tl tm).enc, ⟨.mk k z s tl tm, rfl, ?_, ?_⟩, ?_⟩
    · rw [okT, ol, om]
      have : IntKind.i64.min ≤ z ∧ z ≤ IntKind.i64.max := ⟨hz1, hz2⟩
      simp only [IntKind.min, IntKind.max, IntKind.bits, IntKind.signed] at this
      rw [decide_eq_true (by constructor <;> (simp at this; omega))]
      rfl
    · have h7 := bulk_pos x0.1
      have h8 := bulk_pos x1.1
      rw [Tree.wt]
      simp only [List.map_cons, List.map_nil, Rows.uptoBulk, Rows.uptoBulkAll]
      rw [hs, bulk_str]
      omega
    · have e1 := RdE.append (c1 := [a]) (c2 := [b]) (l1 := [.int .i64 k]) (l2 := [.int .i64 z]) rk.cells rz.cells
      have e2 := RdE.append (c1 := [e]) (c2 := [f]) (l1 := [.lst false (Tree.encL tl)]) (l2 := [.lst false (Tree.encM tm)]) rl.cells rl2.cells
      have e3 := RdE.append (c1 := [c]) (l1 := [.str s]) rs.cells e2
      exact RdE.append e1 e3
end
end Go.Proofs.YtaoejccgdpppgaaGreatDoor
end

section
namespace Go.Proofs.YtaoejccgdpppgaaGreatDoor
open Go Go.Am Go.RowKit
set_option maxRecDepth 100000
/-- a variable that holds an error of the library's -/
theorem sentinel {W : World} {name : String} {g : Nat} {text : List UInt8} (hg : PP.globalNamed name = some g) (ht : (PP.globals[g]?).map (·.type) = some T.error)
    (h : laidMet PP [(name, .iface "*errors.errorString" (.ptr (.agg [.lit (.string text)])))] W) :
    PRel (fun _ => False) W (.cptr (.iface T.ptr_errors_errorString .anyp)) (.pointer (some ⟨g, 0, none⟩)) ∧ ∃ c t fr, W.heap[g]? = some (.cells c t fr) ∧ c.size = 1 := by
  obtain ⟨ps, hv, _, hok⟩ := h
  obtain ⟨g', t, cs, fuel, p, q, h1, h2, h3, h4, _, rfl⟩ := hv
  rw [hg] at h1
  cases h1
  rw [ht] at h2
  cases h2
  unfold World.var? at h3
  rw [hg] at h3
  simp only [Option.bind_some] at h3
  split at h3
  case h_2 => cases h3
  rename_i cs' t' fr hw
  cases h3
  have hcell : ∀ u v, cs.toList = [.iface u v] → Value.okWide PP W .any 0 u v := by
    intro u v he
    have hcs : cs = #[.iface u v] := by apply Array.ext'; simpa using he
    subst hcs
    refine (hok g 0 ?_).2 u v ?_
    · simp [MemPlace.row]
    · unfold World.cell?
      rw [hw]
      simp
  obtain ⟨a, s, he, _⟩ := errorString_of_trod (ti := T.error) (tp := T.ptr_errors_errorString) (te := T.errors_errorString) (ts := T.string) Tryz.underlying94
    (typeName_ptr_named (nm := "errors.errorString") (by kernel_rfl) (by kernel_rfl) (by decide)) Tryz.underlying202 Tryz.underlying204 rfl rfl Tryz.underlying9 (by kernel_rfl) (by kernel_rfl) h4 hcell
  have hcs : cs = #[.iface T.ptr_errors_errorString (.pointer (some a))] := by apply Array.ext'; simpa using he
  subst hcs
  refine ⟨.cptr _ g 0 (fun _ => .iface T.ptr_errors_errorString (.pointer (some a))) (fun h => h) (Array.getElem?_eq_some_iff.1 hw).1 (fun x hx => ?_) (fun k hk => ?_) (fun k x hx => ?_), _, _, _, hw, rfl⟩
  · simp only [PV.cells, List.mem_singleton] at hx; subst hx; rfl
  · simp only [PV.cells, List.length_singleton] at hk
    have : k = 0 := by omega
    subst this
    unfold World.cell?
    rw [hw]
    simp
  · cases k with
    | zero => simp only [PV.cells, List.getElem?_cons_zero, Option.some.injEq] at hx; subst hx; exact .iface _ _ _ (.anyp _)
    | succ k => simp [PV.cells] at hx
theorem gPowType : (PP.globals[Gl.internal_strconv_uint64pow10]?).map (·.type) = some T.arr20_uint64 := by kernel_rfl
/-- the row's list, as the machine wants it -/
theorem gok_of {W : World} {l : List (String × DataW Unit)} (h : laidMetH PP l W)
    (h1 : l.filter (fun x => x.1 == "internal/strconv.uint64pow10") = [("internal/strconv.uint64pow10", Lib.tabData .u64 Lib.pow10Tab)])
    (h2 : l.filter (fun x => x.1 == "strconv.ErrSyntax") = [("strconv.ErrSyntax", Rows.laid_strconv_ErrSyntax)])
    (h3 : l.filter (fun x => x.1 == "strconv.ErrRange") = [("strconv.ErrRange", Rows.laid_strconv_ErrRange)]) : GOk GG (fun _ => False) W := by
  intro g d hd
  unfold GG at hd
  split at hd
  · rename_i hg
    have hg := Nat.eq_of_beq_eq_true hg
    subst hg
    cases hd
    have q := laidMetH.filter (fun x => x.1 == "internal/strconv.uint64pow10") h
    rw [h1] at q
    have q : laidMet PP [("internal/strconv.uint64pow10", Lib.tabData .u64 Lib.pow10Tab)] W := q
    have := tab_gok (Lib.tabIs_of_head (n := 20) (e := T.uint64) (rest := []) gPow gPowType (by kernel_rfl) (by kernel_rfl) (by kernel_rfl) (by kernel_rfl) q) gPow
    rw [pow10_lit] at this
    exact this
  · split at hd
    · rename_i hg
      have hg := Nat.eq_of_beq_eq_true hg
      subst hg
      cases hd
      have q := laidMetH.filter (fun x => x.1 == "strconv.ErrSyntax") h
      rw [h2] at q
      exact sentinel (name := "strconv.ErrSyntax") (by kernel_rfl) (by kernel_rfl) q
    · split at hd
      · rename_i hg
        have hg := Nat.eq_of_beq_eq_true hg
        subst hg
        cases hd
        have q := laidMetH.filter (fun x => x.1 == "strconv.ErrRange") h
        rw [h3] at q
        exact sentinel (name := "strconv.ErrRange") (by kernel_rfl) (by kernel_rfl) q
      · cases hd
theorem stNil (W : World) : St (fun _ => False) ⟨fun _ => 0, fun _ => 0, fun _ => 0⟩ W [] :=
  ⟨fun n => by simp [Heap.at]; exact .dead, fun n h => by simp [Heap.at, HO.live] at h, fun n m h => by simp [Heap.at, HO.live] at h, fun b h => h.elim⟩
/-- a law that answers true -/
theorem law_call {f : FuncId} {fn : Func} (hf : PP.funcs[f]? = some fn) (hb : fn.body.isSome = true) {ds : List PV} {vs : List Value} {W : World} (hlen : ds.length = vs.length) (hr : ∀ (i : Nat) x y, ds[i]? = some x → vs[i]? = some y → PRel (fun _ => False) W x y)
    (hG : GOk GG (fun _ => False) W) (h : AbsCall PP GG f (ds.map V.p) [] ⟨.ret (.p (.bool true)), [], []⟩) :
    Calls PP f vs.toArray W fun e w' => e = .returned (.bool true) ∧ Below W.heap.size W w' := by
  have := h (fun _ => False) ⟨fun _ => 0, fun _ => 0, fun _ => 0⟩ W vs (stNil W) ⟨by simpa using hlen, fun i x y hx hy => by
    rw [List.getElem?_map, Option.map_eq_some_iff] at hx
    obtain ⟨d, hd, rfl⟩ := hx
    exact .p _ _ (hr i d y hd hy)⟩ hG
  obtain ⟨c, hb⟩ := Option.isSome_iff_exists.1 hb
  refine (CallTo.calls hf (ngP f fn hf) hb this).mono ?_
  rintro e w' ⟨B', L', hfs, _, ho⟩
  refine ⟨?_, below_of_FS hfs⟩
  unfold OutRel at ho
  split at ho
  · rename_i r v h1; cases h1; cases ho.of_p; rfl
  · rename_i h1; cases h1
  · exact ho.elim
theorem tree_rel {H : Type} {enc : TypeId × Value → H} {W : World} {sp : Nat → Bool} {held : Bool} {v : Value} {d : DataW H} {ps : List MemPlace} (h : DataW.Trod enc PP W 0 sp held T.api_Value v d ps) :
    ∃ t : Tree, PRel (fun _ => False) W t.enc v ∧ okT t = true ∧ t.wt ≤ Rows.uptoBulk d := by
  obtain ⟨n, hn⟩ := h
  obtain ⟨x, ⟨t, rfl, h1, h2⟩, h3⟩ := tree_of_trod n _ _ _ hn
  refine ⟨t, ?_, h1, h2⟩
  have hl := h3.len
  rw [Tree.enc_cells] at hl
  rw [Tree.enc_eta] at h3 ⊢
  refine RdE.value h3 ?_
  cases v with
  | agg c => simp [Value.cells]
  | _ => simp [Value.cells] at hl
end Go.Proofs.YtaoejccgdpppgaaGreatDoor
end

section
namespace Go.Proofs.YtaoejccgdpppgaaGreatDoor
open Go.ChangeShapes Go.WideShapes Go.ChangeAt Go.RowKit Go.Am
set_option maxRecDepth 100000
theorem own : ownKnob PP.godebug = none := by kernel_rfl
theorem laidOutP : laidOutB PP = true := by kernel_rfl
theorem readV : PP.readableRec T.api_Value = true := by kernel_rfl
theorem rowV : T.api_Value < PP.types.size := of_decide_eq_true (by kernel_rfl)
/-- a tree reads as it did -/
theorem tree_stays {H : Type} {enc : TypeId × Value → H} {W W' : World} {v : Value} {d : DataW H} {ps : List MemPlace} (h : DataW.Trod enc PP W 0 (fun _ => true) true T.api_Value v d ps) (hb : Below W.heap.size W W') (hlt : ∀ x ∈ ps, x.block < W.heap.size)
    {sp : Nat → Bool} (hs : ∀ x ∈ ps, sp x.block = true) : DataW.Trod enc PP W' 0 sp true T.api_Value v d ps :=
  WideElems.Trod_stays laidOutP readV rowV h (fun x hx => hb.same (hlt x hx)) hs
theorem bulk_append {H : Type} (l r : List (DataW H)) : Rows.uptoBulkAll (l ++ r) = Rows.uptoBulkAll l + Rows.uptoBulkAll r := by
  induction l with
  | nil => simp [Rows.uptoBulkAll]
  | cons x l ih => simp only [List.cons_append, Rows.uptoBulkAll, ih]; omega
/-- a witness: no value at all -/
def nullV : Value := .agg #[.int .i64 0, .int .i64 0, .string ⟨#[]⟩, .slice none 0 0, .slice none 0 0]
def nullD {H : Type} : DataW H := .agg [.lit (.int .i64 0), .lit (.int .i64 0), .lit (.string []), .nil, .nil]
end Go.Proofs.YtaoejccgdpppgaaGreatDoor
end
