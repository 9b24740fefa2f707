/-
The abstract machine's operations are the model's: constants, conversions, literals, make.
-/
import Derived.Test.YthkoefpidnphpaaGreatDoorPA
import Derived.Laws.IdiomStrings
import Derived.Laws.Tables
import Derived.MapKept
import Derived.Lib.Builder
import Derived.Laws.StructEq
import Derived.Lib.UnsafeStr

section
namespace Go.Am
open Go
section
variable {P : Program} {B : Nat → Prop} {L : Loc} {w : World}
theorem PRel.str' (s : ByteArray) : PRel B w (.str s.data.toList) (.string s) := by
  have := PRel.str (B := B) (w := w) s.data.toList
  simpa using this
theorem ofConst0_sound {v : Value} {d : PV} (h : ofConst0 v = some d) : PRel B w d v ∧ d.leaf = true := by
  unfold ofConst0 at h
  split at h <;> cases h
  · exact ⟨.bool _, rfl⟩
  · exact ⟨.int _ _, rfl⟩
  · exact ⟨PRel.str' _, rfl⟩
  · exact ⟨.nilptr, rfl⟩
  · exact ⟨.nils, rfl⟩
  · exact ⟨.nilmap, rfl⟩
  · exact ⟨.nilfunc, rfl⟩
  · exact ⟨.nili, rfl⟩
theorem ofConstL_sound : ∀ {l : List Value} {ds : List PV}, ofConstL l = some ds → RelL B w ds l ∧ ∀ x ∈ ds, x.leaf = true
  | [], ds, h => by simp [ofConstL] at h; subst h; exact ⟨RelL.nil, by simp⟩
  | v :: l, ds, h => by
    simp only [ofConstL] at h
    split at h
    · rename_i d e hd he
      cases h
      have h1 := ofConst0_sound (B := B) (w := w) hd
      have h2 := ofConstL_sound he
      refine ⟨RelL.cons h1.1 h2.1, fun x hx => ?_⟩
      rcases List.mem_cons.1 hx with rfl | hx
      · exact h1.2
      · exact h2.2 x hx
    · cases h
theorem ofConst_sound {v : Value} {d : PV} (h : ofConst v = some d) : PRel B w d v ∧ (∀ x ∈ d.cells, x.leaf = true) := by
  unfold ofConst at h
  split at h
  · rename_i cs
    simp only [Option.map_eq_some_iff] at h
    obtain ⟨ds, hds, rfl⟩ := h
    obtain ⟨h1, h2⟩ := ofConstL_sound (B := B) (w := w) hds
    exact ⟨by have := PRel.mkAgg h1; simpa using this, h2⟩
  · obtain ⟨h1, h2⟩ := ofConst0_sound (B := B) (w := w) h
    refine ⟨h1, fun x hx => ?_⟩
    have : d.cells = [d] := PV.cells_one (by cases d <;> simp_all [PV.leaf, PV.isAgg])
    rw [this] at hx
    rw [List.mem_singleton.1 hx]; exact h2
theorem zeroT_some {t : TypeId} {z : PV} (h : zeroT P t = some z) : ∃ i v, P.info? t = some i ∧ i.zero = some v ∧ ofConst v = some z := by
  unfold zeroT at h
  simp only [Option.bind_eq_some_iff] at h
  obtain ⟨v, ⟨i, hi, hv⟩, hz⟩ := h
  exact ⟨i, v, hi, hv, hz⟩
theorem cells_size {d : PV} {v : Value} (h : PRel B w d v) : d.cells.length = v.cells.size := by have := h.cells.1; simpa using this
theorem u8_under {t : TypeId} (h : isU8 P t = true) : P.underlying t = some (.int .u8) := by
  unfold isU8 at h
  split at h
  · assumption
  · cases h
theorem bytesOf_spec : ∀ {l : List PV} {s : List UInt8}, bytesOf l = some s → ∃ ns : List Int, l = ns.map (PV.int .u8) ∧ s = ns.map fun n => UInt8.ofNat n.toNat
  | [], s, h => by simp [bytesOf] at h; subst h; exact ⟨[], rfl, rfl⟩
  | x :: l, s, h => by
    unfold bytesOf at h
    split at h
    · rename_i e; cases e
    · rename_i n l' e
      cases e
      simp only [Option.map_eq_some_iff] at h
      obtain ⟨s', hs', rfl⟩ := h
      obtain ⟨ns, rfl, rfl⟩ := bytesOf_spec hs'
      exact ⟨n :: ns, rfl, rfl⟩
    · cases h
theorem flat_ints (ns : List Int) : flat (ns.map (PV.int .u8)) = ns.map (PV.int .u8) := by
  induction ns with
  | nil => rfl
  | cons n ns ih => rw [List.map_cons, flat_cons, ih]; rfl
theorem convA_sound {H : Heap} {src dst : TypeId} {x : V} {vx : Value} {r : Res} (hst : St B L w H) (hx : VRel B L w x vx) (h : convA P src dst x (Heap.at H) = some r) :
    r.eff = .none ∧ ∃ u, (convert src dst vx).run P w = .ok u w ∧ VRel B L w r.val u := by
  unfold convA at h
  split at h
  · rename_i k k' k'' n h1 h2
    cases h; cases hx.of_p
    exact ⟨rfl, .int k' (k'.wrap n), by simp [convert, run_underlying h1, run_underlying h2, Conv.intToInt], .p _ _ (.int _ _)⟩
  · rename_i s h1 h2
    cases h; cases hx.of_p
    exact ⟨rfl, .string ⟨s.toArray⟩, by simp [convert, run_underlying h1, run_underlying h2], .p _ _ (.str _)⟩
  · rename_i x _ _ _ e h1 h2
    split at h
    case isFalse => cases h
    rename_i hu
    split at h
    case h_2 => cases h
    rename_i l hl
    simp only [Option.bind_eq_some_iff] at h
    obtain ⟨s, hs, h⟩ := h
    cases h
    obtain ⟨ns, rfl, rfl⟩ := bytesOf_spec hs
    obtain ⟨a, cap, rfl, hleaf, hlies⟩ := elems_sound hst hx hl
    refine ⟨rfl, .string (strOfNums ns), ?_, .p _ _ (.str _)⟩
    cases hns : ns with
    | nil =>
      rw [run_convert_bytes_string w src dst e a _ cap h1 (u8_under hu) h2]
      cases a <;> simp [Conv.bytesToString, loadCells, loadCellsFrom] <;> rfl
    | cons n ns' =>
      obtain ⟨b, o, rfl, c, hc, hr⟩ := hlies (by rw [hns]; simp)
      rw [← hns]
      refine run_convert_bytes_arg w src e h1 (u8_under hu) b o _ cap ns (by simp) (fun i hi => ?_) dst h2
      rw [flat_ints] at hc
      have hil : i < ns.length := by simpa using hi
      have hcl : i < c.length := by have := hc.1; simp at this; omega
      have := hc.2 i (.p (.int .u8 ns[i])) c[i] (by simp [hil]) (List.getElem?_eq_getElem hcl)
      have hv := this.of_p
      have hcell := hr i c[i] (List.getElem?_eq_getElem hcl)
      rw [hcell]
      generalize c[i] = q at hv
      cases hv
      simp [List.getD, hil]
  · cases h
theorem bytesA_sound {H : Heap} {base : Nat} {src dst : TypeId} {x : V} {vx : Value} {r : Res} (hst : St B L w H) (hx : VRel B L w x vx) (hf : r.eff.isNew = true → ∀ m, base ∉ (Heap.at H m).names) (h : bytesA P base src dst x = some r) :
    Done B L w H base r ((do let u ← convert src dst vx; pure (.value u) : Sem Next).run P w) := by
  unfold bytesA at h
  split at h
  · rename_i e s h1 h2
    split at h
    case isFalse => cases h
    rename_i hu
    cases h
    cases hx.of_p
    have hrun := run_bytes_of_string (P := P) w src dst e ⟨s.toArray⟩ h1 h2 (u8_under hu)
    have hcap : s.length ≤ grownCap w (⟨s.toArray⟩ : ByteArray).size 0 e := by
      simp only [grownCap, Question.cut, ByteArray.size]
      simp
    have hsz : (⟨s.toArray⟩ : ByteArray).size = s.length := by simp [ByteArray.size]
    generalize hC : grownCap w (⟨s.toArray⟩ : ByteArray).size 0 e = C at hrun hcap
    have hrow : (bytesRow ⟨s.toArray⟩ C).size = C := by
      simp only [bytesRow, Array.size_append, Array.size_map, Array.size_replicate]
      simp [ByteArray.size]; omega
    have hfl : flat (s.map byteP) = s.map byteP := by
      clear hrun hcap hC hrow hsz hx hf
      induction s with
      | nil => rfl
      | cons b s ih => rw [List.map_cons, flat_cons, ih]; rfl
    refine ⟨_, _, more B w.drew.heap.size, L.lay base w.drew.heap.size 1 C, .inl (by simp only [Sem.run_bind, hrun, Result.andThen_ok]; rfl), (step_drew B w).trans (step_alloc B w.drew _), ⟨rfl, rfl, rfl⟩, ?_,
      new_arr hst.drew (hf rfl) e (.inr (Nat.le_refl _)) (Nat.le_refl _) (by rw [hrow, Nat.mul_one]) (by simpa using hcap) ?_ ?_ ?_, LocAgree.lay L base _ _ _, Tail.dalloc _ _ _ _ _ _ _ _, EffOk.dlay _ _ _ _ _ _ _⟩
    · have := Loc.lay_same L base w.drew.heap.size 1 C
      have hs := VRel.sl (B := more B w.drew.heap.size) (L := L.lay base w.drew.heap.size 1 C) (w := w.drew.alloc (.cells (bytesRow ⟨s.toArray⟩ C) e ((bytesRow ⟨s.toArray⟩ C).size, (bytesRow ⟨s.toArray⟩ C).size + 1))) base 0 s.length C (by rw [this.2.2]; omega) hcap
      rw [this.1, Nat.zero_mul] at hs
      rw [hsz]; exact hs
    · intro y hy
      obtain ⟨b, _, rfl⟩ := List.mem_map.1 hy
      rfl
    · intro y hy
      rw [hfl] at hy
      obtain ⟨b, _, rfl⟩ := List.mem_map.1 hy
      rfl
    · intro i p q hp hq
      rw [hfl] at hp
      simp only [List.getElem?_map, Option.map_eq_some_iff] at hp
      obtain ⟨b, hb, rfl⟩ := hp
      have hlt := (List.getElem?_eq_some_iff.1 hb).1
      simp only [bytesRow] at hq
      rw [Array.getElem?_append_left (by simpa using hlt)] at hq
      simp [hb] at hq
      subst hq
      exact .int _ _
  · cases h
theorem fill_step (cells : Array Value) (vs : List Value) (off : Nat) (h : off + vs.length ≤ cells.size) :
    (vs.toArray.zipIdx.foldl (fun cs (p : Value × Nat) => cs.setIfInBounds (off + p.2) p.1) cells).toList = cells.toList.take off ++ vs ++ cells.toList.drop (off + vs.length) := by
  have key : ∀ (vs : List Value) (k : Nat) (cells : Array Value), off + k + vs.length ≤ cells.size →
      ((vs.zipIdx k).foldl (fun cs (p : Value × Nat) => cs.setIfInBounds (off + p.2) p.1) cells).toList = cells.toList.take (off + k) ++ vs ++ cells.toList.drop (off + k + vs.length) := by
    intro vs
    induction vs with
    | nil => intro k cells _; simp
    | cons v vs ih =>
      intro k cells hle
      simp only [List.length_cons] at hle
      rw [List.zipIdx_cons, List.foldl_cons, ih (k + 1) _ (by simp; omega)]
      have ho : off + k < cells.toList.length := by simpa using (by omega : off + k < cells.size)
      have hmin : min (off + k) cells.toList.length = off + k := by omega
      have hset : (List.take (off + (k + 1)) (cells.setIfInBounds (off + k) v).toList) = List.take (off + k) cells.toList ++ [v] := by
        rw [Array.toList_setIfInBounds, List.take_set, ← Nat.add_assoc, List.take_succ_eq_append_getElem ho, List.set_append, if_neg (by rw [List.length_take]; omega), List.length_take, hmin]
        simp
      rw [hset, Array.toList_setIfInBounds, List.drop_set, if_pos (by omega)]
      simp [List.append_assoc, show off + (k + 1) + vs.length = off + k + (vs.length + 1) by omega]
  have := key vs 0 cells (by omega)
  simp only [Nat.add_zero] at this
  rw [← this, ← Array.foldl_toList]
  simp
theorem fillA_sound {pl : Nat → Option (Nat × Nat)} : ∀ {parts : List (Nat × V)} {vparts : List (Nat × Value)} {cells : List V} {c : Array Value} {r : List V}, VRelL B L w cells c.toList →
    (parts.map (·.1) = vparts.map (·.1)) → VRelL B L w (parts.map (·.2)) (vparts.map (·.2)) → (∀ x ∈ parts.map (·.2), x ≠ .junk) → fillA pl cells parts = some r →
    ∃ c', Instr.fill pl c vparts = some c' ∧ VRelL B L w r c'.toList
  | [], [], cells, c, r, hc, _, _, _, h => by simp [fillA] at h; subst h; exact ⟨c, rfl, hc⟩
  | [], _ :: _, _, _, _, _, h, _, _, _ => by simp at h
  | _ :: _, [], _, _, _, _, h, _, _, _ => by simp at h
  | (i, v) :: rest, (j, u) :: vrest, cells, c, r, hc, hi, hv, hj, h => by
    simp only [List.map_cons, List.cons.injEq] at hi
    obtain ⟨rfl, hi⟩ := hi
    have hvu := hv.2 0 v u rfl rfl
    have hnj := hj v (by simp)
    have hcu := hvu.cells hnj
    have hrest : VRelL B L w (rest.map (·.2)) (vrest.map (·.2)) := ⟨by have := hv.1; simpa using this, fun k x y hx hy => hv.2 (k + 1) x y (by simpa using hx) (by simpa using hy)⟩
    simp only [fillA] at h
    split at h
    · cases h
    rename_i off size hpl
    split at h
    case isFalse => cases h
    rename_i hcond
    obtain ⟨hsz, hle⟩ := hcond
    have hcs := hc.1
    have hus : u.cells.size = size := by have := hcu.1; simp at this; omega
    have hle' : off + u.cells.toList.length ≤ c.size := by simp at hcs; simp; omega
    have hstep := fill_step c u.cells.toList off hle'
    simp only [Array.toArray_toList] at hstep
    have hnew : VRelL B L w (cells.take off ++ v.cells ++ cells.drop (off + size)) (u.cells.zipIdx.foldl (fun cs (p : Value × Nat) => cs.setIfInBounds (off + p.2) p.1) c).toList := by
      rw [hstep]
      have : u.cells.toList.length = size := by simpa using hus
      rw [this]
      exact ((hc.take off).append hcu).append (hc.drop (off + size))
    obtain ⟨c', hc', hr⟩ := fillA_sound hnew hi hrest (fun x hx => hj x (by simp only [List.map_cons, List.mem_cons]; exact .inr hx)) h
    refine ⟨c', ?_, hr⟩
    simp only [Instr.fill, hpl]
    rw [if_neg (by simp at hcs; simp [hus]; omega)]
    exact hc'
theorem buildA_sound {t : TypeId} {parts : List (Nat × V)} {vparts : Array (Nat × Value)} {r : V} (hi : parts.map (·.1) = vparts.toList.map (·.1)) (hv : VRelL B L w (parts.map (·.2)) (vparts.toList.map (·.2)))
    (hj : ∀ x ∈ parts.map (·.2), x ≠ .junk) (h : buildA P t parts = some r) : ∃ u, (Instr.build t vparts).run P w = .ok u w ∧ VRel B L w r u := by
  unfold buildA at h
  split at h
  case h_2 => cases h
  rename_i z pl hz hpl
  simp only [Option.map_eq_some_iff] at h
  obtain ⟨cs, hcs, rfl⟩ := h
  obtain ⟨i, zv, hi', hzv, hoc⟩ := zeroT_some hz
  have hzr := (ofConst_sound (B := B) (w := w) hoc).1
  have hz0 : VRelL B L w (z.cells.map .p) zv.cells.toList := hzr.cells.toV
  obtain ⟨c', hc', hr⟩ := fillA_sound hz0 hi hv hj hcs
  refine ⟨.agg c', run_build w t vparts c' ?_, by have := VRel.mk hr; simpa using this⟩
  unfold placeT at hpl
  split at hpl
  · rename_i fs hfs
    simp only [Option.map_eq_some_iff] at hpl
    obtain ⟨ps, hps, rfl⟩ := hpl
    have hc'' : Instr.fill (fun i => ps[i]?) zv.cells vparts.toList = some c' := hc'
    simp only [Program.built, hi', hfs, hzv, hps]
    simpa using hc''
  · rename_i n e he
    simp only [Option.map_eq_some_iff] at hpl
    obtain ⟨m, hm, rfl⟩ := hpl
    obtain ⟨ie, hie, rfl⟩ := szT_some hm
    simp only [Program.built, hi', he, hzv, hie]
    exact hc'
  · cases hpl
end
end Go.Am
end

section
namespace Go.Am
open Go
theorem growBy_le (n : Nat) : ∀ (r c : Nat), 256 ≤ c → c ≤ 2 * n → Builtin.growBy n r c ≤ 2 * n
  | 0, c, _, h => h
  | r + 1, c, h1, h2 => by
    unfold Builtin.growBy
    split
    · exact h2
    · exact growBy_le n r _ (by omega) (by omega)
theorem nextslicecap_le {n c : Nat} (h : c < n) : Builtin.nextslicecap n c ≤ 2 * n := by
  unfold Builtin.nextslicecap
  split
  · omega
  · split
    · omega
    · exact growBy_le n 4 c (by omega) (by omega)
section
variable {P : Program} {B : Nat → Prop} {L : Loc} {w : World}
theorem flat_replicate {z : PV} (l k : Nat) (hz : 0 < z.cells.length) : (flat (List.replicate l z))[k]? = if k < l * z.cells.length then z.cells[k % z.cells.length]? else none := by
  have hs : ∀ x ∈ List.replicate l z, x.cells.length = z.cells.length := fun x hx => by rw [(List.mem_replicate.1 hx).2]
  split
  · rename_i hk
    have hi : k / z.cells.length < l := (Nat.div_lt_iff_lt_mul hz).2 hk
    have := flat_get hs (k / z.cells.length) (k % z.cells.length) (x := z) (by simp [hi]) (Nat.mod_lt _ hz)
    rw [Nat.div_add_mod'] at this
    exact this
  · rename_i hk
    rw [List.getElem?_eq_none]
    rw [flat_length hs]; simp; omega
theorem makeA_sound {H : Heap} {base : Nat} {t e : TypeId} {vl vc : Value} {xl xc : V} {l c : Int} {n by_ : Nat} {z : PV} (hst : St B L w H) (hf : ∀ m, base ∉ (Heap.at H m).names)
    (ht : P.underlying t = some (.slice e)) (hl : VRel B L w xl vl) (hc : VRel B L w xc vc) (hil : idxI xl = some l) (hic : idxI xc = some c) (hn : szT P e = some n) (hb : byT P e = some by_) (hz : zeroT P e = some z)
    (h0 : 0 ≤ l) (h1 : l ≤ c) (h2 : (by_ : Int) * c ≤ maxBytes) (h3 : c ≤ maxInt) (h4 : 1 ≤ n) (h5 : z.cells.length = n) :
    Done B L w H base ⟨.sl base 0 l.toNat, .new (.arr e n (List.replicate l.toNat z))⟩ ((do let u ← Instr.makeSlice t vl vc; pure (.value u) : Sem Next).run P w) := by
  obtain ⟨kl, rfl⟩ := idxI_sound hl hil
  obtain ⟨kc, rfl⟩ := idxI_sound hc hic
  obtain ⟨i, zv, hi, hzv, hoc⟩ := zeroT_some hz
  have hin : i.size = n := by obtain ⟨j, hj, hjn⟩ := szT_some hn; rw [hi] at hj; cases hj; exact hjn
  have hib : i.bytes = by_ := by simp only [byT, hi, Option.map_some, Option.some.injEq] at hb; exact hb
  have hrun := run_make (P := P) w t e i zv ht hi hzv kl kc l c h0 h1 (by rw [hib]; simpa [maxBytes] using h2) (by simpa [maxInt] using h3)
  obtain ⟨hzr, hzl⟩ := ofConst_sound (B := B) (w := w) hoc
  have hzs := cells_size hzr
  have hzc : 0 < z.cells.length := by omega
  refine ⟨_, _, more B w.heap.size, L.lay base w.heap.size n c.toNat, .inl (by simp only [Sem.run_bind, hrun, Result.andThen_ok]; rfl), step_alloc B w _, ⟨rfl, rfl, rfl⟩, ?_,
    new_arr hst hf e (.inl (Nat.le_refl _)) h4 (by rw [size_madeCells, hin]) (by simp; omega) ?_ ?_ ?_, LocAgree.lay L base _ _ _, Tail.alloc _ _ _ _ _ _ _ _, EffOk.lay _ _ _ _ _ _ _⟩
  · have := Loc.lay_same L base w.heap.size n c.toNat
    have hs := VRel.sl (B := more B w.heap.size) (L := L.lay base w.heap.size n c.toNat) (w := w.alloc (.cells (madeCells zv.cells (c.toNat * i.size)) e)) base 0 l.toNat c.toNat (by rw [this.2.2]; omega) (by omega)
    rw [this.1, Nat.zero_mul] at hs
    exact hs
  · intro x hx; rw [(List.mem_replicate.1 hx).2]; exact h5
  · intro x hx
    obtain ⟨y, hy, hxy⟩ := List.mem_flatMap.1 hx
    rw [(List.mem_replicate.1 hy).2] at hxy
    exact hzl x hxy
  · intro k x y hx hy
    rw [flat_replicate _ _ hzc] at hx
    split at hx
    · rename_i hk
      have hkc : k < c.toNat * i.size := by
        rw [hin, ← h5]; exact Nat.lt_of_lt_of_le hk (Nat.mul_le_mul_right _ (by omega))
      have hy' : y = zv.cells[k % zv.cells.size]! := by
        simp only [madeCells] at hy
        rw [Array.getElem?_map, Array.getElem?_range] at hy
        simp [hkc] at hy
        exact hy.symm
      rw [← hzs] at hy'
      have hlt : k % z.cells.length < zv.cells.size := by rw [← hzs]; exact Nat.mod_lt _ hzc
      have := hzr.cells.2 (k % z.cells.length) x zv.cells[k % z.cells.length] hx (by simp [hlt])
      rw [hy', getElem!_pos zv.cells _ hlt]
      exact this
    · cases hx
theorem partsL_spec : ∀ {parts : List (Nat × V)} {k : Nat} {ds : List PV}, partsL k parts = some ds → parts = (ds.zipIdx k).map fun x => (x.2, V.p x.1)
  | [], k, ds, h => by simp [partsL] at h; subst h; rfl
  | (i, v) :: rest, k, ds, h => by
    unfold partsL at h
    split at h
    · rename_i e; cases e
    · rename_i d r e
      cases e
      split at h
      · rename_i hi
        split at h
        · rename_i es hes
          cases h
          rw [partsL_spec hes]
          simp [hi, List.zipIdx_cons]
        · cases h
      · cases h
    · cases h
theorem buildSliceA_sound {H : Heap} {base : Nat} {t e : TypeId} {len n : Nat} {parts : List (Nat × V)} {vparts : Array (Nat × Value)} {ds : List PV} (hst : St B L w H) (hf : ∀ m, base ∉ (Heap.at H m).names)
    (ht : P.underlying t = some (.slice e)) (hn : szT P e = some n) (hz : (zeroT P e).isSome = true) (hp : partsL 0 parts = some ds) (hlen : ds.length = len) (h1 : 1 ≤ n) (hsm : len * n ≤ 16777216)
    (hs : ∀ y ∈ ds, y.cells.length = n ∧ ∀ c ∈ y.cells, c.leaf = true) (hi : parts.map (·.1) = vparts.toList.map (·.1)) (hv : VRelL B L w (parts.map (·.2)) (vparts.toList.map (·.2))) :
    Done B L w H base ⟨.sl base 0 len, .new (.arr e n ds)⟩ ((do let u ← Instr.buildSlice t len vparts; pure (.value u) : Sem Next).run P w) := by
  obtain ⟨z, hz⟩ := Option.isSome_iff_exists.1 hz
  obtain ⟨i, zv, hi', hzv, hoc⟩ := zeroT_some hz
  have hin : i.size = n := by obtain ⟨j, hj, hjn⟩ := szT_some hn; rw [hi'] at hj; cases hj; exact hjn
  have hparts := partsL_spec hp
  -- the parts' values
  have hvs : RelL B w ds (vparts.toList.map (·.2)) := by
    have : parts.map (·.2) = ds.map .p := by
      rw [hparts, List.map_map]
      apply List.ext_getElem?
      intro k
      simp [Function.comp_def]
    rw [this] at hv
    exact hv.toP
  have hidx : vparts.toList = ((vparts.toList.map (·.2)).zipIdx 0).map fun x => (x.2, x.1) := by
    apply List.ext_getElem?
    intro k
    have h := congrArg (fun l : List Nat => l[k]?) hi
    rw [hparts] at h
    simp only [List.map_map, List.getElem?_map, List.getElem?_zipIdx] at h ⊢
    have hl : ds.length = vparts.toList.length := by have := hvs.1; simpa using this
    cases hk : vparts.toList[k]? with
    | none => simp
    | some p =>
      have hkl := (List.getElem?_eq_some_iff.1 hk).1
      have hkd : k < ds.length := by omega
      rw [hk, List.getElem?_eq_getElem hkd] at h
      simp at h
      simp
      obtain ⟨a, b⟩ := p
      simp at h ⊢
      exact h.symm
  have hcells : ∀ v ∈ vparts.toList.map (·.2), v.cells.size = n := by
    intro v hv
    obtain ⟨k, hk, rfl⟩ := List.getElem_of_mem hv
    have hkd : k < ds.length := by rw [hvs.1]; exact hk
    have := hvs.2 k ds[k] _ (List.getElem?_eq_getElem hkd) (List.getElem?_eq_getElem hk)
    rw [← cells_size this]
    exact (hs _ (List.getElem_mem hkd)).1
  have hvl : (vparts.toList.map (·.2)).length = len := by rw [← hvs.1]; exact hlen
  have hsz : ∀ y ∈ ds, y.cells.length = n := fun y hy => (hs y hy).1
  have hleaf : ∀ x ∈ flat ds, x.leaf = true := fun x hx => by
    obtain ⟨y, hy, hxy⟩ := List.mem_flatMap.1 hx
    exact (hs y hy).2 x hxy
  -- the cells
  have hrel : ∀ (k : Nat) x y, (flat ds)[k]? = some x → ((vparts.toList.map (·.2)).flatMap fun v => v.cells.toList)[k]? = some y → PRel B w x y := by
    have : ∀ (ds : List PV) (vs : List Value), RelL B w ds vs → RelL B w (flat ds) (vs.flatMap fun v => v.cells.toList) := by
      intro ds
      induction ds with
      | nil =>
        intro vs h
        have : vs = [] := List.length_eq_zero_iff.1 (by have := h.1; simp at this; omega)
        subst this; exact RelL.nil
      | cons d ds ih =>
        intro vs h
        cases vs with
        | nil => have := h.1; simp at this
        | cons v vs =>
          rw [flat_cons, List.flatMap_cons]
          exact (h.2 0 d v rfl rfl).cells.append (ih vs ⟨by have := h.1; simpa using this, fun k x y hx hy => h.2 (k + 1) x y (by simpa using hx) (by simpa using hy)⟩)
    exact (this ds _ hvs).2
  have hfin : ∀ (cells : Array Value), cells.toList = ((vparts.toList.map (·.2)).flatMap fun v => v.cells.toList) → (Instr.buildSlice t len vparts).run P w = .ok (.slice (some ⟨w.heap.size, 0, none⟩) len len) (w.alloc (.cells cells e)) →
      Done B L w H base ⟨.sl base 0 len, .new (.arr e n ds)⟩ ((do let u ← Instr.buildSlice t len vparts; pure (.value u) : Sem Next).run P w) := by
    intro cells hc hrun
    have hcs : cells.size = len * n := by
      rw [← Array.length_toList, hc, List.length_flatMap]
      have : (vparts.toList.map (·.2)).map (fun v => v.cells.toList.length) = List.replicate len n := by
        apply List.ext_getElem
        · simp [← hvl]
        · intro k h1 h2
          simp only [List.getElem_map, List.getElem_replicate, Array.length_toList]
          exact hcells _ (List.mem_map.2 ⟨_, List.getElem_mem _, rfl⟩)
      rw [this]; simp
    refine ⟨_, _, more B w.heap.size, L.lay base w.heap.size n len, .inl (by simp only [Sem.run_bind, hrun, Result.andThen_ok]; rfl), step_alloc B w _, ⟨rfl, rfl, rfl⟩, ?_,
      new_arr hst hf e (.inl (Nat.le_refl _)) h1 hcs (by omega) hsz hleaf (fun k x y hx hy => hrel k x y hx (by rw [← hc]; simpa using hy)), LocAgree.lay L base _ _ _, Tail.alloc _ _ _ _ _ _ _ _, EffOk.lay _ _ _ _ _ _ _⟩
    have := Loc.lay_same L base w.heap.size n len
    have hs' := VRel.sl (B := more B w.heap.size) (L := L.lay base w.heap.size n len) (w := w.alloc (.cells cells e)) base 0 len len (by rw [this.2.2]; omega) (Nat.le_refl _)
    rw [this.1, Nat.zero_mul] at hs'
    exact hs'
  by_cases h0 : len = 0
  · subst h0
    have hnil : ds = [] := List.length_eq_zero_iff.1 hlen
    have hvn : vparts.toList = [] := List.length_eq_zero_iff.1 (by have := hvs.1; rw [hnil] at this; simp at this; rw [Array.length_toList]; omega)
    refine hfin #[] (by rw [hvn]; rfl) ?_
    have he : (Array.map (fun _ => (default : Value)) (Array.range 0)) = #[] := by simp [Array.range_zero']
    simp [Instr.buildSlice, run_underlying ht, run_sizeOf hn, hvn, Instr.fill, newRow, he]
  · have hpos : ¬ len * i.size = 0 := by rw [hin]; exact fun h => by rcases Nat.mul_eq_zero.1 h with h | h <;> omega
    have hfill := Great.fill_whole (s := i.size) (by omega) (vparts.toList.map (·.2)) ((Array.range (len * i.size)).map (zv.cells[· % zv.cells.size]!)) (by rw [hin]; exact hcells) (by rw [hvl]; simp)
    rw [← hidx] at hfill
    exact hfin _ (by simp) (run_buildSlice w t e len vparts _ i zv ht hi' hzv (by rw [hin]; omega) hpos hfill)
end
end Go.Am
end

section
namespace Go.Am
open Go
section
variable {P : Program} {B : Nat → Prop} {L : Loc} {w : World}
theorem rel_one {l : List PV} {c : List Value} (h : RelL B w l c) (hl : ∀ x ∈ l, x.leaf = true) : ∀ u ∈ c, u.oneCell' = true := by
  intro u hu
  obtain ⟨k, hk, rfl⟩ := List.getElem_of_mem hu
  have hkl : k < l.length := by rw [h.1]; exact hk
  exact (h.2 k l[k] c[k] (List.getElem?_eq_getElem hkl) (List.getElem?_eq_getElem hk)).one (hl _ (List.getElem_mem hkl))
theorem flat_bytes (s : List UInt8) : flat (s.map byteP) = s.map byteP := by
  induction s with
  | nil => rfl
  | cons b s ih => rw [List.map_cons, flat_cons, ih]; rfl
theorem srcA_sound {H : Heap} {tx : TypeId} {x : V} {vx : Value} {news : List PV} {sz : Nat} (hst : St B L w H) (hx : VRel B L w x vx) (h : srcA P (Heap.at H) tx x = some news) (hs : ∀ y ∈ news, y.cells.length = sz) (h1 : 1 ≤ sz) :
    ∃ c : List Value, Src P sz tx vx news.length c w ∧ RelL B w (flat news) c ∧ ∀ y ∈ flat news, y.leaf = true := by
  unfold srcA at h
  split at h
  · rename_i e ht
    obtain ⟨a, cap, rfl, hleaf, hlies⟩ := elems_sound hst hx h
    by_cases hne : news = []
    · subst hne
      refine ⟨[], ?_, RelL.nil, by simp [flat]⟩
      exact ⟨.inl ⟨e, ht⟩, fun _ => rfl, by cases a <;> simp [Builtin.firstCells, loadCells, loadCellsFrom], by cases a <;> simp [Builtin.firstCells, loadCells, loadCellsFrom], by simp, by simp⟩
    · obtain ⟨b, o, rfl, c, hc, hr⟩ := hlies hne
      have hcl : c.length = news.length * sz := by rw [← hc.1, List.length_map, flat_length hs]
      exact ⟨c, Src.ofSlice w ht ⟨b, o, none⟩ _ cap c hcl (fun j u hu => by rw [Addr.add_mid]; exact hr j u hu) (rel_one hc.toP hleaf), hc.toP, hleaf⟩
  · rename_i s ht
    cases h
    cases hx.of_p
    have hleaf : ∀ y ∈ flat (s.map byteP), y.leaf = true := by
      intro y hy; rw [flat_bytes] at hy
      obtain ⟨b, _, rfl⟩ := List.mem_map.1 hy
      rfl
    refine ⟨byteCells ⟨s.toArray⟩, ?_, ?_, hleaf⟩
    · have := Src.ofString (P := P) w ht ⟨s.toArray⟩
      have hsz : (⟨s.toArray⟩ : ByteArray).size = (s.map byteP).length := by simp [ByteArray.size]
      rw [hsz] at this
      by_cases hne : s = []
      · subst hne
        have hb : byteCells ⟨([] : List UInt8).toArray⟩ = [] := rfl
        rw [hb] at this ⊢
        exact ⟨this.kind, this.len, by simp [Builtin.firstCells], by simp [Builtin.firstCells], by simp, by simp⟩
      · have : sz = 1 := by
          obtain ⟨b, hb⟩ := List.exists_mem_of_ne_nil s hne
          have := hs (byteP b) (List.mem_map.2 ⟨b, hb, rfl⟩)
          simpa [byteP, PV.cells] using this.symm
        subst this
        assumption
    · rw [flat_bytes]
      refine ⟨by simp [byteCells], fun k p q hp hq => ?_⟩
      simp only [List.getElem?_map, Option.map_eq_some_iff] at hp
      obtain ⟨b, hb, rfl⟩ := hp
      simp [byteCells, hb] at hq
      subst hq
      exact .int _ _
  · cases h
theorem size_zeroCells (z : Array Value) (n : Nat) : (Builtin.zeroCells z n).size = n * z.size := by simp [Builtin.zeroCells]
theorem grownCap_le (w : World) (need old : Nat) (e : TypeId) : need ≤ grownCap w need old e := by simp [grownCap, Question.cut]
theorem regrown {H : Heap} {n sz cap : Nat} {es : List PV} {c : Array Value} (hst : St B L w H) (t : TypeId) (hz : 1 ≤ sz) (hcap : c.size = cap * sz) (hle : es.length ≤ cap) (hs : ∀ x ∈ es, x.cells.length = sz)
    (hl : ∀ x ∈ flat es, x.leaf = true) (h : ∀ (i : Nat) x y, (flat es)[i]? = some x → c[i]? = some y → PRel B w x y) :
    St (more B w.heap.size) (L.lay n w.heap.size sz cap) (w.alloc (.cells c t)) ((H.kill n).put n (.arr t sz es)) :=
  new_arr (hst.kill n) (fun m => by rw [Heap.at_kill]; exact HO.kill_names n _) t (.inl (Nat.le_refl _)) hz hcap hle hs hl h
theorem lst_first {l : List PV} {v : Value} {sz : Nat} {ex : Bool} (hx : PRel B w (.lst ex l) v) (hs : ∀ x ∈ l, x.cells.length = sz) :
    ∃ a cap olds, v = .slice a l.length cap ∧ l.length ≤ cap ∧ (ex = true → cap = l.length) ∧ (Builtin.firstCells sz l.length v).run P w.drew = .ok olds.toArray w.drew ∧ RelL B w (flat l) olds := by
  cases hx with
  | lst0 ex a cap he hn =>
    exact ⟨a, cap, [], rfl, Nat.zero_le _, fun e => he e, by cases a <;> simp [Builtin.firstCells, loadCells, loadCellsFrom], RelL.nil⟩
  | lst ex l b o cap sz' u hb hw hz hs' hf hcap he hc hr =>
    obtain ⟨c, hcl, hcu⟩ := list_of u (flat l).length
    refine ⟨_, cap, c, rfl, hcap, fun e => (he e).1, ?_, by omega, fun i x y hx hy => ?_⟩
    · exact run_firstCells_some w.drew sz l.length ⟨b, o, none⟩ l.length cap c (by rw [hcl, flat_length hs]) (fun j v hv => by
        rw [Addr.add_mid]
        have hj : j < (flat l).length := by rw [← hcl]; exact (List.getElem?_eq_some_iff.1 hv).1
        rw [hcu j hj] at hv; cases hv
        exact hc j hj)
    · have hi := (List.getElem?_eq_some_iff.1 hx).1
      rw [hcu i hi] at hy; cases hy
      exact hr i x hx
theorem appendA_sound {H : Heap} {base : Nat} {t tx ty : TypeId} {s x : V} {vs vx : Value} {r : Res} (hst : St B L w H) (hf : r.eff.isNew = true → ∀ m, base ∉ (Heap.at H m).names) (hs : VRel B L w s vs) (hx : VRel B L w x vx)
    (h : appendA P (Heap.at H) base t tx s x = some r) : Done B L w H base r ((do let u ← Builtin.append_ #[t, tx] ty #[vs, vx]; pure (.value u) : Sem Next).run P w) := by
  unfold appendA at h
  replace hs := hs.nn
  generalize s.nn = s at h hs
  split at h
  case h_2 => cases h
  rename_i e ht
  split at h
  case h_2 => cases h
  rename_i sz by_ z news hn hb hz hsrc
  split at h
  case isFalse => cases h
  rename_i hcnd
  obtain ⟨h1, hby, hzl, hnews⟩ := hcnd
  obtain ⟨i, zv, hi, hzv, hoc⟩ := zeroT_some hz
  have hin : i.size = sz := by obtain ⟨j, hj, hjn⟩ := szT_some hn; rw [hi] at hj; cases hj; exact hjn
  have hib : i.bytes = by_ := by simp only [byT, hi, Option.map_some, Option.some.injEq] at hb; exact hb
  have hzs : zv.cells.size = sz := by rw [← cells_size (ofConst_sound (B := B) (w := w) hoc).1]; exact hzl
  obtain ⟨nc, hS, hnr, hnl⟩ := srcA_sound hst hx hsrc hnews h1
  rw [← hin] at hS
  have hncl : nc.length = news.length * sz := by rw [← hin]; exact hS.newsLen
  -- growing into a new row
  have grow : ∀ (es : List PV) (a : Option Addr) (cap : Nat) (olds : List Value), (∀ y ∈ es, y.cells.length = sz) → (∀ y ∈ flat es, y.leaf = true) →
      (Builtin.firstCells i.size es.length (.slice a es.length cap)).run P w.drew = .ok olds.toArray w.drew → RelL B w (flat es) olds → cap < es.length + news.length → (es.length + news.length) * (2 * by_) ≤ maxBytes →
      vs = .slice a es.length cap →
      ∃ C cells, es.length + news.length ≤ C ∧ (Builtin.append_ #[t, tx] ty #[vs, vx]).run P w = .ok (.slice (some ⟨w.heap.size, 0, none⟩) (es.length + news.length) C) (w.drew.alloc (.cells cells e)) ∧
        cells.size = C * sz ∧ (∀ y ∈ es ++ news, y.cells.length = sz) ∧ (∀ y ∈ flat (es ++ news), y.leaf = true) ∧ ∀ (k : Nat) p q, (flat (es ++ news))[k]? = some p → cells[k]? = some q → PRel B w.drew p q := by
    intro es a cap olds hes hel hfirst hold hgrow hfit hvs
    have hnext := nextslicecap_le hgrow
    have h63 : ((es.length + news.length : Nat) : Int) ≤ 9223372036854775807 := by
      have : (es.length + news.length) * 1 ≤ (es.length + news.length) * (2 * by_) := Nat.mul_le_mul_left _ (by omega)
      simp [maxBytes] at hfit
      omega
    have hmul : Builtin.nextslicecap (es.length + news.length) cap * i.bytes ≤ 281474976710656 := by
      have h2 : Builtin.nextslicecap (es.length + news.length) cap * i.bytes ≤ (2 * (es.length + news.length)) * by_ := by rw [hib]; exact Nat.mul_le_mul_right _ hnext
      have h3 : (2 * (es.length + news.length)) * by_ = (es.length + news.length) * (2 * by_) := by rw [Nat.mul_comm 2, Nat.mul_assoc]
      simp [maxBytes] at hfit
      omega
    refine ⟨grownCap w (es.length + news.length) cap e, (olds ++ nc).toArray ++ Builtin.zeroCells zv.cells (grownCap w (es.length + news.length) cap e - (es.length + news.length)), grownCap_le _ _ _ _, ?_, ?_, ?_, ?_, ?_⟩
    · rw [hvs]
      exact run_append_grow_src w t tx ty e i zv ht hi hzv a es.length cap olds hfirst vx news.length nc hS hgrow h63 hmul
    · have hC := grownCap_le w (es.length + news.length) cap e
      have hol : olds.length = es.length * sz := by rw [← hold.1, flat_length hes]
      simp only [Array.size_append, List.size_toArray, List.length_append, size_zeroCells, hol, hncl, hzs]
      rw [← Nat.add_mul, ← Nat.add_mul]
      congr 1; omega
    · intro y hy
      rcases List.mem_append.1 hy with hy | hy
      · exact hes y hy
      · exact hnews y hy
    · intro y hy
      rw [flat_append] at hy
      rcases List.mem_append.1 hy with hy | hy
      · exact hel y hy
      · exact hnl y hy
    · intro k p q hp hq
      rw [flat_append] at hp
      have hlt : k < (olds ++ nc).length := by
        have := (List.getElem?_eq_some_iff.1 hp).1
        rw [List.length_append] at this ⊢
        rw [← hold.1, ← hnr.1]; exact this
      rw [Array.getElem?_append_left (by simpa using hlt)] at hq
      exact ((hold.append hnr).2 k p q hp (by simpa using hq)).step (step_drew B w)
  split at h
  · rename_i l
    split at h
    case isFalse => cases h
    rename_i hc
    obtain ⟨hfit, hne, hls⟩ := hc
    cases h
    have hp := hs.of_p
    obtain ⟨a, cap, olds, hvs, hcap, hex, hfirst, hold⟩ := lst_first hp hls
    have hlf : ∀ y ∈ flat l, y.leaf = true := by
      obtain ⟨_, _, _, hlf, _⟩ := lst_shows (L := L) hp
      exact hlf
    have hnp : 0 < news.length := List.length_pos_iff.2 hne
    obtain ⟨C, cells, hC, hrun, hcsz, hall, hleaf, hrel⟩ := grow l a cap olds hls hlf (by rw [← hvs, hin]; exact hfirst) hold (by rw [hex rfl]; omega) hfit hvs
    refine ⟨_, _, more B w.drew.heap.size, L.lay base w.drew.heap.size sz C, .inl (by simp only [Sem.run_bind, hrun, Result.andThen_ok]; rfl), (step_drew B w).trans (step_alloc B w.drew _), ⟨rfl, rfl, rfl⟩, ?_,
      new_arr hst.drew (hf rfl) e (.inl (Nat.le_refl _)) h1 hcsz (by rw [List.length_append]; exact hC) hall hleaf hrel, LocAgree.lay L base _ _ _, Tail.dalloc _ _ _ _ _ _ _ _, EffOk.dlay _ _ _ _ _ _ _⟩
    have hlay := Loc.lay_same L base w.drew.heap.size sz C
    have hs' := VRel.sl (B := more B w.drew.heap.size) (L := L.lay base w.drew.heap.size sz C) (w := w.drew.alloc (.cells cells e)) base 0 (l.length + news.length) C (by rw [hlay.2.2]; omega) hC
    rw [hlay.1, Nat.zero_mul] at hs'
    exact hs'
  · rename_i n len
    split at h
    case h_2 => cases h
    rename_i sz' es hm
    split at h
    case isFalse =>
      split at h
      case isFalse => cases h
      rename_i hc
      obtain ⟨hte, rfl, hne, hfits⟩ := hc
      have hte := hte.symm
      subst hte
      cases h
      have hrel := hst.rel n
      rw [hm] at hrel
      obtain ⟨hlies, hleaf, hes, hsz, hcapn⟩ := arr_all hrel
      have hlive : (Heap.at H n).live := by rw [hm]; trivial
      have hfl := flat_length hes
      cases hs with
      | sl0 n off a h => omega
      | sl n off len cap hcp hl =>
        cases hrel with
        | arr sz es c t' fr hw hfr hz hsz' hcap hle hs' hf' h' =>
          have hinn := hin
          have hmul : (len + news.length) * sz' ≤ es.length * sz' := Nat.mul_le_mul_right _ hfits
          have hmul2 : es.length * sz' ≤ L.cap n * sz' := Nat.mul_le_mul_right _ hle
          rw [Nat.add_mul] at hmul
          have hin2 : len * sz' + nc.length ≤ c.size := by rw [hncl, hcap]; omega
          have hrun := run_append_room_src w t tx ty e i ht hi (L.blk n) 0 len cap vx news.length nc hS (by omega)
            (fun j hj => by rw [hinn, Nat.zero_add]; simp only [World.cell?, hw]; simp; omega)
            (fun j hj => by
              rw [hinn, Nat.zero_add]; simp only [World.frozen?, hw]
              rcases hfr with h | h
              · simp; omega
              · simp; omega)
          rw [hinn, Nat.zero_add] at hrun
          obtain ⟨c', hw', hl'⟩ := setCells_block w (L.blk n) nc (len * sz') hw hin2
          have hstep : Step B w B (w.setCells (L.blk n) (len * sz') nc) :=
            ⟨by rw [setCells_size]; omega, fun b _ hb => setCells_other _ _ _ _ b (fun e => hb (e ▸ (hst.own n hlive).1)), fun _ _ h => h⟩
          have hc's : c'.size = c.size := by
            have := congrArg List.length hl'
            simp at this
            omega
          refine ⟨_, _, B, L, .inl (by rw [Nat.zero_mul]; simp only [Sem.run_bind, hrun, Result.andThen_ok]; rfl), hstep, setCells_same _ _ _ _, ?_, ?_, LocAgree.refl L _, Tail.set hlive _ _, hlive⟩
          · have := VRel.sl (B := B) (L := L) (w := w.setCells (L.blk n) (len * sz') nc) n 0 (len + news.length) cap hcp (by omega)
            rw [Nat.zero_mul] at this
            exact this
          · refine (hst.kill n).upd (n := n) (by rw [Heap.at_kill, HO.kill_live]; exact hlive) (setCells_size _ _ _ _) (fun k hk => setCells_other _ _ _ _ k hk) ?_
            have hft : flat (es.take len) = (flat es).take (len * sz') := flat_take hes len (by omega)
            have hfd : flat (es.drop (len + news.length)) = (flat es).drop ((len + news.length) * sz') := flat_drop hes _ (by omega)
            refine .arr sz' _ c' e fr hw' (by rw [hc's]; exact hfr) hz hsz' (by rw [hc's]; exact hcap) (by simp only [List.length_append, List.length_take, List.length_drop]; omega) ?_ ?_ ?_
            · intro y hy
              rcases List.mem_append.1 hy with hy | hy
              · exact hes y (List.mem_of_mem_take hy)
              · rcases List.mem_append.1 hy with hy | hy
                · exact hnews y hy
                · exact hes y (List.mem_of_mem_drop hy)
            · intro y hy
              rw [flat_append, flat_append] at hy
              rcases List.mem_append.1 hy with hy | hy
              · rw [hft] at hy; exact hleaf y (List.mem_of_mem_take hy)
              · rcases List.mem_append.1 hy with hy | hy
                · exact hnl y hy
                · rw [hfd] at hy; exact hleaf y (List.mem_of_mem_drop hy)
            · intro k p q hp hq
              rw [flat_append, flat_append, hft, hfd] at hp
              have hnn := hnr.1
              have htl : (c.toList.take (len * sz')).length = len * sz' := by simp; omega
              have htf : ((flat es).take (len * sz')).length = len * sz' := by simp; omega
              have hq' : (c.toList.take (len * sz') ++ nc ++ c.toList.drop (len * sz' + nc.length))[k]? = some q := by rw [← hl']; simpa using hq
              rw [List.append_assoc] at hq'
              by_cases hk : k < len * sz'
              · rw [List.getElem?_append_left (by omega), List.getElem?_take, if_pos hk] at hp
                rw [List.getElem?_append_left (by omega), List.getElem?_take, if_pos hk] at hq'
                exact (h' k p q hp (by simpa using hq')).step hstep
              · rw [List.getElem?_append_right (by omega), htf] at hp
                rw [List.getElem?_append_right (by omega), htl] at hq'
                by_cases hk2 : k - len * sz' < nc.length
                · rw [List.getElem?_append_left (by omega)] at hp
                  rw [List.getElem?_append_left hk2] at hq'
                  exact (hnr.2 _ p q hp hq').step hstep
                · rw [List.getElem?_append_right (by omega), List.getElem?_drop, hnn] at hp
                  rw [List.getElem?_append_right (by omega), List.getElem?_drop] at hq'
                  have e1 : len * sz' + nc.length + (k - len * sz' - nc.length) = k := by omega
                  have e2 : (len + news.length) * sz' + (k - len * sz' - nc.length) = k := by rw [Nat.add_mul]; omega
                  rw [e2] at hp
                  rw [e1] at hq'
                  exact (h' k p q hp (by simpa using hq')).step hstep
    rename_i hc
    obtain ⟨hte, rfl, rfl, hfit⟩ := hc
    have hte := hte.symm
    subst hte
    cases h
    have hrel := hst.rel n
    rw [hm] at hrel
    obtain ⟨hlies, hleaf, hes, hsz, hcapn⟩ := arr_all hrel
    have hlive : (Heap.at H n).live := by rw [hm]; trivial
    obtain ⟨olds, holds, hrange⟩ := hlies
    have hfl := flat_length hes
    have hol : olds.length = es.length * sz' := by have := holds.1; simp at this; omega
    -- with a placement as it was
    have done : ∀ (a : Option Addr) (cap : Nat), vs = .slice a es.length cap → (cap = 0 ∧ es.length = 0 ∧ 0 = L.cap n ∨ a = some ⟨L.blk n, 0, none⟩ ∧ cap = L.cap n) → Done B L w H base ⟨.sl n 0 (es.length + news.length), .repoint n (.arr e sz' (es ++ news))⟩ ((do let u ← Builtin.append_ #[t, tx] ty #[vs, vx]; pure (.value u) : Sem Next).run P w) := by
      intro a cap hvs hplace
      by_cases hroom : es.length + news.length ≤ cap
      · -- there is room
        rcases hplace with ⟨hc0, hl0, hcz⟩ | ⟨ha, hcc⟩
        · -- nothing is appended to nothing
          have hn0 : news = [] := List.length_eq_zero_iff.1 (by omega)
          subst hn0
          have hrun := run_append_nothing (P := P) w t tx ty e i ht hi a es.length cap (by omega) vx (by
            have : nc = [] := List.length_eq_zero_iff.1 (by simpa using hncl)
            rw [this] at hS; exact hS)
          refine ⟨_, w, B, L, .inl (by rw [hvs]; simp only [Sem.run_bind, hrun, Result.andThen_ok]; rfl), Step.refl B w, Same.refl w, ?_, ?_, LocAgree.refl L _, Tail.refl B L w H, hlive⟩
          · rw [hl0, hc0]; exact .sl0 _ _ _ (by omega)
          · have := (hst.kill n).upd (n := n) (o := .arr e sz' es) (by rw [Heap.at_kill, HO.kill_live]; exact hlive) rfl (fun _ _ => rfl) (by have := (hst.kill n).rel n; rw [Heap.at_kill, hm] at this; exact this)
            simpa [Eff.apply] using this
        · -- in place
          subst ha
          cases hrel with
          | arr sz es c t' fr hw hfr hz hsz' hcap hle hs' hf' h' =>
            have hinn := hin
            have hin2 : es.length * sz' + nc.length ≤ c.size := by
              rw [hncl, ← Nat.add_mul, hcap]; exact Nat.mul_le_mul_right _ (by omega)
            have hrun := run_append_room_src w t tx ty e i ht hi (L.blk n) 0 es.length cap vx news.length nc hS hroom
              (fun j hj => by rw [hinn, Nat.zero_add]; simp only [World.cell?, hw]; simp; omega)
              (fun j hj => by
                rw [hinn, Nat.zero_add]; simp only [World.frozen?, hw]
                rcases hfr with h | h
                · simp; omega
                · simp; omega)
            rw [hinn, Nat.zero_add] at hrun
            obtain ⟨c', hw', hl'⟩ := setCells_block w (L.blk n) nc (es.length * sz') hw hin2
            have hstep : Step B w B (w.setCells (L.blk n) (es.length * sz') nc) :=
              ⟨by rw [setCells_size]; omega, fun b _ hb => setCells_other _ _ _ _ b (fun e => hb (e ▸ (hst.own n hlive).1)), fun _ _ h => h⟩
            have hc's : c'.size = c.size := by
              have := congrArg List.length hl'
              simp at this
              omega
            refine ⟨_, _, B, L, .inl (by rw [hvs]; simp only [Sem.run_bind, hrun, Result.andThen_ok]; rfl), hstep, setCells_same _ _ _ _, ?_, ?_, LocAgree.refl L _, Tail.set hlive _ _, hlive⟩
            · have := VRel.sl (B := B) (L := L) (w := w.setCells (L.blk n) (es.length * sz') nc) n 0 (es.length + news.length) cap (by omega) hroom
              rw [Nat.zero_mul] at this
              exact this
            · refine (hst.kill n).upd (n := n) (by rw [Heap.at_kill, HO.kill_live]; exact hlive) (setCells_size _ _ _ _) (fun k hk => setCells_other _ _ _ _ k hk) ?_
              refine .arr sz' _ c' e fr hw' (by rw [hc's]; exact hfr) hz hsz' (by rw [hc's]; exact hcap) (by rw [List.length_append]; omega) ?_ ?_ ?_
              · intro y hy
                rcases List.mem_append.1 hy with hy | hy
                · exact hes y hy
                · exact hnews y hy
              · intro y hy
                rw [flat_append] at hy
                rcases List.mem_append.1 hy with hy | hy
                · exact hleaf y hy
                · exact hnl y hy
              · intro k p q hp hq
                rw [flat_append] at hp
                have hq' : (c.toList.take (es.length * sz') ++ nc ++ c.toList.drop (es.length * sz' + nc.length))[k]? = some q := by rw [← hl']; simpa using hq
                by_cases hk : k < (flat es).length
                · rw [List.getElem?_append_left hk] at hp
                  rw [List.append_assoc, List.getElem?_append_left (by simp; omega), List.getElem?_take, if_pos (by omega)] at hq'
                  exact (h' k p q hp (by simpa using hq')).step hstep
                · rw [List.getElem?_append_right (by omega)] at hp
                  have hkn := (List.getElem?_eq_some_iff.1 hp).1
                  have hnn := hnr.1
                  have htl : (c.toList.take (es.length * sz')).length = es.length * sz' := by simp; omega
                  rw [List.append_assoc, List.getElem?_append_right (by omega), List.getElem?_append_left (by omega), htl, ← hfl] at hq'
                  exact (hnr.2 _ p q hp hq').step hstep
      · -- a new row
        obtain ⟨C, cells, hC, hrun, hcsz, hall, hlf, hrl⟩ := grow es a cap olds hes hleaf (by
            rcases hplace with ⟨hc0, hl0, _⟩ | ⟨ha, _⟩
            · have : olds = [] := List.length_eq_zero_iff.1 (by rw [hol, hl0, Nat.zero_mul])
              subst this
              rw [hl0]
              cases a <;> simp [Builtin.firstCells, loadCells, loadCellsFrom]
            · subst ha
              exact run_firstCells_some w.drew i.size es.length ⟨L.blk n, 0, none⟩ es.length cap olds (by rw [hol, hin]) (fun j v hv => by
                rw [Addr.add_mid]
                exact hrange j v hv)) holds.toP (by omega) hfit hvs
        refine ⟨_, _, more B w.drew.heap.size, L.lay n w.drew.heap.size sz' C, .inl (by simp only [Sem.run_bind, hrun, Result.andThen_ok]; rfl), (step_drew B w).trans (step_alloc B w.drew _), ⟨rfl, rfl, rfl⟩, ?_,
          regrown hst.drew e h1 hcsz (by rw [List.length_append]; exact hC) hall hlf hrl, LocAgree.lay L n _ _ _, Tail.dalloc _ _ _ _ _ _ _ _, hlive⟩
        have hlay := Loc.lay_same L n w.drew.heap.size sz' C
        have hs' := VRel.sl (B := more B w.drew.heap.size) (L := L.lay n w.drew.heap.size sz' C) (w := w.drew.alloc (.cells cells e)) n 0 (es.length + news.length) C (by rw [hlay.2.2]; omega) hC
        rw [hlay.1, Nat.zero_mul] at hs'
        exact hs'
    generalize hlen0 : es.length = len0 at hs
    cases hs with
    | sl n off len cap h hl =>
      subst hlen0
      refine done _ cap rfl (.inr ⟨by simp, by omega⟩)
    | sl0 n off a h =>
      have := done a 0 (by rw [hlen0]) (.inl ⟨rfl, hlen0, h⟩)
      rw [hlen0] at this
      exact this
  · cases h
end
end Go.Am
end

section
namespace Go.Am
open Go
section
variable {P : Program} {B : Nat → Prop} {L : Loc} {w : World}
theorem V.not_junk {v : V} (h : ¬ v.isJunk = true) : v ≠ .junk := fun e => h (by rw [e]; rfl)
theorem Done.pure {H : Heap} {base : Nat} {d : V} {v : Value} {s : Sem Value} (hst : St B L w H) (hR : s.run P w = .ok v w) (hv : VRel B L w d v) :
    Done B L w H base ⟨d, .none⟩ ((do let u ← s; pure (.value u) : Sem Next).run P w) :=
  Done.same hst (by simp only [Sem.run_bind, hR, Result.andThen_ok]; rfl) hv
theorem rel_parts {ev : Operand → V} {ρ : Operand → Value} (hev : ∀ x, VRel B L w (ev x) (ρ x)) : ∀ (l : List (Nat × Operand)),
    (l.map fun p => (p.1, ev p.2)).map (·.1) = (l.map fun p => (p.1, ρ p.2)).map (·.1) ∧ VRelL B L w ((l.map fun p => (p.1, ev p.2)).map (·.2)) ((l.map fun p => (p.1, ρ p.2)).map (·.2))
  | [] => ⟨rfl, VRelL.nil⟩
  | p :: l => by
    obtain ⟨h1, h2⟩ := rel_parts hev l
    exact ⟨by simp only [List.map_cons, h1], VRelL.cons (hev p.2) h2⟩
theorem rel_opt {ev : Operand → V} {ρ : Operand → Value} (hev : ∀ x, VRel B L w (ev x) (ρ x)) (o : Option Operand) : (∀ v, o.map ev = some v → ∃ u, o.map ρ = some u ∧ VRel B L w v u) ∧ (o.map ev = none → o.map ρ = none) := by
  cases o with
  | none => simp
  | some x => exact ⟨fun v hv => ⟨ρ x, rfl, by simp at hv; subst hv; exact hev x⟩, by simp⟩
theorem aop_sound {H : Heap} {base : Nat} {ev : Operand → V} {ρ : Operand → Value} {o : Oper} {r : Res} (hst : St B L w H) (hev : ∀ x, VRel B L w (ev x) (ρ x)) (hf : r.eff.isNew = true → (∀ m, base ∉ (Heap.at H m).names) ∧ ∀ x, base ∉ (ev x).names)
    (h : aop P (Heap.at H) base ev o.op = some r) : Done B L w H base r ((execOp ρ o).run P w) := by
  obtain ⟨dst, op, type, pos, after, guard⟩ := o
  change aop P (Heap.at H) base ev op = some r at h
  unfold aop at h
  split at h
  · -- move
    cases h; exact Done.same hst rfl (hev _)
  · cases h; exact Done.same hst rfl (hev _)
  · -- pick
    rename_i c a b
    split at h
    case h_2 => cases h
    rename_i b' hc
    have hcr := hev c
    rw [hc] at hcr
    have hcv := hcr.of_p
    generalize hρ : ρ c = vc at hcv
    cases hcv
    have hrun : (execOp ρ ⟨dst, .pick c a b, type, pos, after, guard⟩).run P w = .ok (.value (if b' = true then ρ a else ρ b)) w := by
      simp [execOp, hρ, asBool]
    split at h
    · rename_i x y ha hb
      cases h
      refine Done.same hst hrun ?_
      have h1 := hev a
      have h2 := hev b
      rw [ha] at h1; rw [hb] at h2
      generalize ρ a = va at h1
      generalize ρ b = vb at h2
      cases h1.of_p; cases h2.of_p
      cases b' <;> exact .p _ _ (.bool _)
    · cases h
      refine Done.same hst hrun ?_
      cases b'
      · exact hev b
      · exact hev a
  · -- alloc
    rename_i t
    split at h
    case h_2 => cases h
    rename_i z hz
    cases h
    obtain ⟨i, v, hi, hzv, hoc⟩ := zeroT_some hz
    have hzr := (ofConst_sound (B := B) (w := w) hoc).1
    have hrun : (execOp ρ ⟨dst, .alloc t, type, pos, after, guard⟩).run P w = .ok (.value (.pointer (some ⟨w.heap.size, 0, none⟩))) (w.alloc (.cells v.cells t)) := by
      simp [execOp, Instr.alloc, zeroValue, typeInfo, hi, hzv, newVar, newRow]
    have hn := new_var (t := t) hst (.p z v hzr) (by simp) (hf rfl).1 (by simp [V.names])
    refine ⟨_, _, _, L.lay base w.heap.size 0 0, .inl hrun, step_alloc B w _, ⟨rfl, rfl, rfl⟩, ?_, hn, LocAgree.lay L base _ _ _, Tail.alloc _ _ _ _ _ _ _ _, EffOk.lay _ _ _ _ _ _ _⟩
    have := VRel.ptr (B := more B w.heap.size) (L := L.lay base w.heap.size 0 0) (w := w.alloc (.cells v.cells t)) base 0
    rw [(Loc.lay_same L base w.heap.size 0 0).1] at this
    exact this
  · -- box
    rename_i t x
    split at h
    · cases h
    rename_i hj
    cases h
    have hrun : (execOp ρ ⟨dst, .box t x, type, pos, after, guard⟩).run P w = .ok (.value (.pointer (some ⟨w.heap.size, 0, none⟩))) (w.alloc (.cells (ρ x).cells t)) := by
      simp [execOp, Instr.box, newVar, newRow]
    have hn := new_var (t := t) hst (hev x) (V.not_junk hj) (hf rfl).1 ((hf rfl).2 x)
    refine ⟨_, _, _, L.lay base w.heap.size 0 0, .inl hrun, step_alloc B w _, ⟨rfl, rfl, rfl⟩, ?_, hn, LocAgree.lay L base _ _ _, Tail.alloc _ _ _ _ _ _ _ _, EffOk.lay _ _ _ _ _ _ _⟩
    have := VRel.ptr (B := more B w.heap.size) (L := L.lay base w.heap.size 0 0) (w := w.alloc (.cells (ρ x).cells t)) base 0
    rw [(Loc.lay_same L base w.heap.size 0 0).1] at this
    exact this
  · -- build
    rename_i t parts
    split at h
    case isFalse => cases h
    rename_i hj
    simp only [Option.bind_eq_some_iff] at h
    obtain ⟨v, hv, h⟩ := h
    cases h
    obtain ⟨h1, h2⟩ := rel_parts hev parts.toList
    have e : (parts.map fun (i, x) => (i, ρ x)).toList = parts.toList.map fun p => (p.1, ρ p.2) := by simp
    rw [← e] at h1 h2
    obtain ⟨u, hu, hr⟩ := buildA_sound (P := P) (t := t) h1 h2 (fun x hx => by
      simp only [List.map_map, List.mem_map] at hx
      obtain ⟨p, hp, rfl⟩ := hx
      have := (List.all_eq_true.1 hj) p hp
      exact V.not_junk (by simpa using this)) hv
    exact Done.pure hst hu hr
  · -- buildSlice
    rename_i t len parts
    split at h
    case h_2 => cases h
    rename_i e he
    split at h
    case h_2 => cases h
    rename_i n ds hn hd
    split at h
    case isFalse => cases h
    rename_i hc
    obtain ⟨hl, h1, hsm, hs, hz⟩ := hc
    cases h
    have ht : P.underlying t = some (.slice e) := by
      unfold elemT at he
      split at he
      · cases he; assumption
      · cases he
    obtain ⟨h3, h4⟩ := rel_parts hev parts.toList
    have e' : (parts.map fun (i, x) => (i, ρ x)).toList = parts.toList.map fun p => (p.1, ρ p.2) := by simp
    rw [← e'] at h3 h4
    exact buildSliceA_sound hst (hf rfl).1 ht hn hz hd hl h1 hsm hs h3 h4
  · -- load
    rename_i t a
    simp only [Option.bind_eq_some_iff] at h
    obtain ⟨v, hv, h⟩ := h
    cases h
    obtain ⟨u, hu, hr⟩ := loadA_sound hst (hev a) hv
    exact Done.pure hst hu hr
  · -- store
    rename_i t a x
    simp only [Option.map_eq_some_iff] at h
    obtain ⟨e, he, rfl⟩ := h
    obtain ⟨w', hr, hs, hsame, hst', hm, htl, hok⟩ := storeA_sound hst (hev a) (hev x) he base
    refine ⟨undef, w', B, L, .inr ⟨?_, rfl⟩, hs, hsame, .p _ _ (.tup [] [] rfl (fun i x y hx => by simp at hx)), hst', LocAgree.refl L _, htl, hok⟩
    simp [execOp, hr]
  · -- nilCheck
    rename_i x
    have hx := hev x
    split at h
    · rename_i n off hxv
      cases h
      rw [hxv] at hx
      generalize hρ : ρ x = v at hx
      cases hx
      exact Done.same hst (by simp only [execOp, hρ]; rfl) (.ptr _ _)
    · rename_i n i off hxv
      cases h
      rw [hxv] at hx
      generalize hρ : ρ x = v at hx
      cases hx
      exact Done.same hst (by simp only [execOp, hρ]; rfl) (.eptr _ _ _)
    · rename_i d hxv
      cases h
      rw [hxv] at hx
      have hp := hx.of_p
      obtain ⟨b, o, hv, _⟩ := PRel.cptr_lies (L := L) hp
      rw [hv] at hx
      exact Done.same hst (by simp only [execOp, hv]; rfl) hx
    · rename_i f hxv
      cases h
      rw [hxv] at hx
      generalize hρ : ρ x = v at hx
      cases hx.of_p
      exact Done.same hst (by simp only [execOp, hρ]; rfl) (.p _ _ (.fn _))
    · rename_i f l hxv
      cases h
      rw [hxv] at hx
      generalize hρ : ρ x = v at hx
      cases hx with
      | func f l c hl h' =>
        exact Done.same hst (by simp only [execOp, hρ]; rfl) (.func _ _ _ hl h')
    · cases h
  · -- binOp
    rename_i op t x y yt
    simp only [Option.bind_eq_some_iff] at h
    obtain ⟨d, hd, h⟩ := h
    cases h
    obtain ⟨u, hu, hr⟩ := binA_sound (P := P) (ox := x) (oy := y) (hev x) (hev y) hd
    exact Done.pure hst hu (.p _ _ hr)
  · -- unOp
    rename_i op t x
    simp only [Option.bind_eq_some_iff] at h
    obtain ⟨d, hd, h⟩ := h
    cases h
    obtain ⟨u, hu, hr⟩ := unA_sound (P := P) (hev x) hd
    exact Done.pure hst hu (.p _ _ hr)
  · -- convert
    rename_i a b x
    split at h
    · rename_i r' hr'
      cases h
      obtain ⟨h0, u, hu, hr⟩ := convA_sound hst (hev x) hr'
      obtain ⟨v, e⟩ := r
      simp only at h0; subst h0
      exact Done.pure hst hu hr
    · exact bytesA_sound hst (hev x) (fun e => (hf e).1) h
  · -- makeFunc
    rename_i f first captured
    split at h
    case isFalse => cases h
    rename_i hfirst
    have hf0 : first = #[] := by simpa using hfirst
    subst hf0
    split at h
    · rename_i hcap
      have hc0 : captured = #[] := by simpa using hcap
      subst hc0
      cases h
      exact Done.same hst (by simp [execOp, Instr.makeFunc]) (.p _ _ (.fn _))
    · cases h
      have hrun : (execOp ρ ⟨dst, .makeFunc (.func f) #[] captured, type, pos, after, guard⟩).run P w = .ok (.value (.func (.func f) #[] (captured.map ρ))) w := by simp [execOp, Instr.makeFunc]
      refine Done.same hst hrun ?_
      have e : captured.map ρ = (captured.toList.map ρ).toArray := by apply Array.ext'; simp
      rw [e]
      refine .func (.func f) _ _ (by simp) (fun i x y hx hy => ?_)
      simp only [List.getElem?_map, Option.map_eq_some_iff] at hx hy
      obtain ⟨p, hp, rfl⟩ := hx
      obtain ⟨q, hq, rfl⟩ := hy
      rw [hp] at hq; cases hq
      exact hev p
  · -- makeSlice
    rename_i t l c
    split at h
    case h_2 => cases h
    rename_i e l' c' he hl hc
    split at h
    case h_2 => cases h
    rename_i n by_ z hn hb hz
    split at h
    case isFalse => cases h
    rename_i hcond
    obtain ⟨h0, h1, h2, h3, h4, h5⟩ := hcond
    cases h
    have ht : P.underlying t = some (.slice e) := by
      unfold elemT at he
      split at he
      · cases he; assumption
      · cases he
    exact makeA_sound hst (hf rfl).1 ht (hev l) (hev c) hl hc hn hb hz h0 h1 h2 h3 h4 h5
  · -- slice
    rename_i t x lo hi mx
    simp only [Option.bind_eq_some_iff] at h
    obtain ⟨v, hv, h⟩ := h
    cases h
    obtain ⟨u, hu, hr⟩ := sliceA_sound (P := P) hst (hev x) (rel_opt hev lo).1 (rel_opt hev lo).2 (rel_opt hev hi).1 (rel_opt hev hi).2 (rel_opt hev mx).1 (rel_opt hev mx).2 hv
    exact Done.pure hst hu hr
  · -- fieldAddr
    rename_i s x f
    simp only [Option.bind_eq_some_iff] at h
    obtain ⟨v, hv, h⟩ := h
    cases h
    obtain ⟨u, hu, hr⟩ := fieldAddrA_sound (P := P) (hev x) hv
    exact Done.pure hst hu hr
  · -- field
    rename_i s x f
    simp only [Option.bind_eq_some_iff] at h
    obtain ⟨v, hv, h⟩ := h
    cases h
    obtain ⟨u, hu, hr⟩ := fieldA_sound (P := P) (hev x) hv
    exact Done.pure hst hu hr
  · -- indexAddr
    rename_i t x i
    simp only [Option.bind_eq_some_iff] at h
    obtain ⟨v, hv, h⟩ := h
    cases h
    obtain ⟨u, hu, hr⟩ := indexAddrA_sound (P := P) hst (hev x) (hev i) hv
    exact Done.pure hst hu hr
  · -- index
    rename_i t x i
    simp only [Option.bind_eq_some_iff] at h
    obtain ⟨v, hv, h⟩ := h
    cases h
    obtain ⟨u, hu, hr⟩ := indexA_sound (P := P) (hev x) (hev i) hv
    exact Done.pure hst hu hr
  · -- extract
    rename_i t i
    split at h
    · rename_i l ht
      simp only [Option.bind_eq_some_iff] at h
      obtain ⟨v, hv, h⟩ := h
      cases h
      have hx := hev t
      rw [ht] at hx
      generalize hρ : ρ t = vt at hx
      cases hx with
      | tup l c hl h' =>
        have hlt := (List.getElem?_eq_some_iff.1 hv).1
        have hlc : i < c.length := by rw [← hl]; exact hlt
        exact Done.same hst (v := c[i]) (by simp [execOp, Instr.extract, hρ, hlc]) (h' i v c[i] hv (List.getElem?_eq_getElem hlc))
    · rename_i l ht
      simp only [Option.bind_eq_some_iff] at h
      obtain ⟨v, hv, h⟩ := h
      cases h
      have hx := hev t
      rw [ht] at hx
      generalize hρ : ρ t = vt at hx
      cases hx.of_p with
      | tup l c hl h' =>
        have hlt := (List.getElem?_eq_some_iff.1 hv).1
        have hlc : i < c.length := by rw [← hl]; exact hlt
        exact Done.same hst (v := c[i]) (by simp [execOp, Instr.extract, hρ, hlc]) (.p _ _ (h' i v c[i] hv (List.getElem?_eq_getElem hlc)))
    · cases h
  · -- len
    rename_i args ts
    split at h
    case h_2 => cases h
    rename_i x t ha ht
    have ha : args = #[x] := by apply Array.ext'; simpa using ha
    have ht : ts = #[t] := by apply Array.ext'; simpa using ht
    subst ha; subst ht
    have hx := hev x
    have hlen : ∀ (n : Nat) (R : Sem.run P (Builtin.len_ #[t] type #[ρ x]) w = .ok (goInt n) w), Done B L w H base ⟨.p (.int .i64 n), .none⟩ ((execOp ρ ⟨dst, .call ⟨.builtin .len, #[x], #[t]⟩, type, pos, after, guard⟩).run P w) := by
      intro n R
      refine Done.same hst (v := goInt n) ?_ (.p _ _ (.int _ _))
      simp [execOp, resolve, invoke, builtin, R]
    split at h
    · rename_i n e hd
      cases h
      exact hlen n (by simp [Builtin.len_, run_underlying hd])
    · simp only [Option.bind_eq_some_iff] at h
      obtain ⟨n, hn, h⟩ := h
      cases h
      exact hlen n (len_run hst hx hn type)
  · -- append
    rename_i args ts
    split at h
    case h_2 => cases h
    rename_i s x t tx ha ht
    have ha : args = #[s, x] := by apply Array.ext'; simpa using ha
    have ht : ts = #[t, tx] := by apply Array.ext'; simpa using ht
    subst ha; subst ht
    have := appendA_sound (ty := type) hst (fun e => (hf e).1) (hev s) (hev x) h
    have e : (execOp ρ ⟨dst, .call ⟨.builtin .append, #[s, x], #[t, tx]⟩, type, pos, after, guard⟩).run P w = (do let u ← Builtin.append_ #[t, tx] type #[ρ s, ρ x]; pure (.value u) : Sem Next).run P w := by
      simp [execOp, resolve, invoke, builtin]
    rw [e]; exact this
  · -- min
    rename_i args ts
    split at h
    case h_2 => cases h
    rename_i x y ha
    have ha : args = #[x, y] := by apply Array.ext'; simpa using ha
    subst ha
    split at h
    · rename_i k a k' b hxa hyb
      cases h
      have hx := hev x; have hy := hev y
      rw [hxa] at hx; rw [hyb] at hy
      generalize hρ : ρ x = vx at hx
      generalize hρ' : ρ y = vy at hy
      cases hx.of_p; cases hy.of_p
      refine Done.same hst (v := .int k (if b < a then b else a)) ?_ (.p _ _ (.int _ _))
      simp [execOp, resolve, invoke, builtin, hρ, hρ', run_min_int2]
    · cases h
  · -- max
    rename_i args ts
    split at h
    case h_2 => cases h
    rename_i x y ha
    have ha : args = #[x, y] := by apply Array.ext'; simpa using ha
    subst ha
    split at h
    · rename_i k a k' b hxa hyb
      cases h
      have hx := hev x; have hy := hev y
      rw [hxa] at hx; rw [hyb] at hy
      generalize hρ : ρ x = vx at hx
      generalize hρ' : ρ y = vy at hy
      cases hx.of_p; cases hy.of_p
      refine Done.same hst (v := .int k (if b > a then b else a)) ?_ (.p _ _ (.int _ _))
      simp [execOp, resolve, invoke, builtin, hρ, hρ', run_max_int2]
    · cases h
  · cases h
theorem aop_slice0 {H : Nat → HO} {base k sz : Nat} {ev : Operand → V} {ρ : Operand → Value} {o : Oper} {t ty : TypeId} {len : Nat} {parts : Array (Nat × Operand)} (hop : o.op = .buildSlice t len parts)
    (h : aop P H base ev o.op = some ⟨.sl base 0 k, .new (.arr ty sz [])⟩) {w w' : World} {n : Next} (hr : (execOp ρ o).run P w = .ok n w') : ∃ a, n = .value (.slice (some a) 0 0) := by
  obtain ⟨dst, op, type, pos, after, guard⟩ := o
  change op = _ at hop
  subst hop
  change aop P H base ev (.buildSlice t len parts) = _ at h
  unfold aop at h
  simp only [] at h
  split at h
  case h_2 => cases h
  rename_i e he
  split at h
  case h_2 => cases h
  rename_i m ds hn hd
  split at h
  case isFalse => cases h
  rename_i hc
  obtain ⟨hl, -, -, -, -⟩ := hc
  cases h
  have ht : P.underlying t = some (.slice ty) := by
    unfold elemT at he
    split at he
    · cases he; assumption
    · cases he
  have hps := congrArg List.length (partsL_spec hd)
  have hp : parts = #[] := by
    simp at hps
    exact hps
  subst hp
  have hl0 : k = 0 := by simpa using hl.symm
  subst hl0
  have he0 : (Array.map (fun _ => (default : Value)) (Array.range 0)) = #[] := by simp [Array.range_zero']
  have hrun : (execOp ρ ⟨dst, .buildSlice t 0 #[], type, pos, after, guard⟩).run P w = .ok (.value (.slice (some ⟨w.heap.size, 0, none⟩) 0 0)) (w.alloc (.cells #[] ty)) := by
    simp [execOp, Instr.buildSlice, run_underlying ht, run_sizeOf hn, Instr.fill, newRow, he0]
  rw [hrun] at hr
  cases hr
  exact ⟨_, rfl⟩
end
end Go.Am
end

section
namespace Go.Am
open Go Go.MapKept
def mapKE (P : Program) (t : TypeId) : Option (TypeId × TypeId) := match P.underlying t with
  | some (.map k e) => some (k, e)
  | _ => none
theorem mapKE_eq {P : Program} {t k e : TypeId} (h : mapKE P t = some (k, e)) : P.underlying t = some (.map k e) := by
  unfold mapKE at h
  split at h
  · cases h; assumption
  · cases h
def keyIs (P : Program) (K : TypeId) : PV → Bool
  | .str _ => match P.underlying K with
    | some .string => true
    | _ => false
  | .int k _ => match P.underlying K with
    | some (.int k') => decide (k = k')
    | _ => false
  | _ => false
def keyB : PV → PV → Bool
  | .str a, .str b => decide (a = b)
  | .int _ a, .int _ b => decide (a = b)
  | _, _ => false
def keyAt (k : PV) (ks : List PV) : Option Nat := ks.findIdx? (keyB k)
def getM (k : PV) (ks : List PV) (vs : MV) : Option V := (keyAt k ks).bind fun j => vs.toL[j]?
def putMK (k : PV) (ks : List PV) : List PV := match keyAt k ks with
  | some _ => ks
  | none => ks ++ [k]
def putMV (k : PV) (ks : List PV) (vs : MV) (v : V) : MV := match vs, v with
  | .pure l, .p d => .pure (match keyAt k ks with
    | some j => l.set j d
    | none => l ++ [d])
  | vs, v => .any (match keyAt k ks with
    | some j => vs.toL.set j v
    | none => vs.toL ++ [v])
theorem putMV_toL (k : PV) (ks : List PV) (vs : MV) (v : V) : (putMV k ks vs v).toL = match keyAt k ks with
    | some j => vs.toL.set j v
    | none => vs.toL ++ [v] := by
  unfold putMV
  split
  · simp only [MV.toL]
    split
    · rw [List.map_set]
    · simp
  · rfl
def keysOk (P : Program) (K : TypeId) (k : PV) (ks : List PV) : Prop := keyIs P K k = true ∧ ks.all (keyIs P K) = true
instance {P : Program} {K : TypeId} {k : PV} {ks : List PV} : Decidable (keysOk P K k ks) := by unfold keysOk; infer_instance
def lookM (P : Program) (H : Nat → HO) (K : TypeId) (k : PV) : V → Option (Option V)
  | .mapr n => match H n with
    | .mp ks vs => if keysOk P K k ks then some (getM k ks vs) else none
    | _ => none
  | .p .nilmap => if keyIs P K k = true then some none else none
  | _ => none
def lookR (P : Program) (E : TypeId) (ok : Bool) (r : Option V) : Option V := match r with
  | some v => some (if ok = true then .tup [v, .p (.bool true)] else v)
  | none => (zeroT P E).map fun z => if ok = true then .tup [.p z, .p (.bool false)] else .p z
def sliT' (P : Program) (t : TypeId) : Option TypeId := match P.underlying t with
  | some (.slice e) => some e
  | _ => none
def clearA (P : Program) (H : Nat → HO) (t : TypeId) (x : V) : Option Res :=
  match sliT' P t, x with
  | some e, .sl n off len => match H n, zeroT P e with
    | .arr ty sz es, some z => if z.cells.length = sz ∧ 1 ≤ sz ∧ off + len ≤ es.length then some ⟨.p (.tup []), .upd n (.arr ty sz (es.take off ++ (List.replicate len z ++ es.drop (off + len))))⟩ else none
    | _, _ => none
  | _, _ => none
def aopM (P : Program) (H : Nat → HO) (base : Nat) (ev : Operand → V) : Op → Option Res
  | .makeMap _ none => some ⟨.mapr base, .new (.mp [] (.pure []))⟩
  | .lookup t x ix ok => match mapKE P t, ev ix with
    | some (K, E), .p k => match lookM P H K k (ev x) with
      | some r => (lookR P E ok r).map fun v => ⟨v, .none⟩
      | none => none
    | _, _ => none
  | .mapUpdate t m k x => match mapKE P t, ev k, ev m with
    | some (K, _), .p k, .mapr n => match H n with
      | .mp ks vs => if keysOk P K k ks then some ⟨.p (.tup []), .upd n (.mp (putMK k ks) (putMV k ks vs (ev x)))⟩ else none
      | _ => none
    | _, _, _ => none
  | .call ⟨.builtin .clear, args, ts⟩ => match args.toList, ts.toList with
    | [x], [t] => clearA P H t (ev x)
    | _, _ => none
  | _ => none
section
variable {P : Program} {B : Nat → Prop} {L : Loc} {w : World}
theorem sliT'_eq {t e : TypeId} (h : sliT' P t = some e) : P.underlying t = some (.slice e) := by
  unfold sliT' at h
  split at h
  · cases h; assumption
  · cases h
theorem clearA_sound {H : Heap} {base : Nat} {t ty' : TypeId} {x : V} {vx : Value} {r : Res} (hst : St B L w H) (hx : VRel B L w x vx) (h : clearA P (Heap.at H) t x = some r) :
    Done B L w H base r ((do let u ← Builtin.clear_ #[t] ty' #[vx]; pure (.value u) : Sem Next).run P w) := by
  unfold clearA at h
  split at h
  case h_2 => cases h
  rename_i e n off len ht
  have ht := sliT'_eq ht
  split at h
  case h_2 => cases h
  rename_i ty sz es z hm hz
  split at h
  case isFalse => cases h
  rename_i hc
  obtain ⟨hzs, h1, hle⟩ := hc
  cases h
  have hrel := hst.rel n
  rw [hm] at hrel
  obtain ⟨hlies, hleaf, hes, hsz, hcapn⟩ := arr_all hrel
  have hlive : (Heap.at H n).live := by rw [hm]; trivial
  have hfl := flat_length hes
  obtain ⟨i, zv, hi, hzv, hoc⟩ := zeroT_some hz
  have tup0 : VRel B L w (.p (.tup [])) (.tuple #[]) := .p _ _ (.tup [] [] rfl (fun i x y hx => by simp at hx))
  have empty : ∀ (a : Option Addr) (cap : Nat), vx = .slice a 0 cap → len = 0 → Done B L w H base ⟨.p (.tup []), .upd n (.arr ty sz (es.take off ++ (List.replicate len z ++ es.drop (off + len))))⟩ ((do let u ← Builtin.clear_ #[t] ty' #[vx]; pure (.value u) : Sem Next).run P w) := by
    intro a cap hv hl
    subst hv; subst hl
    have hrun : (Builtin.clear_ #[t] ty' #[.slice a 0 cap]).run P w = .ok (.tuple #[]) w := by
      cases a <;> simp [Builtin.clear_, run_underlying ht]
    have he : es.take off ++ (List.replicate 0 z ++ es.drop (off + 0)) = es := by simp
    rw [he]
    refine ⟨_, w, B, L, .inl (by simp only [Sem.run_bind, hrun, Result.andThen_ok]; rfl), Step.refl B w, Same.refl w, tup0, ?_, LocAgree.refl L _, Tail.refl B L w H, hlive⟩
    have := hst.upd (n := n) (o := .arr ty sz es) hlive rfl (fun _ _ => rfl) (by have := hst.rel n; rw [hm] at this; exact this)
    simpa [Eff.apply] using this
  cases hx with
  | sl0 n off a h => exact empty a 0 rfl rfl
  | sl n off len cap hcp hl =>
    rcases Nat.eq_zero_or_pos len with h0 | hpos
    · exact empty _ cap (by rw [h0]) h0
    cases hrel with
    | arr sz es c t' fr hw hfr hz' hsz' hcap hle' hs' hf' h' =>
      obtain ⟨hzr, hzl⟩ := ofConst_sound (B := B) (w := w) hoc
      have hzsz := cells_size hzr
      have hzsz' : zv.cells.size = sz := by rw [← hzsz]; exact hzs
      have hzrun : (zeroValue e).run P w = .ok zv w := by simp [zeroValue, typeInfo, hi, hzv]
      obtain ⟨m, rfl⟩ : ∃ m, len = m + 1 := ⟨len - 1, by omega⟩
      generalize hN : (Builtin.zeroCells zv.cells (m + 1)).toList = nc
      have hncl : nc.length = (m + 1) * sz := by rw [← hN]; simp [size_zeroCells, hzsz']
      have hrl : RelL B w (flat (List.replicate (m + 1) z)) nc := by
        have hall : ∀ x ∈ List.replicate (m + 1) z, x.cells.length = sz := fun x hx => by rw [(List.mem_replicate.1 hx).2]; exact hzs
        refine ⟨by rw [flat_length hall, hncl, List.length_replicate], fun k x y hx hy => ?_⟩
        rw [flat_replicate _ _ (by omega)] at hx
        split at hx
        · rename_i hk
          rw [← hN] at hy
          simp only [Builtin.zeroCells, Array.toList_map, List.getElem?_map, Array.toList_range, Option.map_eq_some_iff] at hy
          obtain ⟨k', hk', rfl⟩ := hy
          obtain rfl : k' = k := by
            have := (List.getElem?_eq_some_iff.1 hk').2
            simpa using this.symm
          have hlt : k' % zv.cells.size < zv.cells.size := Nat.mod_lt _ (by omega)
          rw [hzs, ← hzsz'] at hx
          have := hzr.cells.2 (k' % zv.cells.size) x zv.cells[k' % zv.cells.size] hx (by simp [hlt])
          rw [getElem!_pos zv.cells _ hlt]
          exact this
        · cases hx
      have hnl : ∀ x ∈ flat (List.replicate (m + 1) z), x.leaf = true := fun x hx => by
        obtain ⟨y, hy, hxy⟩ := List.mem_flatMap.1 hx
        rw [(List.mem_replicate.1 hy).2] at hxy
        exact hzl x hxy
      have hmul : (off + (m + 1)) * sz ≤ es.length * sz := Nat.mul_le_mul_right _ hle
      have hmul2 : es.length * sz ≤ L.cap n * sz := Nat.mul_le_mul_right _ hle'
      rw [Nat.add_mul] at hmul
      have hin2 : off * sz + nc.length ≤ c.size := by rw [hncl, hcap]; omega
      have hst1 := run_storeCells_cells (P := P) (L.blk n) (off * sz) nc 0 w
        (fun j hj => by simp only [World.cell?, hw]; simp; omega)
        (fun j hj => by
          simp only [World.frozen?, hw]
          rcases hfr with h | h
          · simp; omega
          · simp; omega)
        (rel_one hrl hnl)
      rw [Nat.add_zero] at hst1
      have hrun : (Builtin.clear_ #[t] ty' #[.slice (some ⟨L.blk n, off * L.sz n, none⟩) (m + 1) cap]).run P w = .ok (.tuple #[]) (w.setCells (L.blk n) (off * sz) nc) := by
        rw [hsz']
        simp [Builtin.clear_, run_underlying ht, hzrun, hN, hst1]
      obtain ⟨c', hw', hl'⟩ := setCells_block w (L.blk n) nc (off * sz) hw hin2
      have hstep : Step B w B (w.setCells (L.blk n) (off * sz) nc) :=
        ⟨by rw [setCells_size]; omega, fun b _ hb => setCells_other _ _ _ _ b (fun e => hb (e ▸ (hst.own n hlive).1)), fun _ _ h => h⟩
      have hc's : c'.size = c.size := by
        have := congrArg List.length hl'
        simp at this
        omega
      refine ⟨_, _, B, L, .inl (by simp only [Sem.run_bind, hrun, Result.andThen_ok]; rfl), hstep, setCells_same _ _ _ _, tup0.step hstep, ?_, LocAgree.refl L _, Tail.set hlive _ _, hlive⟩
      refine hst.upd (n := n) hlive (setCells_size _ _ _ _) (fun k hk => setCells_other _ _ _ _ k hk) ?_
      have hft : flat (es.take off) = (flat es).take (off * sz) := flat_take hes off (by omega)
      have hfd : flat (es.drop (off + (m + 1))) = (flat es).drop ((off + (m + 1)) * sz) := flat_drop hes _ (by omega)
      refine .arr sz _ c' _ fr hw' (by rw [hc's]; exact hfr) hz' hsz' (by rw [hc's]; exact hcap) (by simp only [List.length_append, List.length_take, List.length_drop, List.length_replicate]; omega) ?_ ?_ ?_
      · intro y hy
        rcases List.mem_append.1 hy with hy | hy
        · exact hes y (List.mem_of_mem_take hy)
        · rcases List.mem_append.1 hy with hy | hy
          · rw [(List.mem_replicate.1 hy).2]; exact hzs
          · exact hes y (List.mem_of_mem_drop hy)
      · intro y hy
        rw [flat_append, flat_append] at hy
        rcases List.mem_append.1 hy with hy | hy
        · rw [hft] at hy; exact hleaf y (List.mem_of_mem_take hy)
        · rcases List.mem_append.1 hy with hy | hy
          · exact hnl y hy
          · rw [hfd] at hy; exact hleaf y (List.mem_of_mem_drop hy)
      · intro k p q hp hq
        rw [flat_append, flat_append, hft, hfd] at hp
        have hnn := hrl.1
        have htl : (c.toList.take (off * sz)).length = off * sz := by simp; omega
        have htf : ((flat es).take (off * sz)).length = off * sz := by simp; omega
        have hq' : (c.toList.take (off * sz) ++ nc ++ c.toList.drop (off * sz + nc.length))[k]? = some q := by rw [← hl']; simpa using hq
        rw [List.append_assoc] at hq'
        by_cases hk : k < off * sz
        · rw [List.getElem?_append_left (by omega), List.getElem?_take, if_pos hk] at hp
          rw [List.getElem?_append_left (by omega), List.getElem?_take, if_pos hk] at hq'
          exact (h' k p q hp (by simpa using hq')).step hstep
        · rw [List.getElem?_append_right (by omega), htf] at hp
          rw [List.getElem?_append_right (by omega), htl] at hq'
          by_cases hk2 : k - off * sz < nc.length
          · rw [List.getElem?_append_left (by omega)] at hp
            rw [List.getElem?_append_left hk2] at hq'
            exact (hrl.2 _ p q hp hq').step hstep
          · rw [List.getElem?_append_right (by omega), List.getElem?_drop, hnn] at hp
            rw [List.getElem?_append_right (by omega), List.getElem?_drop] at hq'
            have e1 : off * sz + nc.length + (k - off * sz - nc.length) = k := by omega
            have e2 : (off + (m + 1)) * sz + (k - off * sz - nc.length) = k := by rw [Nat.add_mul]; omega
            rw [e2] at hp
            rw [e1] at hq'
            exact (h' k p q hp (by simpa using hq')).step hstep
theorem keyIs_spec {K : TypeId} {k : PV} {v : Value} (h : keyIs P K k = true) (hv : PRel B w k v) : ∃ d, P.underlying K = some d ∧ IsKey d v := by
  unfold keyIs at h
  split at h
  · split at h
    · rename_i hd; cases hv; exact ⟨_, hd, trivial⟩
    · cases h
  · split at h
    · rename_i hd
      have := of_decide_eq_true h
      cases hv
      exact ⟨_, hd, this⟩
    · cases h
  · cases h
theorem keyB_spec {K : TypeId} {a b : PV} {x y : Value} (ha : keyIs P K a = true) (hb : keyIs P K b = true) (hx : PRel B w a x) (hy : PRel B w b y) : keyB a b = true ↔ x = y := by
  unfold keyIs at ha hb
  split at ha
  · split at ha
    case h_2 => cases ha
    rename_i hd
    split at hb
    · cases hx; cases hy
      simp [keyB]
    · simp [hd] at hb
    · cases hb
  · split at ha
    case h_2 => cases ha
    rename_i k n k' hd
    split at hb
    · simp [hd] at hb
    · simp only [hd] at hb
      have h1 := of_decide_eq_true ha
      have h2 := of_decide_eq_true hb
      cases hx; cases hy
      subst h1; subst h2
      simp [keyB]
    · cases hb
  · cases ha
theorem findNow_at {K : TypeId} {d : TypeDesc} (hd : P.underlying K = some d) {k : PV} {kv : Value} (hk : keyIs P K k = true) (hkv : PRel B w k kv) : ∀ (l : List MapEntry) (ks : List PV) (i : Nat), ks.length = l.length →
    (∀ (j : Nat) x y, ks[j]? = some x → l[j]? = some y → PRel B w x y.key) → ks.all (keyIs P K) = true → Instr.findNow d kv l i = some ((keyAt k ks).bind fun j => (l[j]?).map fun e => (i + j, e.val))
  | [], ks, i, hl, _, _ => by
    obtain rfl : ks = [] := List.eq_nil_of_length_eq_zero (by simpa using hl)
    simp [Instr.findNow, keyAt]
  | e :: l, [], i, hl, _, _ => by simp at hl
  | e :: l, x :: ks, i, hl, hr, ha => by
    simp only [List.all_cons, Bool.and_eq_true] at ha
    have hx : PRel B w x e.key := hr 0 x e rfl rfl
    obtain ⟨d1, hd1, hk1⟩ := keyIs_spec hk hkv
    obtain ⟨d2, hd2, hk2⟩ := keyIs_spec ha.1 hx
    obtain rfl : d1 = d := by rw [hd] at hd1; exact (Option.some.inj hd1).symm
    obtain rfl : d2 = d1 := by rw [hd] at hd2; exact (Option.some.inj hd2).symm
    obtain ⟨r, hs, hiff⟩ := sameNow_of_keys hk1 hk2
    have ih := findNow_at hd hk hkv l ks (i + 1) (by simpa using hl) (fun j p q hp hq => hr (j + 1) p q (by simpa using hp) (by simpa using hq)) ha.2
    have hkb := keyB_spec hk ha.1 hkv hx
    cases hr' : r with
    | true =>
      subst hr'
      have e1 : keyAt k (x :: ks) = some 0 := by
        simp only [keyAt, List.findIdx?_cons, hkb.2 (hiff.1 rfl), if_true]
      simp [Instr.findNow, hs, e1]
    | false =>
      subst hr'
      have hne : ¬ kv = e.key := fun q => by have := hiff.2 q; cases this
      have e1 : keyB k x = false := by
        cases hq : keyB k x with
        | false => rfl
        | true => exact absurd (hkb.1 hq) hne
      have e2 : keyAt k (x :: ks) = (keyAt k ks).map (· + 1) := by
        simp [keyAt, List.findIdx?_cons, e1]
      simp only [Instr.findNow, hs, ih, e2]
      congr 1
      cases keyAt k ks with
      | none => rfl
      | some j =>
        simp only [Option.bind_some, Option.map_some, List.getElem?_cons_succ]
        cases l[j]? with
        | none => rfl
        | some e' => simp; omega
theorem keyAt_spec {k : PV} {ks : List PV} {j : Nat} (h : keyAt k ks = some j) : ∃ x, ks[j]? = some x ∧ keyB k x = true := by
  unfold keyAt at h
  obtain ⟨hlt, hp, _⟩ := List.findIdx?_eq_some_iff_getElem.1 h
  exact ⟨ks[j], by simp [hlt], hp⟩
theorem run_lookup_at {t K E : TypeId} {d : TypeDesc} {n : Nat} {ks : List PV} {vs : MV} {k : PV} {kv : Value} (ht : P.underlying t = some (.map K E)) (hd : P.underlying K = some d) (hk : keysOk P K k ks) (hkv : PRel B w k kv)
    (h : HRel B L w n (.mp ks vs)) (ok : Bool) {r : V} (hr : lookR P E ok (getM k ks vs) = some r) : ∃ v, (Instr.lookup t (.map (some (L.blk n))) kv ok).run P w = .ok v w ∧ VRel B L w r v := by
  cases h with
  | mp ks vs ms clock hw hl hlv hks hvs hn =>
    have hf := findNow_at hd hk.1 hkv ms.toList ks 0 (by simpa using hl) (fun j x y hx hy => (hks j x y hx (by simpa using hy)).1) hk.2
    obtain ⟨d1, hd1, hk1⟩ := keyIs_spec hk.1 hkv
    obtain rfl : d1 = d := by rw [hd] at hd1; exact (Option.some.inj hd1).symm
    cases hj : keyAt k ks with
    | none =>
      rw [hj] at hf
      simp only [getM, hj, Option.bind_none, lookR, Option.map_eq_some_iff] at hr
      obtain ⟨z, hz, rfl⟩ := hr
      obtain ⟨i, v, hi, hzv, hoc⟩ := zeroT_some hz
      have hzr := (ofConst_sound (B := B) (w := w) hoc).1
      have hzero : (zeroValue E).run P w = .ok v w := by simp [zeroValue, typeInfo, hi, hzv]
      cases ok with
      | true =>
        refine ⟨.tuple #[v, .bool false], ?_, ?_⟩
        · simp [Instr.lookup, run_underlying ht, MapKept.run_getObj_map hw, MapKept.run_checkKey hd hk1, MapKept.run_findKey hd hf, hzero]
        · simp only [if_true]
          refine .tup _ [v, .bool false] rfl fun i d v hd hv => ?_
          rcases i with _ | _ | i
          · cases hd; cases hv; exact .p _ _ hzr
          · cases hd; cases hv; exact .p _ _ (.bool false)
          · simp at hd
      | false =>
        refine ⟨v, ?_, ?_⟩
        · simp [Instr.lookup, run_underlying ht, MapKept.run_getObj_map hw, MapKept.run_checkKey hd hk1, MapKept.run_findKey hd hf, hzero]
        · exact .p _ _ hzr
    | some j =>
      obtain ⟨x, hx, hb⟩ := keyAt_spec hj
      have hlt : j < ks.length := (List.getElem?_eq_some_iff.1 hx).1
      have hjm : ms[j]? = some ms[j] := by simp [show j < ms.size from by omega]
      have hjv : vs.toL[j]? = some vs.toL[j] := by simp [show j < vs.toL.length from by omega]
      rw [hj] at hf
      simp only [Option.bind_some, Array.getElem?_toList, hjm, Option.map_some, Nat.zero_add] at hf
      simp only [getM, hj, Option.bind_some, hjv, lookR] at hr
      have hv := hvs j _ _ hjv hjm
      cases ok with
      | true =>
        simp only [if_true, Option.some.injEq] at hr
        subst hr
        refine ⟨.tuple #[ms[j].val, .bool true], ?_, ?_⟩
        · simp [Instr.lookup, run_underlying ht, MapKept.run_getObj_map hw, MapKept.run_checkKey hd hk1, MapKept.run_findKey hd hf]
        · refine .tup _ [ms[j].val, .bool true] rfl fun i d v hd hv' => ?_
          rcases i with _ | _ | i
          · cases hd; cases hv'; exact hv
          · cases hd; cases hv'; exact .p _ _ (.bool true)
          · simp at hd
      | false =>
        simp only [Bool.false_eq_true, if_false, Option.some.injEq] at hr
        subst hr
        refine ⟨ms[j].val, ?_, hv⟩
        simp [Instr.lookup, run_underlying ht, MapKept.run_getObj_map hw, MapKept.run_checkKey hd hk1, MapKept.run_findKey hd hf]
theorem run_lookup_nil {t K E : TypeId} {d : TypeDesc} {k : PV} {kv : Value} (ht : P.underlying t = some (.map K E)) (hd : P.underlying K = some d) (hk : keyIs P K k = true) (hkv : PRel B w k kv)
    (ok : Bool) {r : V} (hr : lookR P E ok none = some r) : ∃ v, (Instr.lookup t (.map none) kv ok).run P w = .ok v w ∧ VRel B L w r v := by
  obtain ⟨d1, hd1, hk1⟩ := keyIs_spec hk hkv
  obtain rfl : d1 = d := by rw [hd] at hd1; exact (Option.some.inj hd1).symm
  simp only [lookR, Option.map_eq_some_iff] at hr
  obtain ⟨z, hz, rfl⟩ := hr
  obtain ⟨i, v, hi, hzv, hoc⟩ := zeroT_some hz
  have hzr := (ofConst_sound (B := B) (w := w) hoc).1
  have hzero : (zeroValue E).run P w = .ok v w := by simp [zeroValue, typeInfo, hi, hzv]
  have hf : Instr.findNow d1 kv ([] : List MapEntry) 0 = some none := rfl
  cases ok with
  | true =>
    refine ⟨.tuple #[v, .bool false], ?_, ?_⟩
    · simp [Instr.lookup, run_underlying ht, MapKept.run_checkKey hd hk1, MapKept.run_findKey hd hf, hzero]
    · simp only [if_true]
      refine .tup _ [v, .bool false] rfl fun i d v hd hv => ?_
      rcases i with _ | _ | i
      · cases hd; cases hv; exact .p _ _ hzr
      · cases hd; cases hv; exact .p _ _ (.bool false)
      · simp at hd
  | false =>
    refine ⟨v, ?_, ?_⟩
    · simp [Instr.lookup, run_underlying ht, MapKept.run_checkKey hd hk1, MapKept.run_findKey hd hf, hzero]
    · exact .p _ _ hzr
theorem run_put_at {t K E : TypeId} {d : TypeDesc} {n : Nat} {ks : List PV} {vs : MV} {k : PV} {kv : Value} {x : V} {xv : Value} (ht : P.underlying t = some (.map K E)) (hd : P.underlying K = some d) (hk : keysOk P K k ks) (hkv : PRel B w k kv)
    (hxv : VRel B L w x xv) (hB : B (L.blk n)) (h : HRel B L w n (.mp ks vs)) : ∃ ob, (Instr.mapUpdate t (.map (some (L.blk n))) kv xv).run P w = .ok () { w with heap := w.heap.setIfInBounds (L.blk n) ob } ∧
      HRel B L { w with heap := w.heap.setIfInBounds (L.blk n) ob } n (.mp (putMK k ks) (putMV k ks vs x)) := by
  have hstep : ∀ ob, Step B w B { w with heap := w.heap.setIfInBounds (L.blk n) ob } := fun ob =>
    ⟨by simp, fun b _ hb => by
      have : L.blk n ≠ b := fun e => hb (e ▸ hB)
      simp [this], fun _ _ h => h⟩
  cases h with
  | mp ks vs ms clock hw hl hlv hks hvs hn =>
    have hf := findNow_at hd hk.1 hkv ms.toList ks 0 (by simpa using hl) (fun j x y hx hy => (hks j x y hx (by simpa using hy)).1) hk.2
    obtain ⟨d1, hd1, hk1⟩ := keyIs_spec hk.1 hkv
    obtain rfl : d1 = d := by rw [hd] at hd1; exact (Option.some.inj hd1).symm
    cases hj : keyAt k ks with
    | none =>
      rw [hj] at hf
      simp only [Option.bind_none] at hf
      refine ⟨.map (ms.push { key := kv, val := xv, born := clock }) (clock + 1), ?_, ?_⟩
      · simp [Instr.mapUpdate, run_underlying ht, MapKept.run_getObj_map hw, MapKept.run_checkKey hd hk1, MapKept.run_findKey hd hf, MapKept.run_setObj_map _ hw]
      · have e1 : putMK k ks = ks ++ [k] := by simp [putMK, hj]
        have e2 : (putMV k ks vs x).toL = vs.toL ++ [x] := by rw [putMV_toL, hj]
        rw [e1]
        refine .mp _ _ (ms.push { key := kv, val := xv, born := clock }) (clock + 1) (heap_set hw).1 (by simp [hl]) (by rw [e2]; simp [hlv]) ?_ ?_ ?_
        · intro i a b ha hb
          by_cases hi : i < ms.size
          · rw [List.getElem?_append_left (by omega)] at ha
            rw [Array.getElem?_push, if_neg (by omega)] at hb
            have := hks i a b ha hb
            exact ⟨this.1.step (hstep _), by omega⟩
          · by_cases hi' : i = ms.size
            · subst hi'
              rw [← hl, List.getElem?_append_right (Nat.le_refl _)] at ha
              rw [Array.getElem?_push, if_pos rfl] at hb
              simp at ha hb
              subst ha; subst hb
              exact ⟨hkv.step (hstep _), by simp⟩
            · rw [List.getElem?_eq_none (by simp; omega)] at ha; cases ha
        · intro i a b ha hb
          rw [e2] at ha
          by_cases hi : i < ms.size
          · rw [List.getElem?_append_left (by omega)] at ha
            rw [Array.getElem?_push, if_neg (by omega)] at hb
            exact (hvs i a b ha hb).step (hstep _)
          · by_cases hi' : i = ms.size
            · subst hi'
              rw [← hlv, List.getElem?_append_right (Nat.le_refl _)] at ha
              rw [Array.getElem?_push, if_pos rfl] at hb
              simp at ha hb
              subst ha; subst hb
              exact hxv.step (hstep _)
            · rw [List.getElem?_eq_none (by simp; omega)] at ha; cases ha
        · have hborn : ∀ (i : Nat) y, ms[i]? = some y → y.born < clock := fun i y hy => by
            have hi : i < ms.size := (Array.getElem?_eq_some_iff.1 hy).1
            exact (hks i ks[i] y (by simp [hl, hi]) hy).2
          intro i j a b ha hb hab
          rw [Array.getElem?_push] at ha hb
          split at ha
          · split at hb
            · omega
            · cases ha; have := hborn j b hb; simp at hab; omega
          · split at hb
            · cases hb; have := hborn i a ha; simp at hab; omega
            · exact hn i j a b ha hb hab
    | some j =>
      obtain ⟨y, hy, hb⟩ := keyAt_spec hj
      have hlt : j < ks.length := (List.getElem?_eq_some_iff.1 hy).1
      have hjm : ms[j]? = some ms[j] := by simp [show j < ms.size from by omega]
      rw [hj] at hf
      simp only [Option.bind_some, Array.getElem?_toList, hjm, Option.map_some, Nat.zero_add] at hf
      have hky : keyIs P K y = true := List.all_eq_true.1 hk.2 y (List.mem_of_getElem? hy)
      have hkey : kv = ms[j].key := (keyB_spec hk.1 hky hkv (hks j y _ hy hjm).1).1 hb
      refine ⟨.map (ms.modify j fun e => { e with key := kv, val := xv }) clock, ?_, ?_⟩
      · simp [Instr.mapUpdate, run_underlying ht, MapKept.run_getObj_map hw, MapKept.run_checkKey hd hk1, MapKept.run_findKey hd hf, hjm, ← hkey, MapKept.run_keyThatStays hk1, MapKept.run_setObj_map _ hw]
      · have e1 : putMK k ks = ks := by simp [putMK, hj]
        have e2 : (putMV k ks vs x).toL = vs.toL.set j x := by rw [putMV_toL, hj]
        rw [e1]
        refine .mp _ _ (ms.modify j fun e => { e with key := kv, val := xv }) clock (heap_set hw).1 (by simp [hl]) (by rw [e2]; simp [hlv]) ?_ ?_ ?_
        · intro i a b ha hb
          rw [Array.getElem?_modify] at hb
          split at hb
          · rename_i hij
            subst hij
            rw [hjm] at hb
            simp at hb
            subst hb
            rw [hy] at ha
            cases ha
            have := hks j y _ hy hjm
            exact ⟨by rw [hkey]; exact this.1.step (hstep _), this.2⟩
          · have := hks i a b ha hb
            exact ⟨this.1.step (hstep _), this.2⟩
        · intro i a b ha hb
          rw [e2] at ha
          rw [Array.getElem?_modify] at hb
          split at hb
          · rename_i hij
            subst hij
            rw [hjm] at hb
            simp at hb
            subst hb
            rw [List.getElem?_set_self (by omega)] at ha
            cases ha
            exact hxv.step (hstep _)
          · rename_i hij
            rw [List.getElem?_set_ne hij] at ha
            exact (hvs i a b ha hb).step (hstep _)
        · have hold : ∀ (i : Nat) b, (ms.modify j fun e => { e with key := kv, val := xv })[i]? = some b → ∃ c, ms[i]? = some c ∧ c.born = b.born := by
            intro i b hb
            rw [Array.getElem?_modify] at hb
            split at hb
            · rename_i hij
              subst hij
              rw [hjm] at hb
              simp at hb
              subst hb
              exact ⟨_, hjm, rfl⟩
            · exact ⟨b, hb, rfl⟩
          intro i i' a b ha hb hab
          obtain ⟨c, hc, h1⟩ := hold i a ha
          obtain ⟨c', hc', h2⟩ := hold i' b hb
          exact hn i i' c c' hc hc' (by omega)
theorem aopM_sound {H : Heap} {base : Nat} {ev : Operand → V} {ρ : Operand → Value} {o : Oper} {r : Res} (hst : St B L w H) (hev : ∀ x, VRel B L w (ev x) (ρ x)) (hf : r.eff.isNew = true → (∀ m, base ∉ (Heap.at H m).names) ∧ ∀ x, base ∉ (ev x).names)
    (h : aopM P (Heap.at H) base ev o.op = some r) : Done B L w H base r ((execOp ρ o).run P w) := by
  obtain ⟨dst, op, type, pos, after, guard⟩ := o
  change aopM P (Heap.at H) base ev op = some r at h
  unfold aopM at h
  split at h
  · rename_i t
    cases h
    have hrun : (execOp ρ ⟨dst, .makeMap t none, type, pos, after, guard⟩).run P w = .ok (.value (.map (some w.heap.size))) (w.alloc (.map #[] 0)) := by
      simp [execOp, Instr.makeMap]
    have hn : St (more B w.heap.size) (L.lay base w.heap.size 0 0) (w.alloc (.map #[] 0)) (Heap.put H base (.mp [] (.pure []))) := by
      refine hst.alloc (hf rfl).1 ?_
      refine .mp [] (.pure []) #[] 0 ?_ rfl rfl (by simp) (by simp) (by simp)
      rw [(Loc.lay_same L base _ 0 0).1]; show (w.heap.push _)[w.heap.size]? = _; simp
    refine ⟨_, _, _, L.lay base w.heap.size 0 0, .inl hrun, step_alloc B w _, ⟨rfl, rfl, rfl⟩, ?_, hn, LocAgree.lay L base _ _ _, Tail.alloc _ _ _ _ _ _ _ _, EffOk.lay _ _ _ _ _ _ _⟩
    have := VRel.mapr (B := more B w.heap.size) (L := L.lay base w.heap.size 0 0) (w := w.alloc (.map #[] 0)) base
    rw [(Loc.lay_same L base w.heap.size 0 0).1] at this
    exact this
  · rename_i t x ix ok
    split at h
    case h_2 => cases h
    rename_i K E k hKE hik
    split at h
    case h_2 => cases h
    rename_i r' hl
    simp only [Option.map_eq_some_iff] at h
    obtain ⟨v, hv, rfl⟩ := h
    have ht := mapKE_eq hKE
    have hkr := hev ix
    rw [hik] at hkr
    have hkp := hkr.of_p
    have hx := hev x
    unfold lookM at hl
    split at hl
    · rename_i n hxv
      split at hl
      case h_2 => cases hl
      rename_i ks vs hm
      split at hl
      case isFalse => cases hl
      rename_i hok
      cases hl
      have hrel := hst.rel n
      rw [hm] at hrel
      obtain ⟨d, hd, _⟩ := keyIs_spec hok.1 hkp
      obtain ⟨u, hu, hr⟩ := run_lookup_at ht hd hok hkp hrel ok hv
      rw [hxv] at hx
      generalize hρ : ρ x = vx at hx
      cases hx
      refine Done.pure (s := Instr.lookup t (ρ x) (ρ ix) ok) hst ?_ hr
      rw [hρ]
      exact hu
    · rename_i hxv
      split at hl
      case isFalse => cases hl
      rename_i hok
      cases hl
      obtain ⟨d, hd, _⟩ := keyIs_spec hok hkp
      obtain ⟨u, hu, hr⟩ := run_lookup_nil (L := L) ht hd hok hkp ok hv
      rw [hxv] at hx
      generalize hρ : ρ x = vx at hx
      cases hx.of_p
      refine Done.pure (s := Instr.lookup t (ρ x) (ρ ix) ok) hst ?_ hr
      rw [hρ]
      exact hu
    · cases hl
  · rename_i t m k x
    split at h
    case h_2 => cases h
    rename_i K E kp n hKE hik hmv
    split at h
    case h_2 => cases h
    rename_i ks vs hm
    split at h
    case isFalse => cases h
    rename_i hok
    cases h
    have ht := mapKE_eq hKE
    have hkr := hev k
    rw [hik] at hkr
    have hkp := hkr.of_p
    obtain ⟨d, hd, _⟩ := keyIs_spec hok.1 hkp
    have hrel := hst.rel n
    rw [hm] at hrel
    have hlive : (Heap.at H n).live := by rw [hm]; trivial
    obtain ⟨ob, hrun, hr⟩ := run_put_at ht hd hok hkp (hev x) (hst.own n hlive).1 hrel
    have hmr := hev m
    rw [hmv] at hmr
    generalize hρ : ρ m = vm at hmr
    cases hmr
    have hoth : ∀ b, b ≠ L.blk n → (w.heap.setIfInBounds (L.blk n) ob)[b]? = w.heap[b]? := fun b hb => by
      have : L.blk n ≠ b := fun e => hb e.symm
      simp [this]
    refine ⟨undef, { w with heap := w.heap.setIfInBounds (L.blk n) ob }, B, L, .inr ⟨?_, rfl⟩, ⟨by simp, fun b _ hb => hoth b (fun e => hb (e ▸ (hst.own n hlive).1)), fun _ _ h => h⟩, ⟨rfl, rfl, rfl⟩, .p _ _ (.tup [] [] rfl (fun i x y hx => by simp at hx)),
      hst.upd hlive (by simp) (fun k hk => hoth k hk) hr, LocAgree.refl L _, ⟨fun _ h => h, fun b _ hb => hoth b (fun e => hb n hlive e.symm), fun _ => .inl rfl, fun _ _ h => h⟩, hlive⟩
    simp [execOp, hρ, hrun]
  · rename_i args ts
    split at h
    case h_2 => cases h
    rename_i x t hax hat
    have hax : args = #[x] := by apply Array.ext'; simpa using hax
    have hat : ts = #[t] := by apply Array.ext'; simpa using hat
    subst hax; subst hat
    have e1 : ∀ ty, (execOp ρ ⟨dst, .call ⟨.builtin .clear, #[x], #[t]⟩, ty, pos, after, guard⟩).run P w = (do let u ← Builtin.clear_ #[t] ty #[ρ x]; pure (.value u) : Sem Next).run P w := by
      intro ty
      simp [execOp, resolve, invoke, builtin]
    rw [e1]
    exact clearA_sound hst (hev x) h
  · cases h
end
end Go.Am
end

section
namespace Go.Am
open Go
def isPtrTI (P : Program) (t : TypeId) : Bool := match P.underlying t with
  | some (.pointer e) => (P.info? e).isSome
  | _ => false
def sliceT (P : Program) (t : TypeId) : Option TypeId := match P.underlying t with
  | some (.slice e) => some e
  | _ => none
def nilS : V → Option Bool
  | .p .nils => some true
  | .p (.lst _ (_ :: _)) => some false
  | .sl _ _ (_ + 1) => some false
  | .p .emp => some false
  | _ => none
def aopX (P : Program) (H : Nat → HO) (ev : Operand → V) : Op → Option V
  | .binOp o t x y _ => match ev x, ev y with
    | .ptr n a, .ptr m b => if n = m ∧ a = b ∧ isPtrTI P t = true then (match o with
      | .eql => some (.p (.bool true))
      | .neq => some (.p (.bool false))
      | _ => none) else none
    | u, .p .nils => match sliceT P t, nilS u with
      | some _, some b => (match o with
        | .eql => some (.p (.bool b))
        | .neq => some (.p (.bool !b))
        | _ => none)
      | _, _ => none
    | _, _ => none
  | .convert a b x => match P.underlying a, P.underlying b, ev x with
    | some (.pointer t), some .unsafePointer, .ptr n o => match H n, szT P t with
      | .var _ v, some k => if k ≠ 0 ∧ o < v.cells.length then some (.ptr n o) else none
      | _, _ => none
    | some .unsafePointer, some (.pointer u), .ptr n o => match H n, szT P u with
      | .var t v, some _ => if liesAt P P.depth t (v.cells.length / P.cellsOf t) o u 1 = true then some (.ptr n o) else none
      | _, _ => none
    | _, _, _ => none
  | .call ⟨.builtin .append, args, ts⟩ => match args.toList, ts.toList with
    | [s, x], [t, tx] => match sliceT P t, (ev s).nn, srcA P H tx (ev x) with
      | some e, .p (.lst ex l), some [] => if 1 ≤ (szT P e).getD 0 then some (.p (.lst ex l)) else none
      | _, _, _ => none
    | _, _ => none
  | .call ⟨.builtin .unsafeSliceData, args, _⟩ => match args.toList with
    | [s] => match ev s with
      | .sl n o (_ + 1) => some (.eptr n o 0)
      | .p .nils => some (.p .anyp)
      | _ => none
    | _ => none
  | _ => none
section
variable {P : Program} {B : Nat → Prop} {L : Loc} {w : World}
theorem sliceT_spec {t e : TypeId} (h : sliceT P t = some e) : P.underlying t = some (.slice e) := by
  unfold sliceT at h
  split at h
  · rename_i x hx; cases h; exact hx
  · cases h
theorem nilS_spec {u : V} {v : Value} {b : Bool} (hv : VRel B L w u v) (h : nilS u = some b) : ∃ a n c, v = .slice a n c ∧ b = a.isNone := by
  unfold nilS at h
  split at h
  · cases h
    cases hv.of_p
    exact ⟨_, _, _, rfl, rfl⟩
  · cases h
    cases hv.of_p with
    | lst ex l b' o cap sz u' hb hw hz hs hf hcap he hc hr => exact ⟨_, _, _, rfl, rfl⟩
  · cases h
    cases hv with
    | sl n off len cap h hl => exact ⟨_, _, _, rfl, rfl⟩
  · cases h
    cases hv.of_p
    exact ⟨_, _, _, rfl, rfl⟩
  · cases h
theorem isPtrTI_spec {t : TypeId} (h : isPtrTI P t = true) : ∃ e i, P.underlying t = some (.pointer e) ∧ P.info? e = some i := by
  unfold isPtrTI at h
  split at h
  · rename_i e he
    cases hi : P.info? e with
    | none => rw [hi] at h; cases h
    | some i => exact ⟨e, i, he, hi⟩
  · cases h
theorem run_eqlX {o : BinOp} {t : TypeId} {ox oy : Operand} {x y : Value} {b c : Bool} {w : World} (hn : (∃ p q, x = .pointer p ∧ y = .pointer q) ∨ ∃ a n m a' n' m', x = .slice a n m ∧ y = .slice a' n' m') (h : (Op.equal t x y).run P w = .ok b w) (hc : (o = .eql ∧ c = b) ∨ (o = .neq ∧ c = !b)) :
    (do eqGuard o t ox oy x y; binOp o t x y : Sem Value).run P w = .ok (.bool c) w := by
  rcases hn with ⟨p, q, rfl, rfl⟩ | ⟨a, n, m, a', n', m', rfl, rfl⟩ <;> rcases hc with ⟨rfl, rfl⟩ | ⟨rfl, rfl⟩ <;> simp [eqGuard, binOp, h]
open Go.RowKit in
theorem run_sameX {tp te : TypeId} {j : TypeInfo} (a : Addr) (hp : P.underlying tp = some (.pointer te)) (hte : P.info? te = some j) (w : World) : (Op.equal tp (.pointer (some a)) (.pointer (some a))).run P w = .ok true w := by
  have h : ∀ d : Nat, (Op.equalIn (d + 1) tp (.pointer (some a)) (.pointer (some a))).run P w = .ok true w := fun d => by
    simp [Op.equalIn, run_underlying hp, sizeOf, typeInfo, hte, run_sameAddr_same]
  exact h 9999
theorem run_nilX {t e : TypeId} (a : Option Addr) (n c : Nat) (ht : P.underlying t = some (.slice e)) (w : World) : (Op.equal t (.slice a n c) (.slice none 0 0)).run P w = .ok a.isNone w := by
  have h : ∀ d : Nat, (Op.equalIn (d + 1) t (.slice a n c) (.slice none 0 0)).run P w = .ok a.isNone w := fun d => by
    cases a <;> simp [Op.equalIn, run_underlying ht]
  exact h 9999
theorem var_shape {n : Nat} {t : TypeId} {v : V} (h : HRel B L w n (.var t v)) : w.shape? (L.blk n) = some (t, v.cells.length) := by
  cases h with
  | var v c t fr hw hfr hl h => simp [World.shape?, hw, hl]
theorem aopX_sound {H : Heap} {base : Nat} {ev : Operand → V} {ρ : Operand → Value} {o : Oper} {r : V} (hst : St B L w H) (hev : ∀ x, VRel B L w (ev x) (ρ x)) (h : aopX P (Heap.at H) ev o.op = some r) :
    Done B L w H base ⟨r, .none⟩ ((execOp ρ o).run P w) := by
  obtain ⟨dst, op, type, pos, after, guard⟩ := o
  change aopX P (Heap.at H) ev op = some r at h
  unfold aopX at h
  split at h
  · -- binOp
    rename_i bo t x y yt
    have hx := hev x
    have hy := hev y
    split at h
    · rename_i n a m b h1 h2
      rw [h1] at hx; rw [h2] at hy
      generalize hrx : ρ x = vx at hx
      generalize hry : ρ y = vy at hy
      split at h
      case isFalse => cases h
      rename_i hc
      obtain ⟨rfl, rfl, ht⟩ := hc
      obtain ⟨e, i, h3, h4⟩ := isPtrTI_spec ht
      cases hx; cases hy
      have key : ∀ c, (bo = .eql ∧ c = true) ∨ (bo = .neq ∧ c = !true) → Done B L w H base ⟨.p (.bool c), .none⟩ ((execOp ρ ⟨dst, .binOp bo t x y yt, type, pos, after, guard⟩).run P w) := by
        intro c hc
        have hr := run_eqlX (P := P) (ox := x) (oy := y) (x := ρ x) (y := ρ y) (.inl ⟨_, _, hrx, hry⟩) (by rw [hrx, hry]; exact run_sameX _ h3 h4 w) hc
        exact Done.pure hst hr (.p _ _ (.bool c))
      split at h
      · cases h; exact key true (.inl ⟨rfl, rfl⟩)
      · cases h; exact key false (.inr ⟨rfl, rfl⟩)
      · cases h
    · rename_i h2
      rw [h2] at hy
      generalize hrx : ρ x = vx at hx
      generalize hry : ρ y = vy at hy
      split at h
      case h_2 => cases h
      rename_i e b h3 h4
      obtain ⟨a, n, c, rfl, rfl⟩ := nilS_spec hx h4
      have hy0 : vy = .slice none 0 0 := by
        cases hy.of_p
        rfl
      subst hy0
      have key : ∀ c', (bo = .eql ∧ c' = a.isNone) ∨ (bo = .neq ∧ c' = !a.isNone) → Done B L w H base ⟨.p (.bool c'), .none⟩ ((execOp ρ ⟨dst, .binOp bo t x y yt, type, pos, after, guard⟩).run P w) := by
        intro c' hc
        have hr := run_eqlX (P := P) (ox := x) (oy := y) (x := ρ x) (y := ρ y) (.inr ⟨_, _, _, _, _, _, hrx, hry⟩) (by rw [hrx, hry]; exact run_nilX a n c (sliceT_spec h3) w) hc
        exact Done.pure hst hr (.p _ _ (.bool c'))
      split at h
      · cases h; exact key _ (.inl ⟨rfl, rfl⟩)
      · cases h; exact key _ (.inr ⟨rfl, rfl⟩)
      · cases h
    · cases h
  · -- convert
    rename_i a b x
    have hx := hev x
    split at h
    · rename_i t n off h1 h2 h3
      rw [h3] at hx
      generalize hrx : ρ x = vx at hx
      split at h
      case h_2 => cases h
      rename_i ty v k h4 h5
      split at h
      case isFalse => cases h
      rename_i hc
      cases h
      cases hx
      have hrel := hst.rel n
      rw [h4] at hrel
      unfold szT at h5
      simp only [Option.map_eq_some_iff] at h5
      obtain ⟨i, hi, rfl⟩ := h5
      refine Done.pure (s := convert a b (ρ x)) hst ?_ (.ptr n off)
      rw [hrx]
      exact Lib.run_to_unsafe w ⟨L.blk n, off, none⟩ h1 h2 hi hc.1 (var_shape hrel) hc.2
    · rename_i u n off h1 h2 h3
      rw [h3] at hx
      generalize hrx : ρ x = vx at hx
      split at h
      case h_2 => cases h
      rename_i ty v k h4 h5
      split at h
      case isFalse => cases h
      rename_i hc
      cases h
      cases hx
      have hrel := hst.rel n
      rw [h4] at hrel
      unfold szT at h5
      simp only [Option.map_eq_some_iff] at h5
      obtain ⟨i, hi, rfl⟩ := h5
      refine Done.pure (s := convert a b (ρ x)) hst ?_ (.ptr n off)
      rw [hrx]
      exact Lib.run_from_unsafe w ⟨L.blk n, off, none⟩ h1 h2 hi (var_shape hrel) hc
    · cases h
  · -- append
    rename_i args ts
    split at h
    case h_2 => cases h
    rename_i s x t tx ha ht
    have ha : args = #[s, x] := by apply Array.ext'; simpa using ha
    have ht : ts = #[t, tx] := by apply Array.ext'; simpa using ht
    subst ha; subst ht
    split at h
    case h_2 => cases h
    rename_i e ex l h1 h2 h3
    split at h
    case isFalse => cases h
    rename_i h4
    cases h
    obtain ⟨i, hi, h1s⟩ : ∃ i, P.info? e = some i ∧ 1 ≤ i.size := by
      unfold szT at h4
      cases hi : P.info? e with
      | none => rw [hi] at h4; simp at h4
      | some i => rw [hi] at h4; exact ⟨i, rfl, by simpa using h4⟩
    have hs := (hev s).nn
    rw [h2] at hs
    generalize hrs : ρ s = vs at hs
    obtain ⟨a, cap, rfl, _, _⟩ := lst_shows (L := L) hs.of_p
    have hcap : l.length ≤ cap := by
      cases hs.of_p with
      | lst0 ex a cap he => exact Nat.zero_le _
      | lst ex l b' o cap sz u' hb hw hz hs hf hcap he hc hr => exact hcap
    obtain ⟨c, hsrc, hrl, _⟩ := srcA_sound (P := P) (sz := i.size) hst (hev x) h3 (by simp) h1s
    have hc0 : c = [] := List.length_eq_zero_iff.1 (by have := hrl.1; simpa [flat] using this.symm)
    subst hc0
    have hrun := run_append_nothing (P := P) w t tx type e i (sliceT_spec h1) hi a l.length cap hcap (ρ x) hsrc
    have e1 : (execOp ρ ⟨dst, .call ⟨.builtin .append, #[s, x], #[t, tx]⟩, type, pos, after, guard⟩).run P w = (do let u ← Builtin.append_ #[t, tx] type #[ρ s, ρ x]; pure (.value u) : Sem Next).run P w := by
      simp [execOp, resolve, invoke, builtin]
    rw [e1]
    exact Done.pure hst (by rw [hrs]; exact hrun) hs
  · -- unsafeSliceData
    rename_i args ts
    split at h
    case h_2 => cases h
    rename_i s ha
    have ha : args = #[s] := by apply Array.ext'; simpa using ha
    subst ha
    have hs := hev s
    have e1 : (execOp ρ ⟨dst, .call ⟨.builtin .unsafeSliceData, #[s], ts⟩, type, pos, after, guard⟩).run P w = (do let u ← Builtin.unsafeSliceData_ ts type #[ρ s]; pure (.value u) : Sem Next).run P w := by
      simp [execOp, resolve, invoke, builtin]
    rw [e1]
    split at h
    · rename_i n off l h1
      cases h
      rw [h1] at hs
      generalize hrs : ρ s = vs at hs
      cases hs with
      | sl n off len cap hc hl =>
        refine Done.pure hst (Lib.run_unsafeSliceData_row w ts type _ _ cap (by omega)) ?_
        have := VRel.eptr (B := B) (L := L) (w := w) n off 0
        rw [Nat.add_zero] at this
        exact this
    · rename_i h1
      cases h
      rw [h1] at hs
      generalize hrs : ρ s = vs at hs
      cases hs.of_p
      exact Done.pure hst (Lib.run_unsafeSliceData_nil w ts type 0 0) (.p _ _ (.anyp none))
    · cases h
  · cases h
def ifaceT (P : Program) (t : TypeId) : Bool := match P.underlying t with | some (.interface _) => true | _ => false
def isConstO : Operand → Bool
  | .const _ => true
  | _ => false
def nilI : V → Option Bool
  | .p .nili => some true
  | .p (.iface _ _) => some false
  | .iface _ _ => some false
  | _ => none
def nilM : V → Option Bool
  | .p .nilmap => some true
  | .mapr _ => some false
  | _ => none
def isIntF (P : Program) (t : TypeId) : Bool := match P.underlying t with | some (.int _) => true | _ => false
def mapT (P : Program) (t : TypeId) : Bool := match P.underlying t with | some (.map _ _) => true | _ => false
def eqlV (o : BinOp) (b : Bool) : Option V := match o with
  | .eql => some (.p (.bool b))
  | .neq => some (.p (.bool !b))
  | _ => none
def leafEq (P : Program) (t : TypeId) : PV → PV → Option Bool
  | .int k a, .int k' a' => if isIntF P t = true ∧ k = k' then some (decide (a = a')) else none
  | .str a, .str a' => match P.underlying t with
    | some .string => some (decide (a = a'))
    | _ => none
  | .bool a, .bool a' => match P.underlying t with
    | some .bool => some (decide (a = a'))
    | _ => none
  | _, _ => none
def eqF (P : Program) : List Field → Nat → List PV → List PV → Option Bool
  | [], _, _, _ => some true
  | f :: fs, i, xs, ys => match xs.head?, ys.head? with
    | some x, some y => match leafEq P f.type x y with
      | some e => if (f.name ≠ "_" ∧ f.offset = i) ∧ (isRowT P f.type = some false ∧ (szT P f.type).isSome = true) then (eqF P fs (i + 1) xs.tail ys.tail).map fun r => e && r else none
      | none => none
    | _, _ => none
theorem leafEq_sound {t : TypeId} {x y : PV} {e : Bool} {w : World} {B : Nat → Prop} {u v : Value} (h : leafEq P t x y = some e) (hx : PRel B w x u) (hy : PRel B w y v) (q : Nat) :
    (Op.equalIn (q + 1) t u v).run P w = .ok e w ∧ P.eqGuardType (q + 1) t = false ∧ (∃ l, u = .agg l) = False ∧ (∃ l, v = .agg l) = False := by
  unfold leafEq at h
  split at h
  · split at h
    case isFalse => cases h
    rename_i k a k' a' hc
    cases h
    obtain ⟨hi, rfl⟩ := hc
    cases hx
    cases hy
    unfold isIntF at hi
    split at hi
    case h_2 => cases hi
    rename_i k2 hu
    refine ⟨(run_equalIn_int w q t k k2 a a' hu).trans ?_, by rw [Program.eqGuardType, hu], by simp, by simp⟩
    congr 1
  · split at h
    case h_2 => cases h
    rename_i a a' hu
    cases h
    cases hx
    cases hy
    refine ⟨(run_equalIn_string w q t _ _ hu).trans ?_, by rw [Program.eqGuardType, hu], by simp, by simp⟩
    congr 1
    simp only [ByteArray.toList_eq]
    rw [Bool.eq_iff_iff]
    simp
  · split at h
    case h_2 => cases h
    rename_i hu
    cases h
    cases hx
    cases hy
    refine ⟨(run_equalIn_bool' w q t _ _ hu).trans ?_, by rw [Program.eqGuardType, hu], by simp, by simp⟩
    congr 1
  · cases h
def structF (P : Program) (t : TypeId) : Option (List Field) := match P.underlying t with
  | some (.struct fs) => if P.stoodInHeld t = false then some fs.toList else none
  | _ => none
theorem eqF_run {xs ys : List PV} {c d : List Value} {w : World} {B : Nat → Prop} (q : Nat) (hx : ∀ (i : Nat) x v, xs[i]? = some x → c[i]? = some v → PRel B w x v) (hy : ∀ (i : Nat) x v, ys[i]? = some x → d[i]? = some v → PRel B w x v)
    (hlx : xs.length = c.length) (hly : ys.length = d.length) : ∀ (fs : List Field) (i : Nat) (b : Bool), eqF P fs i (xs.drop i) (ys.drop i) = some b →
    (Op.eqFields (q + 1) c.toArray d.toArray fs).run P w = .ok b w
  | [], i, b, h => by
    rw [eqF] at h
    cases h
    rfl
  | f :: fs, i, b, h => by
    unfold eqF at h
    split at h
    case h_2 => cases h
    rename_i x y e2 e3
    split at h
    case h_2 => cases h
    rename_i e hle
    split at h
    case isFalse => cases h
    rename_i hc
    obtain ⟨⟨hn, ho⟩, hr, hs⟩ := hc
    simp only [List.tail_drop] at h
    cases hq : eqF P fs (i + 1) (xs.drop (i + 1)) (ys.drop (i + 1)) with
    | none => rw [hq] at h; cases h
    | some r =>
      rw [hq] at h
      cases h
      have gx : xs[i]? = some x := by rw [List.head?_drop] at e2; exact e2
      have gy : ys[i]? = some y := by rw [List.head?_drop] at e3; exact e3
      have lx : i < c.length := by have := (List.getElem?_eq_some_iff.1 gx).1; omega
      have ly : i < d.length := by have := (List.getElem?_eq_some_iff.1 gy).1; omega
      have rx := hx i _ _ gx (List.getElem?_eq_getElem lx)
      have ry := hy i _ _ gy (List.getElem?_eq_getElem ly)
      have ih := eqF_run q hx hy hlx hly fs (i + 1) r hq
      obtain ⟨n, hn'⟩ := Option.isSome_iff_exists.1 hs
      obtain ⟨he, _, _, _⟩ := leafEq_sound (w := w) hle rx ry q
      have px : (part f.type c.toArray f.offset).run P w = .ok c[i] w := by
        rw [run_part hr hn' c f.offset (y := c[i]) (fun _ => by rw [ho, List.getElem?_eq_getElem lx])]; rfl
      have py : (part f.type d.toArray f.offset).run P w = .ok d[i] w := by
        rw [run_part hr hn' d f.offset (y := d[i]) (fun _ => by rw [ho, List.getElem?_eq_getElem ly])]; rfl
      rw [Op.eqFields, if_pos hn]
      simp only [Sem.run_bind, px, py, he, Result.andThen_ok]
      cases e
      · simp
      · simp [ih]
theorem eqF_guard {xs ys : List PV} {c d : List Value} {w : World} {B : Nat → Prop} (hx : ∀ (i : Nat) x v, xs[i]? = some x → c[i]? = some v → PRel B w x v) (hy : ∀ (i : Nat) x v, ys[i]? = some x → d[i]? = some v → PRel B w x v)
    (hlx : xs.length = c.length) (hly : ys.length = d.length) : ∀ (fs : List Field) (i : Nat) (b : Bool), eqF P fs i (xs.drop i) (ys.drop i) = some b → ∀ q : Nat, (fs.any fun f => f.name != "_" && P.eqGuardType (q + 1) f.type) = false
  | [], _, _, _, _ => rfl
  | f :: fs, i, b, h, q => by
    unfold eqF at h
    split at h
    case h_2 => cases h
    rename_i x y e2 e3
    split at h
    case h_2 => cases h
    rename_i e hle
    split at h
    case isFalse => cases h
    simp only [List.tail_drop] at h
    cases hq : eqF P fs (i + 1) (xs.drop (i + 1)) (ys.drop (i + 1)) with
    | none => rw [hq] at h; cases h
    | some r =>
      have ih := eqF_guard hx hy hlx hly fs (i + 1) r hq q
      have gx : xs[i]? = some x := by rw [List.head?_drop] at e2; exact e2
      have gy : ys[i]? = some y := by rw [List.head?_drop] at e3; exact e3
      have lx : i < c.length := by have := (List.getElem?_eq_some_iff.1 gx).1; omega
      have ly : i < d.length := by have := (List.getElem?_eq_some_iff.1 gy).1; omega
      obtain ⟨_, hg, _, _⟩ := leafEq_sound (w := w) hle (hx i _ _ gx (List.getElem?_eq_getElem lx)) (hy i _ _ gy (List.getElem?_eq_getElem ly)) q
      rw [List.any_cons, ih, hg]
      simp
theorem run_structF {t : TypeId} {fs : List Field} {xs ys : List PV} {c d : List Value} {b : Bool} {w : World} {B : Nat → Prop} (ht : structF P t = some fs) (h : eqF P fs 0 xs ys = some b)
    (hx : ∀ (i : Nat) x v, xs[i]? = some x → c[i]? = some v → PRel B w x v) (hy : ∀ (i : Nat) x v, ys[i]? = some x → d[i]? = some v → PRel B w x v) (hlx : xs.length = c.length) (hly : ys.length = d.length) :
    (Op.equal t (.agg c.toArray) (.agg d.toArray)).run P w = .ok b w ∧ P.eqGuardType P.depth t = false := by
  unfold structF at ht
  split at ht
  case h_2 => cases ht
  rename_i fa hu
  split at ht
  case isFalse => cases ht
  rename_i hs
  cases ht
  have hf : P.fieldsOf t = fa := by rw [Program.fieldsOf, hu]
  refine ⟨?_, ?_⟩
  · have := eqF_run (P := P) (w := w) 9998 hx hy hlx hly fa.toList 0 b (by simpa using h)
    rw [← hf] at this
    rw [← this]
    exact run_equalIn_struct w 9999 t _ _ (by rw [hf]; exact hu) hs
  · have := eqF_guard (P := P) hx hy hlx hly fa.toList 0 b (by simpa using h) (2 * (P.types.size + Made.depth))
    show P.eqGuardType (2 * (P.types.size + Made.depth) + 1 + 1) t = false
    rw [Program.eqGuardType, hu]
    simpa using this
def aopZ (P : Program) (_H : Nat → HO) (ev : Operand → V) : Op → Option V
  | .binOp o t x y _ => match ev y with
    | .p .nili => match nilI (ev x) with
      | some b => if ifaceT P t = true ∧ isConstO y = true then eqlV o b else none
      | none => none
    | .p .nilmap => match nilM (ev x) with
      | some b => if mapT P t = true then eqlV o b else none
      | none => none
    | .p (.agg ys) => match ev x with
      | .p (.agg xs) => match structF P t with
        | some fs => match eqF P fs 0 xs ys with
          | some b => eqlV o b
          | none => none
        | none => none
      | _ => none
    | _ => none
  | _ => none
theorem nilI_spec {u : V} {v : Value} {b : Bool} (hv : VRel B L w u v) (h : nilI u = some b) : (b = true ∧ v = .nilIface) ∨ (b = false ∧ ∃ t x, v = .iface t x) := by
  unfold nilI at h
  split at h
  · cases h; cases hv.of_p; exact .inl ⟨rfl, rfl⟩
  · cases h
    cases hv.of_p with
    | iface t d v h => exact .inr ⟨rfl, _, _, rfl⟩
  · cases h
    cases hv with
    | iface t d v h => exact .inr ⟨rfl, _, _, rfl⟩
  · cases h
theorem nilM_spec {u : V} {v : Value} {b : Bool} (hv : VRel B L w u v) (h : nilM u = some b) : ∃ a, v = .map a ∧ b = a.isNone := by
  unfold nilM at h
  split at h
  · cases h; cases hv.of_p; exact ⟨_, rfl, rfl⟩
  · cases h; cases hv; exact ⟨_, rfl, rfl⟩
  · cases h
theorem eqlV_spec {o : BinOp} {b : Bool} {r : V} (h : eqlV o b = some r) : ∃ c, r = .p (.bool c) ∧ ((o = .eql ∧ c = b) ∨ (o = .neq ∧ c = !b)) := by
  unfold eqlV at h
  split at h
  · cases h; exact ⟨b, rfl, .inl ⟨rfl, rfl⟩⟩
  · cases h; exact ⟨!b, rfl, .inr ⟨rfl, rfl⟩⟩
  · cases h
theorem run_nilI {t : TypeId} (ht : ifaceT P t = true) {v : Value} {b : Bool} (hv : (b = true ∧ v = .nilIface) ∨ (b = false ∧ ∃ t x, v = .iface t x)) (w : World) : (Op.equal t v .nilIface).run P w = .ok b w := by
  unfold ifaceT at ht
  split at ht
  case h_2 => cases ht
  rename_i ms hu
  have h : ∀ d : Nat, (Op.equalIn (d + 1) t v .nilIface).run P w = .ok b w := fun d => by
    rcases hv with ⟨rfl, rfl⟩ | ⟨rfl, _, _, rfl⟩ <;> simp [Op.equalIn, run_underlying hu]
  exact h 9999
theorem run_nilM {t : TypeId} (ht : mapT P t = true) (a : Option Nat) (w : World) : (Op.equal t (.map a) (.map none)).run P w = .ok a.isNone w := by
  unfold mapT at ht
  split at ht
  case h_2 => cases ht
  rename_i k v hu
  have h : ∀ d : Nat, (Op.equalIn (d + 1) t (.map a) (.map none)).run P w = .ok a.isNone w := fun d => by
    cases a <;> simp [Op.equalIn, run_underlying hu]
  exact h 9999
theorem aopZ_sound {H : Heap} {base : Nat} {ev : Operand → V} {ρ : Operand → Value} {o : Oper} {r : V} (hst : St B L w H) (hev : ∀ x, VRel B L w (ev x) (ρ x)) (h : aopZ P (Heap.at H) ev o.op = some r) :
    Done B L w H base ⟨r, .none⟩ ((execOp ρ o).run P w) := by
  obtain ⟨dst, op, type, pos, after, guard⟩ := o
  change aopZ P (Heap.at H) ev op = some r at h
  unfold aopZ at h
  split at h
  case h_2 => cases h
  rename_i bo t x y yt
  have hx := hev x
  have hy := hev y
  split at h
  · rename_i h2
    rw [h2] at hy
    split at h
    case h_2 => cases h
    rename_i b hb
    split at h
    case isFalse => cases h
    rename_i hc
    obtain ⟨c, rfl, hoc⟩ := eqlV_spec h
    have hv := nilI_spec hx hb
    generalize hrx : ρ x = vx at hv
    generalize hry : ρ y = vy at hy
    cases hy.of_p
    have hr := run_nilI hc.1 hv w
    refine Done.pure (s := (do eqGuard bo t x y (ρ x) (ρ y); binOp bo t (ρ x) (ρ y) : Sem Value)) hst ?_ (.p _ _ (.bool c))
    rw [hrx, hry]
    obtain ⟨cv, rfl⟩ : ∃ cv, y = .const cv := by
      cases y with
      | const cv => exact ⟨cv, rfl⟩
      | _ => exact absurd hc.2 (by simp [isConstO])
    rcases hv with ⟨rfl, rfl⟩ | ⟨rfl, _, _, rfl⟩ <;> rcases hoc with ⟨rfl, rfl⟩ | ⟨rfl, rfl⟩ <;> simp [eqGuard, binOp, hr]
  · rename_i h2
    rw [h2] at hy
    split at h
    case h_2 => cases h
    rename_i b hb
    split at h
    case isFalse => cases h
    rename_i hc
    obtain ⟨c, rfl, hoc⟩ := eqlV_spec h
    obtain ⟨a, hv, rfl⟩ := nilM_spec hx hb
    generalize hrx : ρ x = vx at hv
    generalize hry : ρ y = vy at hy
    cases hy.of_p
    subst hv
    have hr := run_nilM hc a w
    refine Done.pure (s := (do eqGuard bo t x y (ρ x) (ρ y); binOp bo t (ρ x) (ρ y) : Sem Value)) hst ?_ (.p _ _ (.bool c))
    rw [hrx, hry]
    rcases hoc with ⟨rfl, rfl⟩ | ⟨rfl, rfl⟩ <;> simp [eqGuard, binOp, hr]
  · rename_i ys h2
    rw [h2] at hy
    split at h
    case h_2 => cases h
    rename_i xs h1
    rw [h1] at hx
    split at h
    case h_2 => cases h
    rename_i fs hfs
    split at h
    case h_2 => cases h
    rename_i b hb
    obtain ⟨c, rfl, hoc⟩ := eqlV_spec h
    generalize hrx : ρ x = vx at hx
    generalize hry : ρ y = vy at hy
    cases hx.of_p with
    | agg _ cx hlx hcx =>
      cases hy.of_p with
      | agg _ cy hly hcy =>
        obtain ⟨hr, hg⟩ := run_structF (w := w) hfs hb hcx hcy hlx hly
        refine Done.pure (s := (do eqGuard bo t x y (ρ x) (ρ y); binOp bo t (ρ x) (ρ y) : Sem Value)) hst ?_ (.p _ _ (.bool c))
        rw [hrx, hry, Sem.run_bind, run_eqGuard_agg w bo t x y _ _ hg, Result.andThen_ok]
        rcases hoc with ⟨rfl, rfl⟩ | ⟨rfl, rfl⟩ <;> simp [binOp, hr]
  · cases h
def ifaceV (t : TypeId) : V → V
  | .p d => .p (.iface t d)
  | v => .iface t v
def concT (P : Program) (t : TypeId) : Bool := match P.underlying t with
  | some (.interface _) => false
  | some _ => true
  | none => false
theorem ifaceV_rel {t : TypeId} {v : V} {x : Value} (h : VRel B L w v x) : VRel B L w (ifaceV t v) (.iface t x) := by
  cases v with
  | p d => exact .p _ _ (.iface t d x h.of_p)
  | _ => exact .iface t _ x h
theorem run_makeInterface {t : TypeId} (h : concT P t = true) (x : Value) (w : World) : (Instr.makeInterface t x).run P w = .ok (.iface t x) w := by
  unfold concT at h
  split at h
  · cases h
  · rename_i y hne hu
    unfold Instr.makeInterface
    simp only [Sem.run_bind, run_underlying hu, Result.andThen_ok]
    rfl
  · cases h
def assertV (z : PV) (at_ : TypeId) : V → Option V
  | .p .nili => some (.tup [.p z, .p (.bool false)])
  | .p (.iface t d) => if t = at_ then some (.tup [.p d, .p (.bool true)]) else some (.tup [.p z, .p (.bool false)])
  | _ => none
theorem vtup2 {a b : V} {x y : Value} (h1 : VRel B L w a x) (h2 : VRel B L w b y) : VRel B L w (.tup [a, b]) (.tuple #[x, y]) := by
  refine .tup _ [x, y] rfl fun i d v hd hv => ?_
  rcases i with _ | _ | i
  · cases hd; cases hv; exact h1
  · cases hd; cases hv; exact h2
  · simp at hd
theorem concT_some {t : TypeId} (h : concT P t = true) : ∃ d, P.underlying t = some d ∧ ∀ ms, d ≠ .interface ms := by
  unfold concT at h
  split at h
  · cases h
  · rename_i y hne hu
    exact ⟨y, hu, fun ms e => hne ms e⟩
  · cases h
theorem run_assert_nil {at_ xt : TypeId} {v : Value} (h : concT P at_ = true) (hz : (zeroValue at_).run P w = .ok v w) : (Instr.typeAssert .nilIface xt at_ true).run P w = .ok (.tuple #[v, .bool false]) w := by
  obtain ⟨d, hu, hne⟩ := concT_some h
  cases d
  case interface ms => exact absurd rfl (hne ms)
  all_goals simp [Instr.typeAssert, run_underlying hu, hz]
theorem run_assert_same {at_ xt : TypeId} {y : Value} (h : concT P at_ = true) : (Instr.typeAssert (.iface at_ y) xt at_ true).run P w = .ok (.tuple #[y, .bool true]) w := by
  obtain ⟨d, hu, hne⟩ := concT_some h
  cases d
  case interface ms => exact absurd rfl (hne ms)
  all_goals simp [Instr.typeAssert, run_underlying hu]
theorem run_assert_other {at_ xt t : TypeId} {y v : Value} (h : concT P at_ = true) (ht : ¬ t = at_) (hz : (zeroValue at_).run P w = .ok v w) : (Instr.typeAssert (.iface t y) xt at_ true).run P w = .ok (.tuple #[v, .bool false]) w := by
  obtain ⟨d, hu, hne⟩ := concT_some h
  cases d
  case interface ms => exact absurd rfl (hne ms)
  all_goals simp [Instr.typeAssert, run_underlying hu, hz, ht]
def aopI (P : Program) (ev : Operand → V) : Op → Option V
  | .makeInterface t x => if concT P t = true then some (ifaceV t (ev x)) else none
  | .typeAssert x _ at_ true => if concT P at_ = true then (match zeroT P at_ with
    | some z => assertV z at_ (ev x)
    | none => none) else none
  | _ => none
theorem aopI_sound {H : Heap} {base : Nat} {ev : Operand → V} {ρ : Operand → Value} {o : Oper} {r : V} (hst : St B L w H) (hev : ∀ x, VRel B L w (ev x) (ρ x)) (h : aopI P ev o.op = some r) :
    Done B L w H base ⟨r, .none⟩ ((execOp ρ o).run P w) := by
  obtain ⟨dst, op, type, pos, after, guard⟩ := o
  change aopI P ev op = some r at h
  unfold aopI at h
  split at h
  · rename_i t x
    split at h
    · rename_i hc
      cases h
      exact Done.pure (s := Instr.makeInterface t (ρ x)) hst (run_makeInterface hc _ w) (ifaceV_rel (hev x))
    · cases h
  · rename_i x xt at_
    split at h
    case isFalse => cases h
    rename_i hc
    split at h
    case h_2 => cases h
    rename_i z hz
    have hx := hev x
    generalize hrx : ρ x = vx at hx
    obtain ⟨i, v, hi, hzv, hoc⟩ := zeroT_some hz
    have hzr := (ofConst_sound (B := B) (w := w) hoc).1
    have hzero : (zeroValue at_).run P w = .ok v w := by simp [zeroValue, typeInfo, hi, hzv]
    unfold assertV at h
    split at h
    · rename_i he
      cases h
      rw [he] at hx
      cases hx.of_p
      refine Done.pure (s := Instr.typeAssert (ρ x) xt at_ true) hst ?_ (vtup2 (.p _ _ hzr) (.p _ _ (.bool false)))
      rw [hrx]
      exact run_assert_nil hc hzero
    · rename_i t d he
      rw [he] at hx
      have hp := hx.of_p
      cases hp with
      | iface _ _ y hy =>
        split at h
        · rename_i ht
          cases h
          subst ht
          refine Done.pure (s := Instr.typeAssert (ρ x) xt t true) hst ?_ (vtup2 (.p _ _ hy) (.p _ _ (.bool true)))
          rw [hrx]
          exact run_assert_same hc
        · rename_i ht
          cases h
          refine Done.pure (s := Instr.typeAssert (ρ x) xt at_ true) hst ?_ (vtup2 (.p _ _ hzr) (.p _ _ (.bool false)))
          rw [hrx]
          exact run_assert_other hc ht hzero
    · cases h
  · cases h
def aopA (P : Program) (H : Nat → HO) (base : Nat) (ev : Operand → V) (op : Op) : Option Res :=
  match aop P H base ev op with
  | some r => some r
  | none => match aopX P H ev op with
    | some v => some ⟨v, .none⟩
    | none => match aopZ P H ev op with
      | some v => some ⟨v, .none⟩
      | none => match aopI P ev op with
        | some v => some ⟨v, .none⟩
        | none => aopM P H base ev op
theorem aopA_sound {H : Heap} {base : Nat} {ev : Operand → V} {ρ : Operand → Value} {o : Oper} {r : Res} (hst : St B L w H) (hev : ∀ x, VRel B L w (ev x) (ρ x)) (hf : r.eff.isNew = true → (∀ m, base ∉ (Heap.at H m).names) ∧ ∀ x, base ∉ (ev x).names)
    (h : aopA P (Heap.at H) base ev o.op = some r) : Done B L w H base r ((execOp ρ o).run P w) := by
  unfold aopA at h
  split at h
  · rename_i r' hr
    cases h
    exact aop_sound hst hev hf hr
  · split at h
    · rename_i v hv
      cases h
      exact aopX_sound hst hev hv
    · split at h
      · rename_i v hv
        cases h
        exact aopZ_sound hst hev hv
      · split at h
        · rename_i v hv
          cases h
          exact aopI_sound hst hev hv
        · exact aopM_sound hst hev hf h
end
end Go.Am
end
