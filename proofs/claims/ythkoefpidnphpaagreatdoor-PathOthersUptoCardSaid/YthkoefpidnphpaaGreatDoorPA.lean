/-
The abstract machine's values: pure values (immutable data, no addresses), values that may name mutable objects, and what they stand for in a world.
-/
import Derived.Orders
import Derived.Deep.AppendSrc
import Derived.Deep.MidRow
import Derived.Below
import GoSem.Dispatch
import Derived.Laws.Concat
import Derived.Laws.Slices
import Derived.Laws.Pointers
import Derived.Laws.Small
import Derived.Laws.BytesArg
import Derived.Laws.Strings
import Derived.Laws.MakeOwn
import Derived.Deep.Upon
import Derived.Great.BuildSlice

section
namespace Go.Am
open Go
inductive PV where
  | bool (b : Bool)
  | int (k : IntKind) (n : Int)
  | str (s : List UInt8)
  | agg (l : List PV)
  | lst (ex : Bool) (l : List PV)
  | tup (l : List PV)
  | nilptr
  | nilmap
  | nilfunc
  | nili
  | fn (f : Fn)
  | iface (t : TypeId) (v : PV)
  | cptr (v : PV)
  | anyp
  | nils
  | emp
  | anyi (k : IntKind)
  deriving Inhabited
def PV.cells : PV → List PV
  | .agg l => l
  | x => [x]
def PV.isAgg : PV → Bool
  | .agg _ => true
  | _ => false
def PV.leaf : PV → Bool
  | .agg _ => false
  | .tup _ => false
  | _ => true
def flat (l : List PV) : List PV := l.flatMap PV.cells
theorem flat_cons (x : PV) (l : List PV) : flat (x :: l) = x.cells ++ flat l := rfl
theorem flat_append (l m : List PV) : flat (l ++ m) = flat l ++ flat m := by simp [flat]
theorem flat_length {sz : Nat} : ∀ {l : List PV}, (∀ x ∈ l, x.cells.length = sz) → (flat l).length = l.length * sz
  | [], _ => by simp [flat]
  | x :: l, h => by
    rw [flat_cons, List.length_append, flat_length (fun y hy => h y (List.mem_cons_of_mem _ hy)), h x (by simp), List.length_cons, Nat.succ_mul]
    omega
theorem flat_get {sz : Nat} : ∀ {l : List PV} (_ : ∀ x ∈ l, x.cells.length = sz) (i j : Nat) {x : PV} (_ : l[i]? = some x) (_ : j < sz),
    (flat l)[i * sz + j]? = x.cells[j]?
  | [], _, i, j, x, hx, _ => by simp at hx
  | y :: l, h, 0, j, x, hx, hj => by
    simp at hx; subst hx
    rw [flat_cons, Nat.zero_mul, Nat.zero_add, List.getElem?_append_left (by rw [h y (by simp)]; exact hj)]
  | y :: l, h, i + 1, j, x, hx, hj => by
    have hy := h y (by simp)
    rw [flat_cons, List.getElem?_append_right (by rw [hy, Nat.succ_mul]; omega), hy,
      show (i + 1) * sz + j - sz = i * sz + j from by rw [Nat.succ_mul]; omega]
    exact flat_get (fun z hz => h z (List.mem_cons_of_mem _ hz)) i j (by simpa using hx) hj
theorem mem_flat {l : List PV} {x c : PV} (hx : x ∈ l) (hc : c ∈ x.cells) : c ∈ flat l := List.mem_flatMap.2 ⟨x, hx, hc⟩
inductive PRel (B : Nat → Prop) (w : World) : PV → Value → Prop
  | bool (b : Bool) : PRel B w (.bool b) (.bool b)
  | int (k : IntKind) (n : Int) : PRel B w (.int k n) (.int k n)
  | str (s : List UInt8) : PRel B w (.str s) (.string ⟨s.toArray⟩)
  | agg (l : List PV) (c : List Value) (hl : l.length = c.length) (h : ∀ (i : Nat) x y, l[i]? = some x → c[i]? = some y → PRel B w x y) : PRel B w (.agg l) (.agg c.toArray)
  | tup (l : List PV) (c : List Value) (hl : l.length = c.length) (h : ∀ (i : Nat) x y, l[i]? = some x → c[i]? = some y → PRel B w x y) : PRel B w (.tup l) (.tuple c.toArray)
  | lst0 (ex : Bool) (a : Option Addr) (cap : Nat) (he : ex = true → cap = 0) (hn : a = none → cap = 0) : PRel B w (.lst ex []) (.slice a 0 cap)
  | lst (ex : Bool) (l : List PV) (b o cap sz : Nat) (u : Nat → Value) (hb : ¬ B b) (hw : b < w.heap.size) (hz : 1 ≤ sz) (hs : ∀ x ∈ l, x.cells.length = sz)
      (hf : ∀ x ∈ flat l, x.leaf = true) (hcap : l.length ≤ cap) (he : ex = true → cap = l.length ∧ l ≠ []) (hc : ∀ k, k < (flat l).length → w.cell? ⟨b, o + k, none⟩ = some (u k))
      (hr : ∀ (k : Nat) x, (flat l)[k]? = some x → PRel B w x (u k)) : PRel B w (.lst ex l) (.slice (some ⟨b, o, none⟩) l.length cap)
  | nilptr : PRel B w .nilptr (.pointer none)
  | nilmap : PRel B w .nilmap (.map none)
  | nilfunc : PRel B w .nilfunc .nilFunc
  | nili : PRel B w .nili .nilIface
  | fn (f : Fn) : PRel B w (.fn f) (.func f #[] #[])
  | iface (t : TypeId) (d : PV) (v : Value) (h : PRel B w d v) : PRel B w (.iface t d) (.iface t v)
  | cptr (d : PV) (b o : Nat) (u : Nat → Value) (hb : ¬ B b) (hw : b < w.heap.size) (hf : ∀ x ∈ d.cells, x.leaf = true) (hc : ∀ k, k < d.cells.length → w.cell? ⟨b, o + k, none⟩ = some (u k))
      (hr : ∀ (k : Nat) x, d.cells[k]? = some x → PRel B w x (u k)) : PRel B w (.cptr d) (.pointer (some ⟨b, o, none⟩))
  | anyp (p : Option Addr) : PRel B w .anyp (.pointer p)
  | nils : PRel B w .nils (.slice none 0 0)
  | emp (a : Addr) (cap : Nat) : PRel B w .emp (.slice (some a) 0 cap)
  | anyi (k : IntKind) (n : Int) : PRel B w (.anyi k) (.int k n)
structure Step (B : Nat → Prop) (w : World) (B' : Nat → Prop) (w' : World) : Prop where
  size : w.heap.size ≤ w'.heap.size
  old : ∀ b, b < w.heap.size → ¬ B b → w'.heap[b]? = w.heap[b]?
  sub : ∀ b, b < w.heap.size → B' b → B b
theorem Step.refl (B : Nat → Prop) (w : World) : Step B w B w := ⟨Nat.le_refl _, fun _ _ _ => rfl, fun _ _ h => h⟩
theorem Step.trans {B B' B'' : Nat → Prop} {w w' w'' : World} (h : Step B w B' w') (k : Step B' w' B'' w'') : Step B w B'' w'' :=
  ⟨Nat.le_trans h.size k.size, fun b hb hn => (k.old b (Nat.lt_of_lt_of_le hb h.size) (fun hb' => hn (h.sub b hb hb'))).trans (h.old b hb hn),
    fun b hb hb'' => h.sub b hb (k.sub b (Nat.lt_of_lt_of_le hb h.size) hb'')⟩
theorem cell_of_block {w w' : World} {b o : Nat} (h : w'.heap[b]? = w.heap[b]?) : w'.cell? ⟨b, o, none⟩ = w.cell? ⟨b, o, none⟩ := World.cell?_of_block (w := w) h
theorem PRel.step {B B' : Nat → Prop} {w w' : World} (hs : Step B w B' w') {d : PV} {v : Value} (h : PRel B w d v) : PRel B' w' d v := by
  induction h with
  | bool b => exact .bool b
  | int k n => exact .int k n
  | str s => exact .str s
  | agg l c hl _ ih => exact .agg l c hl ih
  | tup l c hl _ ih => exact .tup l c hl ih
  | lst0 ex a cap he hn => exact .lst0 ex a cap he hn
  | lst ex l b o cap sz u hb hw hz hsz hf hcap he hc _ ih =>
    exact .lst ex l b o cap sz u (fun h => hb (hs.sub b hw h)) (Nat.lt_of_lt_of_le hw hs.size) hz hsz hf hcap he
      (fun k hk => by rw [cell_of_block (hs.old b hw hb)]; exact hc k hk) ih
  | nilptr => exact .nilptr
  | nilmap => exact .nilmap
  | nilfunc => exact .nilfunc
  | nili => exact .nili
  | fn f => exact .fn f
  | iface t d v _ ih => exact .iface t d v ih
  | cptr d b o u hb hw hf hc _ ih =>
    exact .cptr d b o u (fun h => hb (hs.sub b hw h)) (Nat.lt_of_lt_of_le hw hs.size) hf (fun k hk => by rw [cell_of_block (hs.old b hw hb)]; exact hc k hk) ih
  | anyp p => exact .anyp p
  | nils => exact .nils
  | emp a cap => exact .emp a cap
  | anyi k n => exact .anyi k n
inductive V where
  | p (d : PV)
  | ptr (n off : Nat)
  | eptr (n i off : Nat)
  | sl (n off len : Nat)
  | mapr (n : Nat)
  | func (f : Fn) (cap : List V)
  | agg (l : List V)
  | tup (l : List V)
  | iface (t : TypeId) (v : V)
  | junk
  deriving Inhabited
def V.cells : V → List V
  | .p (.agg l) => l.map .p
  | .agg l => l
  | x => [x]
def V.leaf : V → Bool
  | .p d => d.leaf
  | .agg _ => false
  | .tup _ => false
  | .junk => false
  | _ => true
structure Loc where
  blk : Nat → Nat
  sz : Nat → Nat
  cap : Nat → Nat
inductive VRel (B : Nat → Prop) (L : Loc) (w : World) : V → Value → Prop
  | p (d : PV) (v : Value) (h : PRel B w d v) : VRel B L w (.p d) v
  | ptr (n off : Nat) : VRel B L w (.ptr n off) (.pointer (some ⟨L.blk n, off, none⟩))
  | eptr (n i off : Nat) : VRel B L w (.eptr n i off) (.pointer (some ⟨L.blk n, i * L.sz n + off, none⟩))
  | sl (n off len cap : Nat) (h : off + cap = L.cap n) (hl : len ≤ cap) : VRel B L w (.sl n off len) (.slice (some ⟨L.blk n, off * L.sz n, none⟩) len cap)
  | sl0 (n off : Nat) (a : Option Addr) (h : off = L.cap n) : VRel B L w (.sl n off 0) (.slice a 0 0)
  | mapr (n : Nat) : VRel B L w (.mapr n) (.map (some (L.blk n)))
  | func (f : Fn) (l : List V) (c : List Value) (hl : l.length = c.length) (h : ∀ (i : Nat) x y, l[i]? = some x → c[i]? = some y → VRel B L w x y) : VRel B L w (.func f l) (.func f #[] c.toArray)
  | agg (l : List V) (c : List Value) (hl : l.length = c.length) (h : ∀ (i : Nat) x y, l[i]? = some x → c[i]? = some y → VRel B L w x y) : VRel B L w (.agg l) (.agg c.toArray)
  | tup (l : List V) (c : List Value) (hl : l.length = c.length) (h : ∀ (i : Nat) x y, l[i]? = some x → c[i]? = some y → VRel B L w x y) : VRel B L w (.tup l) (.tuple c.toArray)
  | iface (t : TypeId) (d : V) (v : Value) (h : VRel B L w d v) : VRel B L w (.iface t d) (.iface t v)
  | junk (v : Value) : VRel B L w .junk v
theorem VRel.step {B B' : Nat → Prop} {L : Loc} {w w' : World} (hs : Step B w B' w') {d : V} {v : Value} (h : VRel B L w d v) : VRel B' L w' d v := by
  induction h with
  | p d v h => exact .p d v (h.step hs)
  | ptr n off => exact .ptr n off
  | eptr n i off => exact .eptr n i off
  | sl n off len cap h hl => exact .sl n off len cap h hl
  | sl0 n off a h => exact .sl0 n off a h
  | mapr n => exact .mapr n
  | func f l c hl _ ih => exact .func f l c hl ih
  | agg l c hl _ ih => exact .agg l c hl ih
  | tup l c hl _ ih => exact .tup l c hl ih
  | iface t d v _ ih => exact .iface t d v ih
  | junk v => exact .junk v
mutual
def V.names : V → List Nat
  | .p _ => []
  | .ptr n _ => [n]
  | .eptr n _ _ => [n]
  | .sl n _ _ => [n]
  | .mapr n => [n]
  | .func _ l => V.namesL l
  | .agg l => V.namesL l
  | .tup l => V.namesL l
  | .iface _ v => v.names
  | .junk => []
def V.namesL : List V → List Nat
  | [] => []
  | x :: l => x.names ++ V.namesL l
end
theorem V.names_mem {l : List V} {i : Nat} {x : V} (hx : l[i]? = some x) {n : Nat} (hn : n ∈ x.names) : n ∈ V.namesL l := by
  induction l generalizing i with
  | nil => simp at hx
  | cons y l ih =>
    cases i with
    | zero => simp at hx; subst hx; simp [V.namesL, hn]
    | succ i => simp at hx; simp [V.namesL, ih hx]
theorem VRel.loc {B : Nat → Prop} {L L' : Loc} {w : World} {d : V} {v : Value} (h : VRel B L w d v)
    (he : ∀ n ∈ d.names, L'.blk n = L.blk n ∧ L'.sz n = L.sz n ∧ L'.cap n = L.cap n) : VRel B L' w d v := by
  induction h with
  | p d v h => exact .p d v h
  | ptr n off => have := he n (by simp [V.names]); rw [← this.1]; exact .ptr n off
  | eptr n i off => have := he n (by simp [V.names]); rw [← this.1, ← this.2.1]; exact .eptr n i off
  | sl n off len cap h hl => have := he n (by simp [V.names]); rw [← this.1, ← this.2.1]; exact .sl n off len cap (by rw [this.2.2]; exact h) hl
  | sl0 n off a h => have := he n (by simp [V.names]); exact .sl0 n off a (by rw [this.2.2]; exact h)
  | mapr n => have := he n (by simp [V.names]); rw [← this.1]; exact .mapr n
  | func f l c hl _ ih => exact .func f l c hl (fun i x y hx hy => ih i x y hx hy fun n hn => he n (by simp only [V.names]; exact V.names_mem hx hn))
  | agg l c hl _ ih => exact .agg l c hl (fun i x y hx hy => ih i x y hx hy fun n hn => he n (by simp only [V.names]; exact V.names_mem hx hn))
  | tup l c hl _ ih => exact .tup l c hl (fun i x y hx hy => ih i x y hx hy fun n hn => he n (by simp only [V.names]; exact V.names_mem hx hn))
  | iface t d v _ ih => exact .iface t d v (ih fun n hn => he n (by simpa [V.names] using hn))
  | junk v => exact .junk v
inductive MV where
  | pure (l : List PV)
  | any (l : List V)
  deriving Inhabited
def MV.toL : MV → List V
  | .pure l => l.map .p
  | .any l => l
def MV.map (f : V → V) : MV → MV
  | .pure l => .pure l
  | .any l => .any (l.map f)
theorem MV.toL_map {f : V → V} (hf : ∀ d, f (.p d) = .p d) : ∀ m : MV, (m.map f).toL = m.toL.map f
  | .pure l => by
    rw [MV.map, MV.toL, List.map_map]
    exact List.map_congr_left fun d _ => (hf d).symm
  | .any _ => rfl
theorem MV.map_length (f : V → V) : ∀ m : MV, (m.map f).toL.length = m.toL.length
  | .pure _ => rfl
  | .any l => by simp [MV.map, MV.toL]
def MV.names : MV → List Nat
  | .pure _ => []
  | .any l => V.namesL l
theorem MV.mem_names {m : MV} {i : Nat} {x : V} (hx : m.toL[i]? = some x) {n : Nat} (hn : n ∈ x.names) : n ∈ m.names := by
  cases m with
  | pure l =>
    simp only [MV.toL, List.getElem?_map, Option.map_eq_some_iff] at hx
    obtain ⟨d, _, rfl⟩ := hx
    simp [V.names] at hn
  | any l => exact V.names_mem hx hn
inductive HO where
  | var (t : TypeId) (v : V)
  | arr (t : TypeId) (sz : Nat) (es : List PV)
  | mp (ks : List PV) (vs : MV)
  | dead
  deriving Inhabited
def unfrozen (size : Nat) (fr : Nat × Nat) : Prop := fr.2 ≤ fr.1 ∨ size ≤ fr.1
inductive HRel (B : Nat → Prop) (L : Loc) (w : World) (n : Nat) : HO → Prop
  | var (v : V) (c : Array Value) (t : TypeId) (fr : Nat × Nat) (hw : w.heap[L.blk n]? = some (.cells c t fr)) (hfr : unfrozen c.size fr) (hl : v.cells.length = c.size)
      (h : ∀ (i : Nat) x y, v.cells[i]? = some x → c[i]? = some y → VRel B L w x y) : HRel B L w n (.var t v)
  | arr (sz : Nat) (es : List PV) (c : Array Value) (t : TypeId) (fr : Nat × Nat) (hw : w.heap[L.blk n]? = some (.cells c t fr)) (hfr : unfrozen c.size fr) (hz : 1 ≤ sz) (hsz : L.sz n = sz)
      (hcap : c.size = L.cap n * sz) (hle : es.length ≤ L.cap n) (hs : ∀ x ∈ es, x.cells.length = sz) (hf : ∀ x ∈ flat es, x.leaf = true)
      (h : ∀ (i : Nat) x y, (flat es)[i]? = some x → c[i]? = some y → PRel B w x y) : HRel B L w n (.arr t sz es)
  | mp (ks : List PV) (vs : MV) (ms : Array MapEntry) (clock : Nat) (hw : w.heap[L.blk n]? = some (.map ms clock)) (hl : ks.length = ms.size) (hlv : vs.toL.length = ms.size)
      (hk : ∀ (i : Nat) x y, ks[i]? = some x → ms[i]? = some y → PRel B w x y.key ∧ y.born < clock)
      (hv : ∀ (i : Nat) x y, vs.toL[i]? = some x → ms[i]? = some y → VRel B L w x y.val)
      (hn : ∀ (i j : Nat) x y, ms[i]? = some x → ms[j]? = some y → x.born = y.born → i = j) : HRel B L w n (.mp ks vs)
  | dead : HRel B L w n .dead
abbrev Heap := List HO
def Heap.at (H : Heap) (n : Nat) : HO := (H[n]?).getD .dead
def HO.live : HO → Prop
  | .dead => False
  | _ => True
structure St (B : Nat → Prop) (L : Loc) (w : World) (H : Heap) : Prop where
  rel : ∀ n, HRel B L w n (Heap.at H n)
  own : ∀ n, (Heap.at H n).live → B (L.blk n) ∧ L.blk n < w.heap.size
  inj : ∀ n m, (Heap.at H n).live → (Heap.at H m).live → L.blk n = L.blk m → n = m
  bnd : ∀ b, B b → b < w.heap.size
def HO.names : HO → List Nat
  | .var _ v => v.names
  | .mp _ vs => vs.names
  | _ => []
theorem V.names_cells {v x : V} {i : Nat} (hx : v.cells[i]? = some x) {n : Nat} (hn : n ∈ x.names) : n ∈ v.names := by
  cases v with
  | p d =>
    cases d with
    | agg l =>
      simp only [V.cells, List.getElem?_map, Option.map_eq_some_iff] at hx
      obtain ⟨a, _, rfl⟩ := hx
      simp [V.names] at hn
    | _ => (cases i <;> simp [V.cells] at hx); subst hx; exact hn
  | agg l => simp only [V.names]; exact V.names_mem hx hn
  | _ => (cases i <;> simp [V.cells] at hx); subst hx; exact hn
theorem HRel.step {B B' : Nat → Prop} {L : Loc} {w w' : World} {n : Nat} {o : HO} (hs : Step B w B' w') (hb : o.live → w'.heap[L.blk n]? = w.heap[L.blk n]?)
    (h : HRel B L w n o) : HRel B' L w' n o := by
  cases h with
  | var v c t fr hw hfr hl h => exact .var v c t fr (by rw [hb trivial]; exact hw) hfr hl (fun i x y hx hy => (h i x y hx hy).step hs)
  | arr sz es c t fr hw hfr hz hsz hcap hle hss hf h =>
    exact .arr sz es c t fr (by rw [hb trivial]; exact hw) hfr hz hsz hcap hle hss hf (fun i x y hx hy => (h i x y hx hy).step hs)
  | mp ks vs ms clock hw hl hlv hk hv hn =>
    exact .mp ks vs ms clock (by rw [hb trivial]; exact hw) hl hlv (fun i x y hx hy => ⟨(hk i x y hx hy).1.step hs, (hk i x y hx hy).2⟩) (fun i x y hx hy => (hv i x y hx hy).step hs) hn
  | dead => exact .dead
theorem HRel.loc {B : Nat → Prop} {L L' : Loc} {w : World} {n : Nat} {o : HO} (hn : o.live → L'.blk n = L.blk n ∧ L'.sz n = L.sz n ∧ L'.cap n = L.cap n)
    (he : ∀ m ∈ o.names, L'.blk m = L.blk m ∧ L'.sz m = L.sz m ∧ L'.cap m = L.cap m) (h : HRel B L w n o) : HRel B L' w n o := by
  cases h with
  | var v c t fr hw hfr hl h =>
    exact .var v c t fr (by rw [(hn trivial).1]; exact hw) hfr hl (fun i x y hx hy => (h i x y hx hy).loc fun m hm => he m (V.names_cells hx hm))
  | arr sz es c t fr hw hfr hz hsz hcap hle hss hf h =>
    exact .arr sz es c t fr (by rw [(hn trivial).1]; exact hw) hfr hz (by rw [(hn trivial).2.1]; exact hsz) (by rw [(hn trivial).2.2]; exact hcap) (by rw [(hn trivial).2.2]; exact hle) hss hf h
  | mp ks vs ms clock hw hl hlv hk hv hb =>
    exact .mp ks vs ms clock (by rw [(hn trivial).1]; exact hw) hl hlv hk (fun i x y hx hy => (hv i x y hx hy).loc fun m hm => he m (by simp only [HO.names]; exact MV.mem_names hx hm)) hb
  | dead => exact .dead
def Heap.put : Heap → Nat → HO → Heap
  | [], 0, o => [o]
  | [], n + 1, o => .dead :: Heap.put [] n o
  | _ :: H, 0, o => o :: H
  | x :: H, n + 1, o => x :: Heap.put H n o
theorem Heap.at_put : ∀ (H : Heap) (n m : Nat) (o : HO), Heap.at (Heap.put H n o) m = if m = n then o else Heap.at H m
  | [], 0, 0, o => by simp [Heap.put, Heap.at]
  | [], 0, m + 1, o => by simp [Heap.put, Heap.at]
  | [], n + 1, 0, o => by simp [Heap.put, Heap.at]
  | [], n + 1, m + 1, o => by
    have := Heap.at_put [] n m o
    simp only [Heap.put, Heap.at, List.getElem?_cons_succ, Nat.add_right_cancel_iff] at this ⊢
    rw [this]; simp
  | x :: H, 0, 0, o => by simp [Heap.put, Heap.at]
  | x :: H, 0, m + 1, o => by simp [Heap.put, Heap.at]
  | x :: H, n + 1, 0, o => by simp [Heap.put, Heap.at]
  | x :: H, n + 1, m + 1, o => by
    have := Heap.at_put H n m o
    simp only [Heap.put, Heap.at, List.getElem?_cons_succ, Nat.add_right_cancel_iff] at this ⊢
    exact this
theorem Heap.at_put_same (H : Heap) (n : Nat) (o : HO) : Heap.at (Heap.put H n o) n = o := by simp [Heap.at_put]
theorem Heap.at_put_ne (H : Heap) {n m : Nat} (o : HO) (h : m ≠ n) : Heap.at (Heap.put H n o) m = Heap.at H m := by simp [Heap.at_put, h]
theorem St.upd {B : Nat → Prop} {L : Loc} {w w' : World} {H : Heap} {n : Nat} {o : HO} (h : St B L w H) (hn : (Heap.at H n).live) (hsize : w'.heap.size = w.heap.size)
    (hold : ∀ k, k ≠ L.blk n → w'.heap[k]? = w.heap[k]?) (ho : HRel B L w' n o) : St B L w' (Heap.put H n o) := by
  have hst : Step B w B w' := ⟨by omega, fun b _ hb => hold b (fun e => hb (e ▸ (h.own n hn).1)), fun _ _ x => x⟩
  constructor
  · intro m
    rw [Heap.at_put]
    split
    · rename_i e; subst e; exact ho
    · rename_i e
      refine (h.rel m).step hst fun hm => hold _ fun hb => e (h.inj m n hm hn hb)
  · intro m hm
    rw [Heap.at_put] at hm
    split at hm
    · rename_i e; subst e; have := h.own m hn; exact ⟨this.1, by omega⟩
    · have := h.own m hm; exact ⟨this.1, by omega⟩
  · intro m k hm hk hb
    rw [Heap.at_put] at hm hk
    have hm' : (Heap.at H m).live := by split at hm <;> simp_all
    have hk' : (Heap.at H k).live := by split at hk <;> simp_all
    exact h.inj m k hm' hk' hb
  · intro b hb; have := h.bnd b hb; omega
def Loc.lay (L : Loc) (n b s c : Nat) : Loc :=
  { blk := fun m => if m = n then b else L.blk m, sz := fun m => if m = n then s else L.sz m, cap := fun m => if m = n then c else L.cap m }
theorem Loc.lay_ne (L : Loc) {n m : Nat} (b s c : Nat) (h : m ≠ n) : (L.lay n b s c).blk m = L.blk m ∧ (L.lay n b s c).sz m = L.sz m ∧ (L.lay n b s c).cap m = L.cap m := by
  simp [Loc.lay, h]
theorem Loc.lay_same (L : Loc) (n b s c : Nat) : (L.lay n b s c).blk n = b ∧ (L.lay n b s c).sz n = s ∧ (L.lay n b s c).cap n = c := by simp [Loc.lay]
theorem St.lay {B : Nat → Prop} {L : Loc} {w : World} {H : Heap} {n b s c : Nat} {o : HO} (h : St B L w H) (hfresh : ∀ m, n ∉ (Heap.at H m).names)
    (hb : B b) (hoth : ∀ m, m ≠ n → (Heap.at H m).live → L.blk m ≠ b) (ho : HRel B (L.lay n b s c) w n o) : St B (L.lay n b s c) w (Heap.put H n o) := by
  constructor
  · intro m
    rw [Heap.at_put]
    split
    · rename_i e; subst e; exact ho
    · rename_i e
      exact (h.rel m).loc (fun _ => L.lay_ne b s c e) fun k hk => L.lay_ne b s c (fun e => hfresh m (e ▸ hk))
  · intro m hm
    by_cases e : m = n
    · subst e; rw [(L.lay_same m b s c).1]; exact ⟨hb, h.bnd b hb⟩
    · rw [Heap.at_put_ne _ _ e] at hm; rw [(L.lay_ne b s c e).1]; exact h.own m hm
  · intro m k hm hk hbb
    by_cases e : m = n
    · by_cases e' : k = n
      · rw [e, e']
      · subst e; rw [(L.lay_same m b s c).1, (L.lay_ne b s c e').1] at hbb
        rw [Heap.at_put_ne _ _ e'] at hk
        exact absurd hbb.symm (hoth k e' hk)
    · by_cases e' : k = n
      · subst e'; rw [(L.lay_same k b s c).1, (L.lay_ne b s c e).1] at hbb
        rw [Heap.at_put_ne _ _ e] at hm
        exact absurd hbb (hoth m e hm)
      · rw [(L.lay_ne b s c e).1, (L.lay_ne b s c e').1] at hbb
        rw [Heap.at_put_ne _ _ e] at hm; rw [Heap.at_put_ne _ _ e'] at hk
        exact h.inj m k hm hk hbb
  · exact h.bnd
theorem alloc_size (w : World) (o : Obj) : (w.alloc o).heap.size = w.heap.size + 1 := by show (w.heap.push o).size = _; simp
def more (B : Nat → Prop) (b : Nat) : Nat → Prop := fun x => B x ∨ x = b
theorem step_alloc (B : Nat → Prop) (w : World) (o : Obj) : Step B w (more B w.heap.size) (w.alloc o) :=
  ⟨by rw [alloc_size]; omega, fun b hb _ => RowKit.Below.heap_alloc w o b hb, fun b hb h => h.elim id fun e => by omega⟩
theorem step_drew (B : Nat → Prop) (w : World) : Step B w B w.drew := ⟨Nat.le_refl _, fun _ _ _ => rfl, fun _ _ h => h⟩
theorem St.drew {B : Nat → Prop} {L : Loc} {w : World} {H : Heap} (h : St B L w H) : St B L w.drew H :=
  ⟨fun n => (h.rel n).step (step_drew B w) fun _ => rfl, h.own, h.inj, h.bnd⟩
theorem St.alloc {B : Nat → Prop} {L : Loc} {w : World} {H : Heap} {n s c : Nat} {o : HO} {ob : Obj} (h : St B L w H) (hfresh : ∀ m, n ∉ (Heap.at H m).names)
    (ho : HRel (more B w.heap.size) (L.lay n w.heap.size s c) (w.alloc ob) n o) : St (more B w.heap.size) (L.lay n w.heap.size s c) (w.alloc ob) (Heap.put H n o) := by
  have h1 : St (more B w.heap.size) L (w.alloc ob) H := by
    constructor
    · intro m
      exact (h.rel m).step (step_alloc B w ob) fun hm => RowKit.Below.heap_alloc w ob _ (h.own m hm).2
    · intro m hm; have := h.own m hm; exact ⟨.inl this.1, by rw [alloc_size]; omega⟩
    · exact h.inj
    · intro b hb
      rcases hb with hb | hb
      · have := h.bnd b hb; rw [alloc_size]; omega
      · rw [alloc_size]; omega
  exact h1.lay hfresh (.inr rfl) (fun m _ hm e => by have := (h.own m hm).2; omega) ho
mutual
def V.kill (n : Nat) : V → V
  | .p d => .p d
  | .ptr m o => if m = n then .junk else .ptr m o
  | .eptr m i o => if m = n then .junk else .eptr m i o
  | .sl m o l => if m = n then .junk else .sl m o l
  | .mapr m => if m = n then .junk else .mapr m
  | .func f l => .func f (V.killL n l)
  | .agg l => .agg (V.killL n l)
  | .tup l => .tup (V.killL n l)
  | .iface t v => .iface t (v.kill n)
  | .junk => .junk
def V.killL (n : Nat) : List V → List V
  | [] => []
  | x :: l => x.kill n :: V.killL n l
end
theorem V.killL_eq (n : Nat) : ∀ l : List V, V.killL n l = l.map (V.kill n)
  | [] => rfl
  | x :: l => by simp [V.killL, V.killL_eq n l]
mutual
theorem V.kill_names (n : Nat) : ∀ (v : V), n ∉ (v.kill n).names
  | .p d => by simp [V.kill, V.names]
  | .ptr m o => by by_cases h : m = n <;> simp [V.kill, V.names, h]; exact fun e => h e.symm
  | .eptr m i o => by by_cases h : m = n <;> simp [V.kill, V.names, h]; exact fun e => h e.symm
  | .sl m o l => by by_cases h : m = n <;> simp [V.kill, V.names, h]; exact fun e => h e.symm
  | .mapr m => by by_cases h : m = n <;> simp [V.kill, V.names, h]; exact fun e => h e.symm
  | .func f l => by simp only [V.kill, V.names]; exact V.killL_names n l
  | .agg l => by simp only [V.kill, V.names]; exact V.killL_names n l
  | .tup l => by simp only [V.kill, V.names]; exact V.killL_names n l
  | .iface t v => by simp only [V.kill, V.names]; exact V.kill_names n v
  | .junk => by simp [V.kill, V.names]
theorem V.killL_names (n : Nat) : ∀ (l : List V), n ∉ V.namesL (V.killL n l)
  | [] => by simp [V.killL, V.namesL]
  | x :: l => by
    simp only [V.killL, V.namesL, List.mem_append, not_or]
    exact ⟨V.kill_names n x, V.killL_names n l⟩
end
theorem VRel.kill {B : Nat → Prop} {L : Loc} {w : World} {d : V} {v : Value} (n : Nat) (h : VRel B L w d v) : VRel B L w (d.kill n) v := by
  induction h with
  | p d v h => exact .p d v h
  | ptr m off => simp only [V.kill]; split; exact .junk _; exact .ptr m off
  | eptr m i off => simp only [V.kill]; split; exact .junk _; exact .eptr m i off
  | sl m off len cap h hl => simp only [V.kill]; split; exact .junk _; exact .sl m off len cap h hl
  | sl0 m off a h => simp only [V.kill]; split; exact .junk _; exact .sl0 m off a h
  | mapr m => simp only [V.kill]; split; exact .junk _; exact .mapr m
  | func f l c hl _ ih =>
    simp only [V.kill, V.killL_eq]
    exact .func f _ c (by simpa using hl) (fun i x y hx hy => by
      simp only [List.getElem?_map, Option.map_eq_some_iff] at hx
      obtain ⟨z, hz, rfl⟩ := hx; exact ih i z y hz hy)
  | agg l c hl _ ih =>
    simp only [V.kill, V.killL_eq]
    exact .agg _ c (by simpa using hl) (fun i x y hx hy => by
      simp only [List.getElem?_map, Option.map_eq_some_iff] at hx
      obtain ⟨z, hz, rfl⟩ := hx; exact ih i z y hz hy)
  | tup l c hl _ ih =>
    simp only [V.kill, V.killL_eq]
    exact .tup _ c (by simpa using hl) (fun i x y hx hy => by
      simp only [List.getElem?_map, Option.map_eq_some_iff] at hx
      obtain ⟨z, hz, rfl⟩ := hx; exact ih i z y hz hy)
  | iface t d v _ ih => exact .iface t _ v ih
  | junk v => exact .junk v
theorem V.kill_cells (n : Nat) (v : V) : (v.kill n).cells = v.cells.map (V.kill n) := by
  cases v with
  | p d => cases d <;> simp [V.kill, V.cells, Function.comp_def]
  | agg l => simp [V.kill, V.cells, V.killL_eq]
  | ptr m o => by_cases h : m = n <;> simp [V.kill, V.cells, h]
  | eptr m i o => by_cases h : m = n <;> simp [V.kill, V.cells, h]
  | sl m o l => by_cases h : m = n <;> simp [V.kill, V.cells, h]
  | mapr m => by_cases h : m = n <;> simp [V.kill, V.cells, h]
  | _ => simp [V.kill, V.cells]
def HO.kill (n : Nat) : HO → HO
  | .var t v => .var t (v.kill n)
  | .mp ks vs => .mp ks (vs.map (V.kill n))
  | o => o
theorem HO.kill_names (n : Nat) (o : HO) : n ∉ (o.kill n).names := by
  cases o with
  | var t v => exact V.kill_names n v
  | mp ks vs => cases vs with
    | pure l => simp [HO.kill, HO.names, MV.map, MV.names]
    | any vs => simp only [HO.kill, HO.names, MV.map, MV.names, ← V.killL_eq]; exact V.killL_names n vs
  | _ => simp [HO.kill, HO.names]
theorem HO.kill_live (n : Nat) (o : HO) : (o.kill n).live ↔ o.live := by cases o <;> simp [HO.kill, HO.live]
theorem HRel.kill {B : Nat → Prop} {L : Loc} {w : World} {m : Nat} {o : HO} (n : Nat) (h : HRel B L w m o) : HRel B L w m (o.kill n) := by
  cases h with
  | var v c t fr hw hfr hl h =>
    exact .var _ c t fr hw hfr (by rw [V.kill_cells]; simpa using hl) (fun i x y hx hy => by
      rw [V.kill_cells] at hx
      simp only [List.getElem?_map, Option.map_eq_some_iff] at hx
      obtain ⟨z, hz, rfl⟩ := hx; exact (h i z y hz hy).kill n)
  | arr sz es c t fr hw hfr hz hsz hcap hle hss hf h => exact .arr sz es c t fr hw hfr hz hsz hcap hle hss hf h
  | mp ks vs ms clock hw hl hlv hk hv hb =>
    exact .mp ks _ ms clock hw hl (by rw [MV.map_length]; exact hlv) hk (fun i x y hx hy => by
      rw [MV.toL_map (fun _ => rfl)] at hx
      simp only [List.getElem?_map, Option.map_eq_some_iff] at hx
      obtain ⟨z, hz, rfl⟩ := hx; exact (hv i z y hz hy).kill n) hb
  | dead => exact .dead
def Heap.kill (n : Nat) (H : Heap) : Heap := H.map (HO.kill n)
theorem Heap.at_kill (n : Nat) (H : Heap) (m : Nat) : Heap.at (Heap.kill n H) m = (Heap.at H m).kill n := by
  simp only [Heap.at, Heap.kill, List.getElem?_map]
  cases H[m]? <;> simp [HO.kill]
theorem St.kill {B : Nat → Prop} {L : Loc} {w : World} {H : Heap} (n : Nat) (h : St B L w H) : St B L w (Heap.kill n H) := by
  refine ⟨fun m => ?_, fun m hm => ?_, fun m k hm hk hb => ?_, h.bnd⟩
  · rw [Heap.at_kill]; exact (h.rel m).kill n
  · rw [Heap.at_kill, HO.kill_live] at hm; exact h.own m hm
  · rw [Heap.at_kill, HO.kill_live] at hm hk; exact h.inj m k hm hk hb
def ofConst0 : Value → Option PV
  | .bool b => some (.bool b)
  | .int k n => some (.int k n)
  | .string s => some (.str s.data.toList)
  | .pointer none => some .nilptr
  | .slice none 0 0 => some .nils
  | .map none => some .nilmap
  | .nilFunc => some .nilfunc
  | .nilIface => some .nili
  | _ => none
def ofConstL : List Value → Option (List PV)
  | [] => some []
  | v :: l => match ofConst0 v, ofConstL l with
    | some d, some ds => some (d :: ds)
    | _, _ => none
def ofConst : Value → Option PV
  | .agg cs => (ofConstL cs.toList).map .agg
  | v => ofConst0 v
def PV.sub (d : PV) (off n : Nat) (agg : Bool) : Option PV :=
  if off = 0 ∧ n = d.cells.length ∧ agg = d.isAgg then some d
  else if agg = true then (if off + n ≤ d.cells.length then some (.agg ((d.cells.drop off).take n)) else none)
  else d.cells[off]?
def V.isAgg : V → Bool
  | .p d => d.isAgg
  | .agg _ => true
  | _ => false
def allP : List V → Option (List PV)
  | [] => some []
  | .p d :: l => (allP l).map (d :: ·)
  | _ :: _ => none
def V.mk (l : List V) : V :=
  match allP l with
  | some ds => if ds.all PV.leaf then .p (.agg ds) else .agg l
  | none => .agg l
def V.sub (v : V) (off n : Nat) (agg : Bool) : Option V :=
  match v with
  | .p d => (d.sub off n agg).map .p
  | v =>
    if off = 0 ∧ n = v.cells.length ∧ agg = v.isAgg then some v
    else if agg = true then (if off + n ≤ v.cells.length then some (V.mk ((v.cells.drop off).take n)) else none)
    else v.cells[off]?
def V.storable (v : V) : Bool := v.cells.all V.leaf
def PV.put (d : PV) (off : Nat) (x : PV) : Option PV :=
  if off = 0 ∧ x.cells.length = d.cells.length ∧ x.isAgg = d.isAgg then some x
  else if off + x.cells.length ≤ d.cells.length then some (.agg (d.cells.take off ++ x.cells ++ d.cells.drop (off + x.cells.length))) else none
def V.put (v : V) (off : Nat) (x : V) : Option V :=
  if off = 0 ∧ x.cells.length = v.cells.length ∧ x.isAgg = v.isAgg then some x
  else if off + x.cells.length ≤ v.cells.length then some (V.mk (v.cells.take off ++ x.cells ++ v.cells.drop (off + x.cells.length))) else none
def isRowT (P : Program) (t : TypeId) : Option Bool := (P.underlying t).map TypeDesc.isRow
def szT (P : Program) (t : TypeId) : Option Nat := (P.info? t).map (·.size)
def byT (P : Program) (t : TypeId) : Option Nat := (P.info? t).map (·.bytes)
def zeroT (P : Program) (t : TypeId) : Option PV := ((P.info? t).bind (·.zero)).bind ofConst
def elemT (P : Program) (t : TypeId) : Option TypeId := match P.underlying t with | some (.slice e) => some e | _ => none
def fieldT (P : Program) (s : TypeId) (f : Nat) : Option (Nat × Nat × Bool) :=
  match P.underlying s with
  | some (.struct fs) => match fs[f]? with
    | some g => match isRowT P g.type, szT P g.type with
      | some r, some n => some (g.offset, n, r)
      | _, _ => none
    | none => none
  | _ => none
inductive Eff where
  | none
  | new (o : HO)
  | upd (n : Nat) (o : HO)
  | repoint (n : Nat) (o : HO)
def Eff.isNew : Eff → Bool
  | .new _ => true
  | _ => false
structure Res where
  val : V
  eff : Eff
def pureR (v : V) : Option Res := some ⟨v, .none⟩
def maxInt : Nat := 9223372036854775807
def intOp (op : BinOp) (k : IntKind) (a b : Int) : Option PV :=
  match op with
  | .add => some (.int k (k.wrap (a + b)))
  | .sub => some (.int k (k.wrap (a - b)))
  | .mul => some (.int k (k.wrap (a * b)))
  | .quo => if b = 0 then none else some (.int k (k.wrap (a.tdiv b)))
  | .rem => if b = 0 then none else some (.int k (a.tmod b))
  | .and => some (.int k (k.wrap (BitVec.ofInt k.bits a &&& BitVec.ofInt k.bits b).toNat))
  | .or => some (.int k (k.wrap (BitVec.ofInt k.bits a ||| BitVec.ofInt k.bits b).toNat))
  | .xor => some (.int k (k.wrap (BitVec.ofInt k.bits a ^^^ BitVec.ofInt k.bits b).toNat))
  | .andNot => some (.int k (k.wrap (BitVec.ofInt k.bits a &&& ~~~ BitVec.ofInt k.bits b).toNat))
  | .eql => some (.bool (a == b))
  | .neq => some (.bool (a != b))
  | .lss => some (.bool (a < b))
  | .leq => some (.bool (a ≤ b))
  | .gtr => some (.bool (a > b))
  | .geq => some (.bool (a ≥ b))
  | _ => none
def shiftOp (op : BinOp) (k : IntKind) (a b : Int) : Option PV :=
  if b < 0 then none else
  match op with
  | .shl => some (.int k (k.wrap (a * 2 ^ (min b.toNat k.bits))))
  | .shr => some (.int k (a.fdiv (2 ^ (min b.toNat k.bits))))
  | _ => none
def strOp (op : BinOp) (a b : List UInt8) : Option PV :=
  match op with
  | .add => if a.length + b.length ≤ maxInt then some (.str (a ++ b)) else none
  | .eql => some (.bool (a == b))
  | .neq => some (.bool !(a == b))
  | .lss => some (.bool (Op.bytesLess a b))
  | .leq => some (.bool (Op.bytesLess a b || a == b))
  | .gtr => some (.bool !(Op.bytesLess a b || a == b))
  | .geq => some (.bool !(Op.bytesLess a b))
  | _ => none
def ptrEq : V → V → Option Bool
  | .p .nilptr, .p .nilptr => some true
  | .p .nilptr, .ptr _ _ => some false
  | .p .nilptr, .eptr _ _ _ => some false
  | .p .nilptr, .p (.cptr _) => some false
  | .ptr _ _, .p .nilptr => some false
  | .eptr _ _ _, .p .nilptr => some false
  | .p (.cptr _), .p .nilptr => some false
  | _, _ => none
def isPtrT (P : Program) (t : TypeId) : Bool := match P.underlying t with | some (.pointer _) => true | _ => false
def isBoolT (P : Program) (t : TypeId) : Bool := match P.underlying t with | some .bool => true | _ => false
def binA (P : Program) (op : BinOp) (t : TypeId) (x y : V) : Option PV :=
  match x, y with
  | .p (.int k a), .p (.int k' b) =>
    match op with
    | .shl | .shr => shiftOp op k a b
    | op => if k = k' then intOp op k a b else none
  | .p (.str a), .p (.str b) => strOp op a b
  | .p (.bool a), .p (.bool b) =>
    match op with
    | .eql => if isBoolT P t = true then some (.bool (a == b)) else none
    | .neq => if isBoolT P t = true then some (.bool (!(a == b))) else none
    | _ => none
  | x, y =>
    match op with
    | .eql => if isPtrT P t = true then (ptrEq x y).map .bool else none
    | .neq => if isPtrT P t = true then (ptrEq x y).map fun b => .bool (!b) else none
    | _ => none
def unA (op : UnOp) (x : V) : Option PV :=
  match op, x with
  | .not, .p (.bool b) => some (.bool !b)
  | .neg, .p (.int k n) => intOp .sub k 0 n
  | .xor, .p (.int k n) => intOp .xor k (if k.signed then -1 else k.max) n
  | _, _ => none
def bytesOf : List PV → Option (List UInt8)
  | [] => some []
  | .int .u8 n :: l => (bytesOf l).map (UInt8.ofNat n.toNat :: ·)
  | _ :: _ => none
def byteP (b : UInt8) : PV := .int .u8 b.toNat
def isU8 (P : Program) (t : TypeId) : Bool := match P.underlying t with | some (.int .u8) => true | _ => false
def V.nn (v : V) : V := match v with | .p .nils => .p (.lst true []) | v => v
def elems (H : Nat → HO) : V → Option (List PV)
  | .p (.lst _ l) => some l
  | .p .nils => some []
  | .p .emp => some []
  | .sl n off len => match H n with
    | .arr _ _ es => if off + len ≤ es.length then some ((es.drop off).take len) else none
    | _ => none
  | _ => none
def lenV (P : Program) (H : Nat → HO) (t : TypeId) (x : V) : Option Nat :=
  match P.underlying t, x with
  | some (.slice _), .p (.lst _ l) => some l.length
  | some (.slice _), .p .nils => some 0
  | some (.slice _), .p .emp => some 0
  | some (.slice _), .sl _ _ len => some len
  | some .string, .p (.str s) => some s.length
  | some (.map _ _), .mapr n => (match H n with | .mp ks _ => some ks.length | _ => none)
  | some (.map _ _), .p .nilmap => some 0
  | _, _ => none
def idxI (v : V) : Option Int := match v with | .p (.int _ n) => some n | _ => none
def fillA (place : Nat → Option (Nat × Nat)) (cells : List V) : List (Nat × V) → Option (List V)
  | [] => some cells
  | (i, v) :: rest =>
    match place i with
    | none => none
    | some (off, size) =>
      if v.cells.length = size ∧ off + size ≤ cells.length then fillA place (cells.take off ++ v.cells ++ cells.drop (off + size)) rest else none
def placeT (P : Program) (t : TypeId) : Option (Nat → Option (Nat × Nat)) :=
  match P.underlying t with
  | some (.struct fs) => (fs.toList.mapM (fun f => (P.info? f.type).map fun i => (f.offset, i.size))).map fun ps i => ps[i]?
  | some (.array _ e) => (szT P e).map fun n i => some (i * n, n)
  | _ => none
def buildA (P : Program) (t : TypeId) (parts : List (Nat × V)) : Option V :=
  match zeroT P t, placeT P t with
  | some z, some pl => (fillA pl (z.cells.map .p) parts).map V.mk
  | _, _ => none
def partsL : Nat → List (Nat × V) → Option (List PV)
  | _, [] => some []
  | k, (i, .p d) :: rest => if i = k then (match partsL (k + 1) rest with | some ds => some (d :: ds) | none => none) else none
  | _, _ => none
def maxBytes : Nat := 281474976710656
def V.isJunk : V → Bool
  | .junk => true
  | _ => false
def loadA (P : Program) (H : Nat → HO) (t : TypeId) (a : V) : Option V :=
  match isRowT P t, szT P t with
  | some agg, some n =>
    match a with
    | .p (.cptr d) => (d.sub 0 n agg).map .p
    | .ptr m off => match H m with
      | .var _ v => v.sub off n agg
      | _ => none
    | .eptr m i off => match H m with
      | .arr _ _ es => match es[i]? with
        | some x => (x.sub off n agg).map .p
        | none => none
      | _ => none
    | _ => none
  | _, _ => none
def storeA (P : Program) (H : Nat → HO) (t : TypeId) (a x : V) : Option Eff :=
  match szT P t with
  | some n =>
    if x.cells.length = n ∧ x.storable = true then
      match a with
      | .ptr m off => match H m with
        | .var t v => (v.put off x).map fun v' => .upd m (.var t v')
        | _ => none
      | .eptr m i off => match H m, x with
        | .arr ty sz es, .p d => match es[i]? with
          | some y => (y.put off d).map fun y' => .upd m (.arr ty sz (es.set i y'))
          | none => none
        | _, _ => none
      | _ => none
    else none
  | none => none
def fieldAddrA (P : Program) (s : TypeId) (a : V) (f : Nat) : Option V :=
  match fieldT P s f with
  | some (o, n, agg) =>
    if n = 0 then none else
    match a with
    | .p (.cptr d) => (d.sub o n agg).map fun x => .p (.cptr x)
    | .ptr m off => some (.ptr m (off + o))
    | .eptr m i off => some (.eptr m i (off + o))
    | _ => none
  | none => none
def fieldA (P : Program) (s : TypeId) (v : V) (f : Nat) : Option V :=
  match fieldT P s f with
  | some (o, n, agg) => if v.isAgg = true then v.sub o n agg else none
  | none => none
def indexAddrA (P : Program) (H : Nat → HO) (t : TypeId) (x : V) (i : V) : Option V :=
  match idxI i with
  | some i =>
    match P.underlying t with
    | some (.slice e) =>
      match x with
      | .p (.lst _ l) => if 0 ≤ i then (match l[i.toNat]?, szT P e with | some d, some n => if d.cells.length = n then some (.p (.cptr d)) else none | _, _ => none) else none
      | .sl m off len => if 0 ≤ i ∧ i < len then (match H m with
        | .arr _ sz _ => if szT P e = some sz then some (.eptr m (off + i.toNat) 0) else none
        | _ => none) else none
      | _ => none
    | some (.array len e) =>
      match szT P e with
      | some n =>
        if 0 ≤ i ∧ i < len then
          match x with
          | .ptr m off => some (.ptr m (off + i.toNat * n))
          | .p (.cptr d) => match isRowT P e with
            | some agg => if i.toNat * n + n ≤ d.cells.length then (d.sub (i.toNat * n) n agg).map fun y => .p (.cptr y) else none
            | none => none
          | _ => none
        else none
      | none => none
    | _ => none
  | none => none
def indexA (P : Program) (t : TypeId) (x : V) (i : V) : Option V :=
  match idxI i with
  | some i =>
    if 0 ≤ i then
      match P.underlying t, x with
      | some .string, .p (.str s) => (s[i.toNat]?).map fun b => .p (byteP b)
      | some (.array len e), v =>
        if i < len ∧ v.isAgg = true then
          match isRowT P e, szT P e with
          | some agg, some n => v.sub (i.toNat * n) n agg
          | _, _ => none
        else none
      | _, _ => none
    else none
  | none => none
def boundsA (len cap : Nat) (lo hi : Option V) : Option (Nat × Nat) :=
  match (match hi with | some v => idxI v | none => some (len : Int)), (match lo with | some v => idxI v | none => some 0) with
  | some h, some l => if 0 ≤ l ∧ l ≤ h ∧ h ≤ cap then some (l.toNat, h.toNat) else none
  | _, _ => none
def sliceA (P : Program) (H : Nat → HO) (t : TypeId) (x : V) (lo hi mx : Option V) : Option V :=
  match P.underlying t, x.nn, mx with
  | some .string, .p (.str s), none =>
    (boundsA s.length s.length lo hi).map fun (l, h) => .p (.str ((s.drop l).take (h - l)))
  | some (.slice e), .p (.lst ex xs), none =>
    match szT P e with
    | some n => if ∀ x ∈ xs, x.cells.length = n then (boundsA xs.length xs.length lo hi).map fun (l, h) => .p (.lst (ex && h == xs.length) ((xs.drop l).take (h - l))) else none
    | none => none
  | some (.slice e), .p (.lst _ xs), some m =>
    match idxI m, szT P e with
    | some m, some n => match boundsA xs.length m.toNat lo hi with
      | some (l, h) => if h ≤ xs.length ∧ m = h ∧ hi.isSome = true ∧ ∀ x ∈ xs, x.cells.length = n then some (.p (.lst true ((xs.drop l).take (h - l)))) else none
      | none => none
    | _, _ => none
  | some (.slice e), .sl n off len, none =>
    match H n with
    | .arr _ sz es => if szT P e = some sz then (boundsA len (max len (es.length - off)) lo hi).map fun (l, h) => .sl n (off + l) (h - l) else none
    | _ => none
  | some (.slice e), .sl n off len, some m =>
    match H n, idxI m with
    | .arr _ sz es, some m => if szT P e = some sz ∧ hi.isSome = true ∧ 0 ≤ m ∧ m ≤ (max len (es.length - off) : Nat) then (boundsA len m.toNat lo hi).map fun _ => .junk else none
    | _, _ => none
  | _, _, _ => none
def convA (P : Program) (src dst : TypeId) (x : V) (H : Nat → HO) : Option Res :=
  match P.underlying src, P.underlying dst, x with
  | some (.int _), some (.int k), .p (.int _ n) => pureR (.p (.int k (k.wrap n)))
  | some .string, some .string, .p (.str s) => pureR (.p (.str s))
  | some (.slice e), some .string, x =>
    if isU8 P e = true then
      match elems H x with
      | some l => (bytesOf l).bind fun s => pureR (.p (.str s))
      | none => none
    else none
  | _, _, _ => none
def bytesA (P : Program) (base : Nat) (src dst : TypeId) (x : V) : Option Res :=
  match P.underlying src, P.underlying dst, x with
  | some .string, some (.slice e), .p (.str s) => if isU8 P e = true then some ⟨.sl base 0 s.length, .new (.arr e 1 (s.map byteP))⟩ else none
  | _, _, _ => none
def srcA (P : Program) (H : Nat → HO) (tx : TypeId) (x : V) : Option (List PV) :=
  match P.underlying tx, x with
  | some (.slice _), x => elems H x
  | some .string, .p (.str s) => some (s.map byteP)
  | _, _ => none
def appendA (P : Program) (H : Nat → HO) (base : Nat) (t tx : TypeId) (s x : V) : Option Res :=
  match P.underlying t with
  | some (.slice e) =>
    match szT P e, byT P e, zeroT P e, srcA P H tx x with
    | some sz, some by_, some z, some news =>
      if 1 ≤ sz ∧ 1 ≤ by_ ∧ z.cells.length = sz ∧ (∀ y ∈ news, y.cells.length = sz) then
        match s.nn with
        | .p (.lst true l) =>
          if (l.length + news.length) * (2 * by_) ≤ maxBytes ∧ news ≠ [] ∧ (∀ y ∈ l, y.cells.length = sz) then some ⟨.sl base 0 (l.length + news.length), .new (.arr e sz (l ++ news))⟩ else none
        | .sl n 0 len => match H n with
          | .arr ty sz' es =>
            if ty = e ∧ sz' = sz ∧ len = es.length ∧ (len + news.length) * (2 * by_) ≤ maxBytes then some ⟨.sl n 0 (len + news.length), .repoint n (.arr e sz (es ++ news))⟩ else
            if ty = e ∧ sz' = sz ∧ ¬ len = es.length ∧ len + news.length ≤ es.length then some ⟨.sl n 0 (len + news.length), .repoint n (.arr e sz (es.take len ++ (news ++ es.drop (len + news.length))))⟩ else none
          | _ => none
        | _ => none
      else none
    | _, _, _, _ => none
  | _ => none
def aop (P : Program) (H : Nat → HO) (base : Nat) (ev : Operand → V) (op : Op) : Option Res :=
  match op with
  | .move x | .assign x => pureR (ev x)
  | .pick c a b => match ev c with
    | .p (.bool b') => match ev a, ev b with
      | .p (.bool x), .p (.bool y) => pureR (.p (.bool (if b' = true then x else y)))
      | x, y => pureR (if b' = true then x else y)
    | _ => none
  | .alloc t => match zeroT P t with
    | some z => some ⟨.ptr base 0, .new (.var t (.p z))⟩
    | none => none
  | .box t x => if (ev x).isJunk = true then none else some ⟨.ptr base 0, .new (.var t (ev x))⟩
  | .build t parts => if parts.toList.all (fun p => !(ev p.2).isJunk) = true then (buildA P t (parts.toList.map fun p => (p.1, ev p.2))).bind pureR else none
  | .buildSlice t len parts => match elemT P t with
    | some e => match szT P e, partsL 0 (parts.toList.map fun p => (p.1, ev p.2)) with
      | some n, some ds => if ds.length = len ∧ 1 ≤ n ∧ len * n ≤ 16777216 ∧ (∀ y ∈ ds, y.cells.length = n ∧ ∀ c ∈ y.cells, c.leaf = true) ∧ (zeroT P e).isSome then some ⟨.sl base 0 len, .new (.arr e n ds)⟩ else none
      | _, _ => none
    | none => none
  | .load t a => (loadA P H t (ev a)).bind pureR
  | .store t a x => (storeA P H t (ev a) (ev x)).map fun e => ⟨.p (.tup []), e⟩
  | .nilCheck x => match ev x with
    | .ptr n off => pureR (.ptr n off)
    | .eptr n i off => pureR (.eptr n i off)
    | .p (.cptr d) => pureR (.p (.cptr d))
    | .p (.fn (.func f)) => pureR (.p (.fn (.func f)))
    | .func (.func f) l => pureR (.func (.func f) l)
    | _ => none
  | .binOp o t x y _ => (binA P o t (ev x) (ev y)).bind fun d => pureR (.p d)
  | .unOp o _ x => (unA o (ev x)).bind fun d => pureR (.p d)
  | .convert a b x => match convA P a b (ev x) H with
    | some r => some r
    | none => bytesA P base a b (ev x)
  | .makeFunc (.func f) first captured => if first.isEmpty = true then (if captured.isEmpty = true then pureR (.p (.fn (.func f))) else pureR (.func (.func f) (captured.toList.map ev))) else none
  | .makeSlice t l c => match elemT P t, idxI (ev l), idxI (ev c) with
    | some e, some l, some c => match szT P e, byT P e, zeroT P e with
      | some n, some by_, some z =>
        if 0 ≤ l ∧ l ≤ c ∧ (by_ : Int) * c ≤ maxBytes ∧ c ≤ maxInt ∧ 1 ≤ n ∧ z.cells.length = n then some ⟨.sl base 0 l.toNat, .new (.arr e n (List.replicate l.toNat z))⟩ else none
      | _, _, _ => none
    | _, _, _ => none
  | .slice t x lo hi mx => (sliceA P H t (ev x) (lo.map ev) (hi.map ev) (mx.map ev)).bind pureR
  | .fieldAddr s x f => (fieldAddrA P s (ev x) f).bind pureR
  | .field s x f => (fieldA P s (ev x) f).bind pureR
  | .indexAddr t x i => (indexAddrA P H t (ev x) (ev i)).bind pureR
  | .index t x i => (indexA P t (ev x) (ev i)).bind pureR
  | .extract t i => match ev t with
    | .tup l => (l[i]?).bind pureR
    | .p (.tup l) => (l[i]?).bind fun d => pureR (.p d)
    | _ => none
  | .call ⟨.builtin .len, args, ts⟩ => match args.toList, ts.toList with
    | [x], [t] => match P.underlying t with
      | some (.array n _) => pureR (.p (.int .i64 n))
      | _ => (lenV P H t (ev x)).bind fun n => pureR (.p (.int .i64 n))
    | _, _ => none
  | .call ⟨.builtin .append, args, ts⟩ => match args.toList, ts.toList with
    | [s, x], [t, tx] => appendA P H base t tx (ev s) (ev x)
    | _, _ => none
  | .call ⟨.builtin .min, args, _⟩ => match args.toList with
    | [x, y] => match ev x, ev y with
      | .p (.int k a), .p (.int _ b) => pureR (.p (.int k (if b < a then b else a)))
      | _, _ => none
    | _ => none
  | .call ⟨.builtin .max, args, _⟩ => match args.toList with
    | [x, y] => match ev x, ev y with
      | .p (.int k a), .p (.int _ b) => pureR (.p (.int k (if b > a then b else a)))
      | _, _ => none
    | _ => none
  | _ => none
end Go.Am
end

section
namespace Go.Am
open Go
def Eff.apply (H : Heap) (base : Nat) : Eff → Heap
  | .none => H
  | .new o => H.put base o
  | .upd n o => H.put n o
  | .repoint n o => (H.kill n).put n o
def Eff.moved (base : Nat) : Eff → Option Nat
  | .none => Option.none
  | .new _ => some base
  | .upd _ _ => Option.none
  | .repoint n _ => some n
def LocAgree (L L' : Loc) (m : Option Nat) : Prop := ∀ n, m ≠ some n → L'.blk n = L.blk n ∧ L'.sz n = L.sz n ∧ L'.cap n = L.cap n
theorem LocAgree.refl (L : Loc) (m : Option Nat) : LocAgree L L m := fun _ _ => ⟨rfl, rfl, rfl⟩
theorem LocAgree.lay (L : Loc) (n b s c : Nat) : LocAgree L (L.lay n b s c) (some n) := fun m hm => L.lay_ne b s c (fun e => hm (by rw [e]))
def Same (w w' : World) : Prop := w'.os = w.os ∧ w'.tape = w.tape ∧ w'.output = w.output
theorem Same.refl (w : World) : Same w w := ⟨rfl, rfl, rfl⟩
theorem Same.trans {a b c : World} (h : Same a b) (k : Same b c) : Same a c := ⟨k.1.trans h.1, k.2.1.trans h.2.1, k.2.2.trans h.2.2⟩
structure Tail (B : Nat → Prop) (L : Loc) (w : World) (H : Heap) (w' : World) (B' : Nat → Prop) (L' : Loc) : Prop where
  grow : ∀ b, B b → B' b
  own : ∀ b, b < w.heap.size → (∀ n, (Heap.at H n).live → L.blk n ≠ b) → w'.heap[b]? = w.heap[b]?
  far : ∀ n, L'.blk n = L.blk n ∨ w.heap.size ≤ L'.blk n
  sub : ∀ b, b < w.heap.size → B' b → B b
theorem Tail.refl (B : Nat → Prop) (L : Loc) (w : World) (H : Heap) : Tail B L w H w B L := ⟨fun _ h => h, fun _ _ _ => rfl, fun _ => .inl rfl, fun _ _ h => h⟩
theorem Tail.alloc (B : Nat → Prop) (L : Loc) (w : World) (H : Heap) (o : Obj) (n s c : Nat) : Tail B L w H (w.alloc o) (more B w.heap.size) (L.lay n w.heap.size s c) :=
  ⟨fun _ h => .inl h, fun b hb _ => RowKit.Below.heap_alloc w o b hb, fun m => by
    by_cases e : m = n
    · subst e; rw [(Loc.lay_same L m _ s c).1]; exact .inr (Nat.le_refl _)
    · rw [(L.lay_ne _ s c e).1]; exact .inl rfl, fun b hb h => h.elim id fun e => by omega⟩
theorem Tail.dalloc (B : Nat → Prop) (L : Loc) (w : World) (H : Heap) (o : Obj) (n s c : Nat) : Tail B L w H (w.drew.alloc o) (more B w.drew.heap.size) (L.lay n w.drew.heap.size s c) := by
  have h := Tail.alloc B L w.drew H o n s c
  exact ⟨h.grow, h.own, h.far, h.sub⟩
def EffOk (H : Heap) (w : World) (L' : Loc) (base : Nat) : Eff → Prop
  | .none => True
  | .new _ => w.heap.size ≤ L'.blk base
  | .upd n _ => (Heap.at H n).live
  | .repoint n _ => (Heap.at H n).live
theorem EffOk.lay (H : Heap) (w : World) (L : Loc) (base s c : Nat) (o : HO) : EffOk H w (L.lay base w.heap.size s c) base (.new o) := by
  simp only [EffOk]; rw [(Loc.lay_same L base _ s c).1]; exact Nat.le_refl _
theorem EffOk.dlay (H : Heap) (w : World) (L : Loc) (base s c : Nat) (o : HO) : EffOk H w (L.lay base w.drew.heap.size s c) base (.new o) := EffOk.lay H w.drew L base s c o
def Done (B : Nat → Prop) (L : Loc) (w : World) (H : Heap) (base : Nat) (r : Res) (R : Result Next) : Prop :=
  ∃ v w' B' L', (R = .ok (.value v) w' ∨ (R = .ok .skip w' ∧ v = undef)) ∧ Step B w B' w' ∧ Same w w' ∧ VRel B' L' w' r.val v ∧ St B' L' w' (r.eff.apply H base) ∧
    LocAgree L L' (r.eff.moved base) ∧ Tail B L w H w' B' L' ∧ EffOk H w L' base r.eff
theorem Done.same {B : Nat → Prop} {L : Loc} {w : World} {H : Heap} {base : Nat} {d : V} {v : Value} {R : Result Next} (hst : St B L w H) (hR : R = .ok (.value v) w) (hv : VRel B L w d v) :
    Done B L w H base ⟨d, .none⟩ R := ⟨v, w, B, L, .inl hR, Step.refl B w, Same.refl w, hv, hst, LocAgree.refl L _, Tail.refl B L w H, trivial⟩
section
variable {P : Program} {B : Nat → Prop} {L : Loc} {w : World}
def RelL (B : Nat → Prop) (w : World) (l : List PV) (c : List Value) : Prop := l.length = c.length ∧ ∀ (i : Nat) x y, l[i]? = some x → c[i]? = some y → PRel B w x y
def VRelL (B : Nat → Prop) (L : Loc) (w : World) (l : List V) (c : List Value) : Prop := l.length = c.length ∧ ∀ (i : Nat) x y, l[i]? = some x → c[i]? = some y → VRel B L w x y
theorem RelL.toV {l : List PV} {c : List Value} (h : RelL B w l c) : VRelL B L w (l.map .p) c :=
  ⟨by simpa using h.1, fun i x y hx hy => by
    simp only [List.getElem?_map, Option.map_eq_some_iff] at hx
    obtain ⟨z, hz, rfl⟩ := hx
    exact .p z y (h.2 i z y hz hy)⟩
theorem RelL.take {l : List PV} {c : List Value} (h : RelL B w l c) (n : Nat) : RelL B w (l.take n) (c.take n) :=
  ⟨by simp [h.1], fun i x y hx hy => by
    rw [List.getElem?_take] at hx hy
    split at hx
    · rename_i hi; rw [if_pos hi] at hy; exact h.2 i x y hx hy
    · cases hx⟩
theorem RelL.drop {l : List PV} {c : List Value} (h : RelL B w l c) (n : Nat) : RelL B w (l.drop n) (c.drop n) :=
  ⟨by simp [h.1], fun i x y hx hy => by
    rw [List.getElem?_drop] at hx hy
    exact h.2 _ x y hx hy⟩
theorem VRelL.take {l : List V} {c : List Value} (h : VRelL B L w l c) (n : Nat) : VRelL B L w (l.take n) (c.take n) :=
  ⟨by simp [h.1], fun i x y hx hy => by
    rw [List.getElem?_take] at hx hy
    split at hx
    · rename_i hi; rw [if_pos hi] at hy; exact h.2 i x y hx hy
    · cases hx⟩
theorem VRelL.drop {l : List V} {c : List Value} (h : VRelL B L w l c) (n : Nat) : VRelL B L w (l.drop n) (c.drop n) :=
  ⟨by simp [h.1], fun i x y hx hy => by
    rw [List.getElem?_drop] at hx hy
    exact h.2 _ x y hx hy⟩
theorem VRelL.append {l m : List V} {c d : List Value} (h : VRelL B L w l c) (k : VRelL B L w m d) : VRelL B L w (l ++ m) (c ++ d) :=
  ⟨by simp [h.1, k.1], fun i x y hx hy => by
    by_cases hi : i < l.length
    · rw [List.getElem?_append_left hi] at hx
      rw [List.getElem?_append_left (by rw [← h.1]; exact hi)] at hy
      exact h.2 i x y hx hy
    · rw [List.getElem?_append_right (by omega)] at hx
      rw [List.getElem?_append_right (by rw [← h.1]; omega), ← h.1] at hy
      exact k.2 _ x y hx hy⟩
theorem RelL.append {l m : List PV} {c d : List Value} (h : RelL B w l c) (k : RelL B w m d) : RelL B w (l ++ m) (c ++ d) :=
  ⟨by simp [h.1, k.1], fun i x y hx hy => by
    by_cases hi : i < l.length
    · rw [List.getElem?_append_left hi] at hx
      rw [List.getElem?_append_left (by rw [← h.1]; exact hi)] at hy
      exact h.2 i x y hx hy
    · rw [List.getElem?_append_right (by omega)] at hx
      rw [List.getElem?_append_right (by rw [← h.1]; omega), ← h.1] at hy
      exact k.2 _ x y hx hy⟩
theorem RelL.nil : RelL B w [] [] := ⟨rfl, fun i x y hx _ => by simp at hx⟩
theorem RelL.cons {x : PV} {y : Value} {l : List PV} {c : List Value} (h : PRel B w x y) (k : RelL B w l c) : RelL B w (x :: l) (y :: c) :=
  ⟨by simp [k.1], fun i a b ha hb => by
    cases i with
    | zero => simp at ha hb; subst ha; subst hb; exact h
    | succ i => simp at ha hb; exact k.2 i a b ha hb⟩
theorem VRelL.nil : VRelL B L w [] [] := ⟨rfl, fun i x y hx _ => by simp at hx⟩
theorem VRelL.cons {x : V} {y : Value} {l : List V} {c : List Value} (h : VRel B L w x y) (k : VRelL B L w l c) : VRelL B L w (x :: l) (y :: c) :=
  ⟨by simp [k.1], fun i a b ha hb => by
    cases i with
    | zero => simp at ha hb; subst ha; subst hb; exact h
    | succ i => simp at ha hb; exact k.2 i a b ha hb⟩
theorem PRel.cells {d : PV} {v : Value} (h : PRel B w d v) : RelL B w d.cells v.cells.toList := by
  cases h with
  | agg l c hl h => exact ⟨by simpa [PV.cells, Value.cells] using hl, by simpa [PV.cells, Value.cells] using h⟩
  | bool b => exact RelL.cons (.bool b) RelL.nil
  | int k n => exact RelL.cons (.int k n) RelL.nil
  | str s => exact RelL.cons (.str s) RelL.nil
  | tup l c hl h => exact RelL.cons (.tup l c hl h) RelL.nil
  | lst0 ex a cap he hn => exact RelL.cons (.lst0 ex a cap he hn) RelL.nil
  | lst ex l b o cap sz u hb hw hz hs hf hcap he hc hr => exact RelL.cons (.lst ex l b o cap sz u hb hw hz hs hf hcap he hc hr) RelL.nil
  | nilptr => exact RelL.cons .nilptr RelL.nil
  | nilmap => exact RelL.cons .nilmap RelL.nil
  | nilfunc => exact RelL.cons .nilfunc RelL.nil
  | nili => exact RelL.cons .nili RelL.nil
  | fn f => exact RelL.cons (.fn f) RelL.nil
  | iface t d v h => exact RelL.cons (.iface t d v h) RelL.nil
  | cptr d b o u hb hw hf hc hr => exact RelL.cons (.cptr d b o u hb hw hf hc hr) RelL.nil
  | anyp p => exact RelL.cons (.anyp p) RelL.nil
  | nils => exact RelL.cons .nils RelL.nil
  | emp a cap => exact RelL.cons (.emp a cap) RelL.nil
  | anyi k n => exact RelL.cons (.anyi k n) RelL.nil
theorem VRel.nn {v : V} {a : Value} (h : VRel B L w v a) : VRel B L w v.nn a := by
  unfold V.nn
  split
  · cases h with
    | p _ _ h => cases h; exact .p _ _ (.lst0 true none 0 (fun _ => rfl) (fun _ => rfl))
  · exact h
theorem VRel.cells {d : V} {v : Value} (h : VRel B L w d v) (hj : d ≠ .junk) : VRelL B L w d.cells v.cells.toList := by
  cases h with
  | p d v h =>
    have := (h.cells).toV (L := L)
    cases d <;> simpa [V.cells, PV.cells] using this
  | agg l c hl h => exact ⟨by simpa [V.cells, Value.cells] using hl, by simpa [V.cells, Value.cells] using h⟩
  | ptr n off => exact VRelL.cons (.ptr n off) VRelL.nil
  | eptr n i off => exact VRelL.cons (.eptr n i off) VRelL.nil
  | sl n off len cap h hl => exact VRelL.cons (.sl n off len cap h hl) VRelL.nil
  | sl0 n off a h => exact VRelL.cons (.sl0 n off a h) VRelL.nil
  | mapr n => exact VRelL.cons (.mapr n) VRelL.nil
  | func f l c hl h => exact VRelL.cons (.func f l c hl h) VRelL.nil
  | tup l c hl h => exact VRelL.cons (.tup l c hl h) VRelL.nil
  | iface t d v h => exact VRelL.cons (.iface t d v h) VRelL.nil
  | junk v => exact absurd rfl hj
theorem VRel.of_p {d : PV} {v : Value} (h : VRel B L w (.p d) v) : PRel B w d v := by cases h; assumption
theorem PRel.one {d : PV} {v : Value} (h : PRel B w d v) (hl : d.leaf = true) : v.oneCell' = true := by cases h <;> simp_all [PV.leaf, Value.oneCell']
theorem VRel.one {d : V} {v : Value} (h : VRel B L w d v) (hl : d.leaf = true) : v.oneCell' = true := by
  cases h with
  | p d v h => exact h.one hl
  | _ => simp_all [V.leaf, Value.oneCell']
theorem PRel.mkAgg {l : List PV} {c : List Value} (h : RelL B w l c) : PRel B w (.agg l) (.agg c.toArray) := .agg l c h.1 h.2
theorem allP_spec : ∀ {l : List V} {ds : List PV}, allP l = some ds → l = ds.map .p
  | [], ds, h => by simp [allP] at h; subst h; rfl
  | x :: l, ds, h => by
    cases x with
    | p d =>
      simp only [allP, Option.map_eq_some_iff] at h
      obtain ⟨e, he, rfl⟩ := h
      simp [allP_spec he]
    | _ => simp [allP] at h
theorem VRel.mk {l : List V} {c : List Value} (h : VRelL B L w l c) : VRel B L w (V.mk l) (.agg c.toArray) := by
  unfold V.mk
  split
  · rename_i ds hds
    have := allP_spec hds
    subst this
    split
    · refine .p _ _ (.agg ds c (by simpa using h.1) fun i x y hx hy => ?_)
      exact (h.2 i (.p x) y (by simp [hx]) hy).of_p
    · exact .agg _ c h.1 h.2
  · exact .agg _ c h.1 h.2
def Lies (B : Nat → Prop) (L : Loc) (w : World) (b o : Nat) (l : List V) : Prop := ∃ c : List Value, VRelL B L w l c ∧ w.rangeAt b o c
theorem Lies.drop {b o : Nat} {l : List V} (h : Lies B L w b o l) (n : Nat) : Lies B L w b (o + n) (l.drop n) := by
  obtain ⟨c, hc, hr⟩ := h
  refine ⟨c.drop n, hc.drop n, fun j v hv => ?_⟩
  rw [List.getElem?_drop] at hv
  have := hr _ v hv
  rw [show o + n + j = o + (n + j) by omega]; exact this
theorem Lies.take {b o : Nat} {l : List V} (h : Lies B L w b o l) (n : Nat) : Lies B L w b o (l.take n) := by
  obtain ⟨c, hc, hr⟩ := h
  refine ⟨c.take n, hc.take n, fun j v hv => ?_⟩
  rw [List.getElem?_take] at hv
  split at hv
  · exact hr j v hv
  · cases hv
theorem isRowT_some {t : TypeId} {agg : Bool} (h : isRowT P t = some agg) : ∃ d, P.underlying t = some d ∧ d.isRow = agg := by
  simp only [isRowT, Option.map_eq_some_iff] at h
  exact h
theorem szT_some {t : TypeId} {n : Nat} (h : szT P t = some n) : ∃ i, P.info? t = some i ∧ i.size = n := by
  simp only [szT, Option.map_eq_some_iff] at h
  exact h
theorem run_isAgg {t : TypeId} {d : TypeDesc} (h : P.underlying t = some d) (w : World) : (isAgg t).run P w = .ok d.isRow w := by
  unfold isAgg
  rw [Sem.run_bind, run_underlying h w]
  cases d <;> rfl
end
end Go.Am
end

section
namespace Go.Am
open Go
section
variable {P : Program} {B : Nat → Prop} {L : Loc} {w : World}
theorem load_agg {t : TypeId} {n : Nat} (ht : isRowT P t = some true) (hn : szT P t = some n) {b o : Nat} {l : List V} (h : Lies B L w b o l) (hl : l.length = n) :
    ∃ c : List Value, VRelL B L w l c ∧ (Instr.loadAt t (.pointer (some ⟨b, o, none⟩))).run P w = .ok (.agg c.toArray) w := by
  obtain ⟨c, hc, hr⟩ := h
  obtain ⟨d, hd, hda⟩ := isRowT_some ht
  exact ⟨c, hc, run_loadAt_mid w b o t c d hr hd hda (by rw [← szT, hn, ← hl, hc.1])⟩
theorem load_one {t : TypeId} (ht : isRowT P t = some false) {b o : Nat} {l : List V} (h : Lies B L w b o l) {x : V} (hx : l[0]? = some x) :
    ∃ y, VRel B L w x y ∧ (Instr.loadAt t (.pointer (some ⟨b, o, none⟩))).run P w = .ok y w := by
  obtain ⟨c, hc, hr⟩ := h
  obtain ⟨d, hd, hda⟩ := isRowT_some ht
  have h0 : 0 < c.length := by rw [← hc.1]; exact (List.getElem?_eq_some_iff.1 hx).1
  obtain ⟨y, hy⟩ : ∃ y, c[0]? = some y := ⟨c[0], List.getElem?_eq_getElem h0⟩
  refine ⟨y, hc.2 0 x y hx hy, ?_⟩
  have := hr 0 y hy
  simp only [Nat.add_zero] at this
  simp only [Instr.loadAt, Instr.sureAddr, Sem.run_bind, Sem.run_pure, Result.andThen_ok, loadVar, run_isAgg hd, hda]
  simp [this]
theorem PV.cells_agg {d : PV} (h : d.isAgg = true) : d = .agg d.cells := by cases d <;> simp_all [PV.isAgg, PV.cells]
theorem PV.cells_one {d : PV} (h : d.isAgg = false) : d.cells = [d] := by cases d <;> simp_all [PV.isAgg, PV.cells]
theorem V.cells_one {d : V} (h : d.isAgg = false) : d.cells = [d] := by
  cases d with
  | p d => cases d <;> simp_all [V.isAgg, PV.isAgg, V.cells]
  | _ => simp_all [V.isAgg, V.cells]
theorem V.cells_p (d : PV) : (V.p d).cells = d.cells.map .p := by cases d <;> rfl
theorem VRelL.toP {l : List PV} {c : List Value} (h : VRelL B L w (l.map .p) c) : RelL B w l c :=
  ⟨by simpa using h.1, fun i x y hx hy => (h.2 i (.p x) y (by simp [hx]) hy).of_p⟩
theorem load_psub {t : TypeId} {n off : Nat} {agg : Bool} (ht : isRowT P t = some agg) (hn : szT P t = some n) {b o : Nat} {d x : PV} (h : Lies B L w b o (d.cells.map .p)) (hx : d.sub off n agg = some x) :
    ∃ a, (Instr.loadAt t (.pointer (some ⟨b, o + off, none⟩))).run P w = .ok a w ∧ PRel B w x a := by
  unfold PV.sub at hx
  split at hx
  · rename_i hc
    obtain ⟨rfl, hlen, hagg⟩ := hc
    cases hx
    cases hd : d.isAgg with
    | true =>
      rw [hd] at hagg; subst hagg
      obtain ⟨c, hc, hr⟩ := load_agg ht hn h (by simpa using hlen.symm)
      exact ⟨_, hr, by rw [PV.cells_agg hd]; exact PRel.mkAgg hc.toP⟩
    | false =>
      rw [hd] at hagg; subst hagg
      obtain ⟨y, hy, hr⟩ := load_one ht h (x := .p d) (by rw [PV.cells_one hd]; rfl)
      exact ⟨_, hr, hy.of_p⟩
  · split at hx
    · rename_i hagg
      subst hagg
      split at hx
      · rename_i hle
        cases hx
        have := (h.drop off).take n
        rw [← List.map_drop, ← List.map_take] at this
        obtain ⟨c, hc, hr⟩ := load_agg ht hn this (by simp; omega)
        exact ⟨_, hr, PRel.mkAgg hc.toP⟩
      · cases hx
    · rename_i hagg
      have hagg : agg = false := by simpa using hagg
      subst hagg
      have := h.drop off
      obtain ⟨y, hy, hr⟩ := load_one ht this (x := .p x) (by rw [List.getElem?_drop]; simp [hx])
      exact ⟨_, hr, hy.of_p⟩
theorem load_vsub {t : TypeId} {n off : Nat} {agg : Bool} (ht : isRowT P t = some agg) (hn : szT P t = some n) {b o : Nat} {d x : V} (h : Lies B L w b o d.cells) (hx : d.sub off n agg = some x) :
    ∃ a, (Instr.loadAt t (.pointer (some ⟨b, o + off, none⟩))).run P w = .ok a w ∧ VRel B L w x a := by
  have main : (if off = 0 ∧ n = d.cells.length ∧ agg = d.isAgg then some d
    else if agg = true then (if off + n ≤ d.cells.length then some (V.mk ((d.cells.drop off).take n)) else none)
    else d.cells[off]?) = some x → (∀ e, d ≠ .p e) → ∃ a, (Instr.loadAt t (.pointer (some ⟨b, o + off, none⟩))).run P w = .ok a w ∧ VRel B L w x a := by
    clear hx
    intro hx hp
    split at hx
    · rename_i hc
      obtain ⟨rfl, hlen, hagg⟩ := hc
      cases hx
      cases hd : d.isAgg with
      | true =>
        rw [hd] at hagg; subst hagg
        obtain ⟨c, hc, hr⟩ := load_agg ht hn h hlen.symm
        refine ⟨_, hr, ?_⟩
        cases d with
        | agg l => exact .agg l c hc.1 hc.2
        | p e => exact absurd rfl (hp e)
        | _ => simp [V.isAgg] at hd
      | false =>
        rw [hd] at hagg; subst hagg
        obtain ⟨y, hy, hr⟩ := load_one ht h (x := d) (by rw [V.cells_one hd]; rfl)
        exact ⟨_, hr, hy⟩
    · split at hx
      · rename_i hagg
        subst hagg
        split at hx
        · rename_i hle
          cases hx
          obtain ⟨c, hc, hr⟩ := load_agg ht hn ((h.drop off).take n) (by simp; omega)
          exact ⟨_, hr, VRel.mk hc⟩
        · cases hx
      · rename_i hagg
        have hagg : agg = false := by simpa using hagg
        subst hagg
        obtain ⟨y, hy, hr⟩ := load_one ht (h.drop off) (x := x) (by rw [List.getElem?_drop]; simpa using hx)
        exact ⟨_, hr, hy⟩
  cases d with
  | p e =>
    simp only [V.sub, Option.map_eq_some_iff] at hx
    obtain ⟨y, hy, rfl⟩ := hx
    rw [V.cells_p] at h
    obtain ⟨a, ha, hr⟩ := load_psub ht hn h hy
    exact ⟨a, ha, .p _ _ hr⟩
  | _ => exact main hx (fun e => by simp)
theorem list_of (u : Nat → Value) (n : Nat) : ∃ c : List Value, c.length = n ∧ ∀ k, k < n → c[k]? = some (u k) :=
  ⟨(List.range n).map u, by simp, fun k hk => by simp [hk]⟩
theorem PRel.cptr_lies {d : PV} {v : Value} (h : PRel B w (.cptr d) v) : ∃ b o, v = .pointer (some ⟨b, o, none⟩) ∧ Lies B L w b o (d.cells.map .p) := by
  cases h with
  | cptr d b o u hb hw hf hc hr =>
    refine ⟨b, o, rfl, ?_⟩
    obtain ⟨c, hcl, hcu⟩ := list_of u d.cells.length
    refine ⟨c, ⟨by simp [hcl], fun i x y hx hy => ?_⟩, fun j v hv => ?_⟩
    · simp only [List.getElem?_map, Option.map_eq_some_iff] at hx
      obtain ⟨z, hz, rfl⟩ := hx
      have hi := (List.getElem?_eq_some_iff.1 hz).1
      rw [hcu i hi] at hy; cases hy
      exact .p z _ (hr i z hz)
    · have hj : j < d.cells.length := by rw [← hcl]; exact (List.getElem?_eq_some_iff.1 hv).1
      rw [hcu j hj] at hv; cases hv
      exact hc j hj
theorem Lies.of_block {b : Nat} {l : List V} {c : Array Value} {t : TypeId} {fr : Nat × Nat} (hw : w.heap[b]? = some (.cells c t fr)) (hl : l.length = c.size)
    (h : ∀ (i : Nat) x y, l[i]? = some x → c[i]? = some y → VRel B L w x y) : Lies B L w b 0 l :=
  ⟨c.toList, ⟨by simpa using hl, fun i x y hx hy => h i x y hx (by simpa using hy)⟩, fun j v hv => by
    simp only [World.cell?, hw]; simpa using hv⟩
theorem arr_lies {m sz : Nat} {es : List PV} {ty : TypeId} (h : HRel B L w m (.arr ty sz es)) {i : Nat} {x : PV} (hx : es[i]? = some x) :
    Lies B L w (L.blk m) (i * L.sz m) (x.cells.map .p) := by
  cases h with
  | arr sz es c t fr hw hfr hz hsz hcap hle hs hf h =>
    have hi := (List.getElem?_eq_some_iff.1 hx).1
    have hxl := hs x (List.mem_of_getElem? hx)
    rw [hsz]
    have hfl := flat_length hs
    have hin : i * sz + sz ≤ c.size := by rw [hcap, ← Nat.succ_mul]; exact Nat.mul_le_mul_right _ (by omega)
    have hin2 : i * sz + sz ≤ (flat es).length := by rw [hfl, ← Nat.succ_mul]; exact Nat.mul_le_mul_right _ (by omega)
    refine ⟨(c.toList.drop (i * sz)).take sz, ⟨by simp [hxl]; omega, fun j y z hy hz' => ?_⟩, fun j v hv => ?_⟩
    · simp only [List.getElem?_map, Option.map_eq_some_iff] at hy
      obtain ⟨y', hy', rfl⟩ := hy
      have hj : j < sz := by rw [← hxl]; exact (List.getElem?_eq_some_iff.1 hy').1
      rw [List.getElem?_take, if_pos hj, List.getElem?_drop] at hz'
      exact .p _ _ (h (i * sz + j) y' z (by rw [flat_get hs i j hx hj]; exact hy') (by simpa using hz'))
    · rw [List.getElem?_take] at hv
      split at hv
      · rw [List.getElem?_drop] at hv
        simp only [World.cell?, hw]; simpa using hv
      · cases hv
theorem loadA_sound {H : Heap} {t : TypeId} {a r : V} {v : Value} (hst : St B L w H) (ha : VRel B L w a v) (h : loadA P (Heap.at H) t a = some r) :
    ∃ u, (Instr.loadAt t v).run P w = .ok u w ∧ VRel B L w r u := by
  unfold loadA at h
  split at h
  case h_2 => cases h
  rename_i agg n ht hn
  split at h
  · rename_i d
    simp only [Option.map_eq_some_iff] at h
    obtain ⟨x, hx, rfl⟩ := h
    obtain ⟨b, o, rfl, hl⟩ := PRel.cptr_lies (L := L) ha.of_p
    obtain ⟨u, hu, hr⟩ := load_psub ht hn hl hx
    exact ⟨u, hu, .p _ _ hr⟩
  · rename_i m off
    split at h
    · rename_i x hm
      cases ha with
      | ptr n off =>
        have := hst.rel m
        rw [hm] at this
        cases this with
        | var v c t' fr hw hfr hl h' =>
          have hl := Lies.of_block hw hl h'
          obtain ⟨u, hu, hr⟩ := load_vsub ht hn hl h
          rw [Nat.zero_add] at hu
          exact ⟨u, hu, hr⟩
    · cases h
  · rename_i m i off
    split at h
    · rename_i sz es hm
      split at h
      · rename_i x hx
        simp only [Option.map_eq_some_iff] at h
        obtain ⟨y, hy, rfl⟩ := h
        cases ha with
        | eptr n i off =>
          have := hst.rel m
          rw [hm] at this
          have hl := arr_lies this hx
          obtain ⟨u, hu, hr⟩ := load_psub ht hn hl hy
          exact ⟨u, hu, .p _ _ hr⟩
      · cases h
    · cases h
  · cases h
theorem setCells_block (w : World) (b : Nat) : ∀ (vs : List Value) (o : Nat) {c : Array Value} {t : TypeId} {fr : Nat × Nat} (_ : w.heap[b]? = some (.cells c t fr)) (_ : o + vs.length ≤ c.size),
    ∃ c', (w.setCells b o vs).heap[b]? = some (.cells c' t fr) ∧ c'.toList = c.toList.take o ++ vs ++ c.toList.drop (o + vs.length)
  | [], o, c, t, fr, hw, _ => ⟨c, hw, by simp⟩
  | v :: r, o, c, t, fr, hw, hle => by
    have h1 : (w.setCell ⟨b, o, none⟩ v).heap[b]? = some (.cells (c.setIfInBounds o v) t fr) := by
      simp [World.setCell, Array.getElem?_modify, hw]
    simp only [List.length_cons] at hle
    obtain ⟨c', hc', hl⟩ := setCells_block (w.setCell ⟨b, o, none⟩ v) b r (o + 1) h1 (by simp; omega)
    refine ⟨c', hc', ?_⟩
    rw [hl]
    have ho : o < c.toList.length := by simpa using (by omega : o < c.size)
    simp only [Array.toList_setIfInBounds, List.length_cons]
    rw [List.take_set, List.drop_set]
    have hmin : min o c.toList.length = o := by omega
    have hset : (List.take (o + 1) c.toList).set o v = List.take o c.toList ++ [v] := by
      rw [List.take_succ_eq_append_getElem ho, List.set_append, if_neg (by rw [List.length_take]; omega), List.length_take, hmin]
      simp
    rw [hset, if_pos (by omega)]
    simp [List.append_assoc, show o + 1 + r.length = o + (r.length + 1) by omega]
theorem setCells_other (w : World) (b : Nat) : ∀ (vs : List Value) (o k : Nat), k ≠ b → (w.setCells b o vs).heap[k]? = w.heap[k]?
  | [], _, _, _ => rfl
  | v :: r, o, k, h => by
    rw [World.setCells, setCells_other _ b r (o + 1) k h]
    simp only [World.setCell, Array.getElem?_modify]
    rw [if_neg (fun e => h e.symm)]
theorem setCells_size (w : World) (b : Nat) : ∀ (vs : List Value) (o : Nat), (w.setCells b o vs).heap.size = w.heap.size
  | [], _ => rfl
  | v :: r, o => by rw [World.setCells, setCells_size _ b r (o + 1)]; simp [World.setCell]
theorem setCells_same (w : World) (b : Nat) : ∀ (vs : List Value) (o : Nat), Same w (w.setCells b o vs)
  | [], _ => Same.refl w
  | v :: r, o => by rw [World.setCells]; exact Same.trans ⟨rfl, rfl, rfl⟩ (setCells_same _ b r (o + 1))
theorem Tail.set {H : Heap} {n : Nat} (hn : (Heap.at H n).live) (o : Nat) (vs : List Value) : Tail B L w H (w.setCells (L.blk n) o vs) B L :=
  ⟨fun _ h => h, fun b _ hb => setCells_other _ _ _ _ b (fun e => hb n hn e.symm), fun _ => .inl rfl, fun _ _ h => h⟩
theorem storeAt_run {t : TypeId} {n : Nat} (hn : szT P t = some n) {b o : Nat} {x : V} {v : Value} (hx : VRel B L w x v) (hl : x.cells.length = n) (hs : x.storable = true)
    {c : Array Value} {t' : TypeId} {fr : Nat × Nat} (hw : w.heap[b]? = some (.cells c t' fr)) (hfr : unfrozen c.size fr) (hle : o + n ≤ c.size) :
    (Instr.storeAt t (.pointer (some ⟨b, o, none⟩)) v).run P w = .ok () (w.setCells b o v.cells.toList) := by
  have hj : x ≠ .junk := fun e => by subst e; simp [V.storable, V.cells, V.leaf] at hs
  have hc := hx.cells hj
  obtain ⟨i, hi, hin⟩ := szT_some hn
  have hvn : v.cells.size = n := by have := hc.1; simp at this; omega
  have hst := run_storeCells_cells (P := P) b o v.cells.toList 0 w
    (fun j hj => by
      simp only [Array.length_toList] at hj
      simp only [World.cell?, hw, Nat.add_zero]
      simp; omega)
    (fun j hj => by
      simp only [Array.length_toList] at hj
      simp only [World.frozen?, hw, Nat.add_zero]
      rcases hfr with h | h
      · simp; omega
      · simp; omega)
    (fun u hu => by
      obtain ⟨k, hk, hku⟩ := List.getElem_of_mem hu
      have hk' : k < x.cells.length := by rw [hc.1]; exact hk
      have := hc.2 k x.cells[k] u (List.getElem?_eq_getElem hk') (by rw [List.getElem?_eq_getElem hk, hku])
      refine this.one ?_
      simp only [V.storable, List.all_eq_true] at hs
      exact hs _ (List.getElem_mem hk'))
  simp only [Nat.add_zero] at hst
  simp [Instr.storeAt, Instr.sureAddr, storeVar, sizeOf, typeInfo, hi, hin, hvn, hst]
end
end Go.Am
end

section
namespace Go.Am
open Go
theorem splice_rel {α β : Type} {R : α → β → Prop} {l m : List α} {c vs : List β} {o n : Nat} (hm : m.length = n) (hv : vs.length = n) (hl : o + n ≤ l.length) (hc : o + n ≤ c.length)
    (h : ∀ (i : Nat) x y, l[i]? = some x → c[i]? = some y → R x y) (hn : ∀ (i : Nat) x y, m[i]? = some x → vs[i]? = some y → R x y) :
    ∀ (i : Nat) x y, (l.take o ++ m ++ l.drop (o + n))[i]? = some x → (c.take o ++ vs ++ c.drop (o + n))[i]? = some y → R x y := by
  intro i x y hx hy
  have e1 : (l.take o).length = o := by simp; omega
  have e2 : (c.take o).length = o := by simp; omega
  by_cases h1 : i < o
  · rw [List.append_assoc, List.getElem?_append_left (by omega), List.getElem?_take, if_pos h1] at hx hy
    exact h i x y hx hy
  · by_cases h2 : i < o + n
    · rw [List.append_assoc, List.getElem?_append_right (by omega), List.getElem?_append_left (by omega)] at hx hy
      rw [e1] at hx; rw [e2] at hy
      exact hn _ x y hx hy
    · rw [List.getElem?_append_right (by simp; omega), List.getElem?_drop] at hx hy
      simp only [List.length_append, e1, hm] at hx
      simp only [List.length_append, e2, hv] at hy
      exact h _ x y hx hy
theorem splice_length {α : Type} {l m : List α} {o n : Nat} (hm : m.length = n) (hl : o + n ≤ l.length) : (l.take o ++ m ++ l.drop (o + n)).length = l.length := by
  simp; omega
theorem V.cells_mk (l : List V) : (V.mk l).cells = l := by
  unfold V.mk
  split
  · rename_i ds hds
    split
    · simp [V.cells, allP_spec hds]
    · rfl
  · rfl
theorem V.cells_put {v x v' : V} {off : Nat} (h : v.put off x = some v') : off + x.cells.length ≤ v.cells.length ∧ v'.cells = v.cells.take off ++ x.cells ++ v.cells.drop (off + x.cells.length) := by
  unfold V.put at h
  split at h
  · rename_i hc
    obtain ⟨rfl, hl, _⟩ := hc
    cases h
    exact ⟨by omega, by simp [hl]⟩
  · split at h
    · rename_i hle
      cases h
      exact ⟨hle, V.cells_mk _⟩
    · cases h
theorem PV.cells_put {v x v' : PV} {off : Nat} (h : v.put off x = some v') : off + x.cells.length ≤ v.cells.length ∧ v'.cells = v.cells.take off ++ x.cells ++ v.cells.drop (off + x.cells.length) := by
  unfold PV.put at h
  split at h
  · rename_i hc
    obtain ⟨rfl, hl, _⟩ := hc
    cases h
    exact ⟨by omega, by simp [hl]⟩
  · split at h
    · rename_i hle
      cases h
      exact ⟨hle, rfl⟩
    · cases h
theorem flat_set {sz : Nat} : ∀ {es : List PV} {i : Nat} {y y' : PV} {off : Nat} {m : List PV} (_ : ∀ x ∈ es, x.cells.length = sz) (_ : es[i]? = some y) (_ : off + m.length ≤ y.cells.length)
    (_ : y'.cells = y.cells.take off ++ m ++ y.cells.drop (off + m.length)),
    flat (es.set i y') = (flat es).take (i * sz + off) ++ m ++ (flat es).drop (i * sz + off + m.length)
  | [], i, y, y', off, m, _, hy, _, _ => by simp at hy
  | x :: es, 0, y, y', off, m, hs, hy, hle, hy' => by
    simp at hy; subst hy
    simp only [List.set_cons_zero, flat_cons, hy', Nat.zero_mul, Nat.zero_add]
    rw [List.take_append_of_le_length (by omega), List.drop_append_of_le_length hle]
    simp [List.append_assoc]
  | x :: es, i + 1, y, y', off, m, hs, hy, hle, hy' => by
    have hx := hs x (by simp)
    have ih := flat_set (es := es) (i := i) (fun z hz => hs z (List.mem_cons_of_mem _ hz)) (by simpa using hy) hle hy'
    simp only [List.set_cons_succ, flat_cons, ih]
    rw [show (i + 1) * sz + off = x.cells.length + (i * sz + off) by rw [hx, Nat.succ_mul]; omega, show x.cells.length + (i * sz + off) + m.length = x.cells.length + (i * sz + off + m.length) by omega]
    rw [List.take_length_add_append, List.drop_length_add_append]
    simp [List.append_assoc]
section
variable {P : Program} {B : Nat → Prop} {L : Loc} {w : World}
theorem storable_p {d : PV} (h : (V.p d).storable = true) : ∀ c ∈ d.cells, c.leaf = true := by
  intro c hc
  simp only [V.storable, V.cells_p, List.all_map, List.all_eq_true] at h
  exact h c hc
theorem storeA_sound {H : Heap} {t : TypeId} {a x : V} {va vx : Value} {e : Eff} (hst : St B L w H) (ha : VRel B L w a va) (hx : VRel B L w x vx) (h : storeA P (Heap.at H) t a x = some e) (base : Nat) :
    ∃ w', (Instr.storeAt t va vx).run P w = .ok () w' ∧ Step B w B w' ∧ Same w w' ∧ St B L w' (e.apply H base) ∧ e.moved base = none ∧ Tail B L w H w' B L ∧ EffOk H w L base e := by
  unfold storeA at h
  split at h
  case h_2 => cases h
  rename_i n hn
  split at h
  case isFalse => cases h
  rename_i hc
  obtain ⟨hlen, hsto⟩ := hc
  have hj : x ≠ .junk := fun e => by subst e; simp [V.storable, V.cells, V.leaf] at hsto
  have hxc := hx.cells hj
  split at h
  · rename_i m off
    split at h
    case h_2 => cases h
    rename_i ty v hm
    simp only [Option.map_eq_some_iff] at h
    obtain ⟨v', hv', rfl⟩ := h
    obtain ⟨hle, hcells⟩ := V.cells_put hv'
    cases ha with
    | ptr n' off' =>
      have hlive : (Heap.at H m).live := by rw [hm]; trivial
      have hrel := hst.rel m
      rw [hm] at hrel
      cases hrel with
      | var v c t' fr hw hfr hl h' =>
        have hrun := storeAt_run (P := P) hn hx hlen hsto hw hfr (o := off) (by omega)
        obtain ⟨c', hw', hl'⟩ := setCells_block w (L.blk m) vx.cells.toList off hw (by have := hxc.1; omega)
        have hstep : Step B w B (w.setCells (L.blk m) off vx.cells.toList) :=
          ⟨by rw [setCells_size]; omega, fun b _ hb => setCells_other _ _ _ _ b (fun e => hb (e ▸ (hst.own m hlive).1)), fun _ _ h => h⟩
        refine ⟨_, hrun, hstep, setCells_same _ _ _ _, ?_, rfl, Tail.set hlive _ _, hlive⟩
        refine hst.upd hlive (setCells_size _ _ _ _) (fun k hk => setCells_other _ _ _ _ k hk) ?_
        have hsz : c'.size = c.size := by
          have := congrArg List.length hl'
          simp at this
          have := hxc.1
          simp at this
          omega
        refine .var v' c' _ fr hw' (by rw [hsz]; exact hfr) ?_ ?_
        · rw [hcells, splice_length rfl hle, hsz, hl]
        · intro i y z hy hz
          rw [hcells] at hy
          have hz' : (c.toList.take off ++ vx.cells.toList ++ c.toList.drop (off + vx.cells.toList.length))[i]? = some z := by rw [← hl']; simpa using hz
          rw [← hxc.1] at hz'
          exact splice_rel (R := fun p q => VRel B L (w.setCells (L.blk m) off vx.cells.toList) p q) rfl hxc.1.symm hle (by simp; omega)
            (fun i p q hp hq => (h' i p q hp (by simpa using hq)).step hstep) (fun i p q hp hq => (hxc.2 i p q hp hq).step hstep) i y z hy hz'
  · rename_i m i off
    split at h
    case h_2 => cases h
    rename_i sz es d hm
    split at h
    case h_2 => cases h
    rename_i y hy
    simp only [Option.map_eq_some_iff] at h
    obtain ⟨y', hy', rfl⟩ := h
    obtain ⟨hle, hcells⟩ := PV.cells_put hy'
    have hd := hx.of_p
    have hdc := hd.cells
    have hleaf := storable_p hsto
    cases ha with
    | eptr n' i' off' =>
      have hlive : (Heap.at H m).live := by rw [hm]; trivial
      have hrel := hst.rel m
      rw [hm] at hrel
      cases hrel with
      | arr sz es c t' fr hw hfr hz hsz hcap hle' hs hf h' =>
        have hi := (List.getElem?_eq_some_iff.1 hy).1
        have hyl := hs y (List.mem_of_getElem? hy)
        have hin : i * sz + sz ≤ c.size := by rw [hcap, ← Nat.succ_mul]; exact Nat.mul_le_mul_right _ (by omega)
        have hfl := flat_length hs
        have hin2 : i * sz + sz ≤ (flat es).length := by rw [hfl, ← Nat.succ_mul]; exact Nat.mul_le_mul_right _ (by omega)
        have hdl : d.cells.length = n := by rw [V.cells_p] at hlen; simpa using hlen
        rw [hsz]
        have hrun := storeAt_run (P := P) hn hx hlen hsto hw hfr (o := i * sz + off) (by omega)
        obtain ⟨c', hw', hl'⟩ := setCells_block w (L.blk m) vx.cells.toList (i * sz + off) hw (by rw [← hdc.1]; omega)
        have hstep : Step B w B (w.setCells (L.blk m) (i * sz + off) vx.cells.toList) :=
          ⟨by rw [setCells_size]; omega, fun b _ hb => setCells_other _ _ _ _ b (fun e => hb (e ▸ (hst.own m hlive).1)), fun _ _ h => h⟩
        refine ⟨_, hrun, hstep, setCells_same _ _ _ _, ?_, rfl, Tail.set hlive _ _, hlive⟩
        refine hst.upd hlive (setCells_size _ _ _ _) (fun k hk => setCells_other _ _ _ _ k hk) ?_
        have hvl := hdc.1
        have hcsz : c'.size = c.size := by
          have := congrArg List.length hl'
          simp at this hvl
          omega
        have hy'l : y'.cells.length = sz := by rw [hcells, splice_length rfl hle, hyl]
        have hflat := flat_set hs hy hle hcells
        refine .arr sz _ c' _ fr hw' (by rw [hcsz]; exact hfr) hz hsz (by rw [hcsz]; exact hcap) (by simpa using hle') ?_ ?_ ?_
        · intro x hx
          rcases List.mem_or_eq_of_mem_set hx with hx | hx
          · exact hs x hx
          · rw [hx]; exact hy'l
        · intro x hx
          rw [hflat] at hx
          simp only [List.mem_append] at hx
          rcases hx with (hx | hx) | hx
          · exact hf x (List.mem_of_mem_take hx)
          · exact hleaf x hx
          · exact hf x (List.mem_of_mem_drop hx)
        · intro k p q hp hq
          rw [hflat] at hp
          have hq' : (c.toList.take (i * sz + off) ++ vx.cells.toList ++ c.toList.drop (i * sz + off + vx.cells.toList.length))[k]? = some q := by rw [← hl']; simpa using hq
          rw [← hvl] at hq'
          exact splice_rel (R := fun p q => PRel B (w.setCells (L.blk m) (i * sz + off) vx.cells.toList) p q) rfl hvl.symm (by omega) (by simp; omega)
            (fun i p q hp hq => (h' i p q hp (by simpa using hq)).step hstep) (fun i p q hp hq => (hdc.2 i p q hp hq).step hstep) k p q hp hq'
  · cases h
theorem new_var {H : Heap} {base : Nat} {x : V} {v : Value} (hst : St B L w H) (hx : VRel B L w x v) (hj : x ≠ .junk) (hf : ∀ m, base ∉ (Heap.at H m).names) (hb : base ∉ x.names) (t : TypeId) :
    St (more B w.heap.size) (L.lay base w.heap.size 0 0) (w.alloc (.cells v.cells t)) (H.put base (.var t x)) := by
  refine hst.alloc hf ?_
  have hc := hx.cells hj
  refine .var x v.cells t (0, 0) ?_ (.inl (Nat.le_refl _)) (by simpa using hc.1) ?_
  · rw [(Loc.lay_same L base _ 0 0).1]; show (w.heap.push _)[w.heap.size]? = _; simp
  · intro i p q hp hq
    refine ((hc.2 i p q hp (by simpa using hq)).step (step_alloc B w _)).loc fun m hm => L.lay_ne _ 0 0 fun e => ?_
    subst e
    exact hb (V.names_cells hp hm)
theorem new_arr {H : Heap} {base sz cap : Nat} {es : List PV} {c : Array Value} (hst : St B L w H) (hf : ∀ m, base ∉ (Heap.at H m).names) (t : TypeId) {fr : Nat × Nat}
    (hfr : unfrozen c.size fr) (hz : 1 ≤ sz) (hcap : c.size = cap * sz) (hle : es.length ≤ cap) (hs : ∀ x ∈ es, x.cells.length = sz) (hl : ∀ x ∈ flat es, x.leaf = true)
    (h : ∀ (i : Nat) x y, (flat es)[i]? = some x → c[i]? = some y → PRel B w x y) :
    St (more B w.heap.size) (L.lay base w.heap.size sz cap) (w.alloc (.cells c t fr)) (H.put base (.arr t sz es)) := by
  refine hst.alloc hf ?_
  refine .arr sz es c t fr ?_ hfr hz (Loc.lay_same L base _ sz cap).2.1 (by rw [(Loc.lay_same L base _ sz cap).2.2]; exact hcap) (by rw [(Loc.lay_same L base _ sz cap).2.2]; exact hle) hs hl
    (fun i x y hx hy => (h i x y hx hy).step (step_alloc B w _))
  rw [(Loc.lay_same L base _ sz cap).1]; show (w.heap.push _)[w.heap.size]? = _; simp
end
end Go.Am
end

section
namespace Go.Am
open Go
section
variable {P : Program} {B : Nat → Prop} {L : Loc} {w : World}
theorem intOp_sound {op : BinOp} {t : TypeId} {k : IntKind} {a b : Int} {d : PV} (hs : op ≠ .shl) (hs' : op ≠ .shr) (h : intOp op k a b = some d) :
    ∃ v, (binOp op t (.int k a) (.int k b)).run P w = .ok v w ∧ PRel B w d v := by
  cases op <;> simp only [intOp] at h <;> try (cases h)
  case quo =>
    split at h
    · cases h
    · rename_i hb; cases h
      exact ⟨_, by simp [binOp, Op.intDiv, hb], .int _ _⟩
  case rem =>
    split at h
    · cases h
    · rename_i hb; cases h
      exact ⟨_, by simp [binOp, Op.intDiv, hb], .int _ _⟩
  all_goals first
    | exact ⟨_, by simp only [binOp, ne_eq, not_true_eq_false, if_false]; rfl, .int _ _⟩
    | exact ⟨_, by simp only [binOp, ne_eq, not_true_eq_false, if_false]; rfl, .bool _⟩
    | exact absurd rfl hs
    | exact absurd rfl hs'
theorem shiftOp_sound {op : BinOp} {t : TypeId} {k k' : IntKind} {a b : Int} {d : PV} (hop : op = .shl ∨ op = .shr) (h : shiftOp op k a b = some d) :
    ∃ v, (binOp op t (.int k a) (.int k' b)).run P w = .ok v w ∧ PRel B w d v := by
  unfold shiftOp at h
  split at h
  · cases h
  · rename_i hb
    rcases hop with rfl | rfl <;> cases h
    · exact ⟨_, by simp only [binOp, Op.shift, hb, if_false]; rfl, .int _ _⟩
    · exact ⟨_, by simp only [binOp, Op.shift, hb, if_false]; rfl, .int _ _⟩
theorem strOp_sound {op : BinOp} {t : TypeId} {a b : List UInt8} {d : PV} (h : strOp op a b = some d) :
    ∃ v, (binOp op t (.string ⟨a.toArray⟩) (.string ⟨b.toArray⟩)).run P w = .ok v w ∧ PRel B w d v := by
  cases op <;> simp only [strOp] at h <;> try (cases h)
  case add =>
    split at h
    · rename_i hl
      cases h
      refine ⟨_, ?_, .str _⟩
      rw [binOp_string_add, run_string_add_sum w _ _ (by simp [ByteArray.size]; exact hl), ByteArray.mk_append_mk]
    · cases h
  all_goals exact ⟨_, by simp [binOp, Op.stringOp], .bool _⟩
theorem ptr_pointee {t : TypeId} (h : isPtrT P t = true) : P.underlying t = some (.pointer (P.pointee t)) := by
  unfold isPtrT at h
  split at h
  · rename_i e he
    simp [Program.pointee, he]
  · cases h
theorem run_equalIn_nil_pointer (d : Nat) {t : TypeId} (p : Option Addr) (h : P.underlying t = some (.pointer (P.pointee t))) (w : World) :
    (Op.equalIn (d + 1) t (.pointer none) (.pointer p)).run P w = .ok p.isNone w := by
  cases p <;> simp [Op.equalIn, run_underlying h]
theorem run_equal_nil_pointer {t : TypeId} (p : Option Addr) (h : P.underlying t = some (.pointer (P.pointee t))) (w : World) :
    (Op.equal t (.pointer none) (.pointer p)).run P w = .ok p.isNone w := run_equalIn_nil_pointer 9999 p h w
theorem ptrEq_sound {t : TypeId} {x y : V} {vx vy : Value} {b : Bool} (ht : isPtrT P t = true) (hx : VRel B L w x vx) (hy : VRel B L w y vy) (h : ptrEq x y = some b) :
    (∃ p q, vx = .pointer p ∧ vy = .pointer q) ∧ (Op.equal t vx vy).run P w = .ok b w := by
  have hp := ptr_pointee ht
  unfold ptrEq at h
  split at h <;> cases h
  · cases hx.of_p; cases hy.of_p; exact ⟨⟨_, _, rfl, rfl⟩, run_equal_nil_pointer none hp w⟩
  · cases hx.of_p; cases hy; exact ⟨⟨_, _, rfl, rfl⟩, run_equal_nil_pointer _ hp w⟩
  · cases hx.of_p; cases hy; exact ⟨⟨_, _, rfl, rfl⟩, run_equal_nil_pointer _ hp w⟩
  · cases hx.of_p; cases hy.of_p; exact ⟨⟨_, _, rfl, rfl⟩, run_equal_nil_pointer _ hp w⟩
  · cases hx; cases hy.of_p; exact ⟨⟨_, _, rfl, rfl⟩, run_equal_pointer_nil w t _ hp⟩
  · cases hx; cases hy.of_p; exact ⟨⟨_, _, rfl, rfl⟩, run_equal_pointer_nil w t _ hp⟩
  · cases hx.of_p; cases hy.of_p; exact ⟨⟨_, _, rfl, rfl⟩, run_equal_pointer_nil w t _ hp⟩
theorem bool_under {t : TypeId} (h : isBoolT P t = true) : P.underlying t = some .bool := by
  unfold isBoolT at h
  split at h
  · assumption
  · cases h
theorem eqGuard_plain {op : BinOp} {t : TypeId} {ox oy : Operand} {a b : Value} (h1 : a ≠ .nilIface) (h2 : ∀ c, a ≠ .agg c) : (eqGuard op t ox oy a b).run P w = .ok () w := by
  cases op <;> first | rfl | skip
  all_goals (cases a <;> first | rfl | exact absurd rfl h1 | exact absurd rfl (h2 _))
theorem binA_sound {op : BinOp} {t : TypeId} {ox oy : Operand} {x y : V} {vx vy : Value} {d : PV} (hx : VRel B L w x vx) (hy : VRel B L w y vy) (h : binA P op t x y = some d) :
    ∃ v, (do eqGuard op t ox oy vx vy; binOp op t vx vy : Sem Value).run P w = .ok v w ∧ PRel B w d v := by
  have key : (vx ≠ .nilIface ∧ ∀ c, vx ≠ .agg c) ∧ ∃ v, (binOp op t vx vy).run P w = .ok v w ∧ PRel B w d v := by
    unfold binA at h
    split at h
    · cases hx.of_p; cases hy.of_p
      refine ⟨⟨by simp, by simp⟩, ?_⟩
      split at h
      · exact shiftOp_sound (.inl rfl) h
      · exact shiftOp_sound (.inr rfl) h
      · split at h
        · rename_i e; subst e; exact intOp_sound (by assumption) (by assumption) h
        · cases h
    · cases hx.of_p; cases hy.of_p
      exact ⟨⟨by simp, by simp⟩, strOp_sound h⟩
    · cases hx.of_p; cases hy.of_p
      refine ⟨⟨by simp, by simp⟩, ?_⟩
      split at h
      · split at h
        · rename_i ht; cases h; exact ⟨_, run_eql_bool w t _ _ (bool_under ht), .bool _⟩
        · cases h
      · split at h
        · rename_i ht; cases h; exact ⟨_, run_neq_bool w t _ _ (bool_under ht), .bool _⟩
        · cases h
      · cases h
    · split at h
      · split at h
        · rename_i ht
          simp only [Option.map_eq_some_iff] at h
          obtain ⟨b, hb, rfl⟩ := h
          obtain ⟨⟨p, q, rfl, rfl⟩, hr⟩ := ptrEq_sound ht hx hy hb
          exact ⟨⟨by simp, by simp⟩, _, by simp only [binOp]; simp [hr], .bool _⟩
        · cases h
      · split at h
        · rename_i ht
          simp only [Option.map_eq_some_iff] at h
          obtain ⟨b, hb, rfl⟩ := h
          obtain ⟨⟨p, q, rfl, rfl⟩, hr⟩ := ptrEq_sound ht hx hy hb
          exact ⟨⟨by simp, by simp⟩, _, by simp only [binOp]; simp [hr], .bool _⟩
        · cases h
      · cases h
  obtain ⟨⟨h1, h2⟩, v, hv, hr⟩ := key
  exact ⟨v, by rw [Sem.run_bind, eqGuard_plain h1 h2]; exact hv, hr⟩
theorem unA_sound {op : UnOp} {x : V} {vx : Value} {d : PV} (hx : VRel B L w x vx) (h : unA op x = some d) : ∃ v, (Op.unary op vx).run P w = .ok v w ∧ PRel B w d v := by
  unfold unA at h
  split at h
  · cases hx.of_p; cases h; exact ⟨_, rfl, .bool _⟩
  · cases hx.of_p; simp only [intOp, Option.some.injEq] at h; subst h; exact ⟨_, rfl, .int _ _⟩
  · cases hx.of_p; simp only [intOp, Option.some.injEq] at h; subst h; exact ⟨_, rfl, .int _ _⟩
  · cases h
theorem PV.agg_cells (l : List PV) : (PV.agg l).cells = l := rfl
theorem fieldT_some {s f : TypeId} {o n : Nat} {agg : Bool} (h : fieldT P s f = some (o, n, agg)) : ∃ fs g, P.underlying s = some (.struct fs) ∧ fs[f]? = some g ∧ g.offset = o ∧ szT P g.type = some n ∧ isRowT P g.type = some agg := by
  unfold fieldT at h
  split at h
  · rename_i fs hfs
    split at h
    · rename_i g hg
      split at h
      · rename_i r m hr hm; cases h; exact ⟨fs, g, hfs, hg, rfl, hm, hr⟩
      · cases h
    · cases h
  · cases h
theorem run_fieldAt {s f : TypeId} {o n : Nat} {agg : Bool} (h : fieldT P s f = some (o, n, agg)) (hn : n ≠ 0) (b off : Nat) :
    (Instr.fieldAt s (.pointer (some ⟨b, off, none⟩)) f).run P w = .ok (.pointer (some ⟨b, off + o, none⟩)) w := by
  obtain ⟨fs, g, hfs, hg, rfl, hm, hr⟩ := fieldT_some h
  obtain ⟨i, hi, hin⟩ := szT_some hm
  have : i.size ≠ 0 := by omega
  simp only [Instr.fieldAt, Sem.run_bind, run_underlying hfs, Result.andThen_ok, hg, Instr.sureAddr, Sem.run_pure, fieldPlace, sizeOf, typeInfo, run_program, hi, this, if_false]
  simp [Addr.add_mid]
theorem cptr_sub {d x : PV} {b o off n : Nat} {agg : Bool} (h : PRel B w (.cptr d) (.pointer (some ⟨b, o, none⟩))) (hx : d.sub off n agg = some x) : PRel B w (.cptr x) (.pointer (some ⟨b, o + off, none⟩)) := by
  cases h with
  | cptr d b o u hb hw hf hc hr =>
    have sub : ∀ (y : PV) (k : Nat), k = y.cells.length → off + k ≤ d.cells.length → (∀ j, j < k → y.cells[j]? = d.cells[off + j]?) → PRel B w (.cptr y) (.pointer (some ⟨b, o + off, none⟩)) := by
      intro y k hk hle hcell
      refine .cptr y b (o + off) (fun j => u (off + j)) hb hw ?_ (fun j hj => ?_) (fun j z hz => ?_)
      · intro z hz
        obtain ⟨j, hj, rfl⟩ := List.getElem_of_mem hz
        have := hcell j (by omega)
        rw [List.getElem?_eq_getElem hj] at this
        exact hf _ (List.mem_of_getElem? this.symm)
      · have := hc (off + j) (by omega)
        rw [show o + off + j = o + (off + j) by omega]; exact this
      · have hj := (List.getElem?_eq_some_iff.1 hz).1
        exact hr (off + j) z (by rw [← hcell j (by omega)]; exact hz)
    unfold PV.sub at hx
    split at hx
    · rename_i hcnd
      obtain ⟨rfl, hlen, _⟩ := hcnd
      cases hx
      exact sub d d.cells.length rfl (by omega) (fun j _ => by simp)
    · split at hx
      · split at hx
        · rename_i hle
          cases hx
          exact sub _ n (by rw [PV.agg_cells, List.length_take, List.length_drop]; omega) hle (fun j hj => by rw [PV.agg_cells, List.getElem?_take, if_pos hj, List.getElem?_drop])
        · cases hx
      · have hoff := (List.getElem?_eq_some_iff.1 hx).1
        have hleaf := hf x (List.mem_of_getElem? hx)
        have hone : x.cells = [x] := PV.cells_one (by cases x <;> simp_all [PV.leaf, PV.isAgg])
        exact sub x 1 (by rw [hone]; rfl) (by omega) (fun j hj => by
          obtain rfl : j = 0 := (by omega)
          rw [hone]; simp [hx])
theorem fieldAddrA_sound {s : TypeId} {a r : V} {f : Nat} {v : Value} (ha : VRel B L w a v) (h : fieldAddrA P s a f = some r) : ∃ u, (Instr.fieldAt s v f).run P w = .ok u w ∧ VRel B L w r u := by
  unfold fieldAddrA at h
  split at h
  case h_2 => cases h
  rename_i o n agg hf
  split at h
  · cases h
  rename_i hn
  split at h
  · simp only [Option.map_eq_some_iff] at h
    obtain ⟨x, hx, rfl⟩ := h
    have ha := ha.of_p
    obtain ⟨b, o', rfl, _⟩ := PRel.cptr_lies (L := L) ha
    exact ⟨_, run_fieldAt hf hn b o', .p _ _ (cptr_sub ha hx)⟩
  · cases h; cases ha; exact ⟨_, run_fieldAt hf hn _ _, .ptr _ _⟩
  · cases h; cases ha; refine ⟨_, run_fieldAt hf hn _ _, ?_⟩; rw [Nat.add_assoc]; exact .eptr _ _ _
  · cases h
theorem vagg_cells {v : V} {a : Value} (h : VRel B L w v a) (hv : v.isAgg = true) : ∃ c : List Value, a = .agg c.toArray ∧ VRelL B L w v.cells c := by
  cases h with
  | p d a h =>
    cases h with
    | agg l c hl h => exact ⟨c, rfl, by rw [V.cells_p]; exact RelL.toV ⟨hl, h⟩⟩
    | _ => simp [V.isAgg, PV.isAgg] at hv
  | agg l c hl h => exact ⟨c, rfl, hl, h⟩
  | _ => simp [V.isAgg] at hv
theorem run_part {t : TypeId} {agg : Bool} {n : Nat} (ht : isRowT P t = some agg) (hn : szT P t = some n) (c : List Value) (off : Nat) {y : Value} (hy : agg = false → c[off]? = some y) :
    (part t c.toArray off).run P w = .ok (if agg = true then .agg ((c.drop off).take n).toArray else y) w := by
  obtain ⟨d, hd, hda⟩ := isRowT_some ht
  obtain ⟨i, hi, hin⟩ := szT_some hn
  cases agg with
  | true =>
    simp only [part, Sem.run_bind, run_isAgg hd, hda, Result.andThen_ok, if_true, sizeOf, typeInfo, run_program, hi, Sem.run_pure, hin]
    congr 2
    apply Array.ext'
    simp
  | false =>
    have := hy rfl
    simp [part, Sem.run_bind, run_isAgg hd, hda, this]
theorem vsub_part {t : TypeId} {off n : Nat} {agg : Bool} {v x : V} {c : List Value} (ht : isRowT P t = some agg) (hn : szT P t = some n) (hv : v.isAgg = true) (hc : VRelL B L w v.cells c) (hx : v.sub off n agg = some x) :
    ∃ u, (part t c.toArray off).run P w = .ok u w ∧ VRel B L w x u := by
  have psub : ∀ (d y : PV), d.isAgg = true → VRelL B L w (d.cells.map .p) c → d.sub off n agg = some y → ∃ u, (part t c.toArray off).run P w = .ok u w ∧ VRel B L w (.p y) u := by
    intro d y hd hc hy
    unfold PV.sub at hy
    split at hy
    · rename_i hcnd
      obtain ⟨rfl, hlen, hagg⟩ := hcnd
      rw [hd] at hagg; subst hagg
      cases hy
      refine ⟨_, run_part ht hn c 0 (y := undef) (by simp), ?_⟩
      have h1 : d.cells.length = c.length := by simpa using hc.1
      have : (c.drop 0).take n = c := by rw [List.drop_zero, List.take_of_length_le (by omega)]
      rw [if_pos rfl, this, PV.cells_agg hd]
      exact .p _ _ (PRel.mkAgg hc.toP)
    · split at hy
      · rename_i hagg; subst hagg
        split at hy
        · cases hy
          refine ⟨_, run_part ht hn c off (y := undef) (by simp), ?_⟩
          rw [if_pos rfl]
          exact .p _ _ (PRel.mkAgg ((hc.toP.drop off).take n))
        · cases hy
      · rename_i hagg
        have hagg : agg = false := by simpa using hagg
        subst hagg
        have hlt := (List.getElem?_eq_some_iff.1 hy).1
        have hlt' : off < c.length := by have := hc.1; simp at this; omega
        refine ⟨_, run_part ht hn c off (y := c[off]) (fun _ => List.getElem?_eq_getElem hlt'), ?_⟩
        exact hc.2 off (.p y) _ (by simp [hy]) (List.getElem?_eq_getElem hlt')
  cases v with
  | p d =>
    simp only [V.sub, Option.map_eq_some_iff] at hx
    obtain ⟨y, hy, rfl⟩ := hx
    rw [V.cells_p] at hc
    exact psub d y hv hc hy
  | agg l =>
    change (if off = 0 ∧ n = l.length ∧ agg = true then some (V.agg l) else if agg = true then (if off + n ≤ l.length then some (V.mk ((l.drop off).take n)) else none) else l[off]?) = some x at hx
    change VRelL B L w l c at hc
    split at hx
    · rename_i hcnd
      obtain ⟨rfl, hlen, rfl⟩ := hcnd
      cases hx
      refine ⟨_, run_part ht hn c 0 (y := undef) (by simp), ?_⟩
      have h1 := hc.1
      have : (c.drop 0).take n = c := by rw [List.drop_zero, List.take_of_length_le (by omega)]
      rw [if_pos rfl, this]
      exact .agg l c hc.1 hc.2
    · split at hx
      · rename_i hagg; subst hagg
        split at hx
        · cases hx
          refine ⟨_, run_part ht hn c off (y := undef) (by simp), ?_⟩
          rw [if_pos rfl]
          exact VRel.mk ((hc.drop off).take n)
        · cases hx
      · rename_i hagg
        have hagg : agg = false := by simpa using hagg
        subst hagg
        have hlt := (List.getElem?_eq_some_iff.1 hx).1
        have hlt' : off < c.length := by rw [← hc.1]; exact hlt
        refine ⟨_, run_part ht hn c off (y := c[off]) (fun _ => List.getElem?_eq_getElem hlt'), ?_⟩
        exact hc.2 off x _ hx (List.getElem?_eq_getElem hlt')
  | _ => simp [V.isAgg] at hv
theorem fieldA_sound {s : TypeId} {a r : V} {f : Nat} {v : Value} (ha : VRel B L w a v) (h : fieldA P s a f = some r) : ∃ u, (Instr.field s v f).run P w = .ok u w ∧ VRel B L w r u := by
  unfold fieldA at h
  split at h
  case h_2 => cases h
  rename_i o n agg hf
  split at h
  case isFalse => cases h
  rename_i hagg
  obtain ⟨fs, g, hfs, hg, rfl, hm, hr⟩ := fieldT_some hf
  obtain ⟨c, rfl, hc⟩ := vagg_cells ha hagg
  obtain ⟨u, hu, hru⟩ := vsub_part hr hm hagg hc h
  refine ⟨u, ?_, hru⟩
  simp only [Instr.field, Sem.run_bind, run_underlying hfs, Result.andThen_ok, hg, asAgg, Sem.run_pure, hu]
theorem idxI_sound {v : V} {a : Value} {i : Int} (hv : VRel B L w v a) (h : idxI v = some i) : ∃ k, a = .int k i := by
  unfold idxI at h
  split at h
  · cases h; cases hv.of_p; exact ⟨_, rfl⟩
  · cases h
theorem indexA_sound {t : TypeId} {x i r : V} {vx vi : Value} (hx : VRel B L w x vx) (hi : VRel B L w i vi) (h : indexA P t x i = some r) : ∃ u, (Instr.index t vx vi).run P w = .ok u w ∧ VRel B L w r u := by
  unfold indexA at h
  split at h
  case h_2 => cases h
  rename_i n hn
  obtain ⟨k, rfl⟩ := idxI_sound hi hn
  split at h
  case isFalse => cases h
  rename_i h0
  split at h
  · rename_i s ht
    simp only [Option.map_eq_some_iff] at h
    obtain ⟨b, hb, rfl⟩ := h
    cases hx.of_p
    refine ⟨.int .u8 b.toNat, ?_, .p _ _ (.int _ _)⟩
    simp only [Instr.index, Sem.run_bind, asIntOf, Sem.run_pure, Result.andThen_ok, run_underlying ht, h0, if_true]
    have hlt := (List.getElem?_eq_some_iff.1 hb).1
    have : (⟨s.toArray⟩ : ByteArray)[n.toNat]? = some b := by
      rw [ByteArray.getElem?_lt' _ _ (by simpa [ByteArray.size] using hlt)]
      rw [List.getElem?_eq_getElem hlt] at hb
      cases hb
      rfl
    simp [this]
  · rename_i len e v ht
    split at h
    case isFalse => cases h
    rename_i hc
    split at h
    · rename_i agg m hr hm
      obtain ⟨c, rfl, hcc⟩ := vagg_cells hx hc.2
      obtain ⟨u, hu, hru⟩ := vsub_part hr hm hc.2 hcc h
      obtain ⟨i, hi', him⟩ := szT_some hm
      refine ⟨u, ?_, hru⟩
      simp only [Instr.index, Sem.run_bind, asIntOf, Sem.run_pure, Result.andThen_ok, run_underlying ht, h0, hc.1, and_self, if_true, sizeOf, typeInfo, run_program, hi', him, hu]
    · cases h
  · cases h
end
end Go.Am
end

section
namespace Go.Am
open Go
section
variable {P : Program} {B : Nat → Prop} {L : Loc} {w : World}
theorem run_sizeOf {t : TypeId} {n : Nat} (h : szT P t = some n) (w : World) : (sizeOf t).run P w = .ok n w := by
  obtain ⟨i, hi, rfl⟩ := szT_some h
  simp [sizeOf, typeInfo, hi]
theorem elem_of {t e : TypeId} (h : P.underlying t = some (.slice e)) : P.elem t = e := by simp [Program.elem, h]
theorem under_elem {t e : TypeId} (h : P.underlying t = some (.slice e)) : P.underlying t = some (.slice (P.elem t)) := by rw [elem_of h]; exact h
def Shows (B : Nat → Prop) (L : Loc) (w : World) (l : List PV) (v : Value) : Prop :=
  ∃ a cap, v = .slice a l.length cap ∧ (∀ x ∈ flat l, x.leaf = true) ∧ (l ≠ [] → ∃ b o, a = some ⟨b, o, none⟩ ∧ Lies B L w b o ((flat l).map .p))
theorem lst_shows {ex : Bool} {l : List PV} {v : Value} (h : PRel B w (.lst ex l) v) : Shows B L w l v := by
  cases h with
  | lst0 ex a cap he hn => exact ⟨a, cap, rfl, by simp [flat], fun h => absurd rfl h⟩
  | lst ex l b o cap sz u hb hw hz hs hf hcap he hc hr =>
    refine ⟨_, cap, rfl, hf, fun _ => ⟨b, o, rfl, ?_⟩⟩
    obtain ⟨c, hcl, hcu⟩ := list_of u (flat l).length
    refine ⟨c, ⟨by simp [hcl], fun i x y hx hy => ?_⟩, fun j v hv => ?_⟩
    · simp only [List.getElem?_map, Option.map_eq_some_iff] at hx
      obtain ⟨z, hz, rfl⟩ := hx
      have hi := (List.getElem?_eq_some_iff.1 hz).1
      rw [hcu i hi] at hy; cases hy
      exact .p z _ (hr i z hz)
    · have hj : j < (flat l).length := by rw [← hcl]; exact (List.getElem?_eq_some_iff.1 hv).1
      rw [hcu j hj] at hv; cases hv
      exact hc j hj
theorem flat_drop {sz : Nat} {l : List PV} (h : ∀ x ∈ l, x.cells.length = sz) : ∀ k, k ≤ l.length → flat (l.drop k) = (flat l).drop (k * sz) := by
  intro k hk
  have h1 : flat l = flat (l.take k) ++ flat (l.drop k) := by rw [← flat_append, List.take_append_drop]
  have h2 : (flat (l.take k)).length = k * sz := by rw [flat_length (fun x hx => h x (List.mem_of_mem_take hx))]; simp; rw [Nat.min_eq_left hk]
  rw [h1, ← h2, List.drop_append_of_le_length (Nat.le_refl _), List.drop_length, List.nil_append]
theorem flat_take {sz : Nat} {l : List PV} (h : ∀ x ∈ l, x.cells.length = sz) : ∀ k, k ≤ l.length → flat (l.take k) = (flat l).take (k * sz) := by
  intro k hk
  have h1 : flat l = flat (l.take k) ++ flat (l.drop k) := by rw [← flat_append, List.take_append_drop]
  have h2 : (flat (l.take k)).length = k * sz := by rw [flat_length (fun x hx => h x (List.mem_of_mem_take hx))]; simp; rw [Nat.min_eq_left hk]
  rw [h1, ← h2, List.take_append_of_le_length (Nat.le_refl _), List.take_length]
theorem arr_all {m sz : Nat} {es : List PV} {ty : TypeId} (h : HRel B L w m (.arr ty sz es)) : Lies B L w (L.blk m) 0 ((flat es).map .p) ∧ (∀ x ∈ flat es, x.leaf = true) ∧ (∀ x ∈ es, x.cells.length = sz) ∧ L.sz m = sz ∧ es.length ≤ L.cap m := by
  cases h with
  | arr sz es c t fr hw hfr hz hsz hcap hle hs hf h =>
    refine ⟨?_, hf, hs, hsz, hle⟩
    have hfl := flat_length hs
    have hin : (flat es).length ≤ c.size := by rw [hcap, hfl]; exact Nat.mul_le_mul_right _ hle
    refine ⟨c.toList.take (flat es).length, ⟨by simp; omega, fun i x y hx hy => ?_⟩, fun j v hv => ?_⟩
    · simp only [List.getElem?_map, Option.map_eq_some_iff] at hx
      obtain ⟨z, hz, rfl⟩ := hx
      rw [List.getElem?_take] at hy
      split at hy
      · exact .p _ _ (h i z y hz (by simpa using hy))
      · cases hy
    · rw [List.getElem?_take] at hv
      split at hv
      · simp only [World.cell?, hw]; simpa using hv
      · cases hv
theorem elems_sound {H : Heap} {x : V} {l : List PV} {v : Value} (hst : St B L w H) (hx : VRel B L w x v) (h : elems (Heap.at H) x = some l) : Shows B L w l v := by
  unfold elems at h
  split at h
  · cases h; exact lst_shows hx.of_p
  · cases h
    exact lst_shows (ex := true) (hx.nn (v := .p .nils)).of_p
  · cases h
    cases hx.of_p
    exact ⟨_, _, rfl, by simp [flat], fun h => absurd rfl h⟩
  · rename_i n off len
    split at h
    case h_2 => cases h
    rename_i sz es hn
    split at h
    case isFalse => cases h
    rename_i hle
    cases h
    have hrel := hst.rel n
    rw [hn] at hrel
    obtain ⟨hl, hleaf, hs, hsz, _⟩ := arr_all hrel
    have hlen : ((es.drop off).take len).length = len := by simp; omega
    have hsd : ∀ x ∈ es.drop off, x.cells.length = sz := fun x hx => hs x (List.mem_of_mem_drop hx)
    have hfl : flat ((es.drop off).take len) = ((flat es).drop (off * sz)).take (len * sz) := by
      rw [flat_take hsd len (by simp; omega), flat_drop hs off (by omega)]
    have hlf : ∀ x ∈ flat ((es.drop off).take len), x.leaf = true := by
      intro x hx; rw [hfl] at hx; exact hleaf x (List.mem_of_mem_drop (List.mem_of_mem_take hx))
    cases hx with
    | sl n off len cap h hl' =>
      refine ⟨_, cap, by rw [hlen], hlf, fun _ => ⟨_, _, rfl, ?_⟩⟩
      rw [hfl, hsz, List.map_take, List.map_drop]
      have := (hl.drop (off * sz)).take (len * sz)
      rw [Nat.zero_add] at this
      exact this
    | sl0 n off a _ => exact ⟨a, 0, by simp, by simp [flat], fun h => absurd (by simp) h⟩
  · cases h
theorem len_run {H : Heap} {t : TypeId} {x : V} {n : Nat} {v : Value} (hst : St B L w H) (hx : VRel B L w x v) (h : lenV P (Heap.at H) t x = some n) (ty : TypeId) : (Builtin.len_ #[t] ty #[v]).run P w = .ok (goInt n) w := by
  unfold lenV at h
  split at h
  · rename_i e l hu
    cases h
    obtain ⟨a, cap, rfl, _⟩ := lst_shows (L := L) hx.of_p
    simp [Builtin.len_, run_underlying hu]
  · rename_i e hu
    cases h
    cases hx.of_p
    simp [Builtin.len_, run_underlying hu]
  · rename_i e hu
    cases h
    cases hx.of_p
    simp [Builtin.len_, run_underlying hu]
  · rename_i e m off len hu
    cases h
    cases hx <;> simp [Builtin.len_, run_underlying hu]
  · rename_i s hu
    cases h
    cases hx.of_p
    simp [Builtin.len_, run_underlying hu]; rfl
  · rename_i k e m hu
    split at h
    · rename_i es hm
      cases h
      cases hx
      have hrel := hst.rel m
      rw [hm] at hrel
      cases hrel with
      | mp ks vs ms clock hw hl hlv hk hv hn => simp [Builtin.len_, run_underlying hu, getObj, Sem.run, hw, hl]
    · cases h
  · rename_i k e hu
    cases h
    cases hx.of_p
    simp [Builtin.len_, run_underlying hu]
  · cases h
theorem indexAddrA_sound {H : Heap} {t : TypeId} {x i r : V} {vx vi : Value} (hst : St B L w H) (hx : VRel B L w x vx) (hi : VRel B L w i vi) (h : indexAddrA P (Heap.at H) t x i = some r) : ∃ u, (Instr.indexAt t vx vi).run P w = .ok u w ∧ VRel B L w r u := by
  unfold indexAddrA at h
  split at h
  case h_2 => cases h
  rename_i n hn
  obtain ⟨k, rfl⟩ := idxI_sound hi hn
  split at h
  · rename_i e ht
    split at h
    · rename_i ex l
      split at h
      case isFalse => cases h
      rename_i h0
      split at h
      case h_2 => cases h
      rename_i d m hd hm
      split at h
      case isFalse => cases h
      rename_i hdl
      cases h
      have hlt := (List.getElem?_eq_some_iff.1 hd).1
      have hne : l ≠ [] := by intro e; subst e; simp at hlt
      cases hx.of_p with
      | lst0 => simp at hlt
      | lst ex l b o cap sz u hb hw hz hs hf hcap he hc hr =>
        have hsz : sz = m := by rw [← hs d (List.mem_of_getElem? hd)]; exact hdl
        subst hsz
        have hfl := flat_length hs
        have hin : n.toNat * sz + sz ≤ (flat l).length := by rw [hfl, ← Nat.succ_mul]; exact Nat.mul_le_mul_right _ (by omega)
        refine ⟨.pointer (some ⟨b, o + n.toNat * sz, none⟩), ?_, .p _ _ (.cptr d b _ (fun j => u (n.toNat * sz + j)) hb hw ?_ (fun j hj => ?_) (fun j z hz' => ?_))⟩
        · rw [run_indexAt_slice (P := P) w t ⟨b, o, none⟩ l.length cap k n (under_elem ht)]
          rw [if_pos ⟨h0, by omega⟩, elem_of ht]
          simp [run_sizeOf hm, Addr.add_mid]
        · intro c hc'
          exact hf c (mem_flat (List.mem_of_getElem? hd) hc')
        · have := hc (n.toNat * sz + j) (by omega)
          rw [show o + n.toNat * sz + j = o + (n.toNat * sz + j) by omega]; exact this
        · have hj := (List.getElem?_eq_some_iff.1 hz').1
          exact hr _ z (by rw [flat_get hs n.toNat j hd (by omega)]; exact hz')
    · rename_i m off len
      split at h
      case isFalse => cases h
      rename_i hb
      split at h
      case h_2 => cases h
      rename_i sz es hm
      split at h
      case isFalse => cases h
      rename_i hs
      cases h
      have hrel := hst.rel m
      rw [hm] at hrel
      rw [← (arr_all hrel).2.2.2.1] at hs
      cases hx with
      | sl m off len cap h hl =>
        refine ⟨_, ?_, .eptr m (off + n.toNat) 0⟩
        rw [run_indexAt_slice (P := P) w t _ len cap k n (under_elem ht), if_pos hb, elem_of ht]
        simp [run_sizeOf hs, Addr.add_mid, Nat.add_mul]
      | sl0 m off a _ => omega
    · cases h
  · rename_i len e ht
    split at h
    case h_2 => cases h
    rename_i m hm
    split at h
    case isFalse => cases h
    rename_i hb
    have hrun : ∀ b o, (Instr.indexAt t (.pointer (some ⟨b, o, none⟩)) (.int k n)).run P w = .ok (.pointer (some ⟨b, o + n.toNat * m, none⟩)) w := by
      intro b o
      simp only [Instr.indexAt, Sem.run_bind, asIntOf, Sem.run_pure, Result.andThen_ok, run_underlying ht, Instr.sureAddr]
      simp [hb.1, hb.2, run_sizeOf hm, Addr.add_mid]
    split at h
    · cases h; cases hx; exact ⟨_, hrun _ _, .ptr _ _⟩
    · rename_i d
      split at h
      case h_2 => cases h
      rename_i agg hagg
      split at h
      case isFalse => cases h
      simp only [Option.map_eq_some_iff] at h
      obtain ⟨y, hy, rfl⟩ := h
      have hx := hx.of_p
      obtain ⟨b, o', rfl, _⟩ := PRel.cptr_lies (L := L) hx
      exact ⟨_, hrun b o', .p _ _ (cptr_sub hx hy)⟩
    · cases h
  · cases h
end
end Go.Am
end

section
namespace Go.Am
open Go
section
variable {P : Program} {B : Nat → Prop} {L : Loc} {w : World}
theorem boundsA_sound {isSlice : Bool} {len cap : Nat} {lo hi : Option V} {vlo vhi : Option Value} {l h : Nat} (hlo : ∀ v, lo = some v → ∃ u, vlo = some u ∧ VRel B L w v u) (hlo' : lo = none → vlo = none)
    (hhi : ∀ v, hi = some v → ∃ u, vhi = some u ∧ VRel B L w v u) (hhi' : hi = none → vhi = none) (hb : boundsA len cap lo hi = some (l, h)) (c : Nat) (hc : cap ≤ c) :
    (Instr.sliceBounds isSlice len c vlo vhi none).run P w = .ok (l, h, c) w ∧ l ≤ h ∧ h ≤ cap := by
  unfold boundsA at hb
  split at hb
  case h_2 => cases hb
  rename_i h' l' hh hl
  split at hb
  case isFalse => cases hb
  rename_i hcond
  cases hb
  obtain ⟨h0, h1, h2⟩ := hcond
  have eh : (h'.toNat : Int) = h' := Int.toNat_of_nonneg (by omega)
  have el : (l'.toNat : Int) = l' := Int.toNat_of_nonneg h0
  refine ⟨?_, by omega, by omega⟩
  have hlow : ∀ (y : Nat) code, l' ≤ (y : Int) → (match vlo with | some v => Instr.sliceBound v y code | none => pure 0 : Sem Nat).run P w = .ok l'.toNat w := by
    intro y code hy
    cases lo with
    | none => rw [hlo' rfl]; simp at hl; subst hl; rfl
    | some v =>
      obtain ⟨u, hu, hr⟩ := hlo v rfl
      simp at hl
      obtain ⟨k, rfl⟩ := idxI_sound hr hl
      rw [hu]
      exact run_sliceBound w k l' y _ h0 hy
  have hhigh : ∀ code, (match vhi with | some v => Instr.sliceBound v c code | none => pure len : Sem Nat).run P w = .ok h'.toNat w := by
    intro code
    cases hi with
    | none => rw [hhi' rfl]; simp at hh; subst hh; simp
    | some v =>
      obtain ⟨u, hu, hr⟩ := hhi v rfl
      simp at hh
      obtain ⟨k, rfl⟩ := idxI_sound hr hh
      rw [hu]
      exact run_sliceBound w k h' c _ (by omega) (by omega)
  have e1 := hhigh (if isSlice then .sliceAcap else .sliceAlen)
  have e2 := hlow h'.toNat .sliceB (by omega)
  unfold Instr.sliceBounds
  cases vhi with
  | none =>
    cases vlo with
    | none => simp at e1 e2 ⊢; simp [e1, ← e2]
    | some x => simp at e1 e2 ⊢; simp [e1, e2]
  | some y =>
    cases vlo with
    | none => simp at e1 e2 ⊢; simp [e1, ← e2]
    | some x => simp at e1 e2 ⊢; simp [e1, e2]
theorem lst_part {ex : Bool} {xs : List PV} {a : Option Addr} {len cap n l h : Nat} (hx : PRel B w (.lst ex xs) (.slice a len cap)) (hs : ∀ x ∈ xs, x.cells.length = n) (h1 : l ≤ h) (h2 : h ≤ xs.length) (ex' : Bool) (m : Nat) (hm : h ≤ m) (hmc : m ≤ cap)
    (he : ex' = true → m = h) : PRel B w (.lst ex' ((xs.drop l).take (h - l))) (sliced a l h m n) := by
  by_cases hlh : l = h
  · subst hlh
    rw [Nat.sub_self, List.take_zero]
    simp only [sliced, Nat.sub_self]
    refine .lst0 ex' _ _ (fun e => by have := he e; omega) (fun e => ?_)
    split at e
    · omega
    · cases hx with
      | lst0 ex a cap he hn =>
        cases a with
        | none => have := hn rfl; omega
        | some a => cases e
      | lst ex l' b o cap sz u hb hw hz hsz hf hcap' he' hc hr => cases e
  · have hlen : ((xs.drop l).take (h - l)).length = h - l := by simp; omega
    cases hx with
    | lst0 => simp at h2; omega
    | lst ex l' b o cap sz u hb hw hz hsz hf hcap' he' hc hr =>
      have hne : xs ≠ [] := by intro e; subst e; simp at h2; omega
      have hszn : sz = n := by
        obtain ⟨x, hx⟩ := List.exists_mem_of_ne_nil xs hne
        rw [← hsz x hx]; exact hs x hx
      subst hszn
      have hfl : flat ((xs.drop l).take (h - l)) = ((flat xs).drop (l * sz)).take ((h - l) * sz) := by
        rw [flat_take (fun x hx => hs x (List.mem_of_mem_drop hx)) (h - l) (by simp; omega), flat_drop hs l (by omega)]
      have hml : m ≠ l := by omega
      have hfll := flat_length hs
      have hmul : (h - l) * sz + l * sz = h * sz := by rw [← Nat.add_mul]; congr 1; omega
      have hmul2 : h * sz ≤ xs.length * sz := Nat.mul_le_mul_right _ h2
      simp only [sliced, if_neg hml, Option.map_some, Addr.add_mid]
      have := PRel.lst (B := B) (w := w) ex' ((xs.drop l).take (h - l)) b (o + l * sz) (m - l) sz (fun k => u (l * sz + k)) hb hw hz
        (fun x hx => hs x (List.mem_of_mem_drop (List.mem_of_mem_take hx))) (fun x hx => by rw [hfl] at hx; exact hf x (List.mem_of_mem_drop (List.mem_of_mem_take hx))) (by omega) (fun e => ⟨by have := he e; omega, fun e' => by rw [e'] at hlen; simp at hlen; omega⟩)
        (fun k hk => by
          rw [hfl, List.length_take, List.length_drop] at hk
          have := hc (l * sz + k) (by omega)
          rw [show o + l * sz + k = o + (l * sz + k) by omega]; exact this)
        (fun k x hx => by
          rw [hfl, List.getElem?_take] at hx
          split at hx
          · rw [List.getElem?_drop] at hx; exact hr _ x hx
          · cases hx)
      rw [hlen] at this
      exact this
theorem bounds3_sound {len cap M : Nat} {km : IntKind} {lo hi : Option V} {vlo vhi : Option Value} {l h' : Nat} (hlo : ∀ v, lo = some v → ∃ u, vlo = some u ∧ VRel B L w v u) (hlo' : lo = none → vlo = none)
    (hhi : ∀ v, hi = some v → ∃ u, vhi = some u ∧ VRel B L w v u) (hsome : hi.isSome = true) (hb : boundsA len M lo hi = some (l, h')) (hc : M ≤ cap) :
    (Instr.sliceBounds true len cap vlo vhi (some (.int km (M : Int)))).run P w = .ok (l, h', M) w ∧ l ≤ h' ∧ h' ≤ M := by
  unfold boundsA at hb
  split at hb
  case h_2 => cases hb
  rename_i hh' l' hh hl
  split at hb
  case isFalse => cases hb
  rename_i hcond
  simp only [Option.some.injEq, Prod.mk.injEq] at hb
  obtain ⟨rfl, rfl⟩ := hb
  obtain ⟨h0, h1, h2⟩ := hcond
  have eh : (hh'.toNat : Int) = hh' := Int.toNat_of_nonneg (by omega)
  refine ⟨?_, by omega, by omega⟩
  cases hi with
  | none => simp at hsome
  | some v =>
    obtain ⟨u, hu, hr⟩ := hhi v rfl
    simp at hh
    obtain ⟨k, rfl⟩ := idxI_sound hr hh
    subst hu
    cases lo with
    | none =>
      rw [hlo' rfl]
      simp at hl; subst hl
      simp only [Instr.sliceBounds]
      simp [run_sliceBound, (by omega : (M : Int) ≤ (cap : Int)), (by omega : 0 ≤ hh'), h2]
    | some v' =>
      obtain ⟨u', hu', hr'⟩ := hlo v' rfl
      simp at hl
      obtain ⟨k', rfl⟩ := idxI_sound hr' hl
      subst hu'
      simp only [Instr.sliceBounds]
      simp [run_sliceBound, eh, (by omega : (M : Int) ≤ (cap : Int)), (by omega : 0 ≤ hh'), h0, h1, h2]
theorem sliceA_sound {H : Heap} {t : TypeId} {x r : V} {vx : Value} {lo hi mx : Option V} {vlo vhi vmx : Option Value} (hst : St B L w H) (hx : VRel B L w x vx) (hlo : ∀ v, lo = some v → ∃ u, vlo = some u ∧ VRel B L w v u) (hlo' : lo = none → vlo = none)
    (hhi : ∀ v, hi = some v → ∃ u, vhi = some u ∧ VRel B L w v u) (hhi' : hi = none → vhi = none) (hmx : ∀ v, mx = some v → ∃ u, vmx = some u ∧ VRel B L w v u) (hmx' : mx = none → vmx = none)
    (h : sliceA P (Heap.at H) t x lo hi mx = some r) : ∃ u, (Instr.sliceAt t vx vlo vhi vmx).run P w = .ok u w ∧ VRel B L w r u := by
  unfold sliceA at h
  replace hx := hx.nn
  generalize x.nn = x at h hx
  split at h
  · rename_i s ht
    simp only [Option.map_eq_some_iff] at h
    obtain ⟨⟨l, h'⟩, hb, rfl⟩ := h
    cases hx.of_p
    rw [hmx' rfl]
    obtain ⟨hr, h1, h2⟩ := boundsA_sound (P := P) (isSlice := false) hlo hlo' hhi hhi' hb s.length (Nat.le_refl _)
    refine ⟨_, ?_, .p _ _ (.str _)⟩
    rw [run_sliceAt_string w t _ _ _ _ ht]
    simp only [Instr.slice, Sem.run_bind, run_underlying ht, Result.andThen_ok]
    simp only [Option.isSome_none, Bool.false_eq_true, if_false, Sem.run_bind, Sem.run_pure]
    have hsz : (⟨s.toArray⟩ : ByteArray).size = s.length := by simp [ByteArray.size]
    rw [hsz, hr]
    simp only [Result.andThen_ok]
    congr 2
    apply ByteArray.ext
    rw [ByteArray.data_extract]
    apply Array.ext'
    simp
  · rename_i e ex xs ht
    split at h
    case h_2 => cases h
    rename_i n hn
    split at h
    case isFalse => cases h
    rename_i hs
    simp only [Option.map_eq_some_iff] at h
    obtain ⟨⟨l, h'⟩, hb, rfl⟩ := h
    rw [hmx' rfl]
    obtain ⟨a, cap, rfl, hleaf, hlies⟩ := lst_shows (L := L) hx.of_p
    have hcap : xs.length ≤ cap ∧ (ex = true → cap = xs.length) := by
      cases hx.of_p with
      | lst0 ex a cap he hn => exact ⟨Nat.zero_le _, fun e => he e⟩
      | lst ex l b o cap sz u hb hw hz hs hf hcap he hc hr => exact ⟨hcap, fun e => (he e).1⟩
    obtain ⟨hr, h1, h2⟩ := boundsA_sound (P := P) (isSlice := true) hlo hlo' hhi hhi' hb cap hcap.1
    refine ⟨sliced a l h' cap n, ?_, .p _ _ (lst_part hx.of_p hs h1 h2 _ cap (by omega) (Nat.le_refl _) (fun e => ?_))⟩
    · rw [run_sliceAt_slice w t _ _ _ _ (under_elem ht), run_slice_any w t a _ cap (under_elem ht), hr, elem_of ht]
      simp [run_sizeOf hn]
    · simp only [Bool.and_eq_true, beq_iff_eq] at e
      rw [hcap.2 e.1, e.2]
  · rename_i e ex xs m ht
    split at h
    case h_2 => cases h
    rename_i m' n hm hn
    split at h
    case h_2 => cases h
    rename_i l h' hb
    split at h
    case isFalse => cases h
    rename_i hcond
    cases h
    obtain ⟨hle, hmh, hsome, hs⟩ := hcond
    subst hmh
    obtain ⟨a, cap, rfl, hleaf, hlies⟩ := lst_shows (L := L) hx.of_p
    have hcap : xs.length ≤ cap := by
      cases hx.of_p with
      | lst0 ex a cap he hn => exact Nat.zero_le _
      | lst ex l b o cap sz u hb hw hz hs hf hcap he hc hr => exact hcap
    obtain ⟨um, hum, hrm⟩ := hmx m rfl
    obtain ⟨km, rfl⟩ := idxI_sound hrm hm
    -- the bounds, with the third index
    have hbnd : (Instr.sliceBounds true xs.length cap vlo vhi (some (.int km (h' : Int)))).run P w = .ok (l, h', h') w ∧ l ≤ h' := by
      unfold boundsA at hb
      split at hb
      case h_2 => cases hb
      rename_i hh' l' hh hl
      split at hb
      case isFalse => cases hb
      rename_i hcond
      simp only [Option.some.injEq, Prod.mk.injEq] at hb
      obtain ⟨rfl, rfl⟩ := hb
      obtain ⟨h0, h1, h2⟩ := hcond
      have eh : (hh'.toNat : Int) = hh' := Int.toNat_of_nonneg (by omega)
      refine ⟨?_, by omega⟩
      cases hi with
      | none =>
        simp at hsome
      | some v =>
        obtain ⟨u, hu, hr⟩ := hhi v rfl
        simp at hh
        obtain ⟨k, rfl⟩ := idxI_sound hr hh
        subst hu
        cases lo with
        | none =>
          rw [hlo' rfl]
          simp at hl; subst hl
          simp only [Instr.sliceBounds]
          simp [run_sliceBound, eh, (by omega : hh' ≤ (cap : Int)), (by omega : 0 ≤ hh')]
        | some v' =>
          obtain ⟨u', hu', hr'⟩ := hlo v' rfl
          simp at hl
          obtain ⟨k', rfl⟩ := idxI_sound hr' hl
          subst hu'
          simp only [Instr.sliceBounds]
          simp [run_sliceBound, eh, (by omega : hh' ≤ (cap : Int)), (by omega : 0 ≤ hh'), h0, h1]
    refine ⟨sliced a l h' h' n, ?_, .p _ _ (lst_part hx.of_p hs hbnd.2 hle _ h' (Nat.le_refl _) (by omega) (fun _ => rfl))⟩
    rw [hum, run_sliceAt_slice w t _ _ _ _ (under_elem ht), run_slice_any w t a _ cap (under_elem ht), hbnd.1, elem_of ht]
    simp [run_sizeOf hn]
  · rename_i e m off len ht
    split at h
    case h_2 => cases h
    rename_i sz es hm
    split at h
    case isFalse => cases h
    rename_i hsz
    simp only [Option.map_eq_some_iff] at h
    obtain ⟨⟨l, h'⟩, hb, rfl⟩ := h
    rw [hmx' rfl]
    have hrel := hst.rel m
    rw [hm] at hrel
    have hs := (arr_all hrel).2.2.2.1
    have hesc := (arr_all hrel).2.2.2.2
    cases hx with
    | sl m off len cap hc hl =>
      obtain ⟨hr, h1, h2⟩ := boundsA_sound (P := P) (isSlice := true) hlo hlo' hhi hhi' hb cap (by omega)
      refine ⟨sliced (some ⟨L.blk m, off * L.sz m, none⟩) l h' cap sz, ?_, ?_⟩
      · rw [run_sliceAt_slice w t _ _ _ _ (under_elem ht), run_slice_any w t _ _ cap (under_elem ht), hr, elem_of ht]
        simp [run_sizeOf hsz]
      · simp only [sliced]
        by_cases hcl : cap = l
        · rw [if_pos hcl]
          have : h' - l = 0 := by omega
          rw [this, hcl, Nat.sub_self]
          exact .sl0 _ _ _ (by omega)
        · rw [if_neg hcl]
          simp only [Option.map_some, Addr.add_mid]
          rw [show off * L.sz m + l * sz = (off + l) * L.sz m by rw [hs, Nat.add_mul]]
          exact .sl m (off + l) (h' - l) (cap - l) (by omega) (by omega)
    | sl0 m off a hoc =>
      obtain ⟨hr, h1, h2⟩ := boundsA_sound (P := P) (isSlice := true) hlo hlo' hhi hhi' hb 0 (by omega)
      refine ⟨sliced a l h' 0 sz, ?_, ?_⟩
      · rw [run_sliceAt_slice w t _ _ _ _ (under_elem ht), run_slice_any w t _ _ 0 (under_elem ht), hr, elem_of ht]
        simp [run_sizeOf hsz]
      · obtain rfl : h' = 0 := by omega
        obtain rfl : l = 0 := by omega
        exact .sl0 _ _ _ (by omega)
  · rename_i e m off len mx ht
    split at h
    case h_2 => cases h
    rename_i ty sz es mx' hm hmx2
    split at h
    case isFalse => cases h
    rename_i hcond
    obtain ⟨hsz, hsome, hm0, hmc⟩ := hcond
    simp only [Option.map_eq_some_iff] at h
    obtain ⟨⟨l, h'⟩, hb, rfl⟩ := h
    obtain ⟨um, hum, hrm⟩ := hmx _ rfl
    obtain ⟨km, rfl⟩ := idxI_sound hrm hmx2
    have hrel := hst.rel m
    rw [hm] at hrel
    have hesc := (arr_all hrel).2.2.2.2
    obtain ⟨M, rfl⟩ := Int.eq_ofNat_of_zero_le hm0
    rw [Int.toNat_natCast] at hb
    cases hx with
    | sl m off len cap hc hl =>
      obtain ⟨hr, h1, h2⟩ := bounds3_sound (P := P) (km := km) hlo hlo' hhi hsome hb (cap := cap) (by omega)
      refine ⟨sliced (some ⟨L.blk m, off * L.sz m, none⟩) l h' M sz, ?_, .junk _⟩
      rw [hum, run_sliceAt_slice w t _ _ _ _ (under_elem ht), run_slice_any w t _ _ cap (under_elem ht), hr, elem_of ht]
      simp [run_sizeOf hsz]
    | sl0 m off a hoc =>
      obtain ⟨hr, h1, h2⟩ := bounds3_sound (P := P) (km := km) hlo hlo' hhi hsome hb (cap := 0) (by omega)
      refine ⟨sliced a l h' M sz, ?_, .junk _⟩
      rw [hum, run_sliceAt_slice w t _ _ _ _ (under_elem ht), run_slice_any w t _ _ 0 (under_elem ht), hr, elem_of ht]
      simp [run_sizeOf hsz]
  · cases h
end
end Go.Am
end
