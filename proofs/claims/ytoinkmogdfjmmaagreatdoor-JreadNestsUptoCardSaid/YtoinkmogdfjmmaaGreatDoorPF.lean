/-
Trees of values, as data of the machine.
-/
import Derived.Test.YtoinkmogdfjmmaaGreatDoorPE
import Derived.Lib.ItoaLen
import Derived.Lib.Repeat
import Derived.Shelf.Strconv.ParseIntPublic10
import Derived.Test.YtoinkmogdfjmmaaGreatDoorProg
import Derived.Lib.IndexAny
import Derived.Lib.ParseIntBCases

section
namespace Go.Am
open Go
abbrev Str := List UInt8
inductive Tree where
  | mk (kind n : Int) (s : Str) (l : List Tree) (m : List (Str × Tree))
  deriving Inhabited
namespace Tree
def kind : Tree → Int | .mk k _ _ _ _ => k
def n : Tree → Int | .mk _ n _ _ _ => n
def s : Tree → Str | .mk _ _ s _ _ => s
def l : Tree → List Tree | .mk _ _ _ l _ => l
def m : Tree → List (Str × Tree) | .mk _ _ _ _ m => m
mutual
def enc : Tree → PV
  | .mk k n s l m => .agg [.int .i64 k, .int .i64 n, .str s, .lst false (encL l), .lst false (encM m)]
def encL : List Tree → List PV
  | [] => []
  | t :: l => enc t :: encL l
def encM : List (Str × Tree) → List PV
  | [] => []
  | p :: m => encP p :: encM m
def encP : Str × Tree → PV
  | (k, t) => .agg (.str k :: (enc t).cells)
end
mutual
def nodes : Tree → Nat
  | .mk _ _ _ l m => 1 + nodesL l + nodesM m
def nodesL : List Tree → Nat
  | [] => 0
  | t :: l => nodes t + nodesL l
def nodesM : List (Str × Tree) → Nat
  | [] => 0
  | p :: m => nodesP p + nodesM m
def nodesP : Str × Tree → Nat
  | (_, t) => nodes t
end
mutual
def depth : Tree → Nat
  | .mk _ _ _ l m => 1 + max (depthL l) (depthM m)
def depthL : List Tree → Nat
  | [] => 0
  | t :: l => max (depth t) (depthL l)
def depthM : List (Str × Tree) → Nat
  | [] => 0
  | p :: m => max (depthP p) (depthM m)
def depthP : Str × Tree → Nat
  | (_, t) => depth t
end
theorem encL_eq : ∀ l : List Tree, encL l = l.map enc
  | [] => rfl
  | t :: l => by rw [encL, encL_eq l]; rfl
theorem encM_eq : ∀ m : List (Str × Tree), encM m = m.map encP
  | [] => rfl
  | p :: m => by rw [encM, encM_eq m]; rfl
theorem encL_length (l : List Tree) : (encL l).length = l.length := by rw [encL_eq, List.length_map]
theorem encM_length (m : List (Str × Tree)) : (encM m).length = m.length := by rw [encM_eq, List.length_map]
theorem encL_get {l : List Tree} {i : Nat} {t : Tree} (h : l[i]? = some t) : (encL l)[i]? = some (enc t) := by rw [encL_eq, List.getElem?_map, h]; rfl
theorem encM_get {m : List (Str × Tree)} {i : Nat} {p : Str × Tree} (h : m[i]? = some p) : (encM m)[i]? = some (encP p) := by rw [encM_eq, List.getElem?_map, h]; rfl
theorem encM_append (l r : List (Str × Tree)) : encM (l ++ r) = encM l ++ encM r := by simp [encM_eq]
theorem enc_cells : ∀ t : Tree, (enc t).cells.length = 5
  | .mk _ _ _ _ _ => rfl
theorem encP_cells : ∀ p : Str × Tree, (encP p).cells.length = 6
  | (_, .mk _ _ _ _ _) => rfl
theorem enc_isAgg : ∀ t : Tree, (enc t).isAgg = true
  | .mk _ _ _ _ _ => rfl
theorem enc_leaf : ∀ (t : Tree), ∀ c ∈ (enc t).cells, c.leaf = true
  | .mk _ _ _ _ _ => by simp [enc, PV.cells, PV.leaf]
theorem encP_leaf : ∀ (p : Str × Tree), ∀ c ∈ (encP p).cells, c.leaf = true
  | (_, .mk _ _ _ _ _) => by simp [encP, enc, PV.cells, PV.leaf]
theorem nodesL_mem {l : List Tree} {t : Tree} (h : t ∈ l) : nodes t ≤ nodesL l := by
  induction l with
  | nil => simp at h
  | cons x l ih =>
    rw [nodesL]
    rcases List.mem_cons.1 h with rfl | h
    · omega
    · have := ih h; omega
theorem nodesM_mem {m : List (Str × Tree)} {p : Str × Tree} (h : p ∈ m) : nodes p.2 ≤ nodesM m := by
  induction m with
  | nil => simp at h
  | cons x l ih =>
    rw [nodesM]
    rcases List.mem_cons.1 h with rfl | h
    · obtain ⟨a, b⟩ := p; simp [nodesP]
    · have := ih h; omega
theorem nodes_l {t x : Tree} (h : x ∈ t.l) : nodes x < nodes t := by
  obtain ⟨k, n, s, l, m⟩ := t
  have := nodesL_mem (show x ∈ l from h)
  rw [nodes.eq_def (.mk k n s l m)]
  simp only []
  omega
theorem nodes_m {t : Tree} {p : Str × Tree} (h : p ∈ t.m) : nodes p.2 < nodes t := by
  obtain ⟨k, n, s, l, m⟩ := t
  have := nodesM_mem (show p ∈ m from h)
  rw [nodes.eq_def (.mk k n s l m)]
  simp only []
  omega
theorem ind {p : Tree → Prop} (h : ∀ t : Tree, (∀ x ∈ t.l, p x) → (∀ x ∈ t.m, p x.2) → p t) : ∀ t, p t := by
  intro t
  generalize hn : nodes t = q
  induction q using Nat.strongRecOn generalizing t with
  | ind q ih =>
    subst hn
    exact h t (fun x hx => ih _ (nodes_l hx) x rfl) (fun x hx => ih _ (nodes_m hx) x.2 rfl)
theorem eta (t : Tree) : t = .mk t.kind t.n t.s t.l t.m := by cases t; rfl
theorem enc_eta (t : Tree) : enc t = .agg [.int .i64 t.kind, .int .i64 t.n, .str t.s, .lst false (encL t.l), .lst false (encM t.m)] := by cases t; rfl
end Tree
theorem ElemZ.tree {l : List Tree} {i : Nat} {K : PV → Prop} {t : Tree} (h : l[i]? = some t) (k : K t.enc) : ElemZ (Tree.encL l) i 5 K := ⟨_, Tree.encL_get h, Tree.enc_cells t, k⟩
theorem ElemZ.pair {m : List (Str × Tree)} {i : Nat} {K : PV → Prop} {p : Str × Tree} (h : m[i]? = some p) (k : K (Tree.encP p)) : ElemZ (Tree.encM m) i 6 K := ⟨_, Tree.encM_get h, Tree.encP_cells p, k⟩
theorem CLe.eq {c c' : CR} (h : c = c') : CLe c c' := h ▸ CLe.refl c
theorem CLe.retP {d e : PV} {H : Heap} {mv : List Nat} (h : d = e) : CLe ⟨.ret (.p d), H, mv⟩ ⟨.ret (.p e), H, mv⟩ := by rw [h]; exact CLe.refl _
theorem drop_cons {α : Type} {l : List α} {i : Nat} {x : α} (h : l[i]? = some x) : l.drop i = x :: l.drop (i + 1) := by
  obtain ⟨hi, rfl⟩ := List.getElem?_eq_some_iff.1 h
  exact List.drop_eq_getElem_cons hi
end Go.Am
namespace Go.Am
theorem strNil (s : Str) : (s = []) = (s.length = 0) := by simp
theorem not_strNil (s : Str) : (¬ s = []) = (0 < s.length) := by simp [List.length_pos_iff]
end Go.Am
namespace Go.Am
theorem isEmptyCons {α : Type} (a : α) (l : List α) : (a :: l).isEmpty = false := rfl
theorem Br.not {c : Bool} {A B : Prop} (h : Br c B A) : Br (!c) A B := ⟨fun e => h.f (by simpa using e), fun e => h.t (by simpa using e)⟩
end Go.Am
namespace Go.Am
theorem Br.dec {p : Prop} [inst : Decidable p] {A B : Prop} (t : p → A) (f : ¬ p → B) : Br (decide p) A B := ⟨fun h => t (of_decide_eq_true h), fun h => f (of_decide_eq_false h)⟩
theorem Br.ndec {p : Prop} [inst : Decidable p] {A B : Prop} (t : ¬ p → A) (f : p → B) : Br (!decide p) A B := ⟨fun h => t (of_decide_eq_false (by simpa using h)), fun h => f (of_decide_eq_true (by simpa using h))⟩
end Go.Am
namespace Go.Am
namespace Tree
mutual
def wt : Tree → Nat
  | .mk _ _ s l m => 1 + s.length + wtL l + wtM m
def wtL : List Tree → Nat
  | [] => 0
  | t :: l => wt t + wtL l
def wtM : List (Str × Tree) → Nat
  | [] => 0
  | p :: m => wtP p + wtM m
def wtP : Str × Tree → Nat
  | (k, t) => k.length + wt t
end
theorem wt_pos : ∀ t : Tree, 0 < wt t
  | .mk _ _ _ _ _ => by simp [wt]; omega
theorem wtL_mem {l : List Tree} {t : Tree} (h : t ∈ l) : wt t ≤ wtL l := by
  induction l with
  | nil => simp at h
  | cons x l ih =>
    rw [wtL]
    rcases List.mem_cons.1 h with rfl | h
    · omega
    · have := ih h; omega
theorem wtM_mem {m : List (Str × Tree)} {p : Str × Tree} (h : p ∈ m) : p.1.length + wt p.2 ≤ wtM m := by
  induction m with
  | nil => simp at h
  | cons x l ih =>
    rw [wtM]
    rcases List.mem_cons.1 h with rfl | h
    · obtain ⟨a, b⟩ := p; simp [wtP]
    · have := ih h; omega
theorem wtL_len : ∀ l : List Tree, l.length ≤ wtL l
  | [] => by simp [wtL]
  | t :: l => by have := wtL_len l; have := wt_pos t; simp only [wtL, List.length_cons]; omega
theorem wtM_len : ∀ l : List (Str × Tree), l.length ≤ wtM l
  | [] => by simp [wtM]
  | (k, t) :: l => by have := wtM_len l; have := wt_pos t; simp only [wtM, wtP, List.length_cons]; omega
theorem wt_eq (t : Tree) : wt t = 1 + t.s.length + wtL t.l + wtM t.m := by cases t; simp [wt, s, l, m]
theorem wt_ll (t : Tree) : t.l.length < wt t := by rw [wt_eq]; have := wtL_len t.l; omega
theorem wt_ml (t : Tree) : t.m.length < wt t := by rw [wt_eq]; have := wtM_len t.m; omega
theorem wt_l {t x : Tree} (h : x ∈ t.l) : wt x < wt t := by rw [wt_eq t]; have := wtL_mem h; omega
theorem wt_m {t : Tree} {p : Str × Tree} (h : p ∈ t.m) : p.1.length + wt p.2 < wt t := by rw [wt_eq t]; have := wtM_mem h; omega
theorem indW {B : Nat} {p : Tree → Prop} (h : ∀ t : Tree, wt t ≤ B → (∀ x ∈ t.l, wt x ≤ B ∧ p x) → (∀ x ∈ t.m, x.1.length ≤ B ∧ wt x.2 ≤ B ∧ p x.2) → p t) : ∀ t, wt t ≤ B → p t := by
  refine ind ?_
  intro t hl hm hw
  refine h t hw (fun x hx => ?_) (fun x hx => ?_)
  · have := wt_l hx
    exact ⟨by omega, hl x hx (by omega)⟩
  · have := wt_m hx
    exact ⟨by omega, by omega, hm x hx (by omega)⟩
end Tree
end Go.Am
namespace Go.Am
end Go.Am
namespace Go.Am
theorem NN : Int.toNat 0 = 0 ∧ Int.toNat 1 = 1 ∧ Int.toNat 2 = 2 ∧ Int.toNat 3 = 3 ∧ Int.toNat 4 = 4 ∧ Int.toNat 5 = 5 ∧ Int.toNat 6 = 6 ∧ Int.toNat 7 = 7 ∧ Int.toNat 8 = 8 ∧ Int.toNat 9 = 9 ∧ Int.toNat 10 = 10 ∧ Int.toNat 11 = 11 ∧ Int.toNat 12 = 12 ∧ Int.toNat 16 = 16 ∧ Int.toNat 18 = 18 := by decide
theorem CC : (∀ l : List PV, PV.cells (.agg l) = l) ∧ (∀ (b : Bool), PV.cells (PV.bool b) = [PV.bool b]) ∧ (∀ (k : IntKind) (n : Int), PV.cells (PV.int k n) = [PV.int k n]) ∧ (∀ (s : List UInt8), PV.cells (PV.str s) = [PV.str s]) ∧ (∀ (e : Bool) (l : List PV), PV.cells (PV.lst e l) = [PV.lst e l]) ∧ (∀ (l : List PV), PV.cells (PV.tup l) = [PV.tup l]) ∧ PV.cells PV.nilptr = [PV.nilptr] ∧ PV.cells PV.nilmap = [PV.nilmap] ∧ PV.cells PV.nilfunc = [PV.nilfunc] ∧ PV.cells PV.nili = [PV.nili] ∧ (∀ (f : Fn), PV.cells (PV.fn f) = [PV.fn f]) ∧ (∀ (t : TypeId) (v : PV), PV.cells (PV.iface t v) = [PV.iface t v]) ∧ (∀ (v : PV), PV.cells (PV.cptr v) = [PV.cptr v]) ∧ PV.cells PV.anyp = [PV.anyp] ∧ PV.cells PV.nils = [PV.nils] ∧ (∀ l : List PV, PV.leaf (.agg l) = false) ∧ (∀ (b : Bool), PV.leaf (PV.bool b) = true) ∧ (∀ (k : IntKind) (n : Int), PV.leaf (PV.int k n) = true) ∧ (∀ (s : List UInt8), PV.leaf (PV.str s) = true) ∧ (∀ (e : Bool) (l : List PV), PV.leaf (PV.lst e l) = true) ∧ (∀ (l : List PV), PV.leaf (PV.tup l) = false) ∧ PV.leaf PV.nilptr = true ∧ PV.leaf PV.nilmap = true ∧ PV.leaf PV.nilfunc = true ∧ PV.leaf PV.nili = true ∧ (∀ (f : Fn), PV.leaf (PV.fn f) = true) ∧ (∀ (t : TypeId) (v : PV), PV.leaf (PV.iface t v) = true) ∧ (∀ (v : PV), PV.leaf (PV.cptr v) = true) ∧ PV.leaf PV.anyp = true ∧ PV.leaf PV.nils = true ∧ (∀ b : UInt8, byteP b = .int .u8 b.toNat) := by
  refine ⟨fun _ => rfl, fun _ => rfl, fun _ _ => rfl, fun _ => rfl, fun _ _ => rfl, fun _ => rfl, rfl, rfl, rfl, rfl, fun _ => rfl, fun _ _ => rfl, fun _ => rfl, rfl, rfl, fun _ => rfl, fun _ => rfl, fun _ _ => rfl, fun _ => rfl, fun _ _ => rfl, fun _ => rfl, rfl, rfl, rfl, rfl, fun _ => rfl, fun _ _ => rfl, fun _ => rfl, rfl, rfl, fun _ => rfl⟩
theorem ZZ : (∀ (p : Prop) [Decidable p], (decide p = true) = p) ∧ (∀ (p : Prop) [Decidable p], (decide p = false) = ¬ p) ∧ (∀ b : Bool, ((!b) = true) = (b = false)) ∧ (∀ b : Bool, ((!b) = false) = (b = true)) ∧
    (∀ a b : Bool, ((a || b) = true) = (a = true ∨ b = true)) ∧ (∀ a b : Bool, ((a || b) = false) = (a = false ∧ b = false)) ∧ (∀ a b : Bool, ((a && b) = true) = (a = true ∧ b = true)) ∧ (∀ a b : Bool, ((a && b) = false) = (a = false ∨ b = false)) ∧
    (∀ b : Bool, (!(!b)) = b) ∧ (∀ s : Str, (s = []) = (s.length = 0)) ∧ (∀ s : Str, (¬ s = []) = (0 < s.length)) ∧ (∀ b : Bool, (¬ (b = true)) = (b = false)) ∧ (∀ b : Bool, (¬ (b = false)) = (b = true)) :=
  ⟨fun _ _ => by simp, fun _ _ => by simp, by simp, by simp, by simp, by simp, by simp, fun _ _ => propext Bool.and_eq_false_iff, by simp, strNil, not_strNil, by simp, by simp⟩
theorem InR.natK {k : IntKind} {n : Nat} (h : n < 2 ^ (k.bits - 1)) : InR k n := by
  cases k <;> simp only [IntKind.bits, Nat.reduceSub, Nat.reducePow] at h <;> (constructor <;> omega)
theorem bv_nat (w a : Nat) : (BitVec.ofInt w (a : Int)) = BitVec.ofNat w a := BitVec.ofInt_natCast w a
theorem iand_nat {k : IntKind} {a b : Nat} (ha : a < 2 ^ k.bits) (hb : b < 2 ^ (k.bits - 1)) : iand k a b = ((a &&& b : Nat) : Int) := by
  have hb' : b < 2 ^ k.bits := Nat.lt_of_lt_of_le hb (Nat.pow_le_pow_right (by omega) (Nat.sub_le _ _))
  unfold iand
  rw [bv_nat, bv_nat, BitVec.toNat_and, BitVec.toNat_ofNat, BitVec.toNat_ofNat, Nat.mod_eq_of_lt ha, Nat.mod_eq_of_lt hb']
  exact InR.wrap (InR.natK (Nat.lt_of_le_of_lt Nat.and_le_right hb))
theorem ior_nat {k : IntKind} {a b : Nat} (ha : a < 2 ^ (k.bits - 1)) (hb : b < 2 ^ (k.bits - 1)) : ior k a b = ((a ||| b : Nat) : Int) := by
  have ha' : a < 2 ^ k.bits := Nat.lt_of_lt_of_le ha (Nat.pow_le_pow_right (by omega) (Nat.sub_le _ _))
  have hb' : b < 2 ^ k.bits := Nat.lt_of_lt_of_le hb (Nat.pow_le_pow_right (by omega) (Nat.sub_le _ _))
  unfold ior
  rw [bv_nat, bv_nat, BitVec.toNat_or, BitVec.toNat_ofNat, BitVec.toNat_ofNat, Nat.mod_eq_of_lt ha', Nat.mod_eq_of_lt hb']
  exact InR.wrap (InR.natK (Nat.or_lt_two_pow ha hb))
theorem iand_low {k : IntKind} {a : Int} (q : Nat) (h0 : 0 ≤ a) (ha : a < 2 ^ k.bits) (hq : q < k.bits) : iand k a (2 ^ q - 1 : Nat) = a % 2 ^ q := by
  obtain ⟨n, rfl⟩ := Int.eq_ofNat_of_zero_le h0
  have hn : n < 2 ^ k.bits := by exact_mod_cast ha
  have hb : 2 ^ q - 1 < 2 ^ (k.bits - 1) := by
    have : 2 ^ q ≤ 2 ^ (k.bits - 1) := Nat.pow_le_pow_right (by omega) (by omega)
    have := Nat.pow_pos (n := q) (show 0 < 2 by omega)
    omega
  rw [iand_nat hn hb, Nat.and_two_pow_sub_one_eq_mod]
  simp
theorem iand63 {a : Int} (h0 : 0 ≤ a) (ha : a ≤ 9223372036854775807) : iand .i64 a 63 = a % 64 := by
  have h2 : a < 2 ^ (IntKind.i64).bits := by
    show a < 2 ^ 64
    omega
  have h3 := iand_low (k := .i64) 6 h0 h2 (by decide)
  rw [show ((2 ^ 6 - 1 : Nat) : Int) = 63 from rfl, show (2 : Int) ^ 6 = 64 from rfl] at h3
  exact h3
theorem ior_shift {a : Int} {q : Nat} {x : Int} (h0 : 0 ≤ a) (ha : a * 2 ^ q ≤ 9223372036854775807) (hx0 : 0 ≤ x) (hx : x < 2 ^ q) (hq : q < 63) : ior .i64 (a * 2 ^ q) x = a * 2 ^ q + x := by
  obtain ⟨n, rfl⟩ := Int.eq_ofNat_of_zero_le h0
  obtain ⟨y, rfl⟩ := Int.eq_ofNat_of_zero_le hx0
  have hy : y < 2 ^ q := by exact_mod_cast hx
  have hn : n * 2 ^ q < 2 ^ 63 := by
    have : ((n * 2 ^ q : Nat) : Int) ≤ 9223372036854775807 := by push_cast; exact ha
    have h : n * 2 ^ q ≤ 9223372036854775807 := Int.ofNat_le.1 (show ((n * 2 ^ q : Nat) : Int) ≤ ((9223372036854775807 : Nat) : Int) from this)
    omega
  have h2 : y < 2 ^ 63 := Nat.lt_trans hy (Nat.pow_lt_pow_right (by omega) hq)
  have e : ((n : Int) * 2 ^ q) = ((n * 2 ^ q : Nat) : Int) := by push_cast; rfl
  rw [e, ior_nat (k := .i64) hn h2, ← Nat.shiftLeft_eq, ← Nat.shiftLeft_add_eq_or_of_lt hy]
  push_cast
  rfl
theorem oct_and63 : ∀ n : Nat, n < 256 → iand .u8 n 63 = ((n % 64 : Nat) : Int) := by decide +kernel
theorem oct_and192 : ∀ n : Nat, n < 256 → (decide (iand .u8 n 192 = 128)) = decide (128 ≤ n ∧ n < 192) := by decide +kernel
theorem oct_andn192 : ∀ n : Nat, n < 256 → 192 ≤ n → iandn .u8 n 192 = ((n % 64 : Nat) : Int) := by decide +kernel
theorem oct_andn224 : ∀ n : Nat, n < 256 → 224 ≤ n → iandn .u8 n 224 = ((n % 32 : Nat) : Int) := by decide +kernel
theorem oct_andn240 : ∀ n : Nat, n < 256 → 240 ≤ n → iandn .u8 n 240 = ((n % 16 : Nat) : Int) := by decide +kernel
theorem oct_or128 : ∀ n : Nat, n < 64 → ior .i64 128 n = ((128 + n : Nat) : Int) := by decide +kernel
theorem oct_or192 : ∀ n : Nat, n < 32 → ior .i64 192 n = ((192 + n : Nat) : Int) := by decide +kernel
theorem oct_or224 : ∀ n : Nat, n < 16 → ior .i64 224 n = ((224 + n : Nat) : Int) := by decide +kernel
theorem oct_or240 : ∀ n : Nat, n < 8 → ior .i64 240 n = ((240 + n : Nat) : Int) := by decide +kernel
def utfSize (r : Int) : Int := if r < 128 then 1 else if r < 2048 then 2 else if r < 65536 then 3 else 4
def utfGood (r : Int) : Bool := decide (0 ≤ r ∧ r ≤ 1114111 ∧ (r < 55296 ∨ 57343 < r))
def utfBegins (c : Nat) : Int × Int :=
  if c < 128 then (1, c) else if c < 192 then (0, 0) else if c < 224 then (2, (c % 64 : Nat)) else if c < 240 then (3, (c % 32 : Nat)) else if c < 248 then (4, (c % 16 : Nat)) else (0, 0)
def takeL : Nat → Str → Int → Option Int
  | 0, _, r => some r
  | _ + 1, [], _ => none
  | q + 1, b :: s, r => if 128 ≤ b.toNat ∧ b.toNat < 192 then takeL q s (r * 64 + (b.toNat % 64 : Nat)) else none
def utfTake (s : Str) : Int × Int :=
  match s with
  | [] => (0, 0)
  | c :: cs => if (utfBegins c.toNat).1 = 0 ∨ (s.length : Int) < (utfBegins c.toNat).1 then (0, 0) else
    match takeL ((utfBegins c.toNat).1.toNat - 1) cs (utfBegins c.toNat).2 with
    | none => (0, 0)
    | some r => if utfGood r = true ∧ utfSize r = (utfBegins c.toNat).1 then (r, (utfBegins c.toNat).1) else (0, 0)
def utfEnc (r : Int) : Str :=
  if utfGood r = false then [] else
  if r < 128 then [UInt8.ofNat r.toNat] else
  if r < 2048 then [UInt8.ofNat (192 + r.toNat / 64), UInt8.ofNat (128 + r.toNat % 64)] else
  if r < 65536 then [UInt8.ofNat (224 + r.toNat / 4096), UInt8.ofNat (128 + r.toNat / 64 % 64), UInt8.ofNat (128 + r.toNat % 64)] else
  [UInt8.ofNat (240 + r.toNat / 262144), UInt8.ofNat (128 + r.toNat / 4096 % 64), UInt8.ofNat (128 + r.toNat / 64 % 64), UInt8.ofNat (128 + r.toNat % 64)]
theorem utfBegins_n (c : Nat) : (utfBegins c).1 = 0 ∨ (utfBegins c).1 = 1 ∨ (utfBegins c).1 = 2 ∨ (utfBegins c).1 = 3 ∨ (utfBegins c).1 = 4 := by
  unfold utfBegins
  repeat' split
  all_goals simp
theorem utfBegins_r (c : Nat) : 0 ≤ (utfBegins c).2 ∧ (utfBegins c).2 ≤ 127 := by
  unfold utfBegins
  repeat' split
  all_goals (constructor <;> simp only [] <;> omega)
def utfScan : Nat → Str → Int → Int × Bool
  | 0, _, at_ => (at_, true)
  | q + 1, s, at_ => match s with
    | [] => (at_, true)
    | c :: cs => if (utfTake (c :: cs)).2 = 0 then (at_, false) else utfScan q ((c :: cs).drop (utfTake (c :: cs)).2.toNat) (at_ + (utfTake (c :: cs)).2)
def utfValid (s : Str) : Int × Bool := utfScan s.length s 0
theorem utfTake_n (s : Str) : (utfTake s).2 = 0 ∨ (1 ≤ (utfTake s).2 ∧ (utfTake s).2 ≤ 4 ∧ (utfTake s).2 ≤ s.length) := by
  unfold utfTake
  split
  · simp
  · rename_i c cs
    split
    · simp
    · rename_i h
      simp only [not_or, Int.not_lt] at h
      split
      · simp
      · split
        · have := utfBegins_n c.toNat
          right
          simp only []
          omega
        · simp
theorem utfTake_0 {s : Str} (h : (utfTake s).2 = 0) : (utfTake s).1 = 0 := by
  unfold utfTake at h ⊢
  split
  · rfl
  · rename_i c cs
    simp only [] at h
    split
    · rfl
    · rename_i h1
      rw [if_neg h1] at h
      split
      · rfl
      · rename_i r hr
        rw [hr] at h
        simp only [] at h
        split
        · rename_i h2
          rw [if_pos h2] at h
          simp only [] at h
          exact absurd h (fun e => h1 (.inl e))
        · rfl
end Go.Am
namespace Go.Am
def takeU : Nat → Int
  | 0 => 1073741824
  | 1 => 16777216
  | 2 => 262144
  | 3 => 4096
  | _ => 64
theorem takeU_step {q : Nat} (hq : q ≤ 2) {r x : Int} (h : r < takeU (q + 1)) (hx : x < 64) : r * 64 + x < takeU q ∧ takeU q ≤ 1073741824 := by
  have : q = 0 ∨ q = 1 ∨ q = 2 := by omega
  rcases this with rfl | rfl | rfl <;> simp only [takeU] at h ⊢ <;> (constructor <;> omega)
theorem takeU_pos (q : Nat) (hq : q ≤ 3) : 127 < takeU q := by
  have : q = 0 ∨ q = 1 ∨ q = 2 ∨ q = 3 := by omega
  rcases this with rfl | rfl | rfl | rfl <;> simp [takeU]
theorem getD_of {s : Str} {i : Nat} {b : UInt8} (h : s[i]? = some b) : s.getD i 0 = b := by simp [List.getD, h]
end Go.Am
namespace Go.Am
theorem CLe.arr {t : TypeId} {sz : Nat} {es es' : List PV} {mv : List Nat} (h : es = es') : CLe ⟨.ret (.sl 0 0 es.length), [.arr t sz es], mv⟩ ⟨.ret (.sl 0 0 es'.length), [.arr t sz es'], mv⟩ := by rw [h]; exact CLe.refl _
theorem bytes_cells (s : Str) : ∀ y ∈ s.map byteP, y.cells.length = 1 := by
  intro y hy; obtain ⟨b, _, rfl⟩ := List.mem_map.1 hy; rfl
theorem byte_of {x : Int} (h0 : 0 ≤ x) (h1 : x ≤ 255) : PV.int .u8 (IntKind.u8.wrap x) = byteP (UInt8.ofNat x.toNat) := by
  obtain ⟨n, rfl⟩ := Int.eq_ofNat_of_zero_le h0
  have hn : n < 256 := by omega
  rw [InR.wrap (show InR .u8 (n : Int) from ⟨by omega, by omega⟩)]
  unfold byteP
  rw [Int.toNat_natCast, UInt8.toNat_ofNat']
  congr 1
  simp only [Nat.reducePow]
  omega
theorem bytesOf_map (s : Str) : bytesOf (s.map byteP) = some s := by
  induction s with
  | nil => rfl
  | cons b s ih =>
    rw [List.map_cons]
    simp only [byteP, bytesOf, ih, Option.map_some, Int.toNat_natCast]
    simp
theorem Bytes.mk' {l : List PV} {s : Str} {K : Str → Prop} (h : l = s.map byteP) (k : K s) : Bytes l K := ⟨s, by rw [h, bytesOf_map], k⟩
end Go.Am
namespace Go.Am
theorem utfSize_1 (r : Int) : utfSize r = 1 ↔ r < 128 := by
  unfold utfSize
  repeat' split
  all_goals (constructor <;> intro h <;> omega)
theorem utfSize_2 (r : Int) : utfSize r = 2 ↔ 128 ≤ r ∧ r < 2048 := by
  unfold utfSize
  repeat' split
  all_goals (constructor <;> intro h <;> omega)
theorem utfSize_3 (r : Int) : utfSize r = 3 ↔ 2048 ≤ r ∧ r < 65536 := by
  unfold utfSize
  repeat' split
  all_goals (constructor <;> intro h <;> omega)
end Go.Am
end

section
namespace Go.Proofs.YtoinkmogdfjmmaaGreatDoor
open Go Go.Am
set_option maxRecDepth 100000
theorem utf_size (r : Int) : AbsCall PP GG F.utf_size [.p (.int .i64 r)] [] ⟨.ret (.p (.int .i64 (utfSize r))), [], []⟩ := by
  refine absCall_of (pol := polG) mixP F.utf_size_is ?_
  conv => whnf
  repeat' ((first
   | ((with_reducible first | refine Br.dec ?_ ?_ | refine Br.ndec ?_ ?_) <;> intro hb <;> (try simp only [ZZ] at hb) <;> (first | omega | skip))
   | (with_reducible first | refine Br.tt rfl ?_ | refine Br.ff rfl ?_ | refine Br.ff (isEmptyCons _ _) ?_)
   | (refine Side.mk ?_ ?_; focus (first | omega | (dsimp only [InR, Int.reduceToNat, IntKind.bits, Int.reducePow]; omega) | (simp [CC]; done) | (constructor <;> omega)))
   | (refine Br.mk ?_ ?_ <;> intro hb <;> (try simp only [ZZ] at hb) <;> (first | omega | skip))
   | refine Src.whole ⟨rfl, rfl⟩ ?_ | refine FrzV.whole ?_) <;> conv => whnf)
  all_goals exact CLe.retP (by simp [utfSize, *])
theorem utf_Good (r : Int) : AbsCall PP GG F.utf_Good [.p (.int .i64 r)] [] ⟨.ret (.p (.bool (utfGood r))), [], []⟩ := by
  refine absCall_of (pol := polG) mixP F.utf_Good_is ?_
  conv => whnf
  repeat' ((first
   | ((with_reducible first | refine Br.dec ?_ ?_ | refine Br.ndec ?_ ?_) <;> intro hb <;> (try simp only [ZZ] at hb) <;> (first | omega | skip))
   | (with_reducible first | refine Br.tt rfl ?_ | refine Br.ff rfl ?_ | refine Br.ff (isEmptyCons _ _) ?_)
   | (refine Side.mk ?_ ?_; focus (first | omega | (dsimp only [InR, Int.reduceToNat, IntKind.bits, Int.reducePow]; omega) | (simp [CC]; done) | (constructor <;> omega)))
   | (refine Br.mk ?_ ?_ <;> intro hb <;> (try simp only [ZZ] at hb) <;> (first | omega | skip))
   | refine Src.whole ⟨rfl, rfl⟩ ?_ | refine FrzV.whole ?_) <;> conv => whnf)
  all_goals exact CLe.retP (by simp only [PV.bool.injEq, utfGood]; first | (symm; rw [decide_eq_false_iff_not]; omega) | (symm; rw [decide_eq_true_eq]; omega) | (rw [decide_eq_decide]; omega))
theorem utf_begins (c : UInt8) : AbsCall PP GG F.utf_begins [.p (byteP c)] [] ⟨.ret (.tup [.p (.int .i64 (utfBegins c.toNat).1), .p (.int .i64 (utfBegins c.toNat).2)]), [], []⟩ := by
  have hc : c.toNat < 256 := UInt8.toNat_lt c
  refine absCall_of (pol := polG) mixP F.utf_begins_is ?_
  conv => whnf
  repeat' ((first
   | ((with_reducible first | refine Br.dec ?_ ?_ | refine Br.ndec ?_ ?_) <;> intro hb <;> (try simp only [ZZ] at hb) <;> (first | omega | skip))
   | (with_reducible first | refine Br.tt rfl ?_ | refine Br.ff rfl ?_ | refine Br.ff (isEmptyCons _ _) ?_)
   | (refine Side.mk ?_ ?_; focus (first | omega | (dsimp only [InR, Int.reduceToNat, IntKind.bits, Int.reducePow]; omega) | (simp only [oct_andn192 _ hc (by omega), InR]; omega) | (simp only [oct_andn224 _ hc (by omega), InR]; omega) | (simp only [oct_andn240 _ hc (by omega), InR]; omega) | (simp [CC]; done) | (constructor <;> omega)))
   | (refine Br.mk ?_ ?_ <;> intro hb <;> (try simp only [ZZ] at hb) <;> (first | omega | skip))
   | refine Src.whole ⟨rfl, rfl⟩ ?_ | refine FrzV.whole ?_) <;> conv => whnf)
  all_goals
    refine CLe.eq ?_
    unfold utfBegins
    first
      | (rw [if_pos (by omega)]; done)
      | (rw [if_neg (by omega), if_pos (by omega)]; done)
      | (rw [if_neg (by omega), if_neg (by omega), if_pos (by omega), oct_andn192 _ hc (by omega)]; done)
      | (rw [if_neg (by omega), if_neg (by omega), if_neg (by omega), if_pos (by omega), oct_andn224 _ hc (by omega)]; done)
      | (rw [if_neg (by omega), if_neg (by omega), if_neg (by omega), if_neg (by omega), if_pos (by omega), oct_andn240 _ hc (by omega)]; done)
      | (rw [if_neg (by omega), if_neg (by omega), if_neg (by omega), if_neg (by omega), if_neg (by omega)]; done)
theorem take_loop (s : Str) (n : Nat) (hn : n ≤ 4) (hns : n ≤ s.length) (R : Option Int) (K : Post)
    (h0 : ∀ r, R = some r → K (.exit 0) [(4, .p (.int .i64 n)), (5, .p (.int .i64 r))] [] [])
    (hr : R = none → K .ret [(2, .p (.int .i64 0)), (3, .p (.int .i64 0))] [] []) :
    ∀ (q i : Nat) (r : Int), i + q = n → 1 ≤ i → 0 ≤ r → r < takeU q → takeL q (s.drop i) r = R →
      LoopW PP GG 52 0 (loopN F.utf_Take_c 0) [(0, .p (.str s)), (4, .p (.int .i64 n)), (5, .p (.int .i64 r)), (6, .p (.int .i64 i))] [] [] (PostCl 52 K) := by
  intro q
  induction q with
  | zero =>
    intro i r hi h1 hr0 hr1 hR
    rw [takeL] at hR
    refine LoopW.round (pol := polG) mixP ?_
    conv => whnf
    repeat' ((first
     | ((with_reducible first | refine Br.dec ?_ ?_ | refine Br.ndec ?_ ?_) <;> intro hb <;> (try simp only [ZZ] at hb) <;> (first | omega | skip))
     | (with_reducible first | refine Br.tt rfl ?_ | refine Br.ff rfl ?_ | refine Br.ff (isEmptyCons _ _) ?_)
     | (refine Side.mk ?_ ?_; focus (first | omega | (dsimp only [InR, Int.reduceToNat, IntKind.bits, Int.reducePow]; omega) | (simp [CC]; done) | (constructor <;> omega)))
     | (refine Br.mk ?_ ?_ <;> intro hb <;> (try simp only [ZZ] at hb) <;> (first | omega | skip))
     | refine Src.whole ⟨rfl, rfl⟩ ?_ | refine FrzV.whole ?_) <;> conv => whnf)
    · refine PostCl.of (h0 r hR.symm) ?_ ?_
      · repeat first | exact trivial | refine ⟨VLe.refl _, ?_⟩
      · repeat first | exact trivial | refine ⟨by decide, ?_⟩
  | succ q ih =>
    intro i r hi h1 hr0 hr1 hR
    obtain ⟨b, hb⟩ : ∃ b, s[i]? = some b := ⟨_, List.getElem?_eq_getElem (show i < s.length by omega)⟩
    rw [drop_cons hb, takeL] at hR
    have hbl := UInt8.toNat_lt b
    have hst := takeU_step (q := q) (by omega) hr1 (x := (b.toNat % 64 : Nat)) (by omega)
    have hg : s.getD (Int.toNat ↑i) 0 = b := getD_of (by simpa using hb)
    refine LoopW.round (pol := polG) mixP ?_
    conv => whnf
    repeat' ((first
     | ((with_reducible first | refine Br.dec ?_ ?_ | refine Br.ndec ?_ ?_) <;> intro hb <;> (try simp only [ZZ] at hb) <;> (first | omega | skip))
     | (with_reducible first | refine Br.tt rfl ?_ | refine Br.ff rfl ?_ | refine Br.ff (isEmptyCons _ _) ?_)
     | (refine Side.mk ?_ ?_; focus (first | omega | (dsimp only [InR, Int.reduceToNat, IntKind.bits, Int.reducePow]; omega) | (simp only [hg, oct_and63 _ hbl, InR]; omega) | (simp [CC]; done) | (constructor <;> omega)))
     | (refine Br.mk ?_ ?_ <;> intro hb <;> (try simp only [ZZ] at hb) <;> (first | omega | skip))
     | refine Src.whole ⟨rfl, rfl⟩ ?_ | refine FrzV.whole ?_) <;> conv => whnf)
    · have hbb := hb
      rw [hg] at hbb
      have := oct_and192 _ hbl
      rw [decide_eq_decide] at this
      rw [this] at hbb
      rw [if_neg hbb] at hR
      refine PostCl.of (hr hR.symm) ?_ ?_
      · repeat first | exact trivial | refine ⟨VLe.refl _, ?_⟩
      · repeat first | exact trivial | refine ⟨by decide, ?_⟩
    · have hbb := hb
      rw [hg] at hbb ⊢
      have := oct_and192 _ hbl
      rw [decide_eq_decide] at this
      rw [this] at hbb
      rw [if_pos hbb] at hR
      have hio : ior .i64 (r * 2 ^ Int.toNat 6) (iand .u8 b.toNat 63) = r * 64 + (b.toNat % 64 : Nat) := by
        rw [oct_and63 _ hbl]
        exact ior_shift (q := 6) hr0 (by omega) (by omega) (by omega) (by decide)
      rw [hio]
      refine LoopW.sub (ih (i + 1) _ (by omega) (by omega) (by omega) hst.1 hR) (by repeat first | exact trivial | refine ⟨VLe.refl _, ?_⟩) (by repeat first | exact trivial | refine ⟨by decide, ?_⟩)
theorem utf_Take (s : Str) (hs : s.length ≤ 1073741824) : AbsCall PP GG F.utf_Take [.p (.str s)] [] ⟨.ret (.tup [.p (.int .i64 (utfTake s).1), .p (.int .i64 (utfTake s).2)]), [], []⟩ := by
  cases s with
  | nil =>
    refine absCall_of (pol := polG) mixP F.utf_Take_is ?_
    conv => whnf
    repeat' ((first
     | ((with_reducible first | refine Br.dec ?_ ?_ | refine Br.ndec ?_ ?_) <;> intro hb <;> (try simp only [ZZ] at hb) <;> (first | omega | skip))
     | (with_reducible first | refine Br.tt rfl ?_ | refine Br.ff rfl ?_ | refine Br.ff (isEmptyCons _ _) ?_)
     | (refine Side.mk ?_ ?_; focus (first | omega | (dsimp only [InR, Int.reduceToNat, IntKind.bits, Int.reducePow]; omega) | (simp [CC]; done) | (constructor <;> omega)))
     | (refine Br.mk ?_ ?_ <;> intro hb <;> (try simp only [ZZ] at hb) <;> (first | omega | skip))
     | refine Src.whole ⟨rfl, rfl⟩ ?_ | refine FrzV.whole ?_) <;> conv => whnf)
    exact CLe.eq rfl
  | cons c cs =>
    have hbn := utfBegins_n c.toNat
    have hbr := utfBegins_r c.toNat
    have hsp := utf_begins c
    have hT : utfTake (c :: cs) = if (utfBegins c.toNat).1 = 0 ∨ ((c :: cs).length : Int) < (utfBegins c.toNat).1 then (0, 0) else
      match takeL ((utfBegins c.toNat).1.toNat - 1) cs (utfBegins c.toNat).2 with
      | none => (0, 0)
      | some r => if utfGood r = true ∧ utfSize r = (utfBegins c.toNat).1 then (r, (utfBegins c.toNat).1) else (0, 0) := rfl
    generalize utfBegins c.toNat = B at *
    obtain ⟨b1, r⟩ := B
    obtain ⟨n, rfl⟩ : ∃ n : Nat, b1 = n := ⟨b1.toNat, by simp only [] at hbn; omega⟩
    simp only [] at hbn hbr hsp hT
    refine absCall_of (pol := polG) mixP F.utf_Take_is ?_
    conv => whnf
    repeat' ((first
     | ((with_reducible first | refine Br.dec ?_ ?_ | refine Br.ndec ?_ ?_) <;> intro hb <;> (try simp only [ZZ] at hb) <;> (first | omega | skip))
     | (with_reducible first | refine Br.tt rfl ?_ | refine Br.ff rfl ?_ | refine Br.ff (isEmptyCons _ _) ?_)
     | (refine Side.mk ?_ ?_; focus (first | omega | (dsimp only [InR, Int.reduceToNat, IntKind.bits, Int.reducePow]; omega) | (simp only [List.length_cons]; omega) | (simp [CC]; done) | (constructor <;> omega)))
     | (refine Br.mk ?_ ?_ <;> intro hb <;> (try simp only [ZZ] at hb) <;> (first | omega | skip))
     | refine Src.whole ⟨rfl, rfl⟩ ?_ | refine FrzV.whole ?_
     | refine CallW.use (hsp) ?_) <;> conv => whnf)
    · exact CLe.eq (by rw [hT, if_pos (by omega)])
    · exact CLe.eq (by rw [hT, if_pos (by omega)])
    · rename_i hn0
      rw [if_neg (by omega)] at hT
      refine LoopW.cl ?_
      refine LoopW.sub (take_loop (c :: cs) n (by omega) (by omega) (takeL (n - 1) cs r) _ (fun r' hr' => ?_) (fun hr' => ?_) (n - 1) 1 r (by omega) (by omega) hbr.1 (by have := takeU_pos (n - 1) (by omega); omega) rfl) (by repeat first | exact trivial | refine ⟨VLe.refl _, ?_⟩) (by repeat first | exact trivial | refine ⟨by decide, ?_⟩)
      · rw [Int.toNat_natCast, hr'] at hT
        simp only [] at hT
        conv => whnf
        repeat' ((first
         | ((with_reducible first | refine Br.dec ?_ ?_ | refine Br.ndec ?_ ?_) <;> intro hb <;> (try simp only [ZZ] at hb) <;> (first | omega | skip))
         | (with_reducible first | refine Br.tt rfl ?_ | refine Br.ff rfl ?_ | refine Br.ff (isEmptyCons _ _) ?_)
         | (refine Side.mk ?_ ?_; focus (first | omega | (dsimp only [InR, Int.reduceToNat, IntKind.bits, Int.reducePow]; omega) | (simp [CC]; done) | (constructor <;> omega)))
         | (refine Br.mk ?_ ?_ <;> intro hb <;> (try simp only [ZZ] at hb) <;> (first | omega | skip))
         | refine Src.whole ⟨rfl, rfl⟩ ?_ | refine FrzV.whole ?_
         | refine CallW.use (utf_Good _) ?_
         | refine CallW.use (utf_size _) ?_) <;> conv => whnf)
        all_goals refine CLe.eq ?_
        all_goals rw [hT]
        · rw [if_neg (by simp_all)]
        · rw [if_neg (by simp_all)]
        · rw [if_pos (by simp_all)]
      · rw [Int.toNat_natCast, hr'] at hT
        simp only [] at hT
        conv => whnf
        exact CLe.eq (by rw [hT])
theorem utf_Put (bs : Str) (r : Int) (hs : bs.length ≤ 1073741824) : AbsCall PP GG F.utf_Put [.p (.lst false (bs.map byteP)), .p (.int .i64 r)] [] ⟨.ret (.sl 0 0 ((bs ++ utfEnc r).map byteP).length), [.arr T.uint8 1 ((bs ++ utfEnc r).map byteP)], []⟩ := by
  have hlen : (bs.map byteP).length = bs.length := by simp
  have hgr : utfGood r = true → 0 ≤ r ∧ r ≤ 1114111 := by intro hg; unfold utfGood at hg; rw [decide_eq_true_eq] at hg; omega
  refine absCall_of (pol := polG) mixP F.utf_Put_is ?_
  conv => whnf
  repeat' ((first
   | ((with_reducible first | refine Br.dec ?_ ?_ | refine Br.ndec ?_ ?_) <;> intro hb <;> (try simp only [ZZ] at hb) <;> (first | omega | skip))
   | (with_reducible first | refine Br.tt rfl ?_ | refine Br.ff rfl ?_ | refine Br.ff (isEmptyCons _ _) ?_)
   | (refine Side.mk ?_ ?_; focus (first | omega | (dsimp only [InR, Int.reduceToNat, IntKind.bits, Int.reducePow]; omega) | exact ⟨bytes_cells bs, by simp, by simp; omega⟩ | exact ⟨by simp [PV.cells], by simp, by simp; omega⟩ | (simp [CC]; done) | (constructor <;> omega)))
   | (refine Br.mk ?_ ?_ <;> intro hb <;> (try simp only [ZZ] at hb) <;> (first | omega | skip))
   | refine Src.whole ⟨rfl, rfl⟩ ?_ | refine FrzV.whole ?_
   | refine CallW.use (utf_Good _) ?_
   | refine CallW.use (utf_size _) ?_
   | (refine Src.whole ⟨rfl, by simp⟩ ?_)) <;> conv => whnf)
  · refine CLe.arr ?_
    rw [show utfEnc r = [] by unfold utfEnc; rw [if_pos hb]]
    simp
  all_goals
    obtain ⟨hr0, hr1⟩ := hgr ‹utfGood r = true›
    obtain ⟨n, rfl⟩ := Int.eq_ofNat_of_zero_le hr0
    have hng : utfGood (n : Int) ≠ false := by simp_all
    refine CLe.arr ?_
    unfold utfEnc
    rw [if_neg hng]
    have q6 : (n : Int) / 2 ^ Int.toNat 6 = ((n / 64 : Nat) : Int) := by show (n : Int) / 64 = _; omega
    have q12 : (n : Int) / 2 ^ Int.toNat 12 = ((n / 4096 : Nat) : Int) := by show (n : Int) / 4096 = _; omega
    have q18 : (n : Int) / 2 ^ Int.toNat 18 = ((n / 262144 : Nat) : Int) := by show (n : Int) / 262144 = _; omega
    have low : ∀ m : Nat, m ≤ 1114111 → iand .i64 (m : Int) 63 = ((m % 64 : Nat) : Int) := by
      intro m hm
      rw [iand63 (by omega) (by omega)]; omega
    have by' : ∀ m : Nat, m ≤ 255 → PV.int .u8 (IntKind.u8.wrap (m : Int)) = byteP (UInt8.ofNat m) := by
      intro m hm
      have := byte_of (x := (m : Int)) (by omega) (by omega)
      simpa using this
    rw [List.map_append, show List.replicate (Int.toNat 0) (PV.int IntKind.u8 0) = [] from rfl, List.nil_append]
    congr 1
  · rw [utfSize_1] at hb
    rw [if_pos hb]
    simp only [List.map_cons, List.map_nil]
    rw [Int.toNat_natCast, by' n (by omega)]
  · rename_i h1
    rw [utfSize_1] at h1
    rw [utfSize_2] at hb
    rw [if_neg h1, if_pos hb.2]
    simp only [List.map_cons, List.map_nil]
    rw [Int.toNat_natCast, q6, low n (by omega), oct_or192 _ (by omega), oct_or128 _ (by omega), by' _ (by omega), by' _ (by omega)]
  · rename_i h1 h2
    rw [utfSize_1] at h1
    rw [utfSize_2] at h2
    rw [utfSize_3] at hb
    rw [if_neg h1, if_neg (by omega), if_pos hb.2]
    simp only [List.map_cons, List.map_nil]
    rw [Int.toNat_natCast, q6, q12, low n (by omega), low (n / 64) (by omega), oct_or224 _ (by omega), oct_or128 _ (by omega), oct_or128 _ (by omega), by' _ (by omega), by' _ (by omega), by' _ (by omega)]
  · rename_i h1 h2
    rw [utfSize_1] at h1
    rw [utfSize_2] at h2
    rw [utfSize_3] at hb
    rw [if_neg h1, if_neg (by omega), if_neg (by omega)]
    simp only [List.map_cons, List.map_nil]
    rw [Int.toNat_natCast, q6, q12, q18, low n (by omega), low (n / 64) (by omega), low (n / 4096) (by omega), oct_or240 _ (by omega), oct_or128 _ (by omega), oct_or128 _ (by omega), oct_or128 _ (by omega), by' _ (by omega), by' _ (by omega), by' _ (by omega), by' _ (by omega)]
theorem valid_loop (s : Str) (hs : s.length ≤ 1073741824) (R : Int × Bool) (K : Post)
    (h0 : R = ((s.length : Int), true) → K (.exit 0) [(0, .p (.str s))] [] [])
    (hr : R.2 = false → K .ret [(2, .p (.int .i64 R.1)), (3, .p (.bool false))] [] []) :
    ∀ (q i : Nat), s.length ≤ i + q → i ≤ s.length → utfScan q (s.drop i) i = R →
      LoopW PP GG 26 0 (loopN F.utf_Valid_c 0) [(0, .p (.str s)), (4, .p (.int .i64 i))] [] [] (PostCl 26 K) := by
  intro q
  induction q with
  | zero =>
    intro i hi hil hR
    rw [utfScan] at hR
    subst hR
    refine LoopW.round (pol := polG) mixP ?_
    conv => whnf
    repeat' ((first
     | ((with_reducible first | refine Br.dec ?_ ?_ | refine Br.ndec ?_ ?_) <;> intro hb <;> (try simp only [ZZ] at hb) <;> (first | omega | skip))
     | (with_reducible first | refine Br.tt rfl ?_ | refine Br.ff rfl ?_ | refine Br.ff (isEmptyCons _ _) ?_)
     | (refine Side.mk ?_ ?_; focus (first | omega | (dsimp only [InR, Int.reduceToNat, IntKind.bits, Int.reducePow]; omega) | (simp [CC]; done) | (constructor <;> omega)))
     | (refine Br.mk ?_ ?_ <;> intro hb <;> (try simp only [ZZ] at hb) <;> (first | omega | skip))
     | refine Src.whole ⟨rfl, rfl⟩ ?_ | refine FrzV.whole ?_) <;> conv => whnf)
    · refine PostCl.of (h0 (by congr 1; omega)) ?_ ?_
      · repeat first | exact trivial | refine ⟨VLe.refl _, ?_⟩
      · repeat first | exact trivial | refine ⟨by decide, ?_⟩
  | succ q ih =>
    intro i hi hil hR
    have hT := utfTake_n (s.drop i)
    have hd : (s.drop i).length ≤ 1073741824 := by simp only [List.length_drop]; omega
    have hdl : (s.drop i).length = s.length - i := List.length_drop
    cases hsd : s.drop i with
    | nil =>
      have : (s.drop i).length = 0 := by rw [hsd]; rfl
      rw [hsd, utfScan] at hR
      subst hR
      refine LoopW.round (pol := polG) mixP ?_
      conv => whnf
      repeat' ((first
       | ((with_reducible first | refine Br.dec ?_ ?_ | refine Br.ndec ?_ ?_) <;> intro hb <;> (try simp only [ZZ] at hb) <;> (first | omega | skip))
       | (with_reducible first | refine Br.tt rfl ?_ | refine Br.ff rfl ?_ | refine Br.ff (isEmptyCons _ _) ?_)
       | (refine Side.mk ?_ ?_; focus (first | omega | (dsimp only [InR, Int.reduceToNat, IntKind.bits, Int.reducePow]; omega) | (simp [CC]; done) | (constructor <;> omega)))
       | (refine Br.mk ?_ ?_ <;> intro hb <;> (try simp only [ZZ] at hb) <;> (first | omega | skip))
       | refine Src.whole ⟨rfl, rfl⟩ ?_ | refine FrzV.whole ?_) <;> conv => whnf)
      · refine PostCl.of (h0 (by congr 1; omega)) ?_ ?_
        · repeat first | exact trivial | refine ⟨VLe.refl _, ?_⟩
        · repeat first | exact trivial | refine ⟨by decide, ?_⟩
    | cons c cs =>
      have hlt : i < s.length := by have : (s.drop i).length = cs.length + 1 := by rw [hsd]; rfl
                                    omega
      rw [hsd, utfScan, ← hsd] at hR
      refine LoopW.round (pol := polG) mixP ?_
      conv => whnf
      repeat' ((first
       | ((with_reducible first | refine Br.dec ?_ ?_ | refine Br.ndec ?_ ?_) <;> intro hb <;> (try simp only [ZZ] at hb) <;> (first | omega | skip))
       | (with_reducible first | refine Br.tt rfl ?_ | refine Br.ff rfl ?_ | refine Br.ff (isEmptyCons _ _) ?_)
       | (refine Side.mk ?_ ?_; focus (first | omega | (dsimp only [InR, Int.reduceToNat, IntKind.bits, Int.reducePow]; omega) | (simp [CC]; done) | (constructor <;> omega)))
       | (refine Br.mk ?_ ?_ <;> intro hb <;> (try simp only [ZZ] at hb) <;> (first | omega | skip))
       | refine Src.whole ⟨rfl, rfl⟩ ?_ | refine FrzV.whole ?_
       | refine CallW.use (utf_Take (s.drop i) hd) ?_) <;> conv => whnf)
      · rw [if_pos hb] at hR
        subst hR
        refine PostCl.of (hr rfl) ?_ ?_
        · repeat first | exact trivial | refine ⟨VLe.refl _, ?_⟩
        · repeat first | exact trivial | refine ⟨by decide, ?_⟩
      · rw [if_neg hb, List.drop_drop] at hR
        obtain ⟨m, hm⟩ : ∃ m : Nat, (utfTake (s.drop i)).2 = m := ⟨(utfTake (s.drop i)).2.toNat, by omega⟩
        rw [hm] at hR ⊢
        refine LoopW.sub (ih (i + m) (by omega) (by omega) (by rw [← hR]; congr 1)) (by repeat first | exact trivial | refine ⟨VLe.refl _, ?_⟩) (by repeat first | exact trivial | refine ⟨by decide, ?_⟩)
theorem utf_Valid (s : Str) (hs : s.length ≤ 1073741824) : AbsCall PP GG F.utf_Valid [.p (.str s)] [] ⟨.ret (.tup [.p (.int .i64 (utfValid s).1), .p (.bool (utfValid s).2)]), [], []⟩ := by
  refine absCall_of (pol := polG) mixP F.utf_Valid_is ?_
  conv => whnf
  refine LoopW.cl ?_
  refine LoopW.sub (valid_loop s hs (utfValid s) _ (fun h => ?_) (fun h => ?_) s.length 0 (by omega) (by omega) rfl) (by repeat first | exact trivial | refine ⟨VLe.refl _, ?_⟩) (by repeat first | exact trivial | refine ⟨by decide, ?_⟩)
  · conv => whnf
    repeat' ((first
     | ((with_reducible first | refine Br.dec ?_ ?_ | refine Br.ndec ?_ ?_) <;> intro hb <;> (try simp only [ZZ] at hb) <;> (first | omega | skip))
     | (with_reducible first | refine Br.tt rfl ?_ | refine Br.ff rfl ?_ | refine Br.ff (isEmptyCons _ _) ?_)
     | (refine Side.mk ?_ ?_; focus (first | omega | (dsimp only [InR, Int.reduceToNat, IntKind.bits, Int.reducePow]; omega) | (simp [CC]; done) | (constructor <;> omega)))
     | (refine Br.mk ?_ ?_ <;> intro hb <;> (try simp only [ZZ] at hb) <;> (first | omega | skip))
     | refine Src.whole ⟨rfl, rfl⟩ ?_ | refine FrzV.whole ?_) <;> conv => whnf)
    exact CLe.eq (by rw [h])
  · conv => whnf
    repeat' ((first
     | ((with_reducible first | refine Br.dec ?_ ?_ | refine Br.ndec ?_ ?_) <;> intro hb <;> (try simp only [ZZ] at hb) <;> (first | omega | skip))
     | (with_reducible first | refine Br.tt rfl ?_ | refine Br.ff rfl ?_ | refine Br.ff (isEmptyCons _ _) ?_)
     | (refine Side.mk ?_ ?_; focus (first | omega | (dsimp only [InR, Int.reduceToNat, IntKind.bits, Int.reducePow]; omega) | (simp [CC]; done) | (constructor <;> omega)))
     | (refine Br.mk ?_ ?_ <;> intro hb <;> (try simp only [ZZ] at hb) <;> (first | omega | skip))
     | refine Src.whole ⟨rfl, rfl⟩ ?_ | refine FrzV.whole ?_) <;> conv => whnf)
    exact CLe.eq (by rw [h])
end Go.Proofs.YtoinkmogdfjmmaaGreatDoor
end

section
namespace Go.Am
open Go
theorem enc_byte {b : UInt8} {n : Nat} (h : n = b.toNat) : UInt8.ofNat n = b := by subst h; simp
theorem enc_take {c : UInt8} {cs : Str} {r : Int} (h0 : (utfBegins c.toNat).1 ≠ 0) (h1 : ¬ ((c :: cs).length : Int) < (utfBegins c.toNat).1) (h2 : takeL ((utfBegins c.toNat).1.toNat - 1) cs (utfBegins c.toNat).2 = some r)
    (hg : utfGood r = true) (hs : utfSize r = (utfBegins c.toNat).1) : utfEnc r = (c :: cs).take (utfBegins c.toNat).1.toNat := by
  have hgn : ¬ utfGood r = false := by rw [hg]; simp
  have hc := UInt8.toNat_lt c
  have split1 : ∀ (q : Nat) (s : Str) (x : Int), takeL (q + 1) s x = some r → ∃ b t, s = b :: t ∧ 128 ≤ b.toNat ∧ b.toNat < 192 ∧ takeL q t (x * 64 + (b.toNat % 64 : Nat)) = some r := by
    intro q s x h
    cases s with
    | nil => simp [takeL] at h
    | cons b t =>
      rw [takeL] at h
      split at h
      · rename_i hb; exact ⟨b, t, rfl, hb.1, hb.2, h⟩
      · cases h
  have last : ∀ (s : Str) (x : Int), takeL 0 s x = some r → r = x := by
    intro s x h
    rw [takeL] at h
    exact (Option.some.inj h).symm
  unfold utfBegins at h0 h1 h2 hs ⊢
  by_cases b1 : c.toNat < 128
  · simp only [if_pos b1] at h0 h1 h2 hs ⊢
    have := last _ _ h2
    subst this
    unfold utfEnc
    rw [if_neg hgn, if_pos (by omega)]
    simp
  · by_cases b2 : c.toNat < 192
    · simp only [if_neg b1, if_pos b2] at h0
      exact absurd rfl h0
    · by_cases b3 : c.toNat < 224
      · simp only [if_neg b1, if_neg b2, if_pos b3] at h0 h1 h2 hs ⊢
        obtain ⟨b, t, rfl, e1, e2, h2⟩ := split1 0 _ _ h2
        have := last _ _ h2
        rw [utfSize_2] at hs
        unfold utfEnc
        rw [if_neg hgn, if_neg (by omega), if_pos (by omega)]
        show _ = [c, b]
        rw [enc_byte (b := c) (by omega), enc_byte (b := b) (by omega)]
      · by_cases b4 : c.toNat < 240
        · simp only [if_neg b1, if_neg b2, if_neg b3, if_pos b4] at h0 h1 h2 hs ⊢
          obtain ⟨b, t, rfl, e1, e2, h2⟩ := split1 1 _ _ h2
          obtain ⟨d, u, rfl, e3, e4, h2⟩ := split1 0 _ _ h2
          have := last _ _ h2
          rw [utfSize_3] at hs
          unfold utfEnc
          rw [if_neg hgn, if_neg (by omega), if_neg (by omega), if_pos (by omega)]
          show _ = [c, b, d]
          rw [enc_byte (b := c) (by omega), enc_byte (b := b) (by omega), enc_byte (b := d) (by omega)]
        · by_cases b5 : c.toNat < 248
          · simp only [if_neg b1, if_neg b2, if_neg b3, if_neg b4, if_pos b5] at h0 h1 h2 hs ⊢
            obtain ⟨b, t, rfl, e1, e2, h2⟩ := split1 2 _ _ h2
            obtain ⟨d, u, rfl, e3, e4, h2⟩ := split1 1 _ _ h2
            obtain ⟨e, v, rfl, e5, e6, h2⟩ := split1 0 _ _ h2
            have := last _ _ h2
            have hg' : 0 ≤ r ∧ r ≤ 1114111 := by unfold utfGood at hg; rw [decide_eq_true_eq] at hg; omega
            have hs' : 65536 ≤ r := by
              unfold utfSize at hs
              split at hs
              · omega
              · split at hs
                · omega
                · split at hs <;> omega
            unfold utfEnc
            rw [if_neg hgn, if_neg (by omega), if_neg (by omega), if_neg (by omega)]
            show _ = [c, b, d, e]
            rw [enc_byte (b := c) (by omega), enc_byte (b := b) (by omega), enc_byte (b := d) (by omega), enc_byte (b := e) (by omega)]
          · simp only [if_neg b1, if_neg b2, if_neg b3, if_neg b4, if_neg b5] at h0
            exact absurd rfl h0
end Go.Am
namespace Go.Am
end Go.Am
namespace Go.Am
def strOk (s : Str) : Bool := decide (s.length ≤ 4096) && (utfValid s).2
def stampOk (s : Str) : Bool := decide (1 ≤ s.length ∧ s.length ≤ 64 ∧ ∀ b ∈ s, 32 ≤ b.toNat ∧ b.toNat ≤ 126)
end Go.Am
end

section
namespace Go.Proofs.YtoinkmogdfjmmaaGreatDoor
open Go Go.Am
set_option maxRecDepth 100000
end Go.Proofs.YtoinkmogdfjmmaaGreatDoor
end

section
namespace Go.Am
end Go.Am
end

section
namespace Go.Proofs.YtoinkmogdfjmmaaGreatDoor
open Go Go.Am
set_option maxRecDepth 100000
end Go.Proofs.YtoinkmogdfjmmaaGreatDoor
end

section
namespace Go.Am
open Go
def dig (b : UInt8) : Bool := decide (48 ≤ b.toNat ∧ b.toNat ≤ 57)
def runL : Str → Nat
  | [] => 0
  | b :: s => if dig b = true then runL s + 1 else 0
theorem runL_le : ∀ s : Str, runL s ≤ s.length
  | [] => Nat.le_refl _
  | b :: s => by rw [runL]; split <;> simp [runL_le s]
abbrev Parts := Bool × Str × Str × Str × Bool
def noParts : Parts := (false, [], [], [], false)
def b0 (s : Str) : Nat := (s.getD 0 0).toNat
def partsE (neg : Bool) (w f p d : Str) : Parts := if d.length = 0 ∨ runL d ≠ d.length then noParts else (neg, w, f, p, true)
def partsD (neg : Bool) (w f s : Str) : Parts :=
  if s.length = 0 then (neg, w, f, [], true) else if b0 s ≠ 101 ∧ b0 s ≠ 69 then noParts else
  if 0 < (s.drop 1).length ∧ (b0 (s.drop 1) = 43 ∨ b0 (s.drop 1) = 45) then partsE neg w f (s.drop 1) ((s.drop 1).drop 1) else partsE neg w f (s.drop 1) (s.drop 1)
def partsC (neg : Bool) (w s : Str) : Parts :=
  if 0 < s.length ∧ b0 s = 46 then (if runL (s.drop 1) = 0 then noParts else partsD neg w ((s.drop 1).take (runL (s.drop 1))) ((s.drop 1).drop (runL (s.drop 1)))) else partsD neg w [] s
def partsB (neg : Bool) (s : Str) : Parts := if runL s = 0 ∨ (1 < runL s ∧ b0 (s.take (runL s)) = 48) then noParts else partsC neg (s.take (runL s)) (s.drop (runL s))
def numParts (s : Str) : Parts := if 0 < s.length ∧ b0 s = 45 then partsB true (s.drop 1) else partsB false s
def powL : Str → Int → Option Int
  | [], v => some v
  | b :: s, v => if dig b = true then (if 10 * v + (b.toNat - 48) > 100000 then none else powL s (10 * v + (b.toNat - 48))) else powL s v
def powerL (p : Str) : Int × Bool := match powL p 0 with
  | none => (0, false)
  | some v => if 0 < p.length ∧ b0 p = 45 then (-v, true) else (v, true)
def formL (s : Str) : Bool × Bool := ((numParts s).2.2.2.2, (numParts s).2.2.2.2 && !(powerL (numParts s).2.2.2.1).2)
def numL (s : Str) : Bool := (formL s).1 && !(formL s).2 && decide (s.length ≤ 400)
end Go.Am
namespace Go.Am
theorem CLe.parts {x : Parts} {a e : Bool} {b c d : Str} {H : Heap} {mv : List Nat} (h : x = (a, b, c, d, e)) :
    CLe ⟨.ret (.tup [.p (.bool a), .p (.str b), .p (.str c), .p (.str d), .p (.bool e)]), H, mv⟩ ⟨.ret (.tup [.p (.bool x.1), .p (.str x.2.1), .p (.str x.2.2.1), .p (.str x.2.2.2.1), .p (.bool x.2.2.2.2)]), H, mv⟩ := by subst h; exact CLe.refl _
end Go.Am
namespace Go.Am
theorem take_run (s : Str) : (s.take (runL s)).length = runL s := by rw [List.length_take]; have := runL_le s; omega
end Go.Am
namespace Go.Am
end Go.Am
namespace Go.Am
def negL : Str → Int → Option Int
  | [], v => some v
  | b :: s, v => if v < -((9223372036854775808 - ((b.toNat : Int) - 48)) / 10) then none else negL s (10 * v - ((b.toNat : Int) - 48))
def refIntL (s : Str) : Int × Bool :=
  if numL s = false ∨ s = [45, 48] then (0, false) else
  if 0 < (numParts s).2.2.1.length ∨ 0 < (numParts s).2.2.2.1.length then (0, false) else
  match negL (numParts s).2.1 0 with
  | none => (0, false)
  | some v => if (numParts s).1 = true then (v, true) else if v = -9223372036854775808 then (0, false) else (-v, true)
theorem take_dig : ∀ s : Str, ∀ b ∈ s.take (runL s), dig b = true
  | [] => by simp
  | c :: s => by
    intro b hb
    rw [runL] at hb
    split at hb
    · rename_i h
      rw [List.take_succ_cons] at hb
      rcases List.mem_cons.1 hb with rfl | hb
      · exact h
      · exact take_dig s b hb
    · simp at hb
end Go.Am
end

section
namespace Go.Proofs.YtoinkmogdfjmmaaGreatDoor
open Go Go.Am
set_option maxRecDepth 100000
end Go.Proofs.YtoinkmogdfjmmaaGreatDoor
end

section
namespace Go.Am
open Go
def lineL (n : Int) : Str := if n < 0 then [] else 10 :: Lib.repeatL [32, 32] n.toNat
def hexd (k : Nat) : UInt8 := [48, 49, 50, 51, 52, 53, 54, 55, 56, 57, 97, 98, 99, 100, 101, 102].getD k 0
def hex2 (n : Nat) : Str := [48, 48, hexd (n / 16), hexd (n % 16)]
theorem itoa_small {u : Nat} (h : u < 10) : Lib.itoa (u : Int) = [UInt8.ofNat (48 + u)] := by rw [Lib.itoa_nonneg, Lib.decDigits, dif_pos h]
theorem itoa_big {u : Nat} (h : ¬ u < 10) : Lib.itoa (u : Int) = Lib.itoa ((u / 10 : Nat) : Int) ++ [UInt8.ofNat (48 + u % 10)] := by rw [Lib.itoa_nonneg, Lib.itoa_nonneg, Lib.decDigits, dif_neg h]
end Go.Am
end

section
namespace Go.Proofs.YtoinkmogdfjmmaaGreatDoor
open Go Go.Am
set_option maxRecDepth 100000
end Go.Proofs.YtoinkmogdfjmmaaGreatDoor
end

section
namespace Go.Am
open Go
def quoteU (x : Str) (n : Int) : Str :=
  if n = 0 then [239, 191, 189] else
  if b0 x = 34 ∨ b0 x = 92 then 92 :: x else
  if b0 x = 8 then [92, 98] else
  if b0 x = 9 then [92, 116] else
  if b0 x = 10 then [92, 110] else
  if b0 x = 12 then [92, 102] else
  if b0 x = 13 then [92, 114] else
  if b0 x < 32 then 92 :: 117 :: hex2 (b0 x) else x
def stepN (s : Str) : Nat := (max (utfTake s).2 1).toNat
def quoteL : Nat → Str → Str
  | 0, _ => []
  | _ + 1, [] => []
  | q + 1, c :: cs => quoteU ((c :: cs).take (stepN (c :: cs))) (utfTake (c :: cs)).2 ++ quoteL q ((c :: cs).drop (stepN (c :: cs)))
def quoteS (s : Str) : Str := 34 :: quoteL s.length s ++ [34]
theorem stepN_pos (s : Str) : 1 ≤ stepN s ∧ stepN s ≤ 4 := by unfold stepN; have := utfTake_n s; omega
theorem stepN_le (c : UInt8) (cs : Str) : stepN (c :: cs) ≤ (c :: cs).length := by unfold stepN; have := utfTake_n (c :: cs); simp only [List.length_cons] at this ⊢; omega
theorem takeL_take : ∀ (q : Nat) (s : Str) (r : Int), takeL q (s.take q) r = takeL q s r
  | 0, _, _ => rfl
  | q + 1, [], _ => by simp
  | q + 1, b :: s, r => by
    rw [List.take_succ_cons, takeL, takeL]
    split
    · exact takeL_take q s _
    · rfl
theorem utfTake_pre (c : UInt8) (cs : Str) : utfTake ((c :: cs).take (stepN (c :: cs))) = utfTake (c :: cs) := by
  by_cases h0 : (utfTake (c :: cs)).2 = 0
  · have h1 := utfTake_0 h0
    have hs : stepN (c :: cs) = 1 := by unfold stepN; rw [h0]; rfl
    rw [hs, show utfTake (c :: cs) = (0, 0) from Prod.ext h1 h0]
    show utfTake [c] = (0, 0)
    have hb := utfBegins_n c.toNat
    unfold utfTake at h0 ⊢
    simp only [List.length_cons, List.length_nil] at h0 ⊢
    split
    · rfl
    · rename_i hc
      have h1 : (utfBegins c.toNat).1 = 1 := by omega
      rw [if_neg (by rw [h1]; omega)] at h0
      rw [h1] at h0 ⊢
      simp only [show Int.toNat 1 - 1 = 0 from rfl, takeL] at h0 ⊢
      split
      · rename_i hg; rw [if_pos hg] at h0; simp at h0
      · rfl
  · have hn := utfTake_n (c :: cs)
    have hs : stepN (c :: cs) = (utfTake (c :: cs)).2.toNat := by unfold stepN; omega
    rw [hs]
    have hb := utfBegins_n c.toNat
    have key : (utfTake (c :: cs)).2 = (utfBegins c.toNat).1 := by
      unfold utfTake at h0 ⊢
      simp only [] at h0 ⊢
      split
      · rename_i h; rw [if_pos h] at h0; exact absurd rfl h0
      · rename_i h
        rw [if_neg h] at h0
        split
        · rename_i h2; rw [h2] at h0; exact absurd rfl h0
        · rename_i r h2
          rw [h2] at h0
          simp only [] at h0
          split
          · rfl
          · rename_i h3; rw [if_neg h3] at h0; exact absurd rfl h0
    rw [key] at hn h0 ⊢
    obtain ⟨k, hk⟩ : ∃ k : Nat, (utfBegins c.toNat).1 = ((k + 1 : Nat) : Int) := ⟨(utfBegins c.toNat).1.toNat - 1, by omega⟩
    rw [hk, Int.toNat_natCast, List.take_succ_cons]
    rw [hk] at hn
    have hl : (c :: cs.take k).length = k + 1 := by
      simp only [List.length_cons, List.length_take] at hn ⊢
      omega
    unfold utfTake
    simp only [hl]
    rw [hk, Int.toNat_natCast, Nat.add_sub_cancel, takeL_take]
    rw [if_neg (by omega), if_neg (by omega)]
end Go.Am
end

section
namespace Go.Proofs.YtoinkmogdfjmmaaGreatDoor
open Go Go.Am
set_option maxRecDepth 100000
end Go.Proofs.YtoinkmogdfjmmaaGreatDoor
end

section
namespace Go.Proofs
open Go.Shelf
def Tryz.laysC174_ren : Go.Shelf.Ren := ⟨fun | 174 => 94 | 247 => 124 | 245 => 125 | 287 => 140 | 279 => 141 | 280 => 142 | 281 => 143 | 282 => 144 | 321 => 157 | 322 => 158 | 316 => 159 | 171 => 161 | 205 => 160 | 243 => 167 | 246 => 180 | 283 => 187 | 284 => 188 | 285 => 189 | 286 => 190 | 129 => 178 | 317 => 192 | 318 => 193 | 319 => 194 | 320 => 195 | 337 => 196 | 338 => 197 | n => n, fun | 9 => 9 | 3 => 3 | 2 => 2 | 75 => 127 | 85 => 128 | 4 => 4 | 167 => 162 | 5 => 5 | 53 => 163 | 175 => 164 | 46 => 112 | 168 => 166 | 37 => 35 | 0 => 0 | 210 => 178 | 21 => 21 | 127 => 186 | 145 => 189 | 143 => 187 | 171 => 206 | 173 => 208 | 212 => 213 | 51 => 183 | 20 => 20 | 213 => 214 | 232 => 215 | 233 => 216 | 80 => 217 | n => n, fun | 15 => 3 | 16 => 4 | 17 => 5 | 18 => 6 | 19 => 7 | n => n⟩
theorem Tryz.laysC174 : Go.Proofs.LaysC.n174 Tryz.prog Tryz.laysC174_ren := {
  mixed := by kernel_rfl
  f129 := Tryz.func178.trans (congrArg some (by kernel_rfl))
  f171 := Tryz.func161.trans (congrArg some (by kernel_rfl))
  f174 := Tryz.func94.trans (congrArg some (by kernel_rfl))
  f205 := Tryz.func160.trans (congrArg some (by kernel_rfl))
  f243 := Tryz.func167.trans (congrArg some (by kernel_rfl))
  f245 := Tryz.func125.trans (congrArg some (by kernel_rfl))
  f246 := Tryz.func180.trans (congrArg some (by kernel_rfl))
  f247 := Tryz.func124.trans (congrArg some (by kernel_rfl))
  f279 := Tryz.func141.trans (congrArg some (by kernel_rfl))
  f280 := Tryz.func142.trans (congrArg some (by kernel_rfl))
  f281 := Tryz.func143.trans (congrArg some (by kernel_rfl))
  f282 := Tryz.func144.trans (congrArg some (by kernel_rfl))
  f283 := Tryz.func187.trans (congrArg some (by kernel_rfl))
  f284 := Tryz.func188.trans (congrArg some (by kernel_rfl))
  f285 := Tryz.func189.trans (congrArg some (by kernel_rfl))
  f286 := Tryz.func190.trans (congrArg some (by kernel_rfl))
  f287 := Tryz.func140.trans (congrArg some (by kernel_rfl))
  f316 := Tryz.func159.trans (congrArg some (by kernel_rfl))
  f317 := Tryz.func192.trans (congrArg some (by kernel_rfl))
  f318 := Tryz.func193.trans (congrArg some (by kernel_rfl))
  f319 := Tryz.func194.trans (congrArg some (by kernel_rfl))
  f320 := Tryz.func195.trans (congrArg some (by kernel_rfl))
  f321 := Tryz.func157.trans (congrArg some (by kernel_rfl))
  f322 := Tryz.func158.trans (congrArg some (by kernel_rfl))
  f337 := Tryz.func196.trans (congrArg some (by kernel_rfl))
  f338 := Tryz.func197.trans (congrArg some (by kernel_rfl))
  t0 := Tryz.underlying0
  a0 := Tryz.isAgg0
  z0 := Tryz.sizeOf0
  v0 := Tryz.zeroValue0
  t2 := Tryz.underlying2
  a2 := Tryz.isAgg2
  z2 := Tryz.sizeOf2
  v2 := Tryz.zeroValue2
  t3 := Tryz.underlying3
  a3 := Tryz.isAgg3
  z3 := Tryz.sizeOf3
  v3 := Tryz.zeroValue3
  t4 := Tryz.underlying4
  a4 := Tryz.isAgg4
  z4 := Tryz.sizeOf4
  v4 := Tryz.zeroValue4
  t5 := Tryz.underlying5
  a5 := Tryz.isAgg5
  z5 := Tryz.sizeOf5
  v5 := Tryz.zeroValue5
  t9 := Tryz.underlying9
  a9 := Tryz.isAgg9
  z9 := Tryz.sizeOf9
  v9 := Tryz.zeroValue9
  t20 := Tryz.underlying20
  a20 := Tryz.isAgg20
  z20 := Tryz.sizeOf20
  v20 := Tryz.zeroValue20
  t21 := Tryz.underlying21
  a21 := Tryz.isAgg21
  z21 := Tryz.sizeOf21
  v21 := Tryz.zeroValue21
  t37 := Tryz.underlying35
  a37 := Tryz.isAgg35
  z37 := Tryz.sizeOf35
  v37 := Tryz.zeroValue35
  t46 := Tryz.underlying112
  a46 := Tryz.isAgg112
  z46 := Tryz.sizeOf112
  v46 := Tryz.zeroValue112
  t51 := Tryz.underlying183
  a51 := Tryz.isAgg183
  z51 := Tryz.sizeOf183
  v51 := Tryz.zeroValue183
  t53 := Tryz.underlying163
  a53 := Tryz.isAgg163
  z53 := Tryz.sizeOf163
  v53 := Tryz.zeroValue163
  t75 := Tryz.underlying127
  a75 := Tryz.isAgg127
  z75 := Tryz.sizeOf127
  v75 := Tryz.zeroValue127
  t85 := Tryz.underlying128
  a85 := Tryz.isAgg128
  z85 := Tryz.sizeOf128
  v85 := Tryz.zeroValue128
  t127 := Tryz.underlying186
  a127 := Tryz.isAgg186
  z127 := Tryz.sizeOf186
  v127 := Tryz.zeroValue186
  t143 := Tryz.underlying187
  a143 := Tryz.isAgg187
  z143 := Tryz.sizeOf187
  v143 := Tryz.zeroValue187
  t145 := Tryz.underlying189
  a145 := Tryz.isAgg189
  z145 := Tryz.sizeOf189
  v145 := Tryz.zeroValue189
  t167 := Tryz.underlying162
  a167 := Tryz.isAgg162
  z167 := Tryz.sizeOf162
  v167 := Tryz.zeroValue162
  t168 := Tryz.underlying166
  a168 := Tryz.isAgg166
  z168 := Tryz.sizeOf166
  v168 := Tryz.zeroValue166
  t171 := Tryz.underlying206
  a171 := Tryz.isAgg206
  z171 := Tryz.sizeOf206
  v171 := Tryz.zeroValue206
  t173 := Tryz.underlying208
  a173 := Tryz.isAgg208
  z173 := Tryz.sizeOf208
  v173 := Tryz.zeroValue208
  t175 := Tryz.underlying164
  a175 := Tryz.isAgg164
  z175 := Tryz.sizeOf164
  v175 := Tryz.zeroValue164
  t210 := Tryz.underlying178
  a210 := Tryz.isAgg178
  z210 := Tryz.sizeOf178
  v210 := Tryz.zeroValue178
  t212 := Tryz.underlying213
  a212 := Tryz.isAgg213
  z212 := Tryz.sizeOf213
  v212 := Tryz.zeroValue213
  t213 := Tryz.underlying214
  a213 := Tryz.isAgg214
  z213 := Tryz.sizeOf214
  t232 := Tryz.underlying215
  a232 := Tryz.isAgg215
  z232 := Tryz.sizeOf215
  v232 := Tryz.zeroValue215
  t233 := Tryz.underlying216
  a233 := Tryz.isAgg216
  z233 := Tryz.sizeOf216
  v233 := Tryz.zeroValue216
  g15 := by kernel_rfl
  g16 := by kernel_rfl
  g17 := by kernel_rfl
  g18 := by kernel_rfl
  g19 := by kernel_rfl
  t80 := Tryz.underlying217
  a80 := Tryz.isAgg217
  z80 := Tryz.sizeOf217
  v80 := Tryz.zeroValue217
  i0 := by kernel_rfl
  i2 := by kernel_rfl
  i3 := by kernel_rfl
  i4 := by kernel_rfl
  i5 := by kernel_rfl
  i9 := by kernel_rfl
  i20 := by kernel_rfl
  i21 := by kernel_rfl
  i37 := by kernel_rfl
  i46 := by kernel_rfl
  i51 := by kernel_rfl
  i53 := by kernel_rfl
  i75 := by kernel_rfl
  i80 := by kernel_rfl
  i85 := by kernel_rfl
  i127 := by kernel_rfl
  i143 := by kernel_rfl
  i145 := by kernel_rfl
  i167 := by kernel_rfl
  i168 := by kernel_rfl
  i171 := by kernel_rfl
  i173 := by kernel_rfl
  i175 := by kernel_rfl
  i210 := by kernel_rfl
  i212 := by kernel_rfl
  i232 := by kernel_rfl
  i233 := by kernel_rfl
  m15 := by kernel_rfl
  m16 := by kernel_rfl
  m17 := by kernel_rfl
  m18 := by kernel_rfl
  m19 := by kernel_rfl
  c0 := by kernel_rfl
  c2 := by kernel_rfl
  c3 := by kernel_rfl
  c4 := by kernel_rfl
  c5 := by kernel_rfl
  c9 := by kernel_rfl
  c20 := by kernel_rfl
  c21 := by kernel_rfl
  c37 := by kernel_rfl
  c46 := by kernel_rfl
  c51 := by kernel_rfl
  c53 := by kernel_rfl
  c75 := by kernel_rfl
  c80 := by kernel_rfl
  c85 := by kernel_rfl
  c127 := by kernel_rfl
  c143 := by kernel_rfl
  c145 := by kernel_rfl
  c167 := by kernel_rfl
  c168 := by kernel_rfl
  c171 := by kernel_rfl
  c173 := by kernel_rfl
  c175 := by kernel_rfl
  c210 := by kernel_rfl
  c212 := by kernel_rfl
  c213 := by kernel_rfl
  c232 := by kernel_rfl
  c233 := by kernel_rfl }
open Go.RowKit in
theorem Tryz.strconv_ParseInt_10_at64_ok (s : ByteArray) (hmax : s.size ≤ 9223372036854775806) (v : Int) (h : Lib.parseIntB 64 s.data.toList = .ok v) (w : World) :
    Calls Tryz.prog 94 #[.string s, .int .i64 10, .int .i64 64] w fun e w' => e = .returned (.tuple #[.int .i64 v, .nilIface]) ∧ (w' = w ∨ ∃ t, w' = Lib.bytesWorld w 5 t) := Any.strconv_ParseInt_10_at64_ok Tryz.laysC174 s hmax v h w
open Go.RowKit in
theorem Tryz.strconv_ParseInt_10_at64_other (s : ByteArray) (hlim : s.size ≤ 281474976710656) (h : (∀ v, Lib.parseIntB 64 s.data.toList ≠ .ok v) ∧ Lib.parseIntB 64 s.data.toList ≠ .range) (ev : Value) (w : World) (hv : w.cell? ⟨3, 0, none⟩ = some ev) (hev : ev = .nilIface ∨ ∃ te pe, ev = .iface te pe) :
    Calls Tryz.prog 94 #[.string s, .int .i64 10, .int .i64 64] w fun e w' => ∃ N, e = .returned (.tuple #[.int .i64 (0), .iface 166 (.pointer (some ⟨N, 0, none⟩))]) ∧ w.heap.size ≤ N ∧ w'.heap[N]? = some (.cells #[.string ⟨#[80, 97, 114, 115, 101, 73, 110, 116]⟩, .string s, ev] 178 (0, 0)) ∧ Below w.heap.size w w' := Any.strconv_ParseInt_10_at64_syntax Tryz.laysC174 s hlim (by
    cases hx : Lib.parseIntB 64 s.data.toList with
    | ok v => exact absurd hx (h.1 v)
    | range => exact absurd hx h.2
    | _ => rfl) ev w hv hev
open Go.RowKit in
theorem Tryz.strconv_ParseInt_10_at64_range (s : ByteArray) (hlim : s.size ≤ 281474976710656) (h : Lib.parseIntB 64 s.data.toList = .range) (ev : Value) (w : World) (hv : w.cell? ⟨4, 0, none⟩ = some ev) (hev : ev = .nilIface ∨ ∃ te pe, ev = .iface te pe) :
    Calls Tryz.prog 94 #[.string s, .int .i64 10, .int .i64 64] w fun e w' => ∃ N, e = .returned (.tuple #[.int .i64 (Lib.intSat 64 s.data.toList), .iface 166 (.pointer (some ⟨N, 0, none⟩))]) ∧ w.heap.size ≤ N ∧ w'.heap[N]? = some (.cells #[.string ⟨#[80, 97, 114, 115, 101, 73, 110, 116]⟩, .string s, ev] 178 (0, 0)) ∧ Below w.heap.size w w' := Any.strconv_ParseInt_10_at64_range Tryz.laysC174 s hlim h ev w hv hev
end Go.Proofs
end

section
namespace Go.Am
open Go
def preB (s : Str) (p : UInt8) : Bool := decide (s.take 1 = [p])
def powD : Str → Int → Option Int
  | [], v => some v
  | b :: s, v => if 100000 < v * 10 + ((b.toNat : Int) - 48) then none else powD s (v * 10 + ((b.toNat : Int) - 48))
def powTail (less : Bool) (d : Str) : Int × Bool := if d.length = 0 ∨ runL d ≠ d.length then (0, false) else match powD d 0 with
  | none => (0, false)
  | some v => if less = true then (-v, true) else (v, true)
def decPow (s : Str) : Int × Bool := if preB s 45 = true then powTail true (s.drop 1) else if preB s 43 = true then powTail false (s.drop 1) else powTail false s
def trimL : Str → Str
  | [] => []
  | b :: s => if b = 48 then trimL s else b :: s
theorem runL_dig : ∀ {s : Str}, runL s = s.length → ∀ b ∈ s, dig b = true
  | [], _, b, hb => by cases hb
  | c :: s, h, b, hb => by
    rw [runL] at h
    split at h
    · rename_i hc
      rcases List.mem_cons.1 hb with rfl | hb
      · exact hc
      · exact runL_dig (by simpa using h) b hb
    · simp at h
end Go.Am
namespace Go.Am
def trimRn : Nat → Str → Str
  | 0, s => s
  | q + 1, s => if 0 < s.length ∧ s.getD (s.length - 1) 0 = 48 then trimRn q (s.take (s.length - 1)) else s
def trimR (s : Str) : Str := trimRn s.length s
theorem trimL_len : ∀ s : Str, (trimL s).length ≤ s.length
  | [] => Nat.le_refl _
  | b :: s => by rw [trimL]; split <;> simp; exact Nat.le_succ_of_le (trimL_len s)
abbrev Dnum := (Bool × Str × Int) × Bool
def noNum : Dnum := ((false, [], 0), false)
def decE (less : Bool) (w p : Str) (e : Int) : Dnum :=
  if (trimL (w ++ p)).length = 0 then ((false, [], 0), true) else ((less, trimR (trimL (w ++ p)), e + (((w.length : Int) - 1) - (((w ++ p).length : Int) - ((trimL (w ++ p)).length : Int)))), true)
def decD (less : Bool) (w p s : Str) : Dnum :=
  if s.length = 0 then decE less w p 0 else if b0 s ≠ 101 ∧ b0 s ≠ 69 then noNum else
  if (decPow (s.drop 1)).2 = false then noNum else decE less w p (decPow (s.drop 1)).1
def decC (less : Bool) (w s : Str) : Dnum :=
  if preB s 46 = true then (if runL (s.drop 1) = 0 then noNum else decD less w ((s.drop 1).take (runL (s.drop 1))) ((s.drop 1).drop (runL (s.drop 1)))) else decD less w [] s
def decB (less : Bool) (s : Str) : Dnum := if runL s = 0 ∨ (1 < runL s ∧ b0 s = 48) then noNum else decC less (s.take (runL s)) (s.drop (runL s))
def decParse (s : Str) : Dnum := if 400 < s.length then noNum else decB (preB s 45) (if preB s 45 = true then s.drop 1 else s)
theorem powD_bound : ∀ (s : Str) (v r : Int), (∀ b ∈ s, dig b = true) → 0 ≤ v → v ≤ 100000 → powD s v = some r → 0 ≤ r ∧ r ≤ 100000
  | [], v, r, _, h0, h1, h => by rw [powD] at h; cases h; exact ⟨h0, h1⟩
  | b :: s, v, r, hd, h0, h1, h => by
    rw [powD] at h
    split at h
    · cases h
    · have hb := hd b (by simp)
      unfold dig at hb
      rw [decide_eq_true_eq] at hb
      exact powD_bound s _ r (fun x hx => hd x (by simp [hx])) (by omega) (by omega) h
end Go.Am
namespace Go.Am
theorem decPow_bound (s : Str) : -100000 ≤ (decPow s).1 ∧ (decPow s).1 ≤ 100000 := by
  have h : ∀ less d, -100000 ≤ (powTail less d).1 ∧ (powTail less d).1 ≤ 100000 := by
    intro less d
    unfold powTail
    split
    · simp
    · rename_i hc
      split
      · simp
      · rename_i v hv
        have := powD_bound d 0 v (runL_dig (by omega)) (by omega) (by omega) hv
        split <;> (simp only []; omega)
  unfold decPow
  split
  · exact h _ _
  · split
    · exact h _ _
    · exact h _ _
end Go.Am
namespace Go.Am
theorem nf {b : Bool} (h : b = true) : ¬ b = false := by rw [h]; simp
theorem nt {b : Bool} (h : b = false) : ¬ b = true := by rw [h]; simp
end Go.Am
namespace Go.Am
end Go.Am
end

section
namespace Go.Proofs.YtoinkmogdfjmmaaGreatDoor
open Go Go.Am
set_option maxRecDepth 100000
theorem ElemA.byte {s : Str} {i : Nat} {K : PV → Prop} {b : UInt8} (h : s[i]? = some b) (k : K (byteP b)) : ElemA (s.map byteP) i K := ⟨_, by rw [List.getElem?_map, h]; rfl, k⟩
theorem sl_HasPrefix (s : Str) (p : UInt8) : AbsCall PP GG F.internal_stringslite_HasPrefix [.p (.str s), .p (.str [p])] [] ⟨.ret (.p (.bool (preB s p))), [], []⟩ := by
  have h1 : ([p] : Str).length = 1 := rfl
  refine absCall_of (pol := polG) mixP F.internal_stringslite_HasPrefix_is ?_
  conv => whnf
  repeat' ((first
   | ((with_reducible first | refine Br.dec ?_ ?_ | refine Br.ndec ?_ ?_) <;> intro hb <;> (try simp only [And.intro @h1 (ZZ)] at hb) <;> (first | omega | skip))
   | (with_reducible first | refine Br.tt rfl ?_ | refine Br.ff rfl ?_ | refine Br.ff (isEmptyCons _ _) ?_)
   | (refine Side.mk ?_ ?_; focus (first | omega | (dsimp only [InR, Int.reduceToNat, IntKind.bits, Int.reducePow]; omega) | (simp only [h1]; omega) | (simp [CC]; done) | (constructor <;> omega)))
   | (refine Br.mk ?_ ?_ <;> intro hb <;> (try simp only [And.intro @h1 (ZZ)] at hb) <;> (first | omega | skip))
   | refine Src.whole ⟨rfl, rfl⟩ ?_ | refine FrzV.whole ?_) <;> conv => whnf)
  · exact CLe.eq rfl
  · exact CLe.retP (by unfold preB; rw [List.eq_nil_of_length_eq_zero (show s.length = 0 by omega)]; simp)
theorem strings_HasPrefix (s : Str) (p : UInt8) : AbsCall PP GG F.strings_HasPrefix [.p (.str s), .p (.str [p])] [] ⟨.ret (.p (.bool (preB s p))), [], []⟩ := by
  refine absCall_of (pol := polG) mixP F.strings_HasPrefix_is ?_
  conv => whnf
  repeat' ((first
   | ((with_reducible first | refine Br.dec ?_ ?_ | refine Br.ndec ?_ ?_) <;> intro hb <;> (try simp only [ZZ] at hb) <;> (first | omega | skip))
   | (with_reducible first | refine Br.tt rfl ?_ | refine Br.ff rfl ?_ | refine Br.ff (isEmptyCons _ _) ?_)
   | (refine Side.mk ?_ ?_; focus (first | omega | (dsimp only [InR, Int.reduceToNat, IntKind.bits, Int.reducePow]; omega) | (simp [CC]; done) | (constructor <;> omega)))
   | (refine Br.mk ?_ ?_ <;> intro hb <;> (try simp only [ZZ] at hb) <;> (first | omega | skip))
   | refine Src.whole ⟨rfl, rfl⟩ ?_ | refine FrzV.whole ?_
   | refine CallW.use (sl_HasPrefix s p) ?_) <;> conv => whnf)
  exact CLe.eq rfl
theorem preB_len {s : Str} {p : UInt8} (h : preB s p = true) : 1 ≤ s.length := by
  unfold preB at h
  rw [decide_eq_true_eq] at h
  have := congrArg List.length h
  rw [List.length_take] at this
  simp only [List.length_cons, List.length_nil] at this
  omega
theorem sl_CutPrefix (s : Str) (p : UInt8) : AbsCall PP GG F.internal_stringslite_CutPrefix [.p (.str s), .p (.str [p])] [] ⟨.ret (.tup [.p (.str (if preB s p = true then s.drop 1 else s)), .p (.bool (preB s p))]), [], []⟩ := by
  have hl := @preB_len s p
  have h1 : ([p] : Str).length = 1 := rfl
  refine absCall_of (pol := polG) mixP F.internal_stringslite_CutPrefix_is ?_
  conv => whnf
  cases hp : preB s p with
  | true =>
    have hsp := sl_HasPrefix s p
    rw [hp] at hsp
    have := hl hp
    repeat' ((first
     | ((with_reducible first | refine Br.dec ?_ ?_ | refine Br.ndec ?_ ?_) <;> intro hb <;> (try simp only [ZZ] at hb) <;> (first | omega | skip))
     | (with_reducible first | refine Br.tt rfl ?_ | refine Br.ff rfl ?_ | refine Br.ff (isEmptyCons _ _) ?_)
     | (refine Side.mk ?_ ?_; focus (first | omega | (dsimp only [InR, Int.reduceToNat, IntKind.bits, Int.reducePow]; omega) | (simp only [h1]; omega) | (simp [CC]; done) | (constructor <;> omega)))
     | (refine Br.mk ?_ ?_ <;> intro hb <;> (try simp only [ZZ] at hb) <;> (first | omega | skip))
     | refine Src.whole ⟨rfl, rfl⟩ ?_ | refine FrzV.whole ?_
     | refine CallW.use (hsp) ?_) <;> conv => whnf)
    exact CLe.eq rfl
  | false =>
    have hsp := sl_HasPrefix s p
    rw [hp] at hsp
    repeat' ((first
     | ((with_reducible first | refine Br.dec ?_ ?_ | refine Br.ndec ?_ ?_) <;> intro hb <;> (try simp only [ZZ] at hb) <;> (first | omega | skip))
     | (with_reducible first | refine Br.tt rfl ?_ | refine Br.ff rfl ?_ | refine Br.ff (isEmptyCons _ _) ?_)
     | (refine Side.mk ?_ ?_; focus (first | omega | (dsimp only [InR, Int.reduceToNat, IntKind.bits, Int.reducePow]; omega) | (simp [CC]; done) | (constructor <;> omega)))
     | (refine Br.mk ?_ ?_ <;> intro hb <;> (try simp only [ZZ] at hb) <;> (first | omega | skip))
     | refine Src.whole ⟨rfl, rfl⟩ ?_ | refine FrzV.whole ?_
     | refine CallW.use (hsp) ?_) <;> conv => whnf)
    exact CLe.eq rfl
theorem strings_CutPrefix (s : Str) (p : UInt8) : AbsCall PP GG F.strings_CutPrefix [.p (.str s), .p (.str [p])] [] ⟨.ret (.tup [.p (.str (if preB s p = true then s.drop 1 else s)), .p (.bool (preB s p))]), [], []⟩ := by
  refine absCall_of (pol := polG) mixP F.strings_CutPrefix_is ?_
  conv => whnf
  repeat' ((first
   | ((with_reducible first | refine Br.dec ?_ ?_ | refine Br.ndec ?_ ?_) <;> intro hb <;> (try simp only [ZZ] at hb) <;> (first | omega | skip))
   | (with_reducible first | refine Br.tt rfl ?_ | refine Br.ff rfl ?_ | refine Br.ff (isEmptyCons _ _) ?_)
   | (refine Side.mk ?_ ?_; focus (first | omega | (dsimp only [InR, Int.reduceToNat, IntKind.bits, Int.reducePow]; omega) | (simp [CC]; done) | (constructor <;> omega)))
   | (refine Br.mk ?_ ?_ <;> intro hb <;> (try simp only [ZZ] at hb) <;> (first | omega | skip))
   | refine Src.whole ⟨rfl, rfl⟩ ?_ | refine FrzV.whole ?_
   | refine CallW.use (sl_CutPrefix s p) ?_) <;> conv => whnf)
  exact CLe.eq rfl
theorem digits_loop (s : Str) (hs : s.length ≤ 1073741824) (K : Post) (h0 : K (.exit 0) [(3, .p (.int .i64 (runL s)))] [] []) :
    ∀ (q i : Nat), i + q = s.length → i + runL (s.drop i) = runL s →
      LoopW PP GG 23 0 (loopN F.dec_digits_c 0) [(0, .p (.str s)), (3, .p (.int .i64 i))] [] [] (PostCl 23 K) := by
  intro q
  induction q with
  | zero =>
    intro i hi hR
    rw [List.drop_eq_nil_of_le (by omega), runL, Nat.add_zero] at hR
    subst hR
    refine LoopW.round (pol := polG) mixP ?_
    conv => whnf
    repeat' ((first
     | ((with_reducible first | refine Br.dec ?_ ?_ | refine Br.ndec ?_ ?_) <;> intro hb <;> (try simp only [ZZ] at hb) <;> (first | omega | skip))
     | (with_reducible first | refine Br.tt rfl ?_ | refine Br.ff rfl ?_ | refine Br.ff (isEmptyCons _ _) ?_)
     | (refine Side.mk ?_ ?_; focus (first | omega | (dsimp only [InR, Int.reduceToNat, IntKind.bits, Int.reducePow]; omega) | (simp [CC]; done) | (constructor <;> omega)))
     | (refine Br.mk ?_ ?_ <;> intro hb <;> (try simp only [ZZ] at hb) <;> (first | omega | skip))
     | refine Src.whole ⟨rfl, rfl⟩ ?_ | refine FrzV.whole ?_) <;> conv => whnf)
    · refine PostCl.of (h0) ?_ ?_
      · repeat first | exact trivial | refine ⟨VLe.refl _, ?_⟩
      · repeat first | exact trivial | refine ⟨by decide, ?_⟩
  | succ q ih =>
    intro i hi hR
    obtain ⟨b, hb⟩ : ∃ b, s[i]? = some b := ⟨_, List.getElem?_eq_getElem (show i < s.length by omega)⟩
    have hg : s.getD (Int.toNat ↑i) 0 = b := getD_of (by simpa using hb)
    have hd : dig b = decide (48 ≤ b.toNat ∧ b.toNat ≤ 57) := rfl
    rw [drop_cons hb, runL] at hR
    refine LoopW.round (pol := polG) mixP ?_
    conv => whnf
    repeat' ((first
     | ((with_reducible first | refine Br.dec ?_ ?_ | refine Br.ndec ?_ ?_) <;> intro hb <;> (try simp only [And.intro @hg (ZZ)] at hb) <;> (first | omega | skip))
     | (with_reducible first | refine Br.tt rfl ?_ | refine Br.ff rfl ?_ | refine Br.ff (isEmptyCons _ _) ?_)
     | (refine Side.mk ?_ ?_; focus (first | omega | (dsimp only [InR, Int.reduceToNat, IntKind.bits, Int.reducePow]; omega) | (simp [CC]; done) | (constructor <;> omega)))
     | (refine Br.mk ?_ ?_ <;> intro hb <;> (try simp only [And.intro @hg (ZZ)] at hb) <;> (first | omega | skip))
     | refine Src.whole ⟨rfl, rfl⟩ ?_ | refine FrzV.whole ?_) <;> conv => whnf)
    all_goals
      first
      | (rw [if_pos (by rw [hd, decide_eq_true_eq]; omega)] at hR; refine LoopW.sub (ih (i + 1) (by omega) (by omega)) (by repeat first | exact trivial | refine ⟨VLe.refl _, ?_⟩) (by repeat first | exact trivial | refine ⟨by decide, ?_⟩))
      | (rw [if_neg (by rw [hd, decide_eq_true_eq]; omega), Nat.add_zero] at hR; subst hR; refine PostCl.of (h0) (by repeat first | exact trivial | refine ⟨VLe.refl _, ?_⟩) (by repeat first | exact trivial | refine ⟨by decide, ?_⟩))
theorem dec_digits (s : Str) (hs : s.length ≤ 1073741824) : AbsCall PP GG F.dec_digits [.p (.str s)] [] ⟨.ret (.p (.int .i64 (runL s))), [], []⟩ := by
  refine absCall_of (pol := polG) mixP F.dec_digits_is ?_
  conv => whnf
  refine LoopW.cl ?_
  refine LoopW.sub (digits_loop s hs _ ?_ s.length 0 (by omega) (by simp)) (by repeat first | exact trivial | refine ⟨VLe.refl _, ?_⟩) (by repeat first | exact trivial | refine ⟨by decide, ?_⟩)
  conv => whnf
  exact CLe.eq rfl
theorem trimL_loop (K : Post) (s0 : Str) (h0 : K (.exit 0) [(0, .p (.str (trimL s0)))] [] []) : ∀ (s : Str), s.length ≤ 1073741824 → trimL s = trimL s0 →
      LoopW PP GG 17 0 (loopN F.strings_trimLeftByte_c 0) [(0, .p (.str s)), (1, .p (byteP 48))] [] [] (PostCl 17 K) := by
  intro s
  induction s with
  | nil =>
    intro hs hR
    refine LoopW.round (pol := polG) mixP ?_
    conv => whnf
    repeat' ((first
     | ((with_reducible first | refine Br.dec ?_ ?_ | refine Br.ndec ?_ ?_) <;> intro hb <;> (try simp only [And.intro @List.length_nil (ZZ)] at hb) <;> (first | omega | skip))
     | (with_reducible first | refine Br.tt rfl ?_ | refine Br.ff rfl ?_ | refine Br.ff (isEmptyCons _ _) ?_)
     | (refine Side.mk ?_ ?_; focus (first | omega | (dsimp only [InR, Int.reduceToNat, IntKind.bits, Int.reducePow]; omega) | (simp [CC]; done) | (constructor <;> omega)))
     | (refine Br.mk ?_ ?_ <;> intro hb <;> (try simp only [And.intro @List.length_nil (ZZ)] at hb) <;> (first | omega | skip))
     | refine Src.whole ⟨rfl, rfl⟩ ?_ | refine FrzV.whole ?_) <;> conv => whnf)
    rw [← hR] at h0
    · refine PostCl.of (h0) ?_ ?_
      · repeat first | exact trivial | refine ⟨VLe.refl _, ?_⟩
      · repeat first | exact trivial | refine ⟨by decide, ?_⟩
  | cons b s ih =>
    intro hs hR
    have hl : (b :: s).length = s.length + 1 := rfl
    rw [trimL] at hR
    have hg : (b :: s).getD (Int.toNat 0) 0 = b := rfl
    refine LoopW.round (pol := polG) mixP ?_
    conv => whnf
    repeat' ((first
     | ((with_reducible first | refine Br.dec ?_ ?_ | refine Br.ndec ?_ ?_) <;> intro hb <;> (try simp only [And.intro @hg (ZZ)] at hb) <;> (first | omega | skip))
     | (with_reducible first | refine Br.tt rfl ?_ | refine Br.ff rfl ?_ | refine Br.ff (isEmptyCons _ _) ?_)
     | (refine Side.mk ?_ ?_; focus (first | omega | (dsimp only [InR, Int.reduceToNat, IntKind.bits, Int.reducePow]; omega) | (simp [CC]; done) | (constructor <;> omega)))
     | (refine Br.mk ?_ ?_ <;> intro hb <;> (try simp only [And.intro @hg (ZZ)] at hb) <;> (first | omega | skip))
     | refine Src.whole ⟨rfl, rfl⟩ ?_ | refine FrzV.whole ?_) <;> conv => whnf)
    · rw [if_pos (UInt8.toNat_inj.1 (by omega))] at hR
      refine LoopW.sub (ih (by omega) hR) (by repeat first | exact trivial | refine ⟨VLe.refl _, ?_⟩) (by repeat first | exact trivial | refine ⟨by decide, ?_⟩)
    · rw [if_neg (fun e => hb (by rw [e]))] at hR
      rw [← hR] at h0
      refine PostCl.of (h0) ?_ ?_
      · repeat first | exact trivial | refine ⟨VLe.refl _, ?_⟩
      · repeat first | exact trivial | refine ⟨by decide, ?_⟩
theorem strings_trimLeftByte (s : Str) (hs : s.length ≤ 1073741824) : AbsCall PP GG F.strings_trimLeftByte [.p (.str s), .p (byteP 48)] [] ⟨.ret (.p (.str (trimL s))), [], []⟩ := by
  refine absCall_of (pol := polG) mixP F.strings_trimLeftByte_is ?_
  conv => whnf
  refine LoopW.cl ?_
  refine LoopW.sub (trimL_loop _ s ?_ s hs rfl) (by repeat first | exact trivial | refine ⟨VLe.refl _, ?_⟩) (by repeat first | exact trivial | refine ⟨by decide, ?_⟩)
  conv => whnf
  exact CLe.eq rfl
theorem strings_TrimLeft (s : Str) (hs : s.length ≤ 1073741824) : AbsCall PP GG F.strings_TrimLeft [.p (.str s), .p (.str [48])] [] ⟨.ret (.p (.str (trimL s))), [], []⟩ := by
  have h1 : ([48] : Str).length = 1 := rfl
  have hg : ([48] : Str).getD (Int.toNat 0) 0 = 48 := rfl
  refine absCall_of (pol := polG) mixP F.strings_TrimLeft_is ?_
  conv => whnf
  repeat' ((first
   | ((with_reducible first | refine Br.dec ?_ ?_ | refine Br.ndec ?_ ?_) <;> intro hb <;> (try simp only [And.intro @h1 (And.intro @hg (ZZ))] at hb) <;> (first | omega | skip))
   | (with_reducible first | refine Br.tt rfl ?_ | refine Br.ff rfl ?_ | refine Br.ff (isEmptyCons _ _) ?_)
   | (refine Side.mk ?_ ?_; focus (first | omega | (dsimp only [InR, Int.reduceToNat, IntKind.bits, Int.reducePow]; omega) | (simp [CC]; done) | (constructor <;> omega)))
   | (refine Br.mk ?_ ?_ <;> intro hb <;> (try simp only [And.intro @h1 (And.intro @hg (ZZ))] at hb) <;> (first | omega | skip))
   | refine Src.whole ⟨rfl, rfl⟩ ?_ | refine FrzV.whole ?_
   | refine CallW.use (strings_trimLeftByte s hs) ?_) <;> conv => whnf)
  · exact CLe.retP (by rw [List.eq_nil_of_length_eq_zero hb]; rfl)
  · exact CLe.eq rfl
  · exact absurd (by decide) hb
theorem trimR_loop (K : Post) (R : Str) (h0 : K (.exit 0) [(0, .p (.str R))] [] []) : ∀ (q : Nat) (s : Str), s.length ≤ q → s.length ≤ 1073741824 → trimRn q s = R →
      LoopW PP GG 23 0 (loopN F.strings_trimRightByte_c 0) [(0, .p (.str s)), (1, .p (byteP 48))] [] [] (PostCl 23 K) := by
  intro q
  induction q with
  | zero =>
    intro s hq hs hR
    rw [trimRn] at hR
    subst hR
    refine LoopW.round (pol := polG) mixP ?_
    conv => whnf
    repeat' ((first
     | ((with_reducible first | refine Br.dec ?_ ?_ | refine Br.ndec ?_ ?_) <;> intro hb <;> (try simp only [ZZ] at hb) <;> (first | omega | skip))
     | (with_reducible first | refine Br.tt rfl ?_ | refine Br.ff rfl ?_ | refine Br.ff (isEmptyCons _ _) ?_)
     | (refine Side.mk ?_ ?_; focus (first | omega | (dsimp only [InR, Int.reduceToNat, IntKind.bits, Int.reducePow]; omega) | (simp [CC]; done) | (constructor <;> omega)))
     | (refine Br.mk ?_ ?_ <;> intro hb <;> (try simp only [ZZ] at hb) <;> (first | omega | skip))
     | refine Src.whole ⟨rfl, rfl⟩ ?_ | refine FrzV.whole ?_) <;> conv => whnf)
    · refine PostCl.of (h0) ?_ ?_
      · repeat first | exact trivial | refine ⟨VLe.refl _, ?_⟩
      · repeat first | exact trivial | refine ⟨by decide, ?_⟩
  | succ q ih =>
    intro s hq hs hR
    rw [trimRn] at hR
    have hl : (s.take (s.length - 1)).length = s.length - 1 := by rw [List.length_take]; omega
    have e1 : ((s.length : Int) - 1).toNat = s.length - 1 := by omega
    refine LoopW.round (pol := polG) mixP ?_
    conv => whnf
    repeat' ((first
     | ((with_reducible first | refine Br.dec ?_ ?_ | refine Br.ndec ?_ ?_) <;> intro hb <;> (try simp only [And.intro @e1 (ZZ)] at hb) <;> (first | omega | skip))
     | (with_reducible first | refine Br.tt rfl ?_ | refine Br.ff rfl ?_ | refine Br.ff (isEmptyCons _ _) ?_)
     | (refine Side.mk ?_ ?_; focus (first | omega | (dsimp only [InR, Int.reduceToNat, IntKind.bits, Int.reducePow]; omega) | (simp [CC]; done) | (constructor <;> omega)))
     | (refine Br.mk ?_ ?_ <;> intro hb <;> (try simp only [And.intro @e1 (ZZ)] at hb) <;> (first | omega | skip))
     | refine Src.whole ⟨rfl, rfl⟩ ?_ | refine FrzV.whole ?_) <;> conv => whnf)
    · rw [if_pos ⟨by omega, UInt8.toNat_inj.1 (by omega)⟩] at hR
      rw [e1]
      refine LoopW.sub (ih (s.take (s.length - 1)) (by omega) (by omega) hR) (by repeat first | exact trivial | refine ⟨VLe.refl _, ?_⟩) (by repeat first | exact trivial | refine ⟨by decide, ?_⟩)
    · rw [if_neg (fun e => hb (by rw [e.2]))] at hR
      subst hR
      refine PostCl.of (h0) ?_ ?_
      · repeat first | exact trivial | refine ⟨VLe.refl _, ?_⟩
      · repeat first | exact trivial | refine ⟨by decide, ?_⟩
    · rw [if_neg (fun e => by omega)] at hR
      subst hR
      refine PostCl.of (h0) ?_ ?_
      · repeat first | exact trivial | refine ⟨VLe.refl _, ?_⟩
      · repeat first | exact trivial | refine ⟨by decide, ?_⟩
theorem strings_trimRightByte (s : Str) (hs : s.length ≤ 1073741824) : AbsCall PP GG F.strings_trimRightByte [.p (.str s), .p (byteP 48)] [] ⟨.ret (.p (.str (trimR s))), [], []⟩ := by
  refine absCall_of (pol := polG) mixP F.strings_trimRightByte_is ?_
  conv => whnf
  refine LoopW.cl ?_
  refine LoopW.sub (trimR_loop _ (trimR s) ?_ s.length s (by omega) hs rfl) (by repeat first | exact trivial | refine ⟨VLe.refl _, ?_⟩) (by repeat first | exact trivial | refine ⟨by decide, ?_⟩)
  conv => whnf
  exact CLe.eq rfl
theorem strings_TrimRight (s : Str) (hs : s.length ≤ 1073741824) : AbsCall PP GG F.strings_TrimRight [.p (.str s), .p (.str [48])] [] ⟨.ret (.p (.str (trimR s))), [], []⟩ := by
  have h1 : ([48] : Str).length = 1 := rfl
  have hg : ([48] : Str).getD (Int.toNat 0) 0 = 48 := rfl
  refine absCall_of (pol := polG) mixP F.strings_TrimRight_is ?_
  conv => whnf
  repeat' ((first
   | ((with_reducible first | refine Br.dec ?_ ?_ | refine Br.ndec ?_ ?_) <;> intro hb <;> (try simp only [And.intro @h1 (And.intro @hg (ZZ))] at hb) <;> (first | omega | skip))
   | (with_reducible first | refine Br.tt rfl ?_ | refine Br.ff rfl ?_ | refine Br.ff (isEmptyCons _ _) ?_)
   | (refine Side.mk ?_ ?_; focus (first | omega | (dsimp only [InR, Int.reduceToNat, IntKind.bits, Int.reducePow]; omega) | (simp [CC]; done) | (constructor <;> omega)))
   | (refine Br.mk ?_ ?_ <;> intro hb <;> (try simp only [And.intro @h1 (And.intro @hg (ZZ))] at hb) <;> (first | omega | skip))
   | refine Src.whole ⟨rfl, rfl⟩ ?_ | refine FrzV.whole ?_
   | refine CallW.use (strings_trimRightByte s hs) ?_) <;> conv => whnf)
  · exact CLe.retP (by rw [List.eq_nil_of_length_eq_zero hb]; rfl)
  · exact CLe.eq rfl
  · exact absurd (by decide) hb
theorem dpow_loop (s : Str) (hs : s.length ≤ 1073741824) (hd : ∀ b ∈ s, dig b = true) (less : Bool) (R : Option Int) (K : Post)
    (h0 : ∀ v : Int, R = some v → 0 ≤ v → v ≤ 100000 → K (.exit 0) [(4, .p (.bool less)), (5, .p (.int .i64 v))] [.arr T.uint8 1 (s.map byteP)] [])
    (hr : R = none → K .ret [(2, .p (.int .i64 0)), (3, .p (.bool false))] [.arr T.uint8 1 (s.map byteP)] []) :
    ∀ (q i : Nat) (v : Int), i + q = s.length → 0 ≤ v → v ≤ 100000 → powD (s.drop i) v = R →
      LoopW PP GG 46 0 (loopN F.dec_power_c 0) [(4, .p (.bool less)), (5, .p (.int .i64 v)), (27, .sl 0 0 (s.map byteP).length), (28, .p (.int .i64 (s.map byteP).length)), (29, .p (.int .i64 i))] [.arr T.uint8 1 (s.map byteP)] [] (PostCl 46 K) := by
  have hl : (s.map byteP).length = s.length := by simp
  intro q
  induction q with
  | zero =>
    intro i v hi hv0 hv1 hR
    rw [List.drop_eq_nil_of_le (by omega), powD] at hR
    refine LoopW.round (pol := polG) mixP ?_
    conv => whnf
    repeat' ((first
     | ((with_reducible first | refine Br.dec ?_ ?_ | refine Br.ndec ?_ ?_) <;> intro hb <;> (try simp only [And.intro @hl (ZZ)] at hb) <;> (first | omega | skip))
     | (with_reducible first | refine Br.tt rfl ?_ | refine Br.ff rfl ?_ | refine Br.ff (isEmptyCons _ _) ?_)
     | (refine Side.mk ?_ ?_; focus (first | omega | (dsimp only [InR, Int.reduceToNat, IntKind.bits, Int.reducePow]; omega) | (simp [CC]; done) | (constructor <;> omega)))
     | (refine Br.mk ?_ ?_ <;> intro hb <;> (try simp only [And.intro @hl (ZZ)] at hb) <;> (first | omega | skip))
     | refine Src.whole ⟨rfl, rfl⟩ ?_ | refine FrzV.whole ?_) <;> conv => whnf)
    · refine PostCl.of (h0 v hR.symm hv0 hv1) ?_ ?_
      · repeat first | exact trivial | refine ⟨VLe.refl _, ?_⟩
      · repeat first | exact trivial | refine ⟨by decide, ?_⟩
  | succ q ih =>
    intro i v hi hv0 hv1 hR
    obtain ⟨b, hbx⟩ : ∃ b, s[i]? = some b := ⟨_, List.getElem?_eq_getElem (show i < s.length by omega)⟩
    have hdb := hd b (List.mem_of_getElem? hbx)
    unfold dig at hdb
    rw [decide_eq_true_eq] at hdb
    rw [drop_cons hbx, powD] at hR
    refine LoopW.round (pol := polG) mixP ?_
    conv => whnf
    repeat' ((first
     | ((with_reducible first | refine Br.dec ?_ ?_ | refine Br.ndec ?_ ?_) <;> intro hb <;> (try simp only [And.intro @hl (ZZ)] at hb) <;> (first | omega | skip))
     | (with_reducible first | refine Br.tt rfl ?_ | refine Br.ff rfl ?_ | refine Br.ff (isEmptyCons _ _) ?_)
     | (refine Side.mk ?_ ?_; focus (first | omega | (dsimp only [InR, Int.reduceToNat, IntKind.bits, Int.reducePow]; omega) | exact ⟨rfl, rfl⟩ | (simp [CC]; done) | (constructor <;> omega)))
     | (refine Br.mk ?_ ?_ <;> intro hb <;> (try simp only [And.intro @hl (ZZ)] at hb) <;> (first | omega | skip))
     | refine Src.whole ⟨rfl, rfl⟩ ?_ | refine FrzV.whole ?_
     | (refine ElemA.byte (b := b) (by simpa [plus0] using hbx) ?_)) <;> conv => whnf)
    · rw [if_pos (by omega)] at hR
      refine PostCl.of (hr hR.symm) ?_ ?_
      · repeat first | exact trivial | refine ⟨VLe.refl _, ?_⟩
      · repeat first | exact trivial | refine ⟨by decide, ?_⟩
    · rw [if_neg (by omega)] at hR
      refine LoopW.sub (ih (i + 1) _ (by omega) (by omega) (by omega) hR) (by repeat first | exact trivial | refine ⟨VLe.refl _, ?_⟩) (by repeat first | exact trivial | refine ⟨by decide, ?_⟩)
theorem dpow_4 (less : Bool) (s : Str) (hs : s.length ≤ 1073741824) (R : Int × Bool) (K : Post) (hR : powTail less s = R)
    (h0 : K .ret [(2, .p (.int .i64 R.1)), (3, .p (.bool R.2))] [] [])
    (h1 : K .ret [(2, .p (.int .i64 R.1)), (3, .p (.bool R.2))] [.arr T.uint8 1 (s.map byteP)] []) :
    CutW PP GG 46 0 (tailN F.dec_power_c 4) [(0, .p (.str s)), (4, .p (.bool less))] [] [] (PostCl 46 K) := by
  have hl : (s.map byteP).length = s.length := by simp
  have hr := runL_le s
  unfold powTail at hR
  refine CutW.go (pol := polC []) mixP ?_
  conv => whnf
  repeat' ((first
   | ((with_reducible first | refine Br.dec ?_ ?_ | refine Br.ndec ?_ ?_) <;> intro hb <;> (try simp only [And.intro @hl (ZZ)] at hb) <;> (first | omega | skip))
   | (with_reducible first | refine Br.tt rfl ?_ | refine Br.ff rfl ?_ | refine Br.ff (isEmptyCons _ _) ?_)
   | (refine Side.mk ?_ ?_; focus (first | omega | (dsimp only [InR, Int.reduceToNat, IntKind.bits, Int.reducePow]; omega) | (simp only [hl]; omega) | (simp [CC]; done) | (constructor <;> omega)))
   | (refine Br.mk ?_ ?_ <;> intro hb <;> (try simp only [And.intro @hl (ZZ)] at hb) <;> (first | omega | skip))
   | refine Src.whole ⟨rfl, rfl⟩ ?_ | refine FrzV.whole ?_
   | refine CallW.use (dec_digits s hs) ?_) <;> conv => whnf)
  · rw [if_pos (by omega)] at hR
    subst hR
    refine PostCl.of (h0) ?_ ?_
    · repeat first | exact trivial | refine ⟨VLe.refl _, ?_⟩
    · repeat first | exact trivial | refine ⟨by decide, ?_⟩
  · rw [if_pos (by omega)] at hR
    subst hR
    refine PostCl.of (h0) ?_ ?_
    · repeat first | exact trivial | refine ⟨VLe.refl _, ?_⟩
    · repeat first | exact trivial | refine ⟨by decide, ?_⟩
  · rw [if_neg (by omega)] at hR
    refine LoopW.cl ?_
    refine LoopW.sub (dpow_loop s hs (runL_dig (by omega)) less (powD s 0) _ (fun v hv hv0 hv1 => ?_) (fun hv => ?_) s.length 0 0 (by omega) (by omega) (by omega) rfl) (by repeat first | exact trivial | refine ⟨VLe.refl _, ?_⟩) (by repeat first | exact trivial | refine ⟨by decide, ?_⟩)
    · rw [hv] at hR
      simp only [] at hR
      conv => whnf
      repeat' ((first
       | ((with_reducible first | refine Br.dec ?_ ?_ | refine Br.ndec ?_ ?_) <;> intro hb <;> (try simp only [ZZ] at hb) <;> (first | omega | skip))
       | (with_reducible first | refine Br.tt rfl ?_ | refine Br.ff rfl ?_ | refine Br.ff (isEmptyCons _ _) ?_)
       | (refine Side.mk ?_ ?_; focus (first | omega | (dsimp only [InR, Int.reduceToNat, IntKind.bits, Int.reducePow]; omega) | (simp [CC]; done) | (constructor <;> omega)))
       | (refine Br.mk ?_ ?_ <;> intro hb <;> (try simp only [ZZ] at hb) <;> (first | omega | skip))
       | refine Src.whole ⟨rfl, rfl⟩ ?_ | refine FrzV.whole ?_) <;> conv => whnf)
      · rw [if_pos (by assumption)] at hR
        subst hR
        rw [InR.wrap (by simp only [InR]; omega), Int.zero_sub]
        refine PostCl.of (h1) ?_ ?_
        · repeat first | exact trivial | refine ⟨VLe.refl _, ?_⟩
        · repeat first | exact trivial | refine ⟨by decide, ?_⟩
      · rw [if_neg (by simp [*])] at hR
        subst hR
        refine PostCl.of (h1) ?_ ?_
        · repeat first | exact trivial | refine ⟨VLe.refl _, ?_⟩
        · repeat first | exact trivial | refine ⟨by decide, ?_⟩
    · rw [hv] at hR
      subst hR
      conv => whnf
      refine PostCl.of (h1) ?_ ?_
      · repeat first | exact trivial | refine ⟨VLe.refl _, ?_⟩
      · repeat first | exact trivial | refine ⟨by decide, ?_⟩
theorem dec_power (s : Str) (hs : s.length ≤ 1073741824) : AbsCall PP GG F.dec_power [.p (.str s)] [] ⟨.ret (.tup [.p (.int .i64 (decPow s).1), .p (.bool (decPow s).2)]), [], []⟩ := by
  have hl1 : (s.drop 1).length = s.length - 1 := List.length_drop
  have hD : decPow s = if preB s 45 = true then powTail true (s.drop 1) else if preB s 43 = true then powTail false (s.drop 1) else powTail false s := rfl
  refine absCall_of (pol := polC [4]) mixP F.dec_power_is ?_
  conv => whnf
  repeat' ((first
   | ((with_reducible first | refine Br.dec ?_ ?_ | refine Br.ndec ?_ ?_) <;> intro hb <;> (try simp only [ZZ] at hb) <;> (first | omega | skip))
   | (with_reducible first | refine Br.tt rfl ?_ | refine Br.ff rfl ?_ | refine Br.ff (isEmptyCons _ _) ?_)
   | (refine Side.mk ?_ ?_; focus (first | omega | (dsimp only [InR, Int.reduceToNat, IntKind.bits, Int.reducePow]; omega) | exact ⟨by decide, by have := preB_len (by assumption); omega⟩ | (simp [CC]; done) | (constructor <;> omega)))
   | (refine Br.mk ?_ ?_ <;> intro hb <;> (try simp only [ZZ] at hb) <;> (first | omega | skip))
   | refine Src.whole ⟨rfl, rfl⟩ ?_ | refine FrzV.whole ?_
   | refine CallW.use (strings_HasPrefix s 45) ?_
   | refine CallW.use (strings_HasPrefix s 43) ?_) <;> conv => whnf)
  all_goals refine CutW.cl ?_
  · refine CutW.sub (dpow_4 (preB s 45) (s.drop 1) (by omega) (decPow s) _ (by rw [hD, if_pos hb, hb]) ?_ ?_) (by repeat first | exact trivial | refine ⟨VLe.refl _, ?_⟩) (by repeat first | exact trivial | refine ⟨by decide, ?_⟩)
    · conv => whnf
      exact CLe.eq rfl
    · conv => whnf
      exact CLe.eq rfl
  · rename_i h45
    refine CutW.sub (dpow_4 (preB s 45) (s.drop 1) (by omega) (decPow s) _ (by rw [hD, if_neg (by rw [h45]; simp), if_pos hb, h45]) ?_ ?_) (by repeat first | exact trivial | refine ⟨VLe.refl _, ?_⟩) (by repeat first | exact trivial | refine ⟨by decide, ?_⟩)
    · conv => whnf
      exact CLe.eq rfl
    · conv => whnf
      exact CLe.eq rfl
  · rename_i h45
    refine CutW.sub (dpow_4 (preB s 45) s (by omega) (decPow s) _ (by rw [hD, if_neg (by rw [h45]; simp), if_neg (by rw [hb]; simp), h45]) ?_ ?_) (by repeat first | exact trivial | refine ⟨VLe.refl _, ?_⟩) (by repeat first | exact trivial | refine ⟨by decide, ?_⟩)
    · conv => whnf
      exact CLe.eq rfl
    · conv => whnf
      exact CLe.eq rfl
theorem parse_21 (less : Bool) (w p : Str) (e : Int) (hw : w.length + p.length ≤ 400) (he : -100000 ≤ e ∧ e ≤ 100000) (R : Dnum) (K : Post) (hR : decE less w p e = R)
    (h0 : K .ret [(2, .ptr 0 0), (3, .p (.bool R.2))] [.var T.dec_number (.p (.agg [.bool R.1.1, .str R.1.2.1, .int .i64 R.1.2.2]))] []) :
    CutW PP GG 103 0 (tailN F.dec_parse_c 21) [(2, .ptr 0 0), (5, .p (.bool less)), (7, .p (.str w)), (8, .p (.str p)), (9, .p (.int .i64 e))] [.var T.dec_number (.p (.agg [.bool false, .str [], .int .i64 0]))] [] (PostCl 103 K) := by
  have hl : (w ++ p).length = w.length + p.length := List.length_append
  have ht := trimL_len (w ++ p)
  unfold decE at hR
  refine CutW.go (pol := polC []) mixP ?_
  conv => whnf
  repeat' ((first
   | ((with_reducible first | refine Br.dec ?_ ?_ | refine Br.ndec ?_ ?_) <;> intro hb <;> (try simp only [ZZ] at hb) <;> (first | omega | skip))
   | (with_reducible first | refine Br.tt rfl ?_ | refine Br.ff rfl ?_ | refine Br.ff (isEmptyCons _ _) ?_)
   | (refine Side.mk ?_ ?_; focus (first | omega | (dsimp only [InR, Int.reduceToNat, IntKind.bits, Int.reducePow]; omega) | (simp only [hl]; omega) | (simp [CC]; done) | (constructor <;> omega)))
   | (refine Br.mk ?_ ?_ <;> intro hb <;> (try simp only [ZZ] at hb) <;> (first | omega | skip))
   | refine Src.whole ⟨rfl, rfl⟩ ?_ | refine FrzV.whole ?_
   | refine CallW.use (strings_TrimLeft (w ++ p) (by omega)) ?_
   | refine CallW.use (strings_TrimRight (trimL (w ++ p)) (by omega)) ?_) <;> conv => whnf)
  all_goals
    first
    | (rw [if_pos (by omega)] at hR; subst hR; refine PostCl.of (h0) (by repeat first | exact trivial | refine ⟨VLe.refl _, ?_⟩) (by repeat first | exact trivial | refine ⟨by decide, ?_⟩))
    | (rw [if_neg (by omega)] at hR; subst hR; refine PostCl.of (h0) (by repeat first | exact trivial | refine ⟨VLe.refl _, ?_⟩) (by repeat first | exact trivial | refine ⟨by decide, ?_⟩))
theorem parse_14 (less : Bool) (w p s : Str) (hw : w.length + p.length + s.length ≤ 400) (R : Dnum) (K : Post) (hR : decD less w p s = R)
    (h0 : K .ret [(2, .ptr 0 0), (3, .p (.bool R.2))] [.var T.dec_number (.p (.agg [.bool R.1.1, .str R.1.2.1, .int .i64 R.1.2.2]))] []) :
    CutW PP GG 103 0 (tailN F.dec_parse_c 14) [(2, .ptr 0 0), (4, .p (.str s)), (5, .p (.bool less)), (7, .p (.str w)), (8, .p (.str p)), (9, .p (.int .i64 0))] [.var T.dec_number (.p (.agg [.bool false, .str [], .int .i64 0]))] [] (PostCl 103 K) := by
  have hl1 : (s.drop 1).length = s.length - 1 := List.length_drop
  unfold decD b0 at hR
  refine CutW.go (pol := polC [21]) mixP ?_
  conv => whnf
  repeat' ((first
   | ((with_reducible first | refine Br.dec ?_ ?_ | refine Br.ndec ?_ ?_) <;> intro hb <;> (try simp only [And.intro NN (ZZ)] at hb) <;> (first | omega | skip))
   | (with_reducible first | refine Br.tt rfl ?_ | refine Br.ff rfl ?_ | refine Br.ff (isEmptyCons _ _) ?_)
   | (refine Side.mk ?_ ?_; focus (first | omega | (dsimp only [InR, Int.reduceToNat, IntKind.bits, Int.reducePow]; omega) | (simp only [Int.reduceToNat, hl1]; omega) | (simp [CC]; done) | (constructor <;> omega)))
   | (refine Br.mk ?_ ?_ <;> intro hb <;> (try simp only [And.intro NN (ZZ)] at hb) <;> (first | omega | skip))
   | refine Src.whole ⟨rfl, rfl⟩ ?_ | refine FrzV.whole ?_
   | refine CallW.use (dec_power (s.drop 1) (by omega)) ?_) <;> conv => whnf)
  all_goals
    first
    | (rw [if_pos (by omega)] at hR; refine CutW.sub (parse_21 less w p 0 (by omega) (by omega) R K hR h0) (by repeat first | exact trivial | refine ⟨VLe.refl _, ?_⟩) (by repeat first | exact trivial | refine ⟨by decide, ?_⟩))
    | (rw [if_neg (by omega), if_pos (by omega)] at hR; subst hR; refine PostCl.of (h0) (by repeat first | exact trivial | refine ⟨VLe.refl _, ?_⟩) (by repeat first | exact trivial | refine ⟨by decide, ?_⟩))
    | (rw [if_neg (by omega), if_neg (by omega), if_pos (by assumption)] at hR; subst hR; refine PostCl.of (h0) (by repeat first | exact trivial | refine ⟨VLe.refl _, ?_⟩) (by repeat first | exact trivial | refine ⟨by decide, ?_⟩))
    | (rw [if_neg (by omega), if_neg (by omega), if_neg (nf (by assumption))] at hR; refine CutW.sub (parse_21 less w p (decPow (s.drop 1)).1 (by omega) (decPow_bound _) R K hR h0) (by repeat first | exact trivial | refine ⟨VLe.refl _, ?_⟩) (by repeat first | exact trivial | refine ⟨by decide, ?_⟩))
theorem parse_9 (less : Bool) (w s : Str) (hw : w.length + s.length ≤ 400) (R : Dnum) (K : Post) (hR : decC less w s = R)
    (h0 : K .ret [(2, .ptr 0 0), (3, .p (.bool R.2))] [.var T.dec_number (.p (.agg [.bool R.1.1, .str R.1.2.1, .int .i64 R.1.2.2]))] []) :
    CutW PP GG 103 0 (tailN F.dec_parse_c 9) [(2, .ptr 0 0), (4, .p (.str s)), (5, .p (.bool less)), (7, .p (.str w)), (8, .p (.str [])), (9, .p (.int .i64 0))] [.var T.dec_number (.p (.agg [.bool false, .str [], .int .i64 0]))] [] (PostCl 103 K) := by
  have hl1 : (s.drop 1).length = s.length - 1 := List.length_drop
  have hr1 := runL_le (s.drop 1)
  have e1 : List.take (((runL (s.drop 1) : Int) + 1).toNat - 1) (s.drop 1) = List.take (runL (s.drop 1)) (s.drop 1) := by congr 1 <;> omega
  have e2 : List.drop ((runL (s.drop 1) : Int) + 1).toNat s = List.drop (runL (s.drop 1)) (s.drop 1) := by rw [List.drop_drop]; congr 1 <;> omega
  have e5 : 1 ≤ s.length → w.length + (List.take (((runL (s.drop 1) : Int) + 1).toNat - 1) (s.drop 1)).length + (List.drop ((runL (s.drop 1) : Int) + 1).toNat s).length ≤ 400 := by intro h; rw [e1, e2, take_run, List.length_drop]; omega
  unfold decC at hR
  refine CutW.go (pol := polC [14]) mixP ?_
  conv => whnf
  repeat' ((first
   | ((with_reducible first | refine Br.dec ?_ ?_ | refine Br.ndec ?_ ?_) <;> intro hb <;> (try simp only [And.intro NN (ZZ)] at hb) <;> (first | omega | skip))
   | (with_reducible first | refine Br.tt rfl ?_ | refine Br.ff rfl ?_ | refine Br.ff (isEmptyCons _ _) ?_)
   | (refine Side.mk ?_ ?_; focus (first | omega | (dsimp only [InR, Int.reduceToNat, IntKind.bits, Int.reducePow]; omega) | exact ⟨by decide, by have := preB_len (by assumption); omega⟩ | (have := preB_len (by assumption); simp only [Int.reduceToNat, hl1]; omega) | (simp [CC]; done) | (constructor <;> omega)))
   | (refine Br.mk ?_ ?_ <;> intro hb <;> (try simp only [And.intro NN (ZZ)] at hb) <;> (first | omega | skip))
   | refine Src.whole ⟨rfl, rfl⟩ ?_ | refine FrzV.whole ?_
   | refine CallW.use (strings_HasPrefix s 46) ?_
   | refine CallW.use (dec_digits (s.drop 1) (by omega)) ?_) <;> conv => whnf)
  all_goals
    first
    | (rw [if_pos (by assumption), if_pos (by omega)] at hR; subst hR; refine PostCl.of (h0) (by repeat first | exact trivial | refine ⟨VLe.refl _, ?_⟩) (by repeat first | exact trivial | refine ⟨by decide, ?_⟩))
    | (rw [if_pos (by assumption), if_neg (by omega), ← e1, ← e2] at hR; refine CutW.sub (parse_14 less w _ _ (e5 (preB_len (by assumption))) R K hR h0) (by repeat first | exact trivial | refine ⟨VLe.refl _, ?_⟩) (by repeat first | exact trivial | refine ⟨by decide, ?_⟩))
    | (rw [if_neg (nt (by assumption))] at hR; refine CutW.sub (parse_14 less w [] s (by simp only [List.length_nil]; omega) R K hR h0) (by repeat first | exact trivial | refine ⟨VLe.refl _, ?_⟩) (by repeat first | exact trivial | refine ⟨by decide, ?_⟩))
theorem parse_4 (less : Bool) (s : Str) (hw : s.length ≤ 400) (R : Dnum) (K : Post) (hR : decB less s = R)
    (h0 : K .ret [(2, .ptr 0 0), (3, .p (.bool R.2))] [.var T.dec_number (.p (.agg [.bool R.1.1, .str R.1.2.1, .int .i64 R.1.2.2]))] []) :
    CutW PP GG 103 0 (tailN F.dec_parse_c 4) [(2, .ptr 0 0), (4, .p (.str s)), (5, .p (.bool less))] [.var T.dec_number (.p (.agg [.bool false, .str [], .int .i64 0]))] [] (PostCl 103 K) := by
  have hr := runL_le s
  have hwl : (s.take (runL s)).length = runL s := take_run s
  have hul : (s.drop (runL s)).length = s.length - runL s := List.length_drop
  unfold decB b0 at hR
  refine CutW.go (pol := polC [9]) mixP ?_
  conv => whnf
  repeat' ((first
   | ((with_reducible first | refine Br.dec ?_ ?_ | refine Br.ndec ?_ ?_) <;> intro hb <;> (try simp only [And.intro NN (And.intro @Int.toNat_natCast (And.intro @hwl (ZZ)))] at hb) <;> (first | omega | skip))
   | (with_reducible first | refine Br.tt rfl ?_ | refine Br.ff rfl ?_ | refine Br.ff (isEmptyCons _ _) ?_)
   | (refine Side.mk ?_ ?_; focus (first | omega | (dsimp only [InR, Int.reduceToNat, IntKind.bits, Int.reducePow]; omega) | (simp only [And.intro NN (And.intro @Int.toNat_natCast hwl)]; omega) | (simp [CC]; done) | (constructor <;> omega)))
   | (refine Br.mk ?_ ?_ <;> intro hb <;> (try simp only [And.intro NN (And.intro @Int.toNat_natCast (And.intro @hwl (ZZ)))] at hb) <;> (first | omega | skip))
   | refine Src.whole ⟨rfl, rfl⟩ ?_ | refine FrzV.whole ?_
   | refine CallW.use (dec_digits s (by omega)) ?_) <;> conv => whnf)
  all_goals
    first
    | (rw [if_pos (by omega)] at hR; subst hR; refine PostCl.of (h0) (by repeat first | exact trivial | refine ⟨VLe.refl _, ?_⟩) (by repeat first | exact trivial | refine ⟨by decide, ?_⟩))
    | (rw [if_neg (by omega)] at hR; refine CutW.sub (parse_9 less (s.take (runL s)) (s.drop (runL s)) (by omega) R K hR h0) (by repeat first | exact trivial | refine ⟨VLe.refl _, ?_⟩) (by repeat first | exact trivial | refine ⟨by decide, ?_⟩))
theorem dec_parse (s : Str) (hs : s.length ≤ 1073741824) : AbsCall PP GG F.dec_parse [.p (.str s)] [] ⟨.ret (.tup [.p (.agg [.bool (decParse s).1.1, .str (decParse s).1.2.1, .int .i64 (decParse s).1.2.2]), .p (.bool (decParse s).2)]), [], []⟩ := by
  have hD : decParse s = if 400 < s.length then noNum else decB (preB s 45) (if preB s 45 = true then s.drop 1 else s) := rfl
  have hle : (if preB s 45 = true then s.drop 1 else s).length ≤ s.length := by split <;> simp
  refine absCall_of (pol := polC [4]) mixP F.dec_parse_is ?_
  conv => whnf
  repeat' ((first
   | ((with_reducible first | refine Br.dec ?_ ?_ | refine Br.ndec ?_ ?_) <;> intro hb <;> (try simp only [ZZ] at hb) <;> (first | omega | skip))
   | (with_reducible first | refine Br.tt rfl ?_ | refine Br.ff rfl ?_ | refine Br.ff (isEmptyCons _ _) ?_)
   | (refine Side.mk ?_ ?_; focus (first | omega | (dsimp only [InR, Int.reduceToNat, IntKind.bits, Int.reducePow]; omega) | (simp [CC]; done) | (constructor <;> omega)))
   | (refine Br.mk ?_ ?_ <;> intro hb <;> (try simp only [ZZ] at hb) <;> (first | omega | skip))
   | refine Src.whole ⟨rfl, rfl⟩ ?_ | refine FrzV.whole ?_
   | refine CallW.use (strings_CutPrefix s 45) ?_) <;> conv => whnf)
  · exact CLe.eq (by rw [hD, if_pos (by omega)]; rfl)
  · refine CutW.cl ?_
    refine CutW.sub (parse_4 (preB s 45) (if preB s 45 = true then s.drop 1 else s) (by omega) (decParse s) _ (by rw [hD]; exact (if_neg (by omega)).symm) ?_) (by repeat first | exact trivial | refine ⟨VLe.refl _, ?_⟩) (by repeat first | exact trivial | refine ⟨by decide, ?_⟩)
    conv => whnf
    exact CLe.eq rfl
theorem dec_Good (s : Str) (hs : s.length ≤ 1073741824) : AbsCall PP GG F.dec_Good [.p (.str s)] [] ⟨.ret (.p (.bool (decParse s).2)), [], []⟩ := by
  refine absCall_of (pol := polG) mixP F.dec_Good_is ?_
  conv => whnf
  repeat' ((first
   | ((with_reducible first | refine Br.dec ?_ ?_ | refine Br.ndec ?_ ?_) <;> intro hb <;> (try simp only [ZZ] at hb) <;> (first | omega | skip))
   | (with_reducible first | refine Br.tt rfl ?_ | refine Br.ff rfl ?_ | refine Br.ff (isEmptyCons _ _) ?_)
   | (refine Side.mk ?_ ?_; focus (first | omega | (dsimp only [InR, Int.reduceToNat, IntKind.bits, Int.reducePow]; omega) | (simp [CC]; done) | (constructor <;> omega)))
   | (refine Br.mk ?_ ?_ <;> intro hb <;> (try simp only [ZZ] at hb) <;> (first | omega | skip))
   | refine Src.whole ⟨rfl, rfl⟩ ?_ | refine FrzV.whole ?_
   | refine CallW.use (dec_parse s hs) ?_) <;> conv => whnf)
  exact CLe.eq rfl
end Go.Proofs.YtoinkmogdfjmmaaGreatDoor
end

section
namespace Go.Am
open Go
def okP (R : Parts) : Bool := R.2.2.2.2 && (powerL R.2.2.2.1).2
theorem numL_eq (s : Str) : numL s = (okP (numParts s) && decide (s.length ≤ 400)) := by
  unfold numL formL okP
  cases (numParts s).2.2.2.2 <;> cases (powerL (numParts s).2.2.2.1).2 <;> rfl
theorem preB_iff (s : Str) (p : UInt8) : preB s p = true ↔ 0 < s.length ∧ b0 s = p.toNat := by
  unfold preB b0
  rw [decide_eq_true_eq]
  cases s with
  | nil => simp
  | cons b s => simp [UInt8.toNat_inj]
theorem decE_ok (less : Bool) (w p : Str) (e : Int) : (decE less w p e).2 = true := by unfold decE; split <;> rfl
theorem powL_powD : ∀ (s : Str) (v : Int), (∀ b ∈ s, dig b = true) → powL s v = powD s v
  | [], _, _ => rfl
  | b :: s, v, h => by
    rw [powL, powD, if_pos (h b (by simp)), show 10 * v + ((b.toNat : Int) - 48) = v * 10 + ((b.toNat : Int) - 48) by omega]
    by_cases hc : 100000 < v * 10 + ((b.toNat : Int) - 48)
    · rw [if_pos hc, if_pos hc]
    · rw [if_neg hc, if_neg hc]
      exact powL_powD s _ fun x hx => h x (by simp [hx])
theorem powerL_ok (p : Str) : (powerL p).2 = (powL p 0).isSome := by
  unfold powerL
  split
  · rename_i h; rw [h]; rfl
  · rename_i v h; rw [h]; split <;> rfl
theorem powTail_ok (less : Bool) (d : Str) : (powTail less d).2 = if d.length = 0 ∨ runL d ≠ d.length then false else (powD d 0).isSome := by
  unfold powTail
  split
  · rfl
  · split
    · rename_i h; rw [h]; rfl
    · rename_i v h; rw [h]; split <;> rfl
theorem partsE_ok (neg : Bool) (w f p d : Str) (h : powL p 0 = powL d 0) (less : Bool) : okP (partsE neg w f p d) = (powTail less d).2 := by
  rw [powTail_ok]
  unfold partsE okP
  split
  · rfl
  · rename_i hc
    simp only [Bool.true_and]
    rw [powerL_ok, h, powL_powD d 0 (runL_dig (by omega))]
theorem powL_sign {p : Str} (h : 0 < p.length) (hs : b0 p = 43 ∨ b0 p = 45) : powL p 0 = powL (p.drop 1) 0 := by
  cases p with
  | nil => simp at h
  | cons b s =>
    have hb : b0 (b :: s) = b.toNat := rfl
    rw [powL, if_neg]
    · rfl
    · unfold dig; rw [decide_eq_true_eq]; omega
theorem partsD_ok (neg less : Bool) (w f s : Str) : okP (partsD neg w f s) = (decD less w f s).2 := by
  unfold partsD decD
  split
  · rw [decE_ok]; rfl
  · split
    · rfl
    · have key : okP (if 0 < (s.drop 1).length ∧ (b0 (s.drop 1) = 43 ∨ b0 (s.drop 1) = 45) then partsE neg w f (s.drop 1) ((s.drop 1).drop 1) else partsE neg w f (s.drop 1) (s.drop 1)) = (decPow (s.drop 1)).2 := by
        have h45 := preB_iff (s.drop 1) 45
        have h43 := preB_iff (s.drop 1) 43
        have e45 : (45 : UInt8).toNat = 45 := rfl
        have e43 : (43 : UInt8).toNat = 43 := rfl
        rw [e45] at h45
        rw [e43] at h43
        unfold decPow
        split
        · rename_i hc
          rw [partsE_ok neg w f _ _ (powL_sign hc.1 hc.2) (preB (s.drop 1) 45)]
          by_cases hp : preB (s.drop 1) 45 = true
          · rw [if_pos hp, hp]
          · rw [if_neg hp, if_pos (h43.2 (by have := mt h45.2 hp; omega))]
            rw [show preB (s.drop 1) 45 = false by simpa using hp]
        · rename_i hc
          rw [partsE_ok neg w f _ _ rfl false, if_neg (fun h => hc (by have := h45.1 h; omega)), if_neg (fun h => hc (by have := h43.1 h; omega))]
      rw [key]
      cases hq : (decPow (s.drop 1)).2 with
      | false => rfl
      | true => rw [if_neg (by simp), decE_ok]
theorem partsC_ok (neg less : Bool) (w s : Str) : okP (partsC neg w s) = (decC less w s).2 := by
  have h := preB_iff s 46
  have e46 : (46 : UInt8).toNat = 46 := rfl
  rw [e46] at h
  unfold partsC decC
  by_cases hp : preB s 46 = true
  · rw [if_pos (h.1 hp), if_pos hp]
    split
    · rfl
    · exact partsD_ok _ _ _ _ _
  · rw [if_neg (mt h.2 hp), if_neg hp]
    exact partsD_ok _ _ _ _ _
theorem partsB_ok (neg less : Bool) (s : Str) : okP (partsB neg s) = (decB less s).2 := by
  have hb : 0 < runL s → b0 (s.take (runL s)) = b0 s := by
    intro h
    cases s with
    | nil => rfl
    | cons b s =>
      obtain ⟨k, hk⟩ : ∃ k, runL (b :: s) = k + 1 := ⟨runL (b :: s) - 1, by omega⟩
      rw [hk]; rfl
  unfold partsB decB
  by_cases h0 : runL s = 0
  · rw [if_pos (.inl h0), if_pos (.inl h0)]; rfl
  · rw [hb (by omega)]
    split
    · rfl
    · exact partsC_ok _ _ _ _
theorem decParse_ok (s : Str) : (decParse s).2 = numL s := by
  rw [numL_eq]
  have h := preB_iff s 45
  have e45 : (45 : UInt8).toNat = 45 := rfl
  rw [e45] at h
  unfold decParse
  by_cases hl : 400 < s.length
  · rw [if_pos hl, decide_eq_false (by omega), Bool.and_false]; rfl
  · rw [if_neg hl, decide_eq_true (by omega), Bool.and_true]
    unfold numParts
    by_cases hp : preB s 45 = true
    · rw [if_pos hp, if_pos (h.1 hp), hp]; exact (partsB_ok _ _ _).symm
    · rw [if_neg hp, if_neg (mt h.2 hp)]; exact (partsB_ok _ _ _).symm
def dotE : Str := [46, 101, 69]
def decIntL (s : Str) : Int × Bool := if numL s = false ∨ Lib.containsAny s dotE = true ∨ s = [45, 48] then (0, false) else match Lib.parseIntB 64 s with
  | .ok n => (n, true)
  | _ => (0, false)
theorem containsAny_iff (s c : Str) : Lib.containsAny s c = true ↔ ∃ b ∈ s, b ∈ c := by
  unfold Lib.containsAny
  rw [decide_eq_true_eq]
  induction s with
  | nil => simp [Lib.indexAny]
  | cons b s ih =>
    have hge := Lib.indexAny_ge c s
    have e : (0 ≤ Lib.indexAny (b :: s) c) ↔ (b ∈ c ∨ 0 ≤ Lib.indexAny s c) := by
      rw [Lib.indexAny]
      by_cases h : b ∈ c
      · simp [h]
      · have h' : c.contains b = false := by simpa using h
        rw [h', if_neg (by simp)]
        by_cases h2 : Lib.indexAny s c = -1
        · simp [h, h2]
        · have h3 : (Lib.indexAny s c == -1) = false := by simpa using h2
          rw [h3, if_neg (by simp)]
          simp only [h, false_or]
          omega
    rw [e, ih]
    simp
def valN : Str → Nat → Nat
  | [], a => a
  | b :: s, a => valN s (a * 10 + (b.toNat - 48))
theorem valN_ge : ∀ (s : Str) (a : Nat), a ≤ valN s a
  | [], a => Nat.le_refl _
  | b :: s, a => Nat.le_trans (by omega) (valN_ge s _)
theorem parseU_val {M : Nat} (hM : M = 2 ^ 64 - 1) : ∀ (s : Str) (a : Nat), (∀ b ∈ s, dig b = true) → a ≤ M → Lib.parseUintM M a s = if valN s a ≤ M then .ok (valN s a) else .range
  | [], a, _, h => by rw [Lib.parseUintM, valN, if_pos h]
  | b :: s, a, hd, h => by
    have hb := hd b (by simp)
    unfold dig at hb
    rw [decide_eq_true_eq] at hb
    have hge := valN_ge s (a * 10 + (b.toNat - 48))
    rw [Lib.parseUintM, valN, if_pos hb]
    subst hM
    split
    · rw [if_neg (by omega)]
    · split
      · rw [if_neg (by omega)]
      · exact parseU_val rfl s _ (fun x hx => hd x (by simp [hx])) (by omega)
theorem negL_val : ∀ (s : Str) (a : Nat), (∀ b ∈ s, dig b = true) → a ≤ 2 ^ 63 → negL s (-(a : Int)) = if valN s a ≤ 2 ^ 63 then some (-(valN s a : Int)) else none
  | [], a, _, h => by rw [negL, valN, if_pos h]
  | b :: s, a, hd, h => by
    have hb := hd b (by simp)
    unfold dig at hb
    rw [decide_eq_true_eq] at hb
    have hge := valN_ge s (a * 10 + (b.toNat - 48))
    rw [negL, valN]
    split
    · rw [if_neg (by omega)]
    · have e : 10 * (-(a : Int)) - ((b.toNat : Int) - 48) = -((a * 10 + (b.toNat - 48) : Nat) : Int) := by omega
      rw [e]
      exact negL_val s _ (fun x hx => hd x (by simp [hx])) (by omega)
def Whole (_s : Str) (x : Parts) (neg : Bool) (w r : Str) : Prop :=
  ((∃ b ∈ r, b ∈ dotE) ∧ (0 < x.2.2.1.length ∨ 0 < x.2.2.2.1.length)) ∨ (r = [] ∧ x = (neg, w, [], [], true))
theorem partsD_whole (neg : Bool) (w f s : Str) (h : (partsD neg w f s).2.2.2.2 = true) : (s = [] ∧ partsD neg w f s = (neg, w, f, [], true)) ∨ ((∃ b ∈ s, b ∈ dotE) ∧ 0 < (partsD neg w f s).2.2.2.1.length ∧ (partsD neg w f s).2.2.1 = f) := by
  unfold partsD at h ⊢
  split
  · rename_i h0
    exact .inl ⟨List.eq_nil_of_length_eq_zero h0, rfl⟩
  · rename_i h0
    rw [if_neg h0] at h
    cases s with
    | nil => simp at h0
    | cons c s =>
      split
      · rename_i h1; rw [if_pos h1] at h; cases h
      · rename_i h1
        rw [if_neg h1] at h
        have hc : c ∈ dotE := by
          simp only [b0, List.getD_cons_zero] at h1
          have h1 : c.toNat = 101 ∨ c.toNat = 69 := by omega
          have hu : ∀ n : UInt8, c.toNat = n.toNat → c = n := fun n h => UInt8.toNat_inj.1 h
          rcases h1 with h1 | h1
          · rw [hu 101 h1]; decide
          · rw [hu 69 h1]; decide
        refine .inr ⟨⟨c, by simp, hc⟩, ?_⟩
        have key : ∀ p d : Str, d.length ≤ p.length → (partsE neg w f p d).2.2.2.2 = true → 0 < (partsE neg w f p d).2.2.2.1.length ∧ (partsE neg w f p d).2.2.1 = f := by
          intro p d hpd hh
          unfold partsE at hh ⊢
          split
          · rename_i h2; rw [if_pos h2] at hh; cases hh
          · rename_i h2; refine ⟨?_, rfl⟩; simp only []; omega
        split
        · rename_i h2
          rw [if_pos h2] at h
          exact key _ _ (by rw [List.length_drop (i := 1)]; omega) h
        · rename_i h2
          rw [if_neg h2] at h
          exact key _ _ (Nat.le_refl _) h
theorem partsC_whole (neg : Bool) (w s : Str) (h : (partsC neg w s).2.2.2.2 = true) : Whole s (partsC neg w s) neg w s := by
  unfold partsC at h ⊢
  unfold Whole
  split
  · rename_i h1
    rw [if_pos h1] at h
    split
    · rename_i h2; rw [if_pos h2] at h; cases h
    · rename_i h2
      rw [if_neg h2] at h
      have hdot : ∃ b ∈ s, b ∈ dotE := by
        cases s with
        | nil => simp at h1
        | cons c s =>
          refine ⟨c, by simp, ?_⟩
          have h3 : c.toNat = 46 := by simpa [b0] using h1.2
          rw [show c = 46 from UInt8.toNat_inj.1 h3]; decide
      refine .inl ⟨hdot, .inl ?_⟩
      have hl : 0 < ((s.drop 1).take (runL (s.drop 1))).length := by rw [take_run]; omega
      rcases partsD_whole _ _ _ _ h with ⟨_, h4⟩ | ⟨_, _, h4⟩
      · rw [h4]; exact hl
      · rw [h4]; exact hl
  · rename_i h1
    rw [if_neg h1] at h
    rcases partsD_whole _ _ _ _ h with ⟨h3, h4⟩ | ⟨h3, h4, _⟩
    · exact .inr ⟨h3, h4⟩
    · exact .inl ⟨h3, .inr h4⟩
theorem partsB_whole (neg : Bool) (s : Str) (h : (partsB neg s).2.2.2.2 = true) : ((∃ b ∈ s, b ∈ dotE) ∧ (0 < (partsB neg s).2.2.1.length ∨ 0 < (partsB neg s).2.2.2.1.length)) ∨ (partsB neg s = (neg, s, [], [], true) ∧ s ≠ [] ∧ ∀ b ∈ s, dig b = true) := by
  unfold partsB at h ⊢
  split
  · rename_i h1; rw [if_pos h1] at h; cases h
  · rename_i h1
    rw [if_neg h1] at h
    rcases partsC_whole _ _ _ h with ⟨⟨b, hb, hb2⟩, h2⟩ | ⟨h2, h3⟩
    · exact .inl ⟨⟨b, List.mem_of_mem_drop hb, hb2⟩, h2⟩
    · have hle : s.length ≤ runL s := by
        have := congrArg List.length h2
        rw [List.length_drop] at this
        simp only [List.length_nil] at this
        omega
      have ht : s.take (runL s) = s := List.take_of_length_le hle
      refine .inr ⟨by rw [h3, ht], ?_, fun b hb => take_dig s b (by rw [ht]; exact hb)⟩
      rintro rfl
      simp [runL] at h1
theorem dig_dotE {b : UInt8} (h : dig b = true) : ¬ b ∈ dotE := by
  unfold dig at h
  rw [decide_eq_true_eq] at h
  intro hm
  simp only [dotE, List.mem_cons, List.mem_nil_iff, or_false] at hm
  rcases hm with rfl | rfl | rfl <;> revert h <;> decide
theorem decIntL_eq (s : Str) : decIntL s = refIntL s := by
  unfold decIntL refIntL
  by_cases h0 : numL s = false ∨ s = [45, 48]
  · rw [if_pos (by rcases h0 with h | h <;> simp [h]), if_pos h0]
  · rw [if_neg h0]
    have hnum : numL s = true := by simpa using (not_or.1 h0).1
    have hs := (not_or.1 h0).2
    have hok : (numParts s).2.2.2.2 = true := by
      rw [numL_eq] at hnum
      unfold okP at hnum
      simp only [Bool.and_eq_true] at hnum
      exact hnum.1.1
    have big : ∀ w : Str, w ≠ [] → (∀ b ∈ w, dig b = true) → Lib.parseUintB 64 w = if valN w 0 ≤ 2 ^ 64 - 1 then .ok (valN w 0) else .range := by
      intro w hne hd
      unfold Lib.parseUintB
      rw [if_neg hne]
      exact parseU_val rfl w 0 hd (by omega)
    by_cases hc : Lib.containsAny s dotE = true
    · rw [if_pos (Or.inr (Or.inl hc))]
      have hex := (containsAny_iff s dotE).1 hc
      have hgo : 0 < (numParts s).2.2.1.length ∨ 0 < (numParts s).2.2.2.1.length := by
        unfold numParts at hok ⊢
        split
        · rename_i h1
          rw [if_pos h1] at hok
          rcases partsB_whole _ _ hok with h2 | ⟨_, _, h2⟩
          · exact h2.2
          · exfalso
            obtain ⟨b, hb, hb2⟩ := hex
            cases s with
            | nil => simp at hb
            | cons c s =>
              rcases List.mem_cons.1 hb with rfl | hb
              · have h3 : b.toNat = 45 := by simpa [b0] using h1.2
                rw [show b = 45 from UInt8.toNat_inj.1 h3] at hb2
                revert hb2; decide
              · exact dig_dotE (h2 b (by simpa using hb)) hb2
        · rename_i h1
          rw [if_neg h1] at hok
          rcases partsB_whole _ _ hok with h2 | ⟨_, _, h2⟩
          · exact h2.2
          · exfalso
            obtain ⟨b, hb, hb2⟩ := hex
            exact dig_dotE (h2 b hb) hb2
      rw [if_pos hgo]
    · rw [if_neg (by simp [hnum, hc, hs])]
      have hnc : ∀ b ∈ s, ¬ b ∈ dotE := fun b hb hb2 => hc ((containsAny_iff s dotE).2 ⟨b, hb, hb2⟩)
      unfold numParts at hok ⊢
      by_cases h1 : 0 < s.length ∧ b0 s = 45
      · rw [if_pos h1] at hok ⊢
        cases s with
        | nil => simp at h1
        | cons c s =>
          have h3 : c = 45 := UInt8.toNat_inj.1 (by simpa [b0] using h1.2)
          subst h3
          rw [show (45 :: s : Str).drop 1 = s from rfl] at hok ⊢
          rcases partsB_whole _ _ hok with ⟨⟨b, hb, hb2⟩, _⟩ | ⟨h2, hne, hd⟩
          · exact absurd hb2 (hnc b (by simp [hb]))
          · rw [h2]
            simp only [List.length_nil, Nat.lt_irrefl, or_self, if_false]
            have hneg := negL_val s 0 hd (by omega)
            rw [show (-((0 : Nat) : Int)) = 0 by omega] at hneg
            rw [hneg, Lib.parseIntB_minus, big s hne hd]
            by_cases hv : valN s 0 ≤ 2 ^ 63
            · rw [if_pos (show valN s 0 ≤ 2 ^ 64 - 1 by omega), if_pos hv]
              simp only [Lib.signedC]
              rw [if_neg (by omega)]
              simp
            · rw [if_neg hv]
              by_cases hw : valN s 0 ≤ 2 ^ 64 - 1
              · rw [if_pos hw]
                simp only [Lib.signedC]
                rw [if_pos (by omega)]
              · rw [if_neg hw]
                rfl
      · rw [if_neg h1] at hok ⊢
        rcases partsB_whole _ _ hok with ⟨⟨b, hb, hb2⟩, _⟩ | ⟨h2, hne, hd⟩
        · exact absurd hb2 (hnc b hb)
        · rw [h2]
          simp only [List.length_nil, Nat.lt_irrefl, or_self, if_false]
          have hneg := negL_val s 0 hd (by omega)
          rw [show (-((0 : Nat) : Int)) = 0 by omega] at hneg
          have hpb : Lib.parseIntB 64 s = Lib.signlessC (2 ^ 63) (Lib.parseUintB 64 s) := by
            cases s with
            | nil => exact absurd rfl hne
            | cons c s =>
              have hdc := hd c (by simp)
              unfold dig at hdc
              rw [decide_eq_true_eq] at hdc
              exact Lib.parseIntB_plain 64 c s (by omega) (by omega)
          rw [hneg, hpb, big s hne hd]
          by_cases hv : valN s 0 ≤ 2 ^ 63
          · rw [if_pos (show valN s 0 ≤ 2 ^ 64 - 1 by omega), if_pos hv]
            simp only [Lib.signlessC]
            by_cases hv2 : valN s 0 = 2 ^ 63
            · rw [if_pos (by omega)]
              simp [hv2]
            · rw [if_neg (by omega)]
              simp only []
              rw [if_neg (by simp), if_neg (by omega), Int.neg_neg]
          · rw [if_neg hv]
            by_cases hw : valN s 0 ≤ 2 ^ 64 - 1
            · rw [if_pos hw]
              simp only [Lib.signlessC]
              rw [if_pos (by omega)]
            · rw [if_neg hw]
              rfl
def Asc (s : Str) : Prop := ∀ b ∈ s, b.toNat < 128
theorem asc_dig {s : Str} (h : ∀ b ∈ s, dig b = true) : Asc s := fun b hb => by
  have := h b hb
  unfold dig at this
  rw [decide_eq_true_eq] at this
  omega
theorem asc_run {s : Str} (h : Asc (s.drop (runL s))) : Asc s := by
  intro b hb
  rw [← List.take_append_drop (runL s) s] at hb
  rcases List.mem_append.1 hb with hb | hb
  · exact asc_dig (take_dig s) b hb
  · exact h b hb
theorem asc_cons {s : Str} (h1 : b0 s < 128) (h : Asc (s.drop 1)) : Asc s := by
  cases s with
  | nil => intro b hb; cases hb
  | cons c s =>
    intro b hb
    rcases List.mem_cons.1 hb with rfl | hb
    · simpa [b0] using h1
    · exact h b (by simpa using hb)
theorem asc_E {neg : Bool} {w f p d : Str} (h : (partsE neg w f p d).2.2.2.2 = true) : Asc d := by
  unfold partsE at h
  split at h
  · cases h
  · rename_i hc
    exact asc_dig (runL_dig (by omega))
theorem asc_D {neg : Bool} {w f s : Str} (h : (partsD neg w f s).2.2.2.2 = true) : Asc s := by
  unfold partsD at h
  split at h
  · rename_i h0
    obtain rfl := List.eq_nil_of_length_eq_zero h0
    intro b hb; cases hb
  · split at h
    · cases h
    · rename_i h1
      refine asc_cons (by omega) ?_
      split at h
      · rename_i h2
        exact asc_cons (by omega) (asc_E h)
      · exact asc_E h
theorem asc_C {neg : Bool} {w s : Str} (h : (partsC neg w s).2.2.2.2 = true) : Asc s := by
  unfold partsC at h
  split at h
  · rename_i h0
    split at h
    · cases h
    · exact asc_cons (by omega) (asc_run (asc_D h))
  · exact asc_D h
theorem asc_B {neg : Bool} {s : Str} (h : (partsB neg s).2.2.2.2 = true) : Asc s := by
  unfold partsB at h
  split at h
  · cases h
  · exact asc_run (asc_C h)
theorem numL_asc {s : Str} (h : numL s = true) : s.length ≤ 400 ∧ Asc s := by
  rw [numL_eq] at h
  unfold okP at h
  simp only [Bool.and_eq_true, decide_eq_true_eq] at h
  refine ⟨h.2, ?_⟩
  have h := h.1.1
  unfold numParts at h
  split at h
  · exact asc_cons (by omega) (asc_B h)
  · exact asc_B h
end Go.Am
end
