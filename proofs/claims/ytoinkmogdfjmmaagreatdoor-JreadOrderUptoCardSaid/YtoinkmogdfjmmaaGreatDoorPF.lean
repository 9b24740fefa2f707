/-
The library's contracts that this seat's proofs use, IV (strings.TrimLeft at a set of bytes, IndexAny, LastIndexByte, Count), laid at its program in plain words by the kit's tool.
-/
import Derived.Shelf.Strings.Search3
import Derived.Shelf.Strings.Count
import Derived.Shelf.Strings.LastIndex
import Derived.Shelf.Strings.IndexAnyAll
import Derived.Test.YtoinkmogdfjmmaaGreatDoorPE
import Derived.Shelf.Strings.SlTrimAscii
import Derived.Test.YtoinkmogdfjmmaaGreatDoorProg
import Derived.Lib.ItoaLen
import Derived.Lib.Repeat

section
namespace Go.Proofs
open Go.Shelf
def Tryz.lays161_ren : Go.Shelf.Ren := ⟨fun | 161 => 59 | 231 => 79 | 227 => 80 | 233 => 81 | 235 => 82 | 228 => 108 | 197 => 109 | 151 => 110 | 260 => 130 | 152 => 131 | 137 => 60 | 119 => 149 | 224 => 150 | 225 => 151 | 217 => 83 | 266 => 111 | n => n, fun | 9 => 9 | 4 => 4 | 3 => 3 | 5 => 5 | 117 => 117 | 116 => 116 | 0 => 0 | 124 => 120 | 105 => 141 | 21 => 21 | 119 => 170 | 46 => 112 | 139 => 173 | 138 => 172 | n => n, fun | 3 => 1 | 4 => 2 | n => n⟩
theorem Tryz.lays161 : Go.Proofs.Lays.n161 Tryz.prog Tryz.lays161_ren := {
  mixed := by kernel_rfl
  f119 := Tryz.func149.trans (congrArg some (by kernel_rfl))
  f137 := Tryz.func60.trans (congrArg some (by kernel_rfl))
  f151 := Tryz.func110.trans (congrArg some (by kernel_rfl))
  f152 := Tryz.func131.trans (congrArg some (by kernel_rfl))
  f161 := Tryz.func59.trans (congrArg some (by kernel_rfl))
  f197 := Tryz.func109.trans (congrArg some (by kernel_rfl))
  f217 := Tryz.func83.trans (congrArg some (by kernel_rfl))
  f224 := Tryz.func150.trans (congrArg some (by kernel_rfl))
  f225 := Tryz.func151.trans (congrArg some (by kernel_rfl))
  f227 := Tryz.func80.trans (congrArg some (by kernel_rfl))
  f228 := Tryz.func108.trans (congrArg some (by kernel_rfl))
  f231 := Tryz.func79.trans (congrArg some (by kernel_rfl))
  f233 := Tryz.func81.trans (congrArg some (by kernel_rfl))
  f235 := Tryz.func82.trans (congrArg some (by kernel_rfl))
  f260 := Tryz.func130.trans (congrArg some (by kernel_rfl))
  f266 := Tryz.func111.trans (congrArg some (by kernel_rfl))
  t0 := Tryz.underlying0
  a0 := Tryz.isAgg0
  z0 := Tryz.sizeOf0
  v0 := Tryz.zeroValue0
  t3 := Tryz.underlying3
  a3 := Tryz.isAgg3
  z3 := Tryz.sizeOf3
  v3 := Tryz.zeroValue3
  t4 := Tryz.underlying4
  a4 := Tryz.isAgg4
  z4 := Tryz.sizeOf4
  v4 := Tryz.zeroValue4
  t5 := Tryz.underlying5
  a5 := Tryz.isAgg5
  z5 := Tryz.sizeOf5
  v5 := Tryz.zeroValue5
  t9 := Tryz.underlying9
  a9 := Tryz.isAgg9
  z9 := Tryz.sizeOf9
  v9 := Tryz.zeroValue9
  t21 := Tryz.underlying21
  a21 := Tryz.isAgg21
  z21 := Tryz.sizeOf21
  v21 := Tryz.zeroValue21
  t46 := Tryz.underlying112
  a46 := Tryz.isAgg112
  z46 := Tryz.sizeOf112
  v46 := Tryz.zeroValue112
  t105 := Tryz.underlying141
  a105 := Tryz.isAgg141
  z105 := Tryz.sizeOf141
  v105 := Tryz.zeroValue141
  t116 := Tryz.underlying116
  a116 := Tryz.isAgg116
  z116 := Tryz.sizeOf116
  t117 := Tryz.underlying117
  a117 := Tryz.isAgg117
  z117 := Tryz.sizeOf117
  v117 := Tryz.zeroValue117
  t119 := Tryz.underlying170
  a119 := Tryz.isAgg170
  z119 := Tryz.sizeOf170
  t124 := Tryz.underlying120
  a124 := Tryz.isAgg120
  z124 := Tryz.sizeOf120
  v124 := Tryz.zeroValue120
  t138 := Tryz.underlying172
  a138 := Tryz.isAgg172
  z138 := Tryz.sizeOf172
  v138 := Tryz.zeroValue172
  t139 := Tryz.underlying173
  a139 := Tryz.isAgg173
  z139 := Tryz.sizeOf173
  v139 := Tryz.zeroValue173
  g3 := by kernel_rfl
  g4 := by kernel_rfl }
def Tryz.lays138_ren : Go.Shelf.Ren := ⟨fun | 138 => 91 | 195 => 120 | 218 => 121 | 143 => 122 | 219 => 139 | 217 => 83 | 225 => 151 | 224 => 150 | 267 => 156 | 266 => 111 | 314 => 166 | n => n, fun | 9 => 9 | 3 => 3 | 4 => 4 | 5 => 5 | 0 => 0 | 46 => 112 | 146 => 184 | 51 => 183 | n => n, fun | 1 => 0 | n => n⟩
theorem Tryz.lays138 : Go.Proofs.Lays.n138 Tryz.prog Tryz.lays138_ren := {
  mixed := by kernel_rfl
  f138 := Tryz.func91.trans (congrArg some (by kernel_rfl))
  f143 := Tryz.func122.trans (congrArg some (by kernel_rfl))
  f195 := Tryz.func120.trans (congrArg some (by kernel_rfl))
  f217 := Tryz.func83.trans (congrArg some (by kernel_rfl))
  f218 := Tryz.func121.trans (congrArg some (by kernel_rfl))
  f219 := Tryz.func139.trans (congrArg some (by kernel_rfl))
  f224 := Tryz.func150.trans (congrArg some (by kernel_rfl))
  f225 := Tryz.func151.trans (congrArg some (by kernel_rfl))
  f266 := Tryz.func111.trans (congrArg some (by kernel_rfl))
  f267 := Tryz.func156.trans (congrArg some (by kernel_rfl))
  f314 := Tryz.func166.trans (congrArg some (by kernel_rfl))
  t0 := Tryz.underlying0
  a0 := Tryz.isAgg0
  z0 := Tryz.sizeOf0
  v0 := Tryz.zeroValue0
  t3 := Tryz.underlying3
  a3 := Tryz.isAgg3
  z3 := Tryz.sizeOf3
  v3 := Tryz.zeroValue3
  t4 := Tryz.underlying4
  a4 := Tryz.isAgg4
  z4 := Tryz.sizeOf4
  v4 := Tryz.zeroValue4
  t5 := Tryz.underlying5
  a5 := Tryz.isAgg5
  z5 := Tryz.sizeOf5
  v5 := Tryz.zeroValue5
  t9 := Tryz.underlying9
  a9 := Tryz.isAgg9
  z9 := Tryz.sizeOf9
  v9 := Tryz.zeroValue9
  t46 := Tryz.underlying112
  a46 := Tryz.isAgg112
  z46 := Tryz.sizeOf112
  v46 := Tryz.zeroValue112
  t51 := Tryz.underlying183
  a51 := Tryz.isAgg183
  z51 := Tryz.sizeOf183
  v51 := Tryz.zeroValue183
  t146 := Tryz.underlying184
  a146 := Tryz.isAgg184
  z146 := Tryz.sizeOf184
  v146 := Tryz.zeroValue184
  g1 := by kernel_rfl }
def Tryz.lays149_ren : Go.Shelf.Ren := ⟨fun | 149 => 90 | 222 => 119 | n => n, fun | 9 => 9 | 5 => 5 | 3 => 3 | 4 => 4 | n => n, fun | n => n⟩
theorem Tryz.lays149 : Go.Proofs.Lays.n149 Tryz.prog Tryz.lays149_ren := {
  mixed := by kernel_rfl
  f149 := Tryz.func90.trans (congrArg some (by kernel_rfl))
  f222 := Tryz.func119.trans (congrArg some (by kernel_rfl))
  t3 := Tryz.underlying3
  a3 := Tryz.isAgg3
  z3 := Tryz.sizeOf3
  v3 := Tryz.zeroValue3
  t4 := Tryz.underlying4
  a4 := Tryz.isAgg4
  z4 := Tryz.sizeOf4
  v4 := Tryz.zeroValue4
  t5 := Tryz.underlying5
  a5 := Tryz.isAgg5
  z5 := Tryz.sizeOf5
  v5 := Tryz.zeroValue5
  t9 := Tryz.underlying9
  a9 := Tryz.isAgg9
  z9 := Tryz.sizeOf9
  v9 := Tryz.zeroValue9 }
open Go.RowKit Go.Lib in
theorem Tryz.strings_Count_one (s : ByteArray) (c : UInt8) (w : World) :
    Calls Tryz.prog 91 #[.string s, .string ⟨#[c]⟩] w fun e w' => e = .returned (.int .i64 (Lib.countByte s.data.toList c)) ∧ w' = w := Any.strings_Count_one Tryz.lays138 s c w
open Go.RowKit Go.Lib in
theorem Tryz.strings_LastIndexByte (s : ByteArray) (c : Int) (hs : s.size < 4611686018427387904) (w : World) :
    Calls Tryz.prog 90 #[.string s, .int .u8 c] w fun e w' => e = .returned (.int .i64 (Lib.lastIndexByte s c)) ∧ w' = w := Any.strings_LastIndexByte Tryz.lays149 s c hs w
open Go.RowKit Go.Lib in
theorem Tryz.strings_IndexAny_laid (s chars : ByteArray) (w : World) (hs : s.size < 4294967281) (hcs : chars.size < 4294967281) (has : ∀ (j : Nat) b, s.data.toList[j]? = some b → b.toNat < 128) (hac : ∀ (j : Nat) b, chars.data.toList[j]? = some b → b.toNat < 128) :
    Calls Tryz.prog 118 #[.string s, .string chars] w fun e w' => e = .returned (.int .i64 (Lib.indexAny s.data.toList chars.data.toList)) ∧ Below w.heap.size w w' := Any.strings_IndexAny_laid Tryz.lays153 (by kernel_rfl) s chars w hs hcs has hac
open Go.RowKit Go.Lib in
theorem Tryz.strings_TrimLeft_laid (s cutset : ByteArray) (w : World) (hcs : cutset.size < 4294967281) (hascii : ∀ (j : Nat) b, cutset.data.toList[j]? = some b → b.toNat < 128) :
    Calls Tryz.prog 59 #[.string s, .string cutset] w fun e w' => e = .returned (.string ⟨(Lib.trimLeftS s.data.toList cutset.data.toList).toArray⟩) ∧ Below w.heap.size w w' := Any.strings_TrimLeft_laid Tryz.lays161 (by kernel_rfl) s cutset w hcs hascii
end Go.Proofs
end

section
namespace Go.Am
open Go
abbrev Str := List UInt8
inductive Tree where
  | mk (kind n : Int) (s : Str) (l : List Tree) (m : List (Str × Tree))
  deriving Inhabited
namespace Tree
def kind : Tree → Int | .mk k _ _ _ _ => k
def n : Tree → Int | .mk _ n _ _ _ => n
def s : Tree → Str | .mk _ _ s _ _ => s
def l : Tree → List Tree | .mk _ _ _ l _ => l
def m : Tree → List (Str × Tree) | .mk _ _ _ _ m => m
mutual
def enc : Tree → PV
  | .mk k n s l m => .agg [.int .i64 k, .int .i64 n, .str s, .lst false (encL l), .lst false (encM m)]
def encL : List Tree → List PV
  | [] => []
  | t :: l => enc t :: encL l
def encM : List (Str × Tree) → List PV
  | [] => []
  | p :: m => encP p :: encM m
def encP : Str × Tree → PV
  | (k, t) => .agg (.str k :: (enc t).cells)
end
mutual
def nodes : Tree → Nat
  | .mk _ _ _ l m => 1 + nodesL l + nodesM m
def nodesL : List Tree → Nat
  | [] => 0
  | t :: l => nodes t + nodesL l
def nodesM : List (Str × Tree) → Nat
  | [] => 0
  | p :: m => nodesP p + nodesM m
def nodesP : Str × Tree → Nat
  | (_, t) => nodes t
end
mutual
def depth : Tree → Nat
  | .mk _ _ _ l m => 1 + max (depthL l) (depthM m)
def depthL : List Tree → Nat
  | [] => 0
  | t :: l => max (depth t) (depthL l)
def depthM : List (Str × Tree) → Nat
  | [] => 0
  | p :: m => max (depthP p) (depthM m)
def depthP : Str × Tree → Nat
  | (_, t) => depth t
end
theorem encL_eq : ∀ l : List Tree, encL l = l.map enc
  | [] => rfl
  | t :: l => by rw [encL, encL_eq l]; rfl
theorem encM_eq : ∀ m : List (Str × Tree), encM m = m.map encP
  | [] => rfl
  | p :: m => by rw [encM, encM_eq m]; rfl
theorem encL_length (l : List Tree) : (encL l).length = l.length := by rw [encL_eq, List.length_map]
theorem encM_length (m : List (Str × Tree)) : (encM m).length = m.length := by rw [encM_eq, List.length_map]
theorem encL_get {l : List Tree} {i : Nat} {t : Tree} (h : l[i]? = some t) : (encL l)[i]? = some (enc t) := by rw [encL_eq, List.getElem?_map, h]; rfl
theorem encM_get {m : List (Str × Tree)} {i : Nat} {p : Str × Tree} (h : m[i]? = some p) : (encM m)[i]? = some (encP p) := by rw [encM_eq, List.getElem?_map, h]; rfl
theorem encM_append (l r : List (Str × Tree)) : encM (l ++ r) = encM l ++ encM r := by simp [encM_eq]
theorem enc_cells : ∀ t : Tree, (enc t).cells.length = 5
  | .mk _ _ _ _ _ => rfl
theorem encP_cells : ∀ p : Str × Tree, (encP p).cells.length = 6
  | (_, .mk _ _ _ _ _) => rfl
theorem enc_isAgg : ∀ t : Tree, (enc t).isAgg = true
  | .mk _ _ _ _ _ => rfl
theorem enc_leaf : ∀ (t : Tree), ∀ c ∈ (enc t).cells, c.leaf = true
  | .mk _ _ _ _ _ => by simp [enc, PV.cells, PV.leaf]
theorem encP_leaf : ∀ (p : Str × Tree), ∀ c ∈ (encP p).cells, c.leaf = true
  | (_, .mk _ _ _ _ _) => by simp [encP, enc, PV.cells, PV.leaf]
theorem nodesL_mem {l : List Tree} {t : Tree} (h : t ∈ l) : nodes t ≤ nodesL l := by
  induction l with
  | nil => simp at h
  | cons x l ih =>
    rw [nodesL]
    rcases List.mem_cons.1 h with rfl | h
    · omega
    · have := ih h; omega
theorem nodesM_mem {m : List (Str × Tree)} {p : Str × Tree} (h : p ∈ m) : nodes p.2 ≤ nodesM m := by
  induction m with
  | nil => simp at h
  | cons x l ih =>
    rw [nodesM]
    rcases List.mem_cons.1 h with rfl | h
    · obtain ⟨a, b⟩ := p; simp [nodesP]
    · have := ih h; omega
theorem nodes_l {t x : Tree} (h : x ∈ t.l) : nodes x < nodes t := by
  obtain ⟨k, n, s, l, m⟩ := t
  have := nodesL_mem (show x ∈ l from h)
  rw [nodes.eq_def (.mk k n s l m)]
  simp only []
  omega
theorem nodes_m {t : Tree} {p : Str × Tree} (h : p ∈ t.m) : nodes p.2 < nodes t := by
  obtain ⟨k, n, s, l, m⟩ := t
  have := nodesM_mem (show p ∈ m from h)
  rw [nodes.eq_def (.mk k n s l m)]
  simp only []
  omega
theorem ind {p : Tree → Prop} (h : ∀ t : Tree, (∀ x ∈ t.l, p x) → (∀ x ∈ t.m, p x.2) → p t) : ∀ t, p t := by
  intro t
  generalize hn : nodes t = q
  induction q using Nat.strongRecOn generalizing t with
  | ind q ih =>
    subst hn
    exact h t (fun x hx => ih _ (nodes_l hx) x rfl) (fun x hx => ih _ (nodes_m hx) x.2 rfl)
theorem eta (t : Tree) : t = .mk t.kind t.n t.s t.l t.m := by cases t; rfl
theorem enc_eta (t : Tree) : enc t = .agg [.int .i64 t.kind, .int .i64 t.n, .str t.s, .lst false (encL t.l), .lst false (encM t.m)] := by cases t; rfl
end Tree
theorem ElemZ.tree {l : List Tree} {i : Nat} {K : PV → Prop} {t : Tree} (h : l[i]? = some t) (k : K t.enc) : ElemZ (Tree.encL l) i 5 K := ⟨_, Tree.encL_get h, Tree.enc_cells t, k⟩
theorem ElemZ.pair {m : List (Str × Tree)} {i : Nat} {K : PV → Prop} {p : Str × Tree} (h : m[i]? = some p) (k : K (Tree.encP p)) : ElemZ (Tree.encM m) i 6 K := ⟨_, Tree.encM_get h, Tree.encP_cells p, k⟩
theorem CLe.eq {c c' : CR} (h : c = c') : CLe c c' := h ▸ CLe.refl c
theorem CLe.retP {d e : PV} {H : Heap} {mv : List Nat} (h : d = e) : CLe ⟨.ret (.p d), H, mv⟩ ⟨.ret (.p e), H, mv⟩ := by rw [h]; exact CLe.refl _
theorem drop_cons {α : Type} {l : List α} {i : Nat} {x : α} (h : l[i]? = some x) : l.drop i = x :: l.drop (i + 1) := by
  obtain ⟨hi, rfl⟩ := List.getElem?_eq_some_iff.1 h
  exact List.drop_eq_getElem_cons hi
end Go.Am
namespace Go.Am
theorem strNil (s : Str) : (s = []) = (s.length = 0) := by simp
theorem not_strNil (s : Str) : (¬ s = []) = (0 < s.length) := by simp [List.length_pos_iff]
end Go.Am
namespace Go.Am
theorem isEmptyCons {α : Type} (a : α) (l : List α) : (a :: l).isEmpty = false := rfl
theorem Br.not {c : Bool} {A B : Prop} (h : Br c B A) : Br (!c) A B := ⟨fun e => h.f (by simpa using e), fun e => h.t (by simpa using e)⟩
end Go.Am
namespace Go.Am
theorem Br.dec {p : Prop} [inst : Decidable p] {A B : Prop} (t : p → A) (f : ¬ p → B) : Br (decide p) A B := ⟨fun h => t (of_decide_eq_true h), fun h => f (of_decide_eq_false h)⟩
theorem Br.ndec {p : Prop} [inst : Decidable p] {A B : Prop} (t : ¬ p → A) (f : p → B) : Br (!decide p) A B := ⟨fun h => t (of_decide_eq_false (by simpa using h)), fun h => f (of_decide_eq_true (by simpa using h))⟩
end Go.Am
namespace Go.Am
namespace Tree
mutual
def wt : Tree → Nat
  | .mk _ _ s l m => 1 + s.length + wtL l + wtM m
def wtL : List Tree → Nat
  | [] => 0
  | t :: l => wt t + wtL l
def wtM : List (Str × Tree) → Nat
  | [] => 0
  | p :: m => wtP p + wtM m
def wtP : Str × Tree → Nat
  | (k, t) => k.length + wt t
end
theorem wt_pos : ∀ t : Tree, 0 < wt t
  | .mk _ _ _ _ _ => by simp [wt]; omega
theorem wtL_mem {l : List Tree} {t : Tree} (h : t ∈ l) : wt t ≤ wtL l := by
  induction l with
  | nil => simp at h
  | cons x l ih =>
    rw [wtL]
    rcases List.mem_cons.1 h with rfl | h
    · omega
    · have := ih h; omega
theorem wtM_mem {m : List (Str × Tree)} {p : Str × Tree} (h : p ∈ m) : p.1.length + wt p.2 ≤ wtM m := by
  induction m with
  | nil => simp at h
  | cons x l ih =>
    rw [wtM]
    rcases List.mem_cons.1 h with rfl | h
    · obtain ⟨a, b⟩ := p; simp [wtP]
    · have := ih h; omega
theorem wtL_len : ∀ l : List Tree, l.length ≤ wtL l
  | [] => by simp [wtL]
  | t :: l => by have := wtL_len l; have := wt_pos t; simp only [wtL, List.length_cons]; omega
theorem wtM_len : ∀ l : List (Str × Tree), l.length ≤ wtM l
  | [] => by simp [wtM]
  | (k, t) :: l => by have := wtM_len l; have := wt_pos t; simp only [wtM, wtP, List.length_cons]; omega
theorem wt_eq (t : Tree) : wt t = 1 + t.s.length + wtL t.l + wtM t.m := by cases t; simp [wt, s, l, m]
theorem wt_ll (t : Tree) : t.l.length < wt t := by rw [wt_eq]; have := wtL_len t.l; omega
theorem wt_ml (t : Tree) : t.m.length < wt t := by rw [wt_eq]; have := wtM_len t.m; omega
theorem wt_l {t x : Tree} (h : x ∈ t.l) : wt x < wt t := by rw [wt_eq t]; have := wtL_mem h; omega
theorem wt_m {t : Tree} {p : Str × Tree} (h : p ∈ t.m) : p.1.length + wt p.2 < wt t := by rw [wt_eq t]; have := wtM_mem h; omega
theorem indW {B : Nat} {p : Tree → Prop} (h : ∀ t : Tree, wt t ≤ B → (∀ x ∈ t.l, wt x ≤ B ∧ p x) → (∀ x ∈ t.m, x.1.length ≤ B ∧ wt x.2 ≤ B ∧ p x.2) → p t) : ∀ t, wt t ≤ B → p t := by
  refine ind ?_
  intro t hl hm hw
  refine h t hw (fun x hx => ?_) (fun x hx => ?_)
  · have := wt_l hx
    exact ⟨by omega, hl x hx (by omega)⟩
  · have := wt_m hx
    exact ⟨by omega, by omega, hm x hx (by omega)⟩
end Tree
end Go.Am
namespace Go.Am
end Go.Am
namespace Go.Am
theorem NN : Int.toNat 0 = 0 ∧ Int.toNat 1 = 1 ∧ Int.toNat 2 = 2 ∧ Int.toNat 3 = 3 ∧ Int.toNat 4 = 4 ∧ Int.toNat 5 = 5 ∧ Int.toNat 6 = 6 ∧ Int.toNat 7 = 7 ∧ Int.toNat 8 = 8 ∧ Int.toNat 9 = 9 ∧ Int.toNat 10 = 10 ∧ Int.toNat 11 = 11 ∧ Int.toNat 12 = 12 ∧ Int.toNat 16 = 16 ∧ Int.toNat 18 = 18 := by decide
theorem CC : (∀ l : List PV, PV.cells (.agg l) = l) ∧ (∀ (b : Bool), PV.cells (PV.bool b) = [PV.bool b]) ∧ (∀ (k : IntKind) (n : Int), PV.cells (PV.int k n) = [PV.int k n]) ∧ (∀ (s : List UInt8), PV.cells (PV.str s) = [PV.str s]) ∧ (∀ (e : Bool) (l : List PV), PV.cells (PV.lst e l) = [PV.lst e l]) ∧ (∀ (l : List PV), PV.cells (PV.tup l) = [PV.tup l]) ∧ PV.cells PV.nilptr = [PV.nilptr] ∧ PV.cells PV.nilmap = [PV.nilmap] ∧ PV.cells PV.nilfunc = [PV.nilfunc] ∧ PV.cells PV.nili = [PV.nili] ∧ (∀ (f : Fn), PV.cells (PV.fn f) = [PV.fn f]) ∧ (∀ (t : TypeId) (v : PV), PV.cells (PV.iface t v) = [PV.iface t v]) ∧ (∀ (v : PV), PV.cells (PV.cptr v) = [PV.cptr v]) ∧ PV.cells PV.anyp = [PV.anyp] ∧ PV.cells PV.nils = [PV.nils] ∧ (∀ l : List PV, PV.leaf (.agg l) = false) ∧ (∀ (b : Bool), PV.leaf (PV.bool b) = true) ∧ (∀ (k : IntKind) (n : Int), PV.leaf (PV.int k n) = true) ∧ (∀ (s : List UInt8), PV.leaf (PV.str s) = true) ∧ (∀ (e : Bool) (l : List PV), PV.leaf (PV.lst e l) = true) ∧ (∀ (l : List PV), PV.leaf (PV.tup l) = false) ∧ PV.leaf PV.nilptr = true ∧ PV.leaf PV.nilmap = true ∧ PV.leaf PV.nilfunc = true ∧ PV.leaf PV.nili = true ∧ (∀ (f : Fn), PV.leaf (PV.fn f) = true) ∧ (∀ (t : TypeId) (v : PV), PV.leaf (PV.iface t v) = true) ∧ (∀ (v : PV), PV.leaf (PV.cptr v) = true) ∧ PV.leaf PV.anyp = true ∧ PV.leaf PV.nils = true ∧ (∀ b : UInt8, byteP b = .int .u8 b.toNat) := by
  refine ⟨fun _ => rfl, fun _ => rfl, fun _ _ => rfl, fun _ => rfl, fun _ _ => rfl, fun _ => rfl, rfl, rfl, rfl, rfl, fun _ => rfl, fun _ _ => rfl, fun _ => rfl, rfl, rfl, fun _ => rfl, fun _ => rfl, fun _ _ => rfl, fun _ => rfl, fun _ _ => rfl, fun _ => rfl, rfl, rfl, rfl, rfl, fun _ => rfl, fun _ _ => rfl, fun _ => rfl, rfl, rfl, fun _ => rfl⟩
theorem ZZ : (∀ (p : Prop) [Decidable p], (decide p = true) = p) ∧ (∀ (p : Prop) [Decidable p], (decide p = false) = ¬ p) ∧ (∀ b : Bool, ((!b) = true) = (b = false)) ∧ (∀ b : Bool, ((!b) = false) = (b = true)) ∧
    (∀ a b : Bool, ((a || b) = true) = (a = true ∨ b = true)) ∧ (∀ a b : Bool, ((a || b) = false) = (a = false ∧ b = false)) ∧ (∀ a b : Bool, ((a && b) = true) = (a = true ∧ b = true)) ∧ (∀ a b : Bool, ((a && b) = false) = (a = false ∨ b = false)) ∧
    (∀ b : Bool, (!(!b)) = b) ∧ (∀ s : Str, (s = []) = (s.length = 0)) ∧ (∀ s : Str, (¬ s = []) = (0 < s.length)) ∧ (∀ b : Bool, (¬ (b = true)) = (b = false)) ∧ (∀ b : Bool, (¬ (b = false)) = (b = true)) :=
  ⟨fun _ _ => by simp, fun _ _ => by simp, by simp, by simp, by simp, by simp, by simp, fun _ _ => propext Bool.and_eq_false_iff, by simp, strNil, not_strNil, by simp, by simp⟩
theorem InR.natK {k : IntKind} {n : Nat} (h : n < 2 ^ (k.bits - 1)) : InR k n := by
  cases k <;> simp only [IntKind.bits, Nat.reduceSub, Nat.reducePow] at h <;> (constructor <;> omega)
theorem bv_nat (w a : Nat) : (BitVec.ofInt w (a : Int)) = BitVec.ofNat w a := BitVec.ofInt_natCast w a
theorem iand_nat {k : IntKind} {a b : Nat} (ha : a < 2 ^ k.bits) (hb : b < 2 ^ (k.bits - 1)) : iand k a b = ((a &&& b : Nat) : Int) := by
  have hb' : b < 2 ^ k.bits := Nat.lt_of_lt_of_le hb (Nat.pow_le_pow_right (by omega) (Nat.sub_le _ _))
  unfold iand
  rw [bv_nat, bv_nat, BitVec.toNat_and, BitVec.toNat_ofNat, BitVec.toNat_ofNat, Nat.mod_eq_of_lt ha, Nat.mod_eq_of_lt hb']
  exact InR.wrap (InR.natK (Nat.lt_of_le_of_lt Nat.and_le_right hb))
theorem ior_nat {k : IntKind} {a b : Nat} (ha : a < 2 ^ (k.bits - 1)) (hb : b < 2 ^ (k.bits - 1)) : ior k a b = ((a ||| b : Nat) : Int) := by
  have ha' : a < 2 ^ k.bits := Nat.lt_of_lt_of_le ha (Nat.pow_le_pow_right (by omega) (Nat.sub_le _ _))
  have hb' : b < 2 ^ k.bits := Nat.lt_of_lt_of_le hb (Nat.pow_le_pow_right (by omega) (Nat.sub_le _ _))
  unfold ior
  rw [bv_nat, bv_nat, BitVec.toNat_or, BitVec.toNat_ofNat, BitVec.toNat_ofNat, Nat.mod_eq_of_lt ha', Nat.mod_eq_of_lt hb']
  exact InR.wrap (InR.natK (Nat.or_lt_two_pow ha hb))
theorem iand_low {k : IntKind} {a : Int} (q : Nat) (h0 : 0 ≤ a) (ha : a < 2 ^ k.bits) (hq : q < k.bits) : iand k a (2 ^ q - 1 : Nat) = a % 2 ^ q := by
  obtain ⟨n, rfl⟩ := Int.eq_ofNat_of_zero_le h0
  have hn : n < 2 ^ k.bits := by exact_mod_cast ha
  have hb : 2 ^ q - 1 < 2 ^ (k.bits - 1) := by
    have : 2 ^ q ≤ 2 ^ (k.bits - 1) := Nat.pow_le_pow_right (by omega) (by omega)
    have := Nat.pow_pos (n := q) (show 0 < 2 by omega)
    omega
  rw [iand_nat hn hb, Nat.and_two_pow_sub_one_eq_mod]
  simp
theorem iand63 {a : Int} (h0 : 0 ≤ a) (ha : a ≤ 9223372036854775807) : iand .i64 a 63 = a % 64 := by
  have h2 : a < 2 ^ (IntKind.i64).bits := by
    show a < 2 ^ 64
    omega
  have h3 := iand_low (k := .i64) 6 h0 h2 (by decide)
  rw [show ((2 ^ 6 - 1 : Nat) : Int) = 63 from rfl, show (2 : Int) ^ 6 = 64 from rfl] at h3
  exact h3
theorem ior_shift {a : Int} {q : Nat} {x : Int} (h0 : 0 ≤ a) (ha : a * 2 ^ q ≤ 9223372036854775807) (hx0 : 0 ≤ x) (hx : x < 2 ^ q) (hq : q < 63) : ior .i64 (a * 2 ^ q) x = a * 2 ^ q + x := by
  obtain ⟨n, rfl⟩ := Int.eq_ofNat_of_zero_le h0
  obtain ⟨y, rfl⟩ := Int.eq_ofNat_of_zero_le hx0
  have hy : y < 2 ^ q := by exact_mod_cast hx
  have hn : n * 2 ^ q < 2 ^ 63 := by
    have : ((n * 2 ^ q : Nat) : Int) ≤ 9223372036854775807 := by push_cast; exact ha
    have h : n * 2 ^ q ≤ 9223372036854775807 := Int.ofNat_le.1 (show ((n * 2 ^ q : Nat) : Int) ≤ ((9223372036854775807 : Nat) : Int) from this)
    omega
  have h2 : y < 2 ^ 63 := Nat.lt_trans hy (Nat.pow_lt_pow_right (by omega) hq)
  have e : ((n : Int) * 2 ^ q) = ((n * 2 ^ q : Nat) : Int) := by push_cast; rfl
  rw [e, ior_nat (k := .i64) hn h2, ← Nat.shiftLeft_eq, ← Nat.shiftLeft_add_eq_or_of_lt hy]
  push_cast
  rfl
theorem oct_and63 : ∀ n : Nat, n < 256 → iand .u8 n 63 = ((n % 64 : Nat) : Int) := by decide +kernel
theorem oct_and192 : ∀ n : Nat, n < 256 → (decide (iand .u8 n 192 = 128)) = decide (128 ≤ n ∧ n < 192) := by decide +kernel
theorem oct_andn192 : ∀ n : Nat, n < 256 → 192 ≤ n → iandn .u8 n 192 = ((n % 64 : Nat) : Int) := by decide +kernel
theorem oct_andn224 : ∀ n : Nat, n < 256 → 224 ≤ n → iandn .u8 n 224 = ((n % 32 : Nat) : Int) := by decide +kernel
theorem oct_andn240 : ∀ n : Nat, n < 256 → 240 ≤ n → iandn .u8 n 240 = ((n % 16 : Nat) : Int) := by decide +kernel
theorem oct_or128 : ∀ n : Nat, n < 64 → ior .i64 128 n = ((128 + n : Nat) : Int) := by decide +kernel
theorem oct_or192 : ∀ n : Nat, n < 32 → ior .i64 192 n = ((192 + n : Nat) : Int) := by decide +kernel
theorem oct_or224 : ∀ n : Nat, n < 16 → ior .i64 224 n = ((224 + n : Nat) : Int) := by decide +kernel
theorem oct_or240 : ∀ n : Nat, n < 8 → ior .i64 240 n = ((240 + n : Nat) : Int) := by decide +kernel
def utfSize (r : Int) : Int := if r < 128 then 1 else if r < 2048 then 2 else if r < 65536 then 3 else 4
def utfGood (r : Int) : Bool := decide (0 ≤ r ∧ r ≤ 1114111 ∧ (r < 55296 ∨ 57343 < r))
def utfBegins (c : Nat) : Int × Int :=
  if c < 128 then (1, c) else if c < 192 then (0, 0) else if c < 224 then (2, (c % 64 : Nat)) else if c < 240 then (3, (c % 32 : Nat)) else if c < 248 then (4, (c % 16 : Nat)) else (0, 0)
def takeL : Nat → Str → Int → Option Int
  | 0, _, r => some r
  | _ + 1, [], _ => none
  | q + 1, b :: s, r => if 128 ≤ b.toNat ∧ b.toNat < 192 then takeL q s (r * 64 + (b.toNat % 64 : Nat)) else none
def utfTake (s : Str) : Int × Int :=
  match s with
  | [] => (0, 0)
  | c :: cs => if (utfBegins c.toNat).1 = 0 ∨ (s.length : Int) < (utfBegins c.toNat).1 then (0, 0) else
    match takeL ((utfBegins c.toNat).1.toNat - 1) cs (utfBegins c.toNat).2 with
    | none => (0, 0)
    | some r => if utfGood r = true ∧ utfSize r = (utfBegins c.toNat).1 then (r, (utfBegins c.toNat).1) else (0, 0)
def utfEnc (r : Int) : Str :=
  if utfGood r = false then [] else
  if r < 128 then [UInt8.ofNat r.toNat] else
  if r < 2048 then [UInt8.ofNat (192 + r.toNat / 64), UInt8.ofNat (128 + r.toNat % 64)] else
  if r < 65536 then [UInt8.ofNat (224 + r.toNat / 4096), UInt8.ofNat (128 + r.toNat / 64 % 64), UInt8.ofNat (128 + r.toNat % 64)] else
  [UInt8.ofNat (240 + r.toNat / 262144), UInt8.ofNat (128 + r.toNat / 4096 % 64), UInt8.ofNat (128 + r.toNat / 64 % 64), UInt8.ofNat (128 + r.toNat % 64)]
theorem utfBegins_n (c : Nat) : (utfBegins c).1 = 0 ∨ (utfBegins c).1 = 1 ∨ (utfBegins c).1 = 2 ∨ (utfBegins c).1 = 3 ∨ (utfBegins c).1 = 4 := by
  unfold utfBegins
  repeat' split
  all_goals simp
theorem utfBegins_r (c : Nat) : 0 ≤ (utfBegins c).2 ∧ (utfBegins c).2 ≤ 127 := by
  unfold utfBegins
  repeat' split
  all_goals (constructor <;> simp only [] <;> omega)
def utfScan : Nat → Str → Int → Int × Bool
  | 0, _, at_ => (at_, true)
  | q + 1, s, at_ => match s with
    | [] => (at_, true)
    | c :: cs => if (utfTake (c :: cs)).2 = 0 then (at_, false) else utfScan q ((c :: cs).drop (utfTake (c :: cs)).2.toNat) (at_ + (utfTake (c :: cs)).2)
def utfValid (s : Str) : Int × Bool := utfScan s.length s 0
theorem utfTake_n (s : Str) : (utfTake s).2 = 0 ∨ (1 ≤ (utfTake s).2 ∧ (utfTake s).2 ≤ 4 ∧ (utfTake s).2 ≤ s.length) := by
  unfold utfTake
  split
  · simp
  · rename_i c cs
    split
    · simp
    · rename_i h
      simp only [not_or, Int.not_lt] at h
      split
      · simp
      · split
        · have := utfBegins_n c.toNat
          right
          simp only []
          omega
        · simp
theorem utfTake_0 {s : Str} (h : (utfTake s).2 = 0) : (utfTake s).1 = 0 := by
  unfold utfTake at h ⊢
  split
  · rfl
  · rename_i c cs
    simp only [] at h
    split
    · rfl
    · rename_i h1
      rw [if_neg h1] at h
      split
      · rfl
      · rename_i r hr
        rw [hr] at h
        simp only [] at h
        split
        · rename_i h2
          rw [if_pos h2] at h
          simp only [] at h
          exact absurd h (fun e => h1 (.inl e))
        · rfl
end Go.Am
namespace Go.Am
def takeU : Nat → Int
  | 0 => 1073741824
  | 1 => 16777216
  | 2 => 262144
  | 3 => 4096
  | _ => 64
theorem takeU_step {q : Nat} (hq : q ≤ 2) {r x : Int} (h : r < takeU (q + 1)) (hx : x < 64) : r * 64 + x < takeU q ∧ takeU q ≤ 1073741824 := by
  have : q = 0 ∨ q = 1 ∨ q = 2 := by omega
  rcases this with rfl | rfl | rfl <;> simp only [takeU] at h ⊢ <;> (constructor <;> omega)
theorem takeU_pos (q : Nat) (hq : q ≤ 3) : 127 < takeU q := by
  have : q = 0 ∨ q = 1 ∨ q = 2 ∨ q = 3 := by omega
  rcases this with rfl | rfl | rfl | rfl <;> simp [takeU]
theorem getD_of {s : Str} {i : Nat} {b : UInt8} (h : s[i]? = some b) : s.getD i 0 = b := by simp [List.getD, h]
end Go.Am
namespace Go.Am
theorem CLe.arr {t : TypeId} {sz : Nat} {es es' : List PV} {mv : List Nat} (h : es = es') : CLe ⟨.ret (.sl 0 0 es.length), [.arr t sz es], mv⟩ ⟨.ret (.sl 0 0 es'.length), [.arr t sz es'], mv⟩ := by rw [h]; exact CLe.refl _
theorem bytes_cells (s : Str) : ∀ y ∈ s.map byteP, y.cells.length = 1 := by
  intro y hy; obtain ⟨b, _, rfl⟩ := List.mem_map.1 hy; rfl
theorem byte_of {x : Int} (h0 : 0 ≤ x) (h1 : x ≤ 255) : PV.int .u8 (IntKind.u8.wrap x) = byteP (UInt8.ofNat x.toNat) := by
  obtain ⟨n, rfl⟩ := Int.eq_ofNat_of_zero_le h0
  have hn : n < 256 := by omega
  rw [InR.wrap (show InR .u8 (n : Int) from ⟨by omega, by omega⟩)]
  unfold byteP
  rw [Int.toNat_natCast, UInt8.toNat_ofNat']
  congr 1
  simp only [Nat.reducePow]
  omega
theorem bytesOf_map (s : Str) : bytesOf (s.map byteP) = some s := by
  induction s with
  | nil => rfl
  | cons b s ih =>
    rw [List.map_cons]
    simp only [byteP, bytesOf, ih, Option.map_some, Int.toNat_natCast]
    simp
theorem Bytes.mk' {l : List PV} {s : Str} {K : Str → Prop} (h : l = s.map byteP) (k : K s) : Bytes l K := ⟨s, by rw [h, bytesOf_map], k⟩
end Go.Am
namespace Go.Am
theorem utfSize_1 (r : Int) : utfSize r = 1 ↔ r < 128 := by
  unfold utfSize
  repeat' split
  all_goals (constructor <;> intro h <;> omega)
theorem utfSize_2 (r : Int) : utfSize r = 2 ↔ 128 ≤ r ∧ r < 2048 := by
  unfold utfSize
  repeat' split
  all_goals (constructor <;> intro h <;> omega)
theorem utfSize_3 (r : Int) : utfSize r = 3 ↔ 2048 ≤ r ∧ r < 65536 := by
  unfold utfSize
  repeat' split
  all_goals (constructor <;> intro h <;> omega)
end Go.Am
end

section
namespace Go.Proofs.YtoinkmogdfjmmaaGreatDoor
open Go Go.Am
set_option maxRecDepth 100000
theorem utf_size (r : Int) : AbsCall PP GG F.utf_size [.p (.int .i64 r)] [] ⟨.ret (.p (.int .i64 (utfSize r))), [], []⟩ := by
  refine absCall_of (pol := polG) mixP F.utf_size_is ?_
  conv => whnf
  repeat' ((first
   | ((with_reducible first | refine Br.dec ?_ ?_ | refine Br.ndec ?_ ?_) <;> intro hb <;> (try simp only [ZZ] at hb) <;> (first | omega | skip))
   | (with_reducible first | refine Br.tt rfl ?_ | refine Br.ff rfl ?_ | refine Br.ff (isEmptyCons _ _) ?_)
   | ((with_reducible first | refine Side.mk ?_ ?_ | refine WrapW.mk ?_ ?_); focus (first | omega | (dsimp only [InR, Int.reduceToNat, IntKind.bits, Int.reducePow]; omega) | (simp [CC]; done) | (constructor <;> omega)))
   | (refine Br.mk ?_ ?_ <;> intro hb <;> (try simp only [ZZ] at hb) <;> (first | omega | skip))
   | refine Src.whole ⟨rfl, rfl⟩ ?_ | refine FrzV.whole ?_) <;> conv => whnf)
  all_goals exact CLe.retP (by simp [utfSize, *])
theorem utf_Good (r : Int) : AbsCall PP GG F.utf_Good [.p (.int .i64 r)] [] ⟨.ret (.p (.bool (utfGood r))), [], []⟩ := by
  refine absCall_of (pol := polG) mixP F.utf_Good_is ?_
  conv => whnf
  repeat' ((first
   | ((with_reducible first | refine Br.dec ?_ ?_ | refine Br.ndec ?_ ?_) <;> intro hb <;> (try simp only [ZZ] at hb) <;> (first | omega | skip))
   | (with_reducible first | refine Br.tt rfl ?_ | refine Br.ff rfl ?_ | refine Br.ff (isEmptyCons _ _) ?_)
   | ((with_reducible first | refine Side.mk ?_ ?_ | refine WrapW.mk ?_ ?_); focus (first | omega | (dsimp only [InR, Int.reduceToNat, IntKind.bits, Int.reducePow]; omega) | (simp [CC]; done) | (constructor <;> omega)))
   | (refine Br.mk ?_ ?_ <;> intro hb <;> (try simp only [ZZ] at hb) <;> (first | omega | skip))
   | refine Src.whole ⟨rfl, rfl⟩ ?_ | refine FrzV.whole ?_) <;> conv => whnf)
  all_goals exact CLe.retP (by simp only [PV.bool.injEq, utfGood]; first | (symm; rw [decide_eq_false_iff_not]; omega) | (symm; rw [decide_eq_true_eq]; omega) | (rw [decide_eq_decide]; omega))
theorem utf_begins (c : UInt8) : AbsCall PP GG F.utf_begins [.p (byteP c)] [] ⟨.ret (.tup [.p (.int .i64 (utfBegins c.toNat).1), .p (.int .i64 (utfBegins c.toNat).2)]), [], []⟩ := by
  have hc : c.toNat < 256 := UInt8.toNat_lt c
  refine absCall_of (pol := polG) mixP F.utf_begins_is ?_
  conv => whnf
  repeat' ((first
   | ((with_reducible first | refine Br.dec ?_ ?_ | refine Br.ndec ?_ ?_) <;> intro hb <;> (try simp only [ZZ] at hb) <;> (first | omega | skip))
   | (with_reducible first | refine Br.tt rfl ?_ | refine Br.ff rfl ?_ | refine Br.ff (isEmptyCons _ _) ?_)
   | ((with_reducible first | refine Side.mk ?_ ?_ | refine WrapW.mk ?_ ?_); focus (first | omega | (dsimp only [InR, Int.reduceToNat, IntKind.bits, Int.reducePow]; omega) | (simp only [oct_andn192 _ hc (by omega), InR]; omega) | (simp only [oct_andn224 _ hc (by omega), InR]; omega) | (simp only [oct_andn240 _ hc (by omega), InR]; omega) | (simp [CC]; done) | (constructor <;> omega)))
   | (refine Br.mk ?_ ?_ <;> intro hb <;> (try simp only [ZZ] at hb) <;> (first | omega | skip))
   | refine Src.whole ⟨rfl, rfl⟩ ?_ | refine FrzV.whole ?_) <;> conv => whnf)
  all_goals
    refine CLe.eq ?_
    unfold utfBegins
    first
      | (rw [if_pos (by omega)]; done)
      | (rw [if_neg (by omega), if_pos (by omega)]; done)
      | (rw [if_neg (by omega), if_neg (by omega), if_pos (by omega), oct_andn192 _ hc (by omega)]; done)
      | (rw [if_neg (by omega), if_neg (by omega), if_neg (by omega), if_pos (by omega), oct_andn224 _ hc (by omega)]; done)
      | (rw [if_neg (by omega), if_neg (by omega), if_neg (by omega), if_neg (by omega), if_pos (by omega), oct_andn240 _ hc (by omega)]; done)
      | (rw [if_neg (by omega), if_neg (by omega), if_neg (by omega), if_neg (by omega), if_neg (by omega)]; done)
theorem take_loop (s : Str) (n : Nat) (hn : n ≤ 4) (hns : n ≤ s.length) (R : Option Int) (K : Post)
    (h0 : ∀ r, R = some r → K (.exit 0) [(4, .p (.int .i64 n)), (5, .p (.int .i64 r))] [] [])
    (hr : R = none → K .ret [(2, .p (.int .i64 0)), (3, .p (.int .i64 0))] [] []) :
    ∀ (q i : Nat) (r : Int), i + q = n → 1 ≤ i → 0 ≤ r → r < takeU q → takeL q (s.drop i) r = R →
      LoopW PP GG 52 0 (loopN F.utf_Take_c 0) [(0, .p (.str s)), (4, .p (.int .i64 n)), (5, .p (.int .i64 r)), (6, .p (.int .i64 i))] [] [] (PostCl 52 K) := by
  intro q
  induction q with
  | zero =>
    intro i r hi h1 hr0 hr1 hR
    rw [takeL] at hR
    refine LoopW.round (pol := polG) mixP ?_
    conv => whnf
    repeat' ((first
     | ((with_reducible first | refine Br.dec ?_ ?_ | refine Br.ndec ?_ ?_) <;> intro hb <;> (try simp only [ZZ] at hb) <;> (first | omega | skip))
     | (with_reducible first | refine Br.tt rfl ?_ | refine Br.ff rfl ?_ | refine Br.ff (isEmptyCons _ _) ?_)
     | ((with_reducible first | refine Side.mk ?_ ?_ | refine WrapW.mk ?_ ?_); focus (first | omega | (dsimp only [InR, Int.reduceToNat, IntKind.bits, Int.reducePow]; omega) | (simp [CC]; done) | (constructor <;> omega)))
     | (refine Br.mk ?_ ?_ <;> intro hb <;> (try simp only [ZZ] at hb) <;> (first | omega | skip))
     | refine Src.whole ⟨rfl, rfl⟩ ?_ | refine FrzV.whole ?_) <;> conv => whnf)
    · refine PostCl.of (h0 r hR.symm) ?_ ?_
      · repeat first | exact trivial | refine ⟨VLe.refl _, ?_⟩
      · repeat first | exact trivial | refine ⟨by decide, ?_⟩
  | succ q ih =>
    intro i r hi h1 hr0 hr1 hR
    obtain ⟨b, hb⟩ : ∃ b, s[i]? = some b := ⟨_, List.getElem?_eq_getElem (show i < s.length by omega)⟩
    rw [drop_cons hb, takeL] at hR
    have hbl := UInt8.toNat_lt b
    have hst := takeU_step (q := q) (by omega) hr1 (x := (b.toNat % 64 : Nat)) (by omega)
    have hg : s.getD (Int.toNat ↑i) 0 = b := getD_of (by simpa using hb)
    refine LoopW.round (pol := polG) mixP ?_
    conv => whnf
    repeat' ((first
     | ((with_reducible first | refine Br.dec ?_ ?_ | refine Br.ndec ?_ ?_) <;> intro hb <;> (try simp only [ZZ] at hb) <;> (first | omega | skip))
     | (with_reducible first | refine Br.tt rfl ?_ | refine Br.ff rfl ?_ | refine Br.ff (isEmptyCons _ _) ?_)
     | ((with_reducible first | refine Side.mk ?_ ?_ | refine WrapW.mk ?_ ?_); focus (first | omega | (dsimp only [InR, Int.reduceToNat, IntKind.bits, Int.reducePow]; omega) | (simp only [hg, oct_and63 _ hbl, InR]; omega) | (simp [CC]; done) | (constructor <;> omega)))
     | (refine Br.mk ?_ ?_ <;> intro hb <;> (try simp only [ZZ] at hb) <;> (first | omega | skip))
     | refine Src.whole ⟨rfl, rfl⟩ ?_ | refine FrzV.whole ?_) <;> conv => whnf)
    · have hbb := hb
      rw [hg] at hbb
      have := oct_and192 _ hbl
      rw [decide_eq_decide] at this
      rw [this] at hbb
      rw [if_neg hbb] at hR
      refine PostCl.of (hr hR.symm) ?_ ?_
      · repeat first | exact trivial | refine ⟨VLe.refl _, ?_⟩
      · repeat first | exact trivial | refine ⟨by decide, ?_⟩
    · have hbb := hb
      rw [hg] at hbb ⊢
      have := oct_and192 _ hbl
      rw [decide_eq_decide] at this
      rw [this] at hbb
      rw [if_pos hbb] at hR
      have hio : ior .i64 (r * 2 ^ Int.toNat 6) (iand .u8 b.toNat 63) = r * 64 + (b.toNat % 64 : Nat) := by
        rw [oct_and63 _ hbl]
        exact ior_shift (q := 6) hr0 (by omega) (by omega) (by omega) (by decide)
      rw [hio]
      refine LoopW.sub (ih (i + 1) _ (by omega) (by omega) (by omega) hst.1 hR) (by repeat first | exact trivial | refine ⟨VLe.refl _, ?_⟩) (by repeat first | exact trivial | refine ⟨by decide, ?_⟩)
theorem utf_Take (s : Str) (hs : s.length ≤ 1073741824) : AbsCall PP GG F.utf_Take [.p (.str s)] [] ⟨.ret (.tup [.p (.int .i64 (utfTake s).1), .p (.int .i64 (utfTake s).2)]), [], []⟩ := by
  cases s with
  | nil =>
    refine absCall_of (pol := polG) mixP F.utf_Take_is ?_
    conv => whnf
    repeat' ((first
     | ((with_reducible first | refine Br.dec ?_ ?_ | refine Br.ndec ?_ ?_) <;> intro hb <;> (try simp only [ZZ] at hb) <;> (first | omega | skip))
     | (with_reducible first | refine Br.tt rfl ?_ | refine Br.ff rfl ?_ | refine Br.ff (isEmptyCons _ _) ?_)
     | ((with_reducible first | refine Side.mk ?_ ?_ | refine WrapW.mk ?_ ?_); focus (first | omega | (dsimp only [InR, Int.reduceToNat, IntKind.bits, Int.reducePow]; omega) | (simp [CC]; done) | (constructor <;> omega)))
     | (refine Br.mk ?_ ?_ <;> intro hb <;> (try simp only [ZZ] at hb) <;> (first | omega | skip))
     | refine Src.whole ⟨rfl, rfl⟩ ?_ | refine FrzV.whole ?_) <;> conv => whnf)
    exact CLe.eq rfl
  | cons c cs =>
    have hbn := utfBegins_n c.toNat
    have hbr := utfBegins_r c.toNat
    have hsp := utf_begins c
    have hT : utfTake (c :: cs) = if (utfBegins c.toNat).1 = 0 ∨ ((c :: cs).length : Int) < (utfBegins c.toNat).1 then (0, 0) else
      match takeL ((utfBegins c.toNat).1.toNat - 1) cs (utfBegins c.toNat).2 with
      | none => (0, 0)
      | some r => if utfGood r = true ∧ utfSize r = (utfBegins c.toNat).1 then (r, (utfBegins c.toNat).1) else (0, 0) := rfl
    generalize utfBegins c.toNat = B at *
    obtain ⟨b1, r⟩ := B
    obtain ⟨n, rfl⟩ : ∃ n : Nat, b1 = n := ⟨b1.toNat, by simp only [] at hbn; omega⟩
    simp only [] at hbn hbr hsp hT
    refine absCall_of (pol := polG) mixP F.utf_Take_is ?_
    conv => whnf
    repeat' ((first
     | ((with_reducible first | refine Br.dec ?_ ?_ | refine Br.ndec ?_ ?_) <;> intro hb <;> (try simp only [ZZ] at hb) <;> (first | omega | skip))
     | (with_reducible first | refine Br.tt rfl ?_ | refine Br.ff rfl ?_ | refine Br.ff (isEmptyCons _ _) ?_)
     | ((with_reducible first | refine Side.mk ?_ ?_ | refine WrapW.mk ?_ ?_); focus (first | omega | (dsimp only [InR, Int.reduceToNat, IntKind.bits, Int.reducePow]; omega) | (simp only [List.length_cons]; omega) | (simp [CC]; done) | (constructor <;> omega)))
     | (refine Br.mk ?_ ?_ <;> intro hb <;> (try simp only [ZZ] at hb) <;> (first | omega | skip))
     | refine Src.whole ⟨rfl, rfl⟩ ?_ | refine FrzV.whole ?_
     | refine CallW.use (hsp) ?_) <;> conv => whnf)
    · exact CLe.eq (by rw [hT, if_pos (by omega)])
    · exact CLe.eq (by rw [hT, if_pos (by omega)])
    · rename_i hn0
      rw [if_neg (by omega)] at hT
      refine LoopW.cl ?_
      refine LoopW.sub (take_loop (c :: cs) n (by omega) (by omega) (takeL (n - 1) cs r) _ (fun r' hr' => ?_) (fun hr' => ?_) (n - 1) 1 r (by omega) (by omega) hbr.1 (by have := takeU_pos (n - 1) (by omega); omega) rfl) (by repeat first | exact trivial | refine ⟨VLe.refl _, ?_⟩) (by repeat first | exact trivial | refine ⟨by decide, ?_⟩)
      · rw [Int.toNat_natCast, hr'] at hT
        simp only [] at hT
        conv => whnf
        repeat' ((first
         | ((with_reducible first | refine Br.dec ?_ ?_ | refine Br.ndec ?_ ?_) <;> intro hb <;> (try simp only [ZZ] at hb) <;> (first | omega | skip))
         | (with_reducible first | refine Br.tt rfl ?_ | refine Br.ff rfl ?_ | refine Br.ff (isEmptyCons _ _) ?_)
         | ((with_reducible first | refine Side.mk ?_ ?_ | refine WrapW.mk ?_ ?_); focus (first | omega | (dsimp only [InR, Int.reduceToNat, IntKind.bits, Int.reducePow]; omega) | (simp [CC]; done) | (constructor <;> omega)))
         | (refine Br.mk ?_ ?_ <;> intro hb <;> (try simp only [ZZ] at hb) <;> (first | omega | skip))
         | refine Src.whole ⟨rfl, rfl⟩ ?_ | refine FrzV.whole ?_
         | refine CallW.use (utf_Good _) ?_
         | refine CallW.use (utf_size _) ?_) <;> conv => whnf)
        all_goals refine CLe.eq ?_
        all_goals rw [hT]
        · rw [if_neg (by simp_all)]
        · rw [if_neg (by simp_all)]
        · rw [if_pos (by simp_all)]
      · rw [Int.toNat_natCast, hr'] at hT
        simp only [] at hT
        conv => whnf
        exact CLe.eq (by rw [hT])
theorem utf_Put (bs : Str) (r : Int) (hs : bs.length ≤ 1073741824) : AbsCall PP GG F.utf_Put [.p (.lst false (bs.map byteP)), .p (.int .i64 r)] [] ⟨.ret (.sl 0 0 ((bs ++ utfEnc r).map byteP).length), [.arr T.uint8 1 ((bs ++ utfEnc r).map byteP)], []⟩ := by
  have hlen : (bs.map byteP).length = bs.length := by simp
  have hgr : utfGood r = true → 0 ≤ r ∧ r ≤ 1114111 := by intro hg; unfold utfGood at hg; rw [decide_eq_true_eq] at hg; omega
  refine absCall_of (pol := polG) mixP F.utf_Put_is ?_
  conv => whnf
  repeat' ((first
   | ((with_reducible first | refine Br.dec ?_ ?_ | refine Br.ndec ?_ ?_) <;> intro hb <;> (try simp only [ZZ] at hb) <;> (first | omega | skip))
   | (with_reducible first | refine Br.tt rfl ?_ | refine Br.ff rfl ?_ | refine Br.ff (isEmptyCons _ _) ?_)
   | ((with_reducible first | refine Side.mk ?_ ?_ | refine WrapW.mk ?_ ?_); focus (first | omega | (dsimp only [InR, Int.reduceToNat, IntKind.bits, Int.reducePow]; omega) | exact ⟨bytes_cells bs, by simp, by simp; omega⟩ | exact ⟨by simp [PV.cells], by simp, by simp; omega⟩ | (simp [CC]; done) | (constructor <;> omega)))
   | (refine Br.mk ?_ ?_ <;> intro hb <;> (try simp only [ZZ] at hb) <;> (first | omega | skip))
   | refine Src.whole ⟨rfl, rfl⟩ ?_ | refine FrzV.whole ?_
   | refine CallW.use (utf_Good _) ?_
   | refine CallW.use (utf_size _) ?_
   | (refine Src.whole ⟨rfl, by simp⟩ ?_)) <;> conv => whnf)
  · refine CLe.arr ?_
    rw [show utfEnc r = [] by unfold utfEnc; rw [if_pos hb]]
    simp
  all_goals
    obtain ⟨hr0, hr1⟩ := hgr ‹utfGood r = true›
    obtain ⟨n, rfl⟩ := Int.eq_ofNat_of_zero_le hr0
    have hng : utfGood (n : Int) ≠ false := by simp_all
    refine CLe.arr ?_
    unfold utfEnc
    rw [if_neg hng]
    have q6 : (n : Int) / 2 ^ Int.toNat 6 = ((n / 64 : Nat) : Int) := by show (n : Int) / 64 = _; omega
    have q12 : (n : Int) / 2 ^ Int.toNat 12 = ((n / 4096 : Nat) : Int) := by show (n : Int) / 4096 = _; omega
    have q18 : (n : Int) / 2 ^ Int.toNat 18 = ((n / 262144 : Nat) : Int) := by show (n : Int) / 262144 = _; omega
    have low : ∀ m : Nat, m ≤ 1114111 → iand .i64 (m : Int) 63 = ((m % 64 : Nat) : Int) := by
      intro m hm
      rw [iand63 (by omega) (by omega)]; omega
    have by' : ∀ m : Nat, m ≤ 255 → PV.int .u8 (IntKind.u8.wrap (m : Int)) = byteP (UInt8.ofNat m) := by
      intro m hm
      have := byte_of (x := (m : Int)) (by omega) (by omega)
      simpa using this
    rw [List.map_append, show List.replicate (Int.toNat 0) (PV.int IntKind.u8 0) = [] from rfl, List.nil_append]
    congr 1
  · rw [utfSize_1] at hb
    rw [if_pos hb]
    simp only [List.map_cons, List.map_nil]
    rw [Int.toNat_natCast, by' n (by omega)]
  · rename_i h1
    rw [utfSize_1] at h1
    rw [utfSize_2] at hb
    rw [if_neg h1, if_pos hb.2]
    simp only [List.map_cons, List.map_nil]
    rw [Int.toNat_natCast, q6, low n (by omega), oct_or192 _ (by omega), oct_or128 _ (by omega), by' _ (by omega), by' _ (by omega)]
  · rename_i h1 h2
    rw [utfSize_1] at h1
    rw [utfSize_2] at h2
    rw [utfSize_3] at hb
    rw [if_neg h1, if_neg (by omega), if_pos hb.2]
    simp only [List.map_cons, List.map_nil]
    rw [Int.toNat_natCast, q6, q12, low n (by omega), low (n / 64) (by omega), oct_or224 _ (by omega), oct_or128 _ (by omega), oct_or128 _ (by omega), by' _ (by omega), by' _ (by omega), by' _ (by omega)]
  · rename_i h1 h2
    rw [utfSize_1] at h1
    rw [utfSize_2] at h2
    rw [utfSize_3] at hb
    rw [if_neg h1, if_neg (by omega), if_neg (by omega)]
    simp only [List.map_cons, List.map_nil]
    rw [Int.toNat_natCast, q6, q12, q18, low n (by omega), low (n / 64) (by omega), low (n / 4096) (by omega), oct_or240 _ (by omega), oct_or128 _ (by omega), oct_or128 _ (by omega), oct_or128 _ (by omega), by' _ (by omega), by' _ (by omega), by' _ (by omega), by' _ (by omega)]
theorem valid_loop (s : Str) (hs : s.length ≤ 1073741824) (R : Int × Bool) (K : Post)
    (h0 : R = ((s.length : Int), true) → K (.exit 0) [(0, .p (.str s))] [] [])
    (hr : R.2 = false → K .ret [(2, .p (.int .i64 R.1)), (3, .p (.bool false))] [] []) :
    ∀ (q i : Nat), s.length ≤ i + q → i ≤ s.length → utfScan q (s.drop i) i = R →
      LoopW PP GG 26 0 (loopN F.utf_Valid_c 0) [(0, .p (.str s)), (4, .p (.int .i64 i))] [] [] (PostCl 26 K) := by
  intro q
  induction q with
  | zero =>
    intro i hi hil hR
    rw [utfScan] at hR
    subst hR
    refine LoopW.round (pol := polG) mixP ?_
    conv => whnf
    repeat' ((first
     | ((with_reducible first | refine Br.dec ?_ ?_ | refine Br.ndec ?_ ?_) <;> intro hb <;> (try simp only [ZZ] at hb) <;> (first | omega | skip))
     | (with_reducible first | refine Br.tt rfl ?_ | refine Br.ff rfl ?_ | refine Br.ff (isEmptyCons _ _) ?_)
     | ((with_reducible first | refine Side.mk ?_ ?_ | refine WrapW.mk ?_ ?_); focus (first | omega | (dsimp only [InR, Int.reduceToNat, IntKind.bits, Int.reducePow]; omega) | (simp [CC]; done) | (constructor <;> omega)))
     | (refine Br.mk ?_ ?_ <;> intro hb <;> (try simp only [ZZ] at hb) <;> (first | omega | skip))
     | refine Src.whole ⟨rfl, rfl⟩ ?_ | refine FrzV.whole ?_) <;> conv => whnf)
    · refine PostCl.of (h0 (by congr 1; omega)) ?_ ?_
      · repeat first | exact trivial | refine ⟨VLe.refl _, ?_⟩
      · repeat first | exact trivial | refine ⟨by decide, ?_⟩
  | succ q ih =>
    intro i hi hil hR
    have hT := utfTake_n (s.drop i)
    have hd : (s.drop i).length ≤ 1073741824 := by simp only [List.length_drop]; omega
    have hdl : (s.drop i).length = s.length - i := List.length_drop
    cases hsd : s.drop i with
    | nil =>
      have : (s.drop i).length = 0 := by rw [hsd]; rfl
      rw [hsd, utfScan] at hR
      subst hR
      refine LoopW.round (pol := polG) mixP ?_
      conv => whnf
      repeat' ((first
       | ((with_reducible first | refine Br.dec ?_ ?_ | refine Br.ndec ?_ ?_) <;> intro hb <;> (try simp only [ZZ] at hb) <;> (first | omega | skip))
       | (with_reducible first | refine Br.tt rfl ?_ | refine Br.ff rfl ?_ | refine Br.ff (isEmptyCons _ _) ?_)
       | ((with_reducible first | refine Side.mk ?_ ?_ | refine WrapW.mk ?_ ?_); focus (first | omega | (dsimp only [InR, Int.reduceToNat, IntKind.bits, Int.reducePow]; omega) | (simp [CC]; done) | (constructor <;> omega)))
       | (refine Br.mk ?_ ?_ <;> intro hb <;> (try simp only [ZZ] at hb) <;> (first | omega | skip))
       | refine Src.whole ⟨rfl, rfl⟩ ?_ | refine FrzV.whole ?_) <;> conv => whnf)
      · refine PostCl.of (h0 (by congr 1; omega)) ?_ ?_
        · repeat first | exact trivial | refine ⟨VLe.refl _, ?_⟩
        · repeat first | exact trivial | refine ⟨by decide, ?_⟩
    | cons c cs =>
      have hlt : i < s.length := by have : (s.drop i).length = cs.length + 1 := by rw [hsd]; rfl
                                    omega
      rw [hsd, utfScan, ← hsd] at hR
      refine LoopW.round (pol := polG) mixP ?_
      conv => whnf
      repeat' ((first
       | ((with_reducible first | refine Br.dec ?_ ?_ | refine Br.ndec ?_ ?_) <;> intro hb <;> (try simp only [ZZ] at hb) <;> (first | omega | skip))
       | (with_reducible first | refine Br.tt rfl ?_ | refine Br.ff rfl ?_ | refine Br.ff (isEmptyCons _ _) ?_)
       | ((with_reducible first | refine Side.mk ?_ ?_ | refine WrapW.mk ?_ ?_); focus (first | omega | (dsimp only [InR, Int.reduceToNat, IntKind.bits, Int.reducePow]; omega) | (simp [CC]; done) | (constructor <;> omega)))
       | (refine Br.mk ?_ ?_ <;> intro hb <;> (try simp only [ZZ] at hb) <;> (first | omega | skip))
       | refine Src.whole ⟨rfl, rfl⟩ ?_ | refine FrzV.whole ?_
       | refine CallW.use (utf_Take (s.drop i) hd) ?_) <;> conv => whnf)
      · rw [if_pos hb] at hR
        subst hR
        refine PostCl.of (hr rfl) ?_ ?_
        · repeat first | exact trivial | refine ⟨VLe.refl _, ?_⟩
        · repeat first | exact trivial | refine ⟨by decide, ?_⟩
      · rw [if_neg hb, List.drop_drop] at hR
        obtain ⟨m, hm⟩ : ∃ m : Nat, (utfTake (s.drop i)).2 = m := ⟨(utfTake (s.drop i)).2.toNat, by omega⟩
        rw [hm] at hR ⊢
        refine LoopW.sub (ih (i + m) (by omega) (by omega) (by rw [← hR]; congr 1)) (by repeat first | exact trivial | refine ⟨VLe.refl _, ?_⟩) (by repeat first | exact trivial | refine ⟨by decide, ?_⟩)
theorem utf_Valid (s : Str) (hs : s.length ≤ 1073741824) : AbsCall PP GG F.utf_Valid [.p (.str s)] [] ⟨.ret (.tup [.p (.int .i64 (utfValid s).1), .p (.bool (utfValid s).2)]), [], []⟩ := by
  refine absCall_of (pol := polG) mixP F.utf_Valid_is ?_
  conv => whnf
  refine LoopW.cl ?_
  refine LoopW.sub (valid_loop s hs (utfValid s) _ (fun h => ?_) (fun h => ?_) s.length 0 (by omega) (by omega) rfl) (by repeat first | exact trivial | refine ⟨VLe.refl _, ?_⟩) (by repeat first | exact trivial | refine ⟨by decide, ?_⟩)
  · conv => whnf
    repeat' ((first
     | ((with_reducible first | refine Br.dec ?_ ?_ | refine Br.ndec ?_ ?_) <;> intro hb <;> (try simp only [ZZ] at hb) <;> (first | omega | skip))
     | (with_reducible first | refine Br.tt rfl ?_ | refine Br.ff rfl ?_ | refine Br.ff (isEmptyCons _ _) ?_)
     | ((with_reducible first | refine Side.mk ?_ ?_ | refine WrapW.mk ?_ ?_); focus (first | omega | (dsimp only [InR, Int.reduceToNat, IntKind.bits, Int.reducePow]; omega) | (simp [CC]; done) | (constructor <;> omega)))
     | (refine Br.mk ?_ ?_ <;> intro hb <;> (try simp only [ZZ] at hb) <;> (first | omega | skip))
     | refine Src.whole ⟨rfl, rfl⟩ ?_ | refine FrzV.whole ?_) <;> conv => whnf)
    exact CLe.eq (by rw [h])
  · conv => whnf
    repeat' ((first
     | ((with_reducible first | refine Br.dec ?_ ?_ | refine Br.ndec ?_ ?_) <;> intro hb <;> (try simp only [ZZ] at hb) <;> (first | omega | skip))
     | (with_reducible first | refine Br.tt rfl ?_ | refine Br.ff rfl ?_ | refine Br.ff (isEmptyCons _ _) ?_)
     | ((with_reducible first | refine Side.mk ?_ ?_ | refine WrapW.mk ?_ ?_); focus (first | omega | (dsimp only [InR, Int.reduceToNat, IntKind.bits, Int.reducePow]; omega) | (simp [CC]; done) | (constructor <;> omega)))
     | (refine Br.mk ?_ ?_ <;> intro hb <;> (try simp only [ZZ] at hb) <;> (first | omega | skip))
     | refine Src.whole ⟨rfl, rfl⟩ ?_ | refine FrzV.whole ?_) <;> conv => whnf)
    exact CLe.eq (by rw [h])
end Go.Proofs.YtoinkmogdfjmmaaGreatDoor
end

section
namespace Go.Am
open Go
def refTake (s : Str) : Int × Int :=
  match s with
  | [] => (0, 0)
  | c :: cs => if (utfBegins c.toNat).1 = 0 ∨ (s.length : Int) < (utfBegins c.toNat).1 then (0, 0) else
    match takeL ((utfBegins c.toNat).1.toNat - 1) cs (utfBegins c.toNat).2 with
    | none => (0, 0)
    | some r => if utfEnc r = s.take (utfBegins c.toNat).1.toNat then (r, (utfBegins c.toNat).1) else (0, 0)
theorem utfEnc_length (r : Int) : ((utfEnc r).length : Int) = if utfGood r = true then utfSize r else 0 := by
  unfold utfEnc utfSize
  cases utfGood r with
  | false => simp
  | true =>
    simp only [Bool.true_eq_false, if_false, if_true]
    repeat' split
    all_goals simp
theorem enc_byte {b : UInt8} {n : Nat} (h : n = b.toNat) : UInt8.ofNat n = b := by subst h; simp
theorem enc_take {c : UInt8} {cs : Str} {r : Int} (h0 : (utfBegins c.toNat).1 ≠ 0) (h1 : ¬ ((c :: cs).length : Int) < (utfBegins c.toNat).1) (h2 : takeL ((utfBegins c.toNat).1.toNat - 1) cs (utfBegins c.toNat).2 = some r)
    (hg : utfGood r = true) (hs : utfSize r = (utfBegins c.toNat).1) : utfEnc r = (c :: cs).take (utfBegins c.toNat).1.toNat := by
  have hgn : ¬ utfGood r = false := by rw [hg]; simp
  have hc := UInt8.toNat_lt c
  have split1 : ∀ (q : Nat) (s : Str) (x : Int), takeL (q + 1) s x = some r → ∃ b t, s = b :: t ∧ 128 ≤ b.toNat ∧ b.toNat < 192 ∧ takeL q t (x * 64 + (b.toNat % 64 : Nat)) = some r := by
    intro q s x h
    cases s with
    | nil => simp [takeL] at h
    | cons b t =>
      rw [takeL] at h
      split at h
      · rename_i hb; exact ⟨b, t, rfl, hb.1, hb.2, h⟩
      · cases h
  have last : ∀ (s : Str) (x : Int), takeL 0 s x = some r → r = x := by
    intro s x h
    rw [takeL] at h
    exact (Option.some.inj h).symm
  unfold utfBegins at h0 h1 h2 hs ⊢
  by_cases b1 : c.toNat < 128
  · simp only [if_pos b1] at h0 h1 h2 hs ⊢
    have := last _ _ h2
    subst this
    unfold utfEnc
    rw [if_neg hgn, if_pos (by omega)]
    simp
  · by_cases b2 : c.toNat < 192
    · simp only [if_neg b1, if_pos b2] at h0
      exact absurd rfl h0
    · by_cases b3 : c.toNat < 224
      · simp only [if_neg b1, if_neg b2, if_pos b3] at h0 h1 h2 hs ⊢
        obtain ⟨b, t, rfl, e1, e2, h2⟩ := split1 0 _ _ h2
        have := last _ _ h2
        rw [utfSize_2] at hs
        unfold utfEnc
        rw [if_neg hgn, if_neg (by omega), if_pos (by omega)]
        show _ = [c, b]
        rw [enc_byte (b := c) (by omega), enc_byte (b := b) (by omega)]
      · by_cases b4 : c.toNat < 240
        · simp only [if_neg b1, if_neg b2, if_neg b3, if_pos b4] at h0 h1 h2 hs ⊢
          obtain ⟨b, t, rfl, e1, e2, h2⟩ := split1 1 _ _ h2
          obtain ⟨d, u, rfl, e3, e4, h2⟩ := split1 0 _ _ h2
          have := last _ _ h2
          rw [utfSize_3] at hs
          unfold utfEnc
          rw [if_neg hgn, if_neg (by omega), if_neg (by omega), if_pos (by omega)]
          show _ = [c, b, d]
          rw [enc_byte (b := c) (by omega), enc_byte (b := b) (by omega), enc_byte (b := d) (by omega)]
        · by_cases b5 : c.toNat < 248
          · simp only [if_neg b1, if_neg b2, if_neg b3, if_neg b4, if_pos b5] at h0 h1 h2 hs ⊢
            obtain ⟨b, t, rfl, e1, e2, h2⟩ := split1 2 _ _ h2
            obtain ⟨d, u, rfl, e3, e4, h2⟩ := split1 1 _ _ h2
            obtain ⟨e, v, rfl, e5, e6, h2⟩ := split1 0 _ _ h2
            have := last _ _ h2
            have hg' : 0 ≤ r ∧ r ≤ 1114111 := by unfold utfGood at hg; rw [decide_eq_true_eq] at hg; omega
            have hs' : 65536 ≤ r := by
              unfold utfSize at hs
              split at hs
              · omega
              · split at hs
                · omega
                · split at hs <;> omega
            unfold utfEnc
            rw [if_neg hgn, if_neg (by omega), if_neg (by omega), if_neg (by omega)]
            show _ = [c, b, d, e]
            rw [enc_byte (b := c) (by omega), enc_byte (b := b) (by omega), enc_byte (b := d) (by omega), enc_byte (b := e) (by omega)]
          · simp only [if_neg b1, if_neg b2, if_neg b3, if_neg b4, if_neg b5] at h0
            exact absurd rfl h0
theorem refTake_eq (s : Str) : refTake s = utfTake s := by
  cases s with
  | nil => rfl
  | cons c cs =>
    unfold refTake utfTake
    simp only []
    split
    · rfl
    · rename_i h
      simp only [not_or] at h
      cases ht : takeL ((utfBegins c.toNat).1.toNat - 1) cs (utfBegins c.toNat).2 with
      | none => rfl
      | some r =>
        simp only []
        by_cases hg : utfGood r = true ∧ utfSize r = (utfBegins c.toNat).1
        · rw [if_pos hg, if_pos (enc_take h.1 h.2 ht hg.1 hg.2)]
        · rw [if_neg hg, if_neg]
          intro he
          refine hg ?_
          have hl := utfEnc_length r
          have hn := utfBegins_n c.toNat
          rw [he, List.length_take] at hl
          have hm : ((min (utfBegins c.toNat).1.toNat (c :: cs).length : Nat) : Int) = (utfBegins c.toNat).1 := by omega
          rw [hm] at hl
          split at hl
          · rename_i hg'; exact ⟨hg', hl.symm⟩
          · exact absurd hl h.1
def startsL : Nat → Str → Int → List Int
  | 0, _, at_ => [at_]
  | _ + 1, [], at_ => [at_]
  | q + 1, c :: cs, at_ => at_ :: startsL q ((c :: cs).drop (max (utfTake (c :: cs)).2 1).toNat) (at_ + max (utfTake (c :: cs)).2 1)
end Go.Am
namespace Go.Am
def refValid (s : Str) : Int := if (utfValid s).2 = true then -1 else (utfValid s).1
theorem startsL_len : ∀ (q : Nat) (s : Str) (i : Int), (startsL q s i).length ≤ q + 1
  | 0, _, _ => by simp [startsL]
  | q + 1, [], _ => by simp [startsL]
  | q + 1, c :: cs, i => by
    rw [startsL, List.length_cons]
    have := startsL_len q ((c :: cs).drop (max (utfTake (c :: cs)).2 1).toNat) (i + max (utfTake (c :: cs)).2 1)
    omega
def intP (n : Int) : PV := .int .i64 n
end Go.Am
namespace Go.Am
def strOk (s : Str) : Bool := decide (s.length ≤ 4096) && (utfValid s).2
def stampOk (s : Str) : Bool := decide (1 ≤ s.length ∧ s.length ≤ 64 ∧ ∀ b ∈ s, 32 ≤ b.toNat ∧ b.toNat ≤ 126)
theorem utfScan_nn : ∀ (q : Nat) (s : Str) (i : Int), 0 ≤ i → 0 ≤ (utfScan q s i).1
  | 0, _, _, h => h
  | q + 1, [], _, h => h
  | q + 1, c :: cs, i, h => by
    rw [utfScan]
    split
    · exact h
    · have := utfTake_n (c :: cs)
      exact utfScan_nn q _ _ (by omega)
theorem refValid_neg (s : Str) : decide (refValid s < 0) = (utfValid s).2 := by
  have := utfScan_nn s.length s 0 (by omega)
  unfold refValid
  cases h : (utfValid s).2 with
  | true => simp
  | false =>
    rw [if_neg (by simp)]
    rw [decide_eq_false_iff_not]
    have : 0 ≤ (utfValid s).1 := this
    omega
end Go.Am
end

section
namespace Go.Proofs.YtoinkmogdfjmmaaGreatDoor
open Go Go.Am
set_option maxRecDepth 100000
theorem ref1_Good (r : Int) : AbsCall PP GG F.ref1_Good [.p (.int .i64 r)] [] ⟨.ret (.p (.bool (utfGood r))), [], []⟩ := by
  refine absCall_of (pol := polG) mixP F.ref1_Good_is ?_
  conv => whnf
  repeat' ((first
   | ((with_reducible first | refine Br.dec ?_ ?_ | refine Br.ndec ?_ ?_) <;> intro hb <;> (try simp only [ZZ] at hb) <;> (first | omega | skip))
   | (with_reducible first | refine Br.tt rfl ?_ | refine Br.ff rfl ?_ | refine Br.ff (isEmptyCons _ _) ?_)
   | ((with_reducible first | refine Side.mk ?_ ?_ | refine WrapW.mk ?_ ?_); focus (first | omega | (dsimp only [InR, Int.reduceToNat, IntKind.bits, Int.reducePow]; omega) | (simp [CC]; done) | (constructor <;> omega)))
   | (refine Br.mk ?_ ?_ <;> intro hb <;> (try simp only [ZZ] at hb) <;> (first | omega | skip))
   | refine Src.whole ⟨rfl, rfl⟩ ?_ | refine FrzV.whole ?_) <;> conv => whnf)
  all_goals exact CLe.retP (by simp only [PV.bool.injEq, utfGood]; first | (symm; rw [decide_eq_false_iff_not]; omega) | (symm; rw [decide_eq_true_eq]; omega) | (rw [decide_eq_decide]; omega))
theorem ref1_Put (r : Int) : AbsCall PP GG F.ref1_Put [.p (.int .i64 r)] [] ⟨.ret (.p (.str (utfEnc r))), [], []⟩ := by
  have hgr : utfGood r = true → 0 ≤ r ∧ r ≤ 1114111 := by intro hg; unfold utfGood at hg; rw [decide_eq_true_eq] at hg; omega
  by_cases hg : utfGood r = true
  · obtain ⟨hr0, hr1⟩ := hgr hg
    obtain ⟨n, rfl⟩ := Int.eq_ofNat_of_zero_le hr0
    have by' : ∀ m : Nat, m ≤ 255 → PV.int .u8 (IntKind.u8.wrap (m : Int)) = byteP (UInt8.ofNat m) := by
      intro m hm
      have := byte_of (x := (m : Int)) (by omega) (by omega)
      simpa using this
    have by2 : ∀ a m : Nat, a + m ≤ 255 → PV.int .u8 (IntKind.u8.wrap ((a : Int) + (m : Int))) = byteP (UInt8.ofNat (a + m)) := by
      intro a m hm
      rw [← Int.natCast_add]
      exact by' _ hm
    have dv : ∀ m : Nat, 0 < m → (n : Int).tdiv (m : Int) = ((n / m : Nat) : Int) := fun m hm => by rw [Int.tdiv_eq_ediv_of_nonneg (by omega)]; rfl
    have md : ∀ (a m : Nat), (a : Int).tmod (m : Int) = ((a % m : Nat) : Int) := fun a m => by rw [Int.tmod_eq_emod_of_nonneg (by omega)]; rfl
    have d1 := dv 64 (by omega)
    have d2 := dv 4096 (by omega)
    have d3 := dv 262144 (by omega)
    have m1 := md n 64
    have m2 := md (n / 64) 64
    have m3 := md (n / 4096) 64
    rw [show ((64 : Nat) : Int) = 64 from rfl] at d1 m1 m2 m3
    rw [show ((4096 : Nat) : Int) = 4096 from rfl] at d2
    rw [show ((262144 : Nat) : Int) = 262144 from rfl] at d3
    have hng : ¬ utfGood (n : Int) = false := by rw [hg]; simp
    have e1 : (n : Int) < 128 → [PV.int .u8 (IntKind.u8.wrap (n : Int))] = (utfEnc (n : Int)).map byteP := by
      intro h
      unfold utfEnc
      rw [if_neg hng, if_pos h, Int.toNat_natCast, by' n (by omega)]; rfl
    have e2 : ¬ (n : Int) < 128 → (n : Int) < 2048 → [PV.int .u8 (IntKind.u8.wrap (192 + (n : Int).tdiv 64)), PV.int .u8 (IntKind.u8.wrap (128 + (n : Int).tmod 64))] = (utfEnc (n : Int)).map byteP := by
      intro h h2
      unfold utfEnc
      rw [if_neg hng, if_neg h, if_pos h2, Int.toNat_natCast, d1, m1]
      have a1 : PV.int .u8 (IntKind.u8.wrap (192 + ((n / 64 : Nat) : Int))) = byteP (UInt8.ofNat (192 + n / 64)) := by2 192 (n / 64) (by omega)
      have a2 : PV.int .u8 (IntKind.u8.wrap (128 + ((n % 64 : Nat) : Int))) = byteP (UInt8.ofNat (128 + n % 64)) := by2 128 (n % 64) (by omega)
      rw [a1, a2]; rfl
    have e3 : ¬ (n : Int) < 2048 → (n : Int) < 65536 → [PV.int .u8 (IntKind.u8.wrap (224 + (n : Int).tdiv 4096)), PV.int .u8 (IntKind.u8.wrap (128 + ((n : Int).tdiv 64).tmod 64)), PV.int .u8 (IntKind.u8.wrap (128 + (n : Int).tmod 64))] = (utfEnc (n : Int)).map byteP := by
      intro h h2
      unfold utfEnc
      rw [if_neg hng, if_neg (by omega), if_neg h, if_pos h2, Int.toNat_natCast, d1, d2, m1, m2]
      have a1 : PV.int .u8 (IntKind.u8.wrap (224 + ((n / 4096 : Nat) : Int))) = byteP (UInt8.ofNat (224 + n / 4096)) := by2 224 (n / 4096) (by omega)
      have a2 : PV.int .u8 (IntKind.u8.wrap (128 + ((n / 64 % 64 : Nat) : Int))) = byteP (UInt8.ofNat (128 + n / 64 % 64)) := by2 128 (n / 64 % 64) (by omega)
      have a3 : PV.int .u8 (IntKind.u8.wrap (128 + ((n % 64 : Nat) : Int))) = byteP (UInt8.ofNat (128 + n % 64)) := by2 128 (n % 64) (by omega)
      rw [a1, a2, a3]; rfl
    have e4 : ¬ (n : Int) < 65536 → [PV.int .u8 (IntKind.u8.wrap (240 + (n : Int).tdiv 262144)), PV.int .u8 (IntKind.u8.wrap (128 + ((n : Int).tdiv 4096).tmod 64)), PV.int .u8 (IntKind.u8.wrap (128 + ((n : Int).tdiv 64).tmod 64)), PV.int .u8 (IntKind.u8.wrap (128 + (n : Int).tmod 64))] = (utfEnc (n : Int)).map byteP := by
      intro h
      unfold utfEnc
      rw [if_neg hng, if_neg (by omega), if_neg (by omega), if_neg h, Int.toNat_natCast, d1, d2, d3, m1, m2, m3]
      have a1 : PV.int .u8 (IntKind.u8.wrap (240 + ((n / 262144 : Nat) : Int))) = byteP (UInt8.ofNat (240 + n / 262144)) := by2 240 (n / 262144) (by omega)
      have a2 : PV.int .u8 (IntKind.u8.wrap (128 + ((n / 4096 % 64 : Nat) : Int))) = byteP (UInt8.ofNat (128 + n / 4096 % 64)) := by2 128 (n / 4096 % 64) (by omega)
      have a3 : PV.int .u8 (IntKind.u8.wrap (128 + ((n / 64 % 64 : Nat) : Int))) = byteP (UInt8.ofNat (128 + n / 64 % 64)) := by2 128 (n / 64 % 64) (by omega)
      have a4 : PV.int .u8 (IntKind.u8.wrap (128 + ((n % 64 : Nat) : Int))) = byteP (UInt8.ofNat (128 + n % 64)) := by2 128 (n % 64) (by omega)
      rw [a1, a2, a3, a4]; rfl
    have hsp := ref1_Good (n : Int)
    rw [hg] at hsp
    refine absCall_of (pol := polG) mixP F.ref1_Put_is ?_
    conv => whnf
    repeat' ((first
     | ((with_reducible first | refine Br.dec ?_ ?_ | refine Br.ndec ?_ ?_) <;> intro hb <;> (try simp only [ZZ] at hb) <;> (first | omega | skip))
     | (with_reducible first | refine Br.tt rfl ?_ | refine Br.ff rfl ?_ | refine Br.ff (isEmptyCons _ _) ?_)
     | ((with_reducible first | refine Side.mk ?_ ?_ | refine WrapW.mk ?_ ?_); focus (first | omega | (dsimp only [InR, Int.reduceToNat, IntKind.bits, Int.reducePow]; omega) | (simp only [d1, d2, d3, m1, m2, m3, InR]; omega) | (simp only [d1, d2, d3, m1, m2, m3]; decide) | (refine ⟨by decide, ?_⟩; simp only [d1, d2, d3, InR]; omega) | (simp [CC]; done) | (constructor <;> omega)))
     | (refine Br.mk ?_ ?_ <;> intro hb <;> (try simp only [ZZ] at hb) <;> (first | omega | skip))
     | refine Src.whole ⟨rfl, rfl⟩ ?_ | refine FrzV.whole ?_
     | refine CallW.use (hsp) ?_
     | (refine Bytes.mk' (s := utfEnc (n : Int)) (e1 (by omega)) ?_)
     | (refine Bytes.mk' (s := utfEnc (n : Int)) (e2 (by omega) (by omega)) ?_)
     | (refine Bytes.mk' (s := utfEnc (n : Int)) (e3 (by omega) (by omega)) ?_)
     | (refine Bytes.mk' (s := utfEnc (n : Int)) (e4 (by omega)) ?_)) <;> conv => whnf)
    all_goals exact CLe.eq rfl
  · have hg' : utfGood r = false := by simpa using hg
    have hsp := ref1_Good r
    rw [hg'] at hsp
    refine absCall_of (pol := polG) mixP F.ref1_Put_is ?_
    conv => whnf
    repeat' ((first
     | ((with_reducible first | refine Br.dec ?_ ?_ | refine Br.ndec ?_ ?_) <;> intro hb <;> (try simp only [ZZ] at hb) <;> (first | omega | skip))
     | (with_reducible first | refine Br.tt rfl ?_ | refine Br.ff rfl ?_ | refine Br.ff (isEmptyCons _ _) ?_)
     | ((with_reducible first | refine Side.mk ?_ ?_ | refine WrapW.mk ?_ ?_); focus (first | omega | (dsimp only [InR, Int.reduceToNat, IntKind.bits, Int.reducePow]; omega) | (simp [CC]; done) | (constructor <;> omega)))
     | (refine Br.mk ?_ ?_ <;> intro hb <;> (try simp only [ZZ] at hb) <;> (first | omega | skip))
     | refine Src.whole ⟨rfl, rfl⟩ ?_ | refine FrzV.whole ?_
     | refine CallW.use (hsp) ?_) <;> conv => whnf)
    exact CLe.retP (by unfold utfEnc; rw [if_pos hg'])
theorem refTake_loop (s : Str) (n : Nat) (hn : n ≤ 4) (hns : n ≤ s.length) (R : Option Int) (K : Post)
    (h0 : ∀ r, R = some r → 0 ≤ r → K (.exit 1) [(0, .p (.str s)), (5, .p (.int .i64 n)), (6, .p (.int .i64 r))] [] [])
    (hr : R = none → K .ret [(2, .p (.int .i64 0)), (3, .p (.int .i64 0))] [] []) :
    ∀ (q i : Nat) (r : Int), i + q = n → 1 ≤ i → 0 ≤ r → r < takeU q → takeL q (s.drop i) r = R →
      LoopW PP GG 79 0 (loopN F.ref1_Take_c 0) [(0, .p (.str s)), (5, .p (.int .i64 n)), (6, .p (.int .i64 r)), (7, .p (.int .i64 i))] [] [] (PostCl 79 K) := by
  intro q
  induction q with
  | zero =>
    intro i r hi h1 hr0 hr1 hR
    rw [takeL] at hR
    refine LoopW.round (pol := polG) mixP ?_
    conv => whnf
    repeat' ((first
     | ((with_reducible first | refine Br.dec ?_ ?_ | refine Br.ndec ?_ ?_) <;> intro hb <;> (try simp only [ZZ] at hb) <;> (first | omega | skip))
     | (with_reducible first | refine Br.tt rfl ?_ | refine Br.ff rfl ?_ | refine Br.ff (isEmptyCons _ _) ?_)
     | ((with_reducible first | refine Side.mk ?_ ?_ | refine WrapW.mk ?_ ?_); focus (first | omega | (dsimp only [InR, Int.reduceToNat, IntKind.bits, Int.reducePow]; omega) | (simp [CC]; done) | (constructor <;> omega)))
     | (refine Br.mk ?_ ?_ <;> intro hb <;> (try simp only [ZZ] at hb) <;> (first | omega | skip))
     | refine Src.whole ⟨rfl, rfl⟩ ?_ | refine FrzV.whole ?_) <;> conv => whnf)
    · refine PostCl.of (h0 r hR.symm hr0) ?_ ?_
      · repeat first | exact trivial | refine ⟨VLe.refl _, ?_⟩
      · repeat first | exact trivial | refine ⟨by decide, ?_⟩
  | succ q ih =>
    intro i r hi h1 hr0 hr1 hR
    obtain ⟨b, hb⟩ : ∃ b, s[i]? = some b := ⟨_, List.getElem?_eq_getElem (show i < s.length by omega)⟩
    rw [drop_cons hb, takeL] at hR
    have hbl := UInt8.toNat_lt b
    have hst := takeU_step (q := q) (by omega) hr1 (x := (b.toNat % 64 : Nat)) (by omega)
    have hg : s.getD (Int.toNat ↑i) 0 = b := getD_of (by simpa using hb)
    refine LoopW.round (pol := polG) mixP ?_
    conv => whnf
    repeat' ((first
     | ((with_reducible first | refine Br.dec ?_ ?_ | refine Br.ndec ?_ ?_) <;> intro hb <;> (try simp only [ZZ] at hb) <;> (first | omega | skip))
     | (with_reducible first | refine Br.tt rfl ?_ | refine Br.ff rfl ?_ | refine Br.ff (isEmptyCons _ _) ?_)
     | ((with_reducible first | refine Side.mk ?_ ?_ | refine WrapW.mk ?_ ?_); focus (first | omega | (dsimp only [InR, Int.reduceToNat, IntKind.bits, Int.reducePow]; omega) | (simp only [hg, InR]; omega) | (simp [CC]; done) | (constructor <;> omega)))
     | (refine Br.mk ?_ ?_ <;> intro hb <;> (try simp only [ZZ] at hb) <;> (first | omega | skip))
     | refine Src.whole ⟨rfl, rfl⟩ ?_ | refine FrzV.whole ?_) <;> conv => whnf)
    · rw [hg] at hb
      rw [if_neg (by omega)] at hR
      refine PostCl.of (hr hR.symm) ?_ ?_
      · repeat first | exact trivial | refine ⟨VLe.refl _, ?_⟩
      · repeat first | exact trivial | refine ⟨by decide, ?_⟩
    · rename_i h1
      rw [hg] at hb h1
      rw [if_neg (by omega)] at hR
      refine PostCl.of (hr hR.symm) ?_ ?_
      · repeat first | exact trivial | refine ⟨VLe.refl _, ?_⟩
      · repeat first | exact trivial | refine ⟨by decide, ?_⟩
    · rename_i h1
      rw [hg] at hb h1 ⊢
      rw [if_pos (by omega)] at hR
      have e : 64 * r + (b.toNat : Int) - 128 = r * 64 + (b.toNat % 64 : Nat) := by omega
      rw [e]
      refine LoopW.sub (ih (i + 1) _ (by omega) (by omega) (by omega) hst.1 hR) (by repeat first | exact trivial | refine ⟨VLe.refl _, ?_⟩) (by repeat first | exact trivial | refine ⟨by decide, ?_⟩)
theorem ref1_Take (s : Str) (hs : s.length ≤ 1073741824) : AbsCall PP GG F.ref1_Take [.p (.str s)] [] ⟨.ret (.tup [.p (.int .i64 (utfTake s).1), .p (.int .i64 (utfTake s).2)]), [], []⟩ := by
  rw [← refTake_eq]
  cases s with
  | nil =>
    refine absCall_of (pol := polG) mixP F.ref1_Take_is ?_
    conv => whnf
    repeat' ((first
     | ((with_reducible first | refine Br.dec ?_ ?_ | refine Br.ndec ?_ ?_) <;> intro hb <;> (try simp only [ZZ] at hb) <;> (first | omega | skip))
     | (with_reducible first | refine Br.tt rfl ?_ | refine Br.ff rfl ?_ | refine Br.ff (isEmptyCons _ _) ?_)
     | ((with_reducible first | refine Side.mk ?_ ?_ | refine WrapW.mk ?_ ?_); focus (first | omega | (dsimp only [InR, Int.reduceToNat, IntKind.bits, Int.reducePow]; omega) | (simp [CC]; done) | (constructor <;> omega)))
     | (refine Br.mk ?_ ?_ <;> intro hb <;> (try simp only [ZZ] at hb) <;> (first | omega | skip))
     | refine Src.whole ⟨rfl, rfl⟩ ?_ | refine FrzV.whole ?_) <;> conv => whnf)
    exact CLe.eq rfl
  | cons c cs =>
    have hc : c.toNat < 256 := UInt8.toNat_lt c
    have hg0 : (c :: cs).getD (Int.toNat 0) 0 = c := rfl
    have hl : (c :: cs).length = cs.length + 1 := rfl
    have h0 : (utfBegins c.toNat).1 = 0 ∨ ((c :: cs).length : Int) < (utfBegins c.toNat).1 → refTake (c :: cs) = (0, 0) := fun h => by unfold refTake; simp only []; rw [if_pos h]
    have hT0 : ¬ ((utfBegins c.toNat).1 = 0 ∨ ((c :: cs).length : Int) < (utfBegins c.toNat).1) → refTake (c :: cs) = _ := fun h => by unfold refTake; simp only []; rw [if_neg h]
    refine absCall_of (pol := polG) mixP F.ref1_Take_is ?_
    conv => whnf
    repeat' ((first
     | ((with_reducible first | refine Br.dec ?_ ?_ | refine Br.ndec ?_ ?_) <;> intro hb <;> (try simp only [And.intro @hg0 (ZZ)] at hb) <;> (first | omega | skip))
     | (with_reducible first | refine Br.tt rfl ?_ | refine Br.ff rfl ?_ | refine Br.ff (isEmptyCons _ _) ?_)
     | ((with_reducible first | refine Side.mk ?_ ?_ | refine WrapW.mk ?_ ?_); focus (first | omega | (dsimp only [InR, Int.reduceToNat, IntKind.bits, Int.reducePow]; omega) | (simp only [hg0, InR]; omega) | (simp only [List.length_cons]; omega) | (simp [CC]; done) | (constructor <;> omega)))
     | (refine Br.mk ?_ ?_ <;> intro hb <;> (try simp only [And.intro @hg0 (ZZ)] at hb) <;> (first | omega | skip))
     | refine Src.whole ⟨rfl, rfl⟩ ?_ | refine FrzV.whole ?_) <;> conv => whnf)
    · exact CLe.eq (by rw [h0 (by unfold utfBegins; (repeat' split) <;> first | omega | exact Or.inl rfl | (simp only []; omega))])
    · have hB : utfBegins c.toNat = (4, ((((c :: cs).getD (Int.toNat 0) 0).toNat : Int) - 240)) := by unfold utfBegins; rw [hg0]; (repeat' split) <;> first | omega | rfl | (congr 1; omega)
      have hr0 := utfBegins_r c.toNat
      have hT := hT0 (by rw [hB]; simp only []; omega)
      rw [hB] at hr0 hT
      simp only [] at hr0 hT
      refine LoopW.cl ?_
      refine LoopW.sub (refTake_loop (c :: cs) 4 (by omega) (by omega) (takeL 3 cs ((((c :: cs).getD (Int.toNat 0) 0).toNat : Int) - 240)) _ (fun r' hr' hp' => ?_) (fun hr' => ?_) 3 1 ((((c :: cs).getD (Int.toNat 0) 0).toNat : Int) - 240) (by omega) (by omega) (by omega) (by have := takeU_pos 3 (by omega); omega) rfl) (by repeat first | exact trivial | refine ⟨VLe.refl _, ?_⟩) (by repeat first | exact trivial | refine ⟨by decide, ?_⟩)
      · conv => whnf
        have hT : refTake (c :: cs) = if utfEnc r' = List.take 4 (c :: cs) then (r', 4) else (0, 0) := by rw [hT, show takeL (Int.toNat 4 - 1) cs ((((c :: cs).getD (Int.toNat 0) 0).toNat : Int) - 240) = some r' from hr']; rfl
        repeat' ((first
         | ((with_reducible first | refine Br.dec ?_ ?_ | refine Br.ndec ?_ ?_) <;> intro hb <;> (try simp only [ZZ] at hb) <;> (first | omega | skip))
         | (with_reducible first | refine Br.tt rfl ?_ | refine Br.ff rfl ?_ | refine Br.ff (isEmptyCons _ _) ?_)
         | ((with_reducible first | refine Side.mk ?_ ?_ | refine WrapW.mk ?_ ?_); focus (first | omega | (dsimp only [InR, Int.reduceToNat, IntKind.bits, Int.reducePow]; omega) | (simp [CC]; done) | (constructor <;> omega)))
         | (refine Br.mk ?_ ?_ <;> intro hb <;> (try simp only [ZZ] at hb) <;> (first | omega | skip))
         | refine Src.whole ⟨rfl, rfl⟩ ?_ | refine FrzV.whole ?_
         | refine CallW.use (ref1_Put _) ?_) <;> conv => whnf)
        · exact CLe.eq (by rw [hT, if_neg (show ¬ utfEnc r' = List.take 4 (c :: cs) from hb)])
        · exact CLe.eq (by rw [hT, if_pos (show utfEnc r' = List.take 4 (c :: cs) from hb)]; rfl)
      · conv => whnf
        exact CLe.eq (by rw [hT, show takeL (Int.toNat 4 - 1) cs ((((c :: cs).getD (Int.toNat 0) 0).toNat : Int) - 240) = none from hr'])
    · exact CLe.eq (by rw [h0 (by unfold utfBegins; (repeat' split) <;> first | omega | exact Or.inl rfl | (simp only []; omega))])
    · exact CLe.eq (by rw [h0 (by unfold utfBegins; (repeat' split) <;> first | omega | exact Or.inl rfl | (simp only []; omega))])
    · have hB : utfBegins c.toNat = (3, ((((c :: cs).getD (Int.toNat 0) 0).toNat : Int) - 224)) := by unfold utfBegins; rw [hg0]; (repeat' split) <;> first | omega | rfl | (congr 1; omega)
      have hr0 := utfBegins_r c.toNat
      have hT := hT0 (by rw [hB]; simp only []; omega)
      rw [hB] at hr0 hT
      simp only [] at hr0 hT
      refine LoopW.cl ?_
      refine LoopW.sub (refTake_loop (c :: cs) 3 (by omega) (by omega) (takeL 2 cs ((((c :: cs).getD (Int.toNat 0) 0).toNat : Int) - 224)) _ (fun r' hr' hp' => ?_) (fun hr' => ?_) 2 1 ((((c :: cs).getD (Int.toNat 0) 0).toNat : Int) - 224) (by omega) (by omega) (by omega) (by have := takeU_pos 2 (by omega); omega) rfl) (by repeat first | exact trivial | refine ⟨VLe.refl _, ?_⟩) (by repeat first | exact trivial | refine ⟨by decide, ?_⟩)
      · conv => whnf
        have hT : refTake (c :: cs) = if utfEnc r' = List.take 3 (c :: cs) then (r', 3) else (0, 0) := by rw [hT, show takeL (Int.toNat 3 - 1) cs ((((c :: cs).getD (Int.toNat 0) 0).toNat : Int) - 224) = some r' from hr']; rfl
        repeat' ((first
         | ((with_reducible first | refine Br.dec ?_ ?_ | refine Br.ndec ?_ ?_) <;> intro hb <;> (try simp only [ZZ] at hb) <;> (first | omega | skip))
         | (with_reducible first | refine Br.tt rfl ?_ | refine Br.ff rfl ?_ | refine Br.ff (isEmptyCons _ _) ?_)
         | ((with_reducible first | refine Side.mk ?_ ?_ | refine WrapW.mk ?_ ?_); focus (first | omega | (dsimp only [InR, Int.reduceToNat, IntKind.bits, Int.reducePow]; omega) | (simp [CC]; done) | (constructor <;> omega)))
         | (refine Br.mk ?_ ?_ <;> intro hb <;> (try simp only [ZZ] at hb) <;> (first | omega | skip))
         | refine Src.whole ⟨rfl, rfl⟩ ?_ | refine FrzV.whole ?_
         | refine CallW.use (ref1_Put _) ?_) <;> conv => whnf)
        · exact CLe.eq (by rw [hT, if_neg (show ¬ utfEnc r' = List.take 3 (c :: cs) from hb)])
        · exact CLe.eq (by rw [hT, if_pos (show utfEnc r' = List.take 3 (c :: cs) from hb)]; rfl)
      · conv => whnf
        exact CLe.eq (by rw [hT, show takeL (Int.toNat 3 - 1) cs ((((c :: cs).getD (Int.toNat 0) 0).toNat : Int) - 224) = none from hr'])
    · exact CLe.eq (by rw [h0 (by unfold utfBegins; (repeat' split) <;> first | omega | exact Or.inl rfl | (simp only []; omega))])
    · have hB : utfBegins c.toNat = (2, ((((c :: cs).getD (Int.toNat 0) 0).toNat : Int) - 192)) := by unfold utfBegins; rw [hg0]; (repeat' split) <;> first | omega | rfl | (congr 1; omega)
      have hr0 := utfBegins_r c.toNat
      have hT := hT0 (by rw [hB]; simp only []; omega)
      rw [hB] at hr0 hT
      simp only [] at hr0 hT
      refine LoopW.cl ?_
      refine LoopW.sub (refTake_loop (c :: cs) 2 (by omega) (by omega) (takeL 1 cs ((((c :: cs).getD (Int.toNat 0) 0).toNat : Int) - 192)) _ (fun r' hr' hp' => ?_) (fun hr' => ?_) 1 1 ((((c :: cs).getD (Int.toNat 0) 0).toNat : Int) - 192) (by omega) (by omega) (by omega) (by have := takeU_pos 1 (by omega); omega) rfl) (by repeat first | exact trivial | refine ⟨VLe.refl _, ?_⟩) (by repeat first | exact trivial | refine ⟨by decide, ?_⟩)
      · conv => whnf
        have hT : refTake (c :: cs) = if utfEnc r' = List.take 2 (c :: cs) then (r', 2) else (0, 0) := by rw [hT, show takeL (Int.toNat 2 - 1) cs ((((c :: cs).getD (Int.toNat 0) 0).toNat : Int) - 192) = some r' from hr']; rfl
        repeat' ((first
         | ((with_reducible first | refine Br.dec ?_ ?_ | refine Br.ndec ?_ ?_) <;> intro hb <;> (try simp only [ZZ] at hb) <;> (first | omega | skip))
         | (with_reducible first | refine Br.tt rfl ?_ | refine Br.ff rfl ?_ | refine Br.ff (isEmptyCons _ _) ?_)
         | ((with_reducible first | refine Side.mk ?_ ?_ | refine WrapW.mk ?_ ?_); focus (first | omega | (dsimp only [InR, Int.reduceToNat, IntKind.bits, Int.reducePow]; omega) | (simp [CC]; done) | (constructor <;> omega)))
         | (refine Br.mk ?_ ?_ <;> intro hb <;> (try simp only [ZZ] at hb) <;> (first | omega | skip))
         | refine Src.whole ⟨rfl, rfl⟩ ?_ | refine FrzV.whole ?_
         | refine CallW.use (ref1_Put _) ?_) <;> conv => whnf)
        · exact CLe.eq (by rw [hT, if_neg (show ¬ utfEnc r' = List.take 2 (c :: cs) from hb)])
        · exact CLe.eq (by rw [hT, if_pos (show utfEnc r' = List.take 2 (c :: cs) from hb)]; rfl)
      · conv => whnf
        exact CLe.eq (by rw [hT, show takeL (Int.toNat 2 - 1) cs ((((c :: cs).getD (Int.toNat 0) 0).toNat : Int) - 192) = none from hr'])
    · exact CLe.eq (by rw [h0 (by unfold utfBegins; (repeat' split) <;> first | omega | exact Or.inl rfl | (simp only []; omega))])
    · have hB : utfBegins c.toNat = (1, (((c :: cs).getD (Int.toNat 0) 0).toNat : Int)) := by unfold utfBegins; rw [hg0]; (repeat' split) <;> first | omega | rfl | (congr 1; omega)
      have hr0 := utfBegins_r c.toNat
      have hT := hT0 (by rw [hB]; simp only []; omega)
      rw [hB] at hr0 hT
      simp only [] at hr0 hT
      refine LoopW.cl ?_
      refine LoopW.sub (refTake_loop (c :: cs) 1 (by omega) (by omega) (takeL 0 cs (((c :: cs).getD (Int.toNat 0) 0).toNat : Int)) _ (fun r' hr' hp' => ?_) (fun hr' => ?_) 0 1 (((c :: cs).getD (Int.toNat 0) 0).toNat : Int) (by omega) (by omega) (by omega) (by have := takeU_pos 0 (by omega); omega) rfl) (by repeat first | exact trivial | refine ⟨VLe.refl _, ?_⟩) (by repeat first | exact trivial | refine ⟨by decide, ?_⟩)
      · conv => whnf
        have hT : refTake (c :: cs) = if utfEnc r' = List.take 1 (c :: cs) then (r', 1) else (0, 0) := by rw [hT, show takeL (Int.toNat 1 - 1) cs (((c :: cs).getD (Int.toNat 0) 0).toNat : Int) = some r' from hr']; rfl
        repeat' ((first
         | ((with_reducible first | refine Br.dec ?_ ?_ | refine Br.ndec ?_ ?_) <;> intro hb <;> (try simp only [ZZ] at hb) <;> (first | omega | skip))
         | (with_reducible first | refine Br.tt rfl ?_ | refine Br.ff rfl ?_ | refine Br.ff (isEmptyCons _ _) ?_)
         | ((with_reducible first | refine Side.mk ?_ ?_ | refine WrapW.mk ?_ ?_); focus (first | omega | (dsimp only [InR, Int.reduceToNat, IntKind.bits, Int.reducePow]; omega) | (simp [CC]; done) | (constructor <;> omega)))
         | (refine Br.mk ?_ ?_ <;> intro hb <;> (try simp only [ZZ] at hb) <;> (first | omega | skip))
         | refine Src.whole ⟨rfl, rfl⟩ ?_ | refine FrzV.whole ?_
         | refine CallW.use (ref1_Put _) ?_) <;> conv => whnf)
        · exact CLe.eq (by rw [hT, if_neg (show ¬ utfEnc r' = List.take 1 (c :: cs) from hb)])
        · exact CLe.eq (by rw [hT, if_pos (show utfEnc r' = List.take 1 (c :: cs) from hb)]; rfl)
      · conv => whnf
        exact CLe.eq (by rw [hT, show takeL (Int.toNat 1 - 1) cs (((c :: cs).getD (Int.toNat 0) 0).toNat : Int) = none from hr'])
theorem refValid_loop (s : Str) (hs : s.length ≤ 1073741824) (R : Int × Bool) (K : Post)
    (h0 : R = ((s.length : Int), true) → K (.exit 0) [(0, .p (.str s))] [] [])
    (hr : R.2 = false → K .ret [(2, .p (.int .i64 R.1))] [] []) :
    ∀ (q i : Nat), s.length ≤ i + q → i ≤ s.length → utfScan q (s.drop i) i = R →
      LoopW PP GG 23 0 (loopN F.ref1_Valid_c 0) [(0, .p (.str s)), (3, .p (.int .i64 i))] [] [] (PostCl 23 K) := by
  intro q
  induction q with
  | zero =>
    intro i hi hil hR
    rw [utfScan] at hR
    subst hR
    refine LoopW.round (pol := polG) mixP ?_
    conv => whnf
    repeat' ((first
     | ((with_reducible first | refine Br.dec ?_ ?_ | refine Br.ndec ?_ ?_) <;> intro hb <;> (try simp only [ZZ] at hb) <;> (first | omega | skip))
     | (with_reducible first | refine Br.tt rfl ?_ | refine Br.ff rfl ?_ | refine Br.ff (isEmptyCons _ _) ?_)
     | ((with_reducible first | refine Side.mk ?_ ?_ | refine WrapW.mk ?_ ?_); focus (first | omega | (dsimp only [InR, Int.reduceToNat, IntKind.bits, Int.reducePow]; omega) | (simp [CC]; done) | (constructor <;> omega)))
     | (refine Br.mk ?_ ?_ <;> intro hb <;> (try simp only [ZZ] at hb) <;> (first | omega | skip))
     | refine Src.whole ⟨rfl, rfl⟩ ?_ | refine FrzV.whole ?_) <;> conv => whnf)
    · refine PostCl.of (h0 (by congr 1; omega)) ?_ ?_
      · repeat first | exact trivial | refine ⟨VLe.refl _, ?_⟩
      · repeat first | exact trivial | refine ⟨by decide, ?_⟩
  | succ q ih =>
    intro i hi hil hR
    have hT := utfTake_n (s.drop i)
    have hd : (s.drop i).length ≤ 1073741824 := by simp only [List.length_drop]; omega
    have hdl : (s.drop i).length = s.length - i := List.length_drop
    cases hsd : s.drop i with
    | nil =>
      have : (s.drop i).length = 0 := by rw [hsd]; rfl
      rw [hsd, utfScan] at hR
      subst hR
      refine LoopW.round (pol := polG) mixP ?_
      conv => whnf
      repeat' ((first
       | ((with_reducible first | refine Br.dec ?_ ?_ | refine Br.ndec ?_ ?_) <;> intro hb <;> (try simp only [ZZ] at hb) <;> (first | omega | skip))
       | (with_reducible first | refine Br.tt rfl ?_ | refine Br.ff rfl ?_ | refine Br.ff (isEmptyCons _ _) ?_)
       | ((with_reducible first | refine Side.mk ?_ ?_ | refine WrapW.mk ?_ ?_); focus (first | omega | (dsimp only [InR, Int.reduceToNat, IntKind.bits, Int.reducePow]; omega) | (simp [CC]; done) | (constructor <;> omega)))
       | (refine Br.mk ?_ ?_ <;> intro hb <;> (try simp only [ZZ] at hb) <;> (first | omega | skip))
       | refine Src.whole ⟨rfl, rfl⟩ ?_ | refine FrzV.whole ?_) <;> conv => whnf)
      · refine PostCl.of (h0 (by congr 1; omega)) ?_ ?_
        · repeat first | exact trivial | refine ⟨VLe.refl _, ?_⟩
        · repeat first | exact trivial | refine ⟨by decide, ?_⟩
    | cons c cs =>
      have hlt : i < s.length := by have : (s.drop i).length = cs.length + 1 := by rw [hsd]; rfl
                                    omega
      rw [hsd, utfScan, ← hsd] at hR
      refine LoopW.round (pol := polG) mixP ?_
      conv => whnf
      repeat' ((first
       | ((with_reducible first | refine Br.dec ?_ ?_ | refine Br.ndec ?_ ?_) <;> intro hb <;> (try simp only [ZZ] at hb) <;> (first | omega | skip))
       | (with_reducible first | refine Br.tt rfl ?_ | refine Br.ff rfl ?_ | refine Br.ff (isEmptyCons _ _) ?_)
       | ((with_reducible first | refine Side.mk ?_ ?_ | refine WrapW.mk ?_ ?_); focus (first | omega | (dsimp only [InR, Int.reduceToNat, IntKind.bits, Int.reducePow]; omega) | (simp [CC]; done) | (constructor <;> omega)))
       | (refine Br.mk ?_ ?_ <;> intro hb <;> (try simp only [ZZ] at hb) <;> (first | omega | skip))
       | refine Src.whole ⟨rfl, rfl⟩ ?_ | refine FrzV.whole ?_
       | refine CallW.use (ref1_Take (s.drop i) hd) ?_) <;> conv => whnf)
      · rw [if_pos hb] at hR
        subst hR
        refine PostCl.of (hr rfl) ?_ ?_
        · repeat first | exact trivial | refine ⟨VLe.refl _, ?_⟩
        · repeat first | exact trivial | refine ⟨by decide, ?_⟩
      · rw [if_neg hb, List.drop_drop] at hR
        obtain ⟨m, hm⟩ : ∃ m : Nat, (utfTake (s.drop i)).2 = m := ⟨(utfTake (s.drop i)).2.toNat, by omega⟩
        rw [hm] at hR ⊢
        refine LoopW.sub (ih (i + m) (by omega) (by omega) (by rw [← hR]; congr 1)) (by repeat first | exact trivial | refine ⟨VLe.refl _, ?_⟩) (by repeat first | exact trivial | refine ⟨by decide, ?_⟩)
theorem ref1_Valid (s : Str) (hs : s.length ≤ 1073741824) : AbsCall PP GG F.ref1_Valid [.p (.str s)] [] ⟨.ret (.p (.int .i64 (refValid s))), [], []⟩ := by
  refine absCall_of (pol := polG) mixP F.ref1_Valid_is ?_
  conv => whnf
  refine LoopW.cl ?_
  refine LoopW.sub (refValid_loop s hs (utfValid s) _ (fun h => ?_) (fun h => ?_) s.length 0 (by omega) (by omega) rfl) (by repeat first | exact trivial | refine ⟨VLe.refl _, ?_⟩) (by repeat first | exact trivial | refine ⟨by decide, ?_⟩)
  · conv => whnf
    exact CLe.eq (by unfold refValid; rw [h]; rfl)
  · conv => whnf
    exact CLe.eq (by unfold refValid; rw [if_neg (by rw [h]; simp)])
theorem starts_loop (s : Str) (hs : s.length ≤ 65536) (K : Post)
    (h0 : ∀ l : List Int, l ++ [(s.length : Int)] = startsL s.length s 0 → K (.exit 0) [(0, .p (.str s)), (3, .sl 0 0 (l.map intP).length)] [.arr T.int 1 (l.map intP)] []) :
    ∀ (q i : Nat) (l : List Int), s.length ≤ i + q → i ≤ s.length → l.length ≤ i → l ++ startsL q (s.drop i) i = startsL s.length s 0 →
      LoopW PP GG 32 0 (loopN F.ref1_Starts_c 0) [(0, .p (.str s)), (3, .sl 0 0 (l.map intP).length), (4, .p (.int .i64 i))] [.arr T.int 1 (l.map intP)] [] (PostCl 32 K) := by
  intro q
  induction q with
  | zero =>
    intro i l hi hil hli hR
    rw [startsL] at hR
    refine LoopW.round (pol := polG) mixP ?_
    conv => whnf
    repeat' ((first
     | ((with_reducible first | refine Br.dec ?_ ?_ | refine Br.ndec ?_ ?_) <;> intro hb <;> (try simp only [ZZ] at hb) <;> (first | omega | skip))
     | (with_reducible first | refine Br.tt rfl ?_ | refine Br.ff rfl ?_ | refine Br.ff (isEmptyCons _ _) ?_)
     | ((with_reducible first | refine Side.mk ?_ ?_ | refine WrapW.mk ?_ ?_); focus (first | omega | (dsimp only [InR, Int.reduceToNat, IntKind.bits, Int.reducePow]; omega) | (simp [CC]; done) | (constructor <;> omega)))
     | (refine Br.mk ?_ ?_ <;> intro hb <;> (try simp only [ZZ] at hb) <;> (first | omega | skip))
     | refine Src.whole ⟨rfl, rfl⟩ ?_ | refine FrzV.whole ?_) <;> conv => whnf)
    · refine PostCl.of (h0 l (by rw [← hR]; congr 2; omega)) ?_ ?_
      · repeat first | exact trivial | refine ⟨VLe.refl _, ?_⟩
      · repeat first | exact trivial | refine ⟨by decide, ?_⟩
  | succ q ih =>
    intro i l hi hil hli hR
    have hT := utfTake_n (s.drop i)
    have hd : (s.drop i).length ≤ 1073741824 := by simp only [List.length_drop]; omega
    have hdl : (s.drop i).length = s.length - i := List.length_drop
    have hlen : (l.map intP).length = l.length := by simp
    cases hsd : s.drop i with
    | nil =>
      have : (s.drop i).length = 0 := by rw [hsd]; rfl
      rw [hsd, startsL] at hR
      refine LoopW.round (pol := polG) mixP ?_
      conv => whnf
      repeat' ((first
       | ((with_reducible first | refine Br.dec ?_ ?_ | refine Br.ndec ?_ ?_) <;> intro hb <;> (try simp only [ZZ] at hb) <;> (first | omega | skip))
       | (with_reducible first | refine Br.tt rfl ?_ | refine Br.ff rfl ?_ | refine Br.ff (isEmptyCons _ _) ?_)
       | ((with_reducible first | refine Side.mk ?_ ?_ | refine WrapW.mk ?_ ?_); focus (first | omega | (dsimp only [InR, Int.reduceToNat, IntKind.bits, Int.reducePow]; omega) | (simp [CC]; done) | (constructor <;> omega)))
       | (refine Br.mk ?_ ?_ <;> intro hb <;> (try simp only [ZZ] at hb) <;> (first | omega | skip))
       | refine Src.whole ⟨rfl, rfl⟩ ?_ | refine FrzV.whole ?_) <;> conv => whnf)
      · refine PostCl.of (h0 l (by rw [← hR]; congr 2; omega)) ?_ ?_
        · repeat first | exact trivial | refine ⟨VLe.refl _, ?_⟩
        · repeat first | exact trivial | refine ⟨by decide, ?_⟩
    | cons c cs =>
      have hlt : i < s.length := by have : (s.drop i).length = cs.length + 1 := by rw [hsd]; rfl
                                    omega
      rw [hsd, startsL, ← hsd] at hR
      refine LoopW.round (pol := polG) mixP ?_
      conv => whnf
      repeat' ((first
       | ((with_reducible first | refine Br.dec ?_ ?_ | refine Br.ndec ?_ ?_) <;> intro hb <;> (try simp only [ZZ] at hb) <;> (first | omega | skip))
       | (with_reducible first | refine Br.tt rfl ?_ | refine Br.ff rfl ?_ | refine Br.ff (isEmptyCons _ _) ?_)
       | ((with_reducible first | refine Side.mk ?_ ?_ | refine WrapW.mk ?_ ?_); focus (first | omega | (dsimp only [InR, Int.reduceToNat, IntKind.bits, Int.reducePow]; omega) | (refine ⟨by simp [PV.cells], rfl, ?_⟩; simp only [hlen, List.length_cons, List.length_nil]; omega) | (simp [CC]; done) | (constructor <;> omega)))
       | (refine Br.mk ?_ ?_ <;> intro hb <;> (try simp only [ZZ] at hb) <;> (first | omega | skip))
       | refine Src.whole ⟨rfl, rfl⟩ ?_ | refine FrzV.whole ?_
       | refine CallW.use (ref1_Take (s.drop i) hd) ?_) <;> conv => whnf)
      · rw [show max (utfTake (s.drop i)).2 1 = ((1 : Nat) : Int) by omega, List.drop_drop, Int.toNat_natCast] at hR
        have e : List.map intP l ++ [PV.int .i64 (i : Int)] = (l ++ [(i : Int)]).map intP := by simp [intP]
        rw [e]
        refine LoopW.ren [0] (ih (i + 1) (l ++ [(i : Int)]) (by omega) (by omega) (by simp; omega) (by rw [← hR, List.append_assoc]; rfl)) (by repeat first | exact trivial | refine ⟨⟨rfl, VLe.refl _⟩, ?_⟩) (by repeat first | exact trivial | refine ⟨by decide, ?_⟩) rfl rfl
      · obtain ⟨m, hm⟩ : ∃ m : Nat, (utfTake (s.drop i)).2 = m := ⟨(utfTake (s.drop i)).2.toNat, by omega⟩
        rw [show max (utfTake (s.drop i)).2 1 = (m : Int) by omega, List.drop_drop, Int.toNat_natCast] at hR
        have e : List.map intP l ++ [PV.int .i64 (i : Int)] = (l ++ [(i : Int)]).map intP := by simp [intP]
        rw [e, hm]
        refine LoopW.ren [0] (ih (i + m) (l ++ [(i : Int)]) (by omega) (by omega) (by simp; omega) (by rw [← hR, List.append_assoc]; rfl)) (by repeat first | exact trivial | refine ⟨⟨rfl, VLe.refl _⟩, ?_⟩) (by repeat first | exact trivial | refine ⟨by decide, ?_⟩) rfl rfl
theorem ref1_Starts (s : Str) (hs : s.length ≤ 65536) : AbsCall PP GG F.ref1_Starts [.p (.str s)] [] ⟨.ret (.p (.lst false ((startsL s.length s 0).map intP))), [], []⟩ := by
  refine absCall_of (pol := polG) mixP F.ref1_Starts_is ?_
  conv => whnf
  refine LoopW.cl ?_
  by_cases h0 : s.length = 0
  · obtain rfl := List.eq_nil_of_length_eq_zero h0
    refine LoopW.round (pol := polG) mixP ?_
    conv => whnf
    repeat' ((first
     | ((with_reducible first | refine Br.dec ?_ ?_ | refine Br.ndec ?_ ?_) <;> intro hb <;> (try simp only [And.intro @List.length_nil (ZZ)] at hb) <;> (first | omega | skip))
     | (with_reducible first | refine Br.tt rfl ?_ | refine Br.ff rfl ?_ | refine Br.ff (isEmptyCons _ _) ?_)
     | ((with_reducible first | refine Side.mk ?_ ?_ | refine WrapW.mk ?_ ?_); focus (first | omega | (dsimp only [InR, Int.reduceToNat, IntKind.bits, Int.reducePow]; omega) | (simp [CC]; done) | (constructor <;> omega)))
     | (refine Br.mk ?_ ?_ <;> intro hb <;> (try simp only [And.intro @List.length_nil (ZZ)] at hb) <;> (first | omega | skip))
     | refine Src.whole ⟨rfl, rfl⟩ ?_ | refine FrzV.whole ?_) <;> conv => whnf)
    refine PostCl.of (σ2 := [(0, .p (.str [])), (3, .p .nils)]) ?_ (by repeat first | exact trivial | refine ⟨VLe.refl _, ?_⟩) (by repeat first | exact trivial | refine ⟨by decide, ?_⟩)
    conv => whnf
    repeat' ((first
     | ((with_reducible first | refine Br.dec ?_ ?_ | refine Br.ndec ?_ ?_) <;> intro hb <;> (try simp only [And.intro @List.length_nil (ZZ)] at hb) <;> (first | omega | skip))
     | (with_reducible first | refine Br.tt rfl ?_ | refine Br.ff rfl ?_ | refine Br.ff (isEmptyCons _ _) ?_)
     | ((with_reducible first | refine Side.mk ?_ ?_ | refine WrapW.mk ?_ ?_); focus (first | omega | (dsimp only [InR, Int.reduceToNat, IntKind.bits, Int.reducePow]; omega) | (simp [CC]; done) | (constructor <;> omega)))
     | (refine Br.mk ?_ ?_ <;> intro hb <;> (try simp only [And.intro @List.length_nil (ZZ)] at hb) <;> (first | omega | skip))
     | refine Src.whole ⟨rfl, rfl⟩ ?_ | refine FrzV.whole ?_) <;> conv => whnf)
    exact CLe.eq rfl
  · obtain ⟨c, cs, rfl⟩ := List.exists_cons_of_length_pos (Nat.pos_of_ne_zero h0)
    have hT := utfTake_n (c :: cs)
    have hl : (c :: cs).length = cs.length + 1 := rfl
    have fin : ∀ m : Nat, max (utfTake (c :: cs)).2 1 = (m : Int) → m ≤ (c :: cs).length → 1 ≤ m → ∀ K : Post, (∀ l : List Int, l ++ [((c :: cs).length : Int)] = startsL (c :: cs).length (c :: cs) 0 → K (.exit 0) [(0, .p (.str (c :: cs))), (3, .sl 0 0 (l.map intP).length)] [.arr T.int 1 (l.map intP)] []) →
        LoopW PP GG 32 0 (loopN F.ref1_Starts_c 0) [(0, .p (.str (c :: cs))), (3, .sl 0 0 1), (4, .p (.int .i64 m))] [.arr T.int 1 [.int .i64 0]] [] (PostCl 32 K) := by
      intro m hm hml hm1 K hK
      refine starts_loop (c :: cs) hs K hK cs.length m [0] (by omega) hml (by simpa using hm1) ?_
      rw [hl, startsL, hm]
      simp
    have out : ∀ l : List Int, l ++ [((c :: cs).length : Int)] = startsL (c :: cs).length (c :: cs) 0 → l.length ≤ 65537 := by
      intro l h
      have : l.length + 1 = (startsL (c :: cs).length (c :: cs) 0).length := by rw [← h]; simp
      have := startsL_len (c :: cs).length (c :: cs) 0
      omega
    refine LoopW.round (pol := polG) mixP ?_
    conv => whnf
    repeat' ((first
     | ((with_reducible first | refine Br.dec ?_ ?_ | refine Br.ndec ?_ ?_) <;> intro hb <;> (try simp only [ZZ] at hb) <;> (first | omega | skip))
     | (with_reducible first | refine Br.tt rfl ?_ | refine Br.ff rfl ?_ | refine Br.ff (isEmptyCons _ _) ?_)
     | ((with_reducible first | refine Side.mk ?_ ?_ | refine WrapW.mk ?_ ?_); focus (first | omega | (dsimp only [InR, Int.reduceToNat, IntKind.bits, Int.reducePow]; omega) | (simp [CC]; done) | (constructor <;> omega)))
     | (refine Br.mk ?_ ?_ <;> intro hb <;> (try simp only [ZZ] at hb) <;> (first | omega | skip))
     | refine Src.whole ⟨rfl, rfl⟩ ?_ | refine FrzV.whole ?_
     | refine CallW.use (ref1_Take (c :: cs) (by omega)) ?_) <;> conv => whnf)
    · refine LoopW.ren [1] (fin 1 (by omega) (by omega) (by omega) _ (fun l h => ?_)) (by repeat first | exact trivial | refine ⟨⟨rfl, VLe.refl _⟩, ?_⟩) (by repeat first | exact trivial | refine ⟨by decide, ?_⟩) rfl rfl
      have := out l h
      have hlen : (l.map intP).length = l.length := by simp
      conv => whnf
      repeat' ((first
       | ((with_reducible first | refine Br.dec ?_ ?_ | refine Br.ndec ?_ ?_) <;> intro hb <;> (try simp only [ZZ] at hb) <;> (first | omega | skip))
       | (with_reducible first | refine Br.tt rfl ?_ | refine Br.ff rfl ?_ | refine Br.ff (isEmptyCons _ _) ?_)
       | ((with_reducible first | refine Side.mk ?_ ?_ | refine WrapW.mk ?_ ?_); focus (first | omega | (dsimp only [InR, Int.reduceToNat, IntKind.bits, Int.reducePow]; omega) | (refine ⟨by simp [PV.cells], rfl, ?_⟩; simp only [hlen, List.length_cons, List.length_nil]; omega) | (simp [CC]; done) | (constructor <;> omega)))
       | (refine Br.mk ?_ ?_ <;> intro hb <;> (try simp only [ZZ] at hb) <;> (first | omega | skip))
       | refine Src.whole ⟨rfl, rfl⟩ ?_ | refine FrzV.whole ?_) <;> conv => whnf)
      exact CLe.retP (by rw [← h]; simp [intP])
    · obtain ⟨m, hm⟩ : ∃ m : Nat, (utfTake (c :: cs)).2 = m := ⟨(utfTake (c :: cs)).2.toNat, by omega⟩
      rw [hm, Int.zero_add]
      refine LoopW.ren [1] (fin m (by omega) (by omega) (by omega) _ (fun l h => ?_)) (by repeat first | exact trivial | refine ⟨⟨rfl, VLe.refl _⟩, ?_⟩) (by repeat first | exact trivial | refine ⟨by decide, ?_⟩) rfl rfl
      have := out l h
      have hlen : (l.map intP).length = l.length := by simp
      conv => whnf
      repeat' ((first
       | ((with_reducible first | refine Br.dec ?_ ?_ | refine Br.ndec ?_ ?_) <;> intro hb <;> (try simp only [ZZ] at hb) <;> (first | omega | skip))
       | (with_reducible first | refine Br.tt rfl ?_ | refine Br.ff rfl ?_ | refine Br.ff (isEmptyCons _ _) ?_)
       | ((with_reducible first | refine Side.mk ?_ ?_ | refine WrapW.mk ?_ ?_); focus (first | omega | (dsimp only [InR, Int.reduceToNat, IntKind.bits, Int.reducePow]; omega) | (refine ⟨by simp [PV.cells], rfl, ?_⟩; simp only [hlen, List.length_cons, List.length_nil]; omega) | (simp [CC]; done) | (constructor <;> omega)))
       | (refine Br.mk ?_ ?_ <;> intro hb <;> (try simp only [ZZ] at hb) <;> (first | omega | skip))
       | refine Src.whole ⟨rfl, rfl⟩ ?_ | refine FrzV.whole ?_) <;> conv => whnf)
      exact CLe.retP (by rw [← h]; simp [intP])
end Go.Proofs.YtoinkmogdfjmmaaGreatDoor
end

section
namespace Go.Am
end Go.Am
end

section
namespace Go.Proofs.YtoinkmogdfjmmaaGreatDoor
open Go Go.Am
set_option maxRecDepth 100000
theorem ref1_Str (s : Str) (hs : s.length ≤ 1073741824) : AbsCall PP GG F.ref1_Str [.p (.str s)] [] ⟨.ret (.p (.bool (strOk s))), [], []⟩ := by
  refine absCall_of (pol := polG) mixP F.ref1_Str_is ?_
  conv => whnf
  repeat' ((first
   | ((with_reducible first | refine Br.dec ?_ ?_ | refine Br.ndec ?_ ?_) <;> intro hb <;> (try simp only [ZZ] at hb) <;> (first | omega | skip))
   | (with_reducible first | refine Br.tt rfl ?_ | refine Br.ff rfl ?_ | refine Br.ff (isEmptyCons _ _) ?_)
   | ((with_reducible first | refine Side.mk ?_ ?_ | refine WrapW.mk ?_ ?_); focus (first | omega | (dsimp only [InR, Int.reduceToNat, IntKind.bits, Int.reducePow]; omega) | (simp [CC]; done) | (constructor <;> omega)))
   | (refine Br.mk ?_ ?_ <;> intro hb <;> (try simp only [ZZ] at hb) <;> (first | omega | skip))
   | refine Src.whole ⟨rfl, rfl⟩ ?_ | refine FrzV.whole ?_
   | refine CallW.use (ref1_Valid s hs) ?_) <;> conv => whnf)
  · exact CLe.retP (by unfold strOk; rw [refValid_neg, decide_eq_true (by omega), Bool.true_and])
  · exact CLe.retP (by unfold strOk; rw [decide_eq_false (by omega), Bool.false_and])
end Go.Proofs.YtoinkmogdfjmmaaGreatDoor
end

section
namespace Go.Am
open Go
def dig (b : UInt8) : Bool := decide (48 ≤ b.toNat ∧ b.toNat ≤ 57)
def runL : Str → Nat
  | [] => 0
  | b :: s => if dig b = true then runL s + 1 else 0
theorem runL_le : ∀ s : Str, runL s ≤ s.length
  | [] => Nat.le_refl _
  | b :: s => by rw [runL]; split <;> simp [runL_le s]
abbrev Parts := Bool × Str × Str × Str × Bool
def noParts : Parts := (false, [], [], [], false)
def b0 (s : Str) : Nat := (s.getD 0 0).toNat
def partsE (neg : Bool) (w f p d : Str) : Parts := if d.length = 0 ∨ runL d ≠ d.length then noParts else (neg, w, f, p, true)
def partsD (neg : Bool) (w f s : Str) : Parts :=
  if s.length = 0 then (neg, w, f, [], true) else if b0 s ≠ 101 ∧ b0 s ≠ 69 then noParts else
  if 0 < (s.drop 1).length ∧ (b0 (s.drop 1) = 43 ∨ b0 (s.drop 1) = 45) then partsE neg w f (s.drop 1) ((s.drop 1).drop 1) else partsE neg w f (s.drop 1) (s.drop 1)
def partsC (neg : Bool) (w s : Str) : Parts :=
  if 0 < s.length ∧ b0 s = 46 then (if runL (s.drop 1) = 0 then noParts else partsD neg w ((s.drop 1).take (runL (s.drop 1))) ((s.drop 1).drop (runL (s.drop 1)))) else partsD neg w [] s
def partsB (neg : Bool) (s : Str) : Parts := if runL s = 0 ∨ (1 < runL s ∧ b0 (s.take (runL s)) = 48) then noParts else partsC neg (s.take (runL s)) (s.drop (runL s))
def numParts (s : Str) : Parts := if 0 < s.length ∧ b0 s = 45 then partsB true (s.drop 1) else partsB false s
def powL : Str → Int → Option Int
  | [], v => some v
  | b :: s, v => if dig b = true then (if 10 * v + (b.toNat - 48) > 100000 then none else powL s (10 * v + (b.toNat - 48))) else powL s v
def powerL (p : Str) : Int × Bool := match powL p 0 with
  | none => (0, false)
  | some v => if 0 < p.length ∧ b0 p = 45 then (-v, true) else (v, true)
def formL (s : Str) : Bool × Bool := ((numParts s).2.2.2.2, (numParts s).2.2.2.2 && !(powerL (numParts s).2.2.2.1).2)
def numL (s : Str) : Bool := (formL s).1 && !(formL s).2 && decide (s.length ≤ 400)
end Go.Am
namespace Go.Am
theorem CLe.parts {x : Parts} {a e : Bool} {b c d : Str} {H : Heap} {mv : List Nat} (h : x = (a, b, c, d, e)) :
    CLe ⟨.ret (.tup [.p (.bool a), .p (.str b), .p (.str c), .p (.str d), .p (.bool e)]), H, mv⟩ ⟨.ret (.tup [.p (.bool x.1), .p (.str x.2.1), .p (.str x.2.2.1), .p (.str x.2.2.2.1), .p (.bool x.2.2.2.2)]), H, mv⟩ := by subst h; exact CLe.refl _
end Go.Am
namespace Go.Am
theorem take_run (s : Str) : (s.take (runL s)).length = runL s := by rw [List.length_take]; have := runL_le s; omega
end Go.Am
namespace Go.Am
end Go.Am
namespace Go.Am
def negL : Str → Int → Option Int
  | [], v => some v
  | b :: s, v => if v < -((9223372036854775808 - ((b.toNat : Int) - 48)) / 10) then none else negL s (10 * v - ((b.toNat : Int) - 48))
def refIntL (s : Str) : Int × Bool :=
  if numL s = false ∨ s = [45, 48] then (0, false) else
  if 0 < (numParts s).2.2.1.length ∨ 0 < (numParts s).2.2.2.1.length then (0, false) else
  match negL (numParts s).2.1 0 with
  | none => (0, false)
  | some v => if (numParts s).1 = true then (v, true) else if v = -9223372036854775808 then (0, false) else (-v, true)
theorem take_dig : ∀ s : Str, ∀ b ∈ s.take (runL s), dig b = true
  | [] => by simp
  | c :: s => by
    intro b hb
    rw [runL] at hb
    split at hb
    · rename_i h
      rw [List.take_succ_cons] at hb
      rcases List.mem_cons.1 hb with rfl | hb
      · exact h
      · exact take_dig s b hb
    · simp at hb
end Go.Am
end

section
namespace Go.Proofs.YtoinkmogdfjmmaaGreatDoor
open Go Go.Am
set_option maxRecDepth 100000
end Go.Proofs.YtoinkmogdfjmmaaGreatDoor
end

section
namespace Go.Am
open Go
def lineL (n : Int) : Str := if n < 0 then [] else 10 :: Lib.repeatL [32, 32] n.toNat
theorem repeatL_succ (s : Str) : ∀ n, Lib.repeatL s (n + 1) = Lib.repeatL s n ++ s
  | 0 => by simp [Lib.repeatL]
  | n + 1 => by show s ++ Lib.repeatL s (n + 1) = (s ++ Lib.repeatL s n) ++ s; rw [repeatL_succ s n, List.append_assoc]
theorem repeat_len (n : Nat) : (Lib.repeatL [32, 32] n).length = n * 2 := by rw [Lib.repeatL_length]; rfl
def hexd (k : Nat) : UInt8 := [48, 49, 50, 51, 52, 53, 54, 55, 56, 57, 97, 98, 99, 100, 101, 102].getD k 0
def hex2 (n : Nat) : Str := [48, 48, hexd (n / 16), hexd (n % 16)]
theorem iand15 {a : Int} (h0 : 0 ≤ a) (ha : a ≤ 9223372036854775807) : iand .i64 a 15 = a % 16 := by
  have := iand_low (k := .i64) (a := a) 4 h0 (by simp only [IntKind.bits]; omega) (by decide)
  simpa using this
theorem itoa_small {u : Nat} (h : u < 10) : Lib.itoa (u : Int) = [UInt8.ofNat (48 + u)] := by rw [Lib.itoa_nonneg, Lib.decDigits, dif_pos h]
theorem itoa_big {u : Nat} (h : ¬ u < 10) : Lib.itoa (u : Int) = Lib.itoa ((u / 10 : Nat) : Int) ++ [UInt8.ofNat (48 + u % 10)] := by rw [Lib.itoa_nonneg, Lib.itoa_nonneg, Lib.decDigits, dif_neg h]
theorem least_dig : (45 : UInt8) :: Lib.decDigits 9223372036854775808 = (⟨#[45, 57, 50, 50, 51, 51, 55, 50, 48, 51, 54, 56, 53, 52, 55, 55, 53, 56, 48, 56]⟩ : ByteArray).data.toList := by
  have h : Lib.decDigits 9223372036854775808 = [57, 50, 50, 51, 51, 55, 50, 48, 51, 54, 56, 53, 52, 55, 55, 53, 56, 48, 56] := by
    repeat (rw [Lib.decDigits, dif_neg (by omega)])
    rw [Lib.decDigits, dif_pos (by omega)]
    rfl
  rw [h]
end Go.Am
end

section
namespace Go.Proofs.YtoinkmogdfjmmaaGreatDoor
open Go Go.Am
set_option maxRecDepth 100000
theorem ref8_line (n : Int) (hn : n ≤ 8000000) : AbsCall PP GG F.ref8_line [.p (.int .i64 n)] [] ⟨.ret (.p (.str (lineL n))), [], []⟩ := by
  have loop : ∀ (m : Nat) (K : Post), m ≤ 8000000 → (K (.exit 0) [(3, .p (.str (10 :: Lib.repeatL [32, 32] m)))] [] []) →
    ∀ (q i : Nat), i + q = m → LoopW PP GG 15 0 (loopN F.ref8_line_c 0) [(0, .p (.int .i64 m)), (3, .p (.str (10 :: Lib.repeatL [32, 32] i))), (4, .p (.int .i64 i))] [] [] (PostCl 15 K) := by
    intro m K hm h0 q
    induction q with
    | zero =>
      intro i hi
      obtain rfl : i = m := by omega
      refine LoopW.round (pol := polG) mixP ?_
      conv => whnf
      repeat' ((first
       | ((with_reducible first | refine Br.dec ?_ ?_ | refine Br.ndec ?_ ?_) <;> intro hb <;> (try simp only [ZZ] at hb) <;> (first | omega | skip))
       | (with_reducible first | refine Br.tt rfl ?_ | refine Br.ff rfl ?_ | refine Br.ff (isEmptyCons _ _) ?_)
       | ((with_reducible first | refine Side.mk ?_ ?_ | refine WrapW.mk ?_ ?_); focus (first | omega | (dsimp only [InR, Int.reduceToNat, IntKind.bits, Int.reducePow]; omega) | (simp [CC]; done) | (constructor <;> omega)))
       | (refine Br.mk ?_ ?_ <;> intro hb <;> (try simp only [ZZ] at hb) <;> (first | omega | skip))
       | refine Src.whole ⟨rfl, rfl⟩ ?_ | refine FrzV.whole ?_) <;> conv => whnf)
      · refine PostCl.of (h0) ?_ ?_
        · repeat first | exact trivial | refine ⟨VLe.refl _, ?_⟩
        · repeat first | exact trivial | refine ⟨by decide, ?_⟩
    | succ q ih =>
      intro i hi
      have hl := repeat_len i
      have e : (10 :: Lib.repeatL [32, 32] i) ++ [32, 32] = 10 :: Lib.repeatL [32, 32] (i + 1) := by rw [repeatL_succ]; rfl
      have e2 : (10 :: Lib.repeatL [32, 32] i).length = i * 2 + 1 := by rw [List.length_cons, hl]
      refine LoopW.round (pol := polG) mixP ?_
      conv => whnf
      repeat' ((first
       | ((with_reducible first | refine Br.dec ?_ ?_ | refine Br.ndec ?_ ?_) <;> intro hb <;> (try simp only [ZZ] at hb) <;> (first | omega | skip))
       | (with_reducible first | refine Br.tt rfl ?_ | refine Br.ff rfl ?_ | refine Br.ff (isEmptyCons _ _) ?_)
       | ((with_reducible first | refine Side.mk ?_ ?_ | refine WrapW.mk ?_ ?_); focus (first | omega | (dsimp only [InR, Int.reduceToNat, IntKind.bits, Int.reducePow]; omega) | (simp only [e2]; show _ ≤ _; simp; omega) | (simp [CC]; done) | (constructor <;> omega)))
       | (refine Br.mk ?_ ?_ <;> intro hb <;> (try simp only [ZZ] at hb) <;> (first | omega | skip))
       | refine Src.whole ⟨rfl, rfl⟩ ?_ | refine FrzV.whole ?_) <;> conv => whnf)
      · rw [show (10 :: Lib.repeatL [32, 32] i) ++ (⟨#[32, 32]⟩ : ByteArray).data.toList = 10 :: Lib.repeatL [32, 32] (i + 1) from e]
        refine LoopW.sub (ih (i + 1) (by omega)) (by repeat first | exact trivial | refine ⟨VLe.refl _, ?_⟩) (by repeat first | exact trivial | refine ⟨by decide, ?_⟩)
  by_cases h : n < 0
  · refine absCall_of (pol := polG) mixP F.ref8_line_is ?_
    conv => whnf
    repeat' ((first
     | ((with_reducible first | refine Br.dec ?_ ?_ | refine Br.ndec ?_ ?_) <;> intro hb <;> (try simp only [ZZ] at hb) <;> (first | omega | skip))
     | (with_reducible first | refine Br.tt rfl ?_ | refine Br.ff rfl ?_ | refine Br.ff (isEmptyCons _ _) ?_)
     | ((with_reducible first | refine Side.mk ?_ ?_ | refine WrapW.mk ?_ ?_); focus (first | omega | (dsimp only [InR, Int.reduceToNat, IntKind.bits, Int.reducePow]; omega) | (simp [CC]; done) | (constructor <;> omega)))
     | (refine Br.mk ?_ ?_ <;> intro hb <;> (try simp only [ZZ] at hb) <;> (first | omega | skip))
     | refine Src.whole ⟨rfl, rfl⟩ ?_ | refine FrzV.whole ?_) <;> conv => whnf)
    exact CLe.eq (by unfold lineL; rw [if_pos h])
  · obtain ⟨m, rfl⟩ := Int.eq_ofNat_of_zero_le (show 0 ≤ n by omega)
    refine absCall_of (pol := polG) mixP F.ref8_line_is ?_
    conv => whnf
    repeat' ((first
     | ((with_reducible first | refine Br.dec ?_ ?_ | refine Br.ndec ?_ ?_) <;> intro hb <;> (try simp only [ZZ] at hb) <;> (first | omega | skip))
     | (with_reducible first | refine Br.tt rfl ?_ | refine Br.ff rfl ?_ | refine Br.ff (isEmptyCons _ _) ?_)
     | ((with_reducible first | refine Side.mk ?_ ?_ | refine WrapW.mk ?_ ?_); focus (first | omega | (dsimp only [InR, Int.reduceToNat, IntKind.bits, Int.reducePow]; omega) | (simp [CC]; done) | (constructor <;> omega)))
     | (refine Br.mk ?_ ?_ <;> intro hb <;> (try simp only [ZZ] at hb) <;> (first | omega | skip))
     | refine Src.whole ⟨rfl, rfl⟩ ?_ | refine FrzV.whole ?_) <;> conv => whnf)
    refine LoopW.cl ?_
    refine LoopW.sub (loop m _ (by omega) ?_ m 0 (by omega)) (by repeat first | exact trivial | refine ⟨VLe.refl _, ?_⟩) (by repeat first | exact trivial | refine ⟨by decide, ?_⟩)
    conv => whnf
    exact CLe.eq (by unfold lineL; rw [if_neg h]; rfl)
theorem text_nat : ∀ u : Nat, u ≤ 9223372036854775807 → AbsCall PP GG F.ref1_Text [.p (.int .i64 u)] [] ⟨.ret (.p (.str (Lib.itoa u))), [], []⟩ := by
  intro u
  induction u using Nat.strongRecOn with
  | ind u ih =>
    intro hu
    have dv : (u : Int).tdiv 10 = ((u / 10 : Nat) : Int) := by rw [Int.tdiv_eq_ediv_of_nonneg (by omega)]; rfl
    have md : (u : Int).tmod 10 = ((u % 10 : Nat) : Int) := by rw [Int.tmod_eq_emod_of_nonneg (by omega)]; rfl
    by_cases h : u < 10
    · have hbt : [PV.int .u8 (IntKind.u8.wrap (48 + (u : Int)))] = (Lib.itoa u).map byteP := by
        rw [itoa_small h, byte_of (by omega) (by omega)]
        simp only [List.map_cons, List.map_nil]
        congr 3
      refine absCall_of (pol := polG) mixP F.ref1_Text_is ?_
      conv => whnf
      repeat' ((first
       | ((with_reducible first | refine Br.dec ?_ ?_ | refine Br.ndec ?_ ?_) <;> intro hb <;> (try simp only [ZZ] at hb) <;> (first | omega | skip))
       | (with_reducible first | refine Br.tt rfl ?_ | refine Br.ff rfl ?_ | refine Br.ff (isEmptyCons _ _) ?_)
       | ((with_reducible first | refine Side.mk ?_ ?_ | refine WrapW.mk ?_ ?_); focus (first | omega | (dsimp only [InR, Int.reduceToNat, IntKind.bits, Int.reducePow]; omega) | (simp [CC]; done) | (constructor <;> omega)))
       | (refine Br.mk ?_ ?_ <;> intro hb <;> (try simp only [ZZ] at hb) <;> (first | omega | skip))
       | refine Src.whole ⟨rfl, rfl⟩ ?_ | refine FrzV.whole ?_
       | (refine Bytes.mk' hbt ?_)) <;> conv => whnf)
      exact CLe.eq rfl
    · have hsp := ih (u / 10) (by omega) (by omega)
      rw [← dv] at hsp
      have hl := Lib.itoa_length_le ((u / 10 : Nat) : Int) (by omega) (by omega)
      have hbt : [PV.int .u8 (IntKind.u8.wrap (48 + (u : Int).tmod 10))] = [UInt8.ofNat (48 + u % 10)].map byteP := by
        rw [md, byte_of (by omega) (by omega)]
        simp only [List.map_cons, List.map_nil]
        congr 3
      rw [← dv] at hl
      refine absCall_of (pol := polG) mixP F.ref1_Text_is ?_
      conv => whnf
      repeat' ((first
       | ((with_reducible first | refine Br.dec ?_ ?_ | refine Br.ndec ?_ ?_) <;> intro hb <;> (try simp only [ZZ] at hb) <;> (first | omega | skip))
       | (with_reducible first | refine Br.tt rfl ?_ | refine Br.ff rfl ?_ | refine Br.ff (isEmptyCons _ _) ?_)
       | ((with_reducible first | refine Side.mk ?_ ?_ | refine WrapW.mk ?_ ?_); focus (first | omega | (dsimp only [InR, Int.reduceToNat, IntKind.bits, Int.reducePow]; omega) | (simp only [md, dv]; omega) | (intro y hy; simp only [List.mem_singleton] at hy; subst hy; exact ⟨rfl, by simp [PV.cells, PV.leaf]⟩) | (show _ + 1 ≤ _; omega) | (simp [CC]; done) | (constructor <;> omega)))
       | (refine Br.mk ?_ ?_ <;> intro hb <;> (try simp only [ZZ] at hb) <;> (first | omega | skip))
       | refine Src.whole ⟨rfl, rfl⟩ ?_ | refine FrzV.whole ?_
       | refine CallW.use (hsp) ?_
       | (refine Bytes.mk' hbt ?_)) <;> conv => whnf)
      exact CLe.retP (by rw [dv, itoa_big h])
theorem ref1_Text (n : Int) (h0 : -9223372036854775808 ≤ n) (h1 : n ≤ 9223372036854775807) : AbsCall PP GG F.ref1_Text [.p (.int .i64 n)] [] ⟨.ret (.p (.str (Lib.itoa n))), [], []⟩ := by
  by_cases h : 0 ≤ n
  · obtain ⟨u, rfl⟩ := Int.eq_ofNat_of_zero_le h
    exact text_nat u (by omega)
  · by_cases hm : n = -9223372036854775808
    · subst hm
      refine absCall_of (pol := polG) mixP F.ref1_Text_is ?_
      conv => whnf
      repeat' ((first
       | ((with_reducible first | refine Br.dec ?_ ?_ | refine Br.ndec ?_ ?_) <;> intro hb <;> (try simp only [ZZ] at hb) <;> (first | omega | skip))
       | (with_reducible first | refine Br.tt rfl ?_ | refine Br.ff rfl ?_ | refine Br.ff (isEmptyCons _ _) ?_)
       | ((with_reducible first | refine Side.mk ?_ ?_ | refine WrapW.mk ?_ ?_); focus (first | omega | (dsimp only [InR, Int.reduceToNat, IntKind.bits, Int.reducePow]; omega) | (simp [CC]; done) | (constructor <;> omega)))
       | (refine Br.mk ?_ ?_ <;> intro hb <;> (try simp only [ZZ] at hb) <;> (first | omega | skip))
       | refine Src.whole ⟨rfl, rfl⟩ ?_ | refine FrzV.whole ?_) <;> conv => whnf)
      · exact CLe.retP (by rw [show (-9223372036854775808 : Int) = -((9223372036854775808 : Nat) : Int) from rfl, Lib.itoa_neg _ (by omega), PV.str.injEq]; exact least_dig.symm)
      · exact absurd trivial hb
    · obtain ⟨u, hu⟩ := Int.eq_ofNat_of_zero_le (show 0 ≤ -n by omega)
      have hsp := text_nat u (by omega)
      have e : IntKind.i64.wrap (0 - n) = u := by rw [InR.wrap (by simp only [InR]; omega)]; omega
      have hl := Lib.itoa_length_le u (by omega) (by omega)
      rw [← e] at hsp hl
      refine absCall_of (pol := polG) mixP F.ref1_Text_is ?_
      conv => whnf
      repeat' ((first
       | ((with_reducible first | refine Br.dec ?_ ?_ | refine Br.ndec ?_ ?_) <;> intro hb <;> (try simp only [ZZ] at hb) <;> (first | omega | skip))
       | (with_reducible first | refine Br.tt rfl ?_ | refine Br.ff rfl ?_ | refine Br.ff (isEmptyCons _ _) ?_)
       | ((with_reducible first | refine Side.mk ?_ ?_ | refine WrapW.mk ?_ ?_); focus (first | omega | (dsimp only [InR, Int.reduceToNat, IntKind.bits, Int.reducePow]; omega) | (show 1 + _ ≤ _; omega) | (simp [CC]; done) | (constructor <;> omega)))
       | (refine Br.mk ?_ ?_ <;> intro hb <;> (try simp only [ZZ] at hb) <;> (first | omega | skip))
       | refine Src.whole ⟨rfl, rfl⟩ ?_ | refine FrzV.whole ?_
       | refine CallW.use (hsp) ?_) <;> conv => whnf)
      exact CLe.retP (by rw [e, show n = -(u : Int) by omega, Lib.itoa_neg u (by omega), Lib.itoa_nonneg]; rfl)
theorem ref5_hex4 (n : Nat) (hn : n < 256) : AbsCall PP GG F.ref5_hex4 [.p (.int .i64 n)] [] ⟨.ret (.p (.str (hex2 n))), [], []⟩ := by
  have q12 : (n : Int) / 2 ^ Int.toNat 12 = 0 := by show (n : Int) / 4096 = _; omega
  have q8 : (n : Int) / 2 ^ Int.toNat 8 = 0 := by show (n : Int) / 256 = _; omega
  have q4 : (n : Int) / 2 ^ Int.toNat 4 = ((n / 16 : Nat) : Int) := by show (n : Int) / 16 = _; omega
  have i12 : iand .i64 ((n : Int) / 2 ^ Int.toNat 12) 15 = 0 := by rw [q12]; decide
  have i8 : iand .i64 ((n : Int) / 2 ^ Int.toNat 8) 15 = 0 := by rw [q8]; decide
  have i4 : iand .i64 ((n : Int) / 2 ^ Int.toNat 4) 15 = ((n / 16 : Nat) : Int) := by rw [q4, iand15 (by omega) (by omega)]; omega
  have i0 : iand .i64 (n : Int) 15 = ((n % 16 : Nat) : Int) := by rw [iand15 (by omega) (by omega)]; omega
  have hbt : ∀ a b c d : Int, a = 0 → b = 0 → c = ((n / 16 : Nat) : Int) → d = ((n % 16 : Nat) : Int) → [byteP ((⟨#[48, 49, 50, 51, 52, 53, 54, 55, 56, 57, 97, 98, 99, 100, 101, 102]⟩ : ByteArray).data.toList.getD a.toNat 0), byteP ((⟨#[48, 49, 50, 51, 52, 53, 54, 55, 56, 57, 97, 98, 99, 100, 101, 102]⟩ : ByteArray).data.toList.getD b.toNat 0), byteP ((⟨#[48, 49, 50, 51, 52, 53, 54, 55, 56, 57, 97, 98, 99, 100, 101, 102]⟩ : ByteArray).data.toList.getD c.toNat 0), byteP ((⟨#[48, 49, 50, 51, 52, 53, 54, 55, 56, 57, 97, 98, 99, 100, 101, 102]⟩ : ByteArray).data.toList.getD d.toNat 0)] = (hex2 n).map byteP := by
    rintro a b c d rfl rfl rfl rfl
    rfl
  refine absCall_of (pol := polG) mixP F.ref5_hex4_is ?_
  conv => whnf
  repeat' ((first
   | ((with_reducible first | refine Br.dec ?_ ?_ | refine Br.ndec ?_ ?_) <;> intro hb <;> (try simp only [ZZ] at hb) <;> (first | omega | skip))
   | (with_reducible first | refine Br.tt rfl ?_ | refine Br.ff rfl ?_ | refine Br.ff (isEmptyCons _ _) ?_)
   | ((with_reducible first | refine Side.mk ?_ ?_ | refine WrapW.mk ?_ ?_); focus (first | omega | (dsimp only [InR, Int.reduceToNat, IntKind.bits, Int.reducePow]; omega) | (rw [i12]; decide) | (rw [i8]; decide) | (rw [i4]; refine ⟨by omega, ?_⟩; show _ < (16 : Int); omega) | (rw [i0]; refine ⟨by omega, ?_⟩; show _ < (16 : Int); omega) | (simp [CC]; done) | (constructor <;> omega)))
   | (refine Br.mk ?_ ?_ <;> intro hb <;> (try simp only [ZZ] at hb) <;> (first | omega | skip))
   | refine Src.whole ⟨rfl, rfl⟩ ?_ | refine FrzV.whole ?_
   | (refine Bytes.mk' (hbt _ _ _ _ i12 i8 i4 i0) ?_)) <;> conv => whnf)
  exact CLe.eq rfl
end Go.Proofs.YtoinkmogdfjmmaaGreatDoor
end

section
namespace Go.Am
open Go
def quoteU (x : Str) (n : Int) : Str :=
  if n = 0 then [239, 191, 189] else
  if b0 x = 34 ∨ b0 x = 92 then 92 :: x else
  if b0 x = 8 then [92, 98] else
  if b0 x = 9 then [92, 116] else
  if b0 x = 10 then [92, 110] else
  if b0 x = 12 then [92, 102] else
  if b0 x = 13 then [92, 114] else
  if b0 x < 32 then 92 :: 117 :: hex2 (b0 x) else x
def stepN (s : Str) : Nat := (max (utfTake s).2 1).toNat
def quoteL : Nat → Str → Str
  | 0, _ => []
  | _ + 1, [] => []
  | q + 1, c :: cs => quoteU ((c :: cs).take (stepN (c :: cs))) (utfTake (c :: cs)).2 ++ quoteL q ((c :: cs).drop (stepN (c :: cs)))
def quoteS (s : Str) : Str := 34 :: quoteL s.length s ++ [34]
theorem stepN_pos (s : Str) : 1 ≤ stepN s ∧ stepN s ≤ 4 := by unfold stepN; have := utfTake_n s; omega
theorem stepN_le (c : UInt8) (cs : Str) : stepN (c :: cs) ≤ (c :: cs).length := by unfold stepN; have := utfTake_n (c :: cs); simp only [List.length_cons] at this ⊢; omega
theorem takeL_take : ∀ (q : Nat) (s : Str) (r : Int), takeL q (s.take q) r = takeL q s r
  | 0, _, _ => rfl
  | q + 1, [], _ => by simp
  | q + 1, b :: s, r => by
    rw [List.take_succ_cons, takeL, takeL]
    split
    · exact takeL_take q s _
    · rfl
theorem utfTake_pre (c : UInt8) (cs : Str) : utfTake ((c :: cs).take (stepN (c :: cs))) = utfTake (c :: cs) := by
  by_cases h0 : (utfTake (c :: cs)).2 = 0
  · have h1 := utfTake_0 h0
    have hs : stepN (c :: cs) = 1 := by unfold stepN; rw [h0]; rfl
    rw [hs, show utfTake (c :: cs) = (0, 0) from Prod.ext h1 h0]
    show utfTake [c] = (0, 0)
    have hb := utfBegins_n c.toNat
    unfold utfTake at h0 ⊢
    simp only [List.length_cons, List.length_nil] at h0 ⊢
    split
    · rfl
    · rename_i hc
      have h1 : (utfBegins c.toNat).1 = 1 := by omega
      rw [if_neg (by rw [h1]; omega)] at h0
      rw [h1] at h0 ⊢
      simp only [show Int.toNat 1 - 1 = 0 from rfl, takeL] at h0 ⊢
      split
      · rename_i hg; rw [if_pos hg] at h0; simp at h0
      · rfl
  · have hn := utfTake_n (c :: cs)
    have hs : stepN (c :: cs) = (utfTake (c :: cs)).2.toNat := by unfold stepN; omega
    rw [hs]
    have hb := utfBegins_n c.toNat
    have key : (utfTake (c :: cs)).2 = (utfBegins c.toNat).1 := by
      unfold utfTake at h0 ⊢
      simp only [] at h0 ⊢
      split
      · rename_i h; rw [if_pos h] at h0; exact absurd rfl h0
      · rename_i h
        rw [if_neg h] at h0
        split
        · rename_i h2; rw [h2] at h0; exact absurd rfl h0
        · rename_i r h2
          rw [h2] at h0
          simp only [] at h0
          split
          · rfl
          · rename_i h3; rw [if_neg h3] at h0; exact absurd rfl h0
    rw [key] at hn h0 ⊢
    obtain ⟨k, hk⟩ : ∃ k : Nat, (utfBegins c.toNat).1 = ((k + 1 : Nat) : Int) := ⟨(utfBegins c.toNat).1.toNat - 1, by omega⟩
    rw [hk, Int.toNat_natCast, List.take_succ_cons]
    rw [hk] at hn
    have hl : (c :: cs.take k).length = k + 1 := by
      simp only [List.length_cons, List.length_take] at hn ⊢
      omega
    unfold utfTake
    simp only [hl]
    rw [hk, Int.toNat_natCast, Nat.add_sub_cancel, takeL_take]
    rw [if_neg (by omega), if_neg (by omega)]
theorem quoteU_len (x : Str) (n : Int) : (quoteU x n).length ≤ x.length + 6 := by
  unfold quoteU
  repeat' split
  all_goals simp [hex2]
  all_goals omega
end Go.Am
end
