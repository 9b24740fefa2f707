/-
What is written in lines, without blanks and ends of lines, is what is written in one.
-/
import Derived.Test.YthkoefpidnphpaaGreatDoorPF
import Derived.Lib.Replace
import Derived.Lib.Small
import Derived.Lib.SplitLaws
import Derived.Lib.SlTrimSet
import Derived.Test.YthkoefpidnphpaaGreatDoorPD

section
namespace Go.Am
open Go
def Ge (n : Nat) (s : Str) : Prop := ∀ b ∈ s, n ≤ b.toNat
theorem Ge.app {n : Nat} {s r : Str} (h1 : Ge n s) (h2 : Ge n r) : Ge n (s ++ r) := fun b hb => (List.mem_append.1 hb).elim (h1 b) (h2 b)
theorem Ge.cons {n : Nat} {c : UInt8} {s : Str} (h1 : n ≤ c.toNat) (h2 : Ge n s) : Ge n (c :: s) := fun b hb => (List.mem_cons.1 hb).elim (fun e => by rw [e]; exact h1) (h2 b)
theorem Ge.nil {n : Nat} : Ge n [] := fun b hb => by cases hb
def NoB (s : Str) : Prop := ∀ b ∈ s, b.toNat ≠ 32
theorem NoB.l {s r : Str} (h : NoB (s ++ r)) : NoB s := fun b hb => h b (List.mem_append_left _ hb)
theorem NoB.r {s r : Str} (h : NoB (s ++ r)) : NoB r := fun b hb => h b (List.mem_append_right _ hb)
theorem NoB.t {c : UInt8} {s : Str} (h : NoB (c :: s)) : NoB s := fun b hb => h b (List.mem_cons_of_mem _ hb)
end Go.Am
end

section
namespace Go.Am
end Go.Am
end

section
namespace Go.Am
open Go
def q1 (c : UInt8) : Str := quoteU [c] 1
def numCh (b : UInt8) : Bool := decide ((48 ≤ b.toNat ∧ b.toNat ≤ 57) ∨ b.toNat = 43 ∨ b.toNat = 45 ∨ b.toNat = 46 ∨ b.toNat = 101 ∨ b.toNat = 69)
def Nc (s : Str) : Prop := ∀ b ∈ s, numCh b = true
theorem Nc.app {s r : Str} (h1 : Nc s) (h2 : Nc r) : Nc (s ++ r) := fun b hb => (List.mem_append.1 hb).elim (h1 b) (h2 b)
theorem Nc.cons {c : UInt8} {s : Str} (h1 : numCh c = true) (h2 : Nc s) : Nc (c :: s) := fun b hb => (List.mem_cons.1 hb).elim (fun e => by rw [e]; exact h1) (h2 b)
theorem Nc.nil : Nc [] := fun b hb => by cases hb
theorem Tree.ext' {t u : Tree} (h1 : t.kind = u.kind) (h2 : t.n = u.n) (h3 : t.s = u.s) (h4 : t.l = u.l) (h5 : t.m = u.m) : t = u := by rw [t.eta, u.eta, h1, h2, h3, h4, h5]
theorem p0 {t : Tree} (hk : t.kind = 0) (d : Int) : printT t d = [110, 117, 108, 108] := by rw [printT_eq, if_pos hk]
theorem p1 {t : Tree} (hk : t.kind = 1) (d : Int) : printT t d = if t.n = 1 then [116, 114, 117, 101] else [102, 97, 108, 115, 101] := by rw [printT_eq, if_neg (by omega), if_pos hk]
theorem p2 {t : Tree} (hk : t.kind = 2) (d : Int) : printT t d = Lib.itoa t.n := by rw [printT_eq, if_neg (by omega), if_neg (by omega), if_pos hk]
def Tok (u : Str) (k : Int) (s : Str) (v : Str) : Prop := ∀ (t : Str) (a : Nat), a < t.length → t.drop a = u → ∃ b : Nat, wordL t a = (⟨k, s, a⟩, (b : Int), 0, 0) ∧ a < b ∧ b ≤ t.length ∧ t.drop b = v
theorem getD_drop (t : Str) (a : Nat) : t.getD a 0 = (t.drop a).getD 0 0 := by simp [List.getD, List.getElem?_drop]
theorem sign_iff : ∀ n : Nat, n < 256 → (0 ≤ firstIdx ⟨signs.toArray⟩ n.toUInt8 ↔ signs.contains n.toUInt8 = true) := by decide +kernel
theorem sign_b (c : UInt8) : 0 ≤ firstIdx ⟨signs.toArray⟩ c ↔ signs.contains c = true := by
  have := sign_iff c.toNat (UInt8.toNat_lt c)
  rwa [show c.toNat.toUInt8 = c by simp] at this
theorem drop_lt {t u v : Str} {a : Nat} (ha : a ≤ t.length) (h : t.drop a = u ++ v) : a + u.length ≤ t.length ∧ t.drop (a + u.length) = v := by
  have hl := congrArg List.length h
  rw [List.length_drop, List.length_append] at hl
  refine ⟨by omega, ?_⟩
  rw [← List.drop_drop, h, List.drop_left]
theorem tok_sign (c : UInt8) (v : Str) (hc : signs.contains c = true) : Tok (c :: v) 1 [c] v := by
  intro t a ha h
  have hg : t.getD a 0 = c := by rw [getD_drop, h]; rfl
  obtain ⟨h1, h2⟩ := drop_lt (u := [c]) (v := v) (by omega) h
  refine ⟨a + 1, ?_, by omega, h1, h2⟩
  unfold wordL
  rw [if_pos (by rw [hg]; exact (sign_b c).2 hc), h]
  rfl
theorem takeL_app : ∀ (q : Nat) (s R : Str) (r x : Int), takeL q s r = some x → takeL q (s ++ R) r = some x
  | 0, _, _, _, _, h => h
  | q + 1, [], _, _, _, h => by simp [takeL] at h
  | q + 1, b :: s, R, r, x, h => by
    rw [takeL] at h
    rw [List.cons_append, takeL]
    split at h
    · rename_i hc; rw [if_pos hc]; exact takeL_app q s R _ x h
    · cases h
theorem utfTake_app {s : Str} (R : Str) (h : (utfTake s).2 ≠ 0) : utfTake (s ++ R) = utfTake s := by
  cases s with
  | nil => exact absurd rfl h
  | cons c cs =>
    unfold utfTake at h ⊢
    simp only [List.cons_append] at h ⊢
    split at h
    · exact absurd rfl h
    · rename_i h1
      rw [if_neg (by simp only [List.length_cons, List.length_append] at h1 ⊢; omega), if_neg h1]
      split at h
      · exact absurd rfl h
      · rename_i r h2
        rw [takeL_app _ _ R _ _ h2]
abbrev RR := Except (Int × Int) (Tree × Nat × Int)
def wdAt (ws : List Wd) (i : Nat) : Wd := (ws[i]?).getD ⟨0, [], 0⟩
structure WsOk (ws : List Wd) : Prop where
  len : ws.length ≤ 65537
  end_ : ∀ i : Nat, i < ws.length → (wdAt ws i).k ≠ 0 → i + 1 < ws.length
  text : ∀ w ∈ ws, w.s.length ≤ 65536 ∧ 0 ≤ w.k ∧ w.k ≤ 4 ∧ (w.k = 4 → w.s = [116, 114, 117, 101] ∨ w.s = [102, 97, 108, 115, 101] ∨ w.s = [110, 117, 108, 108])
  pos : ∀ w ∈ ws, 0 ≤ w.a ∧ w.a ≤ 65536
theorem WsOk.at {ws : List Wd} (h : WsOk ws) {i : Nat} (hi : i < ws.length) : ws[i]? = some (wdAt ws i) ∧ wdAt ws i ∈ ws := by
  have : ws[i]? = some ws[i] := by simp [hi]
  unfold wdAt
  rw [this]
  exact ⟨rfl, List.getElem_mem hi⟩
def okR (ws : List Wd) (i : Nat) (n : Int) : RR → Prop
  | .error _ => True
  | .ok (_, j, m) => i < j ∧ j < ws.length ∧ n ≤ m ∧ m ≤ 4096
theorem okR.up {ws : List Wd} {i j : Nat} {n m : Int} {r : RR} (hij : i ≤ j) (hnm : n ≤ m) (hr : okR ws j m r) : okR ws i n r := by
  cases r with
  | error e => trivial
  | ok x => exact ⟨by have := hr.1; omega, hr.2.1, by have := hr.2.2.1; omega, hr.2.2.2⟩
theorem WsOk.a {ws : List Wd} (h : WsOk ws) (i : Nat) : 0 ≤ (wdAt ws i).a ∧ (wdAt ws i).a ≤ 65536 := by
  unfold wdAt
  cases hi : ws[i]? with
  | none => simp
  | some w => exact h.pos w (List.mem_of_getElem? hi)
def skipB (u : Str) : Str := u.dropWhile (blanksB.contains ·)
inductive LexTo (W : Str) : Str → List (Int × Str) → Prop
  | nil : LexTo W W []
  | cons {u v : Str} {k : Int} {s : Str} {ws : List (Int × Str)} (h : Tok u k s v) (hne : u ≠ []) (r : LexTo W (skipB v) ws) : LexTo W u ((k, s) :: ws)
def kp (w : Wd) : Int × Str := (w.k, w.s)
theorem LexTo.sign {W : Str} (c : UInt8) {X : Str} {ws : List (Int × Str)} (h : signs.contains c = true) (r : LexTo W (skipB X) ws) : LexTo W (c :: X) ((1, [c]) :: ws) :=
  .cons (tok_sign c X h) (by simp) r
structure Stp where
  k : Str
  a : Int
  p : Bool
deriving DecidableEq
def Stp.enc (s : Stp) : PV := .agg [.str s.k, .int .i64 s.a, .bool s.p]
def encS (l : List Stp) : List PV := l.map Stp.enc
theorem encS_length (l : List Stp) : (encS l).length = l.length := List.length_map _
theorem encS_get {l : List Stp} {i : Nat} {s : Stp} (h : l[i]? = some s) : (encS l)[i]? = some s.enc := by unfold encS; rw [List.getElem?_map, h]; rfl
theorem encS_cells (l : List Stp) : ∀ x ∈ encS l, x.cells.length = 3 := by
  intro x hx
  obtain ⟨s, _, rfl⟩ := List.mem_map.1 hx
  rfl
def stpOk (s : Stp) : Bool := if s.p = true then decide (s.k = [] ∧ 0 ≤ s.a ∧ s.a ≤ 1000000000) else decide (s.a = 0) && strOk s.k
structure Ord3 {α : Type} (f : α → α → Int) (ok : α → Prop) : Prop where
  val : ∀ a b, f a b = -1 ∨ f a b = 0 ∨ f a b = 1
  anti : ∀ a b, f b a = - f a b
  zero : ∀ a b, ok a → ok b → (f a b = 0 ↔ a = b)
  same : ∀ a b c, f a b = 0 → f a c = f b c
  less : ∀ a b c, f a b = -1 → f b c = -1 → f a c = -1
theorem Ord3.trans {α : Type} {f : α → α → Int} {ok : α → Prop} (h : Ord3 f ok) (a b c : α) (e : f a b = f b c) : f a c = f a b := by
  rcases h.val a b with h1 | h1 | h1
  · rw [h1] at e ⊢; exact h.less a b c h1 e.symm
  · rw [h1] at e ⊢; rw [h.same a b c h1]; exact e.symm
  · rw [h1] at e ⊢
    have h2 := h.anti b c
    have h3 := h.anti a b
    have h4 := h.anti c a
    have := h.less c b a (by omega) (by omega)
    omega
end Go.Am
end

section
namespace Go.Proofs.YthkoefpidnphpaaGreatDoor
open Go Go.Am Go.RowKit
set_option maxRecDepth 100000
theorem strings_Compare (a b : Str) (H : Heap) : AbsCall PP GG F.strings_Compare [.p (.str a), .p (.str b)] H ⟨.ret (.p (.int .i64 (Lib.compareBytes a b))), H, []⟩ := by
  refine absBelow fun B L w vs _ ha hg => ?_
  obtain ⟨v, u, rfl, hv, hu⟩ := vrel2 ha
  obtain rfl := vstr hv
  obtain rfl := vstr hu
  refine CallTo.of_calls Tryz.func115 (by kernel_rfl) rfl ((Tryz.strings_Compare ⟨a.toArray⟩ ⟨b.toArray⟩ w).mono ?_)
  rintro e w' ⟨rfl, rfl⟩
  exact ⟨Below.refl _ _, _, rfl, .p _ _ (.int _ _)⟩
theorem cmp_Compare_int (a b : Int) (H : Heap) : AbsCall PP GG F.cmp_Compare_int [.p (.int .i64 a), .p (.int .i64 b)] H ⟨.ret (.p (.int .i64 (Lib.compareInt a b))), H, []⟩ := by
  refine absBelow fun B L w vs _ ha hg => ?_
  obtain ⟨v, u, rfl, hv, hu⟩ := vrel2 ha
  obtain rfl := vint hv
  obtain rfl := vint hu
  refine CallTo.of_calls Tryz.func114 (by kernel_rfl) rfl ((Tryz.cmp_Compare_int a b w).mono ?_)
  rintro e w' ⟨rfl, rfl⟩
  exact ⟨Below.refl _ _, _, rfl, .p _ _ (.int _ _)⟩
theorem strconv_Itoa (n : Int) (hn : -9223372036854775808 ≤ n ∧ n ≤ 9223372036854775807) (H : Heap) : AbsCall PP GG F.strconv_Itoa [.p (.int .i64 n)] H ⟨.ret (.p (.str (Lib.itoa n))), H, []⟩ := by
  refine absBelow fun B L w vs _ ha hg => ?_
  obtain ⟨v, rfl, hv⟩ := vrel1 ha
  obtain rfl := vint hv
  refine CallTo.of_calls Tryz.func100 (by kernel_rfl) rfl ((Tryz.strconv_Itoa n hn.1 hn.2 w (tab_of_gok hg (by rw [pow10_lit]; rfl) gPow)).mono ?_)
  rintro e w' ⟨rfl, k, os, rfl⟩
  exact ⟨Lib.below_grow _ _ (Nat.le_refl _) _ _, _, rfl, .p _ _ (.str _)⟩
theorem strings_Trim (s c : Str) (hs : s.length ≤ 9223372036854775807) (hc : c.length < 4294967281) (h2 : ∀ (j : Nat) (b : UInt8), c[j]? = some b → b.toNat < 128) (H : Heap) :
    AbsCall PP GG F.strings_Trim [.p (.str s), .p (.str c)] H ⟨.ret (.p (.str (Lib.trimS s c))), H, []⟩ := by
  refine absBelow fun B L w vs _ ha hg => ?_
  obtain ⟨v, u, rfl, hv, hu⟩ := vrel2 ha
  obtain rfl := vstr hv
  obtain rfl := vstr hu
  refine CallTo.of_calls Tryz.func141 (by kernel_rfl) rfl ((Tryz.strings_Trim_laid ⟨s.toArray⟩ ⟨c.toArray⟩ w (by simpa [ByteArray.size] using hs) (by simpa [ByteArray.size] using hc) (by simpa using h2)).mono ?_)
  rintro e w' ⟨rfl, hb⟩
  exact ⟨hb, _, rfl, by simpa using VRel.p _ _ (.str _)⟩
theorem strings_HasPrefix (s p : Str) (H : Heap) : AbsCall PP GG F.strings_HasPrefix [.p (.str s), .p (.str p)] H ⟨.ret (.p (.bool (Lib.hasPrefix s p))), H, []⟩ := by
  refine absBelow fun B L w vs _ ha hg => ?_
  obtain ⟨v, u, rfl, hv, hu⟩ := vrel2 ha
  obtain rfl := vstr hv
  obtain rfl := vstr hu
  refine CallTo.of_calls Tryz.func101 (by kernel_rfl) rfl ((Tryz.strings_HasPrefix ⟨s.toArray⟩ ⟨p.toArray⟩ w).mono ?_)
  rintro e w' ⟨rfl, rfl⟩
  exact ⟨Below.refl _ _, _, rfl, by simpa using VRel.p _ _ (.bool _)⟩
theorem strings_TrimPrefix (s p : Str) (H : Heap) : AbsCall PP GG F.strings_TrimPrefix [.p (.str s), .p (.str p)] H ⟨.ret (.p (.str (Lib.trimPrefix s p))), H, []⟩ := by
  refine absBelow fun B L w vs _ ha hg => ?_
  obtain ⟨v, u, rfl, hv, hu⟩ := vrel2 ha
  obtain rfl := vstr hv
  obtain rfl := vstr hu
  refine CallTo.of_calls Tryz.func98 (by kernel_rfl) rfl ((Tryz.strings_TrimPrefix ⟨s.toArray⟩ ⟨p.toArray⟩ w).mono ?_)
  rintro e w' ⟨rfl, rfl⟩
  exact ⟨Below.refl _ _, _, rfl, by simpa using VRel.p _ _ (.str _)⟩
theorem maxLen_cell {B : Nat → Prop} {w : World} (h : GOk GG B w) : ∃ m, w.cell? ⟨Gl.internal_bytealg_MaxLen, 0, none⟩ = some (.int .i64 m) := by
  obtain ⟨h1, _⟩ := h Gl.internal_bytealg_MaxLen (.anyi .i64) rfl
  cases h1 with
  | cptr d b o u hb hw hf hc hr =>
    have h0 := hr 0 (.anyi .i64) rfl
    have hc0 := hc 0 (by decide)
    generalize u 0 = v at h0 hc0
    cases h0
    exact ⟨_, hc0⟩
theorem strings_ReplaceAll (s old new : Str) (hs : s.length < 4294967281) (h1 : 1 ≤ old.length) (hl : s.length + s.length * new.length ≤ 140737488355328) (H : Heap) :
    AbsCall PP GG F.strings_ReplaceAll [.p (.str s), .p (.str old), .p (.str new)] H ⟨.ret (.p (.str (Lib.replaceAll s old new))), H, []⟩ := by
  refine absBelow fun B L w vs _ ha hg => ?_
  obtain ⟨v, u, t, rfl, hv, hu, ht⟩ := vrel3 ha
  obtain rfl := vstr hv
  obtain rfl := vstr hu
  obtain rfl := vstr ht
  obtain ⟨m, hm⟩ := maxLen_cell hg
  have hc : Lib.countB ⟨s.toArray⟩ ⟨old.toArray⟩ ≤ s.length := by
    have := Lib.countB_le ⟨old.toArray⟩ (by simpa [ByteArray.size] using h1) s.length ⟨s.toArray⟩ (by simp [ByteArray.size])
    simpa [ByteArray.size] using this
  have hc2 : Lib.countB ⟨s.toArray⟩ ⟨old.toArray⟩ * new.length ≤ s.length * new.length := Nat.mul_le_mul_right _ hc
  refine CallTo.of_calls Tryz.func99 (by kernel_rfl) rfl ((Tryz.strings_ReplaceAll ⟨s.toArray⟩ ⟨old.toArray⟩ ⟨new.toArray⟩ m w (by simpa [ByteArray.size] using hs) hm (by simpa [ByteArray.size] using h1) (by simp [ByteArray.size]; omega)).mono ?_)
  rintro e w' ⟨rfl, hb⟩
  exact ⟨hb, _, rfl, by simpa using VRel.p _ _ (.str _)⟩
theorem cell_new (w : World) (c : Array Value) (t : TypeId) (k : Nat) (v : Value) (h : c[k]? = some v) : (w.alloc (.cells c t)).cell? ⟨w.heap.size, 0 + k, none⟩ = some v := by
  have e : (w.alloc (.cells c t)).heap[w.heap.size]? = some (.cells c t) := Array.getElem?_push_size
  unfold World.cell?
  rw [e, Nat.zero_add]
  exact h
theorem size_new (w : World) (o : Obj) : w.heap.size < (w.alloc o).heap.size := by
  have : (w.alloc o).heap.size = w.heap.size + 1 := Array.size_push _
  omega
theorem strings_Split (s sep : Str) (hs : s.length < 4294967281) (h1 : 1 ≤ sep.length) (H : Heap) :
    AbsCall PP GG F.strings_Split [.p (.str s), .p (.str sep)] H ⟨.ret (.p (.lst false ((Lib.split s sep).map PV.str))), H, []⟩ := by
  refine absBelow fun B L w vs hst ha hg => ?_
  obtain ⟨v, u, rfl, hv, hu⟩ := vrel2 ha
  obtain rfl := vstr hv
  obtain rfl := vstr hu
  obtain ⟨m, hm⟩ := maxLen_cell hg
  refine CallTo.of_calls Tryz.func56 (by kernel_rfl) rfl ((Tryz.strings_Split ⟨s.toArray⟩ ⟨sep.toArray⟩ m w (by simpa [ByteArray.size] using hs) hm (by simpa [ByteArray.size] using h1)).mono ?_)
  rintro e w' ⟨rfl, rfl⟩
  have hdat := Lib.splitB_data ⟨sep.toArray⟩ 0 (Lib.countB ⟨s.toArray⟩ ⟨sep.toArray⟩) ⟨s.toArray⟩
  have hlen := Lib.splitB_all ⟨sep.toArray⟩ (by simpa [ByteArray.size] using h1) 0 (Lib.countB ⟨s.toArray⟩ ⟨sep.toArray⟩) ⟨s.toArray⟩ rfl
  have hsp : Lib.split s sep = (Lib.splitB ⟨sep.toArray⟩ 0 (Lib.countB ⟨s.toArray⟩ ⟨sep.toArray⟩) ⟨s.toArray⟩).map (·.data.toList) := by rw [hdat]; rfl
  generalize Lib.splitB ⟨sep.toArray⟩ 0 (Lib.countB ⟨s.toArray⟩ ⟨sep.toArray⟩) ⟨s.toArray⟩ = l at *
  generalize Lib.countB ⟨s.toArray⟩ ⟨sep.toArray⟩ = n at *
  have hflat : ∀ q : List Str, flat (q.map PV.str) = q.map PV.str := by
    intro q
    induction q with
    | nil => rfl
    | cons x q ih => rw [List.map_cons, flat_cons, ih]; rfl
  have hall : ∀ x ∈ (Lib.split s sep).map PV.str, x.cells.length = 1 := fun x hx => by obtain ⟨y, _, rfl⟩ := List.mem_map.1 hx; rfl
  have hlf : ∀ x ∈ flat ((Lib.split s sep).map PV.str), x.leaf = true := fun x hx => by rw [hflat] at hx; obtain ⟨y, _, rfl⟩ := List.mem_map.1 hx; rfl
  have hl : ((Lib.split s sep).map PV.str).length = n + 1 := by rw [List.length_map, hsp, List.length_map, hlen]
  have hB : ¬ B w.heap.size := fun h => absurd (hst.bnd _ h) (Nat.lt_irrefl _)
  refine ⟨(Below.refl _ _).alloc (Nat.le_refl _) _, _, rfl, .p _ _ ?_⟩
  have := PRel.lst (B := B) (w := w.alloc (.cells ((l.map Value.string).toArray) T.string)) false ((Lib.split s sep).map PV.str) w.heap.size 0 (n + 1) 1 (fun k => ((l.map Value.string)[k]?).getD undef) hB (size_new _ _) (Nat.le_refl _) hall hlf
    (by rw [hl]; exact Nat.le_refl _) (fun e => by cases e) (fun k hk => ?_) (fun k x hx => ?_)
  · rw [hl] at this
    exact this
  · rw [hflat, List.length_map, hsp, List.length_map] at hk
    refine cell_new _ _ _ _ _ ?_
    simp [hk]
  · rw [hflat, List.getElem?_map, hsp, List.getElem?_map] at hx
    cases hq : l[k]? with
    | none => rw [hq] at hx; simp at hx
    | some y =>
      rw [hq] at hx
      simp at hx
      subst hx
      simp only [List.getElem?_map, hq, Option.map_some, Option.getD_some]
      have := PRel.str (B := B) (w := w.alloc (.cells ((l.map Value.string).toArray) T.string)) y.data.toList
      simpa using this
theorem ElemZ.lit2 {l : List PV} {i n : Nat} {K : PV → Prop} {d : PV} (h : l[i]? = some d) (hc : d.cells.length = n) (k : K d) : ElemZ l i n K := ⟨d, h, hc, k⟩
theorem ElemZ.stp {l : List Stp} {i : Nat} {K : PV → Prop} {s : Stp} (h : l[i]? = some s) (k : K (.agg [.str s.k, .int .i64 s.a, .bool s.p])) : ElemZ (encS l) i 3 K := ⟨_, encS_get h, rfl, k⟩
end Go.Proofs.YthkoefpidnphpaaGreatDoor
end

section
namespace Go.Am
open Go
end Go.Am
end

section
namespace Go.Proofs.YthkoefpidnphpaaGreatDoor
open Go Go.Am Go.RowKit
theorem abi_NoEscape (x : V) (H : Heap) : AbsCall PP GG F.internal_abi_NoEscape [x] H ⟨.ret x, H, []⟩ :=
  abs_same (Tryz.func151) (by kernel_rfl) (by kernel_rfl) (by kernel_rfl) (by kernel_rfl) x H
end Go.Proofs.YthkoefpidnphpaaGreatDoor
end

section
namespace Go.Proofs.YthkoefpidnphpaaGreatDoor
open Go Go.Am Go.RowKit
set_option maxRecDepth 100000
theorem bytes_cells (s : Str) : ∀ y ∈ s.map byteP, y.cells.length = 1 := by
  intro y hy
  obtain ⟨b, _, rfl⟩ := List.mem_map.1 hy
  rfl
end Go.Proofs.YthkoefpidnphpaaGreatDoor
end

section
namespace Go.Proofs.YthkoefpidnphpaaGreatDoor
open Go Go.Am
set_option maxRecDepth 100000
theorem utf_size (r : Int) : AbsCall PP GG F.utf_size [.p (.int .i64 r)] [] ⟨.ret (.p (.int .i64 (utfSize r))), [], []⟩ := by
  refine absCall_of (pol := polG) mixP F.utf_size_is ?_
  conv => whnf
  repeat' ((first
   | ((with_reducible first | refine Br.dec ?_ ?_ | refine Br.ndec ?_ ?_) <;> intro hb <;> (try simp only [ZZ] at hb) <;> (first | omega | skip))
   | (with_reducible first | refine Br.tt rfl ?_ | refine Br.ff rfl ?_ | refine Br.ff (isEmptyCons _ _) ?_)
   | ((with_reducible first | refine Side.mk ?_ ?_ | refine WrapW.mk ?_ ?_); focus (first | omega | (dsimp only [InR, Int.reduceToNat, IntKind.bits, Int.reducePow]; omega) | (simp [CC]; done) | (constructor <;> omega)))
   | (refine Br.mk ?_ ?_ <;> intro hb <;> (try simp only [ZZ] at hb) <;> (first | omega | skip))
   | refine Src.whole ⟨rfl, rfl⟩ ?_ | refine FrzV.whole ?_) <;> conv => whnf)
  all_goals exact CLe.retP (by simp [utfSize, *])
theorem utf_Good (r : Int) : AbsCall PP GG F.utf_Good [.p (.int .i64 r)] [] ⟨.ret (.p (.bool (utfGood r))), [], []⟩ := by
  refine absCall_of (pol := polG) mixP F.utf_Good_is ?_
  conv => whnf
  repeat' ((first
   | ((with_reducible first | refine Br.dec ?_ ?_ | refine Br.ndec ?_ ?_) <;> intro hb <;> (try simp only [ZZ] at hb) <;> (first | omega | skip))
   | (with_reducible first | refine Br.tt rfl ?_ | refine Br.ff rfl ?_ | refine Br.ff (isEmptyCons _ _) ?_)
   | ((with_reducible first | refine Side.mk ?_ ?_ | refine WrapW.mk ?_ ?_); focus (first | omega | (dsimp only [InR, Int.reduceToNat, IntKind.bits, Int.reducePow]; omega) | (simp [CC]; done) | (constructor <;> omega)))
   | (refine Br.mk ?_ ?_ <;> intro hb <;> (try simp only [ZZ] at hb) <;> (first | omega | skip))
   | refine Src.whole ⟨rfl, rfl⟩ ?_ | refine FrzV.whole ?_) <;> conv => whnf)
  all_goals exact CLe.retP (by simp only [PV.bool.injEq, utfGood]; first | (symm; rw [decide_eq_false_iff_not]; omega) | (symm; rw [decide_eq_true_eq]; omega) | (rw [decide_eq_decide]; omega))
theorem utf_Put (bs : Str) (r : Int) (hs : bs.length ≤ 1073741824) : AbsCall PP GG F.utf_Put [.p (.lst false (bs.map byteP)), .p (.int .i64 r)] [] ⟨.ret (.sl 0 0 ((bs ++ utfEnc r).map byteP).length), [.arr T.uint8 1 ((bs ++ utfEnc r).map byteP)], []⟩ := by
  have hlen : (bs.map byteP).length = bs.length := by simp
  have hgr : utfGood r = true → 0 ≤ r ∧ r ≤ 1114111 := by intro hg; unfold utfGood at hg; rw [decide_eq_true_eq] at hg; omega
  refine absCall_of (pol := polG) mixP F.utf_Put_is ?_
  conv => whnf
  repeat' ((first
   | ((with_reducible first | refine Br.dec ?_ ?_ | refine Br.ndec ?_ ?_) <;> intro hb <;> (try simp only [ZZ] at hb) <;> (first | omega | skip))
   | (with_reducible first | refine Br.tt rfl ?_ | refine Br.ff rfl ?_ | refine Br.ff (isEmptyCons _ _) ?_)
   | ((with_reducible first | refine Side.mk ?_ ?_ | refine WrapW.mk ?_ ?_); focus (first | omega | (dsimp only [InR, Int.reduceToNat, IntKind.bits, Int.reducePow]; omega) | exact ⟨bytes_cells bs, by simp, by simp; omega⟩ | exact ⟨by simp [PV.cells], by simp, by simp; omega⟩ | (simp [CC]; done) | (constructor <;> omega)))
   | (refine Br.mk ?_ ?_ <;> intro hb <;> (try simp only [ZZ] at hb) <;> (first | omega | skip))
   | refine Src.whole ⟨rfl, rfl⟩ ?_ | refine FrzV.whole ?_
   | refine CallW.use (utf_Good _) ?_
   | refine CallW.use (utf_size _) ?_
   | (refine Src.whole ⟨rfl, by simp⟩ ?_)) <;> conv => whnf)
  · refine CLe.arr ?_
    rw [show utfEnc r = [] by unfold utfEnc; rw [if_pos hb]]
    simp
  all_goals
    obtain ⟨hr0, hr1⟩ := hgr ‹utfGood r = true›
    obtain ⟨n, rfl⟩ := Int.eq_ofNat_of_zero_le hr0
    have hng : utfGood (n : Int) ≠ false := by simp_all
    refine CLe.arr ?_
    unfold utfEnc
    rw [if_neg hng]
    have q6 : (n : Int) / 2 ^ Int.toNat 6 = ((n / 64 : Nat) : Int) := by show (n : Int) / 64 = _; omega
    have q12 : (n : Int) / 2 ^ Int.toNat 12 = ((n / 4096 : Nat) : Int) := by show (n : Int) / 4096 = _; omega
    have q18 : (n : Int) / 2 ^ Int.toNat 18 = ((n / 262144 : Nat) : Int) := by show (n : Int) / 262144 = _; omega
    have low : ∀ m : Nat, m ≤ 1114111 → iand .i64 (m : Int) 63 = ((m % 64 : Nat) : Int) := by
      intro m hm
      rw [iand63 (by omega) (by omega)]; omega
    have by' : ∀ m : Nat, m ≤ 255 → PV.int .u8 (IntKind.u8.wrap (m : Int)) = byteP (UInt8.ofNat m) := by
      intro m hm
      have := byte_of (x := (m : Int)) (by omega) (by omega)
      simpa using this
    rw [List.map_append, show List.replicate (Int.toNat 0) (PV.int IntKind.u8 0) = [] from rfl, List.nil_append]
    congr 1
  · rw [utfSize_1] at hb
    rw [if_pos hb]
    simp only [List.map_cons, List.map_nil]
    rw [Int.toNat_natCast, by' n (by omega)]
  · rename_i h1
    rw [utfSize_1] at h1
    rw [utfSize_2] at hb
    rw [if_neg h1, if_pos hb.2]
    simp only [List.map_cons, List.map_nil]
    rw [Int.toNat_natCast, q6, low n (by omega), oct_or192 _ (by omega), oct_or128 _ (by omega), by' _ (by omega), by' _ (by omega)]
  · rename_i h1 h2
    rw [utfSize_1] at h1
    rw [utfSize_2] at h2
    rw [utfSize_3] at hb
    rw [if_neg h1, if_neg (by omega), if_pos hb.2]
    simp only [List.map_cons, List.map_nil]
    rw [Int.toNat_natCast, q6, q12, low n (by omega), low (n / 64) (by omega), oct_or224 _ (by omega), oct_or128 _ (by omega), oct_or128 _ (by omega), by' _ (by omega), by' _ (by omega), by' _ (by omega)]
  · rename_i h1 h2
    rw [utfSize_1] at h1
    rw [utfSize_2] at h2
    rw [utfSize_3] at hb
    rw [if_neg h1, if_neg (by omega), if_neg (by omega)]
    simp only [List.map_cons, List.map_nil]
    rw [Int.toNat_natCast, q6, q12, q18, low n (by omega), low (n / 64) (by omega), low (n / 4096) (by omega), oct_or240 _ (by omega), oct_or128 _ (by omega), oct_or128 _ (by omega), oct_or128 _ (by omega), by' _ (by omega), by' _ (by omega), by' _ (by omega), by' _ (by omega)]
theorem ref1_Good (r : Int) : AbsCall PP GG F.ref1_Good [.p (.int .i64 r)] [] ⟨.ret (.p (.bool (utfGood r))), [], []⟩ := by
  refine absCall_of (pol := polG) mixP F.ref1_Good_is ?_
  conv => whnf
  repeat' ((first
   | ((with_reducible first | refine Br.dec ?_ ?_ | refine Br.ndec ?_ ?_) <;> intro hb <;> (try simp only [ZZ] at hb) <;> (first | omega | skip))
   | (with_reducible first | refine Br.tt rfl ?_ | refine Br.ff rfl ?_ | refine Br.ff (isEmptyCons _ _) ?_)
   | ((with_reducible first | refine Side.mk ?_ ?_ | refine WrapW.mk ?_ ?_); focus (first | omega | (dsimp only [InR, Int.reduceToNat, IntKind.bits, Int.reducePow]; omega) | (simp [CC]; done) | (constructor <;> omega)))
   | (refine Br.mk ?_ ?_ <;> intro hb <;> (try simp only [ZZ] at hb) <;> (first | omega | skip))
   | refine Src.whole ⟨rfl, rfl⟩ ?_ | refine FrzV.whole ?_) <;> conv => whnf)
  all_goals exact CLe.retP (by simp only [PV.bool.injEq, utfGood]; first | (symm; rw [decide_eq_false_iff_not]; omega) | (symm; rw [decide_eq_true_eq]; omega) | (rw [decide_eq_decide]; omega))
theorem ref1_Put (r : Int) : AbsCall PP GG F.ref1_Put [.p (.int .i64 r)] [] ⟨.ret (.p (.str (utfEnc r))), [], []⟩ := by
  have hgr : utfGood r = true → 0 ≤ r ∧ r ≤ 1114111 := by intro hg; unfold utfGood at hg; rw [decide_eq_true_eq] at hg; omega
  by_cases hg : utfGood r = true
  · obtain ⟨hr0, hr1⟩ := hgr hg
    obtain ⟨n, rfl⟩ := Int.eq_ofNat_of_zero_le hr0
    have by' : ∀ m : Nat, m ≤ 255 → PV.int .u8 (IntKind.u8.wrap (m : Int)) = byteP (UInt8.ofNat m) := by
      intro m hm
      have := byte_of (x := (m : Int)) (by omega) (by omega)
      simpa using this
    have by2 : ∀ a m : Nat, a + m ≤ 255 → PV.int .u8 (IntKind.u8.wrap ((a : Int) + (m : Int))) = byteP (UInt8.ofNat (a + m)) := by
      intro a m hm
      rw [← Int.natCast_add]
      exact by' _ hm
    have dv : ∀ m : Nat, 0 < m → (n : Int).tdiv (m : Int) = ((n / m : Nat) : Int) := fun m hm => by rw [Int.tdiv_eq_ediv_of_nonneg (by omega)]; rfl
    have md : ∀ (a m : Nat), (a : Int).tmod (m : Int) = ((a % m : Nat) : Int) := fun a m => by rw [Int.tmod_eq_emod_of_nonneg (by omega)]; rfl
    have d1 := dv 64 (by omega)
    have d2 := dv 4096 (by omega)
    have d3 := dv 262144 (by omega)
    have m1 := md n 64
    have m2 := md (n / 64) 64
    have m3 := md (n / 4096) 64
    rw [show ((64 : Nat) : Int) = 64 from rfl] at d1 m1 m2 m3
    rw [show ((4096 : Nat) : Int) = 4096 from rfl] at d2
    rw [show ((262144 : Nat) : Int) = 262144 from rfl] at d3
    have hng : ¬ utfGood (n : Int) = false := by rw [hg]; simp
    have e1 : (n : Int) < 128 → [PV.int .u8 (IntKind.u8.wrap (n : Int))] = (utfEnc (n : Int)).map byteP := by
      intro h
      unfold utfEnc
      rw [if_neg hng, if_pos h, Int.toNat_natCast, by' n (by omega)]; rfl
    have e2 : ¬ (n : Int) < 128 → (n : Int) < 2048 → [PV.int .u8 (IntKind.u8.wrap (192 + (n : Int).tdiv 64)), PV.int .u8 (IntKind.u8.wrap (128 + (n : Int).tmod 64))] = (utfEnc (n : Int)).map byteP := by
      intro h h2
      unfold utfEnc
      rw [if_neg hng, if_neg h, if_pos h2, Int.toNat_natCast, d1, m1]
      have a1 : PV.int .u8 (IntKind.u8.wrap (192 + ((n / 64 : Nat) : Int))) = byteP (UInt8.ofNat (192 + n / 64)) := by2 192 (n / 64) (by omega)
      have a2 : PV.int .u8 (IntKind.u8.wrap (128 + ((n % 64 : Nat) : Int))) = byteP (UInt8.ofNat (128 + n % 64)) := by2 128 (n % 64) (by omega)
      rw [a1, a2]; rfl
    have e3 : ¬ (n : Int) < 2048 → (n : Int) < 65536 → [PV.int .u8 (IntKind.u8.wrap (224 + (n : Int).tdiv 4096)), PV.int .u8 (IntKind.u8.wrap (128 + ((n : Int).tdiv 64).tmod 64)), PV.int .u8 (IntKind.u8.wrap (128 + (n : Int).tmod 64))] = (utfEnc (n : Int)).map byteP := by
      intro h h2
      unfold utfEnc
      rw [if_neg hng, if_neg (by omega), if_neg h, if_pos h2, Int.toNat_natCast, d1, d2, m1, m2]
      have a1 : PV.int .u8 (IntKind.u8.wrap (224 + ((n / 4096 : Nat) : Int))) = byteP (UInt8.ofNat (224 + n / 4096)) := by2 224 (n / 4096) (by omega)
      have a2 : PV.int .u8 (IntKind.u8.wrap (128 + ((n / 64 % 64 : Nat) : Int))) = byteP (UInt8.ofNat (128 + n / 64 % 64)) := by2 128 (n / 64 % 64) (by omega)
      have a3 : PV.int .u8 (IntKind.u8.wrap (128 + ((n % 64 : Nat) : Int))) = byteP (UInt8.ofNat (128 + n % 64)) := by2 128 (n % 64) (by omega)
      rw [a1, a2, a3]; rfl
    have e4 : ¬ (n : Int) < 65536 → [PV.int .u8 (IntKind.u8.wrap (240 + (n : Int).tdiv 262144)), PV.int .u8 (IntKind.u8.wrap (128 + ((n : Int).tdiv 4096).tmod 64)), PV.int .u8 (IntKind.u8.wrap (128 + ((n : Int).tdiv 64).tmod 64)), PV.int .u8 (IntKind.u8.wrap (128 + (n : Int).tmod 64))] = (utfEnc (n : Int)).map byteP := by
      intro h
      unfold utfEnc
      rw [if_neg hng, if_neg (by omega), if_neg (by omega), if_neg h, Int.toNat_natCast, d1, d2, d3, m1, m2, m3]
      have a1 : PV.int .u8 (IntKind.u8.wrap (240 + ((n / 262144 : Nat) : Int))) = byteP (UInt8.ofNat (240 + n / 262144)) := by2 240 (n / 262144) (by omega)
      have a2 : PV.int .u8 (IntKind.u8.wrap (128 + ((n / 4096 % 64 : Nat) : Int))) = byteP (UInt8.ofNat (128 + n / 4096 % 64)) := by2 128 (n / 4096 % 64) (by omega)
      have a3 : PV.int .u8 (IntKind.u8.wrap (128 + ((n / 64 % 64 : Nat) : Int))) = byteP (UInt8.ofNat (128 + n / 64 % 64)) := by2 128 (n / 64 % 64) (by omega)
      have a4 : PV.int .u8 (IntKind.u8.wrap (128 + ((n % 64 : Nat) : Int))) = byteP (UInt8.ofNat (128 + n % 64)) := by2 128 (n % 64) (by omega)
      rw [a1, a2, a3, a4]; rfl
    have hsp := ref1_Good (n : Int)
    rw [hg] at hsp
    refine absCall_of (pol := polG) mixP F.ref1_Put_is ?_
    conv => whnf
    repeat' ((first
     | ((with_reducible first | refine Br.dec ?_ ?_ | refine Br.ndec ?_ ?_) <;> intro hb <;> (try simp only [ZZ] at hb) <;> (first | omega | skip))
     | (with_reducible first | refine Br.tt rfl ?_ | refine Br.ff rfl ?_ | refine Br.ff (isEmptyCons _ _) ?_)
     | ((with_reducible first | refine Side.mk ?_ ?_ | refine WrapW.mk ?_ ?_); focus (first | omega | (dsimp only [InR, Int.reduceToNat, IntKind.bits, Int.reducePow]; omega) | (simp only [d1, d2, d3, m1, m2, m3, InR]; omega) | (simp only [d1, d2, d3, m1, m2, m3]; decide) | (refine ⟨by decide, ?_⟩; simp only [d1, d2, d3, InR]; omega) | (simp [CC]; done) | (constructor <;> omega)))
     | (refine Br.mk ?_ ?_ <;> intro hb <;> (try simp only [ZZ] at hb) <;> (first | omega | skip))
     | refine Src.whole ⟨rfl, rfl⟩ ?_ | refine FrzV.whole ?_
     | refine CallW.use (hsp) ?_
     | (refine Bytes.mk' (s := utfEnc (n : Int)) (e1 (by omega)) ?_)
     | (refine Bytes.mk' (s := utfEnc (n : Int)) (e2 (by omega) (by omega)) ?_)
     | (refine Bytes.mk' (s := utfEnc (n : Int)) (e3 (by omega) (by omega)) ?_)
     | (refine Bytes.mk' (s := utfEnc (n : Int)) (e4 (by omega)) ?_)) <;> conv => whnf)
    all_goals exact CLe.eq rfl
  · have hg' : utfGood r = false := by simpa using hg
    have hsp := ref1_Good r
    rw [hg'] at hsp
    refine absCall_of (pol := polG) mixP F.ref1_Put_is ?_
    conv => whnf
    repeat' ((first
     | ((with_reducible first | refine Br.dec ?_ ?_ | refine Br.ndec ?_ ?_) <;> intro hb <;> (try simp only [ZZ] at hb) <;> (first | omega | skip))
     | (with_reducible first | refine Br.tt rfl ?_ | refine Br.ff rfl ?_ | refine Br.ff (isEmptyCons _ _) ?_)
     | ((with_reducible first | refine Side.mk ?_ ?_ | refine WrapW.mk ?_ ?_); focus (first | omega | (dsimp only [InR, Int.reduceToNat, IntKind.bits, Int.reducePow]; omega) | (simp [CC]; done) | (constructor <;> omega)))
     | (refine Br.mk ?_ ?_ <;> intro hb <;> (try simp only [ZZ] at hb) <;> (first | omega | skip))
     | refine Src.whole ⟨rfl, rfl⟩ ?_ | refine FrzV.whole ?_
     | refine CallW.use (hsp) ?_) <;> conv => whnf)
    exact CLe.retP (by unfold utfEnc; rw [if_pos hg'])
theorem refTake_loop (s : Str) (n : Nat) (hn : n ≤ 4) (hns : n ≤ s.length) (R : Option Int) (K : Post)
    (h0 : ∀ r, R = some r → 0 ≤ r → K (.exit 1) [(0, .p (.str s)), (5, .p (.int .i64 n)), (6, .p (.int .i64 r))] [] [])
    (hr : R = none → K .ret [(2, .p (.int .i64 0)), (3, .p (.int .i64 0))] [] []) :
    ∀ (q i : Nat) (r : Int), i + q = n → 1 ≤ i → 0 ≤ r → r < takeU q → takeL q (s.drop i) r = R →
      LoopW PP GG 79 0 (loopN F.ref1_Take_c 0) [(0, .p (.str s)), (5, .p (.int .i64 n)), (6, .p (.int .i64 r)), (7, .p (.int .i64 i))] [] [] (PostCl 79 K) := by
  intro q
  induction q with
  | zero =>
    intro i r hi h1 hr0 hr1 hR
    rw [takeL] at hR
    refine LoopW.round (pol := polG) mixP ?_
    conv => whnf
    repeat' ((first
     | ((with_reducible first | refine Br.dec ?_ ?_ | refine Br.ndec ?_ ?_) <;> intro hb <;> (try simp only [ZZ] at hb) <;> (first | omega | skip))
     | (with_reducible first | refine Br.tt rfl ?_ | refine Br.ff rfl ?_ | refine Br.ff (isEmptyCons _ _) ?_)
     | ((with_reducible first | refine Side.mk ?_ ?_ | refine WrapW.mk ?_ ?_); focus (first | omega | (dsimp only [InR, Int.reduceToNat, IntKind.bits, Int.reducePow]; omega) | (simp [CC]; done) | (constructor <;> omega)))
     | (refine Br.mk ?_ ?_ <;> intro hb <;> (try simp only [ZZ] at hb) <;> (first | omega | skip))
     | refine Src.whole ⟨rfl, rfl⟩ ?_ | refine FrzV.whole ?_) <;> conv => whnf)
    · refine PostCl.of (h0 r hR.symm hr0) ?_ ?_
      · repeat first | exact trivial | refine ⟨VLe.refl _, ?_⟩
      · repeat first | exact trivial | refine ⟨by decide, ?_⟩
  | succ q ih =>
    intro i r hi h1 hr0 hr1 hR
    obtain ⟨b, hb⟩ : ∃ b, s[i]? = some b := ⟨_, List.getElem?_eq_getElem (show i < s.length by omega)⟩
    rw [drop_cons hb, takeL] at hR
    have hbl := UInt8.toNat_lt b
    have hst := takeU_step (q := q) (by omega) hr1 (x := (b.toNat % 64 : Nat)) (by omega)
    have hg : s.getD (Int.toNat ↑i) 0 = b := getD_of (by simpa using hb)
    refine LoopW.round (pol := polG) mixP ?_
    conv => whnf
    repeat' ((first
     | ((with_reducible first | refine Br.dec ?_ ?_ | refine Br.ndec ?_ ?_) <;> intro hb <;> (try simp only [ZZ] at hb) <;> (first | omega | skip))
     | (with_reducible first | refine Br.tt rfl ?_ | refine Br.ff rfl ?_ | refine Br.ff (isEmptyCons _ _) ?_)
     | ((with_reducible first | refine Side.mk ?_ ?_ | refine WrapW.mk ?_ ?_); focus (first | omega | (dsimp only [InR, Int.reduceToNat, IntKind.bits, Int.reducePow]; omega) | (simp only [hg, InR]; omega) | (simp [CC]; done) | (constructor <;> omega)))
     | (refine Br.mk ?_ ?_ <;> intro hb <;> (try simp only [ZZ] at hb) <;> (first | omega | skip))
     | refine Src.whole ⟨rfl, rfl⟩ ?_ | refine FrzV.whole ?_) <;> conv => whnf)
    · rw [hg] at hb
      rw [if_neg (by omega)] at hR
      refine PostCl.of (hr hR.symm) ?_ ?_
      · repeat first | exact trivial | refine ⟨VLe.refl _, ?_⟩
      · repeat first | exact trivial | refine ⟨by decide, ?_⟩
    · rename_i h1
      rw [hg] at hb h1
      rw [if_neg (by omega)] at hR
      refine PostCl.of (hr hR.symm) ?_ ?_
      · repeat first | exact trivial | refine ⟨VLe.refl _, ?_⟩
      · repeat first | exact trivial | refine ⟨by decide, ?_⟩
    · rename_i h1
      rw [hg] at hb h1 ⊢
      rw [if_pos (by omega)] at hR
      have e : 64 * r + (b.toNat : Int) - 128 = r * 64 + (b.toNat % 64 : Nat) := by omega
      rw [e]
      refine LoopW.sub (ih (i + 1) _ (by omega) (by omega) (by omega) hst.1 hR) (by repeat first | exact trivial | refine ⟨VLe.refl _, ?_⟩) (by repeat first | exact trivial | refine ⟨by decide, ?_⟩)
theorem ref1_Take (s : Str) (hs : s.length ≤ 1073741824) : AbsCall PP GG F.ref1_Take [.p (.str s)] [] ⟨.ret (.tup [.p (.int .i64 (utfTake s).1), .p (.int .i64 (utfTake s).2)]), [], []⟩ := by
  rw [← refTake_eq]
  cases s with
  | nil =>
    refine absCall_of (pol := polG) mixP F.ref1_Take_is ?_
    conv => whnf
    repeat' ((first
     | ((with_reducible first | refine Br.dec ?_ ?_ | refine Br.ndec ?_ ?_) <;> intro hb <;> (try simp only [ZZ] at hb) <;> (first | omega | skip))
     | (with_reducible first | refine Br.tt rfl ?_ | refine Br.ff rfl ?_ | refine Br.ff (isEmptyCons _ _) ?_)
     | ((with_reducible first | refine Side.mk ?_ ?_ | refine WrapW.mk ?_ ?_); focus (first | omega | (dsimp only [InR, Int.reduceToNat, IntKind.bits, Int.reducePow]; omega) | (simp [CC]; done) | (constructor <;> omega)))
     | (refine Br.mk ?_ ?_ <;> intro hb <;> (try simp only [ZZ] at hb) <;> (first | omega | skip))
     | refine Src.whole ⟨rfl, rfl⟩ ?_ | refine FrzV.whole ?_) <;> conv => whnf)
    exact CLe.eq rfl
  | cons c cs =>
    have hc : c.toNat < 256 := UInt8.toNat_lt c
    have hg0 : (c :: cs).getD (Int.toNat 0) 0 = c := rfl
    have hl : (c :: cs).length = cs.length + 1 := rfl
    have h0 : (utfBegins c.toNat).1 = 0 ∨ ((c :: cs).length : Int) < (utfBegins c.toNat).1 → refTake (c :: cs) = (0, 0) := fun h => by unfold refTake; simp only []; rw [if_pos h]
    have hT0 : ¬ ((utfBegins c.toNat).1 = 0 ∨ ((c :: cs).length : Int) < (utfBegins c.toNat).1) → refTake (c :: cs) = _ := fun h => by unfold refTake; simp only []; rw [if_neg h]
    refine absCall_of (pol := polG) mixP F.ref1_Take_is ?_
    conv => whnf
    repeat' ((first
     | ((with_reducible first | refine Br.dec ?_ ?_ | refine Br.ndec ?_ ?_) <;> intro hb <;> (try simp only [And.intro @hg0 (ZZ)] at hb) <;> (first | omega | skip))
     | (with_reducible first | refine Br.tt rfl ?_ | refine Br.ff rfl ?_ | refine Br.ff (isEmptyCons _ _) ?_)
     | ((with_reducible first | refine Side.mk ?_ ?_ | refine WrapW.mk ?_ ?_); focus (first | omega | (dsimp only [InR, Int.reduceToNat, IntKind.bits, Int.reducePow]; omega) | (simp only [hg0, InR]; omega) | (simp only [List.length_cons]; omega) | (simp [CC]; done) | (constructor <;> omega)))
     | (refine Br.mk ?_ ?_ <;> intro hb <;> (try simp only [And.intro @hg0 (ZZ)] at hb) <;> (first | omega | skip))
     | refine Src.whole ⟨rfl, rfl⟩ ?_ | refine FrzV.whole ?_) <;> conv => whnf)
    · exact CLe.eq (by rw [h0 (by unfold utfBegins; (repeat' split) <;> first | omega | exact Or.inl rfl | (simp only []; omega))])
    · have hB : utfBegins c.toNat = (4, ((((c :: cs).getD (Int.toNat 0) 0).toNat : Int) - 240)) := by unfold utfBegins; rw [hg0]; (repeat' split) <;> first | omega | rfl | (congr 1; omega)
      have hr0 := utfBegins_r c.toNat
      have hT := hT0 (by rw [hB]; simp only []; omega)
      rw [hB] at hr0 hT
      simp only [] at hr0 hT
      refine LoopW.cl ?_
      refine LoopW.sub (refTake_loop (c :: cs) 4 (by omega) (by omega) (takeL 3 cs ((((c :: cs).getD (Int.toNat 0) 0).toNat : Int) - 240)) _ (fun r' hr' hp' => ?_) (fun hr' => ?_) 3 1 ((((c :: cs).getD (Int.toNat 0) 0).toNat : Int) - 240) (by omega) (by omega) (by omega) (by have := takeU_pos 3 (by omega); omega) rfl) (by repeat first | exact trivial | refine ⟨VLe.refl _, ?_⟩) (by repeat first | exact trivial | refine ⟨by decide, ?_⟩)
      · conv => whnf
        have hT : refTake (c :: cs) = if utfEnc r' = List.take 4 (c :: cs) then (r', 4) else (0, 0) := by rw [hT, show takeL (Int.toNat 4 - 1) cs ((((c :: cs).getD (Int.toNat 0) 0).toNat : Int) - 240) = some r' from hr']; rfl
        repeat' ((first
         | ((with_reducible first | refine Br.dec ?_ ?_ | refine Br.ndec ?_ ?_) <;> intro hb <;> (try simp only [ZZ] at hb) <;> (first | omega | skip))
         | (with_reducible first | refine Br.tt rfl ?_ | refine Br.ff rfl ?_ | refine Br.ff (isEmptyCons _ _) ?_)
         | ((with_reducible first | refine Side.mk ?_ ?_ | refine WrapW.mk ?_ ?_); focus (first | omega | (dsimp only [InR, Int.reduceToNat, IntKind.bits, Int.reducePow]; omega) | (simp [CC]; done) | (constructor <;> omega)))
         | (refine Br.mk ?_ ?_ <;> intro hb <;> (try simp only [ZZ] at hb) <;> (first | omega | skip))
         | refine Src.whole ⟨rfl, rfl⟩ ?_ | refine FrzV.whole ?_
         | refine CallW.use (ref1_Put _) ?_) <;> conv => whnf)
        · exact CLe.eq (by rw [hT, if_neg (show ¬ utfEnc r' = List.take 4 (c :: cs) from hb)])
        · exact CLe.eq (by rw [hT, if_pos (show utfEnc r' = List.take 4 (c :: cs) from hb)]; rfl)
      · conv => whnf
        exact CLe.eq (by rw [hT, show takeL (Int.toNat 4 - 1) cs ((((c :: cs).getD (Int.toNat 0) 0).toNat : Int) - 240) = none from hr'])
    · exact CLe.eq (by rw [h0 (by unfold utfBegins; (repeat' split) <;> first | omega | exact Or.inl rfl | (simp only []; omega))])
    · exact CLe.eq (by rw [h0 (by unfold utfBegins; (repeat' split) <;> first | omega | exact Or.inl rfl | (simp only []; omega))])
    · have hB : utfBegins c.toNat = (3, ((((c :: cs).getD (Int.toNat 0) 0).toNat : Int) - 224)) := by unfold utfBegins; rw [hg0]; (repeat' split) <;> first | omega | rfl | (congr 1; omega)
      have hr0 := utfBegins_r c.toNat
      have hT := hT0 (by rw [hB]; simp only []; omega)
      rw [hB] at hr0 hT
      simp only [] at hr0 hT
      refine LoopW.cl ?_
      refine LoopW.sub (refTake_loop (c :: cs) 3 (by omega) (by omega) (takeL 2 cs ((((c :: cs).getD (Int.toNat 0) 0).toNat : Int) - 224)) _ (fun r' hr' hp' => ?_) (fun hr' => ?_) 2 1 ((((c :: cs).getD (Int.toNat 0) 0).toNat : Int) - 224) (by omega) (by omega) (by omega) (by have := takeU_pos 2 (by omega); omega) rfl) (by repeat first | exact trivial | refine ⟨VLe.refl _, ?_⟩) (by repeat first | exact trivial | refine ⟨by decide, ?_⟩)
      · conv => whnf
        have hT : refTake (c :: cs) = if utfEnc r' = List.take 3 (c :: cs) then (r', 3) else (0, 0) := by rw [hT, show takeL (Int.toNat 3 - 1) cs ((((c :: cs).getD (Int.toNat 0) 0).toNat : Int) - 224) = some r' from hr']; rfl
        repeat' ((first
         | ((with_reducible first | refine Br.dec ?_ ?_ | refine Br.ndec ?_ ?_) <;> intro hb <;> (try simp only [ZZ] at hb) <;> (first | omega | skip))
         | (with_reducible first | refine Br.tt rfl ?_ | refine Br.ff rfl ?_ | refine Br.ff (isEmptyCons _ _) ?_)
         | ((with_reducible first | refine Side.mk ?_ ?_ | refine WrapW.mk ?_ ?_); focus (first | omega | (dsimp only [InR, Int.reduceToNat, IntKind.bits, Int.reducePow]; omega) | (simp [CC]; done) | (constructor <;> omega)))
         | (refine Br.mk ?_ ?_ <;> intro hb <;> (try simp only [ZZ] at hb) <;> (first | omega | skip))
         | refine Src.whole ⟨rfl, rfl⟩ ?_ | refine FrzV.whole ?_
         | refine CallW.use (ref1_Put _) ?_) <;> conv => whnf)
        · exact CLe.eq (by rw [hT, if_neg (show ¬ utfEnc r' = List.take 3 (c :: cs) from hb)])
        · exact CLe.eq (by rw [hT, if_pos (show utfEnc r' = List.take 3 (c :: cs) from hb)]; rfl)
      · conv => whnf
        exact CLe.eq (by rw [hT, show takeL (Int.toNat 3 - 1) cs ((((c :: cs).getD (Int.toNat 0) 0).toNat : Int) - 224) = none from hr'])
    · exact CLe.eq (by rw [h0 (by unfold utfBegins; (repeat' split) <;> first | omega | exact Or.inl rfl | (simp only []; omega))])
    · have hB : utfBegins c.toNat = (2, ((((c :: cs).getD (Int.toNat 0) 0).toNat : Int) - 192)) := by unfold utfBegins; rw [hg0]; (repeat' split) <;> first | omega | rfl | (congr 1; omega)
      have hr0 := utfBegins_r c.toNat
      have hT := hT0 (by rw [hB]; simp only []; omega)
      rw [hB] at hr0 hT
      simp only [] at hr0 hT
      refine LoopW.cl ?_
      refine LoopW.sub (refTake_loop (c :: cs) 2 (by omega) (by omega) (takeL 1 cs ((((c :: cs).getD (Int.toNat 0) 0).toNat : Int) - 192)) _ (fun r' hr' hp' => ?_) (fun hr' => ?_) 1 1 ((((c :: cs).getD (Int.toNat 0) 0).toNat : Int) - 192) (by omega) (by omega) (by omega) (by have := takeU_pos 1 (by omega); omega) rfl) (by repeat first | exact trivial | refine ⟨VLe.refl _, ?_⟩) (by repeat first | exact trivial | refine ⟨by decide, ?_⟩)
      · conv => whnf
        have hT : refTake (c :: cs) = if utfEnc r' = List.take 2 (c :: cs) then (r', 2) else (0, 0) := by rw [hT, show takeL (Int.toNat 2 - 1) cs ((((c :: cs).getD (Int.toNat 0) 0).toNat : Int) - 192) = some r' from hr']; rfl
        repeat' ((first
         | ((with_reducible first | refine Br.dec ?_ ?_ | refine Br.ndec ?_ ?_) <;> intro hb <;> (try simp only [ZZ] at hb) <;> (first | omega | skip))
         | (with_reducible first | refine Br.tt rfl ?_ | refine Br.ff rfl ?_ | refine Br.ff (isEmptyCons _ _) ?_)
         | ((with_reducible first | refine Side.mk ?_ ?_ | refine WrapW.mk ?_ ?_); focus (first | omega | (dsimp only [InR, Int.reduceToNat, IntKind.bits, Int.reducePow]; omega) | (simp [CC]; done) | (constructor <;> omega)))
         | (refine Br.mk ?_ ?_ <;> intro hb <;> (try simp only [ZZ] at hb) <;> (first | omega | skip))
         | refine Src.whole ⟨rfl, rfl⟩ ?_ | refine FrzV.whole ?_
         | refine CallW.use (ref1_Put _) ?_) <;> conv => whnf)
        · exact CLe.eq (by rw [hT, if_neg (show ¬ utfEnc r' = List.take 2 (c :: cs) from hb)])
        · exact CLe.eq (by rw [hT, if_pos (show utfEnc r' = List.take 2 (c :: cs) from hb)]; rfl)
      · conv => whnf
        exact CLe.eq (by rw [hT, show takeL (Int.toNat 2 - 1) cs ((((c :: cs).getD (Int.toNat 0) 0).toNat : Int) - 192) = none from hr'])
    · exact CLe.eq (by rw [h0 (by unfold utfBegins; (repeat' split) <;> first | omega | exact Or.inl rfl | (simp only []; omega))])
    · have hB : utfBegins c.toNat = (1, (((c :: cs).getD (Int.toNat 0) 0).toNat : Int)) := by unfold utfBegins; rw [hg0]; (repeat' split) <;> first | omega | rfl | (congr 1; omega)
      have hr0 := utfBegins_r c.toNat
      have hT := hT0 (by rw [hB]; simp only []; omega)
      rw [hB] at hr0 hT
      simp only [] at hr0 hT
      refine LoopW.cl ?_
      refine LoopW.sub (refTake_loop (c :: cs) 1 (by omega) (by omega) (takeL 0 cs (((c :: cs).getD (Int.toNat 0) 0).toNat : Int)) _ (fun r' hr' hp' => ?_) (fun hr' => ?_) 0 1 (((c :: cs).getD (Int.toNat 0) 0).toNat : Int) (by omega) (by omega) (by omega) (by have := takeU_pos 0 (by omega); omega) rfl) (by repeat first | exact trivial | refine ⟨VLe.refl _, ?_⟩) (by repeat first | exact trivial | refine ⟨by decide, ?_⟩)
      · conv => whnf
        have hT : refTake (c :: cs) = if utfEnc r' = List.take 1 (c :: cs) then (r', 1) else (0, 0) := by rw [hT, show takeL (Int.toNat 1 - 1) cs (((c :: cs).getD (Int.toNat 0) 0).toNat : Int) = some r' from hr']; rfl
        repeat' ((first
         | ((with_reducible first | refine Br.dec ?_ ?_ | refine Br.ndec ?_ ?_) <;> intro hb <;> (try simp only [ZZ] at hb) <;> (first | omega | skip))
         | (with_reducible first | refine Br.tt rfl ?_ | refine Br.ff rfl ?_ | refine Br.ff (isEmptyCons _ _) ?_)
         | ((with_reducible first | refine Side.mk ?_ ?_ | refine WrapW.mk ?_ ?_); focus (first | omega | (dsimp only [InR, Int.reduceToNat, IntKind.bits, Int.reducePow]; omega) | (simp [CC]; done) | (constructor <;> omega)))
         | (refine Br.mk ?_ ?_ <;> intro hb <;> (try simp only [ZZ] at hb) <;> (first | omega | skip))
         | refine Src.whole ⟨rfl, rfl⟩ ?_ | refine FrzV.whole ?_
         | refine CallW.use (ref1_Put _) ?_) <;> conv => whnf)
        · exact CLe.eq (by rw [hT, if_neg (show ¬ utfEnc r' = List.take 1 (c :: cs) from hb)])
        · exact CLe.eq (by rw [hT, if_pos (show utfEnc r' = List.take 1 (c :: cs) from hb)]; rfl)
      · conv => whnf
        exact CLe.eq (by rw [hT, show takeL (Int.toNat 1 - 1) cs (((c :: cs).getD (Int.toNat 0) 0).toNat : Int) = none from hr'])
theorem refValid_loop (s : Str) (hs : s.length ≤ 1073741824) (R : Int × Bool) (K : Post)
    (h0 : R = ((s.length : Int), true) → K (.exit 0) [(0, .p (.str s))] [] [])
    (hr : R.2 = false → K .ret [(2, .p (.int .i64 R.1))] [] []) :
    ∀ (q i : Nat), s.length ≤ i + q → i ≤ s.length → utfScan q (s.drop i) i = R →
      LoopW PP GG 23 0 (loopN F.ref1_Valid_c 0) [(0, .p (.str s)), (3, .p (.int .i64 i))] [] [] (PostCl 23 K) := by
  intro q
  induction q with
  | zero =>
    intro i hi hil hR
    rw [utfScan] at hR
    subst hR
    refine LoopW.round (pol := polG) mixP ?_
    conv => whnf
    repeat' ((first
     | ((with_reducible first | refine Br.dec ?_ ?_ | refine Br.ndec ?_ ?_) <;> intro hb <;> (try simp only [ZZ] at hb) <;> (first | omega | skip))
     | (with_reducible first | refine Br.tt rfl ?_ | refine Br.ff rfl ?_ | refine Br.ff (isEmptyCons _ _) ?_)
     | ((with_reducible first | refine Side.mk ?_ ?_ | refine WrapW.mk ?_ ?_); focus (first | omega | (dsimp only [InR, Int.reduceToNat, IntKind.bits, Int.reducePow]; omega) | (simp [CC]; done) | (constructor <;> omega)))
     | (refine Br.mk ?_ ?_ <;> intro hb <;> (try simp only [ZZ] at hb) <;> (first | omega | skip))
     | refine Src.whole ⟨rfl, rfl⟩ ?_ | refine FrzV.whole ?_) <;> conv => whnf)
    · refine PostCl.of (h0 (by congr 1; omega)) ?_ ?_
      · repeat first | exact trivial | refine ⟨VLe.refl _, ?_⟩
      · repeat first | exact trivial | refine ⟨by decide, ?_⟩
  | succ q ih =>
    intro i hi hil hR
    have hT := utfTake_n (s.drop i)
    have hd : (s.drop i).length ≤ 1073741824 := by simp only [List.length_drop]; omega
    have hdl : (s.drop i).length = s.length - i := List.length_drop
    cases hsd : s.drop i with
    | nil =>
      have : (s.drop i).length = 0 := by rw [hsd]; rfl
      rw [hsd, utfScan] at hR
      subst hR
      refine LoopW.round (pol := polG) mixP ?_
      conv => whnf
      repeat' ((first
       | ((with_reducible first | refine Br.dec ?_ ?_ | refine Br.ndec ?_ ?_) <;> intro hb <;> (try simp only [ZZ] at hb) <;> (first | omega | skip))
       | (with_reducible first | refine Br.tt rfl ?_ | refine Br.ff rfl ?_ | refine Br.ff (isEmptyCons _ _) ?_)
       | ((with_reducible first | refine Side.mk ?_ ?_ | refine WrapW.mk ?_ ?_); focus (first | omega | (dsimp only [InR, Int.reduceToNat, IntKind.bits, Int.reducePow]; omega) | (simp [CC]; done) | (constructor <;> omega)))
       | (refine Br.mk ?_ ?_ <;> intro hb <;> (try simp only [ZZ] at hb) <;> (first | omega | skip))
       | refine Src.whole ⟨rfl, rfl⟩ ?_ | refine FrzV.whole ?_) <;> conv => whnf)
      · refine PostCl.of (h0 (by congr 1; omega)) ?_ ?_
        · repeat first | exact trivial | refine ⟨VLe.refl _, ?_⟩
        · repeat first | exact trivial | refine ⟨by decide, ?_⟩
    | cons c cs =>
      have hlt : i < s.length := by have : (s.drop i).length = cs.length + 1 := by rw [hsd]; rfl
                                    omega
      rw [hsd, utfScan, ← hsd] at hR
      refine LoopW.round (pol := polG) mixP ?_
      conv => whnf
      repeat' ((first
       | ((with_reducible first | refine Br.dec ?_ ?_ | refine Br.ndec ?_ ?_) <;> intro hb <;> (try simp only [ZZ] at hb) <;> (first | omega | skip))
       | (with_reducible first | refine Br.tt rfl ?_ | refine Br.ff rfl ?_ | refine Br.ff (isEmptyCons _ _) ?_)
       | ((with_reducible first | refine Side.mk ?_ ?_ | refine WrapW.mk ?_ ?_); focus (first | omega | (dsimp only [InR, Int.reduceToNat, IntKind.bits, Int.reducePow]; omega) | (simp [CC]; done) | (constructor <;> omega)))
       | (refine Br.mk ?_ ?_ <;> intro hb <;> (try simp only [ZZ] at hb) <;> (first | omega | skip))
       | refine Src.whole ⟨rfl, rfl⟩ ?_ | refine FrzV.whole ?_
       | refine CallW.use (ref1_Take (s.drop i) hd) ?_) <;> conv => whnf)
      · rw [if_pos hb] at hR
        subst hR
        refine PostCl.of (hr rfl) ?_ ?_
        · repeat first | exact trivial | refine ⟨VLe.refl _, ?_⟩
        · repeat first | exact trivial | refine ⟨by decide, ?_⟩
      · rw [if_neg hb, List.drop_drop] at hR
        obtain ⟨m, hm⟩ : ∃ m : Nat, (utfTake (s.drop i)).2 = m := ⟨(utfTake (s.drop i)).2.toNat, by omega⟩
        rw [hm] at hR ⊢
        refine LoopW.sub (ih (i + m) (by omega) (by omega) (by rw [← hR]; congr 1)) (by repeat first | exact trivial | refine ⟨VLe.refl _, ?_⟩) (by repeat first | exact trivial | refine ⟨by decide, ?_⟩)
theorem ref1_Valid (s : Str) (hs : s.length ≤ 1073741824) : AbsCall PP GG F.ref1_Valid [.p (.str s)] [] ⟨.ret (.p (.int .i64 (refValid s))), [], []⟩ := by
  refine absCall_of (pol := polG) mixP F.ref1_Valid_is ?_
  conv => whnf
  refine LoopW.cl ?_
  refine LoopW.sub (refValid_loop s hs (utfValid s) _ (fun h => ?_) (fun h => ?_) s.length 0 (by omega) (by omega) rfl) (by repeat first | exact trivial | refine ⟨VLe.refl _, ?_⟩) (by repeat first | exact trivial | refine ⟨by decide, ?_⟩)
  · conv => whnf
    exact CLe.eq (by unfold refValid; rw [h]; rfl)
  · conv => whnf
    exact CLe.eq (by unfold refValid; rw [if_neg (by rw [h]; simp)])
end Go.Proofs.YthkoefpidnphpaaGreatDoor
end

section
namespace Go.Am
mutual
def steep : Tree → Int → Int → Bool × Int
  | .mk _ _ _ l m, d, n => if d < 1 ∨ n < 1 then (true, 0) else match steepL l (d - 1) (n - 1) with
    | (true, _) => (true, 0)
    | (false, n') => steepM m (d - 1) n'
def steepL : List Tree → Int → Int → Bool × Int
  | [], _, n => (false, n)
  | t :: l, d, n => match steep t d n with
    | (true, _) => (true, 0)
    | (false, n') => steepL l d n'
def steepM : List (Str × Tree) → Int → Int → Bool × Int
  | [], _, n => (false, n)
  | p :: m, d, n => match steepP p d n with
    | (true, _) => (true, 0)
    | (false, n') => steepM m d n'
def steepP : Str × Tree → Int → Int → Bool × Int
  | (_, t), d, n => steep t d n
end
theorem steepL_cons (t : Tree) (l : List Tree) (d n : Int) : steepL (t :: l) d n = if (steep t d n).1 = true then (true, 0) else steepL l d (steep t d n).2 := by
  rw [steepL]
  cases h : steep t d n with
  | mk a b => cases a <;> simp
theorem steepM_cons (p : Str × Tree) (m : List (Str × Tree)) (d n : Int) : steepM (p :: m) d n = if (steep p.2 d n).1 = true then (true, 0) else steepM m d (steep p.2 d n).2 := by
  obtain ⟨k, t⟩ := p
  rw [steepM, steepP]
  cases h : steep t d n with
  | mk a b => cases a <;> simp
theorem steep_mk (k n : Int) (s : Str) (l : List Tree) (m : List (Str × Tree)) (d q : Int) : steep (.mk k n s l m) d q = if d < 1 ∨ q < 1 then (true, 0) else if (steepL l (d - 1) (q - 1)).1 = true then (true, 0) else steepM m (d - 1) (steepL l (d - 1) (q - 1)).2 := by
  rw [steep]
  split
  · rfl
  · cases h : steepL l (d - 1) (q - 1) with
    | mk a b => cases a <;> simp
def SteepOk (R : Bool × Int) (n : Int) : Prop := 0 ≤ R.2 ∧ R.2 ≤ n
theorem steepL_ok {l : List Tree} (h : ∀ t ∈ l, ∀ d n : Int, 0 ≤ n → SteepOk (steep t d n) n) : ∀ d n : Int, 0 ≤ n → SteepOk (steepL l d n) n := by
  induction l with
  | nil => intro d n hn; simp [steepL, SteepOk, hn]
  | cons t l ih =>
    intro d n hn
    have h1 := h t (by simp) d n hn
    rw [steepL_cons]
    split
    · exact ⟨by simp, by simpa using hn⟩
    · have h2 := ih (fun x hx => h x (by simp [hx])) d _ h1.1
      exact ⟨h2.1, Int.le_trans h2.2 h1.2⟩
theorem steepM_ok {l : List (Str × Tree)} (h : ∀ t ∈ l, ∀ d n : Int, 0 ≤ n → SteepOk (steep t.2 d n) n) : ∀ d n : Int, 0 ≤ n → SteepOk (steepM l d n) n := by
  induction l with
  | nil => intro d n hn; simp [steepM, SteepOk, hn]
  | cons t l ih =>
    intro d n hn
    have h1 := h t (by simp) d n hn
    rw [steepM_cons]
    split
    · exact ⟨by simp, by simpa using hn⟩
    · have h2 := ih (fun x hx => h x (by simp [hx])) d _ h1.1
      exact ⟨h2.1, Int.le_trans h2.2 h1.2⟩
theorem steep_ok : ∀ (t : Tree) (d n : Int), 0 ≤ n → SteepOk (steep t d n) n := by
  refine Tree.ind ?_
  rintro ⟨k, q, s, l, m⟩ hl hm d n hn
  replace hl : ∀ x ∈ l, ∀ d n : Int, 0 ≤ n → SteepOk (steep x d n) n := hl
  replace hm : ∀ x ∈ m, ∀ d n : Int, 0 ≤ n → SteepOk (steep x.2 d n) n := hm
  rw [steep_mk]
  split
  · exact ⟨by simp, by simpa using hn⟩
  · rename_i hc
    have h1 := steepL_ok hl (d - 1) (n - 1) (by omega)
    split
    · exact ⟨by simp, by simpa using hn⟩
    · have h2 := steepM_ok hm (d - 1) _ h1.1
      exact ⟨h2.1, by have := h2.2; have := h1.2; omega⟩
end Go.Am
end

section
namespace Go.Proofs.YthkoefpidnphpaaGreatDoor
open Go Go.Am
set_option maxRecDepth 100000
def SteepIs (t : Tree) : Prop := ∀ d n : Int, 0 ≤ d → d ≤ 1000000 → 0 ≤ n → n ≤ 1000000 →
  AbsCall PP GG F.ref1_steep [.p t.enc, .p (.int .i64 d), .p (.int .i64 n)] [] ⟨.ret (.tup [.p (.bool (steep t d n).1), .p (.int .i64 (steep t d n).2)]), [], []⟩
theorem steep_loopL (t : Tree) (d : Int) (hd : 1 ≤ d ∧ d ≤ 1000000) (R : Bool × Int) (K : Post) (hl : ∀ x ∈ t.l, SteepIs x) (hw : t.wt ≤ 4000000)
    (h0 : ∀ n : Int, R = (false, n) → 0 ≤ n → n ≤ 1000000 → K (.exit 0) [(1, .p (.int .i64 d)), (2, .p (.int .i64 n)), (3, .ptr 0 0)] [.var T.api_Value (.p t.enc)] [])
    (hr : R = (true, 0) → K .ret [(6, .p (.bool true)), (7, .p (.int .i64 0))] [.var T.api_Value (.p t.enc)] []) :
    ∀ (q i : Nat) (n : Int), i + q = t.l.length → 0 ≤ n → n ≤ 1000000 → steepL (t.l.drop i) (d - 1) n = R →
      LoopW PP GG 66 0 (loopN F.ref1_steep_c 0) [(1, .p (.int .i64 d)), (2, .p (.int .i64 n)), (3, .ptr 0 0), (8, .p (.int .i64 i))] [.var T.api_Value (.p t.enc)] [] (PostCl 66 K) := by
  rw [Tree.enc_eta t] at h0 hr ⊢
  have hwl := t.wt_ll
  have hlen : (Tree.encL t.l).length = t.l.length := Tree.encL_length _
  intro q
  induction q with
  | zero =>
    intro i n hi h1 h2 hR
    rw [List.drop_eq_nil_of_le (by omega), steepL] at hR
    refine LoopW.round (pol := polG) mixP ?_
    conv => whnf
    repeat' ((first
     | ((with_reducible first | refine Br.dec ?_ ?_ | refine Br.ndec ?_ ?_) <;> intro hb <;> (try simp only [And.intro @hlen (ZZ)] at hb) <;> (first | omega | skip))
     | (with_reducible first | refine Br.tt rfl ?_ | refine Br.ff rfl ?_ | refine Br.ff (isEmptyCons _ _) ?_)
     | ((with_reducible first | refine Side.mk ?_ ?_ | refine WrapW.mk ?_ ?_); focus (first | omega | (dsimp only [InR, Int.reduceToNat, IntKind.bits, Int.reducePow]; omega) | (simp [CC]; done) | (constructor <;> omega)))
     | (refine Br.mk ?_ ?_ <;> intro hb <;> (try simp only [And.intro @hlen (ZZ)] at hb) <;> (first | omega | skip))
     | refine Src.whole ⟨rfl, rfl⟩ ?_ | refine FrzV.whole ?_) <;> conv => whnf)
    · refine PostCl.of (h0 n hR.symm h1 h2) ?_ ?_
      · repeat first | exact trivial | refine ⟨VLe.refl _, ?_⟩
      · repeat first | exact trivial | refine ⟨by decide, ?_⟩
  | succ q ih =>
    intro i n hi h1 h2 hR
    obtain ⟨x, hx⟩ : ∃ x, t.l[i]? = some x := ⟨_, List.getElem?_eq_getElem (show i < t.l.length by omega)⟩
    rw [drop_cons hx, steepL_cons] at hR
    have hxm : x ∈ t.l := List.mem_of_getElem? hx
    have hok := steep_ok x (d - 1) n h1
    unfold SteepOk at hok
    refine LoopW.round (pol := polG) mixP ?_
    conv => whnf
    repeat' ((first
     | ((with_reducible first | refine Br.dec ?_ ?_ | refine Br.ndec ?_ ?_) <;> intro hb <;> (try simp only [And.intro @hlen (ZZ)] at hb) <;> (first | omega | skip))
     | (with_reducible first | refine Br.tt rfl ?_ | refine Br.ff rfl ?_ | refine Br.ff (isEmptyCons _ _) ?_)
     | ((with_reducible first | refine Side.mk ?_ ?_ | refine WrapW.mk ?_ ?_); focus (first | omega | (dsimp only [InR, Int.reduceToNat, IntKind.bits, Int.reducePow]; omega) | exact ⟨(Tree.enc_cells x).symm, (Tree.enc_isAgg x).symm⟩ | (simp [CC]; done) | (constructor <;> omega)))
     | (refine Br.mk ?_ ?_ <;> intro hb <;> (try simp only [And.intro @hlen (ZZ)] at hb) <;> (first | omega | skip))
     | refine Src.whole ⟨rfl, rfl⟩ ?_ | refine FrzV.whole ?_
     | refine CallW.use (hl x hxm _ _ (by omega) (by omega) (by omega) (by omega)) ?_
     | (refine ElemZ.tree (by simpa using hx) ?_)) <;> conv => whnf)
    · refine PostCl.of (hr (by rw [← hR, if_pos hb])) ?_ ?_
      · repeat first | exact trivial | refine ⟨VLe.refl _, ?_⟩
      · repeat first | exact trivial | refine ⟨by decide, ?_⟩
    · rw [if_neg (by rw [hb]; simp)] at hR
      refine LoopW.sub (ih (i + 1) _ (by omega) (by omega) (by omega) hR) (by repeat first | exact trivial | refine ⟨VLe.refl _, ?_⟩) (by repeat first | exact trivial | refine ⟨by decide, ?_⟩)
theorem steep_loopM (t : Tree) (d : Int) (hd : 1 ≤ d ∧ d ≤ 1000000) (R : Bool × Int) (K : Post) (hl : ∀ x ∈ t.m, SteepIs x.2) (hw : t.wt ≤ 4000000)
    (h0 : ∀ n : Int, R = (false, n) → K (.exit 2) [(2, .p (.int .i64 n))] [.var T.api_Value (.p t.enc)] [])
    (hr : R = (true, 0) → K .ret [(6, .p (.bool true)), (7, .p (.int .i64 0))] [.var T.api_Value (.p t.enc)] []) :
    ∀ (q i : Nat) (n : Int), i + q = t.m.length → 0 ≤ n → n ≤ 1000000 → steepM (t.m.drop i) (d - 1) n = R →
      LoopW PP GG 66 0 (loopN F.ref1_steep_c 1) [(1, .p (.int .i64 d)), (2, .p (.int .i64 n)), (3, .ptr 0 0), (11, .p (.int .i64 i))] [.var T.api_Value (.p t.enc)] [] (PostCl 66 K) := by
  rw [Tree.enc_eta t] at h0 hr ⊢
  have hwl := t.wt_ml
  have hlen : (Tree.encM t.m).length = t.m.length := Tree.encM_length _
  intro q
  induction q with
  | zero =>
    intro i n hi h1 h2 hR
    rw [List.drop_eq_nil_of_le (by omega), steepM] at hR
    refine LoopW.round (pol := polG) mixP ?_
    conv => whnf
    repeat' ((first
     | ((with_reducible first | refine Br.dec ?_ ?_ | refine Br.ndec ?_ ?_) <;> intro hb <;> (try simp only [And.intro @hlen (ZZ)] at hb) <;> (first | omega | skip))
     | (with_reducible first | refine Br.tt rfl ?_ | refine Br.ff rfl ?_ | refine Br.ff (isEmptyCons _ _) ?_)
     | ((with_reducible first | refine Side.mk ?_ ?_ | refine WrapW.mk ?_ ?_); focus (first | omega | (dsimp only [InR, Int.reduceToNat, IntKind.bits, Int.reducePow]; omega) | (simp [CC]; done) | (constructor <;> omega)))
     | (refine Br.mk ?_ ?_ <;> intro hb <;> (try simp only [And.intro @hlen (ZZ)] at hb) <;> (first | omega | skip))
     | refine Src.whole ⟨rfl, rfl⟩ ?_ | refine FrzV.whole ?_) <;> conv => whnf)
    · refine PostCl.of (h0 n hR.symm) ?_ ?_
      · repeat first | exact trivial | refine ⟨VLe.refl _, ?_⟩
      · repeat first | exact trivial | refine ⟨by decide, ?_⟩
  | succ q ih =>
    intro i n hi h1 h2 hR
    obtain ⟨x, hx⟩ : ∃ x, t.m[i]? = some x := ⟨_, List.getElem?_eq_getElem (show i < t.m.length by omega)⟩
    rw [drop_cons hx, steepM_cons] at hR
    have hxm : x ∈ t.m := List.mem_of_getElem? hx
    have hok := steep_ok x.2 (d - 1) n h1
    unfold SteepOk at hok
    have hsp := hl x hxm (d - 1) n (by omega) (by omega) (by omega) (by omega)
    obtain ⟨k, y⟩ := x
    rw [Tree.enc_eta y] at hsp
    simp only [] at hok hR
    refine LoopW.round (pol := polG) mixP ?_
    conv => whnf
    repeat' ((first
     | ((with_reducible first | refine Br.dec ?_ ?_ | refine Br.ndec ?_ ?_) <;> intro hb <;> (try simp only [And.intro @hlen (ZZ)] at hb) <;> (first | omega | skip))
     | (with_reducible first | refine Br.tt rfl ?_ | refine Br.ff rfl ?_ | refine Br.ff (isEmptyCons _ _) ?_)
     | ((with_reducible first | refine Side.mk ?_ ?_ | refine WrapW.mk ?_ ?_); focus (first | omega | (dsimp only [InR, Int.reduceToNat, IntKind.bits, Int.reducePow]; omega) | exact ⟨rfl, rfl⟩ | (simp [CC]; done) | (constructor <;> omega)))
     | (refine Br.mk ?_ ?_ <;> intro hb <;> (try simp only [And.intro @hlen (ZZ)] at hb) <;> (first | omega | skip))
     | refine Src.whole ⟨rfl, rfl⟩ ?_ | refine FrzV.whole ?_
     | refine CallW.use (hsp) ?_
     | (refine ElemZ.pair (p := (k, y)) (by simpa using hx) ?_; (rw [Tree.encP, Tree.enc_eta y]; conv => whnf))) <;> conv => whnf)
    · refine PostCl.of (hr (by rw [← hR, if_pos hb])) ?_ ?_
      · repeat first | exact trivial | refine ⟨VLe.refl _, ?_⟩
      · repeat first | exact trivial | refine ⟨by decide, ?_⟩
    · rw [if_neg (by rw [hb]; simp)] at hR
      refine LoopW.sub (ih (i + 1) _ (by omega) (by omega) (by omega) hR) (by repeat first | exact trivial | refine ⟨VLe.refl _, ?_⟩) (by repeat first | exact trivial | refine ⟨by decide, ?_⟩)
theorem ref1_steep : ∀ t : Tree, t.wt ≤ 4000000 → SteepIs t := by
  refine Tree.indW fun t hw hl hm d n hd hd2 hn hn2 => ?_
  have hs : steep t d n = if d < 1 ∨ n < 1 then (true, 0) else if (steepL t.l (d - 1) (n - 1)).1 = true then (true, 0) else steepM t.m (d - 1) (steepL t.l (d - 1) (n - 1)).2 := by
    cases t with
    | mk k v s l m => exact steep_mk k v s l m d n
  refine absCall_of (pol := polG) mixP F.ref1_steep_is ?_
  conv => whnf
  repeat' ((first
   | ((with_reducible first | refine Br.dec ?_ ?_ | refine Br.ndec ?_ ?_) <;> intro hb <;> (try simp only [ZZ] at hb) <;> (first | omega | skip))
   | (with_reducible first | refine Br.tt rfl ?_ | refine Br.ff rfl ?_ | refine Br.ff (isEmptyCons _ _) ?_)
   | ((with_reducible first | refine Side.mk ?_ ?_ | refine WrapW.mk ?_ ?_); focus (first | omega | (dsimp only [InR, Int.reduceToNat, IntKind.bits, Int.reducePow]; omega) | (simp [CC]; done) | (constructor <;> omega)))
   | (refine Br.mk ?_ ?_ <;> intro hb <;> (try simp only [ZZ] at hb) <;> (first | omega | skip))
   | refine Src.whole ⟨rfl, rfl⟩ ?_ | refine FrzV.whole ?_) <;> conv => whnf)
  · exact CLe.eq (by rw [hs, if_pos (by omega)])
  · exact CLe.eq (by rw [hs, if_pos (by omega)])
  rw [if_neg (by omega)] at hs
  refine LoopW.cl ?_
  have hokl := steepL_ok (l := t.l) (fun x _ d n h => steep_ok x d n h) (d - 1) (n - 1) (by omega)
  unfold SteepOk at hokl
  refine LoopW.sub (steep_loopL t d (by omega) (steepL t.l (d - 1) (n - 1)) _ (fun x hx => (hl x hx).2) hw (fun q hq hq0 hq1 => ?_) (fun hq => ?_) t.l.length 0 (n - 1) (by omega) (by omega) (by omega) rfl) (by repeat first | exact trivial | refine ⟨VLe.refl _, ?_⟩) (by repeat first | exact trivial | refine ⟨by decide, ?_⟩)
  · conv => whnf
    repeat' ((first
     | ((with_reducible first | refine Br.dec ?_ ?_ | refine Br.ndec ?_ ?_) <;> intro hb <;> (try simp only [ZZ] at hb) <;> (first | omega | skip))
     | (with_reducible first | refine Br.tt rfl ?_ | refine Br.ff rfl ?_ | refine Br.ff (isEmptyCons _ _) ?_)
     | ((with_reducible first | refine Side.mk ?_ ?_ | refine WrapW.mk ?_ ?_); focus (first | omega | (dsimp only [InR, Int.reduceToNat, IntKind.bits, Int.reducePow]; omega) | (simp [CC]; done) | (constructor <;> omega)))
     | (refine Br.mk ?_ ?_ <;> intro hb <;> (try simp only [ZZ] at hb) <;> (first | omega | skip))
     | refine Src.whole ⟨rfl, rfl⟩ ?_ | refine FrzV.whole ?_) <;> conv => whnf)
    refine LoopW.cl ?_
    refine LoopW.sub (steep_loopM t d (by omega) (steepM t.m (d - 1) q) _ (fun x hx => (hm x hx).2.2) hw (fun r hr => ?_) (fun hr => ?_) t.m.length 0 q (by omega) (by omega) (by omega) rfl) (by repeat first | exact trivial | refine ⟨VLe.refl _, ?_⟩) (by repeat first | exact trivial | refine ⟨by decide, ?_⟩)
    · conv => whnf
      exact CLe.eq (by rw [hs, hq, if_neg (by simp)]; simp only []; rw [hr])
    · conv => whnf
      exact CLe.eq (by rw [hs, hq, if_neg (by simp)]; simp only []; rw [hr])
  · conv => whnf
    exact CLe.eq (by rw [hs, if_pos (by rw [hq])])
theorem ref1_Heavy (t : Tree) (n d : Int) (hw : t.wt ≤ 4000000) (hn : 0 ≤ n ∧ n ≤ 1000000) (hd : 0 ≤ d ∧ d ≤ 1000000) : AbsCall PP GG F.ref1_Heavy [.p t.enc, .p (.int .i64 n), .p (.int .i64 d)] [] ⟨.ret (.p (.bool (steep t d n).1)), [], []⟩ := by
  have hsp := ref1_steep t hw d n (by omega) (by omega) (by omega) (by omega)
  rw [Tree.enc_eta t] at hsp ⊢
  refine absCall_of (pol := polG) mixP F.ref1_Heavy_is ?_
  conv => whnf
  repeat' ((first
   | ((with_reducible first | refine Br.dec ?_ ?_ | refine Br.ndec ?_ ?_) <;> intro hb <;> (try simp only [ZZ] at hb) <;> (first | omega | skip))
   | (with_reducible first | refine Br.tt rfl ?_ | refine Br.ff rfl ?_ | refine Br.ff (isEmptyCons _ _) ?_)
   | ((with_reducible first | refine Side.mk ?_ ?_ | refine WrapW.mk ?_ ?_); focus (first | omega | (dsimp only [InR, Int.reduceToNat, IntKind.bits, Int.reducePow]; omega) | (simp [CC]; done) | (constructor <;> omega)))
   | (refine Br.mk ?_ ?_ <;> intro hb <;> (try simp only [ZZ] at hb) <;> (first | omega | skip))
   | refine Src.whole ⟨rfl, rfl⟩ ?_ | refine FrzV.whole ?_
   | refine CallW.use (hsp) ?_) <;> conv => whnf)
  exact CLe.eq rfl
theorem ref1_Str (s : Str) (hs : s.length ≤ 1073741824) : AbsCall PP GG F.ref1_Str [.p (.str s)] [] ⟨.ret (.p (.bool (strOk s))), [], []⟩ := by
  refine absCall_of (pol := polG) mixP F.ref1_Str_is ?_
  conv => whnf
  repeat' ((first
   | ((with_reducible first | refine Br.dec ?_ ?_ | refine Br.ndec ?_ ?_) <;> intro hb <;> (try simp only [ZZ] at hb) <;> (first | omega | skip))
   | (with_reducible first | refine Br.tt rfl ?_ | refine Br.ff rfl ?_ | refine Br.ff (isEmptyCons _ _) ?_)
   | ((with_reducible first | refine Side.mk ?_ ?_ | refine WrapW.mk ?_ ?_); focus (first | omega | (dsimp only [InR, Int.reduceToNat, IntKind.bits, Int.reducePow]; omega) | (simp [CC]; done) | (constructor <;> omega)))
   | (refine Br.mk ?_ ?_ <;> intro hb <;> (try simp only [ZZ] at hb) <;> (first | omega | skip))
   | refine Src.whole ⟨rfl, rfl⟩ ?_ | refine FrzV.whole ?_
   | refine CallW.use (ref1_Valid s hs) ?_) <;> conv => whnf)
  · exact CLe.retP (by unfold strOk; rw [refValid_neg, decide_eq_true (by omega), Bool.true_and])
  · exact CLe.retP (by unfold strOk; rw [decide_eq_false (by omega), Bool.false_and])
theorem stamp_loop (s : Str) (hs : s.length ≤ 64) (K : Post)
    (h0 : (∀ b ∈ s, 32 ≤ b.toNat ∧ b.toNat ≤ 126) → K (.exit 0) [] [] [])
    (hr : ¬ (∀ b ∈ s, 32 ≤ b.toNat ∧ b.toNat ≤ 126) → K .ret [(2, .p (.bool false))] [] []) :
    ∀ (q i : Nat), i + q = s.length → (∀ b ∈ s.take i, 32 ≤ b.toNat ∧ b.toNat ≤ 126) →
      LoopW PP GG 28 0 (loopN F.ref1_Stamp_c 0) [(0, .p (.str s)), (3, .p (.int .i64 i))] [] [] (PostCl 28 K) := by
  intro q
  induction q with
  | zero =>
    intro i hi hR
    rw [List.take_of_length_le (by omega)] at hR
    refine LoopW.round (pol := polG) mixP ?_
    conv => whnf
    repeat' ((first
     | ((with_reducible first | refine Br.dec ?_ ?_ | refine Br.ndec ?_ ?_) <;> intro hb <;> (try simp only [ZZ] at hb) <;> (first | omega | skip))
     | (with_reducible first | refine Br.tt rfl ?_ | refine Br.ff rfl ?_ | refine Br.ff (isEmptyCons _ _) ?_)
     | ((with_reducible first | refine Side.mk ?_ ?_ | refine WrapW.mk ?_ ?_); focus (first | omega | (dsimp only [InR, Int.reduceToNat, IntKind.bits, Int.reducePow]; omega) | (simp [CC]; done) | (constructor <;> omega)))
     | (refine Br.mk ?_ ?_ <;> intro hb <;> (try simp only [ZZ] at hb) <;> (first | omega | skip))
     | refine Src.whole ⟨rfl, rfl⟩ ?_ | refine FrzV.whole ?_) <;> conv => whnf)
    · refine PostCl.of (h0 hR) ?_ ?_
      · repeat first | exact trivial | refine ⟨VLe.refl _, ?_⟩
      · repeat first | exact trivial | refine ⟨by decide, ?_⟩
  | succ q ih =>
    intro i hi hR
    obtain ⟨b, hb⟩ : ∃ b, s[i]? = some b := ⟨_, List.getElem?_eq_getElem (show i < s.length by omega)⟩
    have hg : s.getD (Int.toNat ↑i) 0 = b := getD_of (by simpa using hb)
    have hbm : b ∈ s := List.mem_of_getElem? hb
    have hbl := UInt8.toNat_lt b
    have ht : s.take (i + 1) = s.take i ++ [b] := by rw [List.take_add_one, hb]; rfl
    refine LoopW.round (pol := polG) mixP ?_
    conv => whnf
    repeat' ((first
     | ((with_reducible first | refine Br.dec ?_ ?_ | refine Br.ndec ?_ ?_) <;> intro hb <;> (try simp only [And.intro @hg (ZZ)] at hb) <;> (first | omega | skip))
     | (with_reducible first | refine Br.tt rfl ?_ | refine Br.ff rfl ?_ | refine Br.ff (isEmptyCons _ _) ?_)
     | ((with_reducible first | refine Side.mk ?_ ?_ | refine WrapW.mk ?_ ?_); focus (first | omega | (dsimp only [InR, Int.reduceToNat, IntKind.bits, Int.reducePow]; omega) | (simp only [hg, InR]; omega) | (simp [CC]; done) | (constructor <;> omega)))
     | (refine Br.mk ?_ ?_ <;> intro hb <;> (try simp only [And.intro @hg (ZZ)] at hb) <;> (first | omega | skip))
     | refine Src.whole ⟨rfl, rfl⟩ ?_ | refine FrzV.whole ?_) <;> conv => whnf)
    · refine PostCl.of (hr (fun h => by have := h b hbm; omega)) ?_ ?_
      · repeat first | exact trivial | refine ⟨VLe.refl _, ?_⟩
      · repeat first | exact trivial | refine ⟨by decide, ?_⟩
    · refine PostCl.of (hr (fun h => by have := h b hbm; omega)) ?_ ?_
      · repeat first | exact trivial | refine ⟨VLe.refl _, ?_⟩
      · repeat first | exact trivial | refine ⟨by decide, ?_⟩
    · refine LoopW.sub (ih (i + 1) (by omega) (by rw [ht]; intro x hx; exact (List.mem_append.1 hx).elim (hR x) (fun h => by rw [List.mem_singleton] at h; subst h; omega))) (by repeat first | exact trivial | refine ⟨VLe.refl _, ?_⟩) (by repeat first | exact trivial | refine ⟨by decide, ?_⟩)
theorem ref1_Stamp (s : Str) : AbsCall PP GG F.ref1_Stamp [.p (.str s)] [] ⟨.ret (.p (.bool (stampOk s))), [], []⟩ := by
  refine absCall_of (pol := polG) mixP F.ref1_Stamp_is ?_
  conv => whnf
  repeat' ((first
   | ((with_reducible first | refine Br.dec ?_ ?_ | refine Br.ndec ?_ ?_) <;> intro hb <;> (try simp only [ZZ] at hb) <;> (first | omega | skip))
   | (with_reducible first | refine Br.tt rfl ?_ | refine Br.ff rfl ?_ | refine Br.ff (isEmptyCons _ _) ?_)
   | ((with_reducible first | refine Side.mk ?_ ?_ | refine WrapW.mk ?_ ?_); focus (first | omega | (dsimp only [InR, Int.reduceToNat, IntKind.bits, Int.reducePow]; omega) | (simp [CC]; done) | (constructor <;> omega)))
   | (refine Br.mk ?_ ?_ <;> intro hb <;> (try simp only [ZZ] at hb) <;> (first | omega | skip))
   | refine Src.whole ⟨rfl, rfl⟩ ?_ | refine FrzV.whole ?_) <;> conv => whnf)
  · exact CLe.retP (by unfold stampOk; rw [decide_eq_false (by omega)])
  · exact CLe.retP (by unfold stampOk; rw [decide_eq_false (by omega)])
  refine LoopW.cl ?_
  refine LoopW.sub (stamp_loop s (by omega) _ (fun h => ?_) (fun h => ?_) s.length 0 (by omega) (by simp)) (by repeat first | exact trivial | refine ⟨VLe.refl _, ?_⟩) (by repeat first | exact trivial | refine ⟨by decide, ?_⟩)
  · conv => whnf
    exact CLe.retP (by unfold stampOk; rw [decide_eq_true ⟨by omega, by omega, h⟩])
  · conv => whnf
    exact CLe.retP (by unfold stampOk; rw [decide_eq_false (fun e => h e.2.2)])
end Go.Proofs.YthkoefpidnphpaaGreatDoor
end

section
namespace Go.Proofs.YthkoefpidnphpaaGreatDoor
open Go Go.Am Go.RowKit
set_option maxRecDepth 100000
theorem stp_side (s : Stp) : ∀ y ∈ [PV.agg [.str s.k, .int .i64 s.a, .bool s.p]], y.cells.length = 3 ∧ ∀ c ∈ y.cells, c.leaf = true := by
  intro y hy
  obtain rfl := List.mem_singleton.1 hy
  refine ⟨rfl, fun c hc => ?_⟩
  simp only [PV.cells, List.mem_cons, List.mem_nil_iff, or_false] at hc
  rcases hc with rfl | rfl | rfl <;> rfl
def pNoEscape : List V → Heap → Option CR
  | [x], H => some ⟨.ret (x), H, []⟩
  | _, _ => none
theorem pNoEscape_ok {args : List V} {H : Heap} {cr : CR} (h : pNoEscape args H = some cr) : AbsCall PP GG F.internal_abi_NoEscape args H cr := by
  unfold pNoEscape at h
  split at h
  · cases h
    exact abi_NoEscape _ _
  · cases h
def primOf : List (Nat × (List V → Heap → Option CR)) → CallF
  | [], _, _, _ => none
  | (g, p) :: l, f, args, H => match Nat.beq f g with
    | true => p args H
    | false => primOf l f args H
theorem primOf_sound : ∀ (l : List (Nat × (List V → Heap → Option CR))), (∀ x ∈ l, ∀ args H cr, x.2 args H = some cr → AbsCall PP GG x.1 args H cr) → SoundC PP GG (primOf l)
  | [], _, f, args, H, cr, h => by cases h
  | (g, p) :: l, hl, f, args, H, cr, h => by
    simp only [primOf] at h
    split at h
    · rename_i e
      obtain rfl := Nat.eq_of_beq_eq_true e
      exact hl (f, p) (by simp) args H cr h
    · exact primOf_sound l (fun x hx => hl x (List.mem_cons_of_mem _ hx)) f args H cr h
def isT : Option CR → Bool
  | some ⟨.ret (.p (.bool true)), [], []⟩ => true
  | _ => false
theorem isT_spec {o : Option CR} (h : isT o = true) : o = some ⟨.ret (.p (.bool true)), [], []⟩ := by
  unfold isT at h
  split at h
  · rfl
  · cases h
def pCompare : List V → Heap → Option CR
  | [.p (.str a), .p (.str b)], H => some ⟨.ret (.p (.int .i64 (Lib.compareBytes a b))), H, []⟩
  | _, _ => none
theorem pCompare_ok {args : List V} {H : Heap} {cr : CR} (h : pCompare args H = some cr) : AbsCall PP GG F.strings_Compare args H cr := by
  unfold pCompare at h
  split at h
  · cases h
    exact strings_Compare _ _ _
  · cases h
def pCompareI : List V → Heap → Option CR
  | [.p (.int .i64 a), .p (.int .i64 b)], H => some ⟨.ret (.p (.int .i64 (Lib.compareInt a b))), H, []⟩
  | _, _ => none
theorem pCompareI_ok {args : List V} {H : Heap} {cr : CR} (h : pCompareI args H = some cr) : AbsCall PP GG F.cmp_Compare_int args H cr := by
  unfold pCompareI at h
  split at h
  · cases h
    exact cmp_Compare_int _ _ _
  · cases h
def pItoa : List V → Heap → Option CR
  | [.p (.int .i64 n)], H => if -9223372036854775808 ≤ n ∧ n ≤ 9223372036854775807 then some ⟨.ret (.p (.str (itoaK n))), H, []⟩ else none
  | _, _ => none
theorem pItoa_ok {args : List V} {H : Heap} {cr : CR} (h : pItoa args H = some cr) : AbsCall PP GG F.strconv_Itoa args H cr := by
  unfold pItoa at h
  split at h
  · split at h
    · rename_i hc
      cases h
      exact by rw [itoaK_eq hc.1 hc.2]; exact strconv_Itoa _ hc _
    · cases h
  · cases h
def pTrim : List V → Heap → Option CR
  | [.p (.str s), .p (.str c)], H => if s.length ≤ 9223372036854775807 ∧ c.length < 4294967281 ∧ (c.all fun b => decide (b.toNat < 128)) = true then some ⟨.ret (.p (.str (Lib.trimS s c))), H, []⟩ else none
  | _, _ => none
theorem pTrim_ok {args : List V} {H : Heap} {cr : CR} (h : pTrim args H = some cr) : AbsCall PP GG F.strings_Trim args H cr := by
  unfold pTrim at h
  split at h
  · split at h
    · rename_i hc
      cases h
      exact strings_Trim _ _ hc.1 hc.2.1 (fun j b hb => by have := List.all_eq_true.1 hc.2.2 b (List.mem_of_getElem? hb); simpa using this) _
    · cases h
  · cases h
def pHasPrefix : List V → Heap → Option CR
  | [.p (.str s), .p (.str c)], H => some ⟨.ret (.p (.bool (Lib.hasPrefix s c))), H, []⟩
  | _, _ => none
theorem pHasPrefix_ok {args : List V} {H : Heap} {cr : CR} (h : pHasPrefix args H = some cr) : AbsCall PP GG F.strings_HasPrefix args H cr := by
  unfold pHasPrefix at h
  split at h
  · cases h
    exact strings_HasPrefix _ _ _
  · cases h
def pTrimPrefix : List V → Heap → Option CR
  | [.p (.str s), .p (.str c)], H => some ⟨.ret (.p (.str (Lib.trimPrefix s c))), H, []⟩
  | _, _ => none
theorem pTrimPrefix_ok {args : List V} {H : Heap} {cr : CR} (h : pTrimPrefix args H = some cr) : AbsCall PP GG F.strings_TrimPrefix args H cr := by
  unfold pTrimPrefix at h
  split at h
  · cases h
    exact strings_TrimPrefix _ _ _
  · cases h
def pReplaceAll : List V → Heap → Option CR
  | [.p (.str s), .p (.str a), .p (.str b)], H => if s.length < 4294967281 ∧ 1 ≤ a.length ∧ s.length + s.length * b.length ≤ 140737488355328 then some ⟨.ret (.p (.str (Lib.replaceAll s a b))), H, []⟩ else none
  | _, _ => none
theorem pReplaceAll_ok {args : List V} {H : Heap} {cr : CR} (h : pReplaceAll args H = some cr) : AbsCall PP GG F.strings_ReplaceAll args H cr := by
  unfold pReplaceAll at h
  split at h
  · split at h
    · rename_i hc
      cases h
      exact strings_ReplaceAll _ _ _ hc.1 hc.2.1 hc.2.2 _
    · cases h
  · cases h
def pSplit : List V → Heap → Option CR
  | [.p (.str s), .p (.str a)], H => if s.length < 4294967281 ∧ 1 ≤ a.length then some ⟨.ret (.p (.lst false ((Lib.split s a).map PV.str))), H, []⟩ else none
  | _, _ => none
theorem pSplit_ok {args : List V} {H : Heap} {cr : CR} (h : pSplit args H = some cr) : AbsCall PP GG F.strings_Split args H cr := by
  unfold pSplit at h
  split at h
  · split at h
    · rename_i hc
      cases h
      exact strings_Split _ _ hc.1 hc.2 _
    · cases h
  · cases h
theorem strconv_Atoi (s : Str) (hs : s.length ≤ 1073741824) (n : Int) (h : Lib.atoiAll s = .ok n) (H : Heap) : AbsCall PP GG F.strconv_Atoi [.p (.str s)] H ⟨.ret (.p (.tup [.int .i64 n, .nili])), H, []⟩ := by
  refine absBelow fun B L w vs _ ha hg => ?_
  obtain ⟨v, rfl, hv⟩ := vrel1 ha
  obtain rfl := vstr hv
  refine CallTo.of_calls Tryz.func97 (by kernel_rfl) rfl ((Tryz.strconv_Atoi_ok ⟨s.toArray⟩ (by simp [ByteArray.size]; omega) n (by simpa using h) w).mono ?_)
  rintro e w' ⟨rfl, hb⟩
  refine ⟨?_, _, rfl, .p _ _ (.tup _ [.int .i64 n, .nilIface] rfl fun i x y hx hy => ?_)⟩
  · first
      | exact hb
      | (rcases hb with rfl | ⟨t, rfl⟩
         · exact Below.refl _ _
         · exact Lib.bytesWorld_below _ _ _)
  · rcases i with _ | _ | i
    · cases hx; cases hy; exact .int _ _
    · cases hx; cases hy; exact .nili
    · simp at hx
def pAtoi : List V → Heap → Option CR
  | [.p (.str s)], H => match Lib.atoiAll s with
    | .ok n => if s.length ≤ 1073741824 then some ⟨.ret (.p (.tup [.int .i64 n, .nili])), H, []⟩ else none
    | _ => none
  | _, _ => none
theorem pAtoi_ok {args : List V} {H : Heap} {cr : CR} (h : pAtoi args H = some cr) : AbsCall PP GG F.strconv_Atoi args H cr := by
  unfold pAtoi at h
  split at h
  · split at h
    · rename_i hn
      split at h
      · rename_i hc
        cases h
        exact strconv_Atoi _ hc _ hn _
      · cases h
    · cases h
  · cases h
def polQ : Pol := { keepR := fun f => Nat.beq f F.slices_Clone_api_Value_api_Value || Nat.beq f F.slices_Clone_api_Pair_api_Pair || Nat.beq f F.slices_Delete_api_Value_api_Value || Nat.beq f F.slices_Delete_api_Pair_api_Pair, byref := fun f => Nat.beq f F.slices_Delete_api_Value_api_Value || Nat.beq f F.slices_Delete_api_Pair_api_Pair, mask := fun _ _ => none }
noncomputable abbrev exP (n : Nat) : CallF := (exN PP GG polQ (primOf [(F.internal_abi_NoEscape, pNoEscape), (F.strings_Compare, pCompare), (F.cmp_Compare_int, pCompareI), (F.strconv_Itoa, pItoa), (F.strings_Trim, pTrim), (F.strings_HasPrefix, pHasPrefix), (F.strings_TrimPrefix, pTrimPrefix), (F.strings_ReplaceAll, pReplaceAll), (F.strings_Split, pSplit), (F.strconv_Atoi, pAtoi)]) (drawA PP GG polQ) n).1
theorem exP_sound (n : Nat) : SoundC PP GG (exP n) := (exN_sound (pol := polQ) ngP (primOf_sound _ (by
  intro x hx
  simp only [List.mem_cons, List.mem_nil_iff, or_false] at hx
  rcases hx with rfl | rfl | rfl | rfl | rfl | rfl | rfl | rfl | rfl | rfl <;> intro args H cr h
  · exact pNoEscape_ok h
  · exact pCompare_ok h
  · exact pCompareI_ok h
  · exact pItoa_ok h
  · exact pTrim_ok h
  · exact pHasPrefix_ok h
  · exact pTrimPrefix_ok h
  · exact pReplaceAll_ok h
  · exact pSplit_ok h
  · exact pAtoi_ok h)) (drawA_sound mixP) n).1
theorem law5_awake_run : isT (exP 60 F.law5_awake [] []) = true := by decide +kernel
theorem law5_awake : AbsCall PP GG F.law5_awake [] [] ⟨.ret (.p (.bool true)), [], []⟩ := exP_sound 60 _ _ _ _ (isT_spec law5_awake_run)
end Go.Proofs.YthkoefpidnphpaaGreatDoor
end

section
namespace Go.Am
open Go
theorem bless_iff : ∀ (x y : Str), Op.bytesLess x y = true ↔ x < y
  | x, [] => by cases x <;> simp [Op.bytesLess]
  | [], b :: y => by simp [Op.bytesLess]
  | a :: x, b :: y => by
    have ih := bless_iff x y
    rw [List.cons_lt_cons_iff, Op.bytesLess, Bool.or_eq_true, Bool.and_eq_true, decide_eq_true_eq, beq_iff_eq, ih]
theorem leqS_iff (x y : Str) : leqS x y = true ↔ x ≤ y := by
  unfold leqS
  rw [Bool.or_eq_true, bless_iff, decide_eq_true_eq]
  constructor
  · rintro (h | rfl)
    · exact List.le_of_lt h
    · exact List.le_refl _
  · intro h
    by_cases e : x = y
    · exact .inr e
    · left
      by_cases hl : x < y
      · exact hl
      · exact absurd (List.le_antisymm h (List.not_lt.1 hl)) e
def Up (m : List (Str × Tree)) : Prop := m.Pairwise fun p q => p.1 < q.1
theorem plainM_up : ∀ (m : List (Str × Tree)) (o : Option Str), plainM o m = true → Up m ∧ (∀ p ∈ m, ∀ k, o = some k → k < p.1)
  | [], o, _ => ⟨List.Pairwise.nil, by simp⟩
  | (k, t) :: m, o, h => by
    simp only [plainM, plainP, Bool.and_eq_true] at h
    obtain ⟨h1, h2⟩ := plainM_up m (some k) h.2
    have h3 : ∀ j, o = some j → j < k := by
      intro j hj
      subst hj
      have h3 := h.1.2.1
      simp only [Bool.not_eq_true', ← Bool.not_eq_true, leqS_iff] at h3
      exact List.not_le.1 h3
    refine ⟨List.pairwise_cons.2 ⟨fun p hp => h2 p hp k rfl, h1⟩, fun p hp j hj => ?_⟩
    rcases List.mem_cons.1 hp with rfl | hp
    · exact h3 j hj
    · exact List.lt_trans (h3 j hj) (h2 p hp k rfl)
theorem goodT_up {t : Tree} (h : goodT t = true) : Up t.m := by
  unfold goodT at h
  rw [Bool.and_eq_true, plainT_eq] at h
  have h1 := h.1
  split at h1
  · cases h1
  · rw [Bool.and_eq_true, Bool.and_eq_true] at h1
    exact (plainM_up t.m none h1.2.2).1
def idxK : List (Str × Tree) → Str → Int
  | [], _ => -1
  | p :: m, k => if p.1 = k then 0 else if idxK m k < 0 then -1 else idxK m k + 1
theorem idxK_ge : ∀ (m : List (Str × Tree)) (k : Str), -1 ≤ idxK m k ∧ idxK m k < m.length
  | [], _ => by rw [idxK]; simp
  | p :: m, k => by
    have := idxK_ge m k
    rw [idxK, List.length_cons]
    repeat' split
    all_goals omega
theorem idxK_at : ∀ {m : List (Str × Tree)} {k : Str} {i : Nat}, idxK m k = i → ∃ x, m[i]? = some (k, x)
  | [], k, i, h => by rw [idxK] at h; omega
  | (k', y) :: m, k, i, h => by
    rw [idxK] at h
    split at h
    · rename_i e
      obtain rfl : i = 0 := by omega
      simp only [] at e
      subst e
      exact ⟨y, rfl⟩
    split at h
    · omega
    · obtain ⟨j, rfl⟩ : ∃ j, i = j + 1 := ⟨i - 1, by omega⟩
      obtain ⟨x, hx⟩ := idxK_at (m := m) (k := k) (i := j) (by omega)
      exact ⟨x, by simpa using hx⟩
theorem idxK_keys {m m' : List (Str × Tree)} (h : m.map (·.1) = m'.map (·.1)) (k : Str) : idxK m k = idxK m' k := by
  induction m generalizing m' with
  | nil => cases m' with
    | nil => rfl
    | cons p m' => simp at h
  | cons p m ih =>
    cases m' with
    | nil => simp at h
    | cons p' m' =>
      simp only [List.map_cons, List.cons.injEq] at h
      rw [idxK, idxK, h.1, ih h.2]
theorem idxK_up : ∀ {m : List (Str × Tree)} (_ : m.Pairwise (fun p q => p.1 ≠ q.1)) {k : Str} {x : Tree} {i : Nat}, m[i]? = some (k, x) → idxK m k = i
  | [], _, k, x, i, h => by simp at h
  | p :: m, hd, k, x, i, h => by
    rw [List.pairwise_cons] at hd
    rw [idxK]
    cases i with
    | zero => simp at h; subst h; simp
    | succ i =>
      simp at h
      have hm := List.mem_of_getElem? h
      have := hd.1 _ hm
      rw [if_neg this, idxK_up hd.2 h, if_neg (by omega)]
      omega
def findS (v : Tree) (s : Stp) : Int :=
  if s.p = true ∧ v.kind = 5 ∧ 0 ≤ s.a ∧ s.a < v.l.length then s.a else if s.p = false ∧ v.kind = 6 then idxK v.m s.k else -1
def nullT : Tree := .mk 0 0 [] [] []
def partT (v : Tree) (i : Nat) : Tree := if v.kind = 5 then v.l.getD i nullT else (v.m.getD i ([], nullT)).2
theorem findS_lt (v : Tree) (s : Stp) : -1 ≤ findS v s ∧ (v.kind = 5 → findS v s < v.l.length) ∧ (v.kind = 6 → findS v s < v.m.length) ∧ (0 ≤ findS v s → v.kind = 5 ∨ v.kind = 6) := by
  have := idxK_ge v.m s.k
  unfold findS
  split
  · omega
  split
  · omega
  · omega
def getT : Tree → List Stp → Option Tree
  | v, [] => some v
  | v, s :: p => if findS v s < 0 then none else getT (partT v (findS v s).toNat) p
def setM (m : List (Str × Tree)) (i : Nat) (x : Tree) : List (Str × Tree) := m.modify i fun p => (p.1, x)
theorem setM_keys (m : List (Str × Tree)) (i : Nat) (x : Tree) : (setM m i x).map (·.1) = m.map (·.1) := by
  unfold setM
  apply List.ext_getElem?
  intro j
  rw [List.getElem?_map, List.getElem?_map, List.getElem?_modify]
  cases m[j]? with
  | none => rfl
  | some p => simp; split <;> rfl
theorem setM_get {m : List (Str × Tree)} {i : Nat} {k : Str} {y : Tree} (h : m[i]? = some (k, y)) (x : Tree) : (setM m i x)[i]? = some (k, x) := by
  unfold setM
  rw [List.getElem?_modify, h]
  simp
theorem setM_other {m : List (Str × Tree)} {i j : Nat} (h : i ≠ j) (x : Tree) : (setM m i x)[j]? = m[j]? := by
  unfold setM
  rw [List.getElem?_modify]
  cases m[j]? with
  | none => rfl
  | some p => simp [h]
def withT (v : Tree) (i : Nat) (x : Tree) : Tree := .mk v.kind v.n v.s (if v.kind = 5 then v.l.set i x else v.l) (if v.kind = 5 then v.m else setM v.m i x)
theorem withT_kind (v : Tree) (i : Nat) (x : Tree) : (withT v i x).kind = v.kind := rfl
theorem withT_l (v : Tree) (i : Nat) (x : Tree) : (withT v i x).l = if v.kind = 5 then v.l.set i x else v.l := rfl
theorem withT_m (v : Tree) (i : Nat) (x : Tree) : (withT v i x).m = if v.kind = 5 then v.m else setM v.m i x := rfl
theorem withT_find (v : Tree) (i : Nat) (x : Tree) (s : Stp) : findS (withT v i x) s = findS v s := by
  unfold findS
  rw [withT_kind, withT_l, withT_m]
  by_cases h5 : v.kind = 5
  · rw [if_pos h5, if_pos h5, List.length_set]
  · rw [if_neg h5, if_neg h5, idxK_keys (setM_keys v.m i x)]
theorem withT_part {v : Tree} {s : Stp} (h : 0 ≤ findS v s) (x : Tree) : partT (withT v (findS v s).toNat x) (findS v s).toNat = x := by
  obtain ⟨h1, h2, h3, h4⟩ := findS_lt v s
  unfold partT
  rw [withT_kind, withT_l, withT_m]
  rcases h4 h with h5 | h6
  · rw [if_pos h5, if_pos h5]
    have : (findS v s).toNat < v.l.length := by have := h2 h5; omega
    simp [List.getD, this]
  · rw [if_neg (by omega), if_neg (by omega)]
    have hlt : (findS v s).toNat < v.m.length := by have := h3 h6; omega
    have hg : v.m[(findS v s).toNat]? = some ((v.m[(findS v s).toNat]).1, (v.m[(findS v s).toNat]).2) := List.getElem?_eq_getElem hlt
    unfold List.getD
    rw [setM_get hg]
    rfl
theorem withT_other {v : Tree} {i j : Nat} (h : i ≠ j) (x : Tree) : partT (withT v i x) j = partT v j := by
  unfold partT
  rw [withT_kind, withT_l, withT_m]
  by_cases h5 : v.kind = 5
  · simp only [if_pos h5, List.getD, List.getElem?_set_ne h]
  · simp only [if_neg h5, List.getD, setM_other h]
def insAt (m : List (Str × Tree)) (k : Str) : Nat := (m.takeWhile fun p => Op.bytesLess p.1 k).length
def addT (v : Tree) (s : Stp) (x : Tree) : Option Tree :=
  if s.p = true ∧ v.kind = 5 ∧ s.a = v.l.length then some (.mk v.kind v.n v.s (v.l ++ [x]) v.m) else
  if s.p = false ∧ v.kind = 6 then some (.mk v.kind v.n v.s v.l (v.m.take (insAt v.m s.k) ++ (s.k, x) :: v.m.drop (insAt v.m s.k))) else none
def setT : Tree → List Stp → Tree → Option Tree
  | _, [], x => some x
  | v, s :: p, x => if findS v s < 0 then (if p ≠ [] then none else addT v s x) else (setT (partT v (findS v s).toNat) p x).map (withT v (findS v s).toNat)
theorem get_set : ∀ (p : List Stp) (v x : Tree), (getT v p).isSome = true → ∃ y, setT v p x = some y ∧ getT y p = some x
  | [], v, x, _ => ⟨x, rfl, rfl⟩
  | s :: p, v, x, h => by
    rw [getT] at h
    split at h
    · simp at h
    rename_i h0
    obtain ⟨y, h1, h2⟩ := get_set p _ x h
    refine ⟨withT v (findS v s).toNat y, ?_, ?_⟩
    · rw [setT, if_neg h0, h1]; rfl
    · rw [getT, withT_find, if_neg h0, withT_part (by omega), h2]
def beginsL (p q : List Stp) : Bool := q.isPrefixOf p
theorem find_apart {v : Tree} {s t : Stp} (hs : stpOk s = true) (ht : stpOk t = true) (h1 : 0 ≤ findS v s) (h2 : 0 ≤ findS v t) (hne : s ≠ t) : (findS v s).toNat ≠ (findS v t).toNat := by
  obtain ⟨sk, sa, sp⟩ := s
  obtain ⟨tk, ta, tp⟩ := t
  intro e
  have e : findS v ⟨sk, sa, sp⟩ = findS v ⟨tk, ta, tp⟩ := by omega
  apply hne
  unfold stpOk at hs ht
  unfold findS at h1 h2 e
  simp only [] at h1 h2 e hs ht
  cases sp <;> cases tp <;> simp only [Bool.false_eq_true, false_and, if_false, true_and, if_true, Bool.and_eq_true, decide_eq_true_eq, reduceCtorEq] at h1 h2 e hs ht
  · split at e
    · rename_i h6
      obtain ⟨x, hx⟩ := idxK_at (m := v.m) (k := sk) (i := (idxK v.m sk).toNat) (by omega)
      obtain ⟨y, hy⟩ := idxK_at (m := v.m) (k := tk) (i := (idxK v.m tk).toNat) (by omega)
      rw [e, hy] at hx
      cases hx
      rw [hs.1, ht.1]
    · rename_i h6; rw [if_neg h6] at h1; omega
  · split at h1
    · rename_i h6
      rw [if_neg (by omega)] at h2
      omega
    · omega
  · split at h2
    · rename_i h6
      rw [if_neg (by omega)] at h1
      omega
    · omega
  · split at h1
    · rename_i g1
      rw [if_pos g1] at e
      split at h2
      · rename_i g2
        rw [if_pos g2] at e
        rw [hs.1, ht.1, e]
      · omega
    · omega
theorem get_set_other : ∀ (p q : List Stp) (v x y : Tree), (∀ s ∈ p, stpOk s = true) → (∀ s ∈ q, stpOk s = true) → (getT v p).isSome = true → (getT v q).isSome = true → beginsL p q = false → beginsL q p = false → setT v p x = some y → getT y q = getT v q
  | [], q, v, x, y, _, _, _, _, _, h, _ => by simp [beginsL] at h
  | s :: p, [], v, x, y, _, _, _, _, h, _, _ => by simp [beginsL] at h
  | s :: p, t :: q, v, x, y, hp, hq, g1, g2, b1, b2, h => by
    rw [getT] at g1 g2
    split at g1
    · simp at g1
    split at g2
    · simp at g2
    rename_i h1 h2
    rw [setT, if_neg h1] at h
    cases hz : setT (partT v (findS v s).toNat) p x with
    | none => rw [hz] at h; cases h
    | some z =>
      rw [hz] at h
      cases h
      rw [getT, getT, withT_find, if_neg h2, if_neg h2]
      by_cases hst : s = t
      · subst hst
        rw [withT_part (by omega)]
        have e : ∀ a b : List Stp, beginsL (s :: a) (s :: b) = beginsL a b := fun a b => by simp [beginsL, List.isPrefixOf]
        rw [e] at b1 b2
        exact get_set_other p q _ x z (fun r hr => hp r (by simp [hr])) (fun r hr => hq r (by simp [hr])) g1 g2 b1 b2 hz
      · rw [withT_other (find_apart (hp s (by simp)) (hq t (by simp)) (by omega) (by omega) hst)]
def cutP (v : Tree) (i : Nat) : Tree := .mk v.kind v.n v.s (if v.kind = 5 then v.l.eraseIdx i else v.l) (if v.kind = 5 then v.m else v.m.eraseIdx i)
def dropT : Tree → List Stp → Option Tree
  | _, [] => none
  | v, s :: p => if findS v s < 0 then none else if p ≠ [] then (dropT (partT v (findS v s).toNat) p).map (withT v (findS v s).toNat) else some (cutP v (findS v s).toNat)
theorem get_drop : ∀ (p : List Stp) (v : Tree), p ≠ [] → (getT v p).isSome = true → (dropT v p).isSome = true
  | [], v, h, _ => absurd rfl h
  | s :: p, v, _, h => by
    rw [getT] at h
    split at h
    · simp at h
    rename_i h0
    rw [dropT, if_neg h0]
    split
    · rename_i hp
      have := get_drop p _ hp h
      rw [Option.isSome_map]
      exact this
    · rfl
theorem idxK_erase {m : List (Str × Tree)} (hd : m.Pairwise (fun p q => p.1 ≠ q.1)) {k : Str} {i : Nat} (h : idxK m k = i) : idxK (m.eraseIdx i) k = -1 := by
  obtain ⟨x, hx⟩ := idxK_at h
  have key : ∀ m : List (Str × Tree), (∀ p ∈ m, p.1 ≠ k) → idxK m k = -1 := by
    intro m hm
    induction m with
    | nil => rfl
    | cons p m ih =>
      rw [idxK, if_neg (hm p (by simp)), ih fun q hq => hm q (by simp [hq])]
      rfl
  refine key _ fun p hp e => ?_
  obtain ⟨j, hj⟩ := List.getElem?_of_mem hp
  rw [List.getElem?_eraseIdx] at hj
  split at hj
  · rename_i hlt
    have hj' : m[j]? = some (k, p.2) := by rw [hj, ← e]
    have := idxK_up hd hj'
    omega
  · rename_i hge
    have hj' : m[j + 1]? = some (k, p.2) := by rw [hj, ← e]
    have := idxK_up hd hj'
    omega
inductive Uniq : Tree → Prop
  | mk {t : Tree} (h : t.m.Pairwise (fun p q => p.1 ≠ q.1)) (hl : ∀ x ∈ t.l, Uniq x) (hm : ∀ x ∈ t.m, Uniq x.2) : Uniq t
theorem good_uniq : ∀ t : Tree, goodT t = true → Uniq t := by
  refine Tree.ind fun t hl hm hg => ?_
  obtain ⟨_, _, _, gl, gm⟩ := goodT_spec hg
  refine .mk ?_ (fun x hx => hl x hx (gl x hx)) (fun x hx => hm x hx (gm x hx).2)
  have := goodT_up hg
  exact this.imp fun h e => absurd h (by rw [e]; exact List.lt_irrefl _)
end Go.Am
end

section
namespace Go.Proofs.YthkoefpidnphpaaGreatDoor
open Go Go.Am Go.RowKit
set_option maxRecDepth 100000
def stpO (s : Stp) : HO := .var T.path_Step (.p (.agg [.str s.k, .int .i64 s.a, .bool s.p]))
theorem path_find_1 (k : Str) (t : Tree) (s : Stp) : AbsCall PP GG F.path_find_1 [.p (.agg [.str k, .int .i64 t.kind, .int .i64 t.n, .str t.s, .lst false (Tree.encL t.l), .lst false (Tree.encM t.m)]), .ptr 0 0] [stpO s] ⟨.ret (.p (.bool (decide (k = s.k)))), [stpO s], []⟩ := by
  refine absCall_of (pol := polG) mixP F.path_find_1_is ?_
  conv => whnf
  repeat' ((first
   | ((with_reducible first | refine Br.dec ?_ ?_ | refine Br.ndec ?_ ?_) <;> intro hb <;> (try simp only [ZZ] at hb) <;> (first | omega | contradiction | skip))
   | (with_reducible first | refine Br.tt rfl ?_ | refine Br.ff rfl ?_ | refine Br.ff (isEmptyCons _ _) ?_)
   | ((with_reducible first | refine Side.mk ?_ ?_ | refine WrapW.mk ?_ ?_); focus (first | omega | (dsimp only [InR, Int.reduceToNat, IntKind.bits, Int.reducePow]; omega) | (simp [CC]; done) | (constructor <;> omega)))
   | with_reducible refine Br.not ?_
   | (with_reducible first | refine Br.tt (by assumption) ?_ | refine Br.ff (by assumption) ?_)
   | (refine Br.mk ?_ ?_ <;> intro hb <;> (try simp only [ZZ] at hb) <;> (first | omega | contradiction | skip))
   | refine Src.whole ⟨rfl, rfl⟩ ?_ | refine FrzV.whole ?_) <;> conv => whnf)
  exact CLe.eq rfl
theorem index_loop (m : List (Str × Tree)) (s : Stp) (hm : m.length ≤ 9223372036854775807) (R : Int) (K : Post)
    (h0 : R = -1 → K (.exit 0) [] [stpO s] []) (hr : ∀ i : Nat, R = i → K .ret [(4, .p (.int .i64 i))] [stpO s] []) :
    ∀ (q i : Nat), i + q = m.length → R = (if idxK (m.drop i) s.k < 0 then -1 else idxK (m.drop i) s.k + i) →
      LoopW PP GG 19 1 (loopN F.slices_IndexFunc_api_Pair_api_Pair_c 0) [(0, .p (.lst false (Tree.encM m))), (1, .func (.func F.path_find_1) [.ptr 0 0]), (7, .p (.int .i64 m.length)), (8, .p (.int .i64 i))] [stpO s] [] (PostCl 19 K) := by
  have hml : (Tree.encM m).length = m.length := Tree.encM_length _
  intro q
  induction q with
  | zero =>
    intro i hi hR
    obtain rfl : i = m.length := by omega
    rw [List.drop_length, idxK, if_pos (by omega)] at hR
    refine LoopW.round (pol := polG) mixP ?_
    conv => whnf
    repeat' ((first
     | ((with_reducible first | refine Br.dec ?_ ?_ | refine Br.ndec ?_ ?_) <;> intro hb <;> (try simp only [And.intro @hml (ZZ)] at hb) <;> (first | omega | contradiction | skip))
     | (with_reducible first | refine Br.tt rfl ?_ | refine Br.ff rfl ?_ | refine Br.ff (isEmptyCons _ _) ?_)
     | ((with_reducible first | refine Side.mk ?_ ?_ | refine WrapW.mk ?_ ?_); focus (first | omega | (dsimp only [InR, Int.reduceToNat, IntKind.bits, Int.reducePow]; omega) | (simp [CC]; done) | (constructor <;> omega)))
     | with_reducible refine Br.not ?_
     | (with_reducible first | refine Br.tt (by assumption) ?_ | refine Br.ff (by assumption) ?_)
     | (refine Br.mk ?_ ?_ <;> intro hb <;> (try simp only [And.intro @hml (ZZ)] at hb) <;> (first | omega | contradiction | skip))
     | refine Src.whole ⟨rfl, rfl⟩ ?_ | refine FrzV.whole ?_) <;> conv => whnf)
    refine PostCl.of (h0 hR) ?_ ?_
    · repeat first | exact trivial | refine ⟨VLe.refl _, ?_⟩
    · repeat first | exact trivial | refine ⟨by decide, ?_⟩
  | succ q ih =>
    intro i hi hR
    obtain ⟨⟨k, t⟩, hx⟩ : ∃ x, m[i]? = some x := ⟨_, List.getElem?_eq_getElem (show i < m.length by omega)⟩
    have hxi : m[(i : Int).toNat]? = some (k, t) := by rw [Int.toNat_natCast]; exact hx
    rw [drop_cons hx, idxK] at hR
    have hF := path_find_1 k t s
    have hge := idxK_ge (m.drop (i + 1)) s.k
    by_cases hk : k = s.k
    · rw [decide_eq_true hk] at hF
      rw [if_pos hk, if_neg (by omega), Int.zero_add] at hR
      refine LoopW.round (pol := polG) mixP ?_
      conv => whnf
      repeat' ((first
       | ((with_reducible first | refine Br.dec ?_ ?_ | refine Br.ndec ?_ ?_) <;> intro hb <;> (try simp only [And.intro @hml (ZZ)] at hb) <;> (first | omega | contradiction | skip))
       | (with_reducible first | refine Br.tt rfl ?_ | refine Br.ff rfl ?_ | refine Br.ff (isEmptyCons _ _) ?_)
       | ((with_reducible first | refine Side.mk ?_ ?_ | refine WrapW.mk ?_ ?_); focus (first | omega | (dsimp only [InR, Int.reduceToNat, IntKind.bits, Int.reducePow]; omega) | exact ⟨rfl, rfl⟩ | (simp [CC]; done) | (constructor <;> omega)))
       | with_reducible refine Br.not ?_
       | (with_reducible first | refine Br.tt (by assumption) ?_ | refine Br.ff (by assumption) ?_)
       | (refine Br.mk ?_ ?_ <;> intro hb <;> (try simp only [And.intro @hml (ZZ)] at hb) <;> (first | omega | contradiction | skip))
       | refine Src.whole ⟨rfl, rfl⟩ ?_ | refine FrzV.whole ?_
       | refine CallW.use (hF) ?_
       | (refine ElemZ.pairE hxi ?_)) <;> conv => whnf)
      refine PostCl.of (hr i hR) ?_ ?_
      · repeat first | exact trivial | refine ⟨VLe.refl _, ?_⟩
      · repeat first | exact trivial | refine ⟨by decide, ?_⟩
    · rw [decide_eq_false hk] at hF
      rw [if_neg hk] at hR
      have hl := ih (i + 1) (by omega) (by rw [hR]; split <;> split <;> omega)
      refine LoopW.round (pol := polG) mixP ?_
      conv => whnf
      repeat' ((first
       | ((with_reducible first | refine Br.dec ?_ ?_ | refine Br.ndec ?_ ?_) <;> intro hb <;> (try simp only [And.intro @hml (ZZ)] at hb) <;> (first | omega | contradiction | skip))
       | (with_reducible first | refine Br.tt rfl ?_ | refine Br.ff rfl ?_ | refine Br.ff (isEmptyCons _ _) ?_)
       | ((with_reducible first | refine Side.mk ?_ ?_ | refine WrapW.mk ?_ ?_); focus (first | omega | (dsimp only [InR, Int.reduceToNat, IntKind.bits, Int.reducePow]; omega) | exact ⟨rfl, rfl⟩ | (simp [CC]; done) | (constructor <;> omega)))
       | with_reducible refine Br.not ?_
       | (with_reducible first | refine Br.tt (by assumption) ?_ | refine Br.ff (by assumption) ?_)
       | (refine Br.mk ?_ ?_ <;> intro hb <;> (try simp only [And.intro @hml (ZZ)] at hb) <;> (first | omega | contradiction | skip))
       | refine Src.whole ⟨rfl, rfl⟩ ?_ | refine FrzV.whole ?_
       | refine CallW.use (hF) ?_
       | (refine ElemZ.pairE hxi ?_)) <;> conv => whnf)
      refine LoopW.sub (hl) (by repeat first | exact trivial | refine ⟨VLe.refl _, ?_⟩) (by repeat first | exact trivial | refine ⟨by decide, ?_⟩)
theorem index_pairs (m : List (Str × Tree)) (s : Stp) (hm : m.length ≤ 9223372036854775807) :
    AbsCall PP GG F.slices_IndexFunc_api_Pair_api_Pair [.p (.lst false (Tree.encM m)), .func (.func F.path_find_1) [.ptr 0 0]] [stpO s] ⟨.ret (.p (.int .i64 (idxK m s.k))), [stpO s], []⟩ := by
  have hml : (Tree.encM m).length = m.length := Tree.encM_length _
  have hlp := index_loop m s hm (idxK m s.k)
  have hge := idxK_ge m s.k
  have hR : idxK m s.k = (if idxK (m.drop 0) s.k < 0 then -1 else idxK (m.drop 0) s.k + (0 : Nat)) := by rw [List.drop_zero]; split <;> omega
  rw [← hml] at hlp
  generalize idxK m s.k = R at *
  refine absCall_of (pol := polG) mixP F.slices_IndexFunc_api_Pair_api_Pair_is ?_
  conv => whnf
  repeat' ((first
   | ((with_reducible first | refine Br.dec ?_ ?_ | refine Br.ndec ?_ ?_) <;> intro hb <;> (try simp only [And.intro @hml (ZZ)] at hb) <;> (first | omega | contradiction | skip))
   | (with_reducible first | refine Br.tt rfl ?_ | refine Br.ff rfl ?_ | refine Br.ff (isEmptyCons _ _) ?_)
   | ((with_reducible first | refine Side.mk ?_ ?_ | refine WrapW.mk ?_ ?_); focus (first | omega | (dsimp only [InR, Int.reduceToNat, IntKind.bits, Int.reducePow]; omega) | (simp [CC]; done) | (constructor <;> omega)))
   | with_reducible refine Br.not ?_
   | (with_reducible first | refine Br.tt (by assumption) ?_ | refine Br.ff (by assumption) ?_)
   | (refine Br.mk ?_ ?_ <;> intro hb <;> (try simp only [And.intro @hml (ZZ)] at hb) <;> (first | omega | contradiction | skip))
   | refine Src.whole ⟨rfl, rfl⟩ ?_ | refine FrzV.whole ?_) <;> conv => whnf)
  refine LoopW.cl ?_
  refine LoopW.sub (hlp _ (fun h => ?_) (fun i h => ?_) (Tree.encM m).length 0 (Nat.zero_add _) hR) (by repeat first | exact trivial | refine ⟨VLe.refl _, ?_⟩) (by repeat first | exact trivial | refine ⟨by decide, ?_⟩)
  · rw [h]
    conv => whnf
    repeat' ((first
     | ((with_reducible first | refine Br.dec ?_ ?_ | refine Br.ndec ?_ ?_) <;> intro hb <;> (try simp only [ZZ] at hb) <;> (first | omega | contradiction | skip))
     | (with_reducible first | refine Br.tt rfl ?_ | refine Br.ff rfl ?_ | refine Br.ff (isEmptyCons _ _) ?_)
     | ((with_reducible first | refine Side.mk ?_ ?_ | refine WrapW.mk ?_ ?_); focus (first | omega | (dsimp only [InR, Int.reduceToNat, IntKind.bits, Int.reducePow]; omega) | (simp [CC]; done) | (constructor <;> omega)))
     | with_reducible refine Br.not ?_
     | (with_reducible first | refine Br.tt (by assumption) ?_ | refine Br.ff (by assumption) ?_)
     | (refine Br.mk ?_ ?_ <;> intro hb <;> (try simp only [ZZ] at hb) <;> (first | omega | contradiction | skip))
     | refine Src.whole ⟨rfl, rfl⟩ ?_ | refine FrzV.whole ?_) <;> conv => whnf)
    exact CLe.eq rfl
  · rw [h]
    conv => whnf
    exact CLe.eq rfl
theorem path_find (v : Tree) (s : Stp) (hm : v.m.length ≤ 9223372036854775807) (hl : v.l.length ≤ 9223372036854775807) :
    AbsCall PP GG F.path_find [.p v.enc, .p (.agg [.str s.k, .int .i64 s.a, .bool s.p])] [] ⟨.ret (.p (.int .i64 (findS v s))), [], []⟩ := by
  have hel : (Tree.encL v.l).length = v.l.length := Tree.encL_length _
  have hI := index_pairs v.m s hm
  unfold findS
  rw [Tree.enc_eta v]
  obtain ⟨k, a, p⟩ := s
  unfold stpO at hI
  simp only [] at hI ⊢
  cases p with
  | true =>
    by_cases h5 : v.kind = 5
    · by_cases h0 : 0 ≤ a
      · by_cases h1 : a < v.l.length
        · rw [if_pos ⟨rfl, h5, h0, h1⟩]
          refine absCall_of (pol := polG) mixP F.path_find_is ?_
          conv => whnf
          repeat' ((first
           | ((with_reducible first | refine Br.dec ?_ ?_ | refine Br.ndec ?_ ?_) <;> intro hb <;> (try simp only [And.intro @hel (ZZ)] at hb) <;> (first | omega | contradiction | skip))
           | (with_reducible first | refine Br.tt rfl ?_ | refine Br.ff rfl ?_ | refine Br.ff (isEmptyCons _ _) ?_)
           | ((with_reducible first | refine Side.mk ?_ ?_ | refine WrapW.mk ?_ ?_); focus (first | omega | (dsimp only [InR, Int.reduceToNat, IntKind.bits, Int.reducePow]; omega) | (simp [CC]; done) | (constructor <;> omega)))
           | with_reducible refine Br.not ?_
           | (with_reducible first | refine Br.tt (by assumption) ?_ | refine Br.ff (by assumption) ?_)
           | (refine Br.mk ?_ ?_ <;> intro hb <;> (try simp only [And.intro @hel (ZZ)] at hb) <;> (first | omega | contradiction | skip))
           | refine Src.whole ⟨rfl, rfl⟩ ?_ | refine FrzV.whole ?_) <;> conv => whnf)
          all_goals exact CLe.retP rfl
        · rw [if_neg (by omega), if_neg (by simp)]
          refine absCall_of (pol := polG) mixP F.path_find_is ?_
          conv => whnf
          repeat' ((first
           | ((with_reducible first | refine Br.dec ?_ ?_ | refine Br.ndec ?_ ?_) <;> intro hb <;> (try simp only [And.intro @hel (ZZ)] at hb) <;> (first | omega | contradiction | skip))
           | (with_reducible first | refine Br.tt rfl ?_ | refine Br.ff rfl ?_ | refine Br.ff (isEmptyCons _ _) ?_)
           | ((with_reducible first | refine Side.mk ?_ ?_ | refine WrapW.mk ?_ ?_); focus (first | omega | (dsimp only [InR, Int.reduceToNat, IntKind.bits, Int.reducePow]; omega) | (simp [CC]; done) | (constructor <;> omega)))
           | with_reducible refine Br.not ?_
           | (with_reducible first | refine Br.tt (by assumption) ?_ | refine Br.ff (by assumption) ?_)
           | (refine Br.mk ?_ ?_ <;> intro hb <;> (try simp only [And.intro @hel (ZZ)] at hb) <;> (first | omega | contradiction | skip))
           | refine Src.whole ⟨rfl, rfl⟩ ?_ | refine FrzV.whole ?_) <;> conv => whnf)
          all_goals exact CLe.retP rfl
      · rw [if_neg (by omega), if_neg (by simp)]
        refine absCall_of (pol := polG) mixP F.path_find_is ?_
        conv => whnf
        repeat' ((first
         | ((with_reducible first | refine Br.dec ?_ ?_ | refine Br.ndec ?_ ?_) <;> intro hb <;> (try simp only [And.intro @hel (ZZ)] at hb) <;> (first | omega | contradiction | skip))
         | (with_reducible first | refine Br.tt rfl ?_ | refine Br.ff rfl ?_ | refine Br.ff (isEmptyCons _ _) ?_)
         | ((with_reducible first | refine Side.mk ?_ ?_ | refine WrapW.mk ?_ ?_); focus (first | omega | (dsimp only [InR, Int.reduceToNat, IntKind.bits, Int.reducePow]; omega) | (simp [CC]; done) | (constructor <;> omega)))
         | with_reducible refine Br.not ?_
         | (with_reducible first | refine Br.tt (by assumption) ?_ | refine Br.ff (by assumption) ?_)
         | (refine Br.mk ?_ ?_ <;> intro hb <;> (try simp only [And.intro @hel (ZZ)] at hb) <;> (first | omega | contradiction | skip))
         | refine Src.whole ⟨rfl, rfl⟩ ?_ | refine FrzV.whole ?_) <;> conv => whnf)
        all_goals exact CLe.retP rfl
    · rw [if_neg (fun h => h5 h.2.1), if_neg (by simp)]
      refine absCall_of (pol := polG) mixP F.path_find_is ?_
      conv => whnf
      repeat' ((first
       | ((with_reducible first | refine Br.dec ?_ ?_ | refine Br.ndec ?_ ?_) <;> intro hb <;> (try simp only [And.intro @hel (ZZ)] at hb) <;> (first | omega | contradiction | skip))
       | (with_reducible first | refine Br.tt rfl ?_ | refine Br.ff rfl ?_ | refine Br.ff (isEmptyCons _ _) ?_)
       | ((with_reducible first | refine Side.mk ?_ ?_ | refine WrapW.mk ?_ ?_); focus (first | omega | (dsimp only [InR, Int.reduceToNat, IntKind.bits, Int.reducePow]; omega) | (simp [CC]; done) | (constructor <;> omega)))
       | with_reducible refine Br.not ?_
       | (with_reducible first | refine Br.tt (by assumption) ?_ | refine Br.ff (by assumption) ?_)
       | (refine Br.mk ?_ ?_ <;> intro hb <;> (try simp only [And.intro @hel (ZZ)] at hb) <;> (first | omega | contradiction | skip))
       | refine Src.whole ⟨rfl, rfl⟩ ?_ | refine FrzV.whole ?_) <;> conv => whnf)
      all_goals exact CLe.retP rfl
  | false =>
    rw [if_neg (by simp)]
    by_cases h6 : v.kind = 6
    · rw [if_pos ⟨rfl, h6⟩]
      refine absCall_of (pol := polG) mixP F.path_find_is ?_
      conv => whnf
      repeat' ((first
       | ((with_reducible first | refine Br.dec ?_ ?_ | refine Br.ndec ?_ ?_) <;> intro hb <;> (try simp only [And.intro @hel (ZZ)] at hb) <;> (first | omega | contradiction | skip))
       | (with_reducible first | refine Br.tt rfl ?_ | refine Br.ff rfl ?_ | refine Br.ff (isEmptyCons _ _) ?_)
       | ((with_reducible first | refine Side.mk ?_ ?_ | refine WrapW.mk ?_ ?_); focus (first | omega | (dsimp only [InR, Int.reduceToNat, IntKind.bits, Int.reducePow]; omega) | (simp [CC]; done) | (constructor <;> omega)))
       | with_reducible refine Br.not ?_
       | (with_reducible first | refine Br.tt (by assumption) ?_ | refine Br.ff (by assumption) ?_)
       | (refine Br.mk ?_ ?_ <;> intro hb <;> (try simp only [And.intro @hel (ZZ)] at hb) <;> (first | omega | contradiction | skip))
       | refine Src.whole ⟨rfl, rfl⟩ ?_ | refine FrzV.whole ?_
       | refine CallW.use (hI) ?_) <;> conv => whnf)
      all_goals exact CLe.retP rfl
    · rw [if_neg (fun h => h6 h.2)]
      refine absCall_of (pol := polG) mixP F.path_find_is ?_
      conv => whnf
      repeat' ((first
       | ((with_reducible first | refine Br.dec ?_ ?_ | refine Br.ndec ?_ ?_) <;> intro hb <;> (try simp only [And.intro @hel (ZZ)] at hb) <;> (first | omega | contradiction | skip))
       | (with_reducible first | refine Br.tt rfl ?_ | refine Br.ff rfl ?_ | refine Br.ff (isEmptyCons _ _) ?_)
       | ((with_reducible first | refine Side.mk ?_ ?_ | refine WrapW.mk ?_ ?_); focus (first | omega | (dsimp only [InR, Int.reduceToNat, IntKind.bits, Int.reducePow]; omega) | (simp [CC]; done) | (constructor <;> omega)))
       | with_reducible refine Br.not ?_
       | (with_reducible first | refine Br.tt (by assumption) ?_ | refine Br.ff (by assumption) ?_)
       | (refine Br.mk ?_ ?_ <;> intro hb <;> (try simp only [And.intro @hel (ZZ)] at hb) <;> (first | omega | contradiction | skip))
       | refine Src.whole ⟨rfl, rfl⟩ ?_ | refine FrzV.whole ?_) <;> conv => whnf)
      all_goals exact CLe.retP rfl
theorem path_part (v : Tree) (i : Nat) (h5 : v.kind = 5 → i < v.l.length) (h6 : v.kind ≠ 5 → i < v.m.length) : AbsCall PP GG F.path_part [.p v.enc, .p (.int .i64 i)] [] ⟨.ret (.p (partT v i).enc), [], []⟩ := by
  have hel : (Tree.encL v.l).length = v.l.length := Tree.encL_length _
  have hem : (Tree.encM v.m).length = v.m.length := Tree.encM_length _
  unfold partT
  rw [Tree.enc_eta v]
  by_cases hk : v.kind = 5
  · rw [if_pos hk]
    obtain ⟨x, hx⟩ : ∃ x, v.l[i]? = some x := ⟨_, List.getElem?_eq_getElem (h5 hk)⟩
    have hxi : v.l[(i : Int).toNat]? = some x := by rw [Int.toNat_natCast]; exact hx
    rw [List.getD_eq_getElem?_getD, hx, Option.getD_some, Tree.enc_eta x]
    refine absCall_of (pol := polG) mixP F.path_part_is ?_
    conv => whnf
    repeat' ((first
     | ((with_reducible first | refine Br.dec ?_ ?_ | refine Br.ndec ?_ ?_) <;> intro hb <;> (try simp only [And.intro @hel (ZZ)] at hb) <;> (first | omega | contradiction | skip))
     | (with_reducible first | refine Br.tt rfl ?_ | refine Br.ff rfl ?_ | refine Br.ff (isEmptyCons _ _) ?_)
     | ((with_reducible first | refine Side.mk ?_ ?_ | refine WrapW.mk ?_ ?_); focus (first | omega | (dsimp only [InR, Int.reduceToNat, IntKind.bits, Int.reducePow]; omega) | exact ⟨rfl, rfl⟩ | (simp [CC]; done) | (constructor <;> omega)))
     | with_reducible refine Br.not ?_
     | (with_reducible first | refine Br.tt (by assumption) ?_ | refine Br.ff (by assumption) ?_)
     | (refine Br.mk ?_ ?_ <;> intro hb <;> (try simp only [And.intro @hel (ZZ)] at hb) <;> (first | omega | contradiction | skip))
     | refine Src.whole ⟨rfl, rfl⟩ ?_ | refine FrzV.whole ?_
     | (refine ElemZ.tree hxi ?_; (rw [Tree.enc_eta x]; conv => whnf))) <;> conv => whnf)
    all_goals first | exact absurd hk (by assumption) | exact CLe.retP rfl
  · rw [if_neg hk]
    obtain ⟨⟨k, x⟩, hx⟩ : ∃ x, v.m[i]? = some x := ⟨_, List.getElem?_eq_getElem (h6 hk)⟩
    have hxi : v.m[(i : Int).toNat]? = some (k, x) := by rw [Int.toNat_natCast]; exact hx
    rw [List.getD_eq_getElem?_getD, hx, Option.getD_some, Tree.enc_eta x]
    refine absCall_of (pol := polG) mixP F.path_part_is ?_
    conv => whnf
    repeat' ((first
     | ((with_reducible first | refine Br.dec ?_ ?_ | refine Br.ndec ?_ ?_) <;> intro hb <;> (try simp only [And.intro @hem (ZZ)] at hb) <;> (first | omega | contradiction | skip))
     | (with_reducible first | refine Br.tt rfl ?_ | refine Br.ff rfl ?_ | refine Br.ff (isEmptyCons _ _) ?_)
     | ((with_reducible first | refine Side.mk ?_ ?_ | refine WrapW.mk ?_ ?_); focus (first | omega | (dsimp only [InR, Int.reduceToNat, IntKind.bits, Int.reducePow]; omega) | exact ⟨rfl, rfl⟩ | (simp [CC]; done) | (constructor <;> omega)))
     | with_reducible refine Br.not ?_
     | (with_reducible first | refine Br.tt (by assumption) ?_ | refine Br.ff (by assumption) ?_)
     | (refine Br.mk ?_ ?_ <;> intro hb <;> (try simp only [And.intro @hem (ZZ)] at hb) <;> (first | omega | contradiction | skip))
     | refine Src.whole ⟨rfl, rfl⟩ ?_ | refine FrzV.whole ?_
     | (refine ElemZ.pairE hxi ?_)) <;> conv => whnf)
    all_goals first | exact absurd (by assumption) hk | exact CLe.retP rfl
end Go.Proofs.YthkoefpidnphpaaGreatDoor
end
