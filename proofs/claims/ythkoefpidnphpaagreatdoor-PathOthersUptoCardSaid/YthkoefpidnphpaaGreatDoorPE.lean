/-
What an operation wants and gives: sound against the machine's operations.
-/
import Derived.Test.YthkoefpidnphpaaGreatDoorPD
import Derived.IntWalk

section
namespace Go.Am
open Go
@[reducible] def InR : IntKind → Int → Prop
  | .i8, n => -128 ≤ n ∧ n ≤ 127
  | .i16, n => -32768 ≤ n ∧ n ≤ 32767
  | .i32, n => -2147483648 ≤ n ∧ n ≤ 2147483647
  | .i64, n => -9223372036854775808 ≤ n ∧ n ≤ 9223372036854775807
  | .u8, n => 0 ≤ n ∧ n ≤ 255
  | .u16, n => 0 ≤ n ∧ n ≤ 65535
  | .u32, n => 0 ≤ n ∧ n ≤ 4294967295
  | .u64, n => 0 ≤ n ∧ n ≤ 18446744073709551615
theorem InR.wrap {k : IntKind} {n : Int} (h : InR k n) : k.wrap n = n := by
  cases k
  · exact IntWalk.i8_in n h
  · exact IntWalk.i16_in n h
  · exact IntWalk.i32_in n h
  · exact IntWalk.i64_in n h
  · exact IntWalk.u8_in n h
  · exact IntWalk.u16_in n h
  · exact IntWalk.u32_in n h
  · exact IntWalk.u64_in n h
def iand (k : IntKind) (a b : Int) : Int := k.wrap (BitVec.ofInt k.bits a &&& BitVec.ofInt k.bits b).toNat
def ior (k : IntKind) (a b : Int) : Int := k.wrap (BitVec.ofInt k.bits a ||| BitVec.ofInt k.bits b).toNat
def ixor (k : IntKind) (a b : Int) : Int := k.wrap (BitVec.ofInt k.bits a ^^^ BitVec.ofInt k.bits b).toNat
def iandn (k : IntKind) (a b : Int) : Int := k.wrap (BitVec.ofInt k.bits a &&& ~~~ BitVec.ofInt k.bits b).toNat
def sameK : IntKind → IntKind → Bool
  | .i8, .i8 | .i16, .i16 | .i32, .i32 | .i64, .i64 | .u8, .u8 | .u16, .u16 | .u32, .u32 | .u64, .u64 => true
  | _, _ => false
theorem sameK_eq {a b : IntKind} (h : sameK a b = true) : a = b := by cases a <;> cases b <;> simp_all [sameK]
def fitsK : IntKind → IntKind → Bool
  | .i8, .i8 | .i8, .i16 | .i8, .i32 | .i8, .i64 | .i16, .i16 | .i16, .i32 | .i16, .i64 | .i32, .i32 | .i32, .i64 | .i64, .i64 => true
  | .u8, .u8 | .u8, .u16 | .u8, .u32 | .u8, .u64 | .u16, .u16 | .u16, .u32 | .u16, .u64 | .u32, .u32 | .u32, .u64 | .u64, .u64 => true
  | .u8, .i16 | .u8, .i32 | .u8, .i64 | .u16, .i32 | .u16, .i64 | .u32, .i64 => true
  | _, _ => false
inductive WrapW (c A B : Prop) : Prop
  | mk (h : c) (q : A)
  | other (q : B)
def intW (o : BinOp) (k k' : IntKind) (a b : Int) (K : PV → Prop) : Prop :=
  match o with
  | .shl => Side (0 ≤ b ∧ b.toNat ≤ k.bits ∧ InR k (a * 2 ^ b.toNat)) (K (.int k (a * 2 ^ b.toNat)))
  | .shr => Side (0 ≤ b ∧ b.toNat ≤ k.bits) (K (.int k (a / 2 ^ b.toNat)))
  | o => match sameK k k' with
    | false => False
    | true => match o with
      | .add => WrapW (InR k (a + b)) (K (.int k (a + b))) (K (.int k (k.wrap (a + b))))
      | .sub => WrapW (InR k (a - b)) (K (.int k (a - b))) (K (.int k (k.wrap (a - b))))
      | .mul => WrapW (InR k (a * b)) (K (.int k (a * b))) (K (.int k (k.wrap (a * b))))
      | .quo => Side (b ≠ 0 ∧ InR k (a.tdiv b)) (K (.int k (a.tdiv b)))
      | .rem => Side (b ≠ 0) (K (.int k (a.tmod b)))
      | .and => K (.int k (iand k a b))
      | .or => K (.int k (ior k a b))
      | .xor => K (.int k (ixor k a b))
      | .andNot => K (.int k (iandn k a b))
      | .eql => K (.bool (decide (a = b)))
      | .neq => K (.bool (!decide (a = b)))
      | .lss => K (.bool (decide (a < b)))
      | .leq => K (.bool (decide (a ≤ b)))
      | .gtr => K (.bool (decide (b < a)))
      | .geq => K (.bool (decide (b ≤ a)))
      | _ => False
theorem fdiv_pow (a : Int) (m : Nat) : a.fdiv (2 ^ m) = a / 2 ^ m := Int.fdiv_eq_ediv_of_nonneg _ (Int.le_of_lt (Int.pow_pos (by decide)))
theorem intW_spec {P : Program} {o : BinOp} {t : TypeId} {k k' : IntKind} {a b : Int} {K : PV → Prop} (h : intW o k k' a b K) : ∃ d, binA P o t (.p (.int k a)) (.p (.int k' b)) = some d ∧ K d := by
  unfold intW at h
  split at h
  · obtain ⟨⟨h0, h1, h2⟩, hk⟩ := h
    refine ⟨_, ?_, hk⟩
    simp only [binA, shiftOp]
    rw [if_neg (by omega), Nat.min_eq_left h1, h2.wrap]
  · obtain ⟨⟨h0, h1⟩, hk⟩ := h
    refine ⟨_, ?_, hk⟩
    simp only [binA, shiftOp]
    rw [if_neg (by omega), Nat.min_eq_left h1, fdiv_pow]
  · rename_i hs1 hs2
    split at h
    · exact h.elim
    rename_i hk
    obtain rfl := sameK_eq hk
    have e : ∀ {d : PV}, intOp o k a b = some d → binA P o t (.p (.int k a)) (.p (.int k b)) = some d := by
      intro d hd
      unfold binA
      simp only []
      rw [if_pos trivial]
      exact hd
    split at h
    · rcases h with ⟨h1, hk⟩ | hk
      · exact ⟨_, e (by simp only [intOp, h1.wrap]), hk⟩
      · exact ⟨_, e (by simp only [intOp]), hk⟩
    · rcases h with ⟨h1, hk⟩ | hk
      · exact ⟨_, e (by simp only [intOp, h1.wrap]), hk⟩
      · exact ⟨_, e (by simp only [intOp]), hk⟩
    · rcases h with ⟨h1, hk⟩ | hk
      · exact ⟨_, e (by simp only [intOp, h1.wrap]), hk⟩
      · exact ⟨_, e (by simp only [intOp]), hk⟩
    · obtain ⟨⟨h0, h1⟩, hk⟩ := h; exact ⟨_, e (by simp only [intOp, if_neg h0, h1.wrap]), hk⟩
    · obtain ⟨h0, hk⟩ := h; exact ⟨_, e (by simp only [intOp, if_neg h0]), hk⟩
    all_goals first | exact ⟨_, e rfl, h⟩ | exact h.elim
def strW (o : BinOp) (a b : List UInt8) (K : PV → Prop) : Prop :=
  match o with
  | .add => Side (a.length + b.length ≤ 9223372036854775807) (K (.str (a ++ b)))
  | .eql => K (.bool (decide (a = b)))
  | .neq => K (.bool (!decide (a = b)))
  | .lss => K (.bool (Op.bytesLess a b))
  | .leq => K (.bool (Op.bytesLess a b || decide (a = b)))
  | .gtr => K (.bool (!(Op.bytesLess a b || decide (a = b))))
  | .geq => K (.bool (!(Op.bytesLess a b)))
  | _ => False
theorem beq_str (a b : List UInt8) : (a == b) = decide (a = b) := by
  by_cases h : a = b
  · subst h; simp
  · simp [h]
theorem strW_spec {P : Program} {o : BinOp} {t : TypeId} {a b : List UInt8} {K : PV → Prop} (h : strW o a b K) : ∃ d, binA P o t (.p (.str a)) (.p (.str b)) = some d ∧ K d := by
  unfold strW at h
  split at h
  · obtain ⟨h1, hk⟩ := h
    exact ⟨_, by simp only [binA, strOp]; rw [if_pos (show a.length + b.length ≤ maxInt from h1)], hk⟩
  all_goals first | exact h.elim | exact ⟨_, by simp only [binA, strOp, beq_str], h⟩
inductive Src (off len : Nat) (es : List PV) (K : List PV → Prop) : Prop
  | whole (h : off = 0 ∧ len = es.length) (k : K es)
  | part (h : off + len ≤ es.length) (k : K ((es.drop off).take len))
def elemsK (H : Nat → HO) (x : V) (K : List PV → Prop) : Prop :=
  match x with
  | .p (.lst _ l) => K l
  | .p .nils => K []
  | .p .emp => K []
  | .sl n off len => match H n with
    | .arr _ _ es => Src off len es K
    | _ => False
  | _ => False
theorem elemsK_spec {H : Nat → HO} {x : V} {K : List PV → Prop} (h : elemsK H x K) : ∃ l, elems H x = some l ∧ K l := by
  unfold elemsK at h
  split at h
  · exact ⟨_, rfl, h⟩
  · exact ⟨_, rfl, h⟩
  · exact ⟨_, rfl, h⟩
  · rename_i n off len
    split at h
    · rename_i t s es hn
      cases h with
      | whole hc k =>
        obtain ⟨rfl, rfl⟩ := hc
        exact ⟨es, by simp [elems, hn], k⟩
      | part hc k => exact ⟨_, by simp [elems, hn, hc], k⟩
    · exact h.elim
  · exact h.elim
def srcK (P : Program) (H : Nat → HO) (tx : TypeId) (x : V) (K : List PV → Prop) : Prop :=
  match P.underlying tx with
  | some (.slice _) => elemsK H x K
  | some .string => match x with
    | .p (.str s) => K (s.map byteP)
    | _ => False
  | _ => False
theorem srcK_spec {P : Program} {H : Nat → HO} {tx : TypeId} {x : V} {K : List PV → Prop} (h : srcK P H tx x K) : ∃ l, srcA P H tx x = some l ∧ K l := by
  unfold srcK at h
  split at h
  · rename_i e hu
    obtain ⟨l, h1, h2⟩ := elemsK_spec h
    exact ⟨l, by simp [srcA, hu, h1], h2⟩
  · rename_i hu
    split at h
    · exact ⟨_, by simp [srcA, hu], h⟩
    · exact h.elim
  · exact h.elim
inductive ElemZ (l : List PV) (i sz : Nat) (K : PV → Prop) : Prop
  | mk (d : PV) (h : l[i]? = some d) (hz : d.cells.length = sz) (k : K d)
def appW (P : Program) (H : Nat → HO) (base : Nat) (t tx : TypeId) (s x : V) (K : Res → Prop) : Prop :=
  match P.underlying t with
  | some (.slice e) => match szT P e, byT P e, zeroT P e with
    | some sz, some by_, some z => match Nat.ble 1 sz && Nat.ble 1 by_ && Nat.beq z.cells.length sz with
      | true => litK sz fun sz => litK by_ fun by_ => srcK P H tx x fun news => match s with
        | .p .nils => Br news.isEmpty (K ⟨.p (.lst true []), .none⟩)
            (Side ((∀ y ∈ news, y.cells.length = sz) ∧ news.length * (2 * by_) ≤ 281474976710656) (K ⟨.sl base 0 news.length, .new (.arr e sz news)⟩))
        | .p (.lst true l) => Br news.isEmpty (K ⟨.p (.lst true l), .none⟩)
            (Side ((∀ y ∈ news, y.cells.length = sz) ∧ (l.length + news.length) * (2 * by_) ≤ 281474976710656 ∧ ∀ y ∈ l, y.cells.length = sz) (K ⟨.sl base 0 (l ++ news).length, .new (.arr e sz (l ++ news))⟩))
        | .sl n 0 len => match H n with
          | .arr ty sz' es => match Nat.beq ty e && Nat.beq sz' sz with
            | true => WrapW ((∀ y ∈ news, y.cells.length = sz) ∧ len = es.length ∧ (len + news.length) * (2 * by_) ≤ 281474976710656) (K ⟨.sl n 0 (es ++ news).length, .repoint n (.arr e sz (es ++ news))⟩)
                (Side ((∀ y ∈ news, y.cells.length = sz) ∧ ¬ len = es.length ∧ len + news.length ≤ es.length) (K ⟨.sl n 0 (len + news.length), .repoint n (.arr e sz (es.take len ++ (news ++ es.drop (len + news.length))))⟩))
            | false => False
          | _ => False
        | _ => False
      | false => False
    | _, _, _ => False
  | _ => False
theorem aopA_of {P : Program} {H : Nat → HO} {base : Nat} {ev : Operand → V} {op : Op} {r : Res} (h : aop P H base ev op = some r) : aopA P H base ev op = some r := by
  unfold aopA; rw [h]
theorem appW_spec {P : Program} {H : Nat → HO} {base : Nat} {ev : Operand → V} {t tx : TypeId} {s x : Operand} {args : Array Operand} {ts : Array TypeId} {K : Res → Prop} (ha : args.toList = [s, x]) (ht : ts.toList = [t, tx]) (h : appW P H base t tx (ev s) (ev x) K) :
    ∃ r, aopA P H base ev (.call ⟨.builtin .append, args, ts⟩) = some r ∧ K r := by
  unfold appW at h
  split at h
  case h_2 => exact h.elim
  rename_i e hu
  split at h
  case h_2 => exact h.elim
  rename_i sz by_ z hsz hby hz
  split at h
  case h_2 => exact h.elim
  rename_i hc
  simp only [Bool.and_eq_true] at hc
  obtain ⟨⟨h1, h2⟩, h3⟩ := hc
  have h1 := Nat.le_of_ble_eq_true h1
  have h2 := Nat.le_of_ble_eq_true h2
  have h3 := Nat.eq_of_beq_eq_true h3
  simp only [litK_eq] at h
  obtain ⟨news, hn, h⟩ := srcK_spec h
  have app : ∀ {r : Res}, appendA P H base t tx (ev s) (ev x) = some r → aopA P H base ev (.call ⟨.builtin .append, args, ts⟩) = some r := by
    intro r hr
    exact aopA_of (by simp only [aop, ha, ht]; exact hr)
  have nothing : ∀ {ex : Bool} {l : List PV}, (ev s).nn = .p (.lst ex l) → news = [] → (appendA P H base t tx (ev s) (ev x) = none) → aopA P H base ev (.call ⟨.builtin .append, args, ts⟩) = some ⟨.p (.lst ex l), .none⟩ := by
    intro ex l hs hne hap
    subst hne
    unfold aopA
    have e1 : aop P H base ev (.call ⟨.builtin .append, args, ts⟩) = none := by simp only [aop, ha, ht]; exact hap
    rw [e1]
    simp only [aopX, ha, ht, sliceT, hu, hs, hn, hsz, Option.getD_some, if_pos h1]
  split at h
  · rename_i hs
    have hnn : (ev s).nn = .p (.lst true []) := by rw [hs]; rfl
    cases hb : news.isEmpty with
    | true =>
      have hk := h.t hb
      have hne : news = [] := List.isEmpty_iff.1 hb
      refine ⟨_, nothing hnn hne ?_, hk⟩
      simp only [appendA, hu, hsz, hby, hz, hn, hnn]
      split
      · rw [if_neg (by simp [hne])]
      · rfl
    | false =>
      obtain ⟨⟨hc1, hc2⟩, hk⟩ := h.f hb
      have hne : news ≠ [] := by intro e; subst e; cases hb
      refine ⟨_, app ?_, hk⟩
      simp only [appendA, hu, hsz, hby, hz, hn, hnn]
      rw [if_pos ⟨h1, h2, h3, hc1⟩, if_pos ⟨by simpa [maxBytes] using hc2, hne, by simp⟩]
      simp
  · rename_i l hs
    have hnn : (ev s).nn = .p (.lst true l) := by rw [hs]; rfl
    cases hb : news.isEmpty with
    | true =>
      have hk := h.t hb
      have hne : news = [] := List.isEmpty_iff.1 hb
      refine ⟨_, nothing hnn hne ?_, hk⟩
      simp only [appendA, hu, hsz, hby, hz, hn, hnn]
      split
      · rw [if_neg (by simp [hne])]
      · rfl
    | false =>
      obtain ⟨⟨hc1, hc2, hc3⟩, hk⟩ := h.f hb
      have hne : news ≠ [] := by intro e; subst e; cases hb
      refine ⟨_, app ?_, hk⟩
      simp only [appendA, hu, hsz, hby, hz, hn, hnn]
      rw [if_pos ⟨h1, h2, h3, hc1⟩, if_pos ⟨by simpa [maxBytes] using hc2, hne, hc3⟩]
      simp
  · rename_i n len hs
    have hnn : (ev s).nn = .sl n 0 len := by rw [hs]; rfl
    split at h
    case h_2 => exact h.elim
    rename_i ty sz' es hH
    split at h
    case h_2 => exact h.elim
    rename_i hc
    simp only [Bool.and_eq_true] at hc
    have e1 := Nat.eq_of_beq_eq_true hc.1
    have e2 := Nat.eq_of_beq_eq_true hc.2
    rcases h with ⟨⟨hc1, hc2, hc3⟩, hk⟩ | ⟨⟨hc1, hc2, hc3⟩, hk⟩
    · refine ⟨_, app ?_, hk⟩
      simp only [appendA, hu, hsz, hby, hz, hn, hnn, hH]
      rw [if_pos ⟨h1, h2, h3, hc1⟩, if_pos ⟨e1, e2, hc2, by simpa [maxBytes] using hc3⟩]
      simp [hc2]
    · refine ⟨_, app ?_, hk⟩
      simp only [appendA, hu, hsz, hby, hz, hn, hnn, hH]
      rw [if_pos ⟨h1, h2, h3, hc1⟩, if_neg (fun h => hc2 h.2.2.1), if_pos ⟨e1, e2, hc2, hc3⟩]
  · exact h.elim
end Go.Am
end

section
namespace Go.Am
open Go
section
variable {P : Program} {H : Nat → HO} {base : Nat} {ev : Operand → V}
def strT (P : Program) (t : TypeId) : Bool := match P.underlying t with | some .string => true | _ => false
theorem strT_eq {t : TypeId} (h : strT P t = true) : P.underlying t = some .string := by
  unfold strT at h; split at h
  · assumption
  · cases h
def sliT (P : Program) (t : TypeId) : Option TypeId := match P.underlying t with | some (.slice e) => some e | _ => none
theorem sliT_eq {t e : TypeId} (h : sliT P t = some e) : P.underlying t = some (.slice e) := by
  unfold sliT at h; split at h
  · cases h; assumption
  · cases h
def intT (P : Program) (t : TypeId) : Option IntKind := match P.underlying t with | some (.int k) => some k | _ => none
theorem intT_eq {t : TypeId} {k : IntKind} (h : intT P t = some k) : P.underlying t = some (.int k) := by
  unfold intT at h; split at h
  · cases h; assumption
  · cases h
def rawW (P : Program) (H : Nat → HO) (base : Nat) (ev : Operand → V) (op : Op) (K : Res → Prop) : Prop :=
  match aopA P H base ev op with
  | some r => K r
  | none => False
theorem rawW_spec {op : Op} {K : Res → Prop} (h : rawW P H base ev op K) : ∃ r, aopA P H base ev op = some r ∧ K r := by
  unfold rawW at h
  split at h
  · exact ⟨_, by assumption, h⟩
  · exact h.elim
def ixW (P : Program) (t : TypeId) (s : List UInt8) (n : Int) (K : Res → Prop) : Prop :=
  match strT P t with
  | true => Side (0 ≤ n ∧ n < s.length) (K ⟨.p (byteP (s.getD n.toNat 0)), .none⟩)
  | false => False
theorem ixW_spec {t : TypeId} {x i : Operand} {s : List UInt8} {k : IntKind} {n : Int} {K : Res → Prop} (hx : ev x = .p (.str s)) (hi : ev i = .p (.int k n)) (h : ixW P t s n K) :
    ∃ r, aopA P H base ev (.index t x i) = some r ∧ K r := by
  unfold ixW at h
  split at h
  · rename_i ht
    obtain ⟨⟨h0, h1⟩, hk⟩ := h
    have hlt : n.toNat < s.length := by omega
    refine ⟨_, aopA_of ?_, hk⟩
    simp only [aop, indexA, hx, hi, idxI, if_pos h0, strT_eq ht, List.getElem?_eq_getElem hlt, Option.map_some, Option.bind_some, pureR, List.getD]
    rfl
  · exact h.elim
def ixaLW (P : Program) (t : TypeId) (l : List PV) (n : Int) (K : Res → Prop) : Prop :=
  match sliT P t with
  | some e => match szT P e with
    | some sz => litK sz fun sz => Side (0 ≤ n) (ElemZ l n.toNat sz fun d => K ⟨.p (.cptr d), .none⟩)
    | none => False
  | none => False
theorem ixaLW_spec {t : TypeId} {x i : Operand} {ex : Bool} {l : List PV} {k : IntKind} {n : Int} {K : Res → Prop} (hx : ev x = .p (.lst ex l)) (hi : ev i = .p (.int k n)) (h : ixaLW P t l n K) :
    ∃ r, aopA P H base ev (.indexAddr t x i) = some r ∧ K r := by
  unfold ixaLW at h
  split at h
  case h_2 => exact h.elim
  rename_i e ht
  split at h
  case h_2 => exact h.elim
  rename_i sz hsz
  rw [litK_eq] at h
  obtain ⟨h0, d, hd, hz, hk⟩ := h
  refine ⟨_, aopA_of ?_, hk⟩
  simp only [aop, indexAddrA, hx, hi, idxI, sliT_eq ht, if_pos h0, hd, hsz, if_pos hz, Option.bind_some, pureR]
def plus0 (off : Nat) (m : Nat) : Nat := match off with
  | 0 => m
  | o => o + m
theorem plus0_eq (off m : Nat) : plus0 off m = off + m := by unfold plus0; split <;> omega
def ixaSW (P : Program) (H : Nat → HO) (t : TypeId) (m off len : Nat) (n : Int) (K : Res → Prop) : Prop :=
  match sliT P t with
  | some e => match szT P e, H m with
    | some sz, .arr _ sz' _ => match Nat.beq sz sz' with
      | true => Side (0 ≤ n ∧ n < len) (K ⟨.eptr m (plus0 off n.toNat) 0, .none⟩)
      | false => False
    | _, _ => False
  | none => False
theorem ixaSW_spec {t : TypeId} {x i : Operand} {m off len : Nat} {k : IntKind} {n : Int} {K : Res → Prop} (hx : ev x = .sl m off len) (hi : ev i = .p (.int k n)) (h : ixaSW P H t m off len n K) :
    ∃ r, aopA P H base ev (.indexAddr t x i) = some r ∧ K r := by
  unfold ixaSW at h
  split at h
  case h_2 => exact h.elim
  rename_i e ht
  split at h
  case h_2 => exact h.elim
  rename_i sz ty sz' es hsz hm
  split at h
  case h_2 => exact h.elim
  rename_i hb
  have hb := Nat.eq_of_beq_eq_true hb
  obtain ⟨h0, hk⟩ := h
  refine ⟨_, aopA_of ?_, hk⟩
  simp only [aop, indexAddrA, hx, hi, idxI, sliT_eq ht, if_pos h0, hm, hsz, hb, if_true, Option.bind_some, pureR, plus0_eq]
def wholeW (P : Program) (t : TypeId) (d : PV) (K : Res → Prop) : Prop :=
  match isRowT P t, szT P t with
  | some agg, some n => litK n fun n => Side (n = d.cells.length ∧ agg = d.isAgg) (K ⟨.p d, .none⟩)
  | _, _ => False
theorem sub_whole {d : PV} {n : Nat} {agg : Bool} (h1 : n = d.cells.length) (h2 : agg = d.isAgg) : d.sub 0 n agg = some d := by
  unfold PV.sub
  rw [if_pos ⟨rfl, h1, h2⟩]
theorem loadC_spec {t : TypeId} {a : Operand} {d : PV} {K : Res → Prop} (ha : ev a = .p (.cptr d)) (h : wholeW P t d K) : ∃ r, aopA P H base ev (.load t a) = some r ∧ K r := by
  unfold wholeW at h
  split at h
  case h_2 => exact h.elim
  rename_i agg n h1 h2
  rw [litK_eq] at h
  obtain ⟨⟨h3, h4⟩, hk⟩ := h
  refine ⟨_, aopA_of ?_, hk⟩
  simp only [aop, loadA, h1, h2, ha, sub_whole h3 h4, Option.map_some, Option.bind_some, pureR]
inductive ElemA (es : List PV) (i : Nat) (K : PV → Prop) : Prop
  | mk (d : PV) (h : es[i]? = some d) (k : K d)
def loadEW (P : Program) (H : Nat → HO) (t : TypeId) (m i off : Nat) (K : Res → Prop) : Prop :=
  match H m with
  | .arr _ sz es => match isRowT P t, szT P t with
    | some agg, some n => match Nat.beq off 0 && Nat.beq n sz with
      | true => litK n fun n => ElemA es i fun d => Side (n = d.cells.length ∧ agg = d.isAgg) (K ⟨.p d, .none⟩)
      | false => ElemA es i fun d => match d.sub off n agg with
        | some x => K ⟨.p x, .none⟩
        | none => False
    | _, _ => False
  | _ => False
theorem loadEW_spec {t : TypeId} {a : Operand} {m i off : Nat} {K : Res → Prop} (ha : ev a = .eptr m i off) (h : loadEW P H t m i off K) : ∃ r, aopA P H base ev (.load t a) = some r ∧ K r := by
  unfold loadEW at h
  split at h
  case h_2 => exact h.elim
  rename_i ty sz es hm
  split at h
  case h_2 => exact h.elim
  rename_i agg n h1 h2
  split at h
  · rename_i hc
    simp only [Bool.and_eq_true] at hc
    have e1 := Nat.eq_of_beq_eq_true hc.1
    subst e1
    rw [litK_eq] at h
    obtain ⟨d, hd, ⟨h3, h4⟩, hk⟩ := h
    refine ⟨_, aopA_of ?_, hk⟩
    simp only [aop, loadA, h1, h2, ha, hm, hd, sub_whole h3 h4, Option.map_some, Option.bind_some, pureR]
  · obtain ⟨d, hd, hk⟩ := h
    split at hk
    · rename_i x hx
      refine ⟨_, aopA_of ?_, hk⟩
      simp only [aop, loadA, h1, h2, ha, hm, hd, hx, Option.map_some, Option.bind_some, pureR]
    · exact hk.elim
def storeEW (P : Program) (H : Nat → HO) (t : TypeId) (m i off : Nat) (x : PV) (K : Res → Prop) : Prop :=
  match H m with
  | .arr ty sz es => match szT P t with
    | some n => match Nat.beq off 0 && Nat.beq n sz with
      | true => litK n fun n => ElemA es i fun y => Side (x.cells.length = n ∧ (V.p x).storable = true ∧ x.cells.length = y.cells.length ∧ x.isAgg = y.isAgg) (K ⟨.p (.tup []), .upd m (.arr ty sz (es.set i x))⟩)
      | false => ElemA es i fun y => Side (x.cells.length = n ∧ (V.p x).storable = true) (match y.put off x with
        | some y' => K ⟨.p (.tup []), .upd m (.arr ty sz (es.set i y'))⟩
        | none => False)
    | none => False
  | _ => False
theorem storeEW_spec {t : TypeId} {a v : Operand} {m i off : Nat} {x : PV} {K : Res → Prop} (ha : ev a = .eptr m i off) (hv : ev v = .p x) (h : storeEW P H t m i off x K) : ∃ r, aopA P H base ev (.store t a v) = some r ∧ K r := by
  unfold storeEW at h
  split at h
  case h_2 => exact h.elim
  rename_i ty sz es hm
  split at h
  case h_2 => exact h.elim
  rename_i n h2
  have hcl : (V.p x).cells.length = x.cells.length := by rw [V.cells_p]; simp
  split at h
  · rename_i hc
    simp only [Bool.and_eq_true] at hc
    have e1 := Nat.eq_of_beq_eq_true hc.1
    subst e1
    rw [litK_eq] at h
    obtain ⟨y, hy, ⟨h3, h4, h5, h6⟩, hk⟩ := h
    refine ⟨_, aopA_of ?_, hk⟩
    have hput : y.put 0 x = some x := by unfold PV.put; rw [if_pos ⟨rfl, h5, h6⟩]
    simp only [aop, storeA, h2, ha, hv, hm, hy, hcl]
    rw [if_pos ⟨h3, h4⟩]
    simp only [hput, Option.map_some]
  · obtain ⟨y, hy, ⟨h3, h4⟩, hk⟩ := h
    split at hk
    · rename_i y' hput
      refine ⟨_, aopA_of ?_, hk⟩
      simp only [aop, storeA, h2, ha, hv, hm, hy, hcl]
      rw [if_pos ⟨h3, h4⟩]
      simp only [hput, Option.map_some]
    · exact hk.elim
def sliceStrW (s : List UInt8) (lo hi : Option V) (K : Res → Prop) : Prop :=
  match lo, hi with
  | none, none => K ⟨.p (.str s), .none⟩
  | some (.p (.int _ a)), none => Side (0 ≤ a ∧ a ≤ s.length) (K ⟨.p (.str (s.drop a.toNat)), .none⟩)
  | none, some (.p (.int _ b)) => Side (0 ≤ b ∧ b ≤ s.length) (K ⟨.p (.str (s.take b.toNat)), .none⟩)
  | some (.p (.int _ a)), some (.p (.int _ b)) => Side (0 ≤ a ∧ a ≤ b ∧ b ≤ s.length) (K ⟨.p (.str ((s.drop a.toNat).take (b.toNat - a.toNat))), .none⟩)
  | _, _ => False
theorem bounds_of {len cap : Nat} {lo hi : Option V} {a b : Int} (h1 : (match hi with | some v => idxI v | none => some (len : Int)) = some b) (h2 : (match lo with | some v => idxI v | none => some 0) = some a)
    (hc : 0 ≤ a ∧ a ≤ b ∧ b ≤ cap) : boundsA len cap lo hi = some (a.toNat, b.toNat) := by
  unfold boundsA
  cases hi <;> cases lo <;> simp_all <;> omega
theorem sliceStrW_spec {t : TypeId} {x : Operand} {lo hi : Option Operand} {s : List UInt8} {K : Res → Prop} (ht : strT P t = true) (hx : ev x = .p (.str s)) (h : sliceStrW s (lo.map ev) (hi.map ev) K) :
    ∃ r, aopA P H base ev (.slice t x lo hi none) = some r ∧ K r := by
  have key : ∀ {a b : Int} {s' : List UInt8}, boundsA s.length s.length (lo.map ev) (hi.map ev) = some (a.toNat, b.toNat) → s' = (s.drop a.toNat).take (b.toNat - a.toNat) → K ⟨.p (.str s'), .none⟩ → ∃ r, aopA P H base ev (.slice t x lo hi none) = some r ∧ K r := by
    intro a b s' hb hs hk
    subst hs
    refine ⟨_, aopA_of ?_, hk⟩
    simp only [aop, sliceA, hx, V.nn, strT_eq ht, Option.map_none, hb, Option.map_some, Option.bind_some, pureR]
  unfold sliceStrW at h
  split at h
  · rename_i h1 h2
    exact key (a := 0) (b := s.length) (bounds_of (by rw [h2]) (by rw [h1]) (by omega)) (by simp) h
  · rename_i k a h1 h2
    obtain ⟨hc, hk⟩ := h
    exact key (a := a) (b := s.length) (bounds_of (by rw [h2]) (by rw [h1]; rfl) (by omega)) (by simp [List.take_of_length_le]) hk
  · rename_i k b h1 h2
    obtain ⟨hc, hk⟩ := h
    exact key (a := 0) (b := b) (bounds_of (by rw [h2]; rfl) (by rw [h1]) (by omega)) (by simp) hk
  · rename_i k a k' b h1 h2
    obtain ⟨hc, hk⟩ := h
    exact key (a := a) (b := b) (bounds_of (by rw [h2]; rfl) (by rw [h1]; rfl) hc) rfl hk
  · exact h.elim
def sliceLstW (n : Nat) (ex : Bool) (xs : List PV) (lo hi : Option V) (K : Res → Prop) : Prop :=
  match lo, hi with
  | some (.p (.int _ a)), none => Side ((∀ x ∈ xs, x.cells.length = n) ∧ 0 ≤ a ∧ a ≤ xs.length) (K ⟨.p (.lst ex (xs.drop a.toNat)), .none⟩)
  | none, some (.p (.int _ b)) => Side ((∀ x ∈ xs, x.cells.length = n) ∧ ex = false ∧ 0 ≤ b ∧ b ≤ xs.length) (K ⟨.p (.lst false (xs.take b.toNat)), .none⟩)
  | some (.p (.int _ a)), some (.p (.int _ b)) => Side ((∀ x ∈ xs, x.cells.length = n) ∧ ex = false ∧ 0 ≤ a ∧ a ≤ b ∧ b ≤ xs.length) (K ⟨.p (.lst false ((xs.drop a.toNat).take (b.toNat - a.toNat))), .none⟩)
  | _, _ => False
theorem sliceLstW_spec {t e : TypeId} {x : Operand} {lo hi : Option Operand} {n : Nat} {ex : Bool} {xs : List PV} {K : Res → Prop} (ht : sliT P t = some e) (hn : szT P e = some n) (hx : ev x = .p (.lst ex xs)) (h : sliceLstW n ex xs (lo.map ev) (hi.map ev) K) :
    ∃ r, aopA P H base ev (.slice t x lo hi none) = some r ∧ K r := by
  have key : ∀ {a b : Int} {ex' : Bool} {l : List PV}, (∀ x ∈ xs, x.cells.length = n) → boundsA xs.length xs.length (lo.map ev) (hi.map ev) = some (a.toNat, b.toNat) → ex' = (ex && b.toNat == xs.length) → l = (xs.drop a.toNat).take (b.toNat - a.toNat) →
      K ⟨.p (.lst ex' l), .none⟩ → ∃ r, aopA P H base ev (.slice t x lo hi none) = some r ∧ K r := by
    intro a b ex' l ha hb he hl hk
    subst hl; subst he
    refine ⟨_, aopA_of ?_, hk⟩
    simp only [aop, sliceA, hx, V.nn, sliT_eq ht, hn, Option.map_none]
    rw [if_pos ha]
    simp only [hb, Option.map_some, Option.bind_some, pureR]
  unfold sliceLstW at h
  split at h
  · rename_i k a h1 h2
    obtain ⟨hc, hk⟩ := h
    exact key (a := a) (b := xs.length) hc.1 (bounds_of (by rw [h2]) (by rw [h1]; rfl) (by omega)) (by simp) (by simp [List.take_of_length_le]) hk
  · rename_i k b h1 h2
    obtain ⟨⟨hc, he, h3⟩, hk⟩ := h
    subst he
    exact key (a := 0) (b := b) hc (bounds_of (by rw [h2]; rfl) (by rw [h1]) (by omega)) (by simp) (by simp) hk
  · rename_i k a k' b h1 h2
    obtain ⟨⟨hc, he, h3⟩, hk⟩ := h
    subst he
    exact key (a := a) (b := b) hc (bounds_of (by rw [h2]; rfl) (by rw [h1]; rfl) h3) (by simp) rfl hk
  · exact h.elim
def sliceMaxW (n : Nat) (xs : List PV) (lo : Option V) (hi mx : V) (K : Res → Prop) : Prop :=
  match lo, hi, mx with
  | none, .p (.int _ b), .p (.int _ m) => Side ((∀ x ∈ xs, x.cells.length = n) ∧ 0 ≤ b ∧ b ≤ xs.length ∧ m = b) (K ⟨.p (.lst true (xs.take b.toNat)), .none⟩)
  | some (.p (.int _ a)), .p (.int _ b), .p (.int _ m) => Side ((∀ x ∈ xs, x.cells.length = n) ∧ 0 ≤ a ∧ a ≤ b ∧ b ≤ xs.length ∧ m = b) (K ⟨.p (.lst true ((xs.drop a.toNat).take (b.toNat - a.toNat))), .none⟩)
  | _, _, _ => False
theorem sliceMaxW_spec {t e : TypeId} {x hi mx : Operand} {lo : Option Operand} {n : Nat} {ex : Bool} {xs : List PV} {K : Res → Prop} (ht : sliT P t = some e) (hn : szT P e = some n) (hx : (ev x).nn = .p (.lst ex xs)) (h : sliceMaxW n xs (lo.map ev) (ev hi) (ev mx) K) :
    ∃ r, aopA P H base ev (.slice t x lo (some hi) (some mx)) = some r ∧ K r := by
  have key : ∀ {a b m : Int} {l : List PV}, (∀ x ∈ xs, x.cells.length = n) → idxI (ev mx) = some m → m = b → 0 ≤ b → b ≤ xs.length → boundsA xs.length m.toNat (lo.map ev) (some (ev hi)) = some (a.toNat, b.toNat) → l = (xs.drop a.toNat).take (b.toNat - a.toNat) →
      K ⟨.p (.lst true l), .none⟩ → ∃ r, aopA P H base ev (.slice t x lo (some hi) (some mx)) = some r ∧ K r := by
    intro a b m l ha hm hmb h0 hb1 hb hl hk
    subst hl
    refine ⟨_, aopA_of ?_, hk⟩
    simp only [aop, sliceA, hx, sliT_eq ht, hn, Option.map_some, hm, hb]
    rw [if_pos ⟨by omega, by omega, rfl, ha⟩]
    simp only [Option.bind_some, pureR]
  unfold sliceMaxW at h
  split at h
  · rename_i k b k' m h1 h2 h3
    obtain ⟨⟨hc, h4, h5, h6⟩, hk⟩ := h
    refine key (a := 0) (b := b) (m := m) hc (by rw [h3]; rfl) h6 h4 h5 (bounds_of (by rw [h2]; rfl) (by rw [h1]) (by omega)) (by simp) hk
  · rename_i k a k' b k'' m h1 h2 h3
    obtain ⟨⟨hc, h4, h5, h6, h7⟩, hk⟩ := h
    refine key (a := a) (b := b) (m := m) hc (by rw [h3]; rfl) h7 (by omega) h6 (bounds_of (by rw [h2]; rfl) (by rw [h1]; rfl) (by omega)) rfl hk
  · exact h.elim
def sliceM3W (len : Nat) (lo : Option V) (hi mx : V) (K : Res → Prop) : Prop :=
  match lo, hi, mx with
  | none, .p (.int _ b), .p (.int _ m) => Side (0 ≤ b ∧ b ≤ m ∧ m ≤ len) (K ⟨.junk, .none⟩)
  | some (.p (.int _ a)), .p (.int _ b), .p (.int _ m) => Side (0 ≤ a ∧ a ≤ b ∧ b ≤ m ∧ m ≤ len) (K ⟨.junk, .none⟩)
  | _, _, _ => False
theorem sliceM3W_spec {t e : TypeId} {x hi mx : Operand} {lo : Option Operand} {q off len : Nat} {ty : TypeId} {sz : Nat} {es : List PV} {K : Res → Prop} (ht : sliT P t = some e) (hn : szT P e = some sz) (hm : H q = .arr ty sz es) (hx : (ev x).nn = .sl q off len) (h : sliceM3W len (lo.map ev) (ev hi) (ev mx) K) :
    ∃ r, aopA P H base ev (.slice t x lo (some hi) (some mx)) = some r ∧ K r := by
  have key : ∀ {a b m : Int}, idxI (ev mx) = some m → 0 ≤ m → m ≤ len → boundsA len m.toNat (lo.map ev) (some (ev hi)) = some (a.toNat, b.toNat) →
      K ⟨.junk, .none⟩ → ∃ r, aopA P H base ev (.slice t x lo (some hi) (some mx)) = some r ∧ K r := by
    intro a b m hmm h0 h1 hb hk
    refine ⟨_, aopA_of ?_, hk⟩
    simp only [aop, sliceA, hx, sliT_eq ht, hn, Option.map_some, hm, hmm]
    rw [if_pos ⟨trivial, rfl, h0, by omega⟩, hb]
    simp only [Option.map_some, Option.bind_some, pureR]
  unfold sliceM3W at h
  split at h
  · rename_i k b k' m h1 h2 h3
    obtain ⟨⟨h4, h5, h6⟩, hk⟩ := h
    exact key (a := 0) (b := b) (m := m) (by rw [h3]; rfl) (by omega) h6 (bounds_of (by rw [h2]; rfl) (by rw [h1]) (by omega)) hk
  · rename_i k a k' b k'' m h1 h2 h3
    obtain ⟨⟨h4, h5, h6, h7⟩, hk⟩ := h
    exact key (a := a) (b := b) (m := m) (by rw [h3]; rfl) (by omega) h7 (bounds_of (by rw [h2]; rfl) (by rw [h1]; rfl) (by omega)) hk
  · exact h.elim
def sliceSlW (m off len cp : Nat) (lo hi : Option V) (K : Res → Prop) : Prop :=
  match lo, hi with
  | none, none => K ⟨.sl m off len, .none⟩
  | some (.p (.int _ a)), none => Side (0 ≤ a ∧ a ≤ len) (K ⟨.sl m (plus0 off a.toNat) (len - a.toNat), .none⟩)
  | none, some (.p (.int _ b)) => WrapW (0 ≤ b ∧ b ≤ len) (K ⟨.sl m off b.toNat, .none⟩) (Side (0 ≤ b ∧ b ≤ ((cp - off : Nat) : Int)) (K ⟨.sl m off b.toNat, .none⟩))
  | some (.p (.int _ a)), some (.p (.int _ b)) => WrapW (0 ≤ a ∧ a ≤ b ∧ b ≤ len) (K ⟨.sl m (plus0 off a.toNat) (b.toNat - a.toNat), .none⟩) (Side (0 ≤ a ∧ a ≤ b ∧ b ≤ ((cp - off : Nat) : Int)) (K ⟨.sl m (plus0 off a.toNat) (b.toNat - a.toNat), .none⟩))
  | _, _ => False
theorem sliceSlW_spec {t e : TypeId} {x : Operand} {lo hi : Option Operand} {m off len : Nat} {ty : TypeId} {sz : Nat} {es : List PV} {K : Res → Prop} (ht : sliT P t = some e) (hn : szT P e = some sz) (hm : H m = .arr ty sz es) (hx : ev x = .sl m off len) (h : sliceSlW m off len es.length (lo.map ev) (hi.map ev) K) :
    ∃ r, aopA P H base ev (.slice t x lo hi none) = some r ∧ K r := by
  have key : ∀ {a b : Int} {o l : Nat}, boundsA len (max len (es.length - off)) (lo.map ev) (hi.map ev) = some (a.toNat, b.toNat) → o = off + a.toNat → l = b.toNat - a.toNat →
      K ⟨.sl m o l, .none⟩ → ∃ r, aopA P H base ev (.slice t x lo hi none) = some r ∧ K r := by
    intro a b o l hb ho hl hk
    subst hl; subst ho
    refine ⟨_, aopA_of ?_, hk⟩
    simp only [aop, sliceA, hx, V.nn, sliT_eq ht, hm, hn, Option.map_none, if_true, hb, Option.map_some, Option.bind_some, pureR]
  unfold sliceSlW at h
  split at h
  · rename_i h1 h2
    exact key (a := 0) (b := len) (bounds_of (by rw [h2]) (by rw [h1]) (by omega)) (by simp) (by simp) h
  · rename_i k a h1 h2
    obtain ⟨hc, hk⟩ := h
    exact key (a := a) (b := len) (bounds_of (by rw [h2]) (by rw [h1]; rfl) (by omega)) (plus0_eq _ _) (by simp) hk
  · rename_i k b h1 h2
    rcases h with ⟨hc, hk⟩ | ⟨hc, hk⟩
    · exact key (a := 0) (b := b) (bounds_of (by rw [h2]; rfl) (by rw [h1]) (by omega)) (by simp) (by simp) hk
    · exact key (a := 0) (b := b) (bounds_of (by rw [h2]; rfl) (by rw [h1]) (by omega)) (by simp) (by simp) hk
  · rename_i k a k' b h1 h2
    rcases h with ⟨hc, hk⟩ | ⟨hc, hk⟩
    · exact key (a := a) (b := b) (bounds_of (by rw [h2]; rfl) (by rw [h1]; rfl) (by omega)) (plus0_eq _ _) rfl hk
    · exact key (a := a) (b := b) (bounds_of (by rw [h2]; rfl) (by rw [h1]; rfl) (by omega)) (plus0_eq _ _) rfl hk
  · exact h.elim
end
end Go.Am
end

section
namespace Go.Am
open Go
section
variable {P : Program} {H : Nat → HO} {base : Nat} {ev : Operand → V}
def mkSlW (P : Program) (base : Nat) (t : TypeId) (l c : Int) (K : Res → Prop) : Prop :=
  match elemT P t with
  | some e => match szT P e, byT P e, zeroT P e with
    | some n, some by_, some z => litK n fun n => litK by_ fun by_ => match Nat.ble 1 n && Nat.beq z.cells.length n with
      | true => Side (0 ≤ l ∧ l ≤ c ∧ (by_ : Int) * c ≤ 281474976710656 ∧ c ≤ 9223372036854775807)
        (K ⟨.sl base 0 (List.replicate l.toNat z).length, .new (.arr e n (List.replicate l.toNat z))⟩)
      | false => False
    | _, _, _ => False
  | none => False
theorem mkSlW_spec {t : TypeId} {l c : Operand} {kl kc : IntKind} {ln cn : Int} {K : Res → Prop} (hl : ev l = .p (.int kl ln)) (hc : ev c = .p (.int kc cn)) (h : mkSlW P base t ln cn K) :
    ∃ r, aopA P H base ev (.makeSlice t l c) = some r ∧ K r := by
  unfold mkSlW at h
  split at h
  case h_2 => exact h.elim
  rename_i e he
  split at h
  case h_2 => exact h.elim
  rename_i n by_ z h1 h2 h3
  simp only [litK_eq] at h
  split at h
  case h_2 => exact h.elim
  rename_i hb
  rw [Bool.and_eq_true] at hb
  have b1 := Nat.le_of_ble_eq_true hb.1
  have b2 := Nat.eq_of_beq_eq_true hb.2
  obtain ⟨⟨c1, c2, c3, c4⟩, hk⟩ := h
  refine ⟨_, aopA_of ?_, hk⟩
  simp only [aop, he, hl, hc, idxI, h1, h2, h3]
  rw [if_pos ⟨c1, c2, by simpa [maxBytes] using c3, by simpa [maxInt] using c4, b1, b2⟩]
  simp
def convIntW (k0 k : IntKind) (n : Int) (K : Res → Prop) : Prop :=
  match fitsK k0 k with
  | true => Side (InR k n) (K ⟨.p (.int k n), .none⟩)
  | false => K ⟨.p (.int k (k.wrap n)), .none⟩
def isU8T (P : Program) (t : TypeId) : Bool := match sliT P t with | some e => isU8 P e | none => false
def unsafeT (P : Program) (t : TypeId) : Bool := match P.underlying t with | some .unsafePointer => true | _ => false
def convPW (P : Program) (H : Nat → HO) (b : TypeId) (v : V) (K : Res → Prop) : Prop :=
  match P.underlying b, v with
  | some (.pointer u), .ptr n o => match H n, szT P u with
    | .var t x, some _ => Side (liesAt P P.depth t (x.cells.length / P.cellsOf t) o u 1 = true) (K ⟨.ptr n o, .none⟩)
    | _, _ => False
  | _, _ => False
theorem convPW_spec {a b : TypeId} {x : Operand} {K : Res → Prop} (ha : unsafeT P a = true) (h : convPW P H b (ev x) K) : ∃ r, aopA P H base ev (.convert a b x) = some r ∧ K r := by
  have ha' : P.underlying a = some .unsafePointer := by
    unfold unsafeT at ha; split at ha
    · assumption
    · cases ha
  unfold convPW at h
  split at h
  case h_2 => exact h.elim
  rename_i u n o hb hx
  split at h
  case h_2 => exact h.elim
  rename_i t v k hH hu
  obtain ⟨hl, hk⟩ := h
  refine ⟨_, ?_, hk⟩
  have e1 : aop P H base ev (.convert a b x) = none := by
    simp only [aop, convA, bytesA, ha', hb, hx]
  unfold aopA
  rw [e1]
  simp only [aopX, ha', hb, hx, hH, hu, hl, if_true]
def convW (P : Program) (H : Nat → HO) (base : Nat) (ev : Operand → V) (a b : TypeId) (x : Operand) (K : Res → Prop) : Prop :=
  match ev x with
  | .p (.int k0 n) => match intT P a, intT P b with
    | some _, some k => convIntW k0 k n K
    | _, _ => False
  | .p (.str s) => match isU8T P b && strT P a with
    | true => match sliT P b with
      | some e => K ⟨.sl base 0 (s.map byteP).length, .new (.arr e 1 (s.map byteP))⟩
      | none => False
    | false => rawW P H base ev (.convert a b x) K
  | v => match isU8T P a && strT P b with
    | true => elemsK H v fun l => Bytes l fun s => K ⟨.p (.str s), .none⟩
    | false => match unsafeT P a with
      | true => convPW P H b v K
      | false => rawW P H base ev (.convert a b x) K
theorem convW_spec {a b : TypeId} {x : Operand} {K : Res → Prop} (h : convW P H base ev a b x K) : ∃ r, aopA P H base ev (.convert a b x) = some r ∧ K r := by
  unfold convW at h
  split at h
  · rename_i k0 n hx
    split at h
    case h_2 => exact h.elim
    rename_i ka k h1 h2
    have e : ∀ m, k.wrap n = m → aop P H base ev (.convert a b x) = some ⟨.p (.int k m), .none⟩ := by
      intro m hm
      simp only [aop, convA, intT_eq h1, intT_eq h2, hx, pureR, hm]
    unfold convIntW at h
    split at h
    · exact ⟨_, aopA_of (e _ h.l.wrap), h.r⟩
    · exact ⟨_, aopA_of (e _ rfl), h⟩
  · rename_i s hx
    split at h
    · rename_i hc
      rw [Bool.and_eq_true] at hc
      split at h
      · rename_i e he
        have hu : isU8 P e = true := by have := hc.1; unfold isU8T at this; rw [he] at this; exact this
        refine ⟨_, aopA_of ?_, h⟩
        have hc1 : convA P a b (.p (.str s)) H = none := by simp only [convA, strT_eq hc.2, sliT_eq he]
        simp only [aop, hx, hc1, bytesA, strT_eq hc.2, sliT_eq he, hu, if_true]
        simp
      · exact h.elim
    · exact rawW_spec h
  · rename_i v hn1 hn2
    split at h
    · rename_i hc
      rw [Bool.and_eq_true] at hc
      obtain ⟨l, hl, s, hs, hk⟩ := elemsK_spec h
      cases hsl : sliT P a with
      | none => have := hc.1; unfold isU8T at this; rw [hsl] at this; cases this
      | some e =>
        have hu : isU8 P e = true := by have := hc.1; unfold isU8T at this; rw [hsl] at this; exact this
        refine ⟨_, aopA_of ?_, hk⟩
        have hc1 : convA P a b (ev x) H = some ⟨.p (.str s), .none⟩ := by
          simp only [convA, strT_eq hc.2, sliT_eq hsl, hu, if_true, hl, hs, Option.bind_some, pureR]
        simp only [aop, hc1]
    · split at h
      · rename_i ha; exact convPW_spec ha h
      · exact rawW_spec h
def bldSlW (P : Program) (base : Nat) (t : TypeId) (len : Nat) (parts : List (Nat × V)) (K : Res → Prop) : Prop :=
  match elemT P t with
  | some e => match szT P e, partsL 0 parts with
    | some n, some ds => litK n fun n => Side (∀ y ∈ ds, y.cells.length = n ∧ ∀ c ∈ y.cells, c.leaf = true) (match Nat.beq ds.length len && (Nat.ble 1 n && (Nat.ble (len * n) 16777216 && (zeroT P e).isSome)) with
      | true => K ⟨.sl base 0 len, .new (.arr e n ds)⟩
      | false => False)
    | _, _ => False
  | none => False
theorem bldSlW_aop {t : TypeId} {len : Nat} {parts : Array (Nat × Operand)} {K : Res → Prop} (h : bldSlW P base t len (parts.toList.map fun p => (p.1, ev p.2)) K) :
    ∃ r, aop P H base ev (.buildSlice t len parts) = some r ∧ K r := by
  unfold bldSlW at h
  split at h
  case h_2 => exact h.elim
  rename_i e he
  split at h
  case h_2 => exact h.elim
  rename_i n ds h1 h2
  rw [litK_eq] at h
  obtain ⟨hs, h⟩ := h
  split at h
  case h_2 => exact h.elim
  rename_i hc
  simp only [Bool.and_eq_true] at hc
  obtain ⟨c1, c2, c3, c4⟩ := hc
  refine ⟨_, ?_, h⟩
  simp only [aop, he, h1, h2]
  rw [if_pos ⟨Nat.eq_of_beq_eq_true c1, Nat.le_of_ble_eq_true c2, Nat.le_of_ble_eq_true c3, hs, c4⟩]
theorem bldSlW_spec {t : TypeId} {len : Nat} {parts : Array (Nat × Operand)} {K : Res → Prop} (h : bldSlW P base t len (parts.toList.map fun p => (p.1, ev p.2)) K) :
    ∃ r, aopA P H base ev (.buildSlice t len parts) = some r ∧ K r := by
  obtain ⟨r, h1, h2⟩ := bldSlW_aop (H := H) h
  exact ⟨r, aopA_of h1, h2⟩
def pickW (ev : Operand → V) (c a b : Operand) (K : Res → Prop) : Prop :=
  match ev c with
  | .p (.bool t) => Br t (K ⟨ev a, .none⟩) (K ⟨ev b, .none⟩)
  | _ => False
theorem pickW_spec {c a b : Operand} {K : Res → Prop} (h : pickW ev c a b K) : ∃ r, aopA P H base ev (.pick c a b) = some r ∧ K r := by
  unfold pickW at h
  split at h
  case h_2 => exact h.elim
  rename_i t hc
  have key : aop P H base ev (.pick c a b) = some ⟨if t = true then ev a else ev b, .none⟩ := by
    simp only [aop, hc, pureR]
    split
    · rename_i x y h1 h2
      rw [h1, h2]
      split <;> rfl
    · rfl
  cases ht : t with
  | true => exact ⟨_, aopA_of key, by rw [if_pos ht]; exact h.t ht⟩
  | false => exact ⟨_, aopA_of key, by rw [if_neg (by rw [ht]; simp)]; exact h.f ht⟩
inductive MapG (P : Program) (K : TypeId) (k : PV) (ks : List PV) (vs : MV) (Q : Option V → Prop) : Prop
  | mk (r : Option V) (hk : keysOk P K k ks) (h : getM k ks vs = r) (q : Q r)
inductive MapU (P : Program) (K : TypeId) (k : PV) (ks : List PV) (vs : MV) (v : V) (Q : List PV → MV → Prop) : Prop
  | mk (ks' : List PV) (vs' : MV) (hk : keysOk P K k ks) (h1 : putMK k ks = ks') (h2 : putMV k ks vs v = vs') (q : Q ks' vs')
def lookRW (P : Program) (E : TypeId) (ok : Bool) (K : Res → Prop) (r : Option V) : Prop := match r with
  | some v => (match ok with
    | true => K ⟨.tup [v, .p (.bool true)], .none⟩
    | false => K ⟨v, .none⟩)
  | none => match zeroT P E with
    | some z => (match ok with
      | true => K ⟨.tup [.p z, .p (.bool false)], .none⟩
      | false => K ⟨.p z, .none⟩)
    | none => False
theorem lookRW_spec {E : TypeId} {ok : Bool} {K : Res → Prop} {r : Option V} (h : lookRW P E ok K r) : ∃ v, lookR P E ok r = some v ∧ K ⟨v, .none⟩ := by
  unfold lookRW at h
  split at h
  · split at h
    · exact ⟨_, rfl, h⟩
    · exact ⟨_, rfl, h⟩
  · split at h
    · rename_i z hz
      split at h
      · exact ⟨_, by simp [lookR, hz], h⟩
      · exact ⟨_, by simp [lookR, hz], h⟩
    · exact h.elim
def lookW (P : Program) (H : Nat → HO) (base : Nat) (ev : Operand → V) (t : TypeId) (x ix : Operand) (ok : Bool) (K : Res → Prop) : Prop :=
  match mapKE P t, ev ix, ev x with
  | some (kt, E), .p k, .mapr n => match H n with
    | .mp ks vs => MapG P kt k ks vs (lookRW P E ok K)
    | _ => False
  | _, _, _ => rawW P H base ev (.lookup t x ix ok) K
theorem aopA_lookup {t : TypeId} {x ix : Operand} {ok : Bool} {r : Option Res} (h : aopM P H base ev (.lookup t x ix ok) = r) : aopA P H base ev (.lookup t x ix ok) = r := h
theorem aopA_mapUpdate {t : TypeId} {x ix v : Operand} {r : Option Res} (h : aopM P H base ev (.mapUpdate t x ix v) = r) : aopA P H base ev (.mapUpdate t x ix v) = r := h
theorem lookW_spec {t : TypeId} {x ix : Operand} {ok : Bool} {K : Res → Prop} (h : lookW P H base ev t x ix ok K) : ∃ r, aopA P H base ev (.lookup t x ix ok) = some r ∧ K r := by
  unfold lookW at h
  split at h
  · rename_i kt E k n h1 h2 h3
    split at h
    · rename_i ks vs hm
      obtain ⟨r, hk, hg, q⟩ := h
      obtain ⟨v, hv, hK⟩ := lookRW_spec q
      refine ⟨⟨v, .none⟩, aopA_lookup ?_, hK⟩
      simp only [aopM, h1, h2, lookM, h3, hm, if_pos hk, hg, hv, Option.map_some]
    · exact h.elim
  · exact rawW_spec h
def putW (P : Program) (H : Nat → HO) (base : Nat) (ev : Operand → V) (t : TypeId) (m k x : Operand) (K : Res → Prop) : Prop :=
  match mapKE P t, ev k, ev m with
  | some (kt, _), .p k, .mapr n => match H n with
    | .mp ks vs => MapU P kt k ks vs (ev x) fun ks' vs' => K ⟨.p (.tup []), .upd n (.mp ks' vs')⟩
    | _ => False
  | _, _, _ => rawW P H base ev (.mapUpdate t m k x) K
theorem putW_spec {t : TypeId} {m k x : Operand} {K : Res → Prop} (h : putW P H base ev t m k x K) : ∃ r, aopA P H base ev (.mapUpdate t m k x) = some r ∧ K r := by
  unfold putW at h
  split at h
  · rename_i kt E k n h1 h2 h3
    split at h
    · rename_i ks vs hm
      obtain ⟨ks', vs', hk, h4, h5, q⟩ := h
      refine ⟨_, aopA_mapUpdate ?_, q⟩
      simp only [aopM, h1, h2, h3, hm, if_pos hk, h4, h5]
    · exact h.elim
  · exact rawW_spec h
inductive StructE (P : Program) (t : TypeId) (xs ys : List PV) (Q : Bool → Prop) : Prop
  | mk {fs : List Field} {b : Bool} (hs : structF P t = some fs) (h : eqF P fs 0 xs ys = some b) (q : Q b)
def eqlW (o : BinOp) (K : Res → Prop) (b : Bool) : Prop := match o with
  | .eql => K ⟨.p (.bool b), .none⟩
  | .neq => K ⟨.p (.bool !b), .none⟩
  | _ => False
theorem structE_spec {o : BinOp} {t yt : TypeId} {x y : Operand} {xs ys : List PV} {K : Res → Prop} (h1 : ev x = .p (.agg xs)) (h2 : ev y = .p (.agg ys)) (h : StructE P t xs ys (eqlW o K)) : ∃ r, aopA P H base ev (.binOp o t x y yt) = some r ∧ K r := by
  obtain ⟨hs, he, q⟩ := h
  have hb : aop P H base ev (.binOp o t x y yt) = none := by
    have hp : ptrEq (.p (.agg xs)) (.p (.agg ys)) = none := rfl
    simp only [aop, h1, h2, binA, hp]
    cases o <;> simp
  have hx : aopX P H ev (.binOp o t x y yt) = none := by
    simp only [aopX, h1, h2]
    try rfl
  unfold eqlW at q
  split at q
  · exact ⟨_, by simp only [aopA, hb, hx, aopZ, h1, h2, hs, he, eqlV], q⟩
  · exact ⟨_, by simp only [aopA, hb, hx, aopZ, h1, h2, hs, he, eqlV], q⟩
  · exact q.elim
def clearW (P : Program) (H : Nat → HO) (t : TypeId) (x : V) (K : Res → Prop) : Prop :=
  match sliT' P t, x with
  | some e, .sl n off len => match H n, zeroT P e with
    | .arr ty sz es, some z => match Nat.beq z.cells.length sz && Nat.ble 1 sz with
      | true => Side (off + len ≤ es.length) (K ⟨.p (.tup []), .upd n (.arr ty sz (es.take off ++ (List.replicate len z ++ es.drop (off + len))))⟩)
      | false => False
    | _, _ => False
  | _, _ => False
theorem clearW_spec {args : Array Operand} {ts : Array TypeId} {x : Operand} {t : TypeId} {K : Res → Prop} (ha : args.toList = [x]) (ht : ts.toList = [t]) (h : clearW P H t (ev x) K) :
    ∃ r, aopA P H base ev (.call ⟨.builtin .clear, args, ts⟩) = some r ∧ K r := by
  unfold clearW at h
  split at h
  case h_2 => exact h.elim
  rename_i e n off len h1 h2
  split at h
  case h_2 => exact h.elim
  rename_i ty sz es z h3 h4
  split at h
  case h_2 => exact h.elim
  rename_i hc
  rw [Bool.and_eq_true] at hc
  obtain ⟨hs, hk⟩ := h
  refine ⟨_, ?_, hk⟩
  show aopM P H base ev (.call ⟨.builtin .clear, args, ts⟩) = _
  simp only [aopM, ha, ht, clearA, h1, h2, h3, h4]
  rw [if_pos ⟨Nat.eq_of_beq_eq_true hc.1, Nat.le_of_ble_eq_true hc.2, hs⟩]
def opW (P : Program) (H : Nat → HO) (base : Nat) (ev : Operand → V) (op : Op) (K : Res → Prop) : Prop :=
  match op with
  | .pick c a b => pickW ev c a b K
  | .binOp o t x y yt => match ev x, ev y with
    | .p (.int k a), .p (.int k' b) => intW o k k' a b fun d => K ⟨.p d, .none⟩
    | .p (.str a), .p (.str b) => strW o a b fun d => K ⟨.p d, .none⟩
    | .p (.agg xs), .p (.agg ys) => StructE P t xs ys (eqlW o K)
    | _, _ => rawW P H base ev (.binOp o t x y yt) K
  | .index t x i => match ev x, ev i with
    | .p (.str s), .p (.int _ n) => ixW P t s n K
    | _, _ => rawW P H base ev (.index t x i) K
  | .indexAddr t x i => match ev x, ev i with
    | .p (.lst _ l), .p (.int _ n) => ixaLW P t l n K
    | .sl m off len, .p (.int _ n) => ixaSW P H t m off len n K
    | _, _ => rawW P H base ev (.indexAddr t x i) K
  | .load t a => match ev a with
    | .p (.cptr d) => wholeW P t d K
    | .eptr m i off => loadEW P H t m i off K
    | _ => rawW P H base ev (.load t a) K
  | .store t a v => match ev a, ev v with
    | .eptr m i off, .p x => storeEW P H t m i off x K
    | _, _ => rawW P H base ev (.store t a v) K
  | .slice t x lo hi mx => match mx with
    | none => match ev x with
      | .p (.str s) => match strT P t with
        | true => sliceStrW s (lo.map ev) (hi.map ev) K
        | false => False
      | .p (.lst ex xs) => match sliT P t with
        | some e => match szT P e with
          | some n => litK n fun n => sliceLstW n ex xs (lo.map ev) (hi.map ev) K
          | none => False
        | none => False
      | .sl m off len => match sliT P t, H m with
        | some e, .arr _ sz es => match szT P e with
          | some sz' => match Nat.beq sz' sz with
            | true => sliceSlW m off len es.length (lo.map ev) (hi.map ev) K
            | false => False
          | none => False
        | _, _ => False
      | _ => rawW P H base ev (.slice t x lo hi none) K
    | some m => match hi with
      | some h => match sliT P t with
        | some e => match szT P e with
          | some n => match (ev x).nn with
            | .p (.lst _ xs) => litK n fun n => sliceMaxW n xs (lo.map ev) (ev h) (ev m) K
            | .sl q _ len => match H q with
              | .arr _ sz _ => match Nat.beq n sz with
                | true => sliceM3W len (lo.map ev) (ev h) (ev m) K
                | false => False
              | _ => False
            | _ => False
          | none => False
        | none => False
      | none => False
  | .makeSlice t l c => match ev l, ev c with
    | .p (.int _ ln), .p (.int _ cn) => mkSlW P base t ln cn K
    | _, _ => False
  | .convert a b x => convW P H base ev a b x K
  | .buildSlice t len parts => bldSlW P base t len (parts.toList.map fun p => (p.1, ev p.2)) K
  | .lookup t x ix ok => lookW P H base ev t x ix ok K
  | .mapUpdate t m k x => putW P H base ev t m k x K
  | .call ⟨.builtin .append, args, ts⟩ => match args.toList, ts.toList with
    | [s, x], [t, tx] => appW P H base t tx (ev s) (ev x) K
    | _, _ => False
  | .call ⟨.builtin .clear, args, ts⟩ => match args.toList, ts.toList with
    | [x], [t] => clearW P H t (ev x) K
    | _, _ => False
  | op => rawW P H base ev op K
theorem opW_spec {op : Op} {K : Res → Prop} (h : opW P H base ev op K) : ∃ r, aopA P H base ev op = some r ∧ K r := by
  have bin : ∀ {o : BinOp} {t yt : TypeId} {x y : Operand} {d : PV}, binA P o t (ev x) (ev y) = some d → aopA P H base ev (.binOp o t x y yt) = some ⟨.p d, .none⟩ := by
    intro o t yt x y d hd
    refine aopA_of ?_
    simp only [aop, hd, Option.bind_some, pureR]
  unfold opW at h
  split at h
  · exact pickW_spec h
  · split at h
    · rename_i h1 h2
      obtain ⟨d, hd, hk⟩ := intW_spec (P := P) h
      exact ⟨_, bin (by rw [h1, h2]; exact hd), hk⟩
    · rename_i h1 h2
      obtain ⟨d, hd, hk⟩ := strW_spec (P := P) h
      exact ⟨_, bin (by rw [h1, h2]; exact hd), hk⟩
    · rename_i h1 h2
      exact structE_spec h1 h2 h
    · exact rawW_spec h
  · split at h
    · rename_i h1 h2; exact ixW_spec h1 h2 h
    · exact rawW_spec h
  · split at h
    · rename_i h1 h2; exact ixaLW_spec h1 h2 h
    · rename_i h1 h2; exact ixaSW_spec h1 h2 h
    · exact rawW_spec h
  · split at h
    · rename_i h1; exact loadC_spec h1 h
    · rename_i h1; exact loadEW_spec h1 h
    · exact rawW_spec h
  · split at h
    · rename_i h1 h2; exact storeEW_spec h1 h2 h
    · exact rawW_spec h
  · split at h
    · split at h
      · rename_i hx
        split at h
        · rename_i ht; exact sliceStrW_spec ht hx h
        · exact h.elim
      · rename_i hx
        split at h
        · rename_i e ht
          split at h
          · rename_i n hn; rw [litK_eq] at h; exact sliceLstW_spec ht hn hx h
          · exact h.elim
        · exact h.elim
      · rename_i hx
        split at h
        · rename_i e ty sz es ht hm
          split at h
          · rename_i sz' hn
            split at h
            · rename_i hb
              obtain rfl := Nat.eq_of_beq_eq_true hb
              exact sliceSlW_spec ht hn hm hx h
            · exact h.elim
          · exact h.elim
        · exact h.elim
      · exact rawW_spec h
    · split at h
      · split at h
        · rename_i e ht
          split at h
          · rename_i n hn
            split at h
            · rename_i hx; rw [litK_eq] at h; exact sliceMaxW_spec ht hn hx h
            · rename_i q off len hx
              split at h
              · rename_i ty sz es hm
                split at h
                · rename_i hb
                  obtain rfl := Nat.eq_of_beq_eq_true hb
                  exact sliceM3W_spec ht hn hm hx h
                · exact h.elim
              · exact h.elim
            · exact h.elim
          · exact h.elim
        · exact h.elim
      · exact h.elim
  · split at h
    · rename_i h1 h2; exact mkSlW_spec h1 h2 h
    · exact h.elim
  · exact convW_spec h
  · exact bldSlW_spec h
  · exact lookW_spec h
  · exact putW_spec h
  · split at h
    · rename_i h1 h2; exact appW_spec h1 h2 h
    · exact h.elim
  · split at h
    · rename_i h1 h2; exact clearW_spec h1 h2 h
    · exact h.elim
  · exact rawW_spec h
variable {G : Nat → Option PV} {pol : Pol} {n k : Nat}
def backW (k n0 : Nat) (ns : List Nat) (σ : Env) (H : Heap) (mv : List Nat) (cr : CR) (K : Out → Env → Heap → List Nat → Prop) : Prop :=
  match Nat.ble ns.length cr.H.length && (List.range (cr.H.length - ns.length)).all (fun j => freshS (n0 + j) σ && freshH (n0 + j) H && !(ns.contains (n0 + j))) && cr.mv.all (Nat.blt · ns.length) && Nat.ble k n0 &&
      (outNames cr.out).all (Nat.blt · cr.H.length) && cr.H.all (fun o => o.names.all (Nat.blt · cr.H.length)) with
  | true => spineK (cr.mv.map (backN ns n0)) fun moved => killEnvsK moved σ fun σ' =>
      heapK ((Heap.killAll moved H).putAll ((List.range cr.H.length).map fun i => (backN ns n0 i, (Heap.at cr.H i).ren (backN ns n0)))) fun H' =>
        spineK (moved.foldl (addMv k) mv) fun mv' => match cr.out with
          | .ret v => (v.ren (backN ns n0)).fK fun u => K (.ret u) σ' H' mv'
          | .pan v => (v.ren (backN ns n0)).fK fun u => K (.pan u) σ' H' mv'
  | false => False
theorem killEnvsK_eq : ∀ (l : List Nat) (σ : Env) (K : Env → Prop), Bdd n σ → killEnvsK l σ K → ∃ σ', killAll l (toEnv n σ) = toEnv n σ' ∧ Bdd n σ' ∧ K σ'
  | [], σ, K, hb, h => ⟨σ, rfl, hb, h⟩
  | m :: l, σ, K, hb, h => by
    unfold killEnvsK at h
    rw [killEnvK_eq] at h
    obtain ⟨σ', h1, h2, h3⟩ := killEnvsK_eq l _ K (hb.map _ (kill_junk' m)) h
    refine ⟨σ', ?_, h2, h3⟩
    rw [killAll, toEnv_map _ (kill_junk' m)]
    exact h1
inductive CallW (P : Program) (G : Nat → Option PV) (f : FuncId) (args : List V) (H : Heap) (K : CR → Prop) : Prop
  | mk (cr : CR) (h : AbsCall P G f args H cr) (k : K cr)
def callW (P : Program) (G : Nat → Option PV) (k : Nat) (f : FuncId) (args : List V) (σ : Env) (H : Heap) (mv : List Nat) (K : Out → Env → Heap → List Nat → Prop) : Prop :=
  spineK (reachL (Heap.at H) 200 (V.namesL args) []) fun ns =>
    match (V.namesL args).all (ns.contains ·) && closedN (Heap.at H) ns && decide ns.Nodup with
    | true => mapK (V.ren (ns.idxOf ·)) args fun args' => heapK (ns.map fun m => (Heap.at H m).ren (ns.idxOf ·)) fun H' =>
        CallW P G f args' H' fun cr => backW k (lenH H) ns σ H mv cr K
    | false => False
noncomputable def oneC (f : FuncId) (args : List V) (H : Heap) (cr : CR) : CallF := fun f' args' H' => by
  classical exact if f' = f ∧ args' = args ∧ H' = H then some cr else none
theorem oneC_sound {f : FuncId} {args : List V} {H : Heap} {cr : CR} (h : AbsCall P G f args H cr) : SoundC P G (oneC f args H cr) := by
  intro f' args' H' cr' h'
  unfold oneC at h'
  split at h'
  · rename_i hc
    obtain ⟨rfl, rfl, rfl⟩ := hc
    cases h'; exact h
  · cases h'
theorem oneC_at {f : FuncId} {args : List V} {H : Heap} {cr : CR} : oneC f args H cr f args H = some cr := by
  unfold oneC
  rw [if_pos ⟨rfl, rfl, rfl⟩]
theorem blt_all {l : List Nat} {m : Nat} (h : l.all (Nat.blt · m) = true) : l.all (fun x => decide (x < m)) = true := by
  rw [List.all_eq_true] at h ⊢
  intro x hx
  have := h x hx
  simpa [Nat.blt_eq] using this
theorem callW_spec {f : FuncId} {args : List V} {σ : Env} {H : Heap} {mv : List Nat} {K : Out → Env → Heap → List Nat → Prop} (hb : Bdd n σ) (h : callW P G k f args σ H mv K) :
    ∃ C, SoundC P G C ∧ ∃ out σ' H' mv', callS C ⟨toEnv n σ, H, k, mv⟩ f args = some (out, ⟨toEnv n σ', H', k, mv'⟩) ∧ Bdd n σ' ∧ K out σ' H' mv' := by
  unfold callW at h
  rw [spineK_eq, lenH_eq] at h
  unfold callS
  simp only []
  generalize reachL (Heap.at H) 200 (V.namesL args) [] = NS at h ⊢
  split at h
  case h_2 => exact h.elim
  rename_i hc
  simp only [Bool.and_eq_true, decide_eq_true_eq] at hc
  obtain ⟨⟨c1, c2⟩, c3⟩ := hc
  rw [mapK_eq, heapK_eq] at h
  obtain ⟨cr, hcr, h⟩ := h
  refine ⟨_, oneC_sound hcr, ?_⟩
  unfold backW at h
  split at h
  case h_2 => exact h.elim
  rename_i hd
  simp only [Bool.and_eq_true] at hd
  obtain ⟨⟨⟨⟨⟨d1, d2⟩, d3⟩, d4⟩, d5⟩, d6⟩ := hd
  rw [spineK_eq] at h
  obtain ⟨σ', e1, e2, h⟩ := killEnvsK_eq _ _ _ hb h
  rw [heapK_eq, spineK_eq] at h
  have hfin : K (cr.out.ren (backN NS H.length)) σ' ((Heap.killAll (cr.mv.map (backN NS H.length)) H).putAll ((List.range cr.H.length).map fun i => (backN NS H.length i, (Heap.at cr.H i).ren (backN NS H.length))))
      ((cr.mv.map (backN NS H.length)).foldl (addMv k) mv) := by
    cases ho : cr.out with
    | ret v => rw [ho] at h; simp only [V.fK_eq] at h; exact h
    | pan v => rw [ho] at h; simp only [V.fK_eq] at h; exact h
  refine ⟨_, σ', _, _, ?_, e2, hfin⟩
  rw [if_pos ⟨c1, c2, c3⟩, oneC_at]
  simp only []
  have q2 : (List.range (cr.H.length - NS.length)).all (fun j => Fr.fresh ⟨toEnv n σ, H, k, mv⟩ (H.length + j) && !(NS.contains (H.length + j))) = true := by
    rw [List.all_eq_true] at d2 ⊢
    intro j hj
    have := d2 j hj
    simp only [Bool.and_eq_true] at this
    rw [fresh_of this.1.1 this.1.2, this.2]; rfl
  have q6 : cr.H.all (fun o => o.names.all fun x => decide (x < cr.H.length)) = true := by
    rw [List.all_eq_true] at d6 ⊢
    exact fun o ho => blt_all (d6 o ho)
  rw [if_pos ⟨Nat.le_of_ble_eq_true d1, q2, blt_all d3, Nat.le_of_ble_eq_true d4, blt_all d5, q6⟩, e1]
def callOpW (P : Program) (G : Nat → Option PV) (pol : Pol) (n k : Nat) (g : Operand) (args : List Operand) (dst : Option Tmp) (σ : Env) (H : Heap) (mv : List Nat) (K : Ex → Env → Heap → List Nat → Prop) : Prop :=
  match targetV (evS G σ g) with
  | none => False
  | some (f, cap) =>
    let fin := fun (out : Out) (σ' : Env) (H' : Heap) (mv' : List Nat) => match out with
      | .ret v => putK n σ' dst v fun σ'' => K .normal σ'' H' mv'
      | .pan v => K (.pan v) σ' H' mv'
    match pol.byref f with
    | true => mapK id (args.map (evS G σ) ++ cap) fun ags => callW P G k f ags σ H mv fin
    | false => spineK ((V.namesL (args.map (evS G σ) ++ cap)).filter fun m => isArr (Heap.at H m)) fun ns => match ns with
      | [] => mapK id (args.map (evS G σ) ++ cap) fun ags => callW P G k f ags σ H mv fin
      | ns => frzAllK ns σ H fun σ1 H1 => match targetV (evS G σ1 g) with
        | none => False
        | some (f', cap') => mapK id (args.map (evS G σ1) ++ cap') fun ags => callW P G k f' ags σ1 H1 mv fin
theorem callOpW_spec {g : Operand} {args : List Operand} {dst : Option Tmp} {σ : Env} {H : Heap} {mv : List Nat} {K : Ex → Env → Heap → List Nat → Prop} (hb : Bdd n σ) (h : callOpW P G pol n k g args dst σ H mv K) :
    ∃ C, SoundC P G C ∧ ∃ ex σ' H' mv', callOp G pol C ⟨toEnv n σ, H, k, mv⟩ g args dst = some (ex, ⟨toEnv n σ', H', k, mv'⟩) ∧ Bdd n σ' ∧ K ex σ' H' mv' := by
  unfold callOpW at h
  split at h
  case h_1 => exact h.elim
  rename_i f cap ht
  simp only [] at h
  -- behind the call
  have fin : ∀ {C : CallF} {fr1 : Fr} {f' : FuncId} {cap' : List V} {out : Out} {σ' : Env} {H' : Heap} {mv' : List Nat},
      (if pol.byref f = true then (⟨toEnv n σ, H, k, mv⟩ : Fr) else Fr.freezeAll ⟨toEnv n σ, H, k, mv⟩ ((V.namesL (args.map (evS G σ) ++ cap)).filter fun m => isArr (Heap.at H m))) = fr1 → targetV (evalO G fr1.env g) = some (f', cap') →
      callS C fr1 f' (args.map (evalO G fr1.env) ++ cap') = some (out, ⟨toEnv n σ', H', k, mv'⟩) → Bdd n σ' →
      (match out with
        | .ret v => putK n σ' dst v fun σ'' => K .normal σ'' H' mv'
        | .pan v => K (.pan v) σ' H' mv') →
      ∃ ex σ' H' mv', callOp G pol C ⟨toEnv n σ, H, k, mv⟩ g args dst = some (ex, ⟨toEnv n σ', H', k, mv'⟩) ∧ Bdd n σ' ∧ K ex σ' H' mv' := by
    intro C fr1 f' cap' out σ' H' mv' hf1 ht1 hcs hb' hk
    have e0 : callOp G pol C ⟨toEnv n σ, H, k, mv⟩ g args dst = match callS C fr1 f' (args.map (evalO G fr1.env) ++ cap') with
        | some (.ret v, fr') => some (.normal, { fr' with env := putO fr'.env dst v })
        | some (.pan v, fr') => some (.pan v, fr')
        | none => none := by
      unfold callOp
      simp only [evS_fun hb, ht, hf1, ht1]
      rfl
    rw [e0, hcs]
    cases out with
    | ret v =>
      simp only [] at hk ⊢
      obtain ⟨σ2, h1, h2, h3⟩ := putK_eq hb' hk
      exact ⟨.normal, σ2, H', mv', by rw [h1], h2, h3⟩
    | pan v => exact ⟨.pan v, σ', H', mv', rfl, hb', hk⟩
  have plain : (if pol.byref f = true then (⟨toEnv n σ, H, k, mv⟩ : Fr) else Fr.freezeAll ⟨toEnv n σ, H, k, mv⟩ ((V.namesL (args.map (evS G σ) ++ cap)).filter fun m => isArr (Heap.at H m))) = ⟨toEnv n σ, H, k, mv⟩ →
      callW P G k f (args.map (evS G σ) ++ cap) σ H mv (fun (out : Out) (σ' : Env) (H' : Heap) (mv' : List Nat) => match out with
      | .ret v => putK n σ' dst v fun σ'' => K .normal σ'' H' mv'
      | .pan v => K (.pan v) σ' H' mv') →
      ∃ C, SoundC P G C ∧ ∃ ex σ' H' mv', callOp G pol C ⟨toEnv n σ, H, k, mv⟩ g args dst = some (ex, ⟨toEnv n σ', H', k, mv'⟩) ∧ Bdd n σ' ∧ K ex σ' H' mv' := by
    intro hf hc
    obtain ⟨C, hC, out, σ', H', mv', h1, h2, h3⟩ := callW_spec hb hc
    refine ⟨C, hC, fin (fr1 := ⟨toEnv n σ, H, k, mv⟩) (f' := f) (cap' := cap) hf ?_ ?_ h2 h3⟩
    · rw [evS_fun hb]; exact ht
    · rw [evS_fun hb]; exact h1
  split at h
  · rename_i hp
    rw [mapK_eq, List.map_id] at h
    exact plain (if_pos hp) h
  · rename_i hp
    rw [spineK_eq] at h
    split at h
    · rename_i hns
      rw [mapK_eq, List.map_id] at h
      refine plain ?_ h
      rw [if_neg (by rw [hp]; simp), hns]; rfl
    · rename_i ns hns
      obtain ⟨σ1, H1, h1, h2, h⟩ := frzAllK_eq (k := k) (mv := mv) _ _ _ _ hb h
      split at h
      · exact h.elim
      · rename_i f' cap' ht'
        rw [mapK_eq, List.map_id] at h
        obtain ⟨C, hC, out, σ', H', mv', h3, h4, h5⟩ := callW_spec h2 h
        refine ⟨C, hC, fin (fr1 := ⟨toEnv n σ1, H1, k, mv⟩) (f' := f') (cap' := cap') ?_ ?_ ?_ h4 h5⟩
        · rw [if_neg (by rw [hp]; simp)]; exact h1
        · rw [evS_fun h2]; exact ht'
        · rw [evS_fun h2]; exact h3
end
end Go.Am
end

section
namespace Go.Am
open Go
abbrev Post := Ex → Env → Heap → List Nat → Prop
section
variable {P : Program} {G : Nat → Option PV} {pol : Pol} {n k : Nat}
def sealW (P : Program) (G : Nat → Option PV) (n _k : Nat) (args : List Operand) (ts : List TypeId) (dst : Option Tmp) (σ : Env) (H : Heap) (mv : List Nat) (K : Post) : Prop :=
  match args.map (evS G σ), ts with
  | [.eptr m 0 0, .p (.int .i64 q)], [pt, _] => match Heap.at H m, P.underlying pt with
    | .arr ty 1 es, some (.pointer e) => match Nat.beq e ty && Nat.beq (P.cellsOf e) 1 with
      | true => Bytes es fun s => Side (bytesX es = some s ∧ q = (s.length : Int) ∧ s ≠ [] ∧ s.length ≤ 9223372036854775807)
          (frzAllK [m] σ H fun σ1 H1 => putK n σ1 dst (.p (.str s)) fun σ2 => K .normal σ2 H1 mv)
      | false => False
    | _, _ => False
  | [.p .anyp, .p (.int .i64 0)], [_, _] => putK n σ dst (.p (.str [])) fun σ2 => K .normal σ2 H mv
  | _, _ => False
theorem sealW_spec {args : List Operand} {ts : List TypeId} {dst : Option Tmp} {σ : Env} {H : Heap} {mv : List Nat} {K : Post} (hb : Bdd n σ) (h : sealW P G n k args ts dst σ H mv K) :
    ∃ ex σ' H' mv', sealOp P G ⟨toEnv n σ, H, k, mv⟩ args ts dst = some (ex, ⟨toEnv n σ', H', k, mv'⟩) ∧ Bdd n σ' ∧ K ex σ' H' mv' := by
  unfold sealW at h
  split at h
  · rename_i m q pt t2 ha
    split at h
    case h_2 => exact h.elim
    rename_i ty es e hm hu
    split at h
    case h_2 => exact h.elim
    rename_i hc
    rw [Bool.and_eq_true] at hc
    have e1 := Nat.eq_of_beq_eq_true hc.1
    have e2 := Nat.eq_of_beq_eq_true hc.2
    obtain ⟨s, hs, ⟨h1, h2, h3, h4⟩, hk⟩ := h
    obtain ⟨σ1, H1, f1, f2, hk⟩ := frzAllK_eq (k := k) (mv := mv) _ _ _ _ hb hk
    obtain ⟨σ2, g1, g2, hk⟩ := putK_eq f2 hk
    refine ⟨.normal, σ2, H1, mv, ?_, g2, hk⟩
    unfold sealOp
    rw [evS_fun hb, ha]
    simp only [hm, hu, h1]
    rw [if_pos ⟨e1, e2, h2, h3, h4⟩]
    simp only [Fr.freezeAll] at f1
    rw [f1, g1]
  · rename_i t1 t2 ha
    obtain ⟨σ2, g1, g2, hk⟩ := putK_eq hb h
    refine ⟨.normal, σ2, H, mv, ?_, g2, hk⟩
    unfold sealOp
    rw [evS_fun hb, ha]
    simp only []
    rw [g1]
  · exact h.elim
def stepW (P : Program) (G : Nat → Option PV) (pol : Pol) (n k : Nat) (o : Oper) (σ : Env) (H : Heap) (mv : List Nat) (K : Post) : Prop :=
  match o.op with
  | .call ⟨.value g, args, _⟩ => callOpW P G pol n k g args.toList o.dst σ H mv K
  | .call ⟨.builtin .unsafeString, args, ts⟩ => sealW P G n k args.toList ts.toList o.dst σ H mv K
  | .panic x => match evS G σ x with
    | .p (.iface t d) => K (.pan (.p (.iface t d))) σ H mv
    | .iface t v => K (.pan (.iface t v)) σ H mv
    | _ => False
  | op => match preNames (evS G σ) op with
    | [] => opW P (Heap.at H) (lenH H) (evS G σ) op fun r => effK k σ H mv r.eff fun σ' H' mv' => putK n σ' o.dst r.val fun σ'' => K .normal σ'' H' mv'
    | ns => frzAllK ns σ H fun σ1 H1 => opW P (Heap.at H1) (lenH H1) (evS G σ1) op fun r => effK k σ1 H1 mv r.eff fun σ' H' mv' => putK n σ' o.dst r.val fun σ'' => K .normal σ'' H' mv'
theorem stepW_spec {o : Oper} {σ : Env} {H : Heap} {mv : List Nat} {K : Post} (hb : Bdd n σ) (h : stepW P G pol n k o σ H mv K) :
    ∃ C, SoundC P G C ∧ ∃ ex σ' H' mv', stepOp P G pol C o ⟨toEnv n σ, H, k, mv⟩ = some (ex, ⟨toEnv n σ', H', k, mv'⟩) ∧ Bdd n σ' ∧ K ex σ' H' mv' := by
  have none_sound : SoundC P G (fun _ _ _ => none) := fun _ _ _ _ h => by cases h
  unfold stepW at h
  unfold stepOp
  split at h
  · rename_i g args ts hop
    simp only [hop]
    exact callOpW_spec hb h
  · rename_i args ts hop
    simp only [hop]
    exact ⟨_, none_sound, sealW_spec hb h⟩
  · rename_i x hop
    simp only [hop, evS_fun hb]
    split at h
    · rename_i t d hx
      exact ⟨_, none_sound, _, σ, H, mv, by simp only [hx], hb, h⟩
    · rename_i t d hx
      exact ⟨_, none_sound, _, σ, H, mv, by simp only [hx], hb, h⟩
    · exact h.elim
  · rename_i hn1 hn2 hn3
    refine ⟨_, none_sound, ?_⟩
    have fin : ∀ {σ1 : Env} {H1 : Heap}, Bdd n σ1 → Fr.freezeAll ⟨toEnv n σ, H, k, mv⟩ (preNames (evS G σ) o.op) = ⟨toEnv n σ1, H1, k, mv⟩ →
        (opW P (Heap.at H1) (lenH H1) (evS G σ1) o.op fun r => effK k σ1 H1 mv r.eff fun σ' H' mv' => putK n σ' o.dst r.val fun σ'' => K .normal σ'' H' mv') →
        ∃ ex σ' H' mv', (let fr := Fr.freezeAll ⟨toEnv n σ, H, k, mv⟩ (preNames (evS G σ) o.op)
          match aopA P (Heap.at fr.H) fr.H.length (evalO G fr.env) o.op with
          | some r => match fr.eff fr.H.length r.eff with
            | some fr' => some (Ex.normal, { fr' with env := putO fr'.env o.dst r.val })
            | none => none
          | none => none) = some (ex, ⟨toEnv n σ', H', k, mv'⟩) ∧ Bdd n σ' ∧ K ex σ' H' mv' := by
      intro σ1 H1 hb1 hf hk
      rw [hf, lenH_eq] at *
      obtain ⟨r, hr, hk⟩ := opW_spec hk
      obtain ⟨σ', H', mv', e1, e2, hk⟩ := effK_eq hb1 hk
      obtain ⟨σ2, g1, g2, hk⟩ := putK_eq e2 hk
      refine ⟨.normal, σ2, H', mv', ?_, g2, hk⟩
      simp only [evS_fun hb1, hr, e1, g1]
    simp only [evS_fun hb]
    split at h
    · rename_i hns
      exact fin hb (by rw [hns]; rfl) h
    · obtain ⟨σ1, H1, f1, f2, hk⟩ := frzAllK_eq (k := k) (mv := mv) _ _ _ _ hb h
      exact fin f2 f1 hk
def guardD (ops : List Oper) (j : Nat) : Option Tmp := match ops[j]? with
  | some o => o.dst
  | none => none
def oneW (P : Program) (G : Nat → Option PV) (pol : Pol) (n k : Nat) (ops : List Oper) (i : Nat) (σ : Env) (H : Heap) (mv : List Nat) (K : Post) : Prop :=
  match ops[i]? with
  | none => False
  | some o => match o.guard with
    | none => stepW P G pol n k o σ H mv K
    | some (j, want) => match guardD ops j with
      | none => False
      | some d => match look σ d with
        | .p (.bool b) => Br b
          (match want with
            | true => stepW P G pol n k o ((d, .p (.bool true)) :: σ) H mv K
            | false => putK n ((d, .p (.bool true)) :: σ) o.dst (.p (.tup [])) fun σ' => K .normal σ' H mv)
          (match want with
            | false => stepW P G pol n k o ((d, .p (.bool false)) :: σ) H mv K
            | true => putK n ((d, .p (.bool false)) :: σ) o.dst (.p (.tup [])) fun σ' => K .normal σ' H mv)
        | .p (.tup []) => putK n σ o.dst (.p (.tup [])) fun σ' => K .normal σ' H mv
        | _ => False
def One (P : Program) (G : Nat → Option PV) (pol : Pol) (ops : Array Oper) (i : Nat) (fr : Fr) (ex : Ex) (fr' : Fr) : Prop :=
  ∃ C, SoundC P G C ∧ oneA P G pol false C ops i fr = some (ex, fr')
theorem oneA_false {C : CallF} {ops : Array Oper} {i : Nat} {fr : Fr} {o : Oper} (ho : ops[i]? = some o) : oneA P G pol false C ops i fr = runOps P G pol C ops [i] fr := by
  unfold oneA
  rw [ho]
  simp
theorem look_lt {σ : Env} {d : Nat} {v : V} (hb : Bdd n σ) (h : look σ d = v) (hv : v ≠ .junk) : d < n := by
  rcases Nat.lt_or_ge d n with h1 | h1
  · exact h1
  · rw [hb d h1] at h; exact absurd h.symm hv
theorem oneW_spec {ops : Array Oper} {i : Nat} {σ : Env} {H : Heap} {mv : List Nat} {K : Post} (hb : Bdd n σ) (h : oneW P G pol n k ops.toList i σ H mv K) :
    ∃ ex σ' H' mv', One P G pol ops i ⟨toEnv n σ, H, k, mv⟩ ex ⟨toEnv n σ', H', k, mv'⟩ ∧ Bdd n σ' ∧ K ex σ' H' mv' := by
  have none_sound : SoundC P G (fun _ _ _ => none) := fun _ _ _ _ h => by cases h
  unfold oneW at h
  split at h
  case h_1 => exact h.elim
  rename_i o ho
  have ho : ops[i]? = some o := by simpa using ho
  have step : ∀ {σ1 : Env}, Bdd n σ1 → stepW P G pol n k o σ1 H mv K → ∃ C, SoundC P G C ∧ ∃ ex σ' H' mv', (match stepOp P G pol C o ⟨toEnv n σ1, H, k, mv⟩ with
      | some (.normal, fr') => runOps P G pol C ops [] fr'
      | x => x) = some (ex, ⟨toEnv n σ', H', k, mv'⟩) ∧ Bdd n σ' ∧ K ex σ' H' mv' := by
    intro σ1 hb1 hk
    obtain ⟨C, hC, ex, σ', H', mv', h1, h2, h3⟩ := stepW_spec hb1 hk
    refine ⟨C, hC, ex, σ', H', mv', ?_, h2, h3⟩
    rw [h1]
    cases ex <;> rfl
  split at h
  · rename_i hg
    obtain ⟨C, hC, ex, σ', H', mv', h1, h2, h3⟩ := step hb h
    exact ⟨ex, σ', H', mv', ⟨C, hC, by rw [oneA_false ho]; simp only [runOps, ho, hg]; exact h1⟩, h2, h3⟩
  · rename_i j want hg
    split at h
    case h_1 => exact h.elim
    rename_i d hd
    have hd : (ops[j]?).bind (·.dst) = some d := by
      unfold guardD at hd
      split at hd
      · rename_i oj hoj
        have hoj : ops[j]? = some oj := by simpa using hoj
        rw [hoj]; exact hd
      · cases hd
    have get : ∀ {v : V}, look σ d = v → v ≠ .junk → d < n ∧ (toEnv n σ)[d]? = some v := by
      intro v hv hj
      have := look_lt hb hv hj
      exact ⟨this, by rw [toEnv_get, if_pos this, hv]⟩
    split at h
    · rename_i b hl
      obtain ⟨hdn, hge⟩ := get hl (by simp)
      have run : ∀ {C : CallF}, oneA P G pol false C ops i ⟨toEnv n σ, H, k, mv⟩ = if b = want then (match stepOp P G pol C o ⟨toEnv n ((d, .p (.bool want)) :: σ), H, k, mv⟩ with
            | some (.normal, fr') => runOps P G pol C ops [] fr'
            | x => x) else some (.normal, ⟨putO (toEnv n ((d, .p (.bool (!want))) :: σ)) o.dst (.p (.tup [])), H, k, mv⟩) := by
        intro C
        rw [oneA_false ho]
        simp only [runOps, ho, hg, hd, hge, toEnv_set]
        rfl
      have skip : ∀ {b' : Bool}, b' = (!want) → b ≠ want → putK n ((d, .p (.bool b')) :: σ) o.dst (.p (.tup [])) (fun σ' => K .normal σ' H mv) → ∃ ex σ' H' mv', One P G pol ops i ⟨toEnv n σ, H, k, mv⟩ ex ⟨toEnv n σ', H', k, mv'⟩ ∧ Bdd n σ' ∧ K ex σ' H' mv' := by
        intro b' hb' hne hk
        subst hb'
        obtain ⟨σ2, g1, g2, hk⟩ := putK_eq (hb.cons hdn _) hk
        exact ⟨.normal, σ2, H, mv, ⟨_, none_sound, by rw [run, if_neg hne, g1]⟩, g2, hk⟩
      have take : ∀ {b' : Bool}, b' = want → b = want → stepW P G pol n k o ((d, .p (.bool b')) :: σ) H mv K → ∃ ex σ' H' mv', One P G pol ops i ⟨toEnv n σ, H, k, mv⟩ ex ⟨toEnv n σ', H', k, mv'⟩ ∧ Bdd n σ' ∧ K ex σ' H' mv' := by
        intro b' hb' he hk
        subst hb'
        obtain ⟨C, hC, ex, σ', H', mv', h1, h2, h3⟩ := step (hb.cons hdn _) hk
        exact ⟨ex, σ', H', mv', ⟨C, hC, by rw [run, if_pos he]; exact h1⟩, h2, h3⟩
      cases hbv : b with
      | true =>
        have := h.t hbv
        split at this
        · exact take rfl hbv this
        · exact skip rfl (by rw [hbv]; simp) this
      | false =>
        have := h.f hbv
        split at this
        · exact take rfl hbv this
        · exact skip rfl (by rw [hbv]; simp) this
    · rename_i hl
      obtain ⟨hdn, hge⟩ := get hl (by simp)
      obtain ⟨σ2, g1, g2, hk⟩ := putK_eq hb h
      refine ⟨.normal, σ2, H, mv, ⟨_, none_sound, ?_⟩, g2, hk⟩
      rw [oneA_false ho]
      simp only [runOps, ho, hg, hd, hge, g1]
    · exact h.elim
def fixW (P : Program) (G : Nat → Option PV) (n : Nat) (o : Oper) (σ : Env) (H : Heap) (mv : List Nat) (K : Post) : Prop :=
  match o.op, o.guard, o.dst with
  | .buildSlice t len parts, none, some d => match Nat.ble n d with
    | false => bldSlW P 0 t len (parts.toList.map fun p => (p.1, evS G σ p.2)) fun r => match r with
      | ⟨.sl _ 0 q, .new (.arr _ _ es)⟩ => match Nat.beq q es.length with
        | true => K .normal ((d, .p (.lst es.isEmpty es)) :: σ) H mv
        | false => False
      | _ => False
    | true => False
  | .alloc t, none, some d => match Nat.ble n d with
    | false => match zeroT P t with
      | some _ => K .normal ((d, .junk) :: σ) H mv
      | none => False
    | true => False
  | _, _, _ => False
def oneWB (P : Program) (G : Nat → Option PV) (pol : Pol) (bs : Bool) (n k : Nat) (ops : List Oper) (i : Nat) (σ : Env) (H : Heap) (mv : List Nat) (K : Post) : Prop :=
  match bs with
  | false => oneW P G pol n k ops i σ H mv K
  | true => match ops[i]? with
    | none => False
    | some o => match isBuildS o.op with
      | true => fixW P G n o σ H mv K
      | false => oneW P G pol n k ops i σ H mv K
theorem oneA_not {bs : Bool} {C : CallF} {ops : Array Oper} {i : Nat} {fr : Fr} {o : Oper} (ho : ops[i]? = some o) (hb : isBuildS o.op = false) : oneA P G pol bs C ops i fr = runOps P G pol C ops [i] fr := by
  unfold oneA
  rw [ho]
  simp [hb]
theorem oneWB_spec {bs : Bool} {ops : Array Oper} {i : Nat} {σ : Env} {H : Heap} {mv : List Nat} {K : Post} (hb : Bdd n σ) (h : oneWB P G pol bs n k ops.toList i σ H mv K) :
    ∃ ex σ' H' mv', OneB P G pol bs ops i ⟨toEnv n σ, H, k, mv⟩ ex ⟨toEnv n σ', H', k, mv'⟩ ∧ Bdd n σ' ∧ K ex σ' H' mv' := by
  unfold oneWB at h
  split at h
  · exact oneW_spec hb h
  · split at h
    case h_1 => exact h.elim
    rename_i o ho
    have ho : ops[i]? = some o := by simpa using ho
    split at h
    · rename_i hbs
      unfold fixW at h
      split at h
      case h_3 => exact h.elim
      case h_2 =>
        rename_i t d hop hgd hdst
        split at h
        case h_2 => exact h.elim
        rename_i hdn
        split at h
        case h_2 => exact h.elim
        rename_i z hz
        have hdn : d < n := by
          rcases Nat.lt_or_ge d n with h1 | h1
          · exact h1
          · rw [Nat.ble_eq_true_of_le h1] at hdn; cases hdn
        refine ⟨.normal, _, H, mv, ⟨fun _ _ _ => none, fun _ _ _ _ h => (by cases h), ?_⟩, hb.cons hdn _, h⟩
        unfold oneA
        rw [ho]
        simp only []
        rw [if_pos ⟨trivial, hbs⟩]
        unfold fixedB
        simp only [hop, hgd, hdst, hz]
        rw [toEnv_set]
      rename_i t len parts d hop hgd hdst
      split at h
      case h_2 => exact h.elim
      rename_i hdn
      obtain ⟨r, hr, h⟩ := bldSlW_aop (H := Heap.at H) h
      split at h
      case h_2 => exact h.elim
      rename_i b q ty sz es
      split at h
      case h_2 => exact h.elim
      rename_i hq
      have hdn : d < n := by
        rcases Nat.lt_or_ge d n with h1 | h1
        · exact h1
        · rw [Nat.ble_eq_true_of_le h1] at hdn; cases hdn
      refine ⟨.normal, _, H, mv, ⟨fun _ _ _ => none, fun _ _ _ _ h => (by cases h), ?_⟩, hb.cons hdn _, h⟩
      unfold oneA
      rw [ho]
      simp only []
      rw [if_pos ⟨trivial, hbs⟩]
      unfold fixedB
      simp only [hop, hgd, hdst, evS_fun hb, hr]
      rw [if_pos (Nat.eq_of_beq_eq_true hq), toEnv_set]
    · rename_i hbs
      obtain ⟨ex, σ', H', mv', ⟨C, hC, h1⟩, h2, h3⟩ := oneW_spec hb h
      refine ⟨ex, σ', H', mv', ⟨C, hC, ?_⟩, h2, h3⟩
      rw [oneA_false ho] at h1
      rw [oneA_not ho hbs]
      exact h1
def opsW (P : Program) (G : Nat → Option PV) (pol : Pol) (n k : Nat) (ops : List Oper) : List Nat → Env → Heap → List Nat → Post → Prop
  | [], σ, H, mv, K => K .normal σ H mv
  | i :: l, σ, H, mv, K => oneW P G pol n k ops i σ H mv fun ex σ' H' mv' => match ex with
    | .normal => opsW P G pol n k ops l σ' H' mv' K
    | ex => K ex σ' H' mv'
def PostAt (n k : Nat) (B : Nat → Prop) (L : Loc) (w : World) (H : Heap) (mv : List Nat) (d : List Deferred) (K : Post) (e : Exit) (a' : Act) (w' : World) : Prop :=
  ∃ ex σ' H' mv', K ex σ' H' mv' ∧ Bdd n σ' ∧ EPost k B L w H mv d ex ⟨toEnv n σ', H', k, mv'⟩ e a' w'
theorem PostAt.trans {B B' : Nat → Prop} {L L' : Loc} {w w' : World} {H H' : Heap} {mv mv' : List Nat} {d : List Deferred} {K : Post} {e : Exit} {a' : Act} {w'' : World}
    (h : FS k B L w H mv B' L' w' H' mv') (g : PostAt n k B' L' w' H' mv' d K e a' w'') : PostAt n k B L w H mv d K e a' w'' := by
  obtain ⟨ex, σ2, H2, mv2, h1, h2, h3⟩ := g
  exact ⟨ex, σ2, H2, mv2, h1, h2, EPost.trans h h3⟩
theorem opsW_sound {ops : Array Oper} {Q : Exit → Act → World → Prop} : ∀ (l : List Nat) {σ : Env} {H : Heap} {mv : List Nat} {K : Post}, Bdd n σ → opsW P G pol n k ops.toList l σ H mv K →
    ∀ {B : Nat → Prop} {L : Loc} {w : World} {a : Act}, St B L w H → ERel B L w (toEnv n σ) a.tmps → GOk G B w → (∀ e a' w', PostAt n k B L w H mv a.defers K e a' w' → Q e a' w') → wpOps P ops Q l a w
  | [], σ, H, mv, K, hb, h, B, L, w, a, hst, he, hg, hQ => hQ _ _ _ ⟨.normal, σ, H, mv, h, hb, B, L, FS.refl _ _ _ _ _ _, he, hst, rfl, rfl, trivial⟩
  | i :: l, σ, H, mv, K, hb, h, B, L, w, a, hst, he, hg, hQ => by
    rw [wpOps_cons]
    obtain ⟨ex, σ', H', mv', ⟨C, hC, hone⟩, hb', hk⟩ := oneW_spec hb h
    refine oneA_sound (fr := ⟨toEnv n σ, H, k, mv⟩) hC hst he hg hone _ _ ?_ ?_
    · rintro a1 w1 ⟨B1, L1, hfs, he1, hst1, hk1, hd1, hm1⟩ hex
      subst hex
      refine opsW_sound l hb' hk hst1 he1 (hg.step (hfs.step hst)) fun e a2 w2 hp => hQ e a2 w2 ?_
      rw [hd1] at hp
      exact PostAt.trans hfs hp
    · rintro e a1 w1 hne hp
      have hex : ex ≠ .normal := by
        rintro rfl
        obtain ⟨_, _, _, _, _, _, _, hm⟩ := hp
        cases e <;> first | exact hne rfl | exact hm.elim
      refine hQ e a1 w1 ⟨ex, σ', H', mv', ?_, hb', hp⟩
      cases ex <;> first | exact absurd rfl hex | exact hk
end
end Go.Am
end

section
namespace Go.Am
open Go
section
variable {P : Program} {G : Nat → Option PV} {pol : Pol} {bs : Bool} {n k : Nat}
theorem stepOp_simple {C : CallF} {o : Oper} (hb : isBuildS o.op = false) (hs : simpleK P bs o.op = true) (fr : Fr) :
    stepOp P G pol C o fr = (aopA P (Heap.at fr.H) fr.H.length (evalO G fr.env) o.op).map fun r => (Ex.normal, { fr with env := putO fr.env o.dst r.val }) := by
  unfold stepOp
  split
  · rename_i hop; rw [hop] at hs; simp [simpleK] at hs
  · rename_i hop; rw [hop] at hs; simp [simpleK] at hs
  · rename_i hop; rw [hop] at hs; simp [simpleK] at hs
  · simp only [simple_pre hb hs, Fr.freezeAll]
    cases hr : aopA P (Heap.at fr.H) fr.H.length (evalO G fr.env) o.op with
    | none => rfl
    | some r => simp only [simple_effA hb hs hr, Fr.eff, Option.map_some]
theorem simple_notB {op : Op} (hs : simpleK P bs op = true) : (bs = true ∧ isBuildS op = true) ∨ isBuildS op = false := by
  cases op <;> simp_all [simpleK, isBuildS]
theorem oneA_agree {C : CallF} {ops : Array Oper} {i d : Nat} {o : Oper} (ho : ops[i]? = some o) (hd : o.dst = some d) (hs : simpleK P bs o.op = true) {F1 F2 fr1 : Fr} {v : V}
    (hH : F2.H = F1.H) (hag : ∀ t ∈ Oper.looksAt ops o, F2.env[t]? = F1.env[t]?) (h : oneA P G pol bs C ops i F1 = some (.normal, fr1)) (hv : fr1.env[d]? = some v) :
    oneA P G pol bs C ops i F2 = some (.normal, { F2 with env := F2.env.set d v }) := by
  have hev : ∀ x ∈ o.op.operands, evalO G F1.env x = evalO G F2.env x := by
    intro x hx
    cases x with
    | tmp t =>
      have : t ∈ Oper.looksAt ops o := by
        unfold Oper.looksAt
        refine List.mem_append_left _ ?_
        rw [List.mem_filterMap]
        exact ⟨.tmp t, by simpa using hx, rfl⟩
      simp only [evalO, hag t this]
    | _ => rfl
  rcases simple_notB hs with hbs | hb
  · unfold oneA at h ⊢
    simp only [ho] at h ⊢
    rw [if_pos hbs] at h ⊢
    unfold fixedB at h ⊢
    split at h
    case h_3 => cases h
    case h_2 =>
      rename_i t d' hop hgd hdst
      rw [hd] at hdst
      cases hdst
      split at h
      case h_2 => cases h
      cases h
      simp only [] at hv
      rw [List.getElem?_set, if_pos rfl] at hv
      split at hv
      · cases hv; rfl
      · cases hv
    rename_i t len parts d' hop hgd hdst
    rw [hd] at hdst
    cases hdst
    rw [hop] at hev
    rw [hH, ← aop_congr _ hev]
    split at h
    case h_2 => cases h
    rename_i hr
    split at h
    case isFalse => cases h
    rename_i hc
    cases h
    rw [if_pos hc]
    simp only [] at hv
    rw [List.getElem?_set, if_pos rfl] at hv
    split at hv
    · cases hv; rfl
    · cases hv
  rw [oneA_not ho hb] at h ⊢
  have step : (match stepOp P G pol C o F1 with
      | some (.normal, fr') => runOps P G pol C ops [] fr'
      | x => x) = some (.normal, fr1) → (match stepOp P G pol C o F2 with
      | some (.normal, fr') => runOps P G pol C ops [] fr'
      | x => x) = some (.normal, { F2 with env := F2.env.set d v }) := by
    intro h
    rw [stepOp_simple hb hs] at h ⊢
    rw [hH, ← aopA_congr o.op hev]
    cases hr : aopA P (Heap.at F1.H) F1.H.length (evalO G F1.env) o.op with
    | none => rw [hr] at h; cases h
    | some r =>
      rw [hr] at h
      simp only [Option.map_some, runOps, Option.some.injEq, Prod.mk.injEq, true_and] at h ⊢
      subst h
      have hv' : (putO F1.env o.dst r.val)[d]? = some v := hv
      rw [hd] at hv'
      simp only [putO] at hv'
      rw [List.getElem?_set, if_pos rfl] at hv'
      split at hv'
      · cases hv'; rw [hd]; rfl
      · cases hv'
  simp only [runOps, ho] at h ⊢
  cases hg : o.guard with
  | none => rw [hg] at h; exact step h
  | some p =>
    obtain ⟨j, want⟩ := p
    rw [hg] at h
    simp only [] at h ⊢
    cases hdg : (ops[j]?).bind (·.dst) with
    | none => rw [hdg] at h; cases h
    | some dg =>
      rw [hdg] at h
      simp only [] at h ⊢
      have hl : dg ∈ Oper.looksAt ops o := by
        unfold Oper.looksAt
        rw [hg]
        simp [hdg]
      have hskip : some (Ex.normal, { F1 with env := putO F1.env o.dst (.p (.tup [])) }) = some (Ex.normal, fr1) → some (Ex.normal, { F2 with env := putO F2.env o.dst (.p (.tup [])) }) = some (Ex.normal, { F2 with env := F2.env.set d v }) := by
        intro h
        simp only [Option.some.injEq, Prod.mk.injEq, true_and] at h ⊢
        subst h
        have hv' : (putO F1.env o.dst (.p (.tup [])))[d]? = some v := hv
        rw [hd] at hv'
        simp only [putO] at hv'
        rw [List.getElem?_set, if_pos rfl] at hv'
        split at hv'
        · cases hv'; rw [hd]; rfl
        · cases hv'
      split at h
      · rename_i b hb'
        have hb2 : F2.env[dg]? = some (.p (.bool b)) := by rw [hag dg hl]; exact hb'
        simp only [hb2]
        split at h
        · rename_i e
          subst e
          rw [if_pos rfl, set_self hb2]
          rw [set_self hb'] at h
          exact step h
        · rename_i e
          have e2 : b = !want := by cases b <;> cases want <;> simp_all
          rw [if_neg e, ← e2, set_self hb2]
          rw [← e2, set_self hb'] at h
          exact hskip h
      · rename_i hb'
        have hb2 : F2.env[dg]? = some (.p (.tup [])) := by rw [hag dg hl]; exact hb'
        simp only [hb2]
        exact hskip h
      · cases h
end
end Go.Am
end

section
namespace Go.Am
open Go
def At (tab : List Nat) (j : Nat) : Nat := (tab[j]?).getD 0
theorem aheadM_of {tab : List Nat} {i : Nat} : ∀ (es : List Edge) (e : Edge), e ∈ es → Region.binds .any e = true → (i = e.on ∨ (At tab e.on).testBit i = true) → (aheadM tab es).testBit i = true
  | [], e, he, _, _ => by simp at he
  | e' :: es, e, he, hb, hi => by
    simp only [aheadM]
    rcases List.mem_cons.1 he with rfl | he
    · rw [if_pos hb, Nat.testBit_or, Nat.testBit_or, Bool.or_eq_true, Bool.or_eq_true]
      rcases hi with rfl | hi
      · refine .inl (.inl ?_)
        rw [Nat.testBit_shiftLeft]
        simp
      · exact .inl (.inr hi)
    · have := aheadM_of es e he hb hi
      split
      · rw [Nat.testBit_or, this, Bool.or_true]
      · exact this
def TabOk (tab : List Nat) : Prop := (∀ i j, (At tab j).testBit i = true → i < j) ∧ ∀ i j m, (At tab j).testBit i = true → (At tab m).testBit j = true → (At tab m).testBit i = true
theorem At_append {tab : List Nat} {r j : Nat} : At (tab ++ [r]) j = if j < tab.length then At tab j else if j = tab.length then r else 0 := by
  unfold At
  rw [List.getElem?_append]
  split
  · rfl
  · rename_i h
    split
    · rename_i e; subst e; simp
    · rename_i e
      rw [List.getElem?_eq_none (by simp; omega)]; rfl
theorem ancTab_ok : ∀ (l : List Oper) (tab : List Nat), TabOk tab → (∀ (j : Nat) o, l[j]? = some o → ∀ e ∈ o.after, Region.binds .any e = true → e.on < tab.length + j) → TabOk (ancTab l tab)
  | [], tab, h, _ => h
  | o :: l, tab, h, hb => by
    simp only [ancTab]
    have hb0 := hb 0 o rfl
    have key : ∀ i, (aheadM tab o.after.toList).testBit i = true → ∃ e ∈ o.after.toList, Region.binds .any e = true ∧ e.on < tab.length ∧ (i = e.on ∨ (At tab e.on).testBit i = true) := by
      intro i hi
      obtain ⟨e, he, hbe, hor⟩ := aheadM_spec _ i hi
      exact ⟨e, he, hbe, by simpa using hb0 e (by simpa using he) hbe, hor⟩
    refine ancTab_ok l _ ⟨fun i j hij => ?_, fun i j m hij hjm => ?_⟩ fun j o' ho' e he hbe => ?_
    · rw [At_append] at hij
      split at hij
      · exact h.1 i j hij
      · split at hij
        · rename_i e1
          obtain ⟨e, _, _, hlt, hor⟩ := key i hij
          rcases hor with rfl | hor
          · omega
          · have := h.1 i e.on hor; omega
        · simp at hij
    · rw [At_append] at hjm
      split at hjm
      · rename_i hm
        have hj := h.1 j m hjm
        rw [At_append, if_pos (by omega)] at hij
        rw [At_append, if_pos hm]
        exact h.2 i j m hij hjm
      · split at hjm
        · rename_i hm0 hm
          obtain ⟨e, he, hbe, hlt, hor⟩ := key j hjm
          rw [At_append, if_neg hm0, if_pos hm]
          refine aheadM_of _ e he hbe (.inr ?_)
          rcases hor with rfl | hor
          · rw [At_append, if_pos hlt] at hij; exact hij
          · have hj := h.1 j e.on hor
            rw [At_append, if_pos (by omega)] at hij
            exact h.2 i j e.on hij hor
        · simp at hjm
    · have := hb (j + 1) o' (by simpa using ho') e he hbe
      simp only [List.length_append, List.length_cons, List.length_nil]
      omega
theorem backOk_spec {ops : Array Oper} (h : backOk ops = true) (j : Nat) (o : Oper) (ho : ops[j]? = some o) (e : Edge) (he : e ∈ o.after) (hb : Region.binds .any e = true) : e.on < j := by
  unfold backOk at h
  rw [List.all_eq_true] at h
  have := h j (by simpa using (Array.getElem?_eq_some_iff.1 ho).1)
  rw [ho] at this
  simp only [List.all_eq_true] at this
  have := this e (by simpa using he)
  simpa [hb] using this
theorem tab_ok {ops : Array Oper} (h : backOk ops = true) : TabOk (ancTab ops.toList []) := by
  refine ancTab_ok _ _ ⟨fun i j h => by simp [At] at h, fun i j m h => by simp [At] at h⟩ fun j o ho e he hb => ?_
  simp only [List.length_nil, Nat.zero_add]
  exact backOk_spec h j o (by simpa using ho) e he hb
section
variable {P : Program} {G : Nat → Option PV} {pol : Pol} {bs : Bool} {n k : Nat}
def eagerW (P : Program) (G : Nat → Option PV) (pol : Pol) (bs : Bool) (n k : Nat) (ops : List Oper) : List Nat → Env → Heap → List Nat → (Env → Prop) → Prop
  | [], σ, _, _, K => K σ
  | i :: l, σ, H, mv, K => oneWB P G pol bs n k ops i σ H mv fun ex σ' _ _ => match ex with
    | .normal => match guardD ops i with
      | some d => match Nat.ble n d with
        | false => (look σ' d).fK fun u => eagerW P G pol bs n k ops l ((d, u) :: σ) H mv K
        | true => False
      | none => False
    | _ => False
def againW (P : Program) (G : Nat → Option PV) (pol : Pol) (bs : Bool) (n k : Nat) (ops : List Oper) : List Nat → Env → Heap → List Nat → Prop → Prop
  | [], _, _, _, K => K
  | i :: l, σ, H, mv, K => oneWB P G pol bs n k ops i σ H mv fun ex σ' _ _ => match ex with
    | .normal => match guardD ops i with
      | some d => match Nat.ble n d with
        | false => Side (look σ' d = look σ d) (againW P G pol bs n k ops l σ H mv K)
        | true => False
      | none => False
    | _ => False
def plainCall (_pol : Pol) (G : Nat → Option PV) (o : Oper) (σ : Env) : Option (FuncId × List V) :=
  match o.guard, o.op with
  | none, .call ⟨.value g, args, _⟩ => match targetV (evS G σ g) with
    | some (f, cap) => match V.namesL (args.toList.map (evS G σ) ++ cap) with
      | [] => some (f, args.toList.map (evS G σ) ++ cap)
      | _ => none
    | none => none
  | _, _ => none
def chainW (P : Program) (G : Nat → Option PV) (pol : Pol) (bs : Bool) (n k : Nat) (ops : List Oper) (c : Nat) (σ : Env) (H : Heap) (mv : List Nat) (K : Bool → Post) : Prop :=
  match ops[c]? with
  | none => False
  | some o => match plainCall pol G o σ with
    | some (f, args) => match Nat.ble k (lenH H) with
      | true => mapK id args fun args => CallW P G f args [] fun cr => match cr with
        | ⟨.ret v, [], []⟩ => match v.names with
          | [] => (v.ren id).fK fun u => putK n σ o.dst u fun σ' => K false .normal σ' H mv
          | _ => False
        | ⟨.pan v, [], []⟩ => match v.names with
          | [] => (v.ren id).fK fun u => K false (.pan u) σ H mv
          | _ => False
        | cr => backW k (lenH H) [] σ H mv cr fun out σ' H' mv' => match out with
          | .ret v => putK n σ' o.dst v fun σ'' => K true .normal σ'' H' mv'
          | .pan v => K true (.pan v) σ' H' mv'
      | false => False
    | none => oneWB P G pol bs n k ops c σ H mv (K true)
def dstOk (ops : List Oper) (opsA : Array Oper) (tab simples chain : List Nat) : Bool := chain.all fun c => match guardD ops c with
  | none => true
  | some d => simples.all fun i => match ops[i]? with
    | none => true
    | some o => if (Oper.looksAt opsA o).contains d = true then isAnc tab c i || isAnc tab i c else true
def adoptW (P : Program) (G : Nat → Option PV) (pol : Pol) (bs : Bool) (n k : Nat) (ops : List Oper) (tab simples : List Nat) (past c : Nat) (σ : Env) (H : Heap) (mv : List Nat) (K : Bool → Env → Heap → List Nat → Prop) : Prop :=
  match bs with
  | false => K false σ H mv
  | true => spineK (takesA ops tab simples past c) fun l => match l with
    | [] => K false σ H mv
    | [i] => oneW P G pol n k ops i σ H mv fun ex σ' H' mv' => match ex with
      | .normal => K true σ' H' mv'
      | _ => False
    | _ => False
def drawW (P : Program) (G : Nat → Option PV) (pol : Pol) (bs : Bool) (n k : Nat) (ops : List Oper) (tab simples : List Nat) : List Nat → Bool → Nat → List Nat → Env → Heap → List Nat → Post → Prop
  | [], chk, past, todo, σ, H, mv, K =>
    spineK (todo.filter (isNow tab (maskOf []))) fun l => eagerW P G pol bs n k ops l σ H mv fun σ1 =>
      match chk with
      | false => K .normal σ1 H mv
      | true => spineK (simples.filter fun i => isNow tab (maskOf []) i && !past.testBit i && !(todo.contains i)) fun os => againW P G pol bs n k ops os σ1 H mv (K .normal σ1 H mv)
  | c :: rest, chk, past, todo, σ, H, mv, K =>
    spineK (todo.filter (isNow tab (maskOf (c :: rest)))) fun l => eagerW P G pol bs n k ops l σ H mv fun σ1 =>
      match chk with
      | false => adoptW P G pol bs n k ops tab simples past c σ1 H mv fun ad σ1 H mv => chainW P G pol bs n k ops c σ1 H mv fun b ex σ2 H2 mv2 => match ex with
        | .normal => spineK (todo.filter fun i => !isNow tab (maskOf (c :: rest)) i) fun todo' => drawW P G pol bs n k ops tab simples rest (ad || b) (past ||| ((tab[c]?).getD 0)) todo' σ2 H2 mv2 K
        | .pan v => K (.pan v) [] H2 mv2
        | _ => False
      | true => spineK (simples.filter fun i => isNow tab (maskOf (c :: rest)) i && !past.testBit i && !(todo.contains i)) fun os => againW P G pol bs n k ops os σ1 H mv
        (adoptW P G pol bs n k ops tab simples past c σ1 H mv fun ad σ1 H mv => chainW P G pol bs n k ops c σ1 H mv fun b ex σ2 H2 mv2 => match ex with
        | .normal => spineK (todo.filter fun i => !isNow tab (maskOf (c :: rest)) i) fun todo' => drawW P G pol bs n k ops tab simples rest (ad || b) (past ||| ((tab[c]?).getD 0)) todo' σ2 H2 mv2 K
        | .pan v => K (.pan v) [] H2 mv2
        | _ => False)
def regionB (P : Program) (G : Nat → Option PV) (pol : Pol) (bs : Bool) (n k : Nat) (ops : Array Oper) (σ : Env) (H : Heap) (mv : List Nat) (K : Post) (Else : Prop) : Prop :=
  spineK (ancTab ops.toList []) fun tab =>
    spineK ((List.range ops.size).filter (isSimple P bs ops tab)) fun simples =>
      spineK ((List.range ops.size).filter fun i => !isSimple P bs ops tab i) fun chain =>
        match backOk ops && (chainOk tab chain && dstOk ops.toList ops tab simples chain) with
        | true => drawW P G pol bs n k ops.toList tab simples chain false 0 simples σ H mv K
        | false => Else
def tabsOk (P : Program) (bs : Bool) (ops : Array Oper) (T : List Nat × List Nat × List Nat) : Bool :=
  decide (T.1 = ancTab ops.toList []) && (decide (T.2.1 = (List.range ops.size).filter (isSimple P bs ops (ancTab ops.toList []))) && (decide (T.2.2 = (List.range ops.size).filter fun i => !isSimple P bs ops (ancTab ops.toList []) i) &&
    (backOk ops && (chainOk T.1 T.2.2 && dstOk ops.toList ops T.1 T.2.1 T.2.2))))
structure TabsW (P : Program) (ops : Array Oper) (K : Bool → List Nat → List Nat → List Nat → Prop) : Prop where
  ex : ∃ (bs : Bool) (T : List Nat × List Nat × List Nat), tabsOk P bs ops T = true ∧ K bs T.1 T.2.1 T.2.2
theorem TabsW.lit {P : Program} {ops : Array Oper} {K : Bool → List Nat → List Nat → List Nat → Prop} (T : List Nat × List Nat × List Nat) (h : tabsOk P false ops T = true) (k : K false T.1 T.2.1 T.2.2) : TabsW P ops K := ⟨false, T, h, k⟩
def regionW (P : Program) (G : Nat → Option PV) (pol : Pol) (n k : Nat) (ops : Array Oper) (σ : Env) (H : Heap) (mv : List Nat) (K : Post) : Prop :=
  match Nat.ble ops.size 24 with
  | true => regionB P G pol false n k ops σ H mv K (regionB P G pol true n k ops σ H mv K False)
  | false => TabsW P ops fun bs tab simples chain => drawW P G pol bs n k ops.toList tab simples chain false 0 simples σ H mv K
theorem regionW_old {P : Program} {G : Nat → Option PV} {pol : Pol} {n k : Nat} {ops : Array Oper} {σ : Env} {H : Heap} {mv : List Nat} {K : Post} (h : regionW P G pol n k ops σ H mv K) : ∃ bs, regionB P G pol bs n k ops σ H mv K False := by
  unfold regionW at h
  split at h
  · unfold regionB at h
    rw [spineK_eq, spineK_eq, spineK_eq] at h
    split at h
    · rename_i hc
      refine ⟨false, ?_⟩
      unfold regionB
      rw [spineK_eq, spineK_eq, spineK_eq, hc]
      exact h
    · exact ⟨true, h⟩
  · obtain ⟨bs, ⟨tab, simples, chain⟩, ht, hk⟩ := h.ex
    refine ⟨bs, ?_⟩
    unfold tabsOk at ht
    simp only [Bool.and_eq_true, decide_eq_true_eq] at ht
    obtain ⟨h1, h2, h3, h4, h5, h6⟩ := ht
    subst h1
    subst h2
    subst h3
    unfold regionB
    rw [spineK_eq, spineK_eq, spineK_eq]
    rw [h4, h5, h6]
    exact hk
theorem guardD_slot {ops : Array Oper} {i : Nat} : guardD ops.toList i = slotOf ops i := by
  unfold guardD slotOf
  rw [Array.getElem?_toList]
  cases ops[i]? <;> rfl
mutual
theorem V.ren_congr {f g : Nat → Nat} : ∀ (v : V), (∀ m ∈ v.names, f m = g m) → v.ren f = v.ren g
  | .p d, _ => rfl
  | .ptr a b, h => by simp only [V.ren, h a (by simp [V.names])]
  | .eptr a b c, h => by simp only [V.ren, h a (by simp [V.names])]
  | .sl a b c, h => by simp only [V.ren, h a (by simp [V.names])]
  | .mapr a, h => by simp only [V.ren, h a (by simp [V.names])]
  | .func q l, h => by simp only [V.ren, V.renL_congr l (by simpa [V.names] using h)]
  | .agg l, h => by simp only [V.ren, V.renL_congr l (by simpa [V.names] using h)]
  | .tup l, h => by simp only [V.ren, V.renL_congr l (by simpa [V.names] using h)]
  | .iface t v, h => by simp only [V.ren, V.ren_congr v (by simpa [V.names] using h)]
  | .junk, _ => rfl
theorem V.renL_congr {f g : Nat → Nat} : ∀ (l : List V), (∀ m ∈ V.namesL l, f m = g m) → V.renL f l = V.renL g l
  | [], _ => rfl
  | x :: l, h => by
    simp only [V.namesL, List.mem_append] at h
    simp only [V.renL, V.ren_congr x (fun m hm => h m (.inl hm)), V.renL_congr l (fun m hm => h m (.inr hm))]
end
mutual
theorem V.ren_id : ∀ (v : V), v.ren id = v
  | .p d => rfl
  | .ptr a b => rfl
  | .eptr a b c => rfl
  | .sl a b c => rfl
  | .mapr a => rfl
  | .func q l => by simp only [V.ren, V.renL_id l]
  | .agg l => by simp only [V.ren, V.renL_id l]
  | .tup l => by simp only [V.ren, V.renL_id l]
  | .iface t v => by simp only [V.ren, V.ren_id v]
  | .junk => rfl
theorem V.renL_id : ∀ (l : List V), V.renL id l = l
  | [] => rfl
  | x :: l => by simp only [V.renL, V.ren_id x, V.renL_id l]
end
theorem toEnv_some {σ : Env} {d : Nat} (hd : Nat.ble n d = false) : (toEnv n σ)[d]? = some (look σ d) := by
  rw [toEnv_get, if_pos]
  rcases Nat.lt_or_ge d n with h1 | h1
  · exact h1
  · rw [Nat.ble_eq_true_of_le h1] at hd; cases hd
theorem ble_lt {d : Nat} (hd : Nat.ble n d = false) : d < n := by
  rcases Nat.lt_or_ge d n with h1 | h1
  · exact h1
  · rw [Nat.ble_eq_true_of_le h1] at hd; cases hd
theorem eagerW_spec {ops : Array Oper} {H : Heap} {mv : List Nat} : ∀ (l : List Nat) {σ : Env} {K : Env → Prop}, Bdd n σ → eagerW P G pol bs n k ops.toList l σ H mv K →
    ∃ σ', EagerP P G pol bs ops l ⟨toEnv n σ, H, k, mv⟩ ⟨toEnv n σ', H, k, mv⟩ ∧ Bdd n σ' ∧ K σ'
  | [], σ, K, hb, h => ⟨σ, rfl, hb, h⟩
  | i :: l, σ, K, hb, h => by
    unfold eagerW at h
    obtain ⟨ex, σ1, H1, mv1, hone, hb1, h⟩ := oneWB_spec hb h
    cases ex <;> simp only [] at h
    split at h
    case h_2 => exact h.elim
    rename_i d hd
    split at h
    case h_2 => exact h.elim
    rename_i hdn
    rw [V.fK_eq] at h
    obtain ⟨σ', h1, h2, h3⟩ := eagerW_spec l (hb.cons (ble_lt hdn) _) h
    refine ⟨σ', ⟨d, look σ1 d, by rw [← guardD_slot]; exact hd, ⟨_, d, hone, by rw [← guardD_slot]; exact hd, toEnv_some hdn⟩, ?_⟩, h2, h3⟩
    simp only [toEnv_set]
    exact h1
theorem againW_spec {ops : Array Oper} {H : Heap} {mv : List Nat} {σ : Env} {K : Prop} (hb : Bdd n σ) : ∀ (l : List Nat), againW P G pol bs n k ops.toList l σ H mv K →
    (∀ i ∈ l, IdemP P G pol bs ops ⟨toEnv n σ, H, k, mv⟩ i) ∧ K
  | [], h => ⟨by simp, h⟩
  | i :: l, h => by
    unfold againW at h
    obtain ⟨ex, σ1, H1, mv1, hone, hb1, h⟩ := oneWB_spec hb h
    cases ex <;> simp only [] at h
    split at h
    case h_2 => exact h.elim
    rename_i d hd
    split at h
    case h_2 => exact h.elim
    rename_i hdn
    obtain ⟨he, h⟩ := h
    obtain ⟨h1, h2⟩ := againW_spec hb l h
    refine ⟨fun j hj => ?_, h2⟩
    rcases List.mem_cons.1 hj with rfl | hj
    · exact ⟨d, look σ d, by rw [← guardD_slot]; exact hd, ⟨_, d, hone, by rw [← guardD_slot]; exact hd, by rw [← he]; exact toEnv_some hdn⟩, toEnv_some hdn⟩
    · exact h1 j hj
theorem idem_agree {ops : Array Oper} {i d : Nat} {o : Oper} (ho : ops[i]? = some o) (hd : o.dst = some d) (hs : simpleK P bs o.op = true) {F1 F2 : Fr} (hH : F2.H = F1.H)
    (hag : ∀ t ∈ Oper.looksAt ops o, F2.env[t]? = F1.env[t]?) (hsl : F2.env[d]? = F1.env[d]?) (h : IdemP P G pol bs ops F1 i) : IdemP P G pol bs ops F2 i := by
  have hso : slotOf ops i = some d := by simp [slotOf, ho, hd]
  obtain ⟨d', v, hd', ⟨fr1, d'', ⟨C, hC, hone⟩, hd'', hv⟩, hu⟩ := h
  rw [hso] at hd' hd''
  cases hd'
  cases hd''
  have := oneA_agree ho hd hs hH hag hone hv
  have hlt : d < F2.env.length := by
    rw [hu] at hsl
    exact (List.getElem?_eq_some_iff.1 hsl).1
  exact ⟨d, v, hso, ⟨_, d, ⟨C, hC, this⟩, hso, by simp [hlt]⟩, by rw [hsl]; exact hu⟩
variable {ops : Array Oper} {tab simples chain : List Nat}
theorem eager_idem (hok : TabOk tab) (hsimp : ∀ i, i ∈ simples → isSimple P bs ops tab i = true) : ∀ (l : List Nat), l.Pairwise (· < ·) → (∀ i ∈ l, i ∈ simples) → ∀ {fr F : Fr}, EagerP P G pol bs ops l fr F → ∀ i ∈ l, IdemP P G pol bs ops F i
  | [], _, _, fr, F, _, i, hi => by simp at hi
  | j :: l, hp, hm, fr, F, h, i, hi => by
    obtain ⟨d, v, hslot, ⟨fr', d', ⟨C, hC, hone⟩, hd', hv⟩, hrest⟩ := h
    rw [hslot] at hd'
    cases hd'
    rw [List.pairwise_cons] at hp
    rcases List.mem_cons.1 hi with rfl | hi
    · obtain ⟨o, dd, ho, hdst, hsk, hlk, hw⟩ := isSimple_spec (hsimp i (hm i (by simp)))
      have hdd : dd = d := by simp only [slotOf, ho, Option.bind_some, hdst, Option.some.injEq] at hslot; exact hslot
      subst hdd
      obtain ⟨_, v', hfr'⟩ := oneA_simple ho hdst hsk hone
      have hlt : dd < fr.env.length := by
        rw [hfr'] at hv
        have := (List.getElem?_eq_some_iff.1 hv).1
        simpa using this
      have self : ∀ t ∈ Oper.looksAt ops o, t ≠ dd := by
        rintro t ht rfl
        have := hlk i o ho ht
        exact absurd (hok.1 i i this) (Nat.lt_irrefl _)
      have h1 : IdemP P G pol bs ops { fr with env := fr.env.set dd v } i := by
        have := oneA_agree (F1 := fr) (F2 := { fr with env := fr.env.set dd v }) ho hdst hsk rfl (fun t ht => by simp only []; rw [List.getElem?_set_ne (fun e => self t ht e.symm)]) hone hv
        exact ⟨dd, v, hslot, ⟨_, dd, ⟨C, hC, this⟩, hslot, by simp [hlt]⟩, by simp [hlt]⟩
      obtain ⟨g1, g2, g3, g4, g5⟩ := eagerP_spec l hrest
      have apart : ∀ j ∈ l, ∀ x, slotOf ops j = some x → x ∉ Oper.looksAt ops o ∧ x ≠ dd := by
        intro j hj x hx
        obtain ⟨oj, dj, hoj, hdj, _, hlkj, hwj⟩ := isSimple_spec (hsimp j (hm j (List.mem_cons_of_mem _ hj)))
        have hxd : x = dj := by simp only [slotOf, hoj, Option.bind_some, hdj, Option.some.injEq] at hx; exact hx.symm
        subst hxd
        have hij := hp.1 j hj
        refine ⟨fun hmem => ?_, fun e => ?_⟩
        · have := hok.1 j i (hlkj i o ho hmem)
          omega
        · subst e
          have := hok.1 j i (hwj i o ho (by omega) hdst)
          omega
      refine idem_agree ho hdst hsk g1 (fun t ht => g5 t fun j hj e => ?_) (g5 dd fun j hj e => ?_) h1
      · exact (apart j hj t e).1 ht
      · exact (apart j hj dd e).2 rfl
    · exact eager_idem hok hsimp l hp.2 (fun i hi => hm i (List.mem_cons_of_mem _ hi)) hrest i hi
def afterCall (dst : Option Tmp) : Out → Fr → Option (Ex × Fr)
  | .ret v, fr => some (.normal, { fr with env := putO fr.env dst v })
  | .pan v, fr => some (.pan v, fr)
theorem plainCall_run {C : CallF} {c : Nat} {o : Oper} {σ : Env} {H : Heap} {mv : List Nat} {f : FuncId} {args : List V} (hb : Bdd n σ) (ho : ops[c]? = some o) (hpc : plainCall pol G o σ = some (f, args))
    {out : Out} {σ' : Env} {H' : Heap} {mv' : List Nat} (hcall : callS C ⟨toEnv n σ, H, k, mv⟩ f args = some (out, ⟨toEnv n σ', H', k, mv'⟩)) :
    oneA P G pol bs C ops c ⟨toEnv n σ, H, k, mv⟩ = afterCall o.dst out ⟨toEnv n σ', H', k, mv'⟩ := by
  unfold plainCall at hpc
  split at hpc
  case h_2 => cases hpc
  rename_i g ags ts hg hop
  split at hpc
  case h_2 => cases hpc
  rename_i f' cap ht
  split at hpc
  case h_2 => cases hpc
  rename_i hns
  simp only [Option.some.injEq, Prod.mk.injEq] at hpc
  obtain ⟨rfl, rfl⟩ := hpc
  rw [oneA_not ho (by rw [hop]; rfl)]
  simp only [runOps, ho, hg, stepOp, hop, callOp, evS_fun hb, ht, hns, List.filter_nil, Fr.freezeAll, ite_self]
  rw [hcall]
  cases out <;> rfl
theorem callS_none {C : CallF} {σ : Env} {H : Heap} {mv : List Nat} {f : FuncId} {args : List V} {out : Out} (hns : V.namesL args = []) (hC : C f args [] = some ⟨out, [], []⟩) (hk : Nat.ble k (lenH H) = true) (hon : outNames out = []) :
    callS C ⟨toEnv n σ, H, k, mv⟩ f args = some (out.ren id, ⟨toEnv n σ, H, k, mv⟩) := by
  have hargs : args.map (V.ren (([] : List Nat).idxOf ·)) = args := by
    have : ∀ (l : List V), V.namesL l = [] → l.map (V.ren (([] : List Nat).idxOf ·)) = l := by
      intro l hl
      induction l with
      | nil => rfl
      | cons x l ih =>
        simp only [V.namesL, List.append_eq_nil_iff] at hl
        rw [List.map_cons, ih hl.2]
        congr 1
        have h1 := V.ren_congr (f := (([] : List Nat).idxOf ·)) (g := id) x (by rw [hl.1]; simp)
        rw [h1]
        exact V.ren_id x
    exact this args hns
  unfold callS
  simp only [hns]
  have hr : reachL (Heap.at H) 200 [] [] = [] := rfl
  rw [hr, hargs]
  have hc : closedN (Heap.at H) [] = true := rfl
  rw [if_pos ⟨by simp, hc, List.nodup_nil⟩]
  simp only [List.map_nil, hC]
  rw [if_pos ⟨by simp, by simp, by simp, by rw [lenH_eq] at hk; exact Nat.le_of_ble_eq_true hk, by rw [hon]; simp, by simp⟩]
  have : out.ren (backN [] H.length) = out.ren id := by
    cases out with
    | ret v => simp only [Out.ren]; rw [V.ren_congr (g := id) v (by simp only [outNames] at hon; rw [hon]; simp)]
    | pan v => simp only [Out.ren]; rw [V.ren_congr (g := id) v (by simp only [outNames] at hon; rw [hon]; simp)]
  simp only [this, List.map_nil, killAll, Heap.killAll, Heap.putAll, List.foldl_nil, List.length_nil, List.range_zero]
end
end Go.Am
end

section
namespace Go.Am
open Go
section
variable {P : Program} {G : Nat → Option PV} {pol : Pol} {bs : Bool} {n k : Nat}
theorem ren_nil (l : List V) (hl : V.namesL l = []) : l.map (V.ren (([] : List Nat).idxOf ·)) = l := by
  induction l with
  | nil => rfl
  | cons x l ih =>
    simp only [V.namesL, List.append_eq_nil_iff] at hl
    rw [List.map_cons, ih hl.2]
    congr 1
    rw [V.ren_congr (f := (([] : List Nat).idxOf ·)) (g := id) x (by rw [hl.1]; simp)]
    exact V.ren_id x
theorem plainCall_names {o : Oper} {σ : Env} {f : FuncId} {args : List V} (hpc : plainCall pol G o σ = some (f, args)) : V.namesL args = [] := by
  unfold plainCall at hpc
  split at hpc
  case h_2 => cases hpc
  split at hpc
  case h_2 => cases hpc
  split at hpc
  case h_2 => cases hpc
  rename_i hns
  simp only [Option.some.injEq, Prod.mk.injEq] at hpc
  obtain ⟨rfl, rfl⟩ := hpc
  exact hns
theorem chainW_spec {ops : Array Oper} {c : Nat} {σ : Env} {H : Heap} {mv : List Nat} {K : Bool → Post} (hb : Bdd n σ) (h : chainW P G pol bs n k ops.toList c σ H mv K) :
    ∃ b ex σ' H' mv', OneB P G pol bs ops c ⟨toEnv n σ, H, k, mv⟩ ex ⟨toEnv n σ', H', k, mv'⟩ ∧ Bdd n σ' ∧ (b = false → ex = .normal → H' = H ∧ mv' = mv ∧ ∀ x, slotOf ops c ≠ some x → (toEnv n σ')[x]? = (toEnv n σ)[x]?) ∧ K b ex σ' H' mv' := by
  unfold chainW at h
  split at h
  case h_1 => exact h.elim
  rename_i o ho
  have ho : ops[c]? = some o := by simpa using ho
  split at h
  · rename_i f args hpc
    have hns := plainCall_names hpc
    split at h
    case h_2 => exact h.elim
    rename_i hk
    rw [mapK_eq, List.map_id] at h
    obtain ⟨cr, hcr, h⟩ := h
    split at h
    · rename_i v
      split at h
      case h_2 => exact h.elim
      rename_i hv
      rw [V.fK_eq] at h
      obtain ⟨σ2, g1, g2, hK⟩ := putK_eq hb h
      have hcs := callS_none (n := n) (k := k) (σ := σ) (H := H) (mv := mv) hns (oneC_at (f := f) (args := args) (H := []) (cr := ⟨.ret v, [], []⟩)) hk (show outNames (.ret v) = [] from hv)
      refine ⟨false, .normal, σ2, H, mv, ⟨_, oneC_sound hcr, ?_⟩, g2, fun _ _ => ⟨rfl, rfl, fun x hx => ?_⟩, hK⟩
      · rw [plainCall_run hb ho hpc hcs]
        simp only [Out.ren, afterCall, g1]
      · rw [← g1]
        have hso : slotOf ops c = o.dst := by simp [slotOf, ho]
        rw [hso] at hx
        cases hd : o.dst with
        | none => rfl
        | some d =>
          simp only [putO]
          rw [List.getElem?_set_ne]
          rintro rfl
          exact hx hd
    · rename_i v
      split at h
      case h_2 => exact h.elim
      rename_i hv
      rw [V.fK_eq] at h
      have hcs := callS_none (n := n) (k := k) (σ := σ) (H := H) (mv := mv) hns (oneC_at (f := f) (args := args) (H := []) (cr := ⟨.pan v, [], []⟩)) hk (show outNames (.pan v) = [] from hv)
      refine ⟨false, _, σ, H, mv, ⟨_, oneC_sound hcr, ?_⟩, hb, fun _ e => (by cases e), h⟩
      rw [plainCall_run hb ho hpc hcs]
      rfl
    · have hcw : callW P G k f args σ H mv fun out σ' H' mv' => match out with
          | .ret v => putK n σ' o.dst v fun σ'' => K true .normal σ'' H' mv'
          | .pan v => K true (.pan v) σ' H' mv' := by
        unfold callW
        rw [hns]
        have hr : reachL (Heap.at H) 200 [] [] = [] := rfl
        rw [hr, spineK_eq]
        have hc : closedN (Heap.at H) [] = true := rfl
        simp only [List.all_nil, hc, List.nodup_nil, decide_true, Bool.and_self, List.map_nil, mapK_eq, heapK_eq]
        rw [ren_nil args hns]
        exact ⟨cr, hcr, h⟩
      obtain ⟨C, hC, out, σ', H', mv', h1, h2, h3⟩ := callW_spec hb hcw
      cases out with
      | ret v =>
        simp only [] at h3
        obtain ⟨σ2, g1, g2, hK⟩ := putK_eq h2 h3
        refine ⟨true, .normal, σ2, H', mv', ⟨C, hC, ?_⟩, g2, fun e => (by cases e), hK⟩
        rw [plainCall_run hb ho hpc h1]
        simp only [afterCall, g1]
      | pan v =>
        refine ⟨true, _, σ', H', mv', ⟨C, hC, ?_⟩, h2, fun e => (by cases e), h3⟩
        rw [plainCall_run hb ho hpc h1]
        rfl
  · obtain ⟨ex, σ', H', mv', h1, h2, h3⟩ := oneWB_spec hb h
    exact ⟨true, ex, σ', H', mv', h1, h2, fun e => (by cases e), h3⟩
theorem toEnv_nil (e : List V) (n : Nat) (h : e.length = n) : allJunk e = toEnv n [] := by
  apply List.ext_getElem?
  intro i
  simp only [allJunk, List.getElem?_map, toEnv_get, look]
  split
  · rename_i hi
    rw [List.getElem?_eq_getElem (by omega)]; rfl
  · rename_i hi
    rw [List.getElem?_eq_none (by omega)]; rfl
variable {ops : Array Oper} {tab simples chain : List Nat}
theorem now_of {rest : List Nat} {i : Nat} (h : isNow tab (maskOf rest) i = true) : ∀ c ∈ rest, isAnc tab c i = false := fun _ hc => now_spec h hc
theorem of_now {rest : List Nat} {i : Nat} (h : ∀ c ∈ rest, isAnc tab c i = false) : isNow tab (maskOf rest) i = true := by
  cases hq : isNow tab (maskOf rest) i with
  | true => rfl
  | false =>
    obtain ⟨c, hc, ha⟩ := notNow_spec hq
    rw [h c hc] at ha; cases ha
structure DInv (P : Program) (ops : Array Oper) (tab simples rest : List Nat) (todo : List Nat) : Prop where
  sorted : todo.Pairwise (· < ·)
  sub : ∀ i ∈ todo, i ∈ simples
  now : ∀ i ∈ simples, i ∉ todo → ∀ c ∈ rest, isAnc tab c i = false
  apart : ∀ i ∈ simples, i ∉ todo → ∀ j ∈ todo, isAnc tab j i = false
theorem isAnc_At {i j : Nat} : isAnc tab i j = (At tab j).testBit i := rfl
theorem DInv.next (hok : TabOk tab) {c : Nat} {rest todo : List Nat} (h : DInv P ops tab simples (c :: rest) todo) : DInv P ops tab simples rest (todo.filter fun i => !isNow tab (maskOf (c :: rest)) i) := by
  have was : ∀ i ∈ simples, i ∉ (todo.filter fun i => !isNow tab (maskOf (c :: rest)) i) → ∀ c' ∈ c :: rest, isAnc tab c' i = false := by
    intro i hi hn c' hc'
    by_cases ht : i ∈ todo
    · have : isNow tab (maskOf (c :: rest)) i = true := by
        cases hq : isNow tab (maskOf (c :: rest)) i with
        | true => rfl
        | false => exact absurd (List.mem_filter.2 ⟨ht, by rw [hq]; rfl⟩) hn
      exact now_of this c' hc'
    · exact h.now i hi ht c' hc'
  refine ⟨h.sorted.filter _, fun i hi => h.sub i (List.mem_filter.1 hi).1, fun i hi hn c' hc' => was i hi hn c' (List.mem_cons_of_mem _ hc'), fun i hi hn j hj => ?_⟩
  obtain ⟨hj1, hj2⟩ := List.mem_filter.1 hj
  obtain ⟨c', hc', hcj⟩ := notNow_spec (show isNow tab (maskOf (c :: rest)) j = false by simpa using hj2)
  cases hq : isAnc tab j i with
  | false => rfl
  | true =>
    have := hok.2 c' j i hcj hq
    have h2 := was i hi hn c' hc'
    rw [isAnc_At, this] at h2; cases h2
theorem idem_keep (_hok : TabOk tab) (hsimp : ∀ i, i ∈ simples → isSimple P bs ops tab i = true) {rest todo : List Nat} (hinv : DInv P ops tab simples rest todo) {l : List Nat} (hl : ∀ i ∈ l, i ∈ todo) {fr F : Fr} (h : EagerP P G pol bs ops l fr F)
    {i : Nat} (hi : i ∈ simples) (hn : i ∉ todo) (hid : IdemP P G pol bs ops fr i) : IdemP P G pol bs ops F i := by
  obtain ⟨g1, g2, g3, g4, g5⟩ := eagerP_spec l h
  obtain ⟨o, d, ho, hdst, hsk, hlk, hw⟩ := isSimple_spec (hsimp i hi)
  have key : ∀ j ∈ l, ∀ x, slotOf ops j = some x → x ∉ Oper.looksAt ops o ∧ x ≠ d := by
    intro j hj x hx
    have hjt := hl j hj
    obtain ⟨oj, dj, hoj, hdj, _, hlkj, hwj⟩ := isSimple_spec (hsimp j (hinv.sub j hjt))
    have hxd : x = dj := by simp only [slotOf, hoj, Option.bind_some, hdj, Option.some.injEq] at hx; exact hx.symm
    subst hxd
    have hap := hinv.apart i hi hn j hjt
    refine ⟨fun hm => ?_, fun e => ?_⟩
    · rw [hlkj i o ho hm] at hap; cases hap
    · subst e
      have hne : i ≠ j := by rintro rfl; exact hn hjt
      rw [hwj i o ho hne hdst] at hap; cases hap
  exact idem_agree ho hdst hsk g1 (fun t ht => g5 t fun j hj e => (key j hj t e).1 ht) (g5 d fun j hj e => (key j hj d e).2 rfl) hid
theorem dstOk_spec (h : dstOk ops.toList ops tab simples chain = true) {c d i : Nat} {o : Oper} (hc : c ∈ chain) (hd : slotOf ops c = some d) (hi : i ∈ simples) (ho : ops[i]? = some o) (hl : d ∈ Oper.looksAt ops o) : isAnc tab c i = true ∨ isAnc tab i c = true := by
  unfold dstOk at h
  rw [List.all_eq_true] at h
  have := h c hc
  rw [guardD_slot, hd] at this
  simp only [List.all_eq_true] at this
  have := this i hi
  rw [Array.getElem?_toList, ho] at this
  simp only [] at this
  rw [if_pos (by simpa using hl)] at this
  simpa using this
theorem takesA_none (hsimp : ∀ i, i ∈ simples → isSimple P false ops tab i = true) (past c : Nat) : takesA ops.toList tab simples past c = [] := by
  unfold takesA
  rw [List.filter_eq_nil_iff]
  intro i hi hc
  simp only [Bool.and_eq_true] at hc
  obtain ⟨o, d, ho, _, hsk, _⟩ := isSimple_spec (hsimp i hi)
  have ho2 : ops.toList[i]? = some o := by rw [Array.getElem?_toList]; exact ho
  have := hc.1.1
  simp only [isAllocL, ho2] at this
  cases hop : o.op <;> simp only [hop, isAllocO, Bool.false_eq_true] at this
  simp only [hop, simpleK, Bool.false_eq_true] at hsk
theorem adoptW_spec (hsimp : ∀ i, i ∈ simples → isSimple P bs ops tab i = true) {past c : Nat} {σ : Env} {H : Heap} {mv : List Nat} {K : Bool → Env → Heap → List Nat → Prop} (hb : Bdd n σ)
    (h : adoptW P G pol bs n k ops.toList tab simples past c σ H mv K) :
    ∃ ad σ' H' mv', AdoptP P G pol ops (takesA ops.toList tab simples past c) ⟨toEnv n σ, H, k, mv⟩ ⟨toEnv n σ', H', k, mv'⟩ ∧ Bdd n σ' ∧ (ad = false → σ' = σ ∧ H' = H ∧ mv' = mv) ∧ K ad σ' H' mv' := by
  unfold adoptW at h
  split at h
  · rw [takesA_none hsimp]
    exact ⟨false, σ, H, mv, rfl, hb, fun _ => ⟨rfl, rfl, rfl⟩, h⟩
  · rw [spineK_eq] at h
    generalize takesA ops.toList tab simples past c = T at h
    split at h
    · exact ⟨false, σ, H, mv, rfl, hb, fun _ => ⟨rfl, rfl, rfl⟩, h⟩
    · rename_i i
      obtain ⟨ex, σ', H', mv', h1, h2, h3⟩ := oneW_spec hb h
      cases ex with
      | normal => exact ⟨true, σ', H', mv', h1, h2, fun e => (by cases e), h3⟩
      | _ => exact h3.elim
    · exact h.elim
theorem drawW_spec (hok : TabOk tab) (hsimp : ∀ i, i ∈ simples → isSimple P bs ops tab i = true) (hns : ∀ c ∈ chain, isSimple P bs ops tab c = false) (hdst : dstOk ops.toList ops tab simples chain = true) :
    ∀ (rest : List Nat) (chk : Bool) (past : Nat) (todo : List Nat) {σ : Env} {H : Heap} {mv : List Nat} {K : Post}, Bdd n σ → (∀ c ∈ rest, c ∈ chain) → DInv P ops tab simples rest todo →
      (chk = false → ∀ i ∈ simples, i ∉ todo → past.testBit i = false → IdemP P G pol bs ops ⟨toEnv n σ, H, k, mv⟩ i) → drawW P G pol bs n k ops.toList tab simples rest chk past todo σ H mv K →
      ∃ ex σ' H' mv', (∃ F2, EagerP P G pol bs ops (todo.filter (isNow tab (maskOf rest))) ⟨toEnv n σ, H, k, mv⟩ F2 ∧ (∀ i ∈ simples, isNow tab (maskOf rest) i = true → past.testBit i = false → IdemP P G pol bs ops F2 i) ∧
        ContP P G pol bs ops tab simples rest past todo F2 ex ⟨toEnv n σ', H', k, mv'⟩) ∧ Bdd n σ' ∧ K ex σ' H' mv' := by
  intro rest
  -- those that come now, and those that came
  have stage : ∀ (rest : List Nat) (chk : Bool) (past : Nat) (todo : List Nat) {σ : Env} {H : Heap} {mv : List Nat} {R : Env → Prop}, Bdd n σ → DInv P ops tab simples rest todo →
      (chk = false → ∀ i ∈ simples, i ∉ todo → past.testBit i = false → IdemP P G pol bs ops ⟨toEnv n σ, H, k, mv⟩ i) →
      (spineK (todo.filter (isNow tab (maskOf rest))) fun l => eagerW P G pol bs n k ops.toList l σ H mv fun σ1 =>
        match chk with
        | false => R σ1
        | true => spineK (simples.filter fun i => isNow tab (maskOf rest) i && !past.testBit i && !(todo.contains i)) fun os => againW P G pol bs n k ops.toList os σ1 H mv (R σ1)) →
      ∃ σ1, EagerP P G pol bs ops (todo.filter (isNow tab (maskOf rest))) ⟨toEnv n σ, H, k, mv⟩ ⟨toEnv n σ1, H, k, mv⟩ ∧ Bdd n σ1 ∧ (∀ i ∈ simples, isNow tab (maskOf rest) i = true → past.testBit i = false → IdemP P G pol bs ops ⟨toEnv n σ1, H, k, mv⟩ i) ∧ R σ1 := by
    intro rest chk past todo σ H mv R hb hinv hid h
    rw [spineK_eq] at h
    obtain ⟨σ1, h1, h2, h⟩ := eagerW_spec _ hb h
    have new := eager_idem hok hsimp _ (hinv.sorted.filter _) (fun i hi => hinv.sub i (List.mem_filter.1 hi).1) h1
    have hsub : ∀ i ∈ todo.filter (isNow tab (maskOf rest)), i ∈ todo := fun i hi => (List.mem_filter.1 hi).1
    cases chk with
    | false =>
      refine ⟨σ1, h1, h2, fun i hi hnow hp => ?_, h⟩
      by_cases ht : i ∈ todo
      · exact new i (List.mem_filter.2 ⟨ht, hnow⟩)
      · exact idem_keep hok hsimp hinv hsub h1 hi ht (hid rfl i hi ht hp)
    | true =>
      simp only [spineK_eq] at h
      obtain ⟨ha, hR⟩ := againW_spec h2 _ h
      refine ⟨σ1, h1, h2, fun i hi hnow hp => ?_, hR⟩
      by_cases ht : i ∈ todo
      · exact new i (List.mem_filter.2 ⟨ht, hnow⟩)
      · exact ha i (List.mem_filter.2 ⟨hi, by simp [hnow, hp, ht]⟩)
  induction rest with
  | nil =>
    intro chk past todo σ H mv K hb hrest hinv hid h
    obtain ⟨σ1, h1, h2, h3, h4⟩ := stage [] chk past todo (R := fun σ1 => K .normal σ1 H mv) hb hinv hid (by unfold drawW at h; exact h)
    exact ⟨.normal, σ1, H, mv, ⟨_, h1, h3, rfl, rfl⟩, h2, h4⟩
  | cons c rest ih =>
    intro chk past todo σ H mv K hb hrest hinv hid h
    obtain ⟨σ1, h1, h2, h3, h4⟩ := stage (c :: rest) chk past todo (R := fun σ1 => adoptW P G pol bs n k ops.toList tab simples past c σ1 H mv fun ad σ1 H mv => chainW P G pol bs n k ops.toList c σ1 H mv fun b ex σ2 H2 mv2 => match ex with
        | .normal => spineK (todo.filter fun i => !isNow tab (maskOf (c :: rest)) i) fun todo' => drawW P G pol bs n k ops.toList tab simples rest (ad || b) (past ||| ((tab[c]?).getD 0)) todo' σ2 H2 mv2 K
        | .pan v => K (.pan v) [] H2 mv2
        | _ => False) hb hinv hid (by unfold drawW at h; exact h)
    obtain ⟨ad, σ0, H0, mv0, had, hb0, hadp, h4⟩ := adoptW_spec hsimp h2 h4
    obtain ⟨b, ex, σ2, H2, mv2, hone, hb2, hpure, hK⟩ := chainW_spec hb0 h4
    have hcc := hrest c (by simp)
    cases ex with
    | normal =>
      simp only [spineK_eq] at hK
      have hinv' := hinv.next (P := P) (ops := ops) hok
      have hid' : (ad || b) = false → ∀ i ∈ simples, i ∉ (todo.filter fun i => !isNow tab (maskOf (c :: rest)) i) → (past ||| ((tab[c]?).getD 0)).testBit i = false → IdemP P G pol bs ops ⟨toEnv n σ2, H2, k, mv2⟩ i := by
        intro hbf i hi hn hp
        rw [Bool.or_eq_false_iff] at hbf
        obtain ⟨rfl, rfl, rfl⟩ := hadp hbf.1
        obtain ⟨rfl, rfl, hsame⟩ := hpure hbf.2 rfl
        rw [Nat.testBit_or, Bool.or_eq_false_iff] at hp
        have hnow : ∀ c' ∈ c :: rest, isAnc tab c' i = false := by
          intro c' hc'
          by_cases ht : i ∈ todo
          · have : isNow tab (maskOf (c :: rest)) i = true := by
              cases hq : isNow tab (maskOf (c :: rest)) i with
              | true => rfl
              | false => exact absurd (List.mem_filter.2 ⟨ht, by rw [hq]; rfl⟩) hn
            exact now_of this c' hc'
          · exact hinv.now i hi ht c' hc'
        have hold := h3 i hi (of_now hnow) hp.1
        obtain ⟨o, d, ho, hd, hsk, hlk, hw⟩ := isSimple_spec (hsimp i hi)
        refine idem_agree (F1 := ⟨toEnv n σ0, H2, k, mv2⟩) ho hd hsk rfl (fun t ht => hsame t fun e => ?_) (hsame d fun e => ?_) hold
        · rcases dstOk_spec hdst hcc e hi ho ht with h9 | h9
          · rw [hnow c (by simp)] at h9; cases h9
          · have hp2 : (At tab c).testBit i = false := hp.2
            rw [isAnc_At, hp2] at h9; cases h9
        · have hne : c ≠ i := by
            rintro rfl
            have := hns c hcc
            rw [hsimp c hi] at this; cases this
          unfold slotOf at e
          cases hoc : ops[c]? with
          | none => rw [hoc] at e; cases e
          | some oc =>
            rw [hoc] at e
            have := hw c oc hoc hne e
            rw [isAnc_At] at this
            have hp2 : (At tab c).testBit i = false := hp.2
            rw [this] at hp2; cases hp2
      obtain ⟨ex, σ3, H3, mv3, ⟨F2, q1, q2, q3⟩, q4, q5⟩ := ih (ad || b) _ _ hb2 (fun c' hc' => hrest c' (List.mem_cons_of_mem _ hc')) hinv' hid' hK
      exact ⟨ex, σ3, H3, mv3, ⟨_, h1, h3, _, had, .inl ⟨_, hone, F2, q1, q2, q3⟩⟩, q4, q5⟩
    | pan v =>
      refine ⟨.pan v, [], H2, mv2, ⟨_, h1, h3, _, had, .inr ⟨v, _, hone, rfl, ?_⟩⟩, fun t _ => rfl, hK⟩
      simp only []
      rw [toEnv_nil _ n (toEnv_length n σ2)]
    | _ => exact hK.elim
theorem regionW_sound (hm : P.follows .mixedOrders = true) {id : Nat} {ops : Array Oper} {σ : Env} {H : Heap} {mv : List Nat} {K : Post} (hb : Bdd n σ) (h : regionW P G pol n k ops σ H mv K)
    {B : Nat → Prop} {L : Loc} {w : World} {a : Act} (hst : St B L w H) (he : ERel B L w (toEnv n σ) a.tmps) (hg : GOk G B w) {Q : Exit → Act → World → Prop} (hQ : ∀ e a' w', PostAt n k B L w H mv a.defers K e a' w' → Q e a' w') :
    (Code.region id ops true).wp P Q a w := by
  obtain ⟨bs, h⟩ := regionW_old h
  unfold regionB at h
  rw [spineK_eq, spineK_eq, spineK_eq] at h
  split at h
  case h_2 => exact h.elim
  rename_i hc
  simp only [Bool.and_eq_true] at hc
  obtain ⟨hback, hchain, hdst⟩ := hc
  have hok := tab_ok hback
  generalize htab : ancTab ops.toList [] = tab at h hchain hdst hok
  generalize hsi : (List.range ops.size).filter (isSimple P bs ops tab) = simples at h hdst
  generalize hch : (List.range ops.size).filter (fun i => !isSimple P bs ops tab i) = chain at h hchain hdst
  have hsimp : ∀ i, i ∈ simples → isSimple P bs ops tab i = true := fun i hi => by rw [← hsi] at hi; exact (List.mem_filter.1 hi).2
  have hnsimp : ∀ c ∈ chain, isSimple P bs ops tab c = false := fun c hc => by rw [← hch] at hc; simpa using (List.mem_filter.1 hc).2
  have hinv : DInv P ops tab simples chain simples := ⟨by rw [← hsi]; exact List.Pairwise.filter _ List.pairwise_lt_range, fun _ h => h, fun i hi hn => absurd hi hn, fun i hi hn => absurd hi hn⟩
  obtain ⟨ex, σ', H', mv', ⟨F2, heag, hidem, hcont⟩, hb', hK⟩ := drawW_spec hok hsimp hnsimp hdst chain false 0 simples hb (fun _ h => h) hinv (fun _ i hi hn => absurd hi hn) h
  refine wp_region_any hm ?_
  obtain ⟨g1, g2, g3, g4, g5⟩ := eagerP_spec _ heag
  have hrep : ∀ i, (Array.replicate ops.size false).getD i false = false := fun i => by
    simp only [Array.getD]
    split <;> simp
  have hstep : Step B w B w.drew := step_drew B w
  refine drawP_sound (k := k) (B0 := B) (L0 := L) (w0 := w) (H0 := H) (mv0 := mv) (d0 := a.defers) (ex := ex) (fr' := ⟨toEnv n σ', H', k, mv'⟩) htab.symm hsi.symm hch.symm hback (fun e a' w' hp => hQ e a' w' ⟨ex, σ', H', mv', hK, hb', hp⟩) ops.size _ _ _ _ F2 B L a w.drew ?_ (by simp) ?_ ?_ ?_ hchain ?_ ?_ hidem hcont (PI.start hrep) (by rw [g1]; exact hst.drew) ?_ (hg.step hstep) g2 (by rw [g1, g3]; exact FS.drew) rfl ?_
  · unfold unl
    exact Nat.le_trans (List.length_filter_le _ _) (by simp)
  · intro j o _ hl
    rw [hrep] at hl; cases hl
  · exact fun c hc => ⟨hc, hrep c⟩
  · exact fun c hc hn => (hn hc).elim
  · exact fun i hi => by simp at hi
  · exact fun i hi => hi
  · refine ⟨g4.trans he.1, fun x u y hu hnx hy => ?_⟩
    have : (toEnv n σ)[x]? = some u := by
      rw [← hu]
      symm
      refine g5 x ?_
      intro j hj hs
      exact hnx ⟨j, (List.mem_filter.1 hj).1, hrep j, hs⟩
    exact (he.2 x u y this hy).step hstep
  · rw [← hch]
    exact List.Pairwise.filter _ List.nodup_range
end
end Go.Am
end
