/-
The program's and the reference's reading of whole numbers agree.
-/
import Derived.Test.YtoinkmogdfjmmaaGreatDoorPG
import Derived.Lib.IndexAny
import Derived.Lib.ParseIntBCases
import Derived.Test.YtoinkmogdfjmmaaGreatDoorPE
import Derived.Test.YtoinkmogdfjmmaaGreatDoorPF
import Derived.Lib.SlTrimSet
import Derived.Lib.LastIndexByte

section
namespace Go.Am
open Go
def dotE : Str := [46, 101, 69]
def decIntL (s : Str) : Int × Bool := if numL s = false ∨ Lib.containsAny s dotE = true ∨ s = [45, 48] then (0, false) else match Lib.parseIntB 64 s with
  | .ok n => (n, true)
  | _ => (0, false)
theorem containsAny_iff (s c : Str) : Lib.containsAny s c = true ↔ ∃ b ∈ s, b ∈ c := by
  unfold Lib.containsAny
  rw [decide_eq_true_eq]
  induction s with
  | nil => simp [Lib.indexAny]
  | cons b s ih =>
    have hge := Lib.indexAny_ge c s
    have e : (0 ≤ Lib.indexAny (b :: s) c) ↔ (b ∈ c ∨ 0 ≤ Lib.indexAny s c) := by
      rw [Lib.indexAny]
      by_cases h : b ∈ c
      · simp [h]
      · have h' : c.contains b = false := by simpa using h
        rw [h', if_neg (by simp)]
        by_cases h2 : Lib.indexAny s c = -1
        · simp [h, h2]
        · have h3 : (Lib.indexAny s c == -1) = false := by simpa using h2
          rw [h3, if_neg (by simp)]
          simp only [h, false_or]
          omega
    rw [e, ih]
    simp
def valN : Str → Nat → Nat
  | [], a => a
  | b :: s, a => valN s (a * 10 + (b.toNat - 48))
theorem valN_ge : ∀ (s : Str) (a : Nat), a ≤ valN s a
  | [], a => Nat.le_refl _
  | b :: s, a => Nat.le_trans (by omega) (valN_ge s _)
theorem parseU_val {M : Nat} (hM : M = 2 ^ 64 - 1) : ∀ (s : Str) (a : Nat), (∀ b ∈ s, dig b = true) → a ≤ M → Lib.parseUintM M a s = if valN s a ≤ M then .ok (valN s a) else .range
  | [], a, _, h => by rw [Lib.parseUintM, valN, if_pos h]
  | b :: s, a, hd, h => by
    have hb := hd b (by simp)
    unfold dig at hb
    rw [decide_eq_true_eq] at hb
    have hge := valN_ge s (a * 10 + (b.toNat - 48))
    rw [Lib.parseUintM, valN, if_pos hb]
    subst hM
    split
    · rw [if_neg (by omega)]
    · split
      · rw [if_neg (by omega)]
      · exact parseU_val rfl s _ (fun x hx => hd x (by simp [hx])) (by omega)
theorem negL_val : ∀ (s : Str) (a : Nat), (∀ b ∈ s, dig b = true) → a ≤ 2 ^ 63 → negL s (-(a : Int)) = if valN s a ≤ 2 ^ 63 then some (-(valN s a : Int)) else none
  | [], a, _, h => by rw [negL, valN, if_pos h]
  | b :: s, a, hd, h => by
    have hb := hd b (by simp)
    unfold dig at hb
    rw [decide_eq_true_eq] at hb
    have hge := valN_ge s (a * 10 + (b.toNat - 48))
    rw [negL, valN]
    split
    · rw [if_neg (by omega)]
    · have e : 10 * (-(a : Int)) - ((b.toNat : Int) - 48) = -((a * 10 + (b.toNat - 48) : Nat) : Int) := by omega
      rw [e]
      exact negL_val s _ (fun x hx => hd x (by simp [hx])) (by omega)
def Whole (_s : Str) (x : Parts) (neg : Bool) (w r : Str) : Prop :=
  ((∃ b ∈ r, b ∈ dotE) ∧ (0 < x.2.2.1.length ∨ 0 < x.2.2.2.1.length)) ∨ (r = [] ∧ x = (neg, w, [], [], true))
theorem partsD_whole (neg : Bool) (w f s : Str) (h : (partsD neg w f s).2.2.2.2 = true) : (s = [] ∧ partsD neg w f s = (neg, w, f, [], true)) ∨ ((∃ b ∈ s, b ∈ dotE) ∧ 0 < (partsD neg w f s).2.2.2.1.length ∧ (partsD neg w f s).2.2.1 = f) := by
  unfold partsD at h ⊢
  split
  · rename_i h0
    exact .inl ⟨List.eq_nil_of_length_eq_zero h0, rfl⟩
  · rename_i h0
    rw [if_neg h0] at h
    cases s with
    | nil => simp at h0
    | cons c s =>
      split
      · rename_i h1; rw [if_pos h1] at h; cases h
      · rename_i h1
        rw [if_neg h1] at h
        have hc : c ∈ dotE := by
          simp only [b0, List.getD_cons_zero] at h1
          have h1 : c.toNat = 101 ∨ c.toNat = 69 := by omega
          have hu : ∀ n : UInt8, c.toNat = n.toNat → c = n := fun n h => UInt8.toNat_inj.1 h
          rcases h1 with h1 | h1
          · rw [hu 101 h1]; decide
          · rw [hu 69 h1]; decide
        refine .inr ⟨⟨c, by simp, hc⟩, ?_⟩
        have key : ∀ p d : Str, d.length ≤ p.length → (partsE neg w f p d).2.2.2.2 = true → 0 < (partsE neg w f p d).2.2.2.1.length ∧ (partsE neg w f p d).2.2.1 = f := by
          intro p d hpd hh
          unfold partsE at hh ⊢
          split
          · rename_i h2; rw [if_pos h2] at hh; cases hh
          · rename_i h2; refine ⟨?_, rfl⟩; simp only []; omega
        split
        · rename_i h2
          rw [if_pos h2] at h
          exact key _ _ (by rw [List.length_drop (i := 1)]; omega) h
        · rename_i h2
          rw [if_neg h2] at h
          exact key _ _ (Nat.le_refl _) h
theorem partsC_whole (neg : Bool) (w s : Str) (h : (partsC neg w s).2.2.2.2 = true) : Whole s (partsC neg w s) neg w s := by
  unfold partsC at h ⊢
  unfold Whole
  split
  · rename_i h1
    rw [if_pos h1] at h
    split
    · rename_i h2; rw [if_pos h2] at h; cases h
    · rename_i h2
      rw [if_neg h2] at h
      have hdot : ∃ b ∈ s, b ∈ dotE := by
        cases s with
        | nil => simp at h1
        | cons c s =>
          refine ⟨c, by simp, ?_⟩
          have h3 : c.toNat = 46 := by simpa [b0] using h1.2
          rw [show c = 46 from UInt8.toNat_inj.1 h3]; decide
      refine .inl ⟨hdot, .inl ?_⟩
      have hl : 0 < ((s.drop 1).take (runL (s.drop 1))).length := by rw [take_run]; omega
      rcases partsD_whole _ _ _ _ h with ⟨_, h4⟩ | ⟨_, _, h4⟩
      · rw [h4]; exact hl
      · rw [h4]; exact hl
  · rename_i h1
    rw [if_neg h1] at h
    rcases partsD_whole _ _ _ _ h with ⟨h3, h4⟩ | ⟨h3, h4, _⟩
    · exact .inr ⟨h3, h4⟩
    · exact .inl ⟨h3, .inr h4⟩
theorem partsB_whole (neg : Bool) (s : Str) (h : (partsB neg s).2.2.2.2 = true) : ((∃ b ∈ s, b ∈ dotE) ∧ (0 < (partsB neg s).2.2.1.length ∨ 0 < (partsB neg s).2.2.2.1.length)) ∨ (partsB neg s = (neg, s, [], [], true) ∧ s ≠ [] ∧ ∀ b ∈ s, dig b = true) := by
  unfold partsB at h ⊢
  split
  · rename_i h1; rw [if_pos h1] at h; cases h
  · rename_i h1
    rw [if_neg h1] at h
    rcases partsC_whole _ _ _ h with ⟨⟨b, hb, hb2⟩, h2⟩ | ⟨h2, h3⟩
    · exact .inl ⟨⟨b, List.mem_of_mem_drop hb, hb2⟩, h2⟩
    · have hle : s.length ≤ runL s := by
        have := congrArg List.length h2
        rw [List.length_drop] at this
        simp only [List.length_nil] at this
        omega
      have ht : s.take (runL s) = s := List.take_of_length_le hle
      refine .inr ⟨by rw [h3, ht], ?_, fun b hb => take_dig s b (by rw [ht]; exact hb)⟩
      rintro rfl
      simp [runL] at h1
theorem dig_dotE {b : UInt8} (h : dig b = true) : ¬ b ∈ dotE := by
  unfold dig at h
  rw [decide_eq_true_eq] at h
  intro hm
  simp only [dotE, List.mem_cons, List.mem_nil_iff, or_false] at hm
  rcases hm with rfl | rfl | rfl <;> revert h <;> decide
theorem decIntL_eq (s : Str) : decIntL s = refIntL s := by
  unfold decIntL refIntL
  by_cases h0 : numL s = false ∨ s = [45, 48]
  · rw [if_pos (by rcases h0 with h | h <;> simp [h]), if_pos h0]
  · rw [if_neg h0]
    have hnum : numL s = true := by simpa using (not_or.1 h0).1
    have hs := (not_or.1 h0).2
    have hok : (numParts s).2.2.2.2 = true := by
      rw [numL_eq] at hnum
      unfold okP at hnum
      simp only [Bool.and_eq_true] at hnum
      exact hnum.1.1
    have big : ∀ w : Str, w ≠ [] → (∀ b ∈ w, dig b = true) → Lib.parseUintB 64 w = if valN w 0 ≤ 2 ^ 64 - 1 then .ok (valN w 0) else .range := by
      intro w hne hd
      unfold Lib.parseUintB
      rw [if_neg hne]
      exact parseU_val rfl w 0 hd (by omega)
    by_cases hc : Lib.containsAny s dotE = true
    · rw [if_pos (Or.inr (Or.inl hc))]
      have hex := (containsAny_iff s dotE).1 hc
      have hgo : 0 < (numParts s).2.2.1.length ∨ 0 < (numParts s).2.2.2.1.length := by
        unfold numParts at hok ⊢
        split
        · rename_i h1
          rw [if_pos h1] at hok
          rcases partsB_whole _ _ hok with h2 | ⟨_, _, h2⟩
          · exact h2.2
          · exfalso
            obtain ⟨b, hb, hb2⟩ := hex
            cases s with
            | nil => simp at hb
            | cons c s =>
              rcases List.mem_cons.1 hb with rfl | hb
              · have h3 : b.toNat = 45 := by simpa [b0] using h1.2
                rw [show b = 45 from UInt8.toNat_inj.1 h3] at hb2
                revert hb2; decide
              · exact dig_dotE (h2 b (by simpa using hb)) hb2
        · rename_i h1
          rw [if_neg h1] at hok
          rcases partsB_whole _ _ hok with h2 | ⟨_, _, h2⟩
          · exact h2.2
          · exfalso
            obtain ⟨b, hb, hb2⟩ := hex
            exact dig_dotE (h2 b hb) hb2
      rw [if_pos hgo]
    · rw [if_neg (by simp [hnum, hc, hs])]
      have hnc : ∀ b ∈ s, ¬ b ∈ dotE := fun b hb hb2 => hc ((containsAny_iff s dotE).2 ⟨b, hb, hb2⟩)
      unfold numParts at hok ⊢
      by_cases h1 : 0 < s.length ∧ b0 s = 45
      · rw [if_pos h1] at hok ⊢
        cases s with
        | nil => simp at h1
        | cons c s =>
          have h3 : c = 45 := UInt8.toNat_inj.1 (by simpa [b0] using h1.2)
          subst h3
          rw [show (45 :: s : Str).drop 1 = s from rfl] at hok ⊢
          rcases partsB_whole _ _ hok with ⟨⟨b, hb, hb2⟩, _⟩ | ⟨h2, hne, hd⟩
          · exact absurd hb2 (hnc b (by simp [hb]))
          · rw [h2]
            simp only [List.length_nil, Nat.lt_irrefl, or_self, if_false]
            have hneg := negL_val s 0 hd (by omega)
            rw [show (-((0 : Nat) : Int)) = 0 by omega] at hneg
            rw [hneg, Lib.parseIntB_minus, big s hne hd]
            by_cases hv : valN s 0 ≤ 2 ^ 63
            · rw [if_pos (show valN s 0 ≤ 2 ^ 64 - 1 by omega), if_pos hv]
              simp only [Lib.signedC]
              rw [if_neg (by omega)]
              simp
            · rw [if_neg hv]
              by_cases hw : valN s 0 ≤ 2 ^ 64 - 1
              · rw [if_pos hw]
                simp only [Lib.signedC]
                rw [if_pos (by omega)]
              · rw [if_neg hw]
                rfl
      · rw [if_neg h1] at hok ⊢
        rcases partsB_whole _ _ hok with ⟨⟨b, hb, hb2⟩, _⟩ | ⟨h2, hne, hd⟩
        · exact absurd hb2 (hnc b hb)
        · rw [h2]
          simp only [List.length_nil, Nat.lt_irrefl, or_self, if_false]
          have hneg := negL_val s 0 hd (by omega)
          rw [show (-((0 : Nat) : Int)) = 0 by omega] at hneg
          have hpb : Lib.parseIntB 64 s = Lib.signlessC (2 ^ 63) (Lib.parseUintB 64 s) := by
            cases s with
            | nil => exact absurd rfl hne
            | cons c s =>
              have hdc := hd c (by simp)
              unfold dig at hdc
              rw [decide_eq_true_eq] at hdc
              exact Lib.parseIntB_plain 64 c s (by omega) (by omega)
          rw [hneg, hpb, big s hne hd]
          by_cases hv : valN s 0 ≤ 2 ^ 63
          · rw [if_pos (show valN s 0 ≤ 2 ^ 64 - 1 by omega), if_pos hv]
            simp only [Lib.signlessC]
            by_cases hv2 : valN s 0 = 2 ^ 63
            · rw [if_pos (by omega)]
              simp [hv2]
            · rw [if_neg (by omega)]
              simp only []
              rw [if_neg (by simp), if_neg (by omega), Int.neg_neg]
          · rw [if_neg hv]
            by_cases hw : valN s 0 ≤ 2 ^ 64 - 1
            · rw [if_pos hw]
              simp only [Lib.signlessC]
              rw [if_pos (by omega)]
            · rw [if_neg hw]
              rfl
def Asc (s : Str) : Prop := ∀ b ∈ s, b.toNat < 128
theorem asc_dig {s : Str} (h : ∀ b ∈ s, dig b = true) : Asc s := fun b hb => by
  have := h b hb
  unfold dig at this
  rw [decide_eq_true_eq] at this
  omega
theorem asc_run {s : Str} (h : Asc (s.drop (runL s))) : Asc s := by
  intro b hb
  rw [← List.take_append_drop (runL s) s] at hb
  rcases List.mem_append.1 hb with hb | hb
  · exact asc_dig (take_dig s) b hb
  · exact h b hb
theorem asc_cons {s : Str} (h1 : b0 s < 128) (h : Asc (s.drop 1)) : Asc s := by
  cases s with
  | nil => intro b hb; cases hb
  | cons c s =>
    intro b hb
    rcases List.mem_cons.1 hb with rfl | hb
    · simpa [b0] using h1
    · exact h b (by simpa using hb)
theorem asc_E {neg : Bool} {w f p d : Str} (h : (partsE neg w f p d).2.2.2.2 = true) : Asc d := by
  unfold partsE at h
  split at h
  · cases h
  · rename_i hc
    exact asc_dig (runL_dig (by omega))
theorem asc_D {neg : Bool} {w f s : Str} (h : (partsD neg w f s).2.2.2.2 = true) : Asc s := by
  unfold partsD at h
  split at h
  · rename_i h0
    obtain rfl := List.eq_nil_of_length_eq_zero h0
    intro b hb; cases hb
  · split at h
    · cases h
    · rename_i h1
      refine asc_cons (by omega) ?_
      split at h
      · rename_i h2
        exact asc_cons (by omega) (asc_E h)
      · exact asc_E h
theorem asc_C {neg : Bool} {w s : Str} (h : (partsC neg w s).2.2.2.2 = true) : Asc s := by
  unfold partsC at h
  split at h
  · rename_i h0
    split at h
    · cases h
    · exact asc_cons (by omega) (asc_run (asc_D h))
  · exact asc_D h
theorem asc_B {neg : Bool} {s : Str} (h : (partsB neg s).2.2.2.2 = true) : Asc s := by
  unfold partsB at h
  split at h
  · cases h
  · exact asc_run (asc_C h)
theorem numL_asc {s : Str} (h : numL s = true) : s.length ≤ 400 ∧ Asc s := by
  rw [numL_eq] at h
  unfold okP at h
  simp only [Bool.and_eq_true, decide_eq_true_eq] at h
  refine ⟨h.2, ?_⟩
  have h := h.1.1
  unfold numParts at h
  split at h
  · exact asc_cons (by omega) (asc_B h)
  · exact asc_B h
end Go.Am
end

section
namespace Go.Proofs.YtoinkmogdfjmmaaGreatDoor
open Go Go.Am Go.RowKit
set_option maxRecDepth 100000
def intEndP (T : Nat) (sat : Int) : Lib.NumEnd Int → PV
  | .ok n => .tup [.int .i64 n, .nili]
  | .range => .tup [.int .i64 sat, .iface T .anyp]
  | _ => .tup [.int .i64 0, .iface T .anyp]
theorem err_cell {B : Nat → Prop} {w : World} (hg : GOk GG B w) (g : Nat) (h : GG g = some (.iface T.ptr_errors_errorString .anyp)) : ∃ ev, w.cell? ⟨g, 0, none⟩ = some ev ∧ (ev = .nilIface ∨ ∃ te pe, ev = .iface te pe) := by
  obtain ⟨h1, _⟩ := hg g _ h
  cases h1 with
  | cptr d b o u hb hw hf hc hr =>
    refine ⟨u 0, hc 0 (by simp [PV.cells]), .inr ?_⟩
    have := hr 0 _ rfl
    generalize u 0 = x at this
    cases this
    exact ⟨_, _, rfl⟩
theorem strconv_ParseInt (s : Str) (hs : s.length ≤ 1073741824) (H : Heap) :
    AbsCall PP GG F.strconv_ParseInt [.p (.str s), .p (.int .i64 10), .p (.int .i64 64)] H ⟨.ret (.p (intEndP T.ptr_strconv_NumError (Lib.intSat 64 s) (Lib.parseIntB 64 s))), H, []⟩ := by
  refine absBelow fun B L w vs _ ha hg => ?_
  obtain ⟨v, u, t, rfl, hv, hu, ht⟩ := vrel3 ha
  obtain rfl := vstr hv
  obtain rfl := vint hu
  obtain rfl := vint ht
  cases hp : Lib.parseIntB 64 s with
  | ok n =>
    refine CallTo.of_calls Tryz.func94 (by kernel_rfl) rfl ((Tryz.strconv_ParseInt_10_at64_ok ⟨s.toArray⟩ (by simp [ByteArray.size]; omega) n (by simpa using hp) w).mono ?_)
    rintro e w' ⟨rfl, hb⟩
    refine ⟨?_, _, rfl, .p _ _ (.tup _ [.int .i64 n, .nilIface] rfl fun i x y hx hy => ?_)⟩
    rcases hb with rfl | ⟨t, rfl⟩
    · exact Below.refl _ _
    · exact Lib.bytesWorld_below _ _ _
    · rcases i with _ | _ | i
      · cases hx; cases hy; exact .int _ _
      · cases hx; cases hy; exact .nili
      · simp at hx
  | range =>
    obtain ⟨ev, h1, h2⟩ := err_cell hg Gl.strconv_ErrRange rfl
    refine CallTo.of_calls Tryz.func94 (by kernel_rfl) rfl ((Tryz.strconv_ParseInt_10_at64_range ⟨s.toArray⟩ (by simp [ByteArray.size]; omega) (by simpa using hp) ev w h1 h2).mono ?_)
    rintro e w' ⟨N, rfl, _, _, hb⟩
    refine ⟨hb, _, rfl, .p _ _ (.tup _ [.int .i64 (Lib.intSat 64 s), .iface T.ptr_strconv_NumError (.pointer (some ⟨N, 0, none⟩))] rfl fun i x y hx hy => ?_)⟩
    rcases i with _ | _ | i
    · cases hx; cases hy; exact .int _ _
    · cases hx; cases hy; exact .iface _ _ _ (.anyp _)
    · simp at hx
  | _ =>
    obtain ⟨ev, h1, h2⟩ := err_cell hg Gl.strconv_ErrSyntax rfl
    refine CallTo.of_calls Tryz.func94 (by kernel_rfl) rfl ((Tryz.strconv_ParseInt_10_at64_other ⟨s.toArray⟩ (by simp [ByteArray.size]; omega) (by constructor <;> simp [hp]) ev w h1 h2).mono ?_)
    rintro e w' ⟨N, rfl, _, _, hb⟩
    refine ⟨hb, _, rfl, .p _ _ (.tup _ [.int .i64 0, .iface T.ptr_strconv_NumError (.pointer (some ⟨N, 0, none⟩))] rfl fun i x y hx hy => ?_)⟩
    rcases i with _ | _ | i
    · cases hx; cases hy; exact .int _ _
    · cases hx; cases hy; exact .iface _ _ _ (.anyp _)
    · simp at hx
theorem num_ascii (s : Str) (h : numL s = true) : s.length ≤ 400 ∧ ∀ (j : Nat) (b : UInt8), s[j]? = some b → b.toNat < 128 := ⟨(numL_asc h).1, fun _ b hb => (numL_asc h).2 b (List.mem_of_getElem? hb)⟩
theorem dec_Int (s : Str) (hs : s.length ≤ 1073741824) : AbsCall PP GG F.dec_Int [.p (.str s)] [] ⟨.ret (.tup [.p (.int .i64 (refIntL s).1), .p (.bool (refIntL s).2)]), [], []⟩ := by
  have hg := dec_Good s hs
  rw [decParse_ok] at hg
  rw [← decIntL_eq]
  have hP := strconv_ParseInt s hs []
  unfold decIntL
  cases hn : numL s with
  | false =>
    rw [hn] at hg
    rw [if_pos (Or.inl rfl)]
    refine absCall_of (pol := polG) mixP F.dec_Int_is ?_
    conv => whnf
    repeat' ((first
     | ((with_reducible first | refine Br.dec ?_ ?_ | refine Br.ndec ?_ ?_) <;> intro hb <;> (try simp only [ZZ] at hb) <;> (first | omega | contradiction | skip))
     | (with_reducible first | refine Br.tt rfl ?_ | refine Br.ff rfl ?_ | refine Br.ff (isEmptyCons _ _) ?_)
     | ((with_reducible first | refine Side.mk ?_ ?_ | refine WrapW.mk ?_ ?_); focus (first | omega | (dsimp only [InR, Int.reduceToNat, IntKind.bits, Int.reducePow]; omega) | (simp [CC]; done) | (constructor <;> omega)))
     | with_reducible refine Br.not ?_
     | (with_reducible first | refine Br.tt (by assumption) ?_ | refine Br.ff (by assumption) ?_)
     | (refine Br.mk ?_ ?_ <;> intro hb <;> (try simp only [ZZ] at hb) <;> (first | omega | contradiction | skip))
     | refine Src.whole ⟨rfl, rfl⟩ ?_ | refine FrzV.whole ?_
     | refine CallW.use (hg) ?_) <;> conv => whnf)
    exact CLe.eq rfl
  | true =>
    rw [hn] at hg
    obtain ⟨hl, hasc⟩ := num_ascii s hn
    have hC := strings_ContainsAny s dotE (by omega) (by decide) hasc (by intro j b hb; have := List.mem_of_getElem? hb; revert this; unfold dotE; simp only [List.mem_cons, List.mem_nil_iff, or_false]; rintro (rfl | rfl | rfl) <;> decide) []
    cases hc : Lib.containsAny s dotE with
    | true =>
      rw [hc] at hC
      rw [if_pos (Or.inr (Or.inl rfl))]
      refine absCall_of (pol := polG) mixP F.dec_Int_is ?_
      conv => whnf
      repeat' ((first
       | ((with_reducible first | refine Br.dec ?_ ?_ | refine Br.ndec ?_ ?_) <;> intro hb <;> (try simp only [ZZ] at hb) <;> (first | omega | contradiction | skip))
       | (with_reducible first | refine Br.tt rfl ?_ | refine Br.ff rfl ?_ | refine Br.ff (isEmptyCons _ _) ?_)
       | ((with_reducible first | refine Side.mk ?_ ?_ | refine WrapW.mk ?_ ?_); focus (first | omega | (dsimp only [InR, Int.reduceToNat, IntKind.bits, Int.reducePow]; omega) | (simp [CC]; done) | (constructor <;> omega)))
       | with_reducible refine Br.not ?_
       | (with_reducible first | refine Br.tt (by assumption) ?_ | refine Br.ff (by assumption) ?_)
       | (refine Br.mk ?_ ?_ <;> intro hb <;> (try simp only [ZZ] at hb) <;> (first | omega | contradiction | skip))
       | refine Src.whole ⟨rfl, rfl⟩ ?_ | refine FrzV.whole ?_
       | refine CallW.use (hg) ?_
       | refine CallW.use (hC) ?_) <;> conv => whnf)
      exact CLe.eq rfl
    | false =>
      rw [hc] at hC
      by_cases h0 : s = [45, 48]
      · rw [if_pos (Or.inr (Or.inr h0))]
        refine absCall_of (pol := polG) mixP F.dec_Int_is ?_
        conv => whnf
        repeat' ((first
         | ((with_reducible first | refine Br.dec ?_ ?_ | refine Br.ndec ?_ ?_) <;> intro hb <;> (try simp only [ZZ] at hb) <;> (first | omega | contradiction | skip))
         | (with_reducible first | refine Br.tt rfl ?_ | refine Br.ff rfl ?_ | refine Br.ff (isEmptyCons _ _) ?_)
         | ((with_reducible first | refine Side.mk ?_ ?_ | refine WrapW.mk ?_ ?_); focus (first | omega | (dsimp only [InR, Int.reduceToNat, IntKind.bits, Int.reducePow]; omega) | (simp [CC]; done) | (constructor <;> omega)))
         | with_reducible refine Br.not ?_
         | (with_reducible first | refine Br.tt (by assumption) ?_ | refine Br.ff (by assumption) ?_)
         | (refine Br.mk ?_ ?_ <;> intro hb <;> (try simp only [ZZ] at hb) <;> (first | omega | contradiction | skip))
         | refine Src.whole ⟨rfl, rfl⟩ ?_ | refine FrzV.whole ?_
         | refine CallW.use (hg) ?_
         | refine CallW.use (hC) ?_) <;> conv => whnf)
        exact CLe.eq rfl
      · rw [if_neg (by simp [h0])]
        cases hp : Lib.parseIntB 64 s with
        | ok n =>
          rw [hp] at hP
          refine absCall_of (pol := polG) mixP F.dec_Int_is ?_
          conv => whnf
          repeat' ((first
           | ((with_reducible first | refine Br.dec ?_ ?_ | refine Br.ndec ?_ ?_) <;> intro hb <;> (try simp only [ZZ] at hb) <;> (first | omega | contradiction | skip))
           | (with_reducible first | refine Br.tt rfl ?_ | refine Br.ff rfl ?_ | refine Br.ff (isEmptyCons _ _) ?_)
           | ((with_reducible first | refine Side.mk ?_ ?_ | refine WrapW.mk ?_ ?_); focus (first | omega | (dsimp only [InR, Int.reduceToNat, IntKind.bits, Int.reducePow]; omega) | (simp [CC]; done) | (constructor <;> omega)))
           | with_reducible refine Br.not ?_
           | (with_reducible first | refine Br.tt (by assumption) ?_ | refine Br.ff (by assumption) ?_)
           | (refine Br.mk ?_ ?_ <;> intro hb <;> (try simp only [ZZ] at hb) <;> (first | omega | contradiction | skip))
           | refine Src.whole ⟨rfl, rfl⟩ ?_ | refine FrzV.whole ?_
           | refine CallW.use (hg) ?_
           | refine CallW.use (hC) ?_
           | refine CallW.use (hP) ?_) <;> conv => whnf)
          exact CLe.eq rfl
        | range =>
          rw [hp] at hP
          refine absCall_of (pol := polG) mixP F.dec_Int_is ?_
          conv => whnf
          repeat' ((first
           | ((with_reducible first | refine Br.dec ?_ ?_ | refine Br.ndec ?_ ?_) <;> intro hb <;> (try simp only [ZZ] at hb) <;> (first | omega | contradiction | skip))
           | (with_reducible first | refine Br.tt rfl ?_ | refine Br.ff rfl ?_ | refine Br.ff (isEmptyCons _ _) ?_)
           | ((with_reducible first | refine Side.mk ?_ ?_ | refine WrapW.mk ?_ ?_); focus (first | omega | (dsimp only [InR, Int.reduceToNat, IntKind.bits, Int.reducePow]; omega) | (simp [CC]; done) | (constructor <;> omega)))
           | with_reducible refine Br.not ?_
           | (with_reducible first | refine Br.tt (by assumption) ?_ | refine Br.ff (by assumption) ?_)
           | (refine Br.mk ?_ ?_ <;> intro hb <;> (try simp only [ZZ] at hb) <;> (first | omega | contradiction | skip))
           | refine Src.whole ⟨rfl, rfl⟩ ?_ | refine FrzV.whole ?_
           | refine CallW.use (hg) ?_
           | refine CallW.use (hC) ?_
           | refine CallW.use (hP) ?_) <;> conv => whnf)
          exact CLe.eq rfl
        | _ =>
          rw [hp] at hP
          refine absCall_of (pol := polG) mixP F.dec_Int_is ?_
          conv => whnf
          repeat' ((first
           | ((with_reducible first | refine Br.dec ?_ ?_ | refine Br.ndec ?_ ?_) <;> intro hb <;> (try simp only [ZZ] at hb) <;> (first | omega | contradiction | skip))
           | (with_reducible first | refine Br.tt rfl ?_ | refine Br.ff rfl ?_ | refine Br.ff (isEmptyCons _ _) ?_)
           | ((with_reducible first | refine Side.mk ?_ ?_ | refine WrapW.mk ?_ ?_); focus (first | omega | (dsimp only [InR, Int.reduceToNat, IntKind.bits, Int.reducePow]; omega) | (simp [CC]; done) | (constructor <;> omega)))
           | with_reducible refine Br.not ?_
           | (with_reducible first | refine Br.tt (by assumption) ?_ | refine Br.ff (by assumption) ?_)
           | (refine Br.mk ?_ ?_ <;> intro hb <;> (try simp only [ZZ] at hb) <;> (first | omega | contradiction | skip))
           | refine Src.whole ⟨rfl, rfl⟩ ?_ | refine FrzV.whole ?_
           | refine CallW.use (hg) ?_
           | refine CallW.use (hC) ?_
           | refine CallW.use (hP) ?_) <;> conv => whnf)
          exact CLe.eq rfl
end Go.Proofs.YtoinkmogdfjmmaaGreatDoor
end

section
namespace Go.Am
open Go
def clampL (s : Str) (at_ : Int) : Int := min (max at_ 0) s.length
theorem clampL_le (s : Str) (a : Int) : 0 ≤ clampL s a ∧ clampL s a ≤ s.length := by
  unfold clampL; omega
def stepI (s : Str) : Int := max (utfTake s).2 1
def countL : Nat → Str → Int
  | 0, _ => 0
  | q + 1, s => if s = [] then 0 else countL q (s.drop (stepI s).toNat) + 1
def utfCount (s : Str) : Int := countL s.length s
theorem stepI_le (s : Str) (h : s ≠ []) : 1 ≤ stepI s ∧ stepI s ≤ 4 ∧ stepI s ≤ s.length := by
  have := utfTake_n s
  have h1 : 0 < s.length := List.length_pos_iff.2 h
  unfold stepI
  omega
theorem countL_le : ∀ (q : Nat) (s : Str), s.length ≤ q → 0 ≤ countL q s ∧ countL q s ≤ s.length := by
  intro q
  induction q with
  | zero => intro s _; rw [countL]; omega
  | succ q ih =>
    intro s hs
    rw [countL]
    split
    · omega
    · rename_i h
      have h1 := stepI_le s h
      have := ih (s.drop (stepI s).toNat) (by rw [List.length_drop]; omega)
      rw [List.length_drop] at this
      omega
def aheadL (s : Str) (a : Int) : Str := s.take (clampL s a).toNat
def beginL (s : Str) (a : Int) : Int := Lib.lastIndexByte ⟨(aheadL s a).toArray⟩ 10 + 1
def placeL (s : Str) (a : Int) : Int × Int := ((Lib.countByte (aheadL s a) 10 : Int) + 1, utfCount ((aheadL s a).drop (beginL s a).toNat) + 1)
def whileL (s c : Str) : Nat := (s.takeWhile (c.contains ·)).length
theorem whileL_le (s c : Str) : whileL s c ≤ s.length := List.takeWhile_sublist _ |>.length_le
theorem while_eq (s c : Str) : (s.length : Int) - ((Lib.trimLeftS s c).length : Int) = whileL s c := by
  unfold whileL Lib.trimLeftS
  have := congrArg List.length (List.takeWhile_append_dropWhile (p := (c.contains ·)) (l := s))
  rw [List.length_append] at this
  omega
theorem trim_eq (s c : Str) : Lib.trimLeftS s c = s.drop (whileL s c) := by
  unfold whileL Lib.trimLeftS
  induction s with
  | nil => rfl
  | cons b s ih =>
    rw [List.dropWhile_cons, List.takeWhile_cons]
    split
    · rw [List.length_cons, List.drop_succ_cons, ih]
    · rfl
end Go.Am
namespace Go.Am
def e2 : Str := [101, 69]
def d10 : Str := [48, 49, 50, 51, 52, 53, 54, 55, 56, 57]
def behindE (s : Str) : Str := (s.drop (Lib.indexAny s e2 + 1).toNat).drop (whileL (s.drop (Lib.indexAny s e2 + 1).toNat) d10)
def greatL (s : Str) : Bool :=
  if Lib.indexAny s e2 < 0 then false else
  if behindE s = s.drop (Lib.indexAny s e2 + 1).toNat ∧ 0 < ((behindE s).length : Int) ∧ ((((behindE s).getD 0 0).toNat : Int) = 43 ∨ (((behindE s).getD 0 0).toNat : Int) = 45) then
    decide (((behindE s).drop 1).length ≠ 0 ∧ whileL ((behindE s).drop 1) d10 = ((behindE s).drop 1).length) && numL (s.take (Lib.indexAny s e2).toNat)
  else decide ((behindE s).length = 0 ∧ Lib.indexAny s e2 + 1 < s.length) && numL (s.take (Lib.indexAny s e2).toNat)
def jnumL (s : Str) : Int := if 400 < s.length then 2 else if numL s = true then 0 else if greatL s = true then 6 else 4
theorem indexAny_lt (s c : Str) : Lib.indexAny s c < s.length ∨ Lib.indexAny s c = -1 := by
  induction s with
  | nil => right; rfl
  | cons b s ih =>
    rw [Lib.indexAny]
    split
    · left; simp only [List.length_cons]; omega
    · split
      · right; rfl
      · rename_i h
        simp only [beq_iff_eq] at h
        left
        simp only [List.length_cons]
        omega
end Go.Am
end

section
namespace Go.Proofs.YtoinkmogdfjmmaaGreatDoor
open Go Go.Am Go.RowKit
set_option maxRecDepth 100000
theorem strings_LastIndexByte (s : Str) (c : Int) (hs : s.length ≤ 1073741824) (H : Heap) :
    AbsCall PP GG F.strings_LastIndexByte [.p (.str s), .p (.int .u8 c)] H ⟨.ret (.p (.int .i64 (Lib.lastIndexByte ⟨s.toArray⟩ c))), H, []⟩ := by
  refine absBelow fun B L w vs _ ha hg => ?_
  obtain ⟨v, u, rfl, hv, hu⟩ := vrel2 ha
  obtain rfl := vstr hv
  obtain rfl := vint hu
  refine CallTo.of_calls Tryz.func90 (by kernel_rfl) rfl ((Tryz.strings_LastIndexByte ⟨s.toArray⟩ c (by simp [ByteArray.size]; omega) w).mono ?_)
  rintro e w' ⟨rfl, rfl⟩
  exact ⟨Below.refl _ _, _, rfl, .p _ _ (.int _ _)⟩
theorem strings_Count (s : Str) (c : UInt8) (H : Heap) :
    AbsCall PP GG F.strings_Count [.p (.str s), .p (.str [c])] H ⟨.ret (.p (.int .i64 (Lib.countByte s c))), H, []⟩ := by
  refine absBelow fun B L w vs _ ha hg => ?_
  obtain ⟨v, u, rfl, hv, hu⟩ := vrel2 ha
  obtain rfl := vstr hv
  obtain rfl := vstr hu
  refine CallTo.of_calls Tryz.func91 (by kernel_rfl) rfl ((Tryz.strings_Count_one ⟨s.toArray⟩ c w).mono ?_)
  rintro e w' ⟨rfl, rfl⟩
  exact ⟨Below.refl _ _, _, rfl, by simpa using VRel.p _ _ (.int _ _)⟩
theorem strings_IndexAny (s c : List UInt8) (hs : s.length < 4294967281) (hc : c.length < 4294967281) (h1 : ∀ (j : Nat) (b : UInt8), s[j]? = some b → b.toNat < 128) (h2 : ∀ (j : Nat) (b : UInt8), c[j]? = some b → b.toNat < 128) (H : Heap) :
    AbsCall PP GG F.strings_IndexAny [.p (.str s), .p (.str c)] H ⟨.ret (.p (.int .i64 (Lib.indexAny s c))), H, []⟩ := by
  refine absBelow fun B L w vs _ ha hg => ?_
  obtain ⟨v, u, rfl, hv, hu⟩ := vrel2 ha
  obtain rfl := vstr hv
  obtain rfl := vstr hu
  refine CallTo.of_calls Tryz.func118 (by kernel_rfl) rfl ((Tryz.strings_IndexAny_laid ⟨s.toArray⟩ ⟨c.toArray⟩ w (by simpa [ByteArray.size] using hs) (by simpa [ByteArray.size] using hc) (by simpa using h1) (by simpa using h2)).mono ?_)
  rintro e w' ⟨rfl, hb⟩
  exact ⟨hb, _, rfl, by simpa using VRel.p _ _ (.int _ _)⟩
theorem strings_TrimSet (s c : List UInt8) (hc : c.length < 4294967281) (h2 : ∀ (j : Nat) (b : UInt8), c[j]? = some b → b.toNat < 128) (H : Heap) :
    AbsCall PP GG F.strings_TrimLeft [.p (.str s), .p (.str c)] H ⟨.ret (.p (.str (Lib.trimLeftS s c))), H, []⟩ := by
  refine absBelow fun B L w vs _ ha hg => ?_
  obtain ⟨v, u, rfl, hv, hu⟩ := vrel2 ha
  obtain rfl := vstr hv
  obtain rfl := vstr hu
  refine CallTo.of_calls Tryz.func59 (by kernel_rfl) rfl ((Tryz.strings_TrimLeft_laid ⟨s.toArray⟩ ⟨c.toArray⟩ w (by simpa [ByteArray.size] using hc) (by simpa using h2)).mono ?_)
  rintro e w' ⟨rfl, hb⟩
  exact ⟨hb, _, rfl, by simpa using VRel.p _ _ (.str _)⟩
theorem place_clamp (s : Str) (a : Int) (ha : -1073741824 ≤ a ∧ a ≤ 1073741824) (hs : s.length ≤ 1073741824) : AbsCall PP GG F.place_clamp [.p (.str s), .p (.int .i64 a)] [] ⟨.ret (.p (.int .i64 (clampL s a))), [], []⟩ := by
  refine absCall_of (pol := polG) mixP F.place_clamp_is ?_
  conv => whnf
  repeat' ((first
   | ((with_reducible first | refine Br.dec ?_ ?_ | refine Br.ndec ?_ ?_) <;> intro hb <;> (try simp only [ZZ] at hb) <;> (first | omega | contradiction | skip))
   | (with_reducible first | refine Br.tt rfl ?_ | refine Br.ff rfl ?_ | refine Br.ff (isEmptyCons _ _) ?_)
   | ((with_reducible first | refine Side.mk ?_ ?_ | refine WrapW.mk ?_ ?_); focus (first | omega | (dsimp only [InR, Int.reduceToNat, IntKind.bits, Int.reducePow]; omega) | (simp [CC]; done) | (constructor <;> omega)))
   | with_reducible refine Br.not ?_
   | (with_reducible first | refine Br.tt (by assumption) ?_ | refine Br.ff (by assumption) ?_)
   | (refine Br.mk ?_ ?_ <;> intro hb <;> (try simp only [ZZ] at hb) <;> (first | omega | contradiction | skip))
   | refine Src.whole ⟨rfl, rfl⟩ ?_ | refine FrzV.whole ?_) <;> conv => whnf)
  all_goals exact CLe.retP (by unfold clampL; congr 1; omega)
theorem utf_step (s : Str) (hs : s.length ≤ 1073741824) : AbsCall PP GG F.utf_step [.p (.str s)] [] ⟨.ret (.p (.int .i64 (stepI s))), [], []⟩ := by
  have hn := utfTake_n s
  refine absCall_of (pol := polG) mixP F.utf_step_is ?_
  conv => whnf
  repeat' ((first
   | ((with_reducible first | refine Br.dec ?_ ?_ | refine Br.ndec ?_ ?_) <;> intro hb <;> (try simp only [ZZ] at hb) <;> (first | omega | contradiction | skip))
   | (with_reducible first | refine Br.tt rfl ?_ | refine Br.ff rfl ?_ | refine Br.ff (isEmptyCons _ _) ?_)
   | ((with_reducible first | refine Side.mk ?_ ?_ | refine WrapW.mk ?_ ?_); focus (first | omega | (dsimp only [InR, Int.reduceToNat, IntKind.bits, Int.reducePow]; omega) | (simp [CC]; done) | (constructor <;> omega)))
   | with_reducible refine Br.not ?_
   | (with_reducible first | refine Br.tt (by assumption) ?_ | refine Br.ff (by assumption) ?_)
   | (refine Br.mk ?_ ?_ <;> intro hb <;> (try simp only [ZZ] at hb) <;> (first | omega | contradiction | skip))
   | refine Src.whole ⟨rfl, rfl⟩ ?_ | refine FrzV.whole ?_
   | refine CallW.use (utf_Take s hs) ?_) <;> conv => whnf)
  all_goals exact CLe.retP (by unfold stepI; congr 1; omega)
theorem count_loop (s : Str) (hs : s.length ≤ 1073741824) (R : Int) (K : Post)
    (h0 : K (.exit 0) [(3, .p (.int .i64 R))] [] []) :
    ∀ (q i : Nat) (n : Int), s.length ≤ i + q → i ≤ s.length → 0 ≤ n → n ≤ i → countL q (s.drop i) + n = R →
      LoopW PP GG 18 0 (loopN F.utf_Count_c 0) [(0, .p (.str s)), (3, .p (.int .i64 n)), (4, .p (.int .i64 i))] [] [] (PostCl 18 K) := by
  intro q
  induction q with
  | zero =>
    intro i n hi hil hn0 hn1 hR
    rw [countL, Int.zero_add] at hR
    subst hR
    refine LoopW.round (pol := polG) mixP ?_
    conv => whnf
    repeat' ((first
     | ((with_reducible first | refine Br.dec ?_ ?_ | refine Br.ndec ?_ ?_) <;> intro hb <;> (try simp only [ZZ] at hb) <;> (first | omega | contradiction | skip))
     | (with_reducible first | refine Br.tt rfl ?_ | refine Br.ff rfl ?_ | refine Br.ff (isEmptyCons _ _) ?_)
     | ((with_reducible first | refine Side.mk ?_ ?_ | refine WrapW.mk ?_ ?_); focus (first | omega | (dsimp only [InR, Int.reduceToNat, IntKind.bits, Int.reducePow]; omega) | (simp [CC]; done) | (constructor <;> omega)))
     | with_reducible refine Br.not ?_
     | (with_reducible first | refine Br.tt (by assumption) ?_ | refine Br.ff (by assumption) ?_)
     | (refine Br.mk ?_ ?_ <;> intro hb <;> (try simp only [ZZ] at hb) <;> (first | omega | contradiction | skip))
     | refine Src.whole ⟨rfl, rfl⟩ ?_ | refine FrzV.whole ?_) <;> conv => whnf)
    · refine PostCl.of (h0) ?_ ?_
      · repeat first | exact trivial | refine ⟨VLe.refl _, ?_⟩
      · repeat first | exact trivial | refine ⟨by decide, ?_⟩
  | succ q ih =>
    intro i n hi hil hn0 hn1 hR
    have hdl : (s.drop i).length = s.length - i := List.length_drop
    rw [countL] at hR
    by_cases he : s.drop i = []
    · rw [if_pos he, Int.zero_add] at hR
      subst hR
      have : (s.drop i).length = 0 := by rw [he]; rfl
      refine LoopW.round (pol := polG) mixP ?_
      conv => whnf
      repeat' ((first
       | ((with_reducible first | refine Br.dec ?_ ?_ | refine Br.ndec ?_ ?_) <;> intro hb <;> (try simp only [ZZ] at hb) <;> (first | omega | contradiction | skip))
       | (with_reducible first | refine Br.tt rfl ?_ | refine Br.ff rfl ?_ | refine Br.ff (isEmptyCons _ _) ?_)
       | ((with_reducible first | refine Side.mk ?_ ?_ | refine WrapW.mk ?_ ?_); focus (first | omega | (dsimp only [InR, Int.reduceToNat, IntKind.bits, Int.reducePow]; omega) | (simp [CC]; done) | (constructor <;> omega)))
       | with_reducible refine Br.not ?_
       | (with_reducible first | refine Br.tt (by assumption) ?_ | refine Br.ff (by assumption) ?_)
       | (refine Br.mk ?_ ?_ <;> intro hb <;> (try simp only [ZZ] at hb) <;> (first | omega | contradiction | skip))
       | refine Src.whole ⟨rfl, rfl⟩ ?_ | refine FrzV.whole ?_) <;> conv => whnf)
      · refine PostCl.of (h0) ?_ ?_
        · repeat first | exact trivial | refine ⟨VLe.refl _, ?_⟩
        · repeat first | exact trivial | refine ⟨by decide, ?_⟩
    · rw [if_neg he] at hR
      have hst := stepI_le _ he
      have hsp := utf_step (s.drop i) (by omega)
      refine LoopW.round (pol := polG) mixP ?_
      conv => whnf
      repeat' ((first
       | ((with_reducible first | refine Br.dec ?_ ?_ | refine Br.ndec ?_ ?_) <;> intro hb <;> (try simp only [ZZ] at hb) <;> (first | omega | contradiction | skip))
       | (with_reducible first | refine Br.tt rfl ?_ | refine Br.ff rfl ?_ | refine Br.ff (isEmptyCons _ _) ?_)
       | ((with_reducible first | refine Side.mk ?_ ?_ | refine WrapW.mk ?_ ?_); focus (first | omega | (dsimp only [InR, Int.reduceToNat, IntKind.bits, Int.reducePow]; omega) | (simp [CC]; done) | (constructor <;> omega)))
       | with_reducible refine Br.not ?_
       | (with_reducible first | refine Br.tt (by assumption) ?_ | refine Br.ff (by assumption) ?_)
       | (refine Br.mk ?_ ?_ <;> intro hb <;> (try simp only [ZZ] at hb) <;> (first | omega | contradiction | skip))
       | refine Src.whole ⟨rfl, rfl⟩ ?_ | refine FrzV.whole ?_
       | refine CallW.use (hsp) ?_) <;> conv => whnf)
      obtain ⟨k, hk⟩ := Int.eq_ofNat_of_zero_le (show 0 ≤ stepI (s.drop i) by omega)
      rw [hk] at hst hR ⊢
      rw [Int.toNat_natCast, List.drop_drop] at hR
      refine LoopW.sub (ih (i + k) (n + 1) (by omega) (by omega) (by omega) (by omega) (by rw [← hR]; omega)) (by repeat first | exact trivial | refine ⟨VLe.refl _, ?_⟩) (by repeat first | exact trivial | refine ⟨by decide, ?_⟩)
theorem utf_Count (s : Str) (hs : s.length ≤ 1073741824) : AbsCall PP GG F.utf_Count [.p (.str s)] [] ⟨.ret (.p (.int .i64 (utfCount s))), [], []⟩ := by
  refine absCall_of (pol := polG) mixP F.utf_Count_is ?_
  conv => whnf
  refine LoopW.cl ?_
  refine LoopW.sub (count_loop s hs (utfCount s) _ ?_ s.length 0 0 (by omega) (by omega) (by omega) (by omega) (by simp [utfCount])) (by repeat first | exact trivial | refine ⟨VLe.refl _, ?_⟩) (by repeat first | exact trivial | refine ⟨by decide, ?_⟩)
  conv => whnf
  exact CLe.eq rfl
theorem place_Of (s : Str) (a : Int) (ha : -1073741824 ≤ a ∧ a ≤ 1073741824) (hs : s.length ≤ 1073741824) : AbsCall PP GG F.place_Of [.p (.str s), .p (.int .i64 a)] [] ⟨.ret (.tup [.p (.int .i64 (placeL s a).1), .p (.int .i64 (placeL s a).2)]), [], []⟩ := by
  have hc := clampL_le s a
  have hl : (aheadL s a).length = (clampL s a).toNat := by unfold aheadL; rw [List.length_take]; omega
  have hb : -1 ≤ Lib.lastIndexByte ⟨(aheadL s a).toArray⟩ 10 ∧ Lib.lastIndexByte ⟨(aheadL s a).toArray⟩ 10 < (aheadL s a).length ∨ Lib.lastIndexByte ⟨(aheadL s a).toArray⟩ 10 = -1 := by
    rcases Lib.lastIndexByte_spec ⟨(aheadL s a).toArray⟩ 10 with h | ⟨i, h1, h2, _⟩
    · right; exact h.1
    · left
      have : (ByteArray.mk (aheadL s a).toArray).size = (aheadL s a).length := by simp [ByteArray.size]
      omega
  have hcn : (Lib.countByte (aheadL s a) 10 : Int) ≤ (aheadL s a).length := by
    have := List.count_le_length (a := (10 : UInt8)) (l := aheadL s a)
    unfold Lib.countByte
    omega
  have hcl := countL_le ((aheadL s a).drop (beginL s a).toNat).length _ (Nat.le_refl _)
  change 0 ≤ utfCount _ ∧ utfCount _ ≤ _ at hcl
  rw [List.length_drop] at hcl
  unfold placeL
  unfold beginL at hcl ⊢
  unfold aheadL at *
  refine absCall_of (pol := polG) mixP F.place_Of_is ?_
  conv => whnf
  repeat' ((first
   | ((with_reducible first | refine Br.dec ?_ ?_ | refine Br.ndec ?_ ?_) <;> intro hb <;> (try simp only [ZZ] at hb) <;> (first | omega | contradiction | skip))
   | (with_reducible first | refine Br.tt rfl ?_ | refine Br.ff rfl ?_ | refine Br.ff (isEmptyCons _ _) ?_)
   | ((with_reducible first | refine Side.mk ?_ ?_ | refine WrapW.mk ?_ ?_); focus (first | omega | (dsimp only [InR, Int.reduceToNat, IntKind.bits, Int.reducePow]; omega) | (simp [CC]; done) | (constructor <;> omega)))
   | with_reducible refine Br.not ?_
   | (with_reducible first | refine Br.tt (by assumption) ?_ | refine Br.ff (by assumption) ?_)
   | (refine Br.mk ?_ ?_ <;> intro hb <;> (try simp only [ZZ] at hb) <;> (first | omega | contradiction | skip))
   | refine Src.whole ⟨rfl, rfl⟩ ?_ | refine FrzV.whole ?_
   | refine CallW.use (place_clamp s a ha hs) ?_
   | refine CallW.use (strings_LastIndexByte _ 10 (by simp only [List.length_take]; omega) []) ?_
   | refine CallW.use (strings_Count _ 10 []) ?_
   | refine CallW.use (utf_Count _ (by simp only [List.length_drop, List.length_take]; omega)) ?_) <;> conv => whnf)
  exact CLe.eq rfl
theorem place_Fault (s : Str) (a e : Int) (ha : -1073741824 ≤ a ∧ a ≤ 1073741824) (hs : s.length ≤ 1073741824) : AbsCall PP GG F.place_Fault [.p (.str s), .p (.int .i64 a), .p (.int .i64 e)] [] ⟨.ret (.p (.agg [.int .i64 e, .int .i64 (clampL s a), .int .i64 (placeL s a).1, .int .i64 (placeL s a).2])), [], []⟩ := by
  refine absCall_of (pol := polG) mixP F.place_Fault_is ?_
  conv => whnf
  repeat' ((first
   | ((with_reducible first | refine Br.dec ?_ ?_ | refine Br.ndec ?_ ?_) <;> intro hb <;> (try simp only [ZZ] at hb) <;> (first | omega | contradiction | skip))
   | (with_reducible first | refine Br.tt rfl ?_ | refine Br.ff rfl ?_ | refine Br.ff (isEmptyCons _ _) ?_)
   | ((with_reducible first | refine Side.mk ?_ ?_ | refine WrapW.mk ?_ ?_); focus (first | omega | (dsimp only [InR, Int.reduceToNat, IntKind.bits, Int.reducePow]; omega) | (simp [CC]; done) | (constructor <;> omega)))
   | with_reducible refine Br.not ?_
   | (with_reducible first | refine Br.tt (by assumption) ?_ | refine Br.ff (by assumption) ?_)
   | (refine Br.mk ?_ ?_ <;> intro hb <;> (try simp only [ZZ] at hb) <;> (first | omega | contradiction | skip))
   | refine Src.whole ⟨rfl, rfl⟩ ?_ | refine FrzV.whole ?_
   | refine CallW.use (place_Of s a ha hs) ?_
   | refine CallW.use (place_clamp s a ha hs) ?_) <;> conv => whnf)
  exact CLe.eq rfl
theorem jlex_while (s c : Str) (hs : s.length ≤ 1073741824) (hc : c.length ≤ 1000) (h2 : c.all (fun b => decide (b.toNat < 128)) = true) : AbsCall PP GG F.jlex_while [.p (.str s), .p (.str c)] [] ⟨.ret (.p (.int .i64 (whileL s c))), [], []⟩ := by
  have hw := whileL_le s c
  have he := while_eq s c
  have hT := strings_TrimSet s c (by omega) (fun j b h => by have := List.all_eq_true.1 h2 b (List.mem_of_getElem? h); simpa using this) []
  refine absCall_of (pol := polG) mixP F.jlex_while_is ?_
  conv => whnf
  repeat' ((first
   | ((with_reducible first | refine Br.dec ?_ ?_ | refine Br.ndec ?_ ?_) <;> intro hb <;> (try simp only [ZZ] at hb) <;> (first | omega | contradiction | skip))
   | (with_reducible first | refine Br.tt rfl ?_ | refine Br.ff rfl ?_ | refine Br.ff (isEmptyCons _ _) ?_)
   | ((with_reducible first | refine Side.mk ?_ ?_ | refine WrapW.mk ?_ ?_); focus (first | omega | (dsimp only [InR, Int.reduceToNat, IntKind.bits, Int.reducePow]; omega) | (simp [CC]; done) | (constructor <;> omega)))
   | with_reducible refine Br.not ?_
   | (with_reducible first | refine Br.tt (by assumption) ?_ | refine Br.ff (by assumption) ?_)
   | (refine Br.mk ?_ ?_ <;> intro hb <;> (try simp only [ZZ] at hb) <;> (first | omega | contradiction | skip))
   | refine Src.whole ⟨rfl, rfl⟩ ?_ | refine FrzV.whole ?_
   | refine CallW.use (hT) ?_) <;> conv => whnf)
  exact CLe.retP (by congr 1)
theorem jlex_great (s : Str) (hs : s.length ≤ 1073741824) (hasc : ∀ (j : Nat) (b : UInt8), s[j]? = some b → b.toNat < 128) : AbsCall PP GG F.jlex_great [.p (.str s)] [] ⟨.ret (.p (.bool (greatL s))), [], []⟩ := by
  have hI := strings_IndexAny s e2 (by omega) (by decide) hasc (by intro j b hb; have := List.mem_of_getElem? hb; revert this; unfold e2; simp only [List.mem_cons, List.mem_nil_iff, or_false]; rintro (rfl | rfl) <;> decide) []
  have hil := indexAny_lt s e2
  have hge := Lib.indexAny_ge e2 s
  unfold greatL
  generalize hi : Lib.indexAny s e2 = i at *
  have hP : behindE s = (s.drop (i + 1).toNat).drop (whileL (s.drop (i + 1).toNat) d10) := by unfold behindE; rw [hi]
  have hTr := strings_TrimSet (s.drop (i + 1).toNat) d10 (by decide) (by intro j b hb; have := List.mem_of_getElem? hb; revert this; unfold d10; simp only [List.mem_cons, List.mem_nil_iff, or_false]; rintro (rfl | rfl | rfl | rfl | rfl | rfl | rfl | rfl | rfl | rfl) <;> decide) []
  rw [trim_eq, ← hP] at hTr
  have hpl : (behindE s).length ≤ s.length := by rw [hP]; simp only [List.length_drop]; omega
  have hg := fun h => dec_Good (s.take i.toNat) h
  rw [decParse_ok] at hg
  have hW := fun h => jlex_while ((behindE s).drop 1) d10 h (by decide) (by decide)
  generalize behindE s = p at *
  refine absCall_of (pol := polG) mixP F.jlex_great_is ?_
  conv => whnf
  repeat' ((first
   | ((with_reducible first | refine Br.dec ?_ ?_ | refine Br.ndec ?_ ?_) <;> intro hb <;> (try simp only [ZZ] at hb) <;> (first | omega | contradiction | skip))
   | (with_reducible first | refine Br.tt rfl ?_ | refine Br.ff rfl ?_ | refine Br.ff (isEmptyCons _ _) ?_)
   | ((with_reducible first | refine Side.mk ?_ ?_ | refine WrapW.mk ?_ ?_); focus (first | omega | (dsimp only [InR, Int.reduceToNat, IntKind.bits, Int.reducePow]; omega) | (simp [CC]; done) | (constructor <;> omega)))
   | with_reducible refine Br.not ?_
   | (with_reducible first | refine Br.tt (by assumption) ?_ | refine Br.ff (by assumption) ?_)
   | (refine Br.mk ?_ ?_ <;> intro hb <;> (try simp only [ZZ] at hb) <;> (first | omega | contradiction | skip))
   | refine Src.whole ⟨rfl, rfl⟩ ?_ | refine FrzV.whole ?_
   | refine CallW.use (hI) ?_
   | refine CallW.use (hTr) ?_
   | refine CallW.use (hg (by simp only [List.length_take]; omega)) ?_
   | refine CallW.use (hW (by simp only [List.length_drop]; omega)) ?_) <;> conv => whnf)
  all_goals first | (rw [if_pos (by assumption)]; exact CLe.eq rfl) | rw [if_neg (by omega)]
  all_goals try simp only [Int.reduceToNat] at *
  all_goals first | rw [if_pos ⟨by assumption, by omega, by omega⟩] | rw [if_neg (by rintro ⟨_, _, _⟩; first | contradiction | omega)]
  all_goals first | (rw [decide_eq_true (by omega), Bool.true_and]; exact CLe.eq rfl) | (rw [decide_eq_false (by omega), Bool.false_and]; exact CLe.eq rfl) | skip
theorem jlex_number (s : Str) (hs : s.length ≤ 1073741824) (hasc : ∀ (j : Nat) (b : UInt8), s[j]? = some b → b.toNat < 128) : AbsCall PP GG F.jlex_number [.p (.str s)] [] ⟨.ret (.p (.int .i64 (jnumL s))), [], []⟩ := by
  have hg := dec_Good s hs
  rw [decParse_ok] at hg
  have hG := jlex_great s hs hasc
  unfold jnumL
  refine absCall_of (pol := polG) mixP F.jlex_number_is ?_
  conv => whnf
  repeat' ((first
   | ((with_reducible first | refine Br.dec ?_ ?_ | refine Br.ndec ?_ ?_) <;> intro hb <;> (try simp only [ZZ] at hb) <;> (first | omega | contradiction | skip))
   | (with_reducible first | refine Br.tt rfl ?_ | refine Br.ff rfl ?_ | refine Br.ff (isEmptyCons _ _) ?_)
   | ((with_reducible first | refine Side.mk ?_ ?_ | refine WrapW.mk ?_ ?_); focus (first | omega | (dsimp only [InR, Int.reduceToNat, IntKind.bits, Int.reducePow]; omega) | (simp [CC]; done) | (constructor <;> omega)))
   | with_reducible refine Br.not ?_
   | (with_reducible first | refine Br.tt (by assumption) ?_ | refine Br.ff (by assumption) ?_)
   | (refine Br.mk ?_ ?_ <;> intro hb <;> (try simp only [ZZ] at hb) <;> (first | omega | contradiction | skip))
   | refine Src.whole ⟨rfl, rfl⟩ ?_ | refine FrzV.whole ?_
   | refine CallW.use (hg) ?_
   | refine CallW.use (hG) ?_) <;> conv => whnf)
  all_goals first | (rw [if_pos (by omega)]; exact CLe.eq rfl) | rw [if_neg (by omega)]
  all_goals first | (rw [if_pos (by assumption)]; exact CLe.eq rfl) | rw [if_neg (by simp [*])]
  all_goals first | (rw [if_pos (by assumption)]; exact CLe.eq rfl) | (rw [if_neg (by simp [*])]; exact CLe.eq rfl)
theorem sl_IndexByte (s : Str) (c : Int) : AbsCall PP GG F.internal_stringslite_IndexByte [.p (.str s), .p (.int .u8 c)] [] ⟨.ret (.p (.int .i64 (firstIdx ⟨s.toArray⟩ c.toNat.toUInt8))), [], []⟩ := by
  refine absCall_of (pol := polG) mixP F.internal_stringslite_IndexByte_is ?_
  conv => whnf
  repeat' ((first
   | ((with_reducible first | refine Br.dec ?_ ?_ | refine Br.ndec ?_ ?_) <;> intro hb <;> (try simp only [ZZ] at hb) <;> (first | omega | skip))
   | (with_reducible first | refine Br.tt rfl ?_ | refine Br.ff rfl ?_ | refine Br.ff (isEmptyCons _ _) ?_)
   | ((with_reducible first | refine Side.mk ?_ ?_ | refine WrapW.mk ?_ ?_); focus (first | omega | (dsimp only [InR, Int.reduceToNat, IntKind.bits, Int.reducePow]; omega) | (simp [CC]; done) | (constructor <;> omega)))
   | (refine Br.mk ?_ ?_ <;> intro hb <;> (try simp only [ZZ] at hb) <;> (first | omega | skip))
   | refine Src.whole ⟨rfl, rfl⟩ ?_ | refine FrzV.whole ?_
   | refine CallW.use (bytealg_IndexByteString s c []) ?_) <;> conv => whnf)
  exact CLe.eq rfl
theorem strings_IndexByte (s : Str) (c : Int) : AbsCall PP GG F.strings_IndexByte [.p (.str s), .p (.int .u8 c)] [] ⟨.ret (.p (.int .i64 (firstIdx ⟨s.toArray⟩ c.toNat.toUInt8))), [], []⟩ := by
  refine absCall_of (pol := polG) mixP F.strings_IndexByte_is ?_
  conv => whnf
  repeat' ((first
   | ((with_reducible first | refine Br.dec ?_ ?_ | refine Br.ndec ?_ ?_) <;> intro hb <;> (try simp only [ZZ] at hb) <;> (first | omega | skip))
   | (with_reducible first | refine Br.tt rfl ?_ | refine Br.ff rfl ?_ | refine Br.ff (isEmptyCons _ _) ?_)
   | ((with_reducible first | refine Side.mk ?_ ?_ | refine WrapW.mk ?_ ?_); focus (first | omega | (dsimp only [InR, Int.reduceToNat, IntKind.bits, Int.reducePow]; omega) | (simp [CC]; done) | (constructor <;> omega)))
   | (refine Br.mk ?_ ?_ <;> intro hb <;> (try simp only [ZZ] at hb) <;> (first | omega | skip))
   | refine Src.whole ⟨rfl, rfl⟩ ?_ | refine FrzV.whole ?_
   | refine CallW.use (sl_IndexByte s c) ?_) <;> conv => whnf)
  exact CLe.eq rfl
end Go.Proofs.YtoinkmogdfjmmaaGreatDoor
end

section
namespace Go.Am
open Go
def hexD (b : UInt8) : Option Int :=
  if 48 ≤ b.toNat ∧ b.toNat ≤ 57 then some (b.toNat - 48) else
  if 97 ≤ b.toNat ∧ b.toNat ≤ 102 then some (b.toNat - 87) else
  if 65 ≤ b.toNat ∧ b.toNat ≤ 70 then some (b.toNat - 55) else none
def hexR : Str → Int → Int × Bool
  | [], v => (v, true)
  | b :: s, v => match hexD b with
    | none => (0, false)
    | some x => hexR s (v * 16 + x)
def hexL (s : Str) : Int × Bool := if s.length < 1 ∨ 8 < s.length then (0, false) else hexR s 0
theorem hexD_lt {b : UInt8} {x : Int} (h : hexD b = some x) : 0 ≤ x ∧ x < 16 := by
  unfold hexD at h
  split at h
  · cases h; omega
  · split at h
    · cases h; omega
    · split at h
      · cases h; omega
      · cases h
theorem hexR_lt : ∀ (s : Str) (v : Int) (q : Nat), s.length ≤ q → 0 ≤ v → (hexR s v).2 = true → 0 ≤ (hexR s v).1 ∧ (hexR s v).1 < (v + 1) * 16 ^ q
  | [], v, q, _, h0, _ => by
    rw [hexR]
    have : 1 ≤ (16 : Int) ^ q := Int.pow_pos (by decide)
    refine ⟨h0, ?_⟩
    have := Int.mul_le_mul_of_nonneg_left this (show 0 ≤ v + 1 by omega)
    simp only [] at *
    omega
  | b :: s, v, 0, hq, h0, h => by simp at hq
  | b :: s, v, q + 1, hq, h0, h => by
    rw [hexR] at h ⊢
    cases hx : hexD b with
    | none => rw [hx] at h; simp at h
    | some x =>
      rw [hx] at h
      simp only [] at h ⊢
      have hb := hexD_lt hx
      have := hexR_lt s (v * 16 + x) q (by simpa using hq) (by omega) h
      refine ⟨this.1, Int.lt_of_lt_of_le this.2 ?_⟩
      rw [Int.pow_succ, Int.mul_comm (16 ^ q) 16, ← Int.mul_assoc]
      exact Int.mul_le_mul_of_nonneg_right (by omega) (Int.le_of_lt (Int.pow_pos (by decide)))
theorem pow16_le {i : Nat} (h : i ≤ 7) : (16 : Int) ^ i ≤ 16 ^ 7 := by
  have : i = 0 ∨ i = 1 ∨ i = 2 ∨ i = 3 ∨ i = 4 ∨ i = 5 ∨ i = 6 ∨ i = 7 := by omega
  rcases this with rfl | rfl | rfl | rfl | rfl | rfl | rfl | rfl <;> decide
def digL (t : Str) (a n : Nat) : Int × Bool := if t.length < a + n then (0, false) else hexL ((t.drop a).take n)
theorem digL_lt {t : Str} {a : Nat} (h : (digL t a 4).2 = true) : 0 ≤ (digL t a 4).1 ∧ (digL t a 4).1 < 65536 ∧ a + 4 ≤ t.length := by
  unfold digL at h ⊢
  split at h
  · simp at h
  · rename_i h1
    rw [if_neg h1]
    unfold hexL at h ⊢
    split at h
    · simp at h
    · rename_i h2
      rw [if_neg h2]
      have := hexR_lt ((t.drop a).take 4) 0 4 (by simp only [List.length_take]; omega) (by omega) h
      refine ⟨this.1, ?_, by omega⟩
      have := this.2
      simpa using this
def shortL (c : UInt8) : Option Int :=
  if c = 34 then some 34 else if c = 92 then some 92 else if c = 98 then some 8 else if c = 102 then some 12 else if c = 110 then some 10 else if c = 114 then some 13 else if c = 116 then some 9 else if c = 47 then some 47 else none
def putR (a : Int) (acc : Str) (x k : Int) : Bool × Int × Str := if utfGood x = true then (true, a + k, acc ++ utfEnc x) else (false, a, acc)
def escL (t : Str) (a : Nat) : Option (Int × Int) :=
  if a + 1 = t.length then none else
  match shortL (t.getD (a + 1) 0) with
  | some x => some (x, 2)
  | none => if ¬ ((t.getD (a + 1) 0).toNat : Int) = 117 ∨ (digL t (a + 2) 4).2 = false then none else
    if (digL t (a + 2) 4).1 < 55296 ∨ 56320 ≤ (digL t (a + 2) 4).1 then some ((digL t (a + 2) 4).1, 6) else
    if (digL t (a + 8) 4).2 = false ∨ ¬ (t.drop (a + 6)).take 2 = [92, 117] ∨ (digL t (a + 8) 4).1 < 56320 ∨ 57343 < (digL t (a + 8) 4).1 then none else
    some (65536 + ((digL t (a + 2) 4).1 - 55296) * 1024 + ((digL t (a + 8) 4).1 - 56320), 12)
def escAt (t : Str) (a : Nat) (acc : Str) : Bool × Int × Str := match escL t a with
  | none => (false, a, acc)
  | some (x, k) => putR a acc x k
theorem escAt_end {t : Str} {a : Nat} {acc : Str} (h : a + 1 = t.length) : escAt t a acc = (false, (a : Int), acc) := by
  unfold escAt escL
  rw [if_pos h]
theorem escAt_short {t : Str} {a : Nat} {acc : Str} (h : ¬ a + 1 = t.length) {x : Int} (hx : shortL (t.getD (a + 1) 0) = some x) : escAt t a acc = putR a acc x 2 := by
  unfold escAt escL
  rw [if_neg h, hx]
theorem escAt_u {t : Str} {a : Nat} {acc : Str} (h : ¬ a + 1 = t.length) (hx : shortL (t.getD (a + 1) 0) = none) : escAt t a acc =
    (if ¬ ((t.getD (a + 1) 0).toNat : Int) = 117 ∨ (digL t (a + 2) 4).2 = false then (false, (a : Int), acc) else
    if (digL t (a + 2) 4).1 < 55296 ∨ 56320 ≤ (digL t (a + 2) 4).1 then putR a acc (digL t (a + 2) 4).1 6 else
    if (digL t (a + 8) 4).2 = false ∨ ¬ (t.drop (a + 6)).take 2 = [92, 117] ∨ (digL t (a + 8) 4).1 < 56320 ∨ 57343 < (digL t (a + 8) 4).1 then (false, (a : Int), acc) else
    putR a acc (65536 + ((digL t (a + 2) 4).1 - 55296) * 1024 + ((digL t (a + 8) 4).1 - 56320)) 12) := by
  unfold escAt escL
  rw [if_neg h, hx]
  by_cases h1 : ¬ ((t.getD (a + 1) 0).toNat : Int) = 117 ∨ (digL t (a + 2) 4).2 = false
  · simp only [if_pos h1]
  · simp only [if_neg h1]
    by_cases h2 : (digL t (a + 2) 4).1 < 55296 ∨ 56320 ≤ (digL t (a + 2) 4).1
    · simp only [if_pos h2]
    · simp only [if_neg h2]
      by_cases h3 : (digL t (a + 8) 4).2 = false ∨ ¬ (t.drop (a + 6)).take 2 = [92, 117] ∨ (digL t (a + 8) 4).1 < 56320 ∨ 57343 < (digL t (a + 8) 4).1
      · simp only [if_pos h3]
      · simp only [if_neg h3]
theorem utfEnc_len4 (r : Int) : (utfEnc r).length ≤ 4 := by
  unfold utfEnc
  repeat' split
  all_goals simp
theorem putR_ok {a : Int} {acc : Str} {x k : Int} (h : (putR a acc x k).1 = true) : putR a acc x k = (true, a + k, acc ++ utfEnc x) := by
  unfold putR at h ⊢
  split at h
  · rename_i h1; rw [if_pos h1]
  · simp at h
theorem escAt_ok {t : Str} {a : Nat} {acc : Str} (ha : a < t.length) (h : (escAt t a acc).1 = true) :
    ∃ (k : Nat) (x : Int), escAt t a acc = (true, ((a + k : Nat) : Int), acc ++ utfEnc x) ∧ 2 ≤ k ∧ a + k ≤ t.length := by
  by_cases h1 : a + 1 = t.length
  · rw [escAt_end h1] at h
    simp at h
  · cases hs : shortL (t.getD (a + 1) 0) with
    | some x =>
      rw [escAt_short h1 hs] at h ⊢
      exact ⟨2, x, by rw [putR_ok h]; rfl, by omega, by omega⟩
    | none =>
      rw [escAt_u h1 hs] at h ⊢
      split at h
      · simp at h
      · rename_i h2
        rw [if_neg h2]
        simp only [not_or, Bool.not_eq_false] at h2
        have := digL_lt h2.2
        split at h
        · rename_i h3
          rw [if_pos h3]
          exact ⟨6, _, by rw [putR_ok h]; rfl, by omega, by omega⟩
        · rename_i h3
          rw [if_neg h3]
          split at h
          · simp at h
          · rename_i h4
            rw [if_neg h4]
            simp only [not_or, Bool.not_eq_false] at h4
            have := digL_lt h4.1
            exact ⟨12, _, by rw [putR_ok h]; rfl, by omega, by omega⟩
theorem putR_no {a : Int} {acc : Str} {x k : Int} (h : (putR a acc x k).1 = false) : (putR a acc x k).2.1 = a := by
  unfold putR at h ⊢
  split at h
  · simp at h
  · rename_i h1; rw [if_neg h1]
theorem escAt_no {t : Str} {a : Nat} {acc : Str} (h : (escAt t a acc).1 = false) : (escAt t a acc).2.1 = a := by
  unfold escAt at h ⊢
  split
  · rfl
  · rename_i h1; rw [h1] at h; exact putR_no h
def unqL : Nat → Str → Nat → Str → Str × Int × Int
  | 0, t, _, _ => ([], 0, t.length)
  | q + 1, t, a, acc =>
    if t.length ≤ a then ([], 0, t.length) else
    if ((t.getD a 0).toNat : Int) = 34 then (acc, (a : Int) + 1, -1) else
    if ((t.getD a 0).toNat : Int) < 32 then ([], 0, (a : Int)) else
    if ((t.getD a 0).toNat : Int) = 92 then
      (if (escAt t a acc).1 = true then unqL q t (escAt t a acc).2.1.toNat (escAt t a acc).2.2 else ([], 0, (a : Int)))
    else if (utfTake (t.drop a)).2 = 0 then ([], 0, (a : Int)) else unqL q t (a + (utfTake (t.drop a)).2.toNat) (acc ++ utfEnc (utfTake (t.drop a)).1)
def unquoteL (t : Str) (at_ : Int) : Str × Int × Int :=
  if at_ < 0 ∨ preB (t.drop (clampL t at_).toNat) 34 = false then ([], 0, clampL t at_) else unqL (t.length + 1) t ((clampL t at_).toNat + 1) []
end Go.Am
namespace Go.Am
theorem HLe.var1 {t : TypeId} {v u : V} (h : VLeL v.cells u.cells) : HLe [.var t v] [.var t u] := by
  obtain ⟨h1, h2⟩ := h.spec
  refine ⟨fun n B L w hr => ?_, fun n hl => ?_, rfl⟩
  · cases n with
    | zero =>
      have hr : HRel B L w 0 (.var t v) := hr
      show HRel B L w 0 (.var t u)
      cases hr with
      | var _ c _ fr hw hfr hl hh =>
        refine .var u c t fr hw hfr (by omega) fun i x y hx hy => ?_
        have hi : i < v.cells.length := by have := (List.getElem?_eq_some_iff.1 hx).1; omega
        exact h2 i v.cells[i] x (by simp [hi]) hx B L w y (hh i v.cells[i] y (by simp [hi]) hy)
    | succ n => exact hr
  · cases n with
    | zero => trivial
    | succ n => exact hl
end Go.Am
end

section
namespace Go.Proofs.YtoinkmogdfjmmaaGreatDoor
open Go Go.Am Go.RowKit
set_option maxRecDepth 100000
def rdO (t : Str) (a : Int) (acc : Str) : HO := .var T.esc_reader (.p (.agg [.str t, .int .i64 a, .lst false (acc.map byteP)]))
theorem hex_loop (s : Str) (hs : s.length ≤ 8) (R : Int × Bool) (K : Post)
    (h0 : ∀ v : Int, R = (v, true) → K (.exit 0) [(4, .p (.int .i64 v))] [.arr T.uint8 1 (s.map byteP)] [])
    (hr : R = (0, false) → K .ret [(2, .p (.int .i64 0)), (3, .p (.bool false))] [.arr T.uint8 1 (s.map byteP)] []) :
    ∀ (q i : Nat) (v : Int), i + q = s.length → 0 ≤ v → v < 16 ^ i → hexR (s.drop i) v = R →
      LoopW PP GG 65 0 (loopN F.esc_Hex_c 0) [(4, .p (.int .i64 v)), (16, .sl 0 0 (s.map byteP).length), (17, .p (.int .i64 (s.map byteP).length)), (18, .p (.int .i64 i))] [.arr T.uint8 1 (s.map byteP)] [] (PostCl 65 K) := by
  have hl : (s.map byteP).length = s.length := by simp
  intro q
  induction q with
  | zero =>
    intro i v hi hv0 hv1 hR
    rw [List.drop_eq_nil_of_le (by omega), hexR] at hR
    refine LoopW.round (pol := polG) mixP ?_
    conv => whnf
    repeat' ((first
     | ((with_reducible first | refine Br.dec ?_ ?_ | refine Br.ndec ?_ ?_) <;> intro hb <;> (try simp only [And.intro @hl (ZZ)] at hb) <;> (first | omega | contradiction | skip))
     | (with_reducible first | refine Br.tt rfl ?_ | refine Br.ff rfl ?_ | refine Br.ff (isEmptyCons _ _) ?_)
     | ((with_reducible first | refine Side.mk ?_ ?_ | refine WrapW.mk ?_ ?_); focus (first | omega | (dsimp only [InR, Int.reduceToNat, IntKind.bits, Int.reducePow]; omega) | (simp [CC]; done) | (constructor <;> omega)))
     | with_reducible refine Br.not ?_
     | (with_reducible first | refine Br.tt (by assumption) ?_ | refine Br.ff (by assumption) ?_)
     | (refine Br.mk ?_ ?_ <;> intro hb <;> (try simp only [And.intro @hl (ZZ)] at hb) <;> (first | omega | contradiction | skip))
     | refine Src.whole ⟨rfl, rfl⟩ ?_ | refine FrzV.whole ?_) <;> conv => whnf)
    · refine PostCl.of (h0 v hR.symm) ?_ ?_
      · repeat first | exact trivial | refine ⟨VLe.refl _, ?_⟩
      · repeat first | exact trivial | refine ⟨by decide, ?_⟩
  | succ q ih =>
    intro i v hi hv0 hv1 hR
    obtain ⟨b, hbx⟩ : ∃ b, s[i]? = some b := ⟨_, List.getElem?_eq_getElem (show i < s.length by omega)⟩
    have hbl := UInt8.toNat_lt b
    have hi7 : i ≤ 7 := by omega
    have hv2 : v < 268435456 := Int.lt_of_lt_of_le hv1 (Int.le_trans (pow16_le hi7) (by decide))
    rw [drop_cons hbx, hexR] at hR
    have next : ∀ x : Int, 0 ≤ x → x < 16 → hexR (s.drop (i + 1)) (v * 16 + x) = R → LoopW PP GG 65 0 (loopN F.esc_Hex_c 0) [(4, .p (.int .i64 (v * 16 + x))), (16, .sl 0 0 (s.map byteP).length), (17, .p (.int .i64 (s.map byteP).length)), (18, .p (.int .i64 (i + 1)))] [.arr T.uint8 1 (s.map byteP)] [] (PostCl 65 K) := by
      intro x hx0 hx1 h
      exact ih (i + 1) _ (by omega) (by omega) (by rw [Int.pow_succ]; omega) h
    refine LoopW.round (pol := polG) mixP ?_
    conv => whnf
    repeat' ((first
     | ((with_reducible first | refine Br.dec ?_ ?_ | refine Br.ndec ?_ ?_) <;> intro hb <;> (try simp only [And.intro @hl (ZZ)] at hb) <;> (first | omega | contradiction | skip))
     | (with_reducible first | refine Br.tt rfl ?_ | refine Br.ff rfl ?_ | refine Br.ff (isEmptyCons _ _) ?_)
     | ((with_reducible first | refine Side.mk ?_ ?_ | refine WrapW.mk ?_ ?_); focus (first | omega | (dsimp only [InR, Int.reduceToNat, IntKind.bits, Int.reducePow]; omega) | exact ⟨rfl, rfl⟩ | (simp [CC]; done) | (constructor <;> omega)))
     | with_reducible refine Br.not ?_
     | (with_reducible first | refine Br.tt (by assumption) ?_ | refine Br.ff (by assumption) ?_)
     | (refine Br.mk ?_ ?_ <;> intro hb <;> (try simp only [And.intro @hl (ZZ)] at hb) <;> (first | omega | contradiction | skip))
     | refine Src.whole ⟨rfl, rfl⟩ ?_ | refine FrzV.whole ?_
     | (refine ElemA.byte (b := b) (by simpa [plus0] using hbx) ?_)) <;> conv => whnf)
    all_goals
      first
      | (rw [show hexD b = some ((b.toNat : Int) - 48) by unfold hexD; rw [if_pos (by omega)]] at hR
         rw [show ior .i64 (v * 2 ^ Int.toNat 4) ((b.toNat : Int) - 48) = v * 16 + ((b.toNat : Int) - 48) from ior_shift (q := 4) hv0 (by omega) (by omega) (by omega) (by decide)]
         refine LoopW.sub (next _ (by omega) (by omega) hR) (by repeat first | exact trivial | refine ⟨VLe.refl _, ?_⟩) (by repeat first | exact trivial | refine ⟨by decide, ?_⟩))
      | (rw [show hexD b = some ((b.toNat : Int) - 87) by unfold hexD; rw [if_neg (by omega), if_pos (by omega)]] at hR
         rw [show (b.toNat : Int) - 97 + 10 = b.toNat - 87 by omega, show ior .i64 (v * 2 ^ Int.toNat 4) ((b.toNat : Int) - 87) = v * 16 + ((b.toNat : Int) - 87) from ior_shift (q := 4) hv0 (by omega) (by omega) (by omega) (by decide)]
         refine LoopW.sub (next _ (by omega) (by omega) hR) (by repeat first | exact trivial | refine ⟨VLe.refl _, ?_⟩) (by repeat first | exact trivial | refine ⟨by decide, ?_⟩))
      | (rw [show hexD b = some ((b.toNat : Int) - 55) by unfold hexD; rw [if_neg (by omega), if_neg (by omega), if_pos (by omega)]] at hR
         rw [show (b.toNat : Int) - 65 + 10 = b.toNat - 55 by omega, show ior .i64 (v * 2 ^ Int.toNat 4) ((b.toNat : Int) - 55) = v * 16 + ((b.toNat : Int) - 55) from ior_shift (q := 4) hv0 (by omega) (by omega) (by omega) (by decide)]
         refine LoopW.sub (next _ (by omega) (by omega) hR) (by repeat first | exact trivial | refine ⟨VLe.refl _, ?_⟩) (by repeat first | exact trivial | refine ⟨by decide, ?_⟩))
      | (rw [show hexD b = none by unfold hexD; rw [if_neg (by omega), if_neg (by omega), if_neg (by omega)]] at hR
         refine PostCl.of (hr hR.symm) (by repeat first | exact trivial | refine ⟨VLe.refl _, ?_⟩) (by repeat first | exact trivial | refine ⟨by decide, ?_⟩))
theorem esc_Hex (s : Str) (hs : s.length ≤ 1073741824) : AbsCall PP GG F.esc_Hex [.p (.str s)] [] ⟨.ret (.tup [.p (.int .i64 (hexL s).1), .p (.bool (hexL s).2)]), [], []⟩ := by
  unfold hexL
  have hl : (s.map byteP).length = s.length := by simp
  refine absCall_of (pol := polG) mixP F.esc_Hex_is ?_
  conv => whnf
  repeat' ((first
   | ((with_reducible first | refine Br.dec ?_ ?_ | refine Br.ndec ?_ ?_) <;> intro hb <;> (try simp only [And.intro @hl (ZZ)] at hb) <;> (first | omega | contradiction | skip))
   | (with_reducible first | refine Br.tt rfl ?_ | refine Br.ff rfl ?_ | refine Br.ff (isEmptyCons _ _) ?_)
   | ((with_reducible first | refine Side.mk ?_ ?_ | refine WrapW.mk ?_ ?_); focus (first | omega | (dsimp only [InR, Int.reduceToNat, IntKind.bits, Int.reducePow]; omega) | (simp only [hl]; omega) | (simp [CC]; done) | (constructor <;> omega)))
   | with_reducible refine Br.not ?_
   | (with_reducible first | refine Br.tt (by assumption) ?_ | refine Br.ff (by assumption) ?_)
   | (refine Br.mk ?_ ?_ <;> intro hb <;> (try simp only [And.intro @hl (ZZ)] at hb) <;> (first | omega | contradiction | skip))
   | refine Src.whole ⟨rfl, rfl⟩ ?_ | refine FrzV.whole ?_) <;> conv => whnf)
  · rw [if_pos (by omega)]; exact CLe.eq rfl
  · rw [if_pos (by omega)]; exact CLe.eq rfl
  · rw [if_neg (by omega)]
    refine LoopW.cl ?_
    refine LoopW.sub (hex_loop s (by omega) (hexR s 0) _ (fun v hv => ?_) (fun hv => ?_) s.length 0 0 (by omega) (by omega) (by decide) rfl) (by repeat first | exact trivial | refine ⟨VLe.refl _, ?_⟩) (by repeat first | exact trivial | refine ⟨by decide, ?_⟩)
    · conv => whnf
      exact CLe.eq (by rw [hv])
    · conv => whnf
      exact CLe.eq (by rw [hv])
theorem InR.byte (b : UInt8) : InR .i64 (b.toNat : Int) := by
  have := UInt8.toNat_lt b
  constructor <;> omega
def setJ : Str := [34, 92, 98, 102, 110, 114, 116]
def setK : Str := [34, 92, 8, 12, 10, 13, 9]
def setF (c : UInt8) : Int := firstIdx ⟨setJ.toArray⟩ c
def shortOk (c : UInt8) : Bool :=
  if 0 ≤ setF c then decide (setF c < 7 ∧ shortL c = some ((setK.getD (setF c).toNat 0).toNat : Int)) else decide (if c.toNat = 47 then shortL c = some 47 else shortL c = none)
theorem short_all : ∀ n : Nat, n < 256 → shortOk n.toUInt8 = true := by decide +kernel
theorem short_ok (c : UInt8) : shortOk c = true := by
  have := short_all c.toNat (UInt8.toNat_lt c)
  rwa [show c.toNat.toUInt8 = c by simp] at this
theorem esc_short (c : UInt8) : AbsCall PP GG F.esc_short [.p (byteP c), .p (.bool false)] [] ⟨.ret (.tup [.p (.int .i64 ((shortL c).getD 0)), .p (.bool (shortL c).isSome)]), [], []⟩ := by
  have hI := strings_IndexByte [34, 92, 98, 102, 110, 114, 116] c.toNat
  have e : firstIdx ⟨([34, 92, 98, 102, 110, 114, 116] : Str).toArray⟩ (c.toNat : Int).toNat.toUInt8 = setF c := by
    rw [show (c.toNat : Int).toNat.toUInt8 = c by simp]
    rfl
  rw [e] at hI
  have hk := short_ok c
  unfold shortOk at hk
  have h7 : (⟨#[34, 92, 8, 12, 10, 13, 9]⟩ : ByteArray).data.toList.length = 7 := rfl
  generalize setF c = f at *
  refine absCall_of (pol := polG) mixP F.esc_short_is ?_
  conv => whnf
  by_cases h0 : 0 ≤ f
  · rw [if_pos h0, decide_eq_true_eq] at hk
    repeat' ((first
     | ((with_reducible first | refine Br.dec ?_ ?_ | refine Br.ndec ?_ ?_) <;> intro hb <;> (try simp only [ZZ] at hb) <;> (first | omega | contradiction | skip))
     | (with_reducible first | refine Br.tt rfl ?_ | refine Br.ff rfl ?_ | refine Br.ff (isEmptyCons _ _) ?_)
     | ((with_reducible first | refine Side.mk ?_ ?_ | refine WrapW.mk ?_ ?_); focus (first | omega | (dsimp only [InR, Int.reduceToNat, IntKind.bits, Int.reducePow]; omega) | (rw [h7]; omega) | exact InR.byte _ | (simp [CC]; done) | (constructor <;> omega)))
     | with_reducible refine Br.not ?_
     | (with_reducible first | refine Br.tt (by assumption) ?_ | refine Br.ff (by assumption) ?_)
     | (refine Br.mk ?_ ?_ <;> intro hb <;> (try simp only [ZZ] at hb) <;> (first | omega | contradiction | skip))
     | refine Src.whole ⟨rfl, rfl⟩ ?_ | refine FrzV.whole ?_
     | refine CallW.use (hI) ?_) <;> conv => whnf)
    rw [hk.2]
    exact CLe.eq rfl
  · rw [if_neg h0, decide_eq_true_eq] at hk
    repeat' ((first
     | ((with_reducible first | refine Br.dec ?_ ?_ | refine Br.ndec ?_ ?_) <;> intro hb <;> (try simp only [ZZ] at hb) <;> (first | omega | contradiction | skip))
     | (with_reducible first | refine Br.tt rfl ?_ | refine Br.ff rfl ?_ | refine Br.ff (isEmptyCons _ _) ?_)
     | ((with_reducible first | refine Side.mk ?_ ?_ | refine WrapW.mk ?_ ?_); focus (first | omega | (dsimp only [InR, Int.reduceToNat, IntKind.bits, Int.reducePow]; omega) | (simp [CC]; done) | (constructor <;> omega)))
     | with_reducible refine Br.not ?_
     | (with_reducible first | refine Br.tt (by assumption) ?_ | refine Br.ff (by assumption) ?_)
     | (refine Br.mk ?_ ?_ <;> intro hb <;> (try simp only [ZZ] at hb) <;> (first | omega | contradiction | skip))
     | refine Src.whole ⟨rfl, rfl⟩ ?_ | refine FrzV.whole ?_
     | refine CallW.use (hI) ?_) <;> conv => whnf)
    · rw [if_pos (by omega)] at hk
      rw [hk]
      exact CLe.eq rfl
    all_goals
      rw [if_neg (by omega)] at hk
      rw [hk]
      exact CLe.eq rfl
def polZ : Pol := { keepR := fun _ => false, byref := fun _ => false, mask := fun _ _ => none }
theorem utf_PutZ (bs : Str) (r : Int) (hs : bs.length ≤ 1073741824) : AbsCall PP GG F.utf_Put [.p (.lst false (bs.map byteP)), .p (.int .i64 r)] [] ⟨.ret (.p (.lst false ((bs ++ utfEnc r).map byteP))), [], []⟩ := by
  have hlen : (bs.map byteP).length = bs.length := by simp
  have hgr : utfGood r = true → 0 ≤ r ∧ r ≤ 1114111 := by intro hg; unfold utfGood at hg; rw [decide_eq_true_eq] at hg; omega
  refine absCall_of (pol := polZ) mixP F.utf_Put_is ?_
  conv => whnf
  repeat' ((first
   | ((with_reducible first | refine Br.dec ?_ ?_ | refine Br.ndec ?_ ?_) <;> intro hb <;> (try simp only [ZZ] at hb) <;> (first | omega | skip))
   | (with_reducible first | refine Br.tt rfl ?_ | refine Br.ff rfl ?_ | refine Br.ff (isEmptyCons _ _) ?_)
   | ((with_reducible first | refine Side.mk ?_ ?_ | refine WrapW.mk ?_ ?_); focus (first | omega | (dsimp only [InR, Int.reduceToNat, IntKind.bits, Int.reducePow]; omega) | exact ⟨bytes_cells bs, by simp, by simp; omega⟩ | exact ⟨by simp [PV.cells], by simp, by simp; omega⟩ | (simp [CC]; done) | (constructor <;> omega)))
   | (refine Br.mk ?_ ?_ <;> intro hb <;> (try simp only [ZZ] at hb) <;> (first | omega | skip))
   | refine Src.whole ⟨rfl, rfl⟩ ?_ | refine FrzV.whole ?_
   | refine CallW.use (utf_Good _) ?_
   | refine CallW.use (utf_size _) ?_
   | (refine Src.whole ⟨rfl, by simp⟩ ?_)) <;> conv => whnf)
  · refine CLe.retP (congrArg (PV.lst false) ?_)
    rw [show utfEnc r = [] by unfold utfEnc; rw [if_pos hb]]
    simp
  all_goals
    obtain ⟨hr0, hr1⟩ := hgr ‹utfGood r = true›
    obtain ⟨n, rfl⟩ := Int.eq_ofNat_of_zero_le hr0
    have hng : utfGood (n : Int) ≠ false := by simp_all
    refine CLe.retP (congrArg (PV.lst false) ?_)
    unfold utfEnc
    rw [if_neg hng]
    have q6 : (n : Int) / 2 ^ Int.toNat 6 = ((n / 64 : Nat) : Int) := by show (n : Int) / 64 = _; omega
    have q12 : (n : Int) / 2 ^ Int.toNat 12 = ((n / 4096 : Nat) : Int) := by show (n : Int) / 4096 = _; omega
    have q18 : (n : Int) / 2 ^ Int.toNat 18 = ((n / 262144 : Nat) : Int) := by show (n : Int) / 262144 = _; omega
    have low : ∀ m : Nat, m ≤ 1114111 → iand .i64 (m : Int) 63 = ((m % 64 : Nat) : Int) := by
      intro m hm
      rw [iand63 (by omega) (by omega)]; omega
    have by' : ∀ m : Nat, m ≤ 255 → PV.int .u8 (IntKind.u8.wrap (m : Int)) = byteP (UInt8.ofNat m) := by
      intro m hm
      have := byte_of (x := (m : Int)) (by omega) (by omega)
      simpa using this
    rw [List.map_append, show List.replicate (Int.toNat 0) (PV.int IntKind.u8 0) = [] from rfl, List.nil_append]
    congr 1
  · rw [utfSize_1] at hb
    rw [if_pos hb]
    simp only [List.map_cons, List.map_nil]
    rw [Int.toNat_natCast, by' n (by omega)]
  · rename_i h1
    rw [utfSize_1] at h1
    rw [utfSize_2] at hb
    rw [if_neg h1, if_pos hb.2]
    simp only [List.map_cons, List.map_nil]
    rw [Int.toNat_natCast, q6, low n (by omega), oct_or192 _ (by omega), oct_or128 _ (by omega), by' _ (by omega), by' _ (by omega)]
  · rename_i h1 h2
    rw [utfSize_1] at h1
    rw [utfSize_2] at h2
    rw [utfSize_3] at hb
    rw [if_neg h1, if_neg (by omega), if_pos hb.2]
    simp only [List.map_cons, List.map_nil]
    rw [Int.toNat_natCast, q6, q12, low n (by omega), low (n / 64) (by omega), oct_or224 _ (by omega), oct_or128 _ (by omega), oct_or128 _ (by omega), by' _ (by omega), by' _ (by omega), by' _ (by omega)]
  · rename_i h1 h2
    rw [utfSize_1] at h1
    rw [utfSize_2] at h2
    rw [utfSize_3] at hb
    rw [if_neg h1, if_neg (by omega), if_neg (by omega)]
    simp only [List.map_cons, List.map_nil]
    rw [Int.toNat_natCast, q6, q12, q18, low n (by omega), low (n / 64) (by omega), low (n / 4096) (by omega), oct_or240 _ (by omega), oct_or128 _ (by omega), oct_or128 _ (by omega), oct_or128 _ (by omega), by' _ (by omega), by' _ (by omega), by' _ (by omega), by' _ (by omega)]
theorem esc_start (t : Str) (a : Int) (ha : -1073741824 ≤ a ∧ a ≤ 1073741824) (hs : t.length ≤ 1073741824) : AbsCall PP GG F.esc_start [.p (.str t), .p (.int .i64 a)] [] ⟨.ret (.ptr 0 0), [rdO t (clampL t a) []], []⟩ := by
  have e : (if (t.length : Int) < (if 0 > a then 0 else a) then (t.length : Int) else if 0 > a then 0 else a) = clampL t a := by unfold clampL; omega
  refine absCall_of (pol := polG) mixP F.esc_start_is ?_
  conv => whnf
  repeat' ((first
   | ((with_reducible first | refine Br.dec ?_ ?_ | refine Br.ndec ?_ ?_) <;> intro hb <;> (try simp only [ZZ] at hb) <;> (first | omega | contradiction | skip))
   | (with_reducible first | refine Br.tt rfl ?_ | refine Br.ff rfl ?_ | refine Br.ff (isEmptyCons _ _) ?_)
   | ((with_reducible first | refine Side.mk ?_ ?_ | refine WrapW.mk ?_ ?_); focus (first | omega | (dsimp only [InR, Int.reduceToNat, IntKind.bits, Int.reducePow]; omega) | (simp [CC]; done) | (constructor <;> omega)))
   | with_reducible refine Br.not ?_
   | (with_reducible first | refine Br.tt (by assumption) ?_ | refine Br.ff (by assumption) ?_)
   | (refine Br.mk ?_ ?_ <;> intro hb <;> (try simp only [ZZ] at hb) <;> (first | omega | contradiction | skip))
   | refine Src.whole ⟨rfl, rfl⟩ ?_ | refine FrzV.whole ?_) <;> conv => whnf)
  rw [e]
  refine ⟨OutLe.refl _, ?_, fun _ h => h⟩
  refine HLe.var1 ⟨VLe.refl _, VLe.refl _, ?_, trivial⟩
  exact (PLe.nils false).p
theorem reader_begins (t acc : Str) (a : Int) (c : UInt8) (h0 : 0 ≤ a) (h1 : a ≤ t.length) : AbsCall PP GG F.esc_reader_begins [.ptr 0 0, .p (.str [c])] [rdO t a acc] ⟨.ret (.p (.bool (preB (t.drop a.toNat) c))), [rdO t a acc], []⟩ := by
  refine absCall_of (pol := polG) mixP F.esc_reader_begins_is ?_
  conv => whnf
  repeat' ((first
   | ((with_reducible first | refine Br.dec ?_ ?_ | refine Br.ndec ?_ ?_) <;> intro hb <;> (try simp only [ZZ] at hb) <;> (first | omega | contradiction | skip))
   | (with_reducible first | refine Br.tt rfl ?_ | refine Br.ff rfl ?_ | refine Br.ff (isEmptyCons _ _) ?_)
   | ((with_reducible first | refine Side.mk ?_ ?_ | refine WrapW.mk ?_ ?_); focus (first | omega | (dsimp only [InR, Int.reduceToNat, IntKind.bits, Int.reducePow]; omega) | (simp [CC]; done) | (constructor <;> omega)))
   | with_reducible refine Br.not ?_
   | (with_reducible first | refine Br.tt (by assumption) ?_ | refine Br.ff (by assumption) ?_)
   | (refine Br.mk ?_ ?_ <;> intro hb <;> (try simp only [ZZ] at hb) <;> (first | omega | contradiction | skip))
   | refine Src.whole ⟨rfl, rfl⟩ ?_ | refine FrzV.whole ?_
   | refine CallW.use (strings_HasPrefix _ c) ?_) <;> conv => whnf)
  exact CLe.eq rfl
theorem reader_put (t acc : Str) (a x k : Int) (h0 : 0 ≤ a) (h1 : a ≤ 1073741824) (hk : 0 ≤ k ∧ k ≤ 1000) (hacc : acc.length ≤ 1073741824) : AbsCall PP GG F.esc_reader_put [.ptr 0 0, .p (.int .i64 x), .p (.int .i64 k)] [rdO t a acc] ⟨.ret (.p (.bool (putR a acc x k).1)), [rdO t (putR a acc x k).2.1 (putR a acc x k).2.2], []⟩ := by
  have hP := utf_PutZ acc x hacc
  refine absCall_of (pol := polG) mixP F.esc_reader_put_is ?_
  conv => whnf
  repeat' ((first
   | ((with_reducible first | refine Br.dec ?_ ?_ | refine Br.ndec ?_ ?_) <;> intro hb <;> (try simp only [ZZ] at hb) <;> (first | omega | contradiction | skip))
   | (with_reducible first | refine Br.tt rfl ?_ | refine Br.ff rfl ?_ | refine Br.ff (isEmptyCons _ _) ?_)
   | ((with_reducible first | refine Side.mk ?_ ?_ | refine WrapW.mk ?_ ?_); focus (first | omega | (dsimp only [InR, Int.reduceToNat, IntKind.bits, Int.reducePow]; omega) | (simp [CC]; done) | (constructor <;> omega)))
   | with_reducible refine Br.not ?_
   | (with_reducible first | refine Br.tt (by assumption) ?_ | refine Br.ff (by assumption) ?_)
   | (refine Br.mk ?_ ?_ <;> intro hb <;> (try simp only [ZZ] at hb) <;> (first | omega | contradiction | skip))
   | refine Src.whole ⟨rfl, rfl⟩ ?_ | refine FrzV.whole ?_
   | refine CallW.use (utf_Good x) ?_
   | refine CallW.use (hP) ?_) <;> conv => whnf)
  · refine CLe.eq ?_; unfold putR; rw [if_pos hb]; rfl
  · refine CLe.eq ?_; unfold putR; rw [if_neg (by rw [hb]; simp)]; rfl
theorem reader_letter (t acc : Str) (a : Int) (h0 : 0 ≤ a) (h1 : a ≤ t.length) (hs : t.length ≤ 1073741824) (hacc : acc.length ≤ 1073741824) : AbsCall PP GG F.esc_reader_letter [.ptr 0 0] [rdO t a acc] ⟨.ret (.p (.bool (decide (0 < (utfTake (t.drop a.toNat)).2)))), [rdO t (a + (utfTake (t.drop a.toNat)).2) (acc ++ utfEnc (utfTake (t.drop a.toNat)).1)], []⟩ := by
  have hn := utfTake_n (t.drop a.toNat)
  refine absCall_of (pol := polG) mixP F.esc_reader_letter_is ?_
  conv => whnf
  repeat' ((first
   | ((with_reducible first | refine Br.dec ?_ ?_ | refine Br.ndec ?_ ?_) <;> intro hb <;> (try simp only [ZZ] at hb) <;> (first | omega | contradiction | skip))
   | (with_reducible first | refine Br.tt rfl ?_ | refine Br.ff rfl ?_ | refine Br.ff (isEmptyCons _ _) ?_)
   | ((with_reducible first | refine Side.mk ?_ ?_ | refine WrapW.mk ?_ ?_); focus (first | omega | (dsimp only [InR, Int.reduceToNat, IntKind.bits, Int.reducePow]; omega) | (simp [CC]; done) | (constructor <;> omega)))
   | with_reducible refine Br.not ?_
   | (with_reducible first | refine Br.tt (by assumption) ?_ | refine Br.ff (by assumption) ?_)
   | (refine Br.mk ?_ ?_ <;> intro hb <;> (try simp only [ZZ] at hb) <;> (first | omega | contradiction | skip))
   | refine Src.whole ⟨rfl, rfl⟩ ?_ | refine FrzV.whole ?_
   | refine CallW.use (utf_Take _ (by simp only [List.length_drop]; omega)) ?_
   | refine CallW.use (utf_PutZ acc _ hacc) ?_) <;> conv => whnf)
  exact CLe.eq rfl
theorem reader_digits (t acc : Str) (a : Int) (b n : Nat) (hs : t.length ≤ 1073741824) (hb : b ≤ 1073741824) (hn : n ≤ 8) : AbsCall PP GG F.esc_reader_digits [.ptr 0 0, .p (.int .i64 b), .p (.int .i64 n)] [rdO t a acc] ⟨.ret (.tup [.p (.int .i64 (digL t b n).1), .p (.bool (digL t b n).2)]), [rdO t a acc], []⟩ := by
  have hH := esc_Hex ((t.drop (b : Int).toNat).take (((b : Int) + n).toNat - (b : Int).toNat)) (by simp only [List.length_take, List.length_drop]; omega)
  unfold digL
  by_cases h : t.length < b + n
  · rw [if_pos h]
    refine absCall_of (pol := polG) mixP F.esc_reader_digits_is ?_
    conv => whnf
    repeat' ((first
     | ((with_reducible first | refine Br.dec ?_ ?_ | refine Br.ndec ?_ ?_) <;> intro hb <;> (try simp only [ZZ] at hb) <;> (first | omega | contradiction | skip))
     | (with_reducible first | refine Br.tt rfl ?_ | refine Br.ff rfl ?_ | refine Br.ff (isEmptyCons _ _) ?_)
     | ((with_reducible first | refine Side.mk ?_ ?_ | refine WrapW.mk ?_ ?_); focus (first | omega | (dsimp only [InR, Int.reduceToNat, IntKind.bits, Int.reducePow]; omega) | (simp [CC]; done) | (constructor <;> omega)))
     | with_reducible refine Br.not ?_
     | (with_reducible first | refine Br.tt (by assumption) ?_ | refine Br.ff (by assumption) ?_)
     | (refine Br.mk ?_ ?_ <;> intro hb <;> (try simp only [ZZ] at hb) <;> (first | omega | contradiction | skip))
     | refine Src.whole ⟨rfl, rfl⟩ ?_ | refine FrzV.whole ?_) <;> conv => whnf)
    all_goals exact CLe.eq rfl
  · rw [if_neg h]
    refine absCall_of (pol := polG) mixP F.esc_reader_digits_is ?_
    conv => whnf
    repeat' ((first
     | ((with_reducible first | refine Br.dec ?_ ?_ | refine Br.ndec ?_ ?_) <;> intro hb <;> (try simp only [ZZ] at hb) <;> (first | omega | contradiction | skip))
     | (with_reducible first | refine Br.tt rfl ?_ | refine Br.ff rfl ?_ | refine Br.ff (isEmptyCons _ _) ?_)
     | ((with_reducible first | refine Side.mk ?_ ?_ | refine WrapW.mk ?_ ?_); focus (first | omega | (dsimp only [InR, Int.reduceToNat, IntKind.bits, Int.reducePow]; omega) | (simp [CC]; done) | (constructor <;> omega)))
     | with_reducible refine Br.not ?_
     | (with_reducible first | refine Br.tt (by assumption) ?_ | refine Br.ff (by assumption) ?_)
     | (refine Br.mk ?_ ?_ <;> intro hb <;> (try simp only [ZZ] at hb) <;> (first | omega | contradiction | skip))
     | refine Src.whole ⟨rfl, rfl⟩ ?_ | refine FrzV.whole ?_
     | refine CallW.use (hH) ?_) <;> conv => whnf)
    refine CLe.eq ?_
    rw [show (((b : Int) + n).toNat - (b : Int).toNat) = n by omega, Int.toNat_natCast]
    rfl
theorem reader_escape (t acc : Str) (a : Nat) (h1 : a < t.length) (hs : t.length ≤ 1000000) (hacc : acc.length ≤ 1073741824) :
    AbsCall PP GG F.esc_reader_escape [.ptr 0 0] [rdO t a acc] ⟨.ret (.p (.bool (escAt t a acc).1)), [rdO t (escAt t a acc).2.1 (escAt t a acc).2.2], []⟩ := by
  have hS := esc_short (t.getD (a + 1) 0)
  have e1 : ((a : Int) + 1).toNat = a + 1 := by omega
  have e6 : ((a : Int) + 2 + 4).toNat = a + 6 := by omega
  by_cases h2 : a + 1 = t.length
  · rw [escAt_end h2]
    refine absCall_of (pol := polG) mixP F.esc_reader_escape_is ?_
    conv => whnf
    repeat' ((first
     | ((with_reducible first | refine Br.dec ?_ ?_ | refine Br.ndec ?_ ?_) <;> intro hb <;> (try simp only [ZZ] at hb) <;> (first | omega | contradiction | skip))
     | (with_reducible first | refine Br.tt rfl ?_ | refine Br.ff rfl ?_ | refine Br.ff (isEmptyCons _ _) ?_)
     | ((with_reducible first | refine Side.mk ?_ ?_ | refine WrapW.mk ?_ ?_); focus (first | omega | (dsimp only [InR, Int.reduceToNat, IntKind.bits, Int.reducePow]; omega) | (simp [CC]; done) | (constructor <;> omega)))
     | with_reducible refine Br.not ?_
     | (with_reducible first | refine Br.tt (by assumption) ?_ | refine Br.ff (by assumption) ?_)
     | (refine Br.mk ?_ ?_ <;> intro hb <;> (try simp only [ZZ] at hb) <;> (first | omega | contradiction | skip))
     | refine Src.whole ⟨rfl, rfl⟩ ?_ | refine FrzV.whole ?_) <;> conv => whnf)
    exact CLe.eq rfl
  · cases hsh : shortL (t.getD (a + 1) 0) with
    | some x =>
      rw [hsh] at hS
      rw [escAt_short h2 hsh]
      have hP := reader_put t acc a x 2 (by omega) (by omega) (by omega) hacc
      refine absCall_of (pol := polG) mixP F.esc_reader_escape_is ?_
      conv => whnf
      repeat' ((first
       | ((with_reducible first | refine Br.dec ?_ ?_ | refine Br.ndec ?_ ?_) <;> intro hb <;> (try simp only [ZZ] at hb) <;> (first | omega | contradiction | skip))
       | (with_reducible first | refine Br.tt rfl ?_ | refine Br.ff rfl ?_ | refine Br.ff (isEmptyCons _ _) ?_)
       | ((with_reducible first | refine Side.mk ?_ ?_ | refine WrapW.mk ?_ ?_); focus (first | omega | (dsimp only [InR, Int.reduceToNat, IntKind.bits, Int.reducePow]; omega) | (simp [CC]; done) | (constructor <;> omega)))
       | with_reducible refine Br.not ?_
       | (with_reducible first | refine Br.tt (by assumption) ?_ | refine Br.ff (by assumption) ?_)
       | (refine Br.mk ?_ ?_ <;> intro hb <;> (try simp only [ZZ] at hb) <;> (first | omega | contradiction | skip))
       | refine Src.whole ⟨rfl, rfl⟩ ?_ | refine FrzV.whole ?_
       | refine CallW.use (hS) ?_
       | refine CallW.use (hP) ?_) <;> conv => whnf)
      exact CLe.eq rfl
    | none =>
      rw [hsh] at hS
      have hE := escAt_u (acc := acc) h2 hsh
      have hD := reader_digits t acc a (a + 2) 4 (by omega) (by omega) (by omega)
      have hD8 := reader_digits t acc a (a + 8) 4 (by omega) (by omega) (by omega)
      have hl4 := @digL_lt t (a + 2)
      have hl8 := @digL_lt t (a + 8)
      have hP6 := fun x => reader_put t acc a x 6 (by omega) (by omega) (by omega) hacc
      have hP12 := fun x => reader_put t acc a x 12 (by omega) (by omega) (by omega) hacc
      generalize digL t (a + 2) 4 = d at *
      generalize digL t (a + 8) 4 = e at *
      obtain ⟨x, ok⟩ := d
      obtain ⟨y, ok2⟩ := e
      generalize escAt t a acc = R at *
      simp only [] at hE hl4 hl8
      have hF1 : ¬ ((t.getD (a + 1) 0).toNat : Int) = 117 → R = (false, (a : Int), acc) := fun h => by rw [hE, if_pos (Or.inl h)]
      have hF2 : ok = false → R = (false, (a : Int), acc) := fun h => by rw [hE, if_pos (Or.inr h)]
      have hX : ((t.getD (a + 1) 0).toNat : Int) = 117 → ok = true → (x < 55296 ∨ 56320 ≤ x) → R = putR a acc x 6 := fun h h' h2 => by rw [hE, if_neg (fun hh => hh.elim (fun g => g h) (fun g => by rw [h'] at g; cases g)), if_pos h2]
      have hY : ((t.getD (a + 1) 0).toNat : Int) = 117 → ok = true → ¬ x < 55296 → ¬ 56320 ≤ x → (ok2 = false ∨ ¬ (t.drop (a + 6)).take 2 = [92, 117] ∨ y < 56320 ∨ 57343 < y) → R = (false, (a : Int), acc) := fun h h' h2 h3 h4 => by rw [hE, if_neg (fun hh => hh.elim (fun g => g h) (fun g => by rw [h'] at g; cases g)), if_neg (fun hh => hh.elim h2 h3), if_pos h4]
      have hZ : ((t.getD (a + 1) 0).toNat : Int) = 117 → ok = true → ¬ x < 55296 → ¬ 56320 ≤ x → ok2 = true → (t.drop (a + 6)).take 2 = [92, 117] → ¬ y < 56320 → ¬ 57343 < y → R = putR a acc (65536 + (x - 55296) * 1024 + (y - 56320)) 12 := fun h h' h2 h3 h4 h5 h6 h7 => by rw [hE, if_neg (fun hh => hh.elim (fun g => g h) (fun g => by rw [h'] at g; cases g)), if_neg (fun hh => hh.elim h2 h3), if_neg (fun hh => hh.elim (fun g => by rw [h4] at g; cases g) (fun hh => hh.elim (fun g => g h5) (fun hh => hh.elim h6 h7)))]
      have e8 : ((a : Int) + 2 + 4 + 2).toNat = a + 8 := by omega
      have e86 : a + 8 - (a + 6) = 2 := by omega
      clear hE
      refine absCall_of (pol := polG) mixP F.esc_reader_escape_is ?_
      conv => whnf
      repeat' ((first
       | ((with_reducible first | refine Br.dec ?_ ?_ | refine Br.ndec ?_ ?_) <;> intro hb <;> (try simp only [And.intro @e1 (And.intro @e8 (And.intro @e6 (And.intro @e86 (ZZ))))] at hb) <;> (first | omega | contradiction | skip))
       | (with_reducible first | refine Br.tt rfl ?_ | refine Br.ff rfl ?_ | refine Br.ff (isEmptyCons _ _) ?_)
       | ((with_reducible first | refine Side.mk ?_ ?_ | refine WrapW.mk ?_ ?_); focus (first | omega | (dsimp only [InR, Int.reduceToNat, IntKind.bits, Int.reducePow]; omega) | (have := hl8 (by assumption); omega) | (simp [CC]; done) | (constructor <;> omega)))
       | with_reducible refine Br.not ?_
       | (with_reducible first | refine Br.tt (by assumption) ?_ | refine Br.ff (by assumption) ?_)
       | (refine Br.mk ?_ ?_ <;> intro hb <;> (try simp only [And.intro @e1 (And.intro @e8 (And.intro @e6 (And.intro @e86 (ZZ))))] at hb) <;> (first | omega | contradiction | skip))
       | refine Src.whole ⟨rfl, rfl⟩ ?_ | refine FrzV.whole ?_
       | refine CallW.use (hS) ?_
       | refine CallW.use (hD) ?_
       | refine CallW.use (hD8) ?_
       | refine CallW.use (hP6 _) ?_
       | refine CallW.use (hP12 _) ?_) <;> conv => whnf)
      all_goals
        first
        | rw [hF1 (by assumption)]
        | rw [hF2 (by assumption)]
        | rw [hX (by assumption) (by assumption) (.inl (by assumption))]
        | rw [hX (by assumption) (by assumption) (.inr (by assumption))]
        | rw [hY (by assumption) (by assumption) (by assumption) (by assumption) (.inl (by assumption))]
        | rw [hY (by assumption) (by assumption) (by assumption) (by assumption) (.inr (.inl (by assumption)))]
        | rw [hY (by assumption) (by assumption) (by assumption) (by assumption) (.inr (.inr (.inl (by assumption))))]
        | rw [hY (by assumption) (by assumption) (by assumption) (by assumption) (.inr (.inr (.inr (by assumption))))]
        | rw [hZ (by assumption) (by assumption) (by assumption) (by assumption) (by assumption) (by assumption) (by assumption) (by assumption)]
        | skip
        exact CLe.eq rfl
theorem unq_loop (t : Str) (hs : t.length ≤ 1000000) (R : Str × Int × Int) (K : Post)
    (h0 : R = ([], 0, (t.length : Int)) → ∀ a acc, K (.exit 0) [(0, .p (.str t))] [rdO t a acc] [])
    (hr : ∀ a acc, K .ret [(4, .p (.str R.1)), (5, .p (.int .i64 R.2.1)), (6, .p (.int .i64 R.2.2))] [rdO t a acc] []) :
    ∀ (q a : Nat) (acc : Str), t.length < a + q → acc.length ≤ 4 * a → a ≤ t.length → unqL q t a acc = R →
      LoopW PP GG 82 0 (loopN F.esc_Unquote_c 0) [(0, .p (.str t)), (7, .ptr 0 0)] [rdO t a acc] [] (PostCl 82 K) := by
  intro q
  induction q with
  | zero => intro a acc hq _ hal; omega
  | succ q ih =>
    intro a acc hq hacc hal hR
    rw [unqL] at hR
    by_cases hl : t.length ≤ a
    · rw [if_pos hl] at hR
      refine LoopW.round (pol := polG) mixP ?_
      conv => whnf
      repeat' ((first
       | ((with_reducible first | refine Br.dec ?_ ?_ | refine Br.ndec ?_ ?_) <;> intro hb <;> (try simp only [ZZ] at hb) <;> (first | omega | contradiction | skip))
       | (with_reducible first | refine Br.tt rfl ?_ | refine Br.ff rfl ?_ | refine Br.ff (isEmptyCons _ _) ?_)
       | ((with_reducible first | refine Side.mk ?_ ?_ | refine WrapW.mk ?_ ?_); focus (first | omega | (dsimp only [InR, Int.reduceToNat, IntKind.bits, Int.reducePow]; omega) | (simp [CC]; done) | (constructor <;> omega)))
       | with_reducible refine Br.not ?_
       | (with_reducible first | refine Br.tt (by assumption) ?_ | refine Br.ff (by assumption) ?_)
       | (refine Br.mk ?_ ?_ <;> intro hb <;> (try simp only [ZZ] at hb) <;> (first | omega | contradiction | skip))
       | refine Src.whole ⟨rfl, rfl⟩ ?_ | refine FrzV.whole ?_) <;> conv => whnf)
      · refine PostCl.of (h0 hR.symm _ _) ?_ ?_
        · repeat first | exact trivial | refine ⟨VLe.refl _, ?_⟩
        · repeat first | exact trivial | refine ⟨by decide, ?_⟩
    · rw [if_neg hl] at hR
      have hE := reader_escape t acc a (by omega) (by omega) (by omega)
      have hL := reader_letter t acc a (by omega) (by omega) (by omega) (by omega)
      have hok := @escAt_ok t a acc (by omega)
      have hno := @escAt_no t a acc
      have hn := utfTake_n (t.drop a)
      have hn1 := utfEnc_len4 (utfTake (t.drop a)).1
      rw [List.length_drop] at hn
      rw [Int.toNat_natCast] at hL
      generalize escAt t a acc = E at *
      obtain ⟨n, hn2⟩ := Int.eq_ofNat_of_zero_le (show 0 ≤ (utfTake (t.drop a)).2 by omega)
      rw [hn2] at hn hL hR
      refine LoopW.round (pol := polG) mixP ?_
      conv => whnf
      repeat' ((first
       | ((with_reducible first | refine Br.dec ?_ ?_ | refine Br.ndec ?_ ?_) <;> intro hb <;> (try simp only [And.intro @Int.toNat_natCast (ZZ)] at hb) <;> (first | omega | contradiction | skip))
       | (with_reducible first | refine Br.tt rfl ?_ | refine Br.ff rfl ?_ | refine Br.ff (isEmptyCons _ _) ?_)
       | ((with_reducible first | refine Side.mk ?_ ?_ | refine WrapW.mk ?_ ?_); focus (first | omega | (dsimp only [InR, Int.reduceToNat, IntKind.bits, Int.reducePow]; omega) | (simp [CC]; done) | (constructor <;> omega)))
       | with_reducible refine Br.not ?_
       | (with_reducible first | refine Br.tt (by assumption) ?_ | refine Br.ff (by assumption) ?_)
       | (refine Br.mk ?_ ?_ <;> intro hb <;> (try simp only [And.intro @Int.toNat_natCast (ZZ)] at hb) <;> (first | omega | contradiction | skip))
       | refine Src.whole ⟨rfl, rfl⟩ ?_ | refine FrzV.whole ?_
       | refine CallW.use (hE) ?_
       | refine CallW.use (hL) ?_
       | (refine Bytes.mk' rfl ?_)) <;> conv => whnf)
      · rw [if_pos (by omega)] at hR
        subst hR
        refine PostCl.of (hr _ _) ?_ ?_
        · repeat first | exact trivial | refine ⟨VLe.refl _, ?_⟩
        · repeat first | exact trivial | refine ⟨by decide, ?_⟩
      · rw [if_neg (by omega), if_pos (by omega)] at hR
        subst hR
        refine PostCl.of (hr _ _) ?_ ?_
        · repeat first | exact trivial | refine ⟨VLe.refl _, ?_⟩
        · repeat first | exact trivial | refine ⟨by decide, ?_⟩
      · obtain ⟨k, x, hEq, hk, hkl⟩ := hok hb
        rw [if_neg (by omega), if_neg (by omega), if_pos (by omega), if_pos hb] at hR
        have := utfEnc_len4 x
        subst hEq
        rw [Int.toNat_natCast] at hR
        refine LoopW.sub (ih (a + k) (acc ++ utfEnc x) (by omega) (by rw [List.length_append]; omega) (by omega) hR) (by repeat first | exact trivial | refine ⟨VLe.refl _, ?_⟩) (by repeat first | exact trivial | refine ⟨by decide, ?_⟩)
      · rw [if_neg (by omega), if_neg (by omega), if_pos (by omega), if_neg (by rw [hb]; simp)] at hR
        rw [hno hb]
        subst hR
        refine PostCl.of (hr _ _) ?_ ?_
        · repeat first | exact trivial | refine ⟨VLe.refl _, ?_⟩
        · repeat first | exact trivial | refine ⟨by decide, ?_⟩
      · rw [if_neg (by omega), if_neg (by omega), if_neg (by omega), if_pos (by omega)] at hR
        rw [show (a : Int) + (n : Int) = a by omega]
        subst hR
        refine PostCl.of (hr _ _) ?_ ?_
        · repeat first | exact trivial | refine ⟨VLe.refl _, ?_⟩
        · repeat first | exact trivial | refine ⟨by decide, ?_⟩
      · rw [if_neg (by omega), if_neg (by omega), if_neg (by omega), if_neg (by omega), Int.toNat_natCast] at hR
        refine LoopW.sub (ih (a + n) _ (by omega) (by rw [List.length_append]; omega) (by omega) hR) (by repeat first | exact trivial | refine ⟨VLe.refl _, ?_⟩) (by repeat first | exact trivial | refine ⟨by decide, ?_⟩)
theorem esc_Unquote (t : Str) (a : Int) (ha : -1073741824 ≤ a ∧ a ≤ 1073741824) (hs : t.length ≤ 1000000) : AbsCall PP GG F.esc_Unquote [.p (.str t), .p (.int .i64 a)] [] ⟨.ret (.tup [.p (.str (unquoteL t a).1), .p (.int .i64 (unquoteL t a).2.1), .p (.int .i64 (unquoteL t a).2.2)]), [], []⟩ := by
  have hS := esc_start t a ha (by omega)
  have hc := clampL_le t a
  have hB := reader_begins t [] (clampL t a) 34 hc.1 hc.2
  unfold unquoteL
  generalize clampL t a = c at *
  obtain ⟨c, rfl⟩ := Int.eq_ofNat_of_zero_le hc.1
  have hpl := @preB_len (t.drop c) 34
  rw [List.length_drop] at hpl
  rw [Int.toNat_natCast] at hB ⊢
  refine absCall_of (pol := polG) mixP F.esc_Unquote_is ?_
  conv => whnf
  repeat' ((first
   | ((with_reducible first | refine Br.dec ?_ ?_ | refine Br.ndec ?_ ?_) <;> intro hb <;> (try simp only [ZZ] at hb) <;> (first | omega | contradiction | skip))
   | (with_reducible first | refine Br.tt rfl ?_ | refine Br.ff rfl ?_ | refine Br.ff (isEmptyCons _ _) ?_)
   | ((with_reducible first | refine Side.mk ?_ ?_ | refine WrapW.mk ?_ ?_); focus (first | omega | (dsimp only [InR, Int.reduceToNat, IntKind.bits, Int.reducePow]; omega) | (simp [CC]; done) | (constructor <;> omega)))
   | with_reducible refine Br.not ?_
   | (with_reducible first | refine Br.tt (by assumption) ?_ | refine Br.ff (by assumption) ?_)
   | (refine Br.mk ?_ ?_ <;> intro hb <;> (try simp only [ZZ] at hb) <;> (first | omega | contradiction | skip))
   | refine Src.whole ⟨rfl, rfl⟩ ?_ | refine FrzV.whole ?_
   | refine CallW.use (hS) ?_
   | refine CallW.use (hB) ?_) <;> conv => whnf)
  · rw [if_pos (Or.inl hb)]; exact CLe.eq rfl
  · have := hpl (by assumption)
    rw [if_neg (fun hh => hh.elim (by assumption) (fun g => by simp_all))]
    refine LoopW.cl ?_
    refine LoopW.sub (unq_loop t hs (unqL (t.length + 1) t (c + 1) []) _ (fun h b acc => ?_) (fun b acc => ?_) (t.length + 1) (c + 1) [] (by omega) (by simp) (by omega) rfl) (by repeat first | exact trivial | refine ⟨VLe.refl _, ?_⟩) (by repeat first | exact trivial | refine ⟨by decide, ?_⟩)
    · conv => whnf
      exact CLe.eq (by rw [h])
    · conv => whnf
      exact CLe.eq rfl
  · rw [if_pos (Or.inr (by assumption))]; exact CLe.eq rfl
end Go.Proofs.YtoinkmogdfjmmaaGreatDoor
end

section
namespace Go.Am
open Go
structure Wd where
  k : Int
  s : Str
  a : Int
deriving DecidableEq
def Wd.enc (w : Wd) : PV := .agg [.int .i64 w.k, .str w.s, .int .i64 w.a]
def signs : Str := [123, 125, 91, 93, 58, 44]
def lowers : Str := [97, 98, 99, 100, 101, 102, 103, 104, 105, 106, 107, 108, 109, 110, 111, 112, 113, 114, 115, 116, 117, 118, 119, 120, 121, 122]
def numBs : Str := [48, 49, 50, 51, 52, 53, 54, 55, 56, 57, 43, 45, 46, 101, 69]
def blanksB : Str := [32, 9, 10, 13]
def wordL (t : Str) (a : Nat) : Wd × Int × Int × Int :=
  if 0 ≤ firstIdx ⟨signs.toArray⟩ (t.getD a 0) then (⟨1, (t.drop a).take 1, a⟩, (a : Int) + 1, 0, 0) else
  if ((t.getD a 0).toNat : Int) = 34 then
    (if 0 ≤ (unquoteL t a).2.2 then (⟨0, [], 0⟩, 0, 4, (unquoteL t a).2.2) else
     if 4096 < ((unquoteL t a).1.length : Int) then (⟨0, [], 0⟩, 0, 2, (a : Int)) else
     (⟨2, (unquoteL t a).1, a⟩, (unquoteL t a).2.1, 0, 0)) else
  if 97 ≤ ((t.getD a 0).toNat : Int) ∧ ((t.getD a 0).toNat : Int) ≤ 122 then
    (if ¬ (t.drop a).take (whileL (t.drop a) lowers) = [116, 114, 117, 101] ∧ ¬ (t.drop a).take (whileL (t.drop a) lowers) = [102, 97, 108, 115, 101] ∧ ¬ (t.drop a).take (whileL (t.drop a) lowers) = [110, 117, 108, 108] then (⟨0, [], 0⟩, 0, 4, (a : Int)) else
     (⟨4, (t.drop a).take (whileL (t.drop a) lowers), a⟩, (a : Int) + whileL (t.drop a) lowers, 0, 0)) else
  if whileL (t.drop a) numBs = 0 then (⟨0, [], 0⟩, 0, 4, (a : Int)) else
  if jnumL ((t.drop a).take (whileL (t.drop a) numBs)) ≠ 0 then (⟨0, [], 0⟩, 0, jnumL ((t.drop a).take (whileL (t.drop a) numBs)), (a : Int)) else
  (⟨3, (t.drop a).take (whileL (t.drop a) numBs), a⟩, (a : Int) + whileL (t.drop a) numBs, 0, 0)
def faultP (t : Str) (a e : Int) : PV := .agg [.int .i64 e, .int .i64 (clampL t a), .int .i64 (placeL t a).1, .int .i64 (placeL t a).2]
def noFault : PV := .agg [.int .i64 0, .int .i64 0, .int .i64 0, .int .i64 0]
def judgeS (t : Str) : Int × Int := if 65536 < t.length then (2, t.length) else if (utfValid t).2 = false then (3, (utfValid t).1) else (0, 0)
def faultE (t : Str) (e : Int × Int) : PV := if e.1 = 0 then noFault else faultP t e.2 e.1
def judgeF (t : Str) : PV := faultE t (judgeS t)
theorem while_ascii (s : Str) (c : Str) (h : c.all (fun b => decide (b.toNat < 128)) = true) : ∀ (j : Nat) (b : UInt8), (s.take (whileL s c))[j]? = some b → b.toNat < 128 := by
  intro j b hb
  have hm := List.mem_of_getElem? hb
  have : s.take (whileL s c) = s.takeWhile (c.contains ·) := by
    unfold whileL
    exact (List.prefix_iff_eq_take.1 (List.takeWhile_prefix _)).symm
  rw [this] at hm
  have hc := List.all_eq_true.1 List.all_takeWhile b hm
  simp only [List.contains_iff_mem, List.elem_eq_mem, decide_eq_true_eq] at hc
  have := List.all_eq_true.1 h b hc
  simpa using this
theorem utfScan_le : ∀ (q : Nat) (s : Str) (a : Int), s.length ≤ q → a ≤ (utfScan q s a).1 ∧ ((utfScan q s a).2 = false → (utfScan q s a).1 ≤ a + s.length)
  | 0, s, a, _ => by rw [utfScan]; simp
  | q + 1, [], a, _ => by rw [utfScan]; simp
  | q + 1, c :: cs, a, h => by
    rw [utfScan]
    have hn := utfTake_n (c :: cs)
    split
    · simp only [List.length_cons]; omega
    · have := utfScan_le q ((c :: cs).drop (utfTake (c :: cs)).2.toNat) (a + (utfTake (c :: cs)).2) (by rw [List.length_drop]; simp only [List.length_cons] at h ⊢; omega)
      rw [List.length_drop] at this
      refine ⟨by omega, fun hh => ?_⟩
      have := this.2 hh
      simp only [List.length_cons] at *
      omega
theorem utfValid_le (s : Str) (h : (utfValid s).2 = false) : 0 ≤ (utfValid s).1 ∧ (utfValid s).1 ≤ s.length := by
  have := utfScan_le s.length s 0 (Nat.le_refl _)
  have := this.2 h
  unfold utfValid
  omega
end Go.Am
end

section
namespace Go.Proofs.YtoinkmogdfjmmaaGreatDoor
open Go Go.Am Go.RowKit
set_option maxRecDepth 100000
theorem jlex_Judge (t : Str) (hs : t.length ≤ 1073741824) : AbsCall PP GG F.jlex_Judge [.p (.str t)] [] ⟨.ret (.p (judgeF t)), [], []⟩ := by
  have hF1 := place_Fault t t.length 2 (by omega) hs
  have hV := utf_Valid t hs
  have hF2 := fun h => place_Fault t (utfValid t).1 3 (by have := utfValid_le t h; omega) hs
  unfold judgeF judgeS
  refine absCall_of (pol := polG) mixP F.jlex_Judge_is ?_
  conv => whnf
  repeat' ((first
   | ((with_reducible first | refine Br.dec ?_ ?_ | refine Br.ndec ?_ ?_) <;> intro hb <;> (try simp only [ZZ] at hb) <;> (first | omega | contradiction | skip))
   | (with_reducible first | refine Br.tt rfl ?_ | refine Br.ff rfl ?_ | refine Br.ff (isEmptyCons _ _) ?_)
   | ((with_reducible first | refine Side.mk ?_ ?_ | refine WrapW.mk ?_ ?_); focus (first | omega | (dsimp only [InR, Int.reduceToNat, IntKind.bits, Int.reducePow]; omega) | (simp [CC]; done) | (constructor <;> omega)))
   | with_reducible refine Br.not ?_
   | (with_reducible first | refine Br.tt (by assumption) ?_ | refine Br.ff (by assumption) ?_)
   | (refine Br.mk ?_ ?_ <;> intro hb <;> (try simp only [ZZ] at hb) <;> (first | omega | contradiction | skip))
   | refine Src.whole ⟨rfl, rfl⟩ ?_ | refine FrzV.whole ?_
   | refine CallW.use (hF1) ?_
   | refine CallW.use (hV) ?_
   | refine CallW.use (hF2 (by assumption)) ?_) <;> conv => whnf)
  · rw [if_pos (by omega)]; exact CLe.eq rfl
  · rw [if_neg (by omega), if_neg (by simp [*])]; exact CLe.eq rfl
  · rw [if_neg (by omega), if_pos (by assumption)]; exact CLe.eq rfl
theorem jlex_word (t : Str) (a : Nat) (h1 : a < t.length) (hs : t.length ≤ 1000000) : AbsCall PP GG F.jlex_word [.p (.str t), .p (.int .i64 a)] []
    ⟨.ret (.tup [.p (wordL t a).1.enc, .p (.int .i64 (wordL t a).2.1), .p (.int .i64 (wordL t a).2.2.1), .p (.int .i64 (wordL t a).2.2.2)]), [], []⟩ := by
  have hg : t.getD a 0 = (t.drop a).getD 0 0 := by simp [List.getD]
  have hI := strings_IndexByte signs ((t.drop a).getD 0 0).toNat
  rw [show (((t.drop a).getD 0 0).toNat : Int).toNat.toUInt8 = (t.drop a).getD 0 0 by simp] at hI
  have hU := esc_Unquote t a (by omega) hs
  have hdl : (t.drop a).length = t.length - a := List.length_drop
  have hWl := jlex_while (t.drop a) lowers (by omega) (by decide) (by decide)
  have hWn := jlex_while (t.drop a) numBs (by omega) (by decide) (by decide)
  have hl1 := whileL_le (t.drop a) lowers
  have hl2 := whileL_le (t.drop a) numBs
  have hN := jlex_number ((t.drop a).take (whileL (t.drop a) numBs)) (by simp only [List.length_take]; omega) (while_ascii _ _ (by decide))
  unfold wordL
  rw [hg]
  generalize unquoteL t a = u at *
  generalize whileL (t.drop a) lowers = wl at *
  generalize whileL (t.drop a) numBs = wn at *
  generalize firstIdx ⟨signs.toArray⟩ ((t.drop a).getD 0 0) = fi at *
  clear hg
  have htl : ((t.drop a).take wl).length = wl := by rw [List.length_take]; omega
  have htn : ((t.drop a).take wn).length = wn := by rw [List.length_take]; omega
  have htl' : ((t.drop (a : Int).toNat).take (wl : Int).toNat).length = wl := by rw [Int.toNat_natCast, Int.toNat_natCast]; exact htl
  have htn' : ((t.drop (a : Int).toNat).take (wn : Int).toNat).length = wn := by rw [Int.toNat_natCast, Int.toNat_natCast]; exact htn
  refine absCall_of (pol := polG) mixP F.jlex_word_is ?_
  conv => whnf
  repeat' ((first
   | ((with_reducible first | refine Br.dec ?_ ?_ | refine Br.ndec ?_ ?_) <;> intro hb <;> (try simp only [And.intro NN (And.intro @Int.toNat_natCast (And.intro @htl (And.intro @htn (ZZ))))] at hb) <;> (first | omega | contradiction | skip))
   | (with_reducible first | refine Br.tt rfl ?_ | refine Br.ff rfl ?_ | refine Br.ff (isEmptyCons _ _) ?_)
   | ((with_reducible first | refine Side.mk ?_ ?_ | refine WrapW.mk ?_ ?_); focus (first | omega | (dsimp only [InR, Int.reduceToNat, IntKind.bits, Int.reducePow]; omega) | (rw [Int.toNat_natCast, hdl]; omega) | (rw [Int.toNat_natCast, Int.toNat_natCast, List.length_take]; constructor <;> omega) | (simp [CC]; done) | (constructor <;> omega)))
   | with_reducible refine Br.not ?_
   | (with_reducible first | refine Br.tt (by assumption) ?_ | refine Br.ff (by assumption) ?_)
   | (refine Br.mk ?_ ?_ <;> intro hb <;> (try simp only [And.intro NN (And.intro @Int.toNat_natCast (And.intro @htl (And.intro @htn (ZZ))))] at hb) <;> (first | omega | contradiction | skip))
   | refine Src.whole ⟨rfl, rfl⟩ ?_ | refine FrzV.whole ?_
   | refine CallW.use (hI) ?_
   | refine CallW.use (hU) ?_
   | refine CallW.use (hWl) ?_
   | refine CallW.use (hWn) ?_
   | refine CallW.use (hN) ?_) <;> conv => whnf)
  all_goals
    first
    | (rw [if_pos (by assumption)]; exact CLe.eq rfl)
    | (rw [if_neg (by assumption), if_pos (by assumption), if_pos (by assumption)]; exact CLe.eq rfl)
    | (rw [if_neg (by assumption), if_pos (by assumption), if_neg (by assumption), if_pos (by assumption)]; exact CLe.eq rfl)
    | (rw [if_neg (by assumption), if_pos (by assumption), if_neg (by assumption), if_neg (by assumption)]; exact CLe.eq rfl)
    | (rw [if_neg (by assumption), if_neg (by assumption), if_pos ⟨by assumption, by assumption⟩, if_pos ⟨by assumption, by assumption, by assumption⟩]; exact CLe.eq rfl)
    | (rw [if_neg (by assumption), if_neg (by assumption), if_pos ⟨by assumption, by assumption⟩, if_neg (fun h => h.1 (by assumption)), htl']; exact CLe.eq rfl)
    | (rw [if_neg (by assumption), if_neg (by assumption), if_pos ⟨by assumption, by assumption⟩, if_neg (fun h => h.2.1 (by assumption)), htl']; exact CLe.eq rfl)
    | (rw [if_neg (by assumption), if_neg (by assumption), if_pos ⟨by assumption, by assumption⟩, if_neg (fun h => h.2.2 (by assumption)), htl']; exact CLe.eq rfl)
    | (rw [if_neg (by assumption), if_neg (by assumption), if_neg (by omega), if_pos (by omega)]; exact CLe.eq rfl)
    | (rw [if_neg (by assumption), if_neg (by assumption), if_neg (by omega), if_neg (by omega), if_pos (by assumption)]; exact CLe.eq rfl)
    | (rw [if_neg (by assumption), if_neg (by assumption), if_neg (by omega), if_neg (by omega), if_neg (by omega), htn']; exact CLe.eq rfl)
end Go.Proofs.YtoinkmogdfjmmaaGreatDoor
end

section
namespace Go.Am
open Go
theorem escAt_bound {t : Str} {a : Nat} {acc : Str} (ha : a < t.length) (h : (escAt t a acc).1 = true) : a < (escAt t a acc).2.1.toNat ∧ (escAt t a acc).2.1.toNat ≤ t.length := by
  obtain ⟨k, x, h1, h2, h3⟩ := escAt_ok ha h
  rw [h1, Int.toNat_natCast]
  omega
theorem unqL_bound : ∀ (q : Nat) (t : Str) (a : Nat) (acc : Str), a ≤ t.length →
    ((unqL q t a acc).2.2 < 0 → (a : Int) < (unqL q t a acc).2.1 ∧ (unqL q t a acc).2.1 ≤ t.length) ∧ (unqL q t a acc).2.2 ≤ t.length
  | 0, t, a, acc, ha => by rw [unqL]; simp only []; omega
  | q + 1, t, a, acc, ha => by
    rw [unqL]
    split
    · simp only []; omega
    · split
      · simp only []; omega
      · split
        · simp only []; omega
        · split
          · split
            · rename_i h
              have hb := escAt_bound (acc := acc) (show a < t.length by omega) h
              have := unqL_bound q t (escAt t a acc).2.1.toNat (escAt t a acc).2.2 hb.2
              refine ⟨fun hh => ?_, this.2⟩
              have := this.1 hh
              omega
            · simp only []; omega
          · split
            · simp only []; omega
            · have hn := utfTake_n (t.drop a)
              rw [List.length_drop] at hn
              have := unqL_bound q t (a + (utfTake (t.drop a)).2.toNat) (acc ++ utfEnc (utfTake (t.drop a)).1) (by omega)
              refine ⟨fun hh => ?_, this.2⟩
              have := this.1 hh
              omega
theorem unquoteL_bound (t : Str) (a : Nat) (ha : a < t.length) :
    ((unquoteL t a).2.2 < 0 → (a : Int) < (unquoteL t a).2.1 ∧ (unquoteL t a).2.1 ≤ t.length) ∧ (unquoteL t a).2.2 ≤ t.length := by
  have hc : clampL t a = a := by unfold clampL; omega
  unfold unquoteL
  rw [hc, Int.toNat_natCast]
  split
  · simp only []; omega
  · have := unqL_bound (t.length + 1) t (a + 1) [] (by omega)
    refine ⟨fun hh => ?_, this.2⟩
    have := this.1 hh
    omega
theorem whileL_pos {s c : Str} (h : 0 < s.length) (hc : c.contains (s.getD 0 0) = true) : 0 < whileL s c := by
  cases s with
  | nil => simp at h
  | cons b s =>
    unfold whileL
    rw [List.takeWhile_cons]
    rw [show (b :: s).getD 0 0 = b from rfl] at hc
    rw [if_pos hc]
    simp
theorem lower_mem (b : UInt8) (h : 97 ≤ (b.toNat : Int) ∧ (b.toNat : Int) ≤ 122) : lowers.contains b = true := by
  have key : ∀ n : Nat, n < 256 → 97 ≤ n ∧ n ≤ 122 → lowers.contains n.toUInt8 = true := by decide +kernel
  have := key b.toNat (UInt8.toNat_lt b) (by omega)
  rwa [show b.toNat.toUInt8 = b by simp] at this
theorem jnumL_le (s : Str) : 0 ≤ jnumL s ∧ jnumL s ≤ 6 := by
  unfold jnumL
  repeat' split
  all_goals omega
theorem wordL_bound (t : Str) (a : Nat) (ha : a < t.length) :
    ((wordL t a).2.2.1 = 0 → (a : Int) < (wordL t a).2.1 ∧ (wordL t a).2.1 ≤ t.length) ∧
    ((wordL t a).2.2.1 ≠ 0 → 0 ≤ (wordL t a).2.2.2 ∧ (wordL t a).2.2.2 ≤ t.length) ∧ 0 ≤ (wordL t a).2.2.1 ∧ (wordL t a).2.2.1 ≤ 6 := by
  have hU := unquoteL_bound t a ha
  have hdl : (t.drop a).length = t.length - a := List.length_drop
  have hl1 := whileL_le (t.drop a) lowers
  have hl2 := whileL_le (t.drop a) numBs
  have hg : (t.drop a).getD 0 0 = t.getD a 0 := by simp [List.getD]
  have hp := fun h => whileL_pos (s := t.drop a) (c := lowers) (by omega) h
  rw [hg] at hp
  have hj := jnumL_le ((t.drop a).take (whileL (t.drop a) numBs))
  unfold wordL
  split
  · simp only []; omega
  · split
    · split
      · simp only []; omega
      · split
        · simp only []; omega
        · have := hU.1 (by omega)
          simp only []; omega
    · split
      · rename_i h
        have := hp (lower_mem _ h)
        split
        · simp only []; omega
        · simp only []; omega
      · split
        · simp only []; omega
        · split
          · simp only []; omega
          · simp only []; omega
def cutL : Nat → Str → Nat → List Wd → List Wd × Int × Int
  | 0, _, _, acc => (acc, 0, 0)
  | q + 1, t, a, acc =>
    if t.length ≤ a then (acc, 0, 0) else
    if (wordL t a).2.2.1 ≠ 0 then ([], (wordL t a).2.2.1, (wordL t a).2.2.2) else
    cutL q t ((wordL t a).2.1.toNat + whileL (t.drop (wordL t a).2.1.toNat) blanksB) (acc ++ [(wordL t a).1])
def cutT (t : Str) : List Wd × Int × Int :=
  if (judgeS t).1 ≠ 0 then ([], judgeS t) else
  if (cutL (t.length + 1) t (whileL t blanksB) []).2.1 ≠ 0 then ([], (cutL (t.length + 1) t (whileL t blanksB) []).2) else
  ((cutL (t.length + 1) t (whileL t blanksB) []).1 ++ [⟨0, [], t.length⟩], 0, 0)
theorem cutL_len : ∀ (q : Nat) (t : Str) (a : Nat) (acc : List Wd), a ≤ t.length → acc.length ≤ a → (cutL q t a acc).1.length ≤ t.length
  | 0, t, a, acc, ha, hl => by rw [cutL]; simp only []; omega
  | q + 1, t, a, acc, ha, hl => by
    rw [cutL]
    split
    · simp only []; omega
    · have hb := wordL_bound t a (by omega)
      split
      · simp only [List.length_nil]; omega
      · have := whileL_le (t.drop (wordL t a).2.1.toNat) blanksB
        rw [List.length_drop] at this
        have := hb.1 (by omega)
        exact cutL_len q t _ _ (by omega) (by rw [List.length_append]; simp only [List.length_cons, List.length_nil]; omega)
theorem Wd.enc_side (w : Wd) : ∀ y : PV, y ∈ [w.enc] → y.cells.length = 3 ∧ ∀ c : PV, c ∈ y.cells → c.leaf = true := by
  intro y hy
  rw [List.mem_singleton] at hy
  subst hy
  refine ⟨rfl, fun c hc => ?_⟩
  simp only [Wd.enc, PV.cells, List.mem_cons, List.mem_nil_iff, or_false] at hc
  rcases hc with rfl | rfl | rfl <;> rfl
end Go.Am
end
