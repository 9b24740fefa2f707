/-
The walks through what the reference writes: strings.
-/
import Derived.Test.YtoinkmogdfjmmaaGreatDoorPF
import Derived.Shelf.Strconv.ParseIntPublic10
import Derived.Test.YtoinkmogdfjmmaaGreatDoorProg
import Derived.Lib.IndexAny
import Derived.Lib.ParseIntBCases
import Derived.Test.YtoinkmogdfjmmaaGreatDoorPE
import Derived.Lib.SlTrimSet
import Derived.Lib.LastIndexByte

section
namespace Go.Proofs.YtoinkmogdfjmmaaGreatDoor
open Go Go.Am
set_option maxRecDepth 100000
theorem ElemZ.ints {l : List Int} {i : Nat} {K : PV → Prop} {x : Int} (h : l[i]? = some x) (k : K (.int .i64 x)) : ElemZ (l.map intP) i 1 K := ⟨_, by rw [List.getElem?_map, h]; rfl, rfl, k⟩
theorem rquote_loop (s : Str) (hs : s.length ≤ 65536) (R : Str) (l : List Int) (hll : l.length ≤ 65537) (K : Post)
    (h0 : R.length ≤ 1000000 → K (.exit 0) [(5, .p (.str R))] [] []) :
    ∀ (q i p : Nat) (acc : Str), s.length ≤ p + q → p ≤ s.length → l.drop i = startsL q (s.drop p) p → acc ++ quoteL q (s.drop p) = R → acc.length ≤ 1 + 10 * p →
      LoopW PP GG 101 0 (loopN F.ref5_Quote_c 0) [(0, .p (.str s)), (1, .p (.bool false)), (5, .p (.str acc)), (6, .p (.lst false (l.map intP))), (7, .p (.int .i64 i))] [] [] (PostCl 101 K) := by
  intro q
  have hml : (l.map intP).length = l.length := by simp
  induction q with
  | zero =>
    intro i p acc hp hps hl hR hacc
    rw [startsL] at hl
    rw [quoteL, List.append_nil] at hR
    have hi : l.length - i = 1 := by rw [← List.length_drop, hl]; rfl
    refine LoopW.round (pol := polG) mixP ?_
    conv => whnf
    repeat' ((first
     | ((with_reducible first | refine Br.dec ?_ ?_ | refine Br.ndec ?_ ?_) <;> intro hb <;> (try simp only [And.intro @hml (ZZ)] at hb) <;> (first | omega | skip))
     | (with_reducible first | refine Br.tt rfl ?_ | refine Br.ff rfl ?_ | refine Br.ff (isEmptyCons _ _) ?_)
     | ((with_reducible first | refine Side.mk ?_ ?_ | refine WrapW.mk ?_ ?_); focus (first | omega | (dsimp only [InR, Int.reduceToNat, IntKind.bits, Int.reducePow]; omega) | (simp [CC]; done) | (constructor <;> omega)))
     | (refine Br.mk ?_ ?_ <;> intro hb <;> (try simp only [And.intro @hml (ZZ)] at hb) <;> (first | omega | skip))
     | refine Src.whole ⟨rfl, rfl⟩ ?_ | refine FrzV.whole ?_) <;> conv => whnf)
    · subst hR
      refine PostCl.of (h0 (by omega)) ?_ ?_
      · repeat first | exact trivial | refine ⟨VLe.refl _, ?_⟩
      · repeat first | exact trivial | refine ⟨by decide, ?_⟩
  | succ q ih =>
    intro i p acc hp hps hl hR hacc
    cases hsd : s.drop p with
    | nil =>
      rw [hsd, startsL] at hl
      rw [hsd, quoteL, List.append_nil] at hR
      have hi : l.length - i = 1 := by rw [← List.length_drop, hl]; rfl
      refine LoopW.round (pol := polG) mixP ?_
      conv => whnf
      repeat' ((first
       | ((with_reducible first | refine Br.dec ?_ ?_ | refine Br.ndec ?_ ?_) <;> intro hb <;> (try simp only [And.intro @hml (ZZ)] at hb) <;> (first | omega | skip))
       | (with_reducible first | refine Br.tt rfl ?_ | refine Br.ff rfl ?_ | refine Br.ff (isEmptyCons _ _) ?_)
       | ((with_reducible first | refine Side.mk ?_ ?_ | refine WrapW.mk ?_ ?_); focus (first | omega | (dsimp only [InR, Int.reduceToNat, IntKind.bits, Int.reducePow]; omega) | (simp [CC]; done) | (constructor <;> omega)))
       | (refine Br.mk ?_ ?_ <;> intro hb <;> (try simp only [And.intro @hml (ZZ)] at hb) <;> (first | omega | skip))
       | refine Src.whole ⟨rfl, rfl⟩ ?_ | refine FrzV.whole ?_) <;> conv => whnf)
      · subst hR
        refine PostCl.of (h0 (by omega)) ?_ ?_
        · repeat first | exact trivial | refine ⟨VLe.refl _, ?_⟩
        · repeat first | exact trivial | refine ⟨by decide, ?_⟩
    | cons c cs =>
      have hdl : (s.drop p).length = s.length - p := List.length_drop
      have hst := stepN_pos (c :: cs)
      have hsl : stepN (c :: cs) ≤ s.length - p := by have := stepN_le c cs; rw [← hsd, hdl] at this; rw [← hsd]; exact this
      rw [hsd, startsL] at hl
      rw [hsd, quoteL] at hR
      have hst' : max (utfTake (c :: cs)).2 1 = (stepN (c :: cs) : Int) := by unfold stepN; omega
      have hl0 : l[i]? = some (p : Int) := by
        have : (l.drop i)[0]? = some (p : Int) := by rw [hl]; rfl
        rwa [List.getElem?_drop, Nat.add_zero] at this
      have hlt : l.drop (i + 1) = startsL q (s.drop (p + stepN (c :: cs))) ((p + stepN (c :: cs) : Nat) : Int) := by
        have : l.drop (i + 1) = (l.drop i).drop 1 := by rw [List.drop_drop]
        rw [this, hl, List.drop_one, List.tail_cons, hst', Int.toNat_natCast, ← hsd, List.drop_drop, Int.natCast_add]
      have hl1 : l[i + 1]? = some ((p + stepN (c :: cs) : Nat) : Int) := by
        have : (l.drop (i + 1))[0]? = some ((p + stepN (c :: cs) : Nat) : Int) := by
          rw [hlt]
          cases q with
          | zero => rfl
          | succ q => cases hx : s.drop (p + stepN (c :: cs)) with
            | nil => rfl
            | cons a b => rfl
        rwa [List.getElem?_drop, Nat.add_zero] at this
      have hil : i + 1 < l.length := (List.getElem?_eq_some_iff.1 hl1).1
      have hx : (List.drop ((p : Int)).toNat s).take (((p + stepN (c :: cs) : Nat) : Int).toNat - ((p : Int)).toNat) = (c :: cs).take (stepN (c :: cs)) := by
        rw [Int.toNat_natCast, Int.toNat_natCast, Nat.add_sub_cancel_left, hsd]
      have hxl : ((c :: cs).take (stepN (c :: cs))).length = stepN (c :: cs) := by rw [List.length_take]; have := stepN_le c cs; omega
      have htk := ref1_Take ((c :: cs).take (stepN (c :: cs))) (by omega)
      rw [utfTake_pre] at htk
      have hu := quoteU_len ((c :: cs).take (stepN (c :: cs))) (utfTake (c :: cs)).2
      rw [← hsd, List.drop_drop, hsd] at hR
      refine LoopW.round (pol := polG) mixP ?_
      conv => whnf
      repeat' ((first
       | ((with_reducible first | refine Br.dec ?_ ?_ | refine Br.ndec ?_ ?_) <;> intro hb <;> (try simp only [And.intro @hml (ZZ)] at hb) <;> (first | omega | skip))
       | (with_reducible first | refine Br.tt rfl ?_ | refine Br.ff rfl ?_ | refine Br.ff (isEmptyCons _ _) ?_)
       | ((with_reducible first | refine Side.mk ?_ ?_ | refine WrapW.mk ?_ ?_); focus (first | omega | (dsimp only [InR, Int.reduceToNat, IntKind.bits, Int.reducePow]; omega) | exact ⟨rfl, rfl⟩ | (simp [CC]; done) | (constructor <;> omega)))
       | (refine Br.mk ?_ ?_ <;> intro hb <;> (try simp only [And.intro @hml (ZZ)] at hb) <;> (first | omega | skip))
       | refine Src.whole ⟨rfl, rfl⟩ ?_ | refine FrzV.whole ?_
       | (refine ElemZ.ints (by simpa using hl0) ?_)
       | (refine ElemZ.ints (x := ((p + stepN (c :: cs) : Nat) : Int)) (by simpa using hl1) ?_)) <;> conv => whnf)
      rw [hx]
      generalize (c :: cs).take (stepN (c :: cs)) = x at *
      generalize utfTake (c :: cs) = T at *
      generalize stepN (c :: cs) = m at *
      have hx4 : b0 x < 256 := UInt8.toNat_lt _
      have hex := ref5_hex4 (b0 x) hx4
      have hhl : (hex2 (b0 x)).length = 4 := rfl
      unfold quoteU at hR hu
      unfold b0 at hR hx4 hex hhl hu
      have fin : ∀ X : Str, X.length ≤ 10 → acc ++ (X ++ quoteL q (s.drop (p + m))) = R → LoopW PP GG 101 0 (loopN F.ref5_Quote_c 0) [(0, .p (.str s)), (1, .p (.bool false)), (5, .p (.str (acc ++ X))), (6, .p (.lst false (l.map intP))), (7, .p (.int .i64 ((i + 1 : Nat) : Int)))] [] [] (PostCl 101 K) := by
        intro X hX h
        exact ih (i + 1) (p + m) (acc ++ X) (by omega) (by omega) hlt (by rw [List.append_assoc]; exact h) (by rw [List.length_append]; omega)
      have cat : ∀ X Y : Str, acc ++ X ++ Y = acc ++ (X ++ Y) := fun X Y => List.append_assoc _ _ _
      repeat' ((first
       | ((with_reducible first | refine Br.dec ?_ ?_ | refine Br.ndec ?_ ?_) <;> intro hb <;> (try simp only [And.intro NN (ZZ)] at hb) <;> (first | omega | skip))
       | (with_reducible first | refine Br.tt rfl ?_ | refine Br.ff rfl ?_ | refine Br.ff (isEmptyCons _ _) ?_)
       | ((with_reducible first | refine Side.mk ?_ ?_ | refine WrapW.mk ?_ ?_); focus (first | omega | (dsimp only [InR, Int.reduceToNat, IntKind.bits, Int.reducePow]; omega) | (simp only [hxl]; omega) | (simp only [hhl, List.length_append]; show _ ≤ _; simp; omega) | (simp [CC]; done) | (constructor <;> omega)))
       | (refine Br.mk ?_ ?_ <;> intro hb <;> (try simp only [And.intro NN (ZZ)] at hb) <;> (first | omega | skip))
       | refine Src.whole ⟨rfl, rfl⟩ ?_ | refine FrzV.whole ?_
       | refine CallW.use (htk) ?_
       | refine CallW.use (hex) ?_) <;> conv => whnf)
      all_goals
        (try rw [cat])
        repeat (first | rw [if_pos (by omega)] at hR hu | rw [if_neg (by omega)] at hR hu)
        refine LoopW.sub (fin _ (by first | omega | (simp only [List.length_cons, List.length_nil] at hu ⊢; omega) | (show (6 : Nat) ≤ 10; omega)) hR) (by repeat first | exact trivial | refine ⟨VLe.refl _, ?_⟩) (by repeat first | exact trivial | refine ⟨by decide, ?_⟩)
theorem ref5_Quote (s : Str) (hs : s.length ≤ 65536) : AbsCall PP GG F.ref5_Quote [.p (.str s), .p (.bool false)] [] ⟨.ret (.p (.str (quoteS s))), [], []⟩ := by
  have hsl := startsL_len s.length s 0
  refine absCall_of (pol := polG) mixP F.ref5_Quote_is ?_
  conv => whnf
  repeat' ((first
   | ((with_reducible first | refine Br.dec ?_ ?_ | refine Br.ndec ?_ ?_) <;> intro hb <;> (try simp only [ZZ] at hb) <;> (first | omega | skip))
   | (with_reducible first | refine Br.tt rfl ?_ | refine Br.ff rfl ?_ | refine Br.ff (isEmptyCons _ _) ?_)
   | ((with_reducible first | refine Side.mk ?_ ?_ | refine WrapW.mk ?_ ?_); focus (first | omega | (dsimp only [InR, Int.reduceToNat, IntKind.bits, Int.reducePow]; omega) | (simp [CC]; done) | (constructor <;> omega)))
   | (refine Br.mk ?_ ?_ <;> intro hb <;> (try simp only [ZZ] at hb) <;> (first | omega | skip))
   | refine Src.whole ⟨rfl, rfl⟩ ?_ | refine FrzV.whole ?_
   | refine CallW.use (ref1_Starts s hs) ?_) <;> conv => whnf)
  refine LoopW.cl ?_
  refine LoopW.sub (rquote_loop s hs ([34] ++ quoteL s.length s) (startsL s.length s 0) (by omega) _ (fun hl => ?_) s.length 0 0 [34] (by omega) (by omega) rfl rfl (by simp)) (by repeat first | exact trivial | refine ⟨VLe.refl _, ?_⟩) (by repeat first | exact trivial | refine ⟨by decide, ?_⟩)
  conv => whnf
  repeat' ((first
   | ((with_reducible first | refine Br.dec ?_ ?_ | refine Br.ndec ?_ ?_) <;> intro hb <;> (try simp only [ZZ] at hb) <;> (first | omega | skip))
   | (with_reducible first | refine Br.tt rfl ?_ | refine Br.ff rfl ?_ | refine Br.ff (isEmptyCons _ _) ?_)
   | ((with_reducible first | refine Side.mk ?_ ?_ | refine WrapW.mk ?_ ?_); focus (first | omega | (dsimp only [InR, Int.reduceToNat, IntKind.bits, Int.reducePow]; omega) | (show _ + 1 ≤ _; omega) | (simp [CC]; done) | (constructor <;> omega)))
   | (refine Br.mk ?_ ?_ <;> intro hb <;> (try simp only [ZZ] at hb) <;> (first | omega | skip))
   | refine Src.whole ⟨rfl, rfl⟩ ?_ | refine FrzV.whole ?_) <;> conv => whnf)
  exact CLe.eq rfl
end Go.Proofs.YtoinkmogdfjmmaaGreatDoor
end

section
namespace Go.Proofs
open Go.Shelf
def Tryz.laysC174_ren : Go.Shelf.Ren := ⟨fun | 174 => 94 | 247 => 124 | 245 => 125 | 287 => 140 | 279 => 141 | 280 => 142 | 281 => 143 | 282 => 144 | 321 => 157 | 322 => 158 | 316 => 159 | 171 => 161 | 205 => 160 | 243 => 167 | 246 => 180 | 283 => 187 | 284 => 188 | 285 => 189 | 286 => 190 | 129 => 178 | 317 => 192 | 318 => 193 | 319 => 194 | 320 => 195 | 337 => 196 | 338 => 197 | n => n, fun | 9 => 9 | 3 => 3 | 2 => 2 | 75 => 127 | 85 => 128 | 4 => 4 | 167 => 162 | 5 => 5 | 53 => 163 | 175 => 164 | 46 => 112 | 168 => 166 | 37 => 35 | 0 => 0 | 210 => 178 | 21 => 21 | 127 => 186 | 145 => 189 | 143 => 187 | 171 => 206 | 173 => 208 | 212 => 213 | 51 => 183 | 20 => 20 | 213 => 214 | 232 => 215 | 233 => 216 | 80 => 217 | n => n, fun | 15 => 3 | 16 => 4 | 17 => 5 | 18 => 6 | 19 => 7 | n => n⟩
theorem Tryz.laysC174 : Go.Proofs.LaysC.n174 Tryz.prog Tryz.laysC174_ren := {
  mixed := by kernel_rfl
  f129 := Tryz.func178.trans (congrArg some (by kernel_rfl))
  f171 := Tryz.func161.trans (congrArg some (by kernel_rfl))
  f174 := Tryz.func94.trans (congrArg some (by kernel_rfl))
  f205 := Tryz.func160.trans (congrArg some (by kernel_rfl))
  f243 := Tryz.func167.trans (congrArg some (by kernel_rfl))
  f245 := Tryz.func125.trans (congrArg some (by kernel_rfl))
  f246 := Tryz.func180.trans (congrArg some (by kernel_rfl))
  f247 := Tryz.func124.trans (congrArg some (by kernel_rfl))
  f279 := Tryz.func141.trans (congrArg some (by kernel_rfl))
  f280 := Tryz.func142.trans (congrArg some (by kernel_rfl))
  f281 := Tryz.func143.trans (congrArg some (by kernel_rfl))
  f282 := Tryz.func144.trans (congrArg some (by kernel_rfl))
  f283 := Tryz.func187.trans (congrArg some (by kernel_rfl))
  f284 := Tryz.func188.trans (congrArg some (by kernel_rfl))
  f285 := Tryz.func189.trans (congrArg some (by kernel_rfl))
  f286 := Tryz.func190.trans (congrArg some (by kernel_rfl))
  f287 := Tryz.func140.trans (congrArg some (by kernel_rfl))
  f316 := Tryz.func159.trans (congrArg some (by kernel_rfl))
  f317 := Tryz.func192.trans (congrArg some (by kernel_rfl))
  f318 := Tryz.func193.trans (congrArg some (by kernel_rfl))
  f319 := Tryz.func194.trans (congrArg some (by kernel_rfl))
  f320 := Tryz.func195.trans (congrArg some (by kernel_rfl))
  f321 := Tryz.func157.trans (congrArg some (by kernel_rfl))
  f322 := Tryz.func158.trans (congrArg some (by kernel_rfl))
  f337 := Tryz.func196.trans (congrArg some (by kernel_rfl))
  f338 := Tryz.func197.trans (congrArg some (by kernel_rfl))
  t0 := Tryz.underlying0
  a0 := Tryz.isAgg0
  z0 := Tryz.sizeOf0
  v0 := Tryz.zeroValue0
  t2 := Tryz.underlying2
  a2 := Tryz.isAgg2
  z2 := Tryz.sizeOf2
  v2 := Tryz.zeroValue2
  t3 := Tryz.underlying3
  a3 := Tryz.isAgg3
  z3 := Tryz.sizeOf3
  v3 := Tryz.zeroValue3
  t4 := Tryz.underlying4
  a4 := Tryz.isAgg4
  z4 := Tryz.sizeOf4
  v4 := Tryz.zeroValue4
  t5 := Tryz.underlying5
  a5 := Tryz.isAgg5
  z5 := Tryz.sizeOf5
  v5 := Tryz.zeroValue5
  t9 := Tryz.underlying9
  a9 := Tryz.isAgg9
  z9 := Tryz.sizeOf9
  v9 := Tryz.zeroValue9
  t20 := Tryz.underlying20
  a20 := Tryz.isAgg20
  z20 := Tryz.sizeOf20
  v20 := Tryz.zeroValue20
  t21 := Tryz.underlying21
  a21 := Tryz.isAgg21
  z21 := Tryz.sizeOf21
  v21 := Tryz.zeroValue21
  t37 := Tryz.underlying35
  a37 := Tryz.isAgg35
  z37 := Tryz.sizeOf35
  v37 := Tryz.zeroValue35
  t46 := Tryz.underlying112
  a46 := Tryz.isAgg112
  z46 := Tryz.sizeOf112
  v46 := Tryz.zeroValue112
  t51 := Tryz.underlying183
  a51 := Tryz.isAgg183
  z51 := Tryz.sizeOf183
  v51 := Tryz.zeroValue183
  t53 := Tryz.underlying163
  a53 := Tryz.isAgg163
  z53 := Tryz.sizeOf163
  v53 := Tryz.zeroValue163
  t75 := Tryz.underlying127
  a75 := Tryz.isAgg127
  z75 := Tryz.sizeOf127
  v75 := Tryz.zeroValue127
  t85 := Tryz.underlying128
  a85 := Tryz.isAgg128
  z85 := Tryz.sizeOf128
  v85 := Tryz.zeroValue128
  t127 := Tryz.underlying186
  a127 := Tryz.isAgg186
  z127 := Tryz.sizeOf186
  v127 := Tryz.zeroValue186
  t143 := Tryz.underlying187
  a143 := Tryz.isAgg187
  z143 := Tryz.sizeOf187
  v143 := Tryz.zeroValue187
  t145 := Tryz.underlying189
  a145 := Tryz.isAgg189
  z145 := Tryz.sizeOf189
  v145 := Tryz.zeroValue189
  t167 := Tryz.underlying162
  a167 := Tryz.isAgg162
  z167 := Tryz.sizeOf162
  v167 := Tryz.zeroValue162
  t168 := Tryz.underlying166
  a168 := Tryz.isAgg166
  z168 := Tryz.sizeOf166
  v168 := Tryz.zeroValue166
  t171 := Tryz.underlying206
  a171 := Tryz.isAgg206
  z171 := Tryz.sizeOf206
  v171 := Tryz.zeroValue206
  t173 := Tryz.underlying208
  a173 := Tryz.isAgg208
  z173 := Tryz.sizeOf208
  v173 := Tryz.zeroValue208
  t175 := Tryz.underlying164
  a175 := Tryz.isAgg164
  z175 := Tryz.sizeOf164
  v175 := Tryz.zeroValue164
  t210 := Tryz.underlying178
  a210 := Tryz.isAgg178
  z210 := Tryz.sizeOf178
  v210 := Tryz.zeroValue178
  t212 := Tryz.underlying213
  a212 := Tryz.isAgg213
  z212 := Tryz.sizeOf213
  v212 := Tryz.zeroValue213
  t213 := Tryz.underlying214
  a213 := Tryz.isAgg214
  z213 := Tryz.sizeOf214
  t232 := Tryz.underlying215
  a232 := Tryz.isAgg215
  z232 := Tryz.sizeOf215
  v232 := Tryz.zeroValue215
  t233 := Tryz.underlying216
  a233 := Tryz.isAgg216
  z233 := Tryz.sizeOf216
  v233 := Tryz.zeroValue216
  g15 := by kernel_rfl
  g16 := by kernel_rfl
  g17 := by kernel_rfl
  g18 := by kernel_rfl
  g19 := by kernel_rfl
  t80 := Tryz.underlying217
  a80 := Tryz.isAgg217
  z80 := Tryz.sizeOf217
  v80 := Tryz.zeroValue217
  i0 := by kernel_rfl
  i2 := by kernel_rfl
  i3 := by kernel_rfl
  i4 := by kernel_rfl
  i5 := by kernel_rfl
  i9 := by kernel_rfl
  i20 := by kernel_rfl
  i21 := by kernel_rfl
  i37 := by kernel_rfl
  i46 := by kernel_rfl
  i51 := by kernel_rfl
  i53 := by kernel_rfl
  i75 := by kernel_rfl
  i80 := by kernel_rfl
  i85 := by kernel_rfl
  i127 := by kernel_rfl
  i143 := by kernel_rfl
  i145 := by kernel_rfl
  i167 := by kernel_rfl
  i168 := by kernel_rfl
  i171 := by kernel_rfl
  i173 := by kernel_rfl
  i175 := by kernel_rfl
  i210 := by kernel_rfl
  i212 := by kernel_rfl
  i232 := by kernel_rfl
  i233 := by kernel_rfl
  m15 := by kernel_rfl
  m16 := by kernel_rfl
  m17 := by kernel_rfl
  m18 := by kernel_rfl
  m19 := by kernel_rfl
  c0 := by kernel_rfl
  c2 := by kernel_rfl
  c3 := by kernel_rfl
  c4 := by kernel_rfl
  c5 := by kernel_rfl
  c9 := by kernel_rfl
  c20 := by kernel_rfl
  c21 := by kernel_rfl
  c37 := by kernel_rfl
  c46 := by kernel_rfl
  c51 := by kernel_rfl
  c53 := by kernel_rfl
  c75 := by kernel_rfl
  c80 := by kernel_rfl
  c85 := by kernel_rfl
  c127 := by kernel_rfl
  c143 := by kernel_rfl
  c145 := by kernel_rfl
  c167 := by kernel_rfl
  c168 := by kernel_rfl
  c171 := by kernel_rfl
  c173 := by kernel_rfl
  c175 := by kernel_rfl
  c210 := by kernel_rfl
  c212 := by kernel_rfl
  c213 := by kernel_rfl
  c232 := by kernel_rfl
  c233 := by kernel_rfl }
open Go.RowKit in
theorem Tryz.strconv_ParseInt_10_at64_ok (s : ByteArray) (hmax : s.size ≤ 9223372036854775806) (v : Int) (h : Lib.parseIntB 64 s.data.toList = .ok v) (w : World) :
    Calls Tryz.prog 94 #[.string s, .int .i64 10, .int .i64 64] w fun e w' => e = .returned (.tuple #[.int .i64 v, .nilIface]) ∧ (w' = w ∨ ∃ t, w' = Lib.bytesWorld w 5 t) := Any.strconv_ParseInt_10_at64_ok Tryz.laysC174 s hmax v h w
open Go.RowKit in
theorem Tryz.strconv_ParseInt_10_at64_other (s : ByteArray) (hlim : s.size ≤ 281474976710656) (h : (∀ v, Lib.parseIntB 64 s.data.toList ≠ .ok v) ∧ Lib.parseIntB 64 s.data.toList ≠ .range) (ev : Value) (w : World) (hv : w.cell? ⟨3, 0, none⟩ = some ev) (hev : ev = .nilIface ∨ ∃ te pe, ev = .iface te pe) :
    Calls Tryz.prog 94 #[.string s, .int .i64 10, .int .i64 64] w fun e w' => ∃ N, e = .returned (.tuple #[.int .i64 (0), .iface 166 (.pointer (some ⟨N, 0, none⟩))]) ∧ w.heap.size ≤ N ∧ w'.heap[N]? = some (.cells #[.string ⟨#[80, 97, 114, 115, 101, 73, 110, 116]⟩, .string s, ev] 178 (0, 0)) ∧ Below w.heap.size w w' := Any.strconv_ParseInt_10_at64_syntax Tryz.laysC174 s hlim (by
    cases hx : Lib.parseIntB 64 s.data.toList with
    | ok v => exact absurd hx (h.1 v)
    | range => exact absurd hx h.2
    | _ => rfl) ev w hv hev
open Go.RowKit in
theorem Tryz.strconv_ParseInt_10_at64_range (s : ByteArray) (hlim : s.size ≤ 281474976710656) (h : Lib.parseIntB 64 s.data.toList = .range) (ev : Value) (w : World) (hv : w.cell? ⟨4, 0, none⟩ = some ev) (hev : ev = .nilIface ∨ ∃ te pe, ev = .iface te pe) :
    Calls Tryz.prog 94 #[.string s, .int .i64 10, .int .i64 64] w fun e w' => ∃ N, e = .returned (.tuple #[.int .i64 (Lib.intSat 64 s.data.toList), .iface 166 (.pointer (some ⟨N, 0, none⟩))]) ∧ w.heap.size ≤ N ∧ w'.heap[N]? = some (.cells #[.string ⟨#[80, 97, 114, 115, 101, 73, 110, 116]⟩, .string s, ev] 178 (0, 0)) ∧ Below w.heap.size w w' := Any.strconv_ParseInt_10_at64_range Tryz.laysC174 s hlim h ev w hv hev
end Go.Proofs
end

section
namespace Go.Am
open Go
def preB (s : Str) (p : UInt8) : Bool := decide (s.take 1 = [p])
def powD : Str → Int → Option Int
  | [], v => some v
  | b :: s, v => if 100000 < v * 10 + ((b.toNat : Int) - 48) then none else powD s (v * 10 + ((b.toNat : Int) - 48))
def powTail (less : Bool) (d : Str) : Int × Bool := if d.length = 0 ∨ runL d ≠ d.length then (0, false) else match powD d 0 with
  | none => (0, false)
  | some v => if less = true then (-v, true) else (v, true)
def decPow (s : Str) : Int × Bool := if preB s 45 = true then powTail true (s.drop 1) else if preB s 43 = true then powTail false (s.drop 1) else powTail false s
def trimL : Str → Str
  | [] => []
  | b :: s => if b = 48 then trimL s else b :: s
theorem runL_dig : ∀ {s : Str}, runL s = s.length → ∀ b ∈ s, dig b = true
  | [], _, b, hb => by cases hb
  | c :: s, h, b, hb => by
    rw [runL] at h
    split at h
    · rename_i hc
      rcases List.mem_cons.1 hb with rfl | hb
      · exact hc
      · exact runL_dig (by simpa using h) b hb
    · simp at h
end Go.Am
namespace Go.Am
def trimRn : Nat → Str → Str
  | 0, s => s
  | q + 1, s => if 0 < s.length ∧ s.getD (s.length - 1) 0 = 48 then trimRn q (s.take (s.length - 1)) else s
def trimR (s : Str) : Str := trimRn s.length s
theorem trimL_len : ∀ s : Str, (trimL s).length ≤ s.length
  | [] => Nat.le_refl _
  | b :: s => by rw [trimL]; split <;> simp; exact Nat.le_succ_of_le (trimL_len s)
abbrev Dnum := (Bool × Str × Int) × Bool
def noNum : Dnum := ((false, [], 0), false)
def decE (less : Bool) (w p : Str) (e : Int) : Dnum :=
  if (trimL (w ++ p)).length = 0 then ((false, [], 0), true) else ((less, trimR (trimL (w ++ p)), e + (((w.length : Int) - 1) - (((w ++ p).length : Int) - ((trimL (w ++ p)).length : Int)))), true)
def decD (less : Bool) (w p s : Str) : Dnum :=
  if s.length = 0 then decE less w p 0 else if b0 s ≠ 101 ∧ b0 s ≠ 69 then noNum else
  if (decPow (s.drop 1)).2 = false then noNum else decE less w p (decPow (s.drop 1)).1
def decC (less : Bool) (w s : Str) : Dnum :=
  if preB s 46 = true then (if runL (s.drop 1) = 0 then noNum else decD less w ((s.drop 1).take (runL (s.drop 1))) ((s.drop 1).drop (runL (s.drop 1)))) else decD less w [] s
def decB (less : Bool) (s : Str) : Dnum := if runL s = 0 ∨ (1 < runL s ∧ b0 s = 48) then noNum else decC less (s.take (runL s)) (s.drop (runL s))
def decParse (s : Str) : Dnum := if 400 < s.length then noNum else decB (preB s 45) (if preB s 45 = true then s.drop 1 else s)
theorem powD_bound : ∀ (s : Str) (v r : Int), (∀ b ∈ s, dig b = true) → 0 ≤ v → v ≤ 100000 → powD s v = some r → 0 ≤ r ∧ r ≤ 100000
  | [], v, r, _, h0, h1, h => by rw [powD] at h; cases h; exact ⟨h0, h1⟩
  | b :: s, v, r, hd, h0, h1, h => by
    rw [powD] at h
    split at h
    · cases h
    · have hb := hd b (by simp)
      unfold dig at hb
      rw [decide_eq_true_eq] at hb
      exact powD_bound s _ r (fun x hx => hd x (by simp [hx])) (by omega) (by omega) h
end Go.Am
namespace Go.Am
theorem decPow_bound (s : Str) : -100000 ≤ (decPow s).1 ∧ (decPow s).1 ≤ 100000 := by
  have h : ∀ less d, -100000 ≤ (powTail less d).1 ∧ (powTail less d).1 ≤ 100000 := by
    intro less d
    unfold powTail
    split
    · simp
    · rename_i hc
      split
      · simp
      · rename_i v hv
        have := powD_bound d 0 v (runL_dig (by omega)) (by omega) (by omega) hv
        split <;> (simp only []; omega)
  unfold decPow
  split
  · exact h _ _
  · split
    · exact h _ _
    · exact h _ _
end Go.Am
namespace Go.Am
theorem nf {b : Bool} (h : b = true) : ¬ b = false := by rw [h]; simp
theorem nt {b : Bool} (h : b = false) : ¬ b = true := by rw [h]; simp
end Go.Am
namespace Go.Am
end Go.Am
end

section
namespace Go.Proofs.YtoinkmogdfjmmaaGreatDoor
open Go Go.Am
set_option maxRecDepth 100000
theorem ElemA.byte {s : Str} {i : Nat} {K : PV → Prop} {b : UInt8} (h : s[i]? = some b) (k : K (byteP b)) : ElemA (s.map byteP) i K := ⟨_, by rw [List.getElem?_map, h]; rfl, k⟩
theorem sl_HasPrefix (s : Str) (p : UInt8) : AbsCall PP GG F.internal_stringslite_HasPrefix [.p (.str s), .p (.str [p])] [] ⟨.ret (.p (.bool (preB s p))), [], []⟩ := by
  have h1 : ([p] : Str).length = 1 := rfl
  refine absCall_of (pol := polG) mixP F.internal_stringslite_HasPrefix_is ?_
  conv => whnf
  repeat' ((first
   | ((with_reducible first | refine Br.dec ?_ ?_ | refine Br.ndec ?_ ?_) <;> intro hb <;> (try simp only [And.intro @h1 (ZZ)] at hb) <;> (first | omega | skip))
   | (with_reducible first | refine Br.tt rfl ?_ | refine Br.ff rfl ?_ | refine Br.ff (isEmptyCons _ _) ?_)
   | ((with_reducible first | refine Side.mk ?_ ?_ | refine WrapW.mk ?_ ?_); focus (first | omega | (dsimp only [InR, Int.reduceToNat, IntKind.bits, Int.reducePow]; omega) | (simp only [h1]; omega) | (simp [CC]; done) | (constructor <;> omega)))
   | (refine Br.mk ?_ ?_ <;> intro hb <;> (try simp only [And.intro @h1 (ZZ)] at hb) <;> (first | omega | skip))
   | refine Src.whole ⟨rfl, rfl⟩ ?_ | refine FrzV.whole ?_) <;> conv => whnf)
  · exact CLe.eq rfl
  · exact CLe.retP (by unfold preB; rw [List.eq_nil_of_length_eq_zero (show s.length = 0 by omega)]; simp)
theorem strings_HasPrefix (s : Str) (p : UInt8) : AbsCall PP GG F.strings_HasPrefix [.p (.str s), .p (.str [p])] [] ⟨.ret (.p (.bool (preB s p))), [], []⟩ := by
  refine absCall_of (pol := polG) mixP F.strings_HasPrefix_is ?_
  conv => whnf
  repeat' ((first
   | ((with_reducible first | refine Br.dec ?_ ?_ | refine Br.ndec ?_ ?_) <;> intro hb <;> (try simp only [ZZ] at hb) <;> (first | omega | skip))
   | (with_reducible first | refine Br.tt rfl ?_ | refine Br.ff rfl ?_ | refine Br.ff (isEmptyCons _ _) ?_)
   | ((with_reducible first | refine Side.mk ?_ ?_ | refine WrapW.mk ?_ ?_); focus (first | omega | (dsimp only [InR, Int.reduceToNat, IntKind.bits, Int.reducePow]; omega) | (simp [CC]; done) | (constructor <;> omega)))
   | (refine Br.mk ?_ ?_ <;> intro hb <;> (try simp only [ZZ] at hb) <;> (first | omega | skip))
   | refine Src.whole ⟨rfl, rfl⟩ ?_ | refine FrzV.whole ?_
   | refine CallW.use (sl_HasPrefix s p) ?_) <;> conv => whnf)
  exact CLe.eq rfl
theorem preB_len {s : Str} {p : UInt8} (h : preB s p = true) : 1 ≤ s.length := by
  unfold preB at h
  rw [decide_eq_true_eq] at h
  have := congrArg List.length h
  rw [List.length_take] at this
  simp only [List.length_cons, List.length_nil] at this
  omega
theorem sl_CutPrefix (s : Str) (p : UInt8) : AbsCall PP GG F.internal_stringslite_CutPrefix [.p (.str s), .p (.str [p])] [] ⟨.ret (.tup [.p (.str (if preB s p = true then s.drop 1 else s)), .p (.bool (preB s p))]), [], []⟩ := by
  have hl := @preB_len s p
  have h1 : ([p] : Str).length = 1 := rfl
  refine absCall_of (pol := polG) mixP F.internal_stringslite_CutPrefix_is ?_
  conv => whnf
  cases hp : preB s p with
  | true =>
    have hsp := sl_HasPrefix s p
    rw [hp] at hsp
    have := hl hp
    repeat' ((first
     | ((with_reducible first | refine Br.dec ?_ ?_ | refine Br.ndec ?_ ?_) <;> intro hb <;> (try simp only [ZZ] at hb) <;> (first | omega | skip))
     | (with_reducible first | refine Br.tt rfl ?_ | refine Br.ff rfl ?_ | refine Br.ff (isEmptyCons _ _) ?_)
     | ((with_reducible first | refine Side.mk ?_ ?_ | refine WrapW.mk ?_ ?_); focus (first | omega | (dsimp only [InR, Int.reduceToNat, IntKind.bits, Int.reducePow]; omega) | (simp only [h1]; omega) | (simp [CC]; done) | (constructor <;> omega)))
     | (refine Br.mk ?_ ?_ <;> intro hb <;> (try simp only [ZZ] at hb) <;> (first | omega | skip))
     | refine Src.whole ⟨rfl, rfl⟩ ?_ | refine FrzV.whole ?_
     | refine CallW.use (hsp) ?_) <;> conv => whnf)
    exact CLe.eq rfl
  | false =>
    have hsp := sl_HasPrefix s p
    rw [hp] at hsp
    repeat' ((first
     | ((with_reducible first | refine Br.dec ?_ ?_ | refine Br.ndec ?_ ?_) <;> intro hb <;> (try simp only [ZZ] at hb) <;> (first | omega | skip))
     | (with_reducible first | refine Br.tt rfl ?_ | refine Br.ff rfl ?_ | refine Br.ff (isEmptyCons _ _) ?_)
     | ((with_reducible first | refine Side.mk ?_ ?_ | refine WrapW.mk ?_ ?_); focus (first | omega | (dsimp only [InR, Int.reduceToNat, IntKind.bits, Int.reducePow]; omega) | (simp [CC]; done) | (constructor <;> omega)))
     | (refine Br.mk ?_ ?_ <;> intro hb <;> (try simp only [ZZ] at hb) <;> (first | omega | skip))
     | refine Src.whole ⟨rfl, rfl⟩ ?_ | refine FrzV.whole ?_
     | refine CallW.use (hsp) ?_) <;> conv => whnf)
    exact CLe.eq rfl
theorem strings_CutPrefix (s : Str) (p : UInt8) : AbsCall PP GG F.strings_CutPrefix [.p (.str s), .p (.str [p])] [] ⟨.ret (.tup [.p (.str (if preB s p = true then s.drop 1 else s)), .p (.bool (preB s p))]), [], []⟩ := by
  refine absCall_of (pol := polG) mixP F.strings_CutPrefix_is ?_
  conv => whnf
  repeat' ((first
   | ((with_reducible first | refine Br.dec ?_ ?_ | refine Br.ndec ?_ ?_) <;> intro hb <;> (try simp only [ZZ] at hb) <;> (first | omega | skip))
   | (with_reducible first | refine Br.tt rfl ?_ | refine Br.ff rfl ?_ | refine Br.ff (isEmptyCons _ _) ?_)
   | ((with_reducible first | refine Side.mk ?_ ?_ | refine WrapW.mk ?_ ?_); focus (first | omega | (dsimp only [InR, Int.reduceToNat, IntKind.bits, Int.reducePow]; omega) | (simp [CC]; done) | (constructor <;> omega)))
   | (refine Br.mk ?_ ?_ <;> intro hb <;> (try simp only [ZZ] at hb) <;> (first | omega | skip))
   | refine Src.whole ⟨rfl, rfl⟩ ?_ | refine FrzV.whole ?_
   | refine CallW.use (sl_CutPrefix s p) ?_) <;> conv => whnf)
  exact CLe.eq rfl
theorem digits_loop (s : Str) (hs : s.length ≤ 1073741824) (K : Post) (h0 : K (.exit 0) [(3, .p (.int .i64 (runL s)))] [] []) :
    ∀ (q i : Nat), i + q = s.length → i + runL (s.drop i) = runL s →
      LoopW PP GG 23 0 (loopN F.dec_digits_c 0) [(0, .p (.str s)), (3, .p (.int .i64 i))] [] [] (PostCl 23 K) := by
  intro q
  induction q with
  | zero =>
    intro i hi hR
    rw [List.drop_eq_nil_of_le (by omega), runL, Nat.add_zero] at hR
    subst hR
    refine LoopW.round (pol := polG) mixP ?_
    conv => whnf
    repeat' ((first
     | ((with_reducible first | refine Br.dec ?_ ?_ | refine Br.ndec ?_ ?_) <;> intro hb <;> (try simp only [ZZ] at hb) <;> (first | omega | skip))
     | (with_reducible first | refine Br.tt rfl ?_ | refine Br.ff rfl ?_ | refine Br.ff (isEmptyCons _ _) ?_)
     | ((with_reducible first | refine Side.mk ?_ ?_ | refine WrapW.mk ?_ ?_); focus (first | omega | (dsimp only [InR, Int.reduceToNat, IntKind.bits, Int.reducePow]; omega) | (simp [CC]; done) | (constructor <;> omega)))
     | (refine Br.mk ?_ ?_ <;> intro hb <;> (try simp only [ZZ] at hb) <;> (first | omega | skip))
     | refine Src.whole ⟨rfl, rfl⟩ ?_ | refine FrzV.whole ?_) <;> conv => whnf)
    · refine PostCl.of (h0) ?_ ?_
      · repeat first | exact trivial | refine ⟨VLe.refl _, ?_⟩
      · repeat first | exact trivial | refine ⟨by decide, ?_⟩
  | succ q ih =>
    intro i hi hR
    obtain ⟨b, hb⟩ : ∃ b, s[i]? = some b := ⟨_, List.getElem?_eq_getElem (show i < s.length by omega)⟩
    have hg : s.getD (Int.toNat ↑i) 0 = b := getD_of (by simpa using hb)
    have hd : dig b = decide (48 ≤ b.toNat ∧ b.toNat ≤ 57) := rfl
    rw [drop_cons hb, runL] at hR
    refine LoopW.round (pol := polG) mixP ?_
    conv => whnf
    repeat' ((first
     | ((with_reducible first | refine Br.dec ?_ ?_ | refine Br.ndec ?_ ?_) <;> intro hb <;> (try simp only [And.intro @hg (ZZ)] at hb) <;> (first | omega | skip))
     | (with_reducible first | refine Br.tt rfl ?_ | refine Br.ff rfl ?_ | refine Br.ff (isEmptyCons _ _) ?_)
     | ((with_reducible first | refine Side.mk ?_ ?_ | refine WrapW.mk ?_ ?_); focus (first | omega | (dsimp only [InR, Int.reduceToNat, IntKind.bits, Int.reducePow]; omega) | (simp [CC]; done) | (constructor <;> omega)))
     | (refine Br.mk ?_ ?_ <;> intro hb <;> (try simp only [And.intro @hg (ZZ)] at hb) <;> (first | omega | skip))
     | refine Src.whole ⟨rfl, rfl⟩ ?_ | refine FrzV.whole ?_) <;> conv => whnf)
    all_goals
      first
      | (rw [if_pos (by rw [hd, decide_eq_true_eq]; omega)] at hR; refine LoopW.sub (ih (i + 1) (by omega) (by omega)) (by repeat first | exact trivial | refine ⟨VLe.refl _, ?_⟩) (by repeat first | exact trivial | refine ⟨by decide, ?_⟩))
      | (rw [if_neg (by rw [hd, decide_eq_true_eq]; omega), Nat.add_zero] at hR; subst hR; refine PostCl.of (h0) (by repeat first | exact trivial | refine ⟨VLe.refl _, ?_⟩) (by repeat first | exact trivial | refine ⟨by decide, ?_⟩))
theorem dec_digits (s : Str) (hs : s.length ≤ 1073741824) : AbsCall PP GG F.dec_digits [.p (.str s)] [] ⟨.ret (.p (.int .i64 (runL s))), [], []⟩ := by
  refine absCall_of (pol := polG) mixP F.dec_digits_is ?_
  conv => whnf
  refine LoopW.cl ?_
  refine LoopW.sub (digits_loop s hs _ ?_ s.length 0 (by omega) (by simp)) (by repeat first | exact trivial | refine ⟨VLe.refl _, ?_⟩) (by repeat first | exact trivial | refine ⟨by decide, ?_⟩)
  conv => whnf
  exact CLe.eq rfl
theorem trimL_loop (K : Post) (s0 : Str) (h0 : K (.exit 0) [(0, .p (.str (trimL s0)))] [] []) : ∀ (s : Str), s.length ≤ 1073741824 → trimL s = trimL s0 →
      LoopW PP GG 17 0 (loopN F.strings_trimLeftByte_c 0) [(0, .p (.str s)), (1, .p (byteP 48))] [] [] (PostCl 17 K) := by
  intro s
  induction s with
  | nil =>
    intro hs hR
    refine LoopW.round (pol := polG) mixP ?_
    conv => whnf
    repeat' ((first
     | ((with_reducible first | refine Br.dec ?_ ?_ | refine Br.ndec ?_ ?_) <;> intro hb <;> (try simp only [And.intro @List.length_nil (ZZ)] at hb) <;> (first | omega | skip))
     | (with_reducible first | refine Br.tt rfl ?_ | refine Br.ff rfl ?_ | refine Br.ff (isEmptyCons _ _) ?_)
     | ((with_reducible first | refine Side.mk ?_ ?_ | refine WrapW.mk ?_ ?_); focus (first | omega | (dsimp only [InR, Int.reduceToNat, IntKind.bits, Int.reducePow]; omega) | (simp [CC]; done) | (constructor <;> omega)))
     | (refine Br.mk ?_ ?_ <;> intro hb <;> (try simp only [And.intro @List.length_nil (ZZ)] at hb) <;> (first | omega | skip))
     | refine Src.whole ⟨rfl, rfl⟩ ?_ | refine FrzV.whole ?_) <;> conv => whnf)
    rw [← hR] at h0
    · refine PostCl.of (h0) ?_ ?_
      · repeat first | exact trivial | refine ⟨VLe.refl _, ?_⟩
      · repeat first | exact trivial | refine ⟨by decide, ?_⟩
  | cons b s ih =>
    intro hs hR
    have hl : (b :: s).length = s.length + 1 := rfl
    rw [trimL] at hR
    have hg : (b :: s).getD (Int.toNat 0) 0 = b := rfl
    refine LoopW.round (pol := polG) mixP ?_
    conv => whnf
    repeat' ((first
     | ((with_reducible first | refine Br.dec ?_ ?_ | refine Br.ndec ?_ ?_) <;> intro hb <;> (try simp only [And.intro @hg (ZZ)] at hb) <;> (first | omega | skip))
     | (with_reducible first | refine Br.tt rfl ?_ | refine Br.ff rfl ?_ | refine Br.ff (isEmptyCons _ _) ?_)
     | ((with_reducible first | refine Side.mk ?_ ?_ | refine WrapW.mk ?_ ?_); focus (first | omega | (dsimp only [InR, Int.reduceToNat, IntKind.bits, Int.reducePow]; omega) | (simp [CC]; done) | (constructor <;> omega)))
     | (refine Br.mk ?_ ?_ <;> intro hb <;> (try simp only [And.intro @hg (ZZ)] at hb) <;> (first | omega | skip))
     | refine Src.whole ⟨rfl, rfl⟩ ?_ | refine FrzV.whole ?_) <;> conv => whnf)
    · rw [if_pos (UInt8.toNat_inj.1 (by omega))] at hR
      refine LoopW.sub (ih (by omega) hR) (by repeat first | exact trivial | refine ⟨VLe.refl _, ?_⟩) (by repeat first | exact trivial | refine ⟨by decide, ?_⟩)
    · rw [if_neg (fun e => hb (by rw [e]))] at hR
      rw [← hR] at h0
      refine PostCl.of (h0) ?_ ?_
      · repeat first | exact trivial | refine ⟨VLe.refl _, ?_⟩
      · repeat first | exact trivial | refine ⟨by decide, ?_⟩
theorem strings_trimLeftByte (s : Str) (hs : s.length ≤ 1073741824) : AbsCall PP GG F.strings_trimLeftByte [.p (.str s), .p (byteP 48)] [] ⟨.ret (.p (.str (trimL s))), [], []⟩ := by
  refine absCall_of (pol := polG) mixP F.strings_trimLeftByte_is ?_
  conv => whnf
  refine LoopW.cl ?_
  refine LoopW.sub (trimL_loop _ s ?_ s hs rfl) (by repeat first | exact trivial | refine ⟨VLe.refl _, ?_⟩) (by repeat first | exact trivial | refine ⟨by decide, ?_⟩)
  conv => whnf
  exact CLe.eq rfl
theorem strings_TrimLeft (s : Str) (hs : s.length ≤ 1073741824) : AbsCall PP GG F.strings_TrimLeft [.p (.str s), .p (.str [48])] [] ⟨.ret (.p (.str (trimL s))), [], []⟩ := by
  have h1 : ([48] : Str).length = 1 := rfl
  have hg : ([48] : Str).getD (Int.toNat 0) 0 = 48 := rfl
  refine absCall_of (pol := polG) mixP F.strings_TrimLeft_is ?_
  conv => whnf
  repeat' ((first
   | ((with_reducible first | refine Br.dec ?_ ?_ | refine Br.ndec ?_ ?_) <;> intro hb <;> (try simp only [And.intro @h1 (And.intro @hg (ZZ))] at hb) <;> (first | omega | skip))
   | (with_reducible first | refine Br.tt rfl ?_ | refine Br.ff rfl ?_ | refine Br.ff (isEmptyCons _ _) ?_)
   | ((with_reducible first | refine Side.mk ?_ ?_ | refine WrapW.mk ?_ ?_); focus (first | omega | (dsimp only [InR, Int.reduceToNat, IntKind.bits, Int.reducePow]; omega) | (simp [CC]; done) | (constructor <;> omega)))
   | (refine Br.mk ?_ ?_ <;> intro hb <;> (try simp only [And.intro @h1 (And.intro @hg (ZZ))] at hb) <;> (first | omega | skip))
   | refine Src.whole ⟨rfl, rfl⟩ ?_ | refine FrzV.whole ?_
   | refine CallW.use (strings_trimLeftByte s hs) ?_) <;> conv => whnf)
  · exact CLe.retP (by rw [List.eq_nil_of_length_eq_zero hb]; rfl)
  · exact CLe.eq rfl
  · exact absurd (by decide) hb
theorem trimR_loop (K : Post) (R : Str) (h0 : K (.exit 0) [(0, .p (.str R))] [] []) : ∀ (q : Nat) (s : Str), s.length ≤ q → s.length ≤ 1073741824 → trimRn q s = R →
      LoopW PP GG 23 0 (loopN F.strings_trimRightByte_c 0) [(0, .p (.str s)), (1, .p (byteP 48))] [] [] (PostCl 23 K) := by
  intro q
  induction q with
  | zero =>
    intro s hq hs hR
    rw [trimRn] at hR
    subst hR
    refine LoopW.round (pol := polG) mixP ?_
    conv => whnf
    repeat' ((first
     | ((with_reducible first | refine Br.dec ?_ ?_ | refine Br.ndec ?_ ?_) <;> intro hb <;> (try simp only [ZZ] at hb) <;> (first | omega | skip))
     | (with_reducible first | refine Br.tt rfl ?_ | refine Br.ff rfl ?_ | refine Br.ff (isEmptyCons _ _) ?_)
     | ((with_reducible first | refine Side.mk ?_ ?_ | refine WrapW.mk ?_ ?_); focus (first | omega | (dsimp only [InR, Int.reduceToNat, IntKind.bits, Int.reducePow]; omega) | (simp [CC]; done) | (constructor <;> omega)))
     | (refine Br.mk ?_ ?_ <;> intro hb <;> (try simp only [ZZ] at hb) <;> (first | omega | skip))
     | refine Src.whole ⟨rfl, rfl⟩ ?_ | refine FrzV.whole ?_) <;> conv => whnf)
    · refine PostCl.of (h0) ?_ ?_
      · repeat first | exact trivial | refine ⟨VLe.refl _, ?_⟩
      · repeat first | exact trivial | refine ⟨by decide, ?_⟩
  | succ q ih =>
    intro s hq hs hR
    rw [trimRn] at hR
    have hl : (s.take (s.length - 1)).length = s.length - 1 := by rw [List.length_take]; omega
    have e1 : ((s.length : Int) - 1).toNat = s.length - 1 := by omega
    refine LoopW.round (pol := polG) mixP ?_
    conv => whnf
    repeat' ((first
     | ((with_reducible first | refine Br.dec ?_ ?_ | refine Br.ndec ?_ ?_) <;> intro hb <;> (try simp only [And.intro @e1 (ZZ)] at hb) <;> (first | omega | skip))
     | (with_reducible first | refine Br.tt rfl ?_ | refine Br.ff rfl ?_ | refine Br.ff (isEmptyCons _ _) ?_)
     | ((with_reducible first | refine Side.mk ?_ ?_ | refine WrapW.mk ?_ ?_); focus (first | omega | (dsimp only [InR, Int.reduceToNat, IntKind.bits, Int.reducePow]; omega) | (simp [CC]; done) | (constructor <;> omega)))
     | (refine Br.mk ?_ ?_ <;> intro hb <;> (try simp only [And.intro @e1 (ZZ)] at hb) <;> (first | omega | skip))
     | refine Src.whole ⟨rfl, rfl⟩ ?_ | refine FrzV.whole ?_) <;> conv => whnf)
    · rw [if_pos ⟨by omega, UInt8.toNat_inj.1 (by omega)⟩] at hR
      rw [e1]
      refine LoopW.sub (ih (s.take (s.length - 1)) (by omega) (by omega) hR) (by repeat first | exact trivial | refine ⟨VLe.refl _, ?_⟩) (by repeat first | exact trivial | refine ⟨by decide, ?_⟩)
    · rw [if_neg (fun e => hb (by rw [e.2]))] at hR
      subst hR
      refine PostCl.of (h0) ?_ ?_
      · repeat first | exact trivial | refine ⟨VLe.refl _, ?_⟩
      · repeat first | exact trivial | refine ⟨by decide, ?_⟩
    · rw [if_neg (fun e => by omega)] at hR
      subst hR
      refine PostCl.of (h0) ?_ ?_
      · repeat first | exact trivial | refine ⟨VLe.refl _, ?_⟩
      · repeat first | exact trivial | refine ⟨by decide, ?_⟩
theorem strings_trimRightByte (s : Str) (hs : s.length ≤ 1073741824) : AbsCall PP GG F.strings_trimRightByte [.p (.str s), .p (byteP 48)] [] ⟨.ret (.p (.str (trimR s))), [], []⟩ := by
  refine absCall_of (pol := polG) mixP F.strings_trimRightByte_is ?_
  conv => whnf
  refine LoopW.cl ?_
  refine LoopW.sub (trimR_loop _ (trimR s) ?_ s.length s (by omega) hs rfl) (by repeat first | exact trivial | refine ⟨VLe.refl _, ?_⟩) (by repeat first | exact trivial | refine ⟨by decide, ?_⟩)
  conv => whnf
  exact CLe.eq rfl
theorem strings_TrimRight (s : Str) (hs : s.length ≤ 1073741824) : AbsCall PP GG F.strings_TrimRight [.p (.str s), .p (.str [48])] [] ⟨.ret (.p (.str (trimR s))), [], []⟩ := by
  have h1 : ([48] : Str).length = 1 := rfl
  have hg : ([48] : Str).getD (Int.toNat 0) 0 = 48 := rfl
  refine absCall_of (pol := polG) mixP F.strings_TrimRight_is ?_
  conv => whnf
  repeat' ((first
   | ((with_reducible first | refine Br.dec ?_ ?_ | refine Br.ndec ?_ ?_) <;> intro hb <;> (try simp only [And.intro @h1 (And.intro @hg (ZZ))] at hb) <;> (first | omega | skip))
   | (with_reducible first | refine Br.tt rfl ?_ | refine Br.ff rfl ?_ | refine Br.ff (isEmptyCons _ _) ?_)
   | ((with_reducible first | refine Side.mk ?_ ?_ | refine WrapW.mk ?_ ?_); focus (first | omega | (dsimp only [InR, Int.reduceToNat, IntKind.bits, Int.reducePow]; omega) | (simp [CC]; done) | (constructor <;> omega)))
   | (refine Br.mk ?_ ?_ <;> intro hb <;> (try simp only [And.intro @h1 (And.intro @hg (ZZ))] at hb) <;> (first | omega | skip))
   | refine Src.whole ⟨rfl, rfl⟩ ?_ | refine FrzV.whole ?_
   | refine CallW.use (strings_trimRightByte s hs) ?_) <;> conv => whnf)
  · exact CLe.retP (by rw [List.eq_nil_of_length_eq_zero hb]; rfl)
  · exact CLe.eq rfl
  · exact absurd (by decide) hb
theorem dpow_loop (s : Str) (hs : s.length ≤ 1073741824) (hd : ∀ b ∈ s, dig b = true) (less : Bool) (R : Option Int) (K : Post)
    (h0 : ∀ v : Int, R = some v → 0 ≤ v → v ≤ 100000 → K (.exit 0) [(4, .p (.bool less)), (5, .p (.int .i64 v))] [.arr T.uint8 1 (s.map byteP)] [])
    (hr : R = none → K .ret [(2, .p (.int .i64 0)), (3, .p (.bool false))] [.arr T.uint8 1 (s.map byteP)] []) :
    ∀ (q i : Nat) (v : Int), i + q = s.length → 0 ≤ v → v ≤ 100000 → powD (s.drop i) v = R →
      LoopW PP GG 46 0 (loopN F.dec_power_c 0) [(4, .p (.bool less)), (5, .p (.int .i64 v)), (27, .sl 0 0 (s.map byteP).length), (28, .p (.int .i64 (s.map byteP).length)), (29, .p (.int .i64 i))] [.arr T.uint8 1 (s.map byteP)] [] (PostCl 46 K) := by
  have hl : (s.map byteP).length = s.length := by simp
  intro q
  induction q with
  | zero =>
    intro i v hi hv0 hv1 hR
    rw [List.drop_eq_nil_of_le (by omega), powD] at hR
    refine LoopW.round (pol := polG) mixP ?_
    conv => whnf
    repeat' ((first
     | ((with_reducible first | refine Br.dec ?_ ?_ | refine Br.ndec ?_ ?_) <;> intro hb <;> (try simp only [And.intro @hl (ZZ)] at hb) <;> (first | omega | skip))
     | (with_reducible first | refine Br.tt rfl ?_ | refine Br.ff rfl ?_ | refine Br.ff (isEmptyCons _ _) ?_)
     | ((with_reducible first | refine Side.mk ?_ ?_ | refine WrapW.mk ?_ ?_); focus (first | omega | (dsimp only [InR, Int.reduceToNat, IntKind.bits, Int.reducePow]; omega) | (simp [CC]; done) | (constructor <;> omega)))
     | (refine Br.mk ?_ ?_ <;> intro hb <;> (try simp only [And.intro @hl (ZZ)] at hb) <;> (first | omega | skip))
     | refine Src.whole ⟨rfl, rfl⟩ ?_ | refine FrzV.whole ?_) <;> conv => whnf)
    · refine PostCl.of (h0 v hR.symm hv0 hv1) ?_ ?_
      · repeat first | exact trivial | refine ⟨VLe.refl _, ?_⟩
      · repeat first | exact trivial | refine ⟨by decide, ?_⟩
  | succ q ih =>
    intro i v hi hv0 hv1 hR
    obtain ⟨b, hbx⟩ : ∃ b, s[i]? = some b := ⟨_, List.getElem?_eq_getElem (show i < s.length by omega)⟩
    have hdb := hd b (List.mem_of_getElem? hbx)
    unfold dig at hdb
    rw [decide_eq_true_eq] at hdb
    rw [drop_cons hbx, powD] at hR
    refine LoopW.round (pol := polG) mixP ?_
    conv => whnf
    repeat' ((first
     | ((with_reducible first | refine Br.dec ?_ ?_ | refine Br.ndec ?_ ?_) <;> intro hb <;> (try simp only [And.intro @hl (ZZ)] at hb) <;> (first | omega | skip))
     | (with_reducible first | refine Br.tt rfl ?_ | refine Br.ff rfl ?_ | refine Br.ff (isEmptyCons _ _) ?_)
     | ((with_reducible first | refine Side.mk ?_ ?_ | refine WrapW.mk ?_ ?_); focus (first | omega | (dsimp only [InR, Int.reduceToNat, IntKind.bits, Int.reducePow]; omega) | exact ⟨rfl, rfl⟩ | (simp [CC]; done) | (constructor <;> omega)))
     | (refine Br.mk ?_ ?_ <;> intro hb <;> (try simp only [And.intro @hl (ZZ)] at hb) <;> (first | omega | skip))
     | refine Src.whole ⟨rfl, rfl⟩ ?_ | refine FrzV.whole ?_
     | (refine ElemA.byte (b := b) (by simpa [plus0] using hbx) ?_)) <;> conv => whnf)
    · rw [if_pos (by omega)] at hR
      refine PostCl.of (hr hR.symm) ?_ ?_
      · repeat first | exact trivial | refine ⟨VLe.refl _, ?_⟩
      · repeat first | exact trivial | refine ⟨by decide, ?_⟩
    · rw [if_neg (by omega)] at hR
      refine LoopW.sub (ih (i + 1) _ (by omega) (by omega) (by omega) hR) (by repeat first | exact trivial | refine ⟨VLe.refl _, ?_⟩) (by repeat first | exact trivial | refine ⟨by decide, ?_⟩)
theorem dpow_4 (less : Bool) (s : Str) (hs : s.length ≤ 1073741824) (R : Int × Bool) (K : Post) (hR : powTail less s = R)
    (h0 : K .ret [(2, .p (.int .i64 R.1)), (3, .p (.bool R.2))] [] [])
    (h1 : K .ret [(2, .p (.int .i64 R.1)), (3, .p (.bool R.2))] [.arr T.uint8 1 (s.map byteP)] []) :
    CutW PP GG 46 0 (tailN F.dec_power_c 4) [(0, .p (.str s)), (4, .p (.bool less))] [] [] (PostCl 46 K) := by
  have hl : (s.map byteP).length = s.length := by simp
  have hr := runL_le s
  unfold powTail at hR
  refine CutW.go (pol := polC []) mixP ?_
  conv => whnf
  repeat' ((first
   | ((with_reducible first | refine Br.dec ?_ ?_ | refine Br.ndec ?_ ?_) <;> intro hb <;> (try simp only [And.intro @hl (ZZ)] at hb) <;> (first | omega | skip))
   | (with_reducible first | refine Br.tt rfl ?_ | refine Br.ff rfl ?_ | refine Br.ff (isEmptyCons _ _) ?_)
   | ((with_reducible first | refine Side.mk ?_ ?_ | refine WrapW.mk ?_ ?_); focus (first | omega | (dsimp only [InR, Int.reduceToNat, IntKind.bits, Int.reducePow]; omega) | (simp only [hl]; omega) | (simp [CC]; done) | (constructor <;> omega)))
   | (refine Br.mk ?_ ?_ <;> intro hb <;> (try simp only [And.intro @hl (ZZ)] at hb) <;> (first | omega | skip))
   | refine Src.whole ⟨rfl, rfl⟩ ?_ | refine FrzV.whole ?_
   | refine CallW.use (dec_digits s hs) ?_) <;> conv => whnf)
  · rw [if_pos (by omega)] at hR
    subst hR
    refine PostCl.of (h0) ?_ ?_
    · repeat first | exact trivial | refine ⟨VLe.refl _, ?_⟩
    · repeat first | exact trivial | refine ⟨by decide, ?_⟩
  · rw [if_pos (by omega)] at hR
    subst hR
    refine PostCl.of (h0) ?_ ?_
    · repeat first | exact trivial | refine ⟨VLe.refl _, ?_⟩
    · repeat first | exact trivial | refine ⟨by decide, ?_⟩
  · rw [if_neg (by omega)] at hR
    refine LoopW.cl ?_
    refine LoopW.sub (dpow_loop s hs (runL_dig (by omega)) less (powD s 0) _ (fun v hv hv0 hv1 => ?_) (fun hv => ?_) s.length 0 0 (by omega) (by omega) (by omega) rfl) (by repeat first | exact trivial | refine ⟨VLe.refl _, ?_⟩) (by repeat first | exact trivial | refine ⟨by decide, ?_⟩)
    · rw [hv] at hR
      simp only [] at hR
      conv => whnf
      repeat' ((first
       | ((with_reducible first | refine Br.dec ?_ ?_ | refine Br.ndec ?_ ?_) <;> intro hb <;> (try simp only [ZZ] at hb) <;> (first | omega | skip))
       | (with_reducible first | refine Br.tt rfl ?_ | refine Br.ff rfl ?_ | refine Br.ff (isEmptyCons _ _) ?_)
       | ((with_reducible first | refine Side.mk ?_ ?_ | refine WrapW.mk ?_ ?_); focus (first | omega | (dsimp only [InR, Int.reduceToNat, IntKind.bits, Int.reducePow]; omega) | (simp [CC]; done) | (constructor <;> omega)))
       | (refine Br.mk ?_ ?_ <;> intro hb <;> (try simp only [ZZ] at hb) <;> (first | omega | skip))
       | refine Src.whole ⟨rfl, rfl⟩ ?_ | refine FrzV.whole ?_) <;> conv => whnf)
      · rw [if_pos (by assumption)] at hR
        subst hR
        rw [InR.wrap (by simp only [InR]; omega), Int.zero_sub]
        refine PostCl.of (h1) ?_ ?_
        · repeat first | exact trivial | refine ⟨VLe.refl _, ?_⟩
        · repeat first | exact trivial | refine ⟨by decide, ?_⟩
      · rw [if_neg (by simp [*])] at hR
        subst hR
        refine PostCl.of (h1) ?_ ?_
        · repeat first | exact trivial | refine ⟨VLe.refl _, ?_⟩
        · repeat first | exact trivial | refine ⟨by decide, ?_⟩
    · rw [hv] at hR
      subst hR
      conv => whnf
      refine PostCl.of (h1) ?_ ?_
      · repeat first | exact trivial | refine ⟨VLe.refl _, ?_⟩
      · repeat first | exact trivial | refine ⟨by decide, ?_⟩
theorem dec_power (s : Str) (hs : s.length ≤ 1073741824) : AbsCall PP GG F.dec_power [.p (.str s)] [] ⟨.ret (.tup [.p (.int .i64 (decPow s).1), .p (.bool (decPow s).2)]), [], []⟩ := by
  have hl1 : (s.drop 1).length = s.length - 1 := List.length_drop
  have hD : decPow s = if preB s 45 = true then powTail true (s.drop 1) else if preB s 43 = true then powTail false (s.drop 1) else powTail false s := rfl
  refine absCall_of (pol := polC [4]) mixP F.dec_power_is ?_
  conv => whnf
  repeat' ((first
   | ((with_reducible first | refine Br.dec ?_ ?_ | refine Br.ndec ?_ ?_) <;> intro hb <;> (try simp only [ZZ] at hb) <;> (first | omega | skip))
   | (with_reducible first | refine Br.tt rfl ?_ | refine Br.ff rfl ?_ | refine Br.ff (isEmptyCons _ _) ?_)
   | ((with_reducible first | refine Side.mk ?_ ?_ | refine WrapW.mk ?_ ?_); focus (first | omega | (dsimp only [InR, Int.reduceToNat, IntKind.bits, Int.reducePow]; omega) | exact ⟨by decide, by have := preB_len (by assumption); omega⟩ | (simp [CC]; done) | (constructor <;> omega)))
   | (refine Br.mk ?_ ?_ <;> intro hb <;> (try simp only [ZZ] at hb) <;> (first | omega | skip))
   | refine Src.whole ⟨rfl, rfl⟩ ?_ | refine FrzV.whole ?_
   | refine CallW.use (strings_HasPrefix s 45) ?_
   | refine CallW.use (strings_HasPrefix s 43) ?_) <;> conv => whnf)
  all_goals refine CutW.cl ?_
  · refine CutW.sub (dpow_4 (preB s 45) (s.drop 1) (by omega) (decPow s) _ (by rw [hD, if_pos hb, hb]) ?_ ?_) (by repeat first | exact trivial | refine ⟨VLe.refl _, ?_⟩) (by repeat first | exact trivial | refine ⟨by decide, ?_⟩)
    · conv => whnf
      exact CLe.eq rfl
    · conv => whnf
      exact CLe.eq rfl
  · rename_i h45
    refine CutW.sub (dpow_4 (preB s 45) (s.drop 1) (by omega) (decPow s) _ (by rw [hD, if_neg (by rw [h45]; simp), if_pos hb, h45]) ?_ ?_) (by repeat first | exact trivial | refine ⟨VLe.refl _, ?_⟩) (by repeat first | exact trivial | refine ⟨by decide, ?_⟩)
    · conv => whnf
      exact CLe.eq rfl
    · conv => whnf
      exact CLe.eq rfl
  · rename_i h45
    refine CutW.sub (dpow_4 (preB s 45) s (by omega) (decPow s) _ (by rw [hD, if_neg (by rw [h45]; simp), if_neg (by rw [hb]; simp), h45]) ?_ ?_) (by repeat first | exact trivial | refine ⟨VLe.refl _, ?_⟩) (by repeat first | exact trivial | refine ⟨by decide, ?_⟩)
    · conv => whnf
      exact CLe.eq rfl
    · conv => whnf
      exact CLe.eq rfl
theorem parse_21 (less : Bool) (w p : Str) (e : Int) (hw : w.length + p.length ≤ 400) (he : -100000 ≤ e ∧ e ≤ 100000) (R : Dnum) (K : Post) (hR : decE less w p e = R)
    (h0 : K .ret [(2, .ptr 0 0), (3, .p (.bool R.2))] [.var T.dec_number (.p (.agg [.bool R.1.1, .str R.1.2.1, .int .i64 R.1.2.2]))] []) :
    CutW PP GG 103 0 (tailN F.dec_parse_c 21) [(2, .ptr 0 0), (5, .p (.bool less)), (7, .p (.str w)), (8, .p (.str p)), (9, .p (.int .i64 e))] [.var T.dec_number (.p (.agg [.bool false, .str [], .int .i64 0]))] [] (PostCl 103 K) := by
  have hl : (w ++ p).length = w.length + p.length := List.length_append
  have ht := trimL_len (w ++ p)
  unfold decE at hR
  refine CutW.go (pol := polC []) mixP ?_
  conv => whnf
  repeat' ((first
   | ((with_reducible first | refine Br.dec ?_ ?_ | refine Br.ndec ?_ ?_) <;> intro hb <;> (try simp only [ZZ] at hb) <;> (first | omega | skip))
   | (with_reducible first | refine Br.tt rfl ?_ | refine Br.ff rfl ?_ | refine Br.ff (isEmptyCons _ _) ?_)
   | ((with_reducible first | refine Side.mk ?_ ?_ | refine WrapW.mk ?_ ?_); focus (first | omega | (dsimp only [InR, Int.reduceToNat, IntKind.bits, Int.reducePow]; omega) | (simp only [hl]; omega) | (simp [CC]; done) | (constructor <;> omega)))
   | (refine Br.mk ?_ ?_ <;> intro hb <;> (try simp only [ZZ] at hb) <;> (first | omega | skip))
   | refine Src.whole ⟨rfl, rfl⟩ ?_ | refine FrzV.whole ?_
   | refine CallW.use (strings_TrimLeft (w ++ p) (by omega)) ?_
   | refine CallW.use (strings_TrimRight (trimL (w ++ p)) (by omega)) ?_) <;> conv => whnf)
  all_goals
    first
    | (rw [if_pos (by omega)] at hR; subst hR; refine PostCl.of (h0) (by repeat first | exact trivial | refine ⟨VLe.refl _, ?_⟩) (by repeat first | exact trivial | refine ⟨by decide, ?_⟩))
    | (rw [if_neg (by omega)] at hR; subst hR; refine PostCl.of (h0) (by repeat first | exact trivial | refine ⟨VLe.refl _, ?_⟩) (by repeat first | exact trivial | refine ⟨by decide, ?_⟩))
theorem parse_14 (less : Bool) (w p s : Str) (hw : w.length + p.length + s.length ≤ 400) (R : Dnum) (K : Post) (hR : decD less w p s = R)
    (h0 : K .ret [(2, .ptr 0 0), (3, .p (.bool R.2))] [.var T.dec_number (.p (.agg [.bool R.1.1, .str R.1.2.1, .int .i64 R.1.2.2]))] []) :
    CutW PP GG 103 0 (tailN F.dec_parse_c 14) [(2, .ptr 0 0), (4, .p (.str s)), (5, .p (.bool less)), (7, .p (.str w)), (8, .p (.str p)), (9, .p (.int .i64 0))] [.var T.dec_number (.p (.agg [.bool false, .str [], .int .i64 0]))] [] (PostCl 103 K) := by
  have hl1 : (s.drop 1).length = s.length - 1 := List.length_drop
  unfold decD b0 at hR
  refine CutW.go (pol := polC [21]) mixP ?_
  conv => whnf
  repeat' ((first
   | ((with_reducible first | refine Br.dec ?_ ?_ | refine Br.ndec ?_ ?_) <;> intro hb <;> (try simp only [And.intro NN (ZZ)] at hb) <;> (first | omega | skip))
   | (with_reducible first | refine Br.tt rfl ?_ | refine Br.ff rfl ?_ | refine Br.ff (isEmptyCons _ _) ?_)
   | ((with_reducible first | refine Side.mk ?_ ?_ | refine WrapW.mk ?_ ?_); focus (first | omega | (dsimp only [InR, Int.reduceToNat, IntKind.bits, Int.reducePow]; omega) | (simp only [Int.reduceToNat, hl1]; omega) | (simp [CC]; done) | (constructor <;> omega)))
   | (refine Br.mk ?_ ?_ <;> intro hb <;> (try simp only [And.intro NN (ZZ)] at hb) <;> (first | omega | skip))
   | refine Src.whole ⟨rfl, rfl⟩ ?_ | refine FrzV.whole ?_
   | refine CallW.use (dec_power (s.drop 1) (by omega)) ?_) <;> conv => whnf)
  all_goals
    first
    | (rw [if_pos (by omega)] at hR; refine CutW.sub (parse_21 less w p 0 (by omega) (by omega) R K hR h0) (by repeat first | exact trivial | refine ⟨VLe.refl _, ?_⟩) (by repeat first | exact trivial | refine ⟨by decide, ?_⟩))
    | (rw [if_neg (by omega), if_pos (by omega)] at hR; subst hR; refine PostCl.of (h0) (by repeat first | exact trivial | refine ⟨VLe.refl _, ?_⟩) (by repeat first | exact trivial | refine ⟨by decide, ?_⟩))
    | (rw [if_neg (by omega), if_neg (by omega), if_pos (by assumption)] at hR; subst hR; refine PostCl.of (h0) (by repeat first | exact trivial | refine ⟨VLe.refl _, ?_⟩) (by repeat first | exact trivial | refine ⟨by decide, ?_⟩))
    | (rw [if_neg (by omega), if_neg (by omega), if_neg (nf (by assumption))] at hR; refine CutW.sub (parse_21 less w p (decPow (s.drop 1)).1 (by omega) (decPow_bound _) R K hR h0) (by repeat first | exact trivial | refine ⟨VLe.refl _, ?_⟩) (by repeat first | exact trivial | refine ⟨by decide, ?_⟩))
theorem parse_9 (less : Bool) (w s : Str) (hw : w.length + s.length ≤ 400) (R : Dnum) (K : Post) (hR : decC less w s = R)
    (h0 : K .ret [(2, .ptr 0 0), (3, .p (.bool R.2))] [.var T.dec_number (.p (.agg [.bool R.1.1, .str R.1.2.1, .int .i64 R.1.2.2]))] []) :
    CutW PP GG 103 0 (tailN F.dec_parse_c 9) [(2, .ptr 0 0), (4, .p (.str s)), (5, .p (.bool less)), (7, .p (.str w)), (8, .p (.str [])), (9, .p (.int .i64 0))] [.var T.dec_number (.p (.agg [.bool false, .str [], .int .i64 0]))] [] (PostCl 103 K) := by
  have hl1 : (s.drop 1).length = s.length - 1 := List.length_drop
  have hr1 := runL_le (s.drop 1)
  have e1 : List.take (((runL (s.drop 1) : Int) + 1).toNat - 1) (s.drop 1) = List.take (runL (s.drop 1)) (s.drop 1) := by congr 1 <;> omega
  have e2 : List.drop ((runL (s.drop 1) : Int) + 1).toNat s = List.drop (runL (s.drop 1)) (s.drop 1) := by rw [List.drop_drop]; congr 1 <;> omega
  have e5 : 1 ≤ s.length → w.length + (List.take (((runL (s.drop 1) : Int) + 1).toNat - 1) (s.drop 1)).length + (List.drop ((runL (s.drop 1) : Int) + 1).toNat s).length ≤ 400 := by intro h; rw [e1, e2, take_run, List.length_drop]; omega
  unfold decC at hR
  refine CutW.go (pol := polC [14]) mixP ?_
  conv => whnf
  repeat' ((first
   | ((with_reducible first | refine Br.dec ?_ ?_ | refine Br.ndec ?_ ?_) <;> intro hb <;> (try simp only [And.intro NN (ZZ)] at hb) <;> (first | omega | skip))
   | (with_reducible first | refine Br.tt rfl ?_ | refine Br.ff rfl ?_ | refine Br.ff (isEmptyCons _ _) ?_)
   | ((with_reducible first | refine Side.mk ?_ ?_ | refine WrapW.mk ?_ ?_); focus (first | omega | (dsimp only [InR, Int.reduceToNat, IntKind.bits, Int.reducePow]; omega) | exact ⟨by decide, by have := preB_len (by assumption); omega⟩ | (have := preB_len (by assumption); simp only [Int.reduceToNat, hl1]; omega) | (simp [CC]; done) | (constructor <;> omega)))
   | (refine Br.mk ?_ ?_ <;> intro hb <;> (try simp only [And.intro NN (ZZ)] at hb) <;> (first | omega | skip))
   | refine Src.whole ⟨rfl, rfl⟩ ?_ | refine FrzV.whole ?_
   | refine CallW.use (strings_HasPrefix s 46) ?_
   | refine CallW.use (dec_digits (s.drop 1) (by omega)) ?_) <;> conv => whnf)
  all_goals
    first
    | (rw [if_pos (by assumption), if_pos (by omega)] at hR; subst hR; refine PostCl.of (h0) (by repeat first | exact trivial | refine ⟨VLe.refl _, ?_⟩) (by repeat first | exact trivial | refine ⟨by decide, ?_⟩))
    | (rw [if_pos (by assumption), if_neg (by omega), ← e1, ← e2] at hR; refine CutW.sub (parse_14 less w _ _ (e5 (preB_len (by assumption))) R K hR h0) (by repeat first | exact trivial | refine ⟨VLe.refl _, ?_⟩) (by repeat first | exact trivial | refine ⟨by decide, ?_⟩))
    | (rw [if_neg (nt (by assumption))] at hR; refine CutW.sub (parse_14 less w [] s (by simp only [List.length_nil]; omega) R K hR h0) (by repeat first | exact trivial | refine ⟨VLe.refl _, ?_⟩) (by repeat first | exact trivial | refine ⟨by decide, ?_⟩))
theorem parse_4 (less : Bool) (s : Str) (hw : s.length ≤ 400) (R : Dnum) (K : Post) (hR : decB less s = R)
    (h0 : K .ret [(2, .ptr 0 0), (3, .p (.bool R.2))] [.var T.dec_number (.p (.agg [.bool R.1.1, .str R.1.2.1, .int .i64 R.1.2.2]))] []) :
    CutW PP GG 103 0 (tailN F.dec_parse_c 4) [(2, .ptr 0 0), (4, .p (.str s)), (5, .p (.bool less))] [.var T.dec_number (.p (.agg [.bool false, .str [], .int .i64 0]))] [] (PostCl 103 K) := by
  have hr := runL_le s
  have hwl : (s.take (runL s)).length = runL s := take_run s
  have hul : (s.drop (runL s)).length = s.length - runL s := List.length_drop
  unfold decB b0 at hR
  refine CutW.go (pol := polC [9]) mixP ?_
  conv => whnf
  repeat' ((first
   | ((with_reducible first | refine Br.dec ?_ ?_ | refine Br.ndec ?_ ?_) <;> intro hb <;> (try simp only [And.intro NN (And.intro @Int.toNat_natCast (And.intro @hwl (ZZ)))] at hb) <;> (first | omega | skip))
   | (with_reducible first | refine Br.tt rfl ?_ | refine Br.ff rfl ?_ | refine Br.ff (isEmptyCons _ _) ?_)
   | ((with_reducible first | refine Side.mk ?_ ?_ | refine WrapW.mk ?_ ?_); focus (first | omega | (dsimp only [InR, Int.reduceToNat, IntKind.bits, Int.reducePow]; omega) | (simp only [And.intro NN (And.intro @Int.toNat_natCast hwl)]; omega) | (simp [CC]; done) | (constructor <;> omega)))
   | (refine Br.mk ?_ ?_ <;> intro hb <;> (try simp only [And.intro NN (And.intro @Int.toNat_natCast (And.intro @hwl (ZZ)))] at hb) <;> (first | omega | skip))
   | refine Src.whole ⟨rfl, rfl⟩ ?_ | refine FrzV.whole ?_
   | refine CallW.use (dec_digits s (by omega)) ?_) <;> conv => whnf)
  all_goals
    first
    | (rw [if_pos (by omega)] at hR; subst hR; refine PostCl.of (h0) (by repeat first | exact trivial | refine ⟨VLe.refl _, ?_⟩) (by repeat first | exact trivial | refine ⟨by decide, ?_⟩))
    | (rw [if_neg (by omega)] at hR; refine CutW.sub (parse_9 less (s.take (runL s)) (s.drop (runL s)) (by omega) R K hR h0) (by repeat first | exact trivial | refine ⟨VLe.refl _, ?_⟩) (by repeat first | exact trivial | refine ⟨by decide, ?_⟩))
theorem dec_parse (s : Str) (hs : s.length ≤ 1073741824) : AbsCall PP GG F.dec_parse [.p (.str s)] [] ⟨.ret (.tup [.p (.agg [.bool (decParse s).1.1, .str (decParse s).1.2.1, .int .i64 (decParse s).1.2.2]), .p (.bool (decParse s).2)]), [], []⟩ := by
  have hD : decParse s = if 400 < s.length then noNum else decB (preB s 45) (if preB s 45 = true then s.drop 1 else s) := rfl
  have hle : (if preB s 45 = true then s.drop 1 else s).length ≤ s.length := by split <;> simp
  refine absCall_of (pol := polC [4]) mixP F.dec_parse_is ?_
  conv => whnf
  repeat' ((first
   | ((with_reducible first | refine Br.dec ?_ ?_ | refine Br.ndec ?_ ?_) <;> intro hb <;> (try simp only [ZZ] at hb) <;> (first | omega | skip))
   | (with_reducible first | refine Br.tt rfl ?_ | refine Br.ff rfl ?_ | refine Br.ff (isEmptyCons _ _) ?_)
   | ((with_reducible first | refine Side.mk ?_ ?_ | refine WrapW.mk ?_ ?_); focus (first | omega | (dsimp only [InR, Int.reduceToNat, IntKind.bits, Int.reducePow]; omega) | (simp [CC]; done) | (constructor <;> omega)))
   | (refine Br.mk ?_ ?_ <;> intro hb <;> (try simp only [ZZ] at hb) <;> (first | omega | skip))
   | refine Src.whole ⟨rfl, rfl⟩ ?_ | refine FrzV.whole ?_
   | refine CallW.use (strings_CutPrefix s 45) ?_) <;> conv => whnf)
  · exact CLe.eq (by rw [hD, if_pos (by omega)]; rfl)
  · refine CutW.cl ?_
    refine CutW.sub (parse_4 (preB s 45) (if preB s 45 = true then s.drop 1 else s) (by omega) (decParse s) _ (by rw [hD]; exact (if_neg (by omega)).symm) ?_) (by repeat first | exact trivial | refine ⟨VLe.refl _, ?_⟩) (by repeat first | exact trivial | refine ⟨by decide, ?_⟩)
    conv => whnf
    exact CLe.eq rfl
theorem dec_Good (s : Str) (hs : s.length ≤ 1073741824) : AbsCall PP GG F.dec_Good [.p (.str s)] [] ⟨.ret (.p (.bool (decParse s).2)), [], []⟩ := by
  refine absCall_of (pol := polG) mixP F.dec_Good_is ?_
  conv => whnf
  repeat' ((first
   | ((with_reducible first | refine Br.dec ?_ ?_ | refine Br.ndec ?_ ?_) <;> intro hb <;> (try simp only [ZZ] at hb) <;> (first | omega | skip))
   | (with_reducible first | refine Br.tt rfl ?_ | refine Br.ff rfl ?_ | refine Br.ff (isEmptyCons _ _) ?_)
   | ((with_reducible first | refine Side.mk ?_ ?_ | refine WrapW.mk ?_ ?_); focus (first | omega | (dsimp only [InR, Int.reduceToNat, IntKind.bits, Int.reducePow]; omega) | (simp [CC]; done) | (constructor <;> omega)))
   | (refine Br.mk ?_ ?_ <;> intro hb <;> (try simp only [ZZ] at hb) <;> (first | omega | skip))
   | refine Src.whole ⟨rfl, rfl⟩ ?_ | refine FrzV.whole ?_
   | refine CallW.use (dec_parse s hs) ?_) <;> conv => whnf)
  exact CLe.eq rfl
end Go.Proofs.YtoinkmogdfjmmaaGreatDoor
end

section
namespace Go.Am
open Go
def okP (R : Parts) : Bool := R.2.2.2.2 && (powerL R.2.2.2.1).2
theorem numL_eq (s : Str) : numL s = (okP (numParts s) && decide (s.length ≤ 400)) := by
  unfold numL formL okP
  cases (numParts s).2.2.2.2 <;> cases (powerL (numParts s).2.2.2.1).2 <;> rfl
theorem preB_iff (s : Str) (p : UInt8) : preB s p = true ↔ 0 < s.length ∧ b0 s = p.toNat := by
  unfold preB b0
  rw [decide_eq_true_eq]
  cases s with
  | nil => simp
  | cons b s => simp [UInt8.toNat_inj]
theorem decE_ok (less : Bool) (w p : Str) (e : Int) : (decE less w p e).2 = true := by unfold decE; split <;> rfl
theorem powL_powD : ∀ (s : Str) (v : Int), (∀ b ∈ s, dig b = true) → powL s v = powD s v
  | [], _, _ => rfl
  | b :: s, v, h => by
    rw [powL, powD, if_pos (h b (by simp)), show 10 * v + ((b.toNat : Int) - 48) = v * 10 + ((b.toNat : Int) - 48) by omega]
    by_cases hc : 100000 < v * 10 + ((b.toNat : Int) - 48)
    · rw [if_pos hc, if_pos hc]
    · rw [if_neg hc, if_neg hc]
      exact powL_powD s _ fun x hx => h x (by simp [hx])
theorem powerL_ok (p : Str) : (powerL p).2 = (powL p 0).isSome := by
  unfold powerL
  split
  · rename_i h; rw [h]; rfl
  · rename_i v h; rw [h]; split <;> rfl
theorem powTail_ok (less : Bool) (d : Str) : (powTail less d).2 = if d.length = 0 ∨ runL d ≠ d.length then false else (powD d 0).isSome := by
  unfold powTail
  split
  · rfl
  · split
    · rename_i h; rw [h]; rfl
    · rename_i v h; rw [h]; split <;> rfl
theorem partsE_ok (neg : Bool) (w f p d : Str) (h : powL p 0 = powL d 0) (less : Bool) : okP (partsE neg w f p d) = (powTail less d).2 := by
  rw [powTail_ok]
  unfold partsE okP
  split
  · rfl
  · rename_i hc
    simp only [Bool.true_and]
    rw [powerL_ok, h, powL_powD d 0 (runL_dig (by omega))]
theorem powL_sign {p : Str} (h : 0 < p.length) (hs : b0 p = 43 ∨ b0 p = 45) : powL p 0 = powL (p.drop 1) 0 := by
  cases p with
  | nil => simp at h
  | cons b s =>
    have hb : b0 (b :: s) = b.toNat := rfl
    rw [powL, if_neg]
    · rfl
    · unfold dig; rw [decide_eq_true_eq]; omega
theorem partsD_ok (neg less : Bool) (w f s : Str) : okP (partsD neg w f s) = (decD less w f s).2 := by
  unfold partsD decD
  split
  · rw [decE_ok]; rfl
  · split
    · rfl
    · have key : okP (if 0 < (s.drop 1).length ∧ (b0 (s.drop 1) = 43 ∨ b0 (s.drop 1) = 45) then partsE neg w f (s.drop 1) ((s.drop 1).drop 1) else partsE neg w f (s.drop 1) (s.drop 1)) = (decPow (s.drop 1)).2 := by
        have h45 := preB_iff (s.drop 1) 45
        have h43 := preB_iff (s.drop 1) 43
        have e45 : (45 : UInt8).toNat = 45 := rfl
        have e43 : (43 : UInt8).toNat = 43 := rfl
        rw [e45] at h45
        rw [e43] at h43
        unfold decPow
        split
        · rename_i hc
          rw [partsE_ok neg w f _ _ (powL_sign hc.1 hc.2) (preB (s.drop 1) 45)]
          by_cases hp : preB (s.drop 1) 45 = true
          · rw [if_pos hp, hp]
          · rw [if_neg hp, if_pos (h43.2 (by have := mt h45.2 hp; omega))]
            rw [show preB (s.drop 1) 45 = false by simpa using hp]
        · rename_i hc
          rw [partsE_ok neg w f _ _ rfl false, if_neg (fun h => hc (by have := h45.1 h; omega)), if_neg (fun h => hc (by have := h43.1 h; omega))]
      rw [key]
      cases hq : (decPow (s.drop 1)).2 with
      | false => rfl
      | true => rw [if_neg (by simp), decE_ok]
theorem partsC_ok (neg less : Bool) (w s : Str) : okP (partsC neg w s) = (decC less w s).2 := by
  have h := preB_iff s 46
  have e46 : (46 : UInt8).toNat = 46 := rfl
  rw [e46] at h
  unfold partsC decC
  by_cases hp : preB s 46 = true
  · rw [if_pos (h.1 hp), if_pos hp]
    split
    · rfl
    · exact partsD_ok _ _ _ _ _
  · rw [if_neg (mt h.2 hp), if_neg hp]
    exact partsD_ok _ _ _ _ _
theorem partsB_ok (neg less : Bool) (s : Str) : okP (partsB neg s) = (decB less s).2 := by
  have hb : 0 < runL s → b0 (s.take (runL s)) = b0 s := by
    intro h
    cases s with
    | nil => rfl
    | cons b s =>
      obtain ⟨k, hk⟩ : ∃ k, runL (b :: s) = k + 1 := ⟨runL (b :: s) - 1, by omega⟩
      rw [hk]; rfl
  unfold partsB decB
  by_cases h0 : runL s = 0
  · rw [if_pos (.inl h0), if_pos (.inl h0)]; rfl
  · rw [hb (by omega)]
    split
    · rfl
    · exact partsC_ok _ _ _ _
theorem decParse_ok (s : Str) : (decParse s).2 = numL s := by
  rw [numL_eq]
  have h := preB_iff s 45
  have e45 : (45 : UInt8).toNat = 45 := rfl
  rw [e45] at h
  unfold decParse
  by_cases hl : 400 < s.length
  · rw [if_pos hl, decide_eq_false (by omega), Bool.and_false]; rfl
  · rw [if_neg hl, decide_eq_true (by omega), Bool.and_true]
    unfold numParts
    by_cases hp : preB s 45 = true
    · rw [if_pos hp, if_pos (h.1 hp), hp]; exact (partsB_ok _ _ _).symm
    · rw [if_neg hp, if_neg (mt h.2 hp)]; exact (partsB_ok _ _ _).symm
def dotE : Str := [46, 101, 69]
def decIntL (s : Str) : Int × Bool := if numL s = false ∨ Lib.containsAny s dotE = true ∨ s = [45, 48] then (0, false) else match Lib.parseIntB 64 s with
  | .ok n => (n, true)
  | _ => (0, false)
theorem containsAny_iff (s c : Str) : Lib.containsAny s c = true ↔ ∃ b ∈ s, b ∈ c := by
  unfold Lib.containsAny
  rw [decide_eq_true_eq]
  induction s with
  | nil => simp [Lib.indexAny]
  | cons b s ih =>
    have hge := Lib.indexAny_ge c s
    have e : (0 ≤ Lib.indexAny (b :: s) c) ↔ (b ∈ c ∨ 0 ≤ Lib.indexAny s c) := by
      rw [Lib.indexAny]
      by_cases h : b ∈ c
      · simp [h]
      · have h' : c.contains b = false := by simpa using h
        rw [h', if_neg (by simp)]
        by_cases h2 : Lib.indexAny s c = -1
        · simp [h, h2]
        · have h3 : (Lib.indexAny s c == -1) = false := by simpa using h2
          rw [h3, if_neg (by simp)]
          simp only [h, false_or]
          omega
    rw [e, ih]
    simp
def valN : Str → Nat → Nat
  | [], a => a
  | b :: s, a => valN s (a * 10 + (b.toNat - 48))
theorem valN_ge : ∀ (s : Str) (a : Nat), a ≤ valN s a
  | [], a => Nat.le_refl _
  | b :: s, a => Nat.le_trans (by omega) (valN_ge s _)
theorem parseU_val {M : Nat} (hM : M = 2 ^ 64 - 1) : ∀ (s : Str) (a : Nat), (∀ b ∈ s, dig b = true) → a ≤ M → Lib.parseUintM M a s = if valN s a ≤ M then .ok (valN s a) else .range
  | [], a, _, h => by rw [Lib.parseUintM, valN, if_pos h]
  | b :: s, a, hd, h => by
    have hb := hd b (by simp)
    unfold dig at hb
    rw [decide_eq_true_eq] at hb
    have hge := valN_ge s (a * 10 + (b.toNat - 48))
    rw [Lib.parseUintM, valN, if_pos hb]
    subst hM
    split
    · rw [if_neg (by omega)]
    · split
      · rw [if_neg (by omega)]
      · exact parseU_val rfl s _ (fun x hx => hd x (by simp [hx])) (by omega)
theorem negL_val : ∀ (s : Str) (a : Nat), (∀ b ∈ s, dig b = true) → a ≤ 2 ^ 63 → negL s (-(a : Int)) = if valN s a ≤ 2 ^ 63 then some (-(valN s a : Int)) else none
  | [], a, _, h => by rw [negL, valN, if_pos h]
  | b :: s, a, hd, h => by
    have hb := hd b (by simp)
    unfold dig at hb
    rw [decide_eq_true_eq] at hb
    have hge := valN_ge s (a * 10 + (b.toNat - 48))
    rw [negL, valN]
    split
    · rw [if_neg (by omega)]
    · have e : 10 * (-(a : Int)) - ((b.toNat : Int) - 48) = -((a * 10 + (b.toNat - 48) : Nat) : Int) := by omega
      rw [e]
      exact negL_val s _ (fun x hx => hd x (by simp [hx])) (by omega)
def Whole (_s : Str) (x : Parts) (neg : Bool) (w r : Str) : Prop :=
  ((∃ b ∈ r, b ∈ dotE) ∧ (0 < x.2.2.1.length ∨ 0 < x.2.2.2.1.length)) ∨ (r = [] ∧ x = (neg, w, [], [], true))
theorem partsD_whole (neg : Bool) (w f s : Str) (h : (partsD neg w f s).2.2.2.2 = true) : (s = [] ∧ partsD neg w f s = (neg, w, f, [], true)) ∨ ((∃ b ∈ s, b ∈ dotE) ∧ 0 < (partsD neg w f s).2.2.2.1.length ∧ (partsD neg w f s).2.2.1 = f) := by
  unfold partsD at h ⊢
  split
  · rename_i h0
    exact .inl ⟨List.eq_nil_of_length_eq_zero h0, rfl⟩
  · rename_i h0
    rw [if_neg h0] at h
    cases s with
    | nil => simp at h0
    | cons c s =>
      split
      · rename_i h1; rw [if_pos h1] at h; cases h
      · rename_i h1
        rw [if_neg h1] at h
        have hc : c ∈ dotE := by
          simp only [b0, List.getD_cons_zero] at h1
          have h1 : c.toNat = 101 ∨ c.toNat = 69 := by omega
          have hu : ∀ n : UInt8, c.toNat = n.toNat → c = n := fun n h => UInt8.toNat_inj.1 h
          rcases h1 with h1 | h1
          · rw [hu 101 h1]; decide
          · rw [hu 69 h1]; decide
        refine .inr ⟨⟨c, by simp, hc⟩, ?_⟩
        have key : ∀ p d : Str, d.length ≤ p.length → (partsE neg w f p d).2.2.2.2 = true → 0 < (partsE neg w f p d).2.2.2.1.length ∧ (partsE neg w f p d).2.2.1 = f := by
          intro p d hpd hh
          unfold partsE at hh ⊢
          split
          · rename_i h2; rw [if_pos h2] at hh; cases hh
          · rename_i h2; refine ⟨?_, rfl⟩; simp only []; omega
        split
        · rename_i h2
          rw [if_pos h2] at h
          exact key _ _ (by rw [List.length_drop (i := 1)]; omega) h
        · rename_i h2
          rw [if_neg h2] at h
          exact key _ _ (Nat.le_refl _) h
theorem partsC_whole (neg : Bool) (w s : Str) (h : (partsC neg w s).2.2.2.2 = true) : Whole s (partsC neg w s) neg w s := by
  unfold partsC at h ⊢
  unfold Whole
  split
  · rename_i h1
    rw [if_pos h1] at h
    split
    · rename_i h2; rw [if_pos h2] at h; cases h
    · rename_i h2
      rw [if_neg h2] at h
      have hdot : ∃ b ∈ s, b ∈ dotE := by
        cases s with
        | nil => simp at h1
        | cons c s =>
          refine ⟨c, by simp, ?_⟩
          have h3 : c.toNat = 46 := by simpa [b0] using h1.2
          rw [show c = 46 from UInt8.toNat_inj.1 h3]; decide
      refine .inl ⟨hdot, .inl ?_⟩
      have hl : 0 < ((s.drop 1).take (runL (s.drop 1))).length := by rw [take_run]; omega
      rcases partsD_whole _ _ _ _ h with ⟨_, h4⟩ | ⟨_, _, h4⟩
      · rw [h4]; exact hl
      · rw [h4]; exact hl
  · rename_i h1
    rw [if_neg h1] at h
    rcases partsD_whole _ _ _ _ h with ⟨h3, h4⟩ | ⟨h3, h4, _⟩
    · exact .inr ⟨h3, h4⟩
    · exact .inl ⟨h3, .inr h4⟩
theorem partsB_whole (neg : Bool) (s : Str) (h : (partsB neg s).2.2.2.2 = true) : ((∃ b ∈ s, b ∈ dotE) ∧ (0 < (partsB neg s).2.2.1.length ∨ 0 < (partsB neg s).2.2.2.1.length)) ∨ (partsB neg s = (neg, s, [], [], true) ∧ s ≠ [] ∧ ∀ b ∈ s, dig b = true) := by
  unfold partsB at h ⊢
  split
  · rename_i h1; rw [if_pos h1] at h; cases h
  · rename_i h1
    rw [if_neg h1] at h
    rcases partsC_whole _ _ _ h with ⟨⟨b, hb, hb2⟩, h2⟩ | ⟨h2, h3⟩
    · exact .inl ⟨⟨b, List.mem_of_mem_drop hb, hb2⟩, h2⟩
    · have hle : s.length ≤ runL s := by
        have := congrArg List.length h2
        rw [List.length_drop] at this
        simp only [List.length_nil] at this
        omega
      have ht : s.take (runL s) = s := List.take_of_length_le hle
      refine .inr ⟨by rw [h3, ht], ?_, fun b hb => take_dig s b (by rw [ht]; exact hb)⟩
      rintro rfl
      simp [runL] at h1
theorem dig_dotE {b : UInt8} (h : dig b = true) : ¬ b ∈ dotE := by
  unfold dig at h
  rw [decide_eq_true_eq] at h
  intro hm
  simp only [dotE, List.mem_cons, List.mem_nil_iff, or_false] at hm
  rcases hm with rfl | rfl | rfl <;> revert h <;> decide
theorem decIntL_eq (s : Str) : decIntL s = refIntL s := by
  unfold decIntL refIntL
  by_cases h0 : numL s = false ∨ s = [45, 48]
  · rw [if_pos (by rcases h0 with h | h <;> simp [h]), if_pos h0]
  · rw [if_neg h0]
    have hnum : numL s = true := by simpa using (not_or.1 h0).1
    have hs := (not_or.1 h0).2
    have hok : (numParts s).2.2.2.2 = true := by
      rw [numL_eq] at hnum
      unfold okP at hnum
      simp only [Bool.and_eq_true] at hnum
      exact hnum.1.1
    have big : ∀ w : Str, w ≠ [] → (∀ b ∈ w, dig b = true) → Lib.parseUintB 64 w = if valN w 0 ≤ 2 ^ 64 - 1 then .ok (valN w 0) else .range := by
      intro w hne hd
      unfold Lib.parseUintB
      rw [if_neg hne]
      exact parseU_val rfl w 0 hd (by omega)
    by_cases hc : Lib.containsAny s dotE = true
    · rw [if_pos (Or.inr (Or.inl hc))]
      have hex := (containsAny_iff s dotE).1 hc
      have hgo : 0 < (numParts s).2.2.1.length ∨ 0 < (numParts s).2.2.2.1.length := by
        unfold numParts at hok ⊢
        split
        · rename_i h1
          rw [if_pos h1] at hok
          rcases partsB_whole _ _ hok with h2 | ⟨_, _, h2⟩
          · exact h2.2
          · exfalso
            obtain ⟨b, hb, hb2⟩ := hex
            cases s with
            | nil => simp at hb
            | cons c s =>
              rcases List.mem_cons.1 hb with rfl | hb
              · have h3 : b.toNat = 45 := by simpa [b0] using h1.2
                rw [show b = 45 from UInt8.toNat_inj.1 h3] at hb2
                revert hb2; decide
              · exact dig_dotE (h2 b (by simpa using hb)) hb2
        · rename_i h1
          rw [if_neg h1] at hok
          rcases partsB_whole _ _ hok with h2 | ⟨_, _, h2⟩
          · exact h2.2
          · exfalso
            obtain ⟨b, hb, hb2⟩ := hex
            exact dig_dotE (h2 b hb) hb2
      rw [if_pos hgo]
    · rw [if_neg (by simp [hnum, hc, hs])]
      have hnc : ∀ b ∈ s, ¬ b ∈ dotE := fun b hb hb2 => hc ((containsAny_iff s dotE).2 ⟨b, hb, hb2⟩)
      unfold numParts at hok ⊢
      by_cases h1 : 0 < s.length ∧ b0 s = 45
      · rw [if_pos h1] at hok ⊢
        cases s with
        | nil => simp at h1
        | cons c s =>
          have h3 : c = 45 := UInt8.toNat_inj.1 (by simpa [b0] using h1.2)
          subst h3
          rw [show (45 :: s : Str).drop 1 = s from rfl] at hok ⊢
          rcases partsB_whole _ _ hok with ⟨⟨b, hb, hb2⟩, _⟩ | ⟨h2, hne, hd⟩
          · exact absurd hb2 (hnc b (by simp [hb]))
          · rw [h2]
            simp only [List.length_nil, Nat.lt_irrefl, or_self, if_false]
            have hneg := negL_val s 0 hd (by omega)
            rw [show (-((0 : Nat) : Int)) = 0 by omega] at hneg
            rw [hneg, Lib.parseIntB_minus, big s hne hd]
            by_cases hv : valN s 0 ≤ 2 ^ 63
            · rw [if_pos (show valN s 0 ≤ 2 ^ 64 - 1 by omega), if_pos hv]
              simp only [Lib.signedC]
              rw [if_neg (by omega)]
              simp
            · rw [if_neg hv]
              by_cases hw : valN s 0 ≤ 2 ^ 64 - 1
              · rw [if_pos hw]
                simp only [Lib.signedC]
                rw [if_pos (by omega)]
              · rw [if_neg hw]
                rfl
      · rw [if_neg h1] at hok ⊢
        rcases partsB_whole _ _ hok with ⟨⟨b, hb, hb2⟩, _⟩ | ⟨h2, hne, hd⟩
        · exact absurd hb2 (hnc b hb)
        · rw [h2]
          simp only [List.length_nil, Nat.lt_irrefl, or_self, if_false]
          have hneg := negL_val s 0 hd (by omega)
          rw [show (-((0 : Nat) : Int)) = 0 by omega] at hneg
          have hpb : Lib.parseIntB 64 s = Lib.signlessC (2 ^ 63) (Lib.parseUintB 64 s) := by
            cases s with
            | nil => exact absurd rfl hne
            | cons c s =>
              have hdc := hd c (by simp)
              unfold dig at hdc
              rw [decide_eq_true_eq] at hdc
              exact Lib.parseIntB_plain 64 c s (by omega) (by omega)
          rw [hneg, hpb, big s hne hd]
          by_cases hv : valN s 0 ≤ 2 ^ 63
          · rw [if_pos (show valN s 0 ≤ 2 ^ 64 - 1 by omega), if_pos hv]
            simp only [Lib.signlessC]
            by_cases hv2 : valN s 0 = 2 ^ 63
            · rw [if_pos (by omega)]
              simp [hv2]
            · rw [if_neg (by omega)]
              simp only []
              rw [if_neg (by simp), if_neg (by omega), Int.neg_neg]
          · rw [if_neg hv]
            by_cases hw : valN s 0 ≤ 2 ^ 64 - 1
            · rw [if_pos hw]
              simp only [Lib.signlessC]
              rw [if_pos (by omega)]
            · rw [if_neg hw]
              rfl
def Asc (s : Str) : Prop := ∀ b ∈ s, b.toNat < 128
theorem asc_dig {s : Str} (h : ∀ b ∈ s, dig b = true) : Asc s := fun b hb => by
  have := h b hb
  unfold dig at this
  rw [decide_eq_true_eq] at this
  omega
theorem asc_run {s : Str} (h : Asc (s.drop (runL s))) : Asc s := by
  intro b hb
  rw [← List.take_append_drop (runL s) s] at hb
  rcases List.mem_append.1 hb with hb | hb
  · exact asc_dig (take_dig s) b hb
  · exact h b hb
theorem asc_cons {s : Str} (h1 : b0 s < 128) (h : Asc (s.drop 1)) : Asc s := by
  cases s with
  | nil => intro b hb; cases hb
  | cons c s =>
    intro b hb
    rcases List.mem_cons.1 hb with rfl | hb
    · simpa [b0] using h1
    · exact h b (by simpa using hb)
theorem asc_E {neg : Bool} {w f p d : Str} (h : (partsE neg w f p d).2.2.2.2 = true) : Asc d := by
  unfold partsE at h
  split at h
  · cases h
  · rename_i hc
    exact asc_dig (runL_dig (by omega))
theorem asc_D {neg : Bool} {w f s : Str} (h : (partsD neg w f s).2.2.2.2 = true) : Asc s := by
  unfold partsD at h
  split at h
  · rename_i h0
    obtain rfl := List.eq_nil_of_length_eq_zero h0
    intro b hb; cases hb
  · split at h
    · cases h
    · rename_i h1
      refine asc_cons (by omega) ?_
      split at h
      · rename_i h2
        exact asc_cons (by omega) (asc_E h)
      · exact asc_E h
theorem asc_C {neg : Bool} {w s : Str} (h : (partsC neg w s).2.2.2.2 = true) : Asc s := by
  unfold partsC at h
  split at h
  · rename_i h0
    split at h
    · cases h
    · exact asc_cons (by omega) (asc_run (asc_D h))
  · exact asc_D h
theorem asc_B {neg : Bool} {s : Str} (h : (partsB neg s).2.2.2.2 = true) : Asc s := by
  unfold partsB at h
  split at h
  · cases h
  · exact asc_run (asc_C h)
theorem numL_asc {s : Str} (h : numL s = true) : s.length ≤ 400 ∧ Asc s := by
  rw [numL_eq] at h
  unfold okP at h
  simp only [Bool.and_eq_true, decide_eq_true_eq] at h
  refine ⟨h.2, ?_⟩
  have h := h.1.1
  unfold numParts at h
  split at h
  · exact asc_cons (by omega) (asc_B h)
  · exact asc_B h
end Go.Am
end

section
namespace Go.Proofs.YtoinkmogdfjmmaaGreatDoor
open Go Go.Am Go.RowKit
set_option maxRecDepth 100000
def intEndP (T : Nat) (sat : Int) : Lib.NumEnd Int → PV
  | .ok n => .tup [.int .i64 n, .nili]
  | .range => .tup [.int .i64 sat, .iface T .anyp]
  | _ => .tup [.int .i64 0, .iface T .anyp]
theorem err_cell {B : Nat → Prop} {w : World} (hg : GOk GG B w) (g : Nat) (h : GG g = some (.iface T.ptr_errors_errorString .anyp)) : ∃ ev, w.cell? ⟨g, 0, none⟩ = some ev ∧ (ev = .nilIface ∨ ∃ te pe, ev = .iface te pe) := by
  obtain ⟨h1, _⟩ := hg g _ h
  cases h1 with
  | cptr d b o u hb hw hf hc hr =>
    refine ⟨u 0, hc 0 (by simp [PV.cells]), .inr ?_⟩
    have := hr 0 _ rfl
    generalize u 0 = x at this
    cases this
    exact ⟨_, _, rfl⟩
theorem strconv_ParseInt (s : Str) (hs : s.length ≤ 1073741824) (H : Heap) :
    AbsCall PP GG F.strconv_ParseInt [.p (.str s), .p (.int .i64 10), .p (.int .i64 64)] H ⟨.ret (.p (intEndP T.ptr_strconv_NumError (Lib.intSat 64 s) (Lib.parseIntB 64 s))), H, []⟩ := by
  refine absBelow fun B L w vs _ ha hg => ?_
  obtain ⟨v, u, t, rfl, hv, hu, ht⟩ := vrel3 ha
  obtain rfl := vstr hv
  obtain rfl := vint hu
  obtain rfl := vint ht
  cases hp : Lib.parseIntB 64 s with
  | ok n =>
    refine CallTo.of_calls Tryz.func94 (by kernel_rfl) rfl ((Tryz.strconv_ParseInt_10_at64_ok ⟨s.toArray⟩ (by simp [ByteArray.size]; omega) n (by simpa using hp) w).mono ?_)
    rintro e w' ⟨rfl, hb⟩
    refine ⟨?_, _, rfl, .p _ _ (.tup _ [.int .i64 n, .nilIface] rfl fun i x y hx hy => ?_)⟩
    rcases hb with rfl | ⟨t, rfl⟩
    · exact Below.refl _ _
    · exact Lib.bytesWorld_below _ _ _
    · rcases i with _ | _ | i
      · cases hx; cases hy; exact .int _ _
      · cases hx; cases hy; exact .nili
      · simp at hx
  | range =>
    obtain ⟨ev, h1, h2⟩ := err_cell hg Gl.strconv_ErrRange rfl
    refine CallTo.of_calls Tryz.func94 (by kernel_rfl) rfl ((Tryz.strconv_ParseInt_10_at64_range ⟨s.toArray⟩ (by simp [ByteArray.size]; omega) (by simpa using hp) ev w h1 h2).mono ?_)
    rintro e w' ⟨N, rfl, _, _, hb⟩
    refine ⟨hb, _, rfl, .p _ _ (.tup _ [.int .i64 (Lib.intSat 64 s), .iface T.ptr_strconv_NumError (.pointer (some ⟨N, 0, none⟩))] rfl fun i x y hx hy => ?_)⟩
    rcases i with _ | _ | i
    · cases hx; cases hy; exact .int _ _
    · cases hx; cases hy; exact .iface _ _ _ (.anyp _)
    · simp at hx
  | _ =>
    obtain ⟨ev, h1, h2⟩ := err_cell hg Gl.strconv_ErrSyntax rfl
    refine CallTo.of_calls Tryz.func94 (by kernel_rfl) rfl ((Tryz.strconv_ParseInt_10_at64_other ⟨s.toArray⟩ (by simp [ByteArray.size]; omega) (by constructor <;> simp [hp]) ev w h1 h2).mono ?_)
    rintro e w' ⟨N, rfl, _, _, hb⟩
    refine ⟨hb, _, rfl, .p _ _ (.tup _ [.int .i64 0, .iface T.ptr_strconv_NumError (.pointer (some ⟨N, 0, none⟩))] rfl fun i x y hx hy => ?_)⟩
    rcases i with _ | _ | i
    · cases hx; cases hy; exact .int _ _
    · cases hx; cases hy; exact .iface _ _ _ (.anyp _)
    · simp at hx
theorem num_ascii (s : Str) (h : numL s = true) : s.length ≤ 400 ∧ ∀ (j : Nat) (b : UInt8), s[j]? = some b → b.toNat < 128 := ⟨(numL_asc h).1, fun _ b hb => (numL_asc h).2 b (List.mem_of_getElem? hb)⟩
theorem dec_Int (s : Str) (hs : s.length ≤ 1073741824) : AbsCall PP GG F.dec_Int [.p (.str s)] [] ⟨.ret (.tup [.p (.int .i64 (refIntL s).1), .p (.bool (refIntL s).2)]), [], []⟩ := by
  have hg := dec_Good s hs
  rw [decParse_ok] at hg
  rw [← decIntL_eq]
  have hP := strconv_ParseInt s hs []
  unfold decIntL
  cases hn : numL s with
  | false =>
    rw [hn] at hg
    rw [if_pos (Or.inl rfl)]
    refine absCall_of (pol := polG) mixP F.dec_Int_is ?_
    conv => whnf
    repeat' ((first
     | ((with_reducible first | refine Br.dec ?_ ?_ | refine Br.ndec ?_ ?_) <;> intro hb <;> (try simp only [ZZ] at hb) <;> (first | omega | contradiction | skip))
     | (with_reducible first | refine Br.tt rfl ?_ | refine Br.ff rfl ?_ | refine Br.ff (isEmptyCons _ _) ?_)
     | ((with_reducible first | refine Side.mk ?_ ?_ | refine WrapW.mk ?_ ?_); focus (first | omega | (dsimp only [InR, Int.reduceToNat, IntKind.bits, Int.reducePow]; omega) | (simp [CC]; done) | (constructor <;> omega)))
     | with_reducible refine Br.not ?_
     | (with_reducible first | refine Br.tt (by assumption) ?_ | refine Br.ff (by assumption) ?_)
     | (refine Br.mk ?_ ?_ <;> intro hb <;> (try simp only [ZZ] at hb) <;> (first | omega | contradiction | skip))
     | refine Src.whole ⟨rfl, rfl⟩ ?_ | refine FrzV.whole ?_
     | refine CallW.use (hg) ?_) <;> conv => whnf)
    exact CLe.eq rfl
  | true =>
    rw [hn] at hg
    obtain ⟨hl, hasc⟩ := num_ascii s hn
    have hC := strings_ContainsAny s dotE (by omega) (by decide) hasc (by intro j b hb; have := List.mem_of_getElem? hb; revert this; unfold dotE; simp only [List.mem_cons, List.mem_nil_iff, or_false]; rintro (rfl | rfl | rfl) <;> decide) []
    cases hc : Lib.containsAny s dotE with
    | true =>
      rw [hc] at hC
      rw [if_pos (Or.inr (Or.inl rfl))]
      refine absCall_of (pol := polG) mixP F.dec_Int_is ?_
      conv => whnf
      repeat' ((first
       | ((with_reducible first | refine Br.dec ?_ ?_ | refine Br.ndec ?_ ?_) <;> intro hb <;> (try simp only [ZZ] at hb) <;> (first | omega | contradiction | skip))
       | (with_reducible first | refine Br.tt rfl ?_ | refine Br.ff rfl ?_ | refine Br.ff (isEmptyCons _ _) ?_)
       | ((with_reducible first | refine Side.mk ?_ ?_ | refine WrapW.mk ?_ ?_); focus (first | omega | (dsimp only [InR, Int.reduceToNat, IntKind.bits, Int.reducePow]; omega) | (simp [CC]; done) | (constructor <;> omega)))
       | with_reducible refine Br.not ?_
       | (with_reducible first | refine Br.tt (by assumption) ?_ | refine Br.ff (by assumption) ?_)
       | (refine Br.mk ?_ ?_ <;> intro hb <;> (try simp only [ZZ] at hb) <;> (first | omega | contradiction | skip))
       | refine Src.whole ⟨rfl, rfl⟩ ?_ | refine FrzV.whole ?_
       | refine CallW.use (hg) ?_
       | refine CallW.use (hC) ?_) <;> conv => whnf)
      exact CLe.eq rfl
    | false =>
      rw [hc] at hC
      by_cases h0 : s = [45, 48]
      · rw [if_pos (Or.inr (Or.inr h0))]
        refine absCall_of (pol := polG) mixP F.dec_Int_is ?_
        conv => whnf
        repeat' ((first
         | ((with_reducible first | refine Br.dec ?_ ?_ | refine Br.ndec ?_ ?_) <;> intro hb <;> (try simp only [ZZ] at hb) <;> (first | omega | contradiction | skip))
         | (with_reducible first | refine Br.tt rfl ?_ | refine Br.ff rfl ?_ | refine Br.ff (isEmptyCons _ _) ?_)
         | ((with_reducible first | refine Side.mk ?_ ?_ | refine WrapW.mk ?_ ?_); focus (first | omega | (dsimp only [InR, Int.reduceToNat, IntKind.bits, Int.reducePow]; omega) | (simp [CC]; done) | (constructor <;> omega)))
         | with_reducible refine Br.not ?_
         | (with_reducible first | refine Br.tt (by assumption) ?_ | refine Br.ff (by assumption) ?_)
         | (refine Br.mk ?_ ?_ <;> intro hb <;> (try simp only [ZZ] at hb) <;> (first | omega | contradiction | skip))
         | refine Src.whole ⟨rfl, rfl⟩ ?_ | refine FrzV.whole ?_
         | refine CallW.use (hg) ?_
         | refine CallW.use (hC) ?_) <;> conv => whnf)
        exact CLe.eq rfl
      · rw [if_neg (by simp [h0])]
        cases hp : Lib.parseIntB 64 s with
        | ok n =>
          rw [hp] at hP
          refine absCall_of (pol := polG) mixP F.dec_Int_is ?_
          conv => whnf
          repeat' ((first
           | ((with_reducible first | refine Br.dec ?_ ?_ | refine Br.ndec ?_ ?_) <;> intro hb <;> (try simp only [ZZ] at hb) <;> (first | omega | contradiction | skip))
           | (with_reducible first | refine Br.tt rfl ?_ | refine Br.ff rfl ?_ | refine Br.ff (isEmptyCons _ _) ?_)
           | ((with_reducible first | refine Side.mk ?_ ?_ | refine WrapW.mk ?_ ?_); focus (first | omega | (dsimp only [InR, Int.reduceToNat, IntKind.bits, Int.reducePow]; omega) | (simp [CC]; done) | (constructor <;> omega)))
           | with_reducible refine Br.not ?_
           | (with_reducible first | refine Br.tt (by assumption) ?_ | refine Br.ff (by assumption) ?_)
           | (refine Br.mk ?_ ?_ <;> intro hb <;> (try simp only [ZZ] at hb) <;> (first | omega | contradiction | skip))
           | refine Src.whole ⟨rfl, rfl⟩ ?_ | refine FrzV.whole ?_
           | refine CallW.use (hg) ?_
           | refine CallW.use (hC) ?_
           | refine CallW.use (hP) ?_) <;> conv => whnf)
          exact CLe.eq rfl
        | range =>
          rw [hp] at hP
          refine absCall_of (pol := polG) mixP F.dec_Int_is ?_
          conv => whnf
          repeat' ((first
           | ((with_reducible first | refine Br.dec ?_ ?_ | refine Br.ndec ?_ ?_) <;> intro hb <;> (try simp only [ZZ] at hb) <;> (first | omega | contradiction | skip))
           | (with_reducible first | refine Br.tt rfl ?_ | refine Br.ff rfl ?_ | refine Br.ff (isEmptyCons _ _) ?_)
           | ((with_reducible first | refine Side.mk ?_ ?_ | refine WrapW.mk ?_ ?_); focus (first | omega | (dsimp only [InR, Int.reduceToNat, IntKind.bits, Int.reducePow]; omega) | (simp [CC]; done) | (constructor <;> omega)))
           | with_reducible refine Br.not ?_
           | (with_reducible first | refine Br.tt (by assumption) ?_ | refine Br.ff (by assumption) ?_)
           | (refine Br.mk ?_ ?_ <;> intro hb <;> (try simp only [ZZ] at hb) <;> (first | omega | contradiction | skip))
           | refine Src.whole ⟨rfl, rfl⟩ ?_ | refine FrzV.whole ?_
           | refine CallW.use (hg) ?_
           | refine CallW.use (hC) ?_
           | refine CallW.use (hP) ?_) <;> conv => whnf)
          exact CLe.eq rfl
        | _ =>
          rw [hp] at hP
          refine absCall_of (pol := polG) mixP F.dec_Int_is ?_
          conv => whnf
          repeat' ((first
           | ((with_reducible first | refine Br.dec ?_ ?_ | refine Br.ndec ?_ ?_) <;> intro hb <;> (try simp only [ZZ] at hb) <;> (first | omega | contradiction | skip))
           | (with_reducible first | refine Br.tt rfl ?_ | refine Br.ff rfl ?_ | refine Br.ff (isEmptyCons _ _) ?_)
           | ((with_reducible first | refine Side.mk ?_ ?_ | refine WrapW.mk ?_ ?_); focus (first | omega | (dsimp only [InR, Int.reduceToNat, IntKind.bits, Int.reducePow]; omega) | (simp [CC]; done) | (constructor <;> omega)))
           | with_reducible refine Br.not ?_
           | (with_reducible first | refine Br.tt (by assumption) ?_ | refine Br.ff (by assumption) ?_)
           | (refine Br.mk ?_ ?_ <;> intro hb <;> (try simp only [ZZ] at hb) <;> (first | omega | contradiction | skip))
           | refine Src.whole ⟨rfl, rfl⟩ ?_ | refine FrzV.whole ?_
           | refine CallW.use (hg) ?_
           | refine CallW.use (hC) ?_
           | refine CallW.use (hP) ?_) <;> conv => whnf)
          exact CLe.eq rfl
end Go.Proofs.YtoinkmogdfjmmaaGreatDoor
end

section
namespace Go.Am
open Go
def clampL (s : Str) (at_ : Int) : Int := min (max at_ 0) s.length
theorem clampL_le (s : Str) (a : Int) : 0 ≤ clampL s a ∧ clampL s a ≤ s.length := by
  unfold clampL; omega
def stepI (s : Str) : Int := max (utfTake s).2 1
def countL : Nat → Str → Int
  | 0, _ => 0
  | q + 1, s => if s = [] then 0 else countL q (s.drop (stepI s).toNat) + 1
def utfCount (s : Str) : Int := countL s.length s
theorem stepI_le (s : Str) (h : s ≠ []) : 1 ≤ stepI s ∧ stepI s ≤ 4 ∧ stepI s ≤ s.length := by
  have := utfTake_n s
  have h1 : 0 < s.length := List.length_pos_iff.2 h
  unfold stepI
  omega
theorem countL_le : ∀ (q : Nat) (s : Str), s.length ≤ q → 0 ≤ countL q s ∧ countL q s ≤ s.length := by
  intro q
  induction q with
  | zero => intro s _; rw [countL]; omega
  | succ q ih =>
    intro s hs
    rw [countL]
    split
    · omega
    · rename_i h
      have h1 := stepI_le s h
      have := ih (s.drop (stepI s).toNat) (by rw [List.length_drop]; omega)
      rw [List.length_drop] at this
      omega
def aheadL (s : Str) (a : Int) : Str := s.take (clampL s a).toNat
def beginL (s : Str) (a : Int) : Int := Lib.lastIndexByte ⟨(aheadL s a).toArray⟩ 10 + 1
def placeL (s : Str) (a : Int) : Int × Int := ((Lib.countByte (aheadL s a) 10 : Int) + 1, utfCount ((aheadL s a).drop (beginL s a).toNat) + 1)
def whileL (s c : Str) : Nat := (s.takeWhile (c.contains ·)).length
theorem whileL_le (s c : Str) : whileL s c ≤ s.length := List.takeWhile_sublist _ |>.length_le
theorem while_eq (s c : Str) : (s.length : Int) - ((Lib.trimLeftS s c).length : Int) = whileL s c := by
  unfold whileL Lib.trimLeftS
  have := congrArg List.length (List.takeWhile_append_dropWhile (p := (c.contains ·)) (l := s))
  rw [List.length_append] at this
  omega
theorem trim_eq (s c : Str) : Lib.trimLeftS s c = s.drop (whileL s c) := by
  unfold whileL Lib.trimLeftS
  induction s with
  | nil => rfl
  | cons b s ih =>
    rw [List.dropWhile_cons, List.takeWhile_cons]
    split
    · rw [List.length_cons, List.drop_succ_cons, ih]
    · rfl
end Go.Am
namespace Go.Am
def e2 : Str := [101, 69]
def d10 : Str := [48, 49, 50, 51, 52, 53, 54, 55, 56, 57]
def behindE (s : Str) : Str := (s.drop (Lib.indexAny s e2 + 1).toNat).drop (whileL (s.drop (Lib.indexAny s e2 + 1).toNat) d10)
def greatL (s : Str) : Bool :=
  if Lib.indexAny s e2 < 0 then false else
  if behindE s = s.drop (Lib.indexAny s e2 + 1).toNat ∧ 0 < ((behindE s).length : Int) ∧ ((((behindE s).getD 0 0).toNat : Int) = 43 ∨ (((behindE s).getD 0 0).toNat : Int) = 45) then
    decide (((behindE s).drop 1).length ≠ 0 ∧ whileL ((behindE s).drop 1) d10 = ((behindE s).drop 1).length) && numL (s.take (Lib.indexAny s e2).toNat)
  else decide ((behindE s).length = 0 ∧ Lib.indexAny s e2 + 1 < s.length) && numL (s.take (Lib.indexAny s e2).toNat)
def jnumL (s : Str) : Int := if 400 < s.length then 2 else if numL s = true then 0 else if greatL s = true then 6 else 4
theorem indexAny_lt (s c : Str) : Lib.indexAny s c < s.length ∨ Lib.indexAny s c = -1 := by
  induction s with
  | nil => right; rfl
  | cons b s ih =>
    rw [Lib.indexAny]
    split
    · left; simp only [List.length_cons]; omega
    · split
      · right; rfl
      · rename_i h
        simp only [beq_iff_eq] at h
        left
        simp only [List.length_cons]
        omega
end Go.Am
end

section
namespace Go.Proofs.YtoinkmogdfjmmaaGreatDoor
open Go Go.Am Go.RowKit
set_option maxRecDepth 100000
theorem strings_LastIndexByte (s : Str) (c : Int) (hs : s.length ≤ 1073741824) (H : Heap) :
    AbsCall PP GG F.strings_LastIndexByte [.p (.str s), .p (.int .u8 c)] H ⟨.ret (.p (.int .i64 (Lib.lastIndexByte ⟨s.toArray⟩ c))), H, []⟩ := by
  refine absBelow fun B L w vs _ ha hg => ?_
  obtain ⟨v, u, rfl, hv, hu⟩ := vrel2 ha
  obtain rfl := vstr hv
  obtain rfl := vint hu
  refine CallTo.of_calls Tryz.func90 (by kernel_rfl) rfl ((Tryz.strings_LastIndexByte ⟨s.toArray⟩ c (by simp [ByteArray.size]; omega) w).mono ?_)
  rintro e w' ⟨rfl, rfl⟩
  exact ⟨Below.refl _ _, _, rfl, .p _ _ (.int _ _)⟩
theorem strings_Count (s : Str) (c : UInt8) (H : Heap) :
    AbsCall PP GG F.strings_Count [.p (.str s), .p (.str [c])] H ⟨.ret (.p (.int .i64 (Lib.countByte s c))), H, []⟩ := by
  refine absBelow fun B L w vs _ ha hg => ?_
  obtain ⟨v, u, rfl, hv, hu⟩ := vrel2 ha
  obtain rfl := vstr hv
  obtain rfl := vstr hu
  refine CallTo.of_calls Tryz.func91 (by kernel_rfl) rfl ((Tryz.strings_Count_one ⟨s.toArray⟩ c w).mono ?_)
  rintro e w' ⟨rfl, rfl⟩
  exact ⟨Below.refl _ _, _, rfl, by simpa using VRel.p _ _ (.int _ _)⟩
theorem strings_IndexAny (s c : List UInt8) (hs : s.length < 4294967281) (hc : c.length < 4294967281) (h1 : ∀ (j : Nat) (b : UInt8), s[j]? = some b → b.toNat < 128) (h2 : ∀ (j : Nat) (b : UInt8), c[j]? = some b → b.toNat < 128) (H : Heap) :
    AbsCall PP GG F.strings_IndexAny [.p (.str s), .p (.str c)] H ⟨.ret (.p (.int .i64 (Lib.indexAny s c))), H, []⟩ := by
  refine absBelow fun B L w vs _ ha hg => ?_
  obtain ⟨v, u, rfl, hv, hu⟩ := vrel2 ha
  obtain rfl := vstr hv
  obtain rfl := vstr hu
  refine CallTo.of_calls Tryz.func118 (by kernel_rfl) rfl ((Tryz.strings_IndexAny_laid ⟨s.toArray⟩ ⟨c.toArray⟩ w (by simpa [ByteArray.size] using hs) (by simpa [ByteArray.size] using hc) (by simpa using h1) (by simpa using h2)).mono ?_)
  rintro e w' ⟨rfl, hb⟩
  exact ⟨hb, _, rfl, by simpa using VRel.p _ _ (.int _ _)⟩
theorem strings_TrimSet (s c : List UInt8) (hc : c.length < 4294967281) (h2 : ∀ (j : Nat) (b : UInt8), c[j]? = some b → b.toNat < 128) (H : Heap) :
    AbsCall PP GG F.strings_TrimLeft [.p (.str s), .p (.str c)] H ⟨.ret (.p (.str (Lib.trimLeftS s c))), H, []⟩ := by
  refine absBelow fun B L w vs _ ha hg => ?_
  obtain ⟨v, u, rfl, hv, hu⟩ := vrel2 ha
  obtain rfl := vstr hv
  obtain rfl := vstr hu
  refine CallTo.of_calls Tryz.func59 (by kernel_rfl) rfl ((Tryz.strings_TrimLeft_laid ⟨s.toArray⟩ ⟨c.toArray⟩ w (by simpa [ByteArray.size] using hc) (by simpa using h2)).mono ?_)
  rintro e w' ⟨rfl, hb⟩
  exact ⟨hb, _, rfl, by simpa using VRel.p _ _ (.str _)⟩
theorem place_clamp (s : Str) (a : Int) (ha : -1073741824 ≤ a ∧ a ≤ 1073741824) (hs : s.length ≤ 1073741824) : AbsCall PP GG F.place_clamp [.p (.str s), .p (.int .i64 a)] [] ⟨.ret (.p (.int .i64 (clampL s a))), [], []⟩ := by
  refine absCall_of (pol := polG) mixP F.place_clamp_is ?_
  conv => whnf
  repeat' ((first
   | ((with_reducible first | refine Br.dec ?_ ?_ | refine Br.ndec ?_ ?_) <;> intro hb <;> (try simp only [ZZ] at hb) <;> (first | omega | contradiction | skip))
   | (with_reducible first | refine Br.tt rfl ?_ | refine Br.ff rfl ?_ | refine Br.ff (isEmptyCons _ _) ?_)
   | ((with_reducible first | refine Side.mk ?_ ?_ | refine WrapW.mk ?_ ?_); focus (first | omega | (dsimp only [InR, Int.reduceToNat, IntKind.bits, Int.reducePow]; omega) | (simp [CC]; done) | (constructor <;> omega)))
   | with_reducible refine Br.not ?_
   | (with_reducible first | refine Br.tt (by assumption) ?_ | refine Br.ff (by assumption) ?_)
   | (refine Br.mk ?_ ?_ <;> intro hb <;> (try simp only [ZZ] at hb) <;> (first | omega | contradiction | skip))
   | refine Src.whole ⟨rfl, rfl⟩ ?_ | refine FrzV.whole ?_) <;> conv => whnf)
  all_goals exact CLe.retP (by unfold clampL; congr 1; omega)
theorem utf_step (s : Str) (hs : s.length ≤ 1073741824) : AbsCall PP GG F.utf_step [.p (.str s)] [] ⟨.ret (.p (.int .i64 (stepI s))), [], []⟩ := by
  have hn := utfTake_n s
  refine absCall_of (pol := polG) mixP F.utf_step_is ?_
  conv => whnf
  repeat' ((first
   | ((with_reducible first | refine Br.dec ?_ ?_ | refine Br.ndec ?_ ?_) <;> intro hb <;> (try simp only [ZZ] at hb) <;> (first | omega | contradiction | skip))
   | (with_reducible first | refine Br.tt rfl ?_ | refine Br.ff rfl ?_ | refine Br.ff (isEmptyCons _ _) ?_)
   | ((with_reducible first | refine Side.mk ?_ ?_ | refine WrapW.mk ?_ ?_); focus (first | omega | (dsimp only [InR, Int.reduceToNat, IntKind.bits, Int.reducePow]; omega) | (simp [CC]; done) | (constructor <;> omega)))
   | with_reducible refine Br.not ?_
   | (with_reducible first | refine Br.tt (by assumption) ?_ | refine Br.ff (by assumption) ?_)
   | (refine Br.mk ?_ ?_ <;> intro hb <;> (try simp only [ZZ] at hb) <;> (first | omega | contradiction | skip))
   | refine Src.whole ⟨rfl, rfl⟩ ?_ | refine FrzV.whole ?_
   | refine CallW.use (utf_Take s hs) ?_) <;> conv => whnf)
  all_goals exact CLe.retP (by unfold stepI; congr 1; omega)
theorem count_loop (s : Str) (hs : s.length ≤ 1073741824) (R : Int) (K : Post)
    (h0 : K (.exit 0) [(3, .p (.int .i64 R))] [] []) :
    ∀ (q i : Nat) (n : Int), s.length ≤ i + q → i ≤ s.length → 0 ≤ n → n ≤ i → countL q (s.drop i) + n = R →
      LoopW PP GG 18 0 (loopN F.utf_Count_c 0) [(0, .p (.str s)), (3, .p (.int .i64 n)), (4, .p (.int .i64 i))] [] [] (PostCl 18 K) := by
  intro q
  induction q with
  | zero =>
    intro i n hi hil hn0 hn1 hR
    rw [countL, Int.zero_add] at hR
    subst hR
    refine LoopW.round (pol := polG) mixP ?_
    conv => whnf
    repeat' ((first
     | ((with_reducible first | refine Br.dec ?_ ?_ | refine Br.ndec ?_ ?_) <;> intro hb <;> (try simp only [ZZ] at hb) <;> (first | omega | contradiction | skip))
     | (with_reducible first | refine Br.tt rfl ?_ | refine Br.ff rfl ?_ | refine Br.ff (isEmptyCons _ _) ?_)
     | ((with_reducible first | refine Side.mk ?_ ?_ | refine WrapW.mk ?_ ?_); focus (first | omega | (dsimp only [InR, Int.reduceToNat, IntKind.bits, Int.reducePow]; omega) | (simp [CC]; done) | (constructor <;> omega)))
     | with_reducible refine Br.not ?_
     | (with_reducible first | refine Br.tt (by assumption) ?_ | refine Br.ff (by assumption) ?_)
     | (refine Br.mk ?_ ?_ <;> intro hb <;> (try simp only [ZZ] at hb) <;> (first | omega | contradiction | skip))
     | refine Src.whole ⟨rfl, rfl⟩ ?_ | refine FrzV.whole ?_) <;> conv => whnf)
    · refine PostCl.of (h0) ?_ ?_
      · repeat first | exact trivial | refine ⟨VLe.refl _, ?_⟩
      · repeat first | exact trivial | refine ⟨by decide, ?_⟩
  | succ q ih =>
    intro i n hi hil hn0 hn1 hR
    have hdl : (s.drop i).length = s.length - i := List.length_drop
    rw [countL] at hR
    by_cases he : s.drop i = []
    · rw [if_pos he, Int.zero_add] at hR
      subst hR
      have : (s.drop i).length = 0 := by rw [he]; rfl
      refine LoopW.round (pol := polG) mixP ?_
      conv => whnf
      repeat' ((first
       | ((with_reducible first | refine Br.dec ?_ ?_ | refine Br.ndec ?_ ?_) <;> intro hb <;> (try simp only [ZZ] at hb) <;> (first | omega | contradiction | skip))
       | (with_reducible first | refine Br.tt rfl ?_ | refine Br.ff rfl ?_ | refine Br.ff (isEmptyCons _ _) ?_)
       | ((with_reducible first | refine Side.mk ?_ ?_ | refine WrapW.mk ?_ ?_); focus (first | omega | (dsimp only [InR, Int.reduceToNat, IntKind.bits, Int.reducePow]; omega) | (simp [CC]; done) | (constructor <;> omega)))
       | with_reducible refine Br.not ?_
       | (with_reducible first | refine Br.tt (by assumption) ?_ | refine Br.ff (by assumption) ?_)
       | (refine Br.mk ?_ ?_ <;> intro hb <;> (try simp only [ZZ] at hb) <;> (first | omega | contradiction | skip))
       | refine Src.whole ⟨rfl, rfl⟩ ?_ | refine FrzV.whole ?_) <;> conv => whnf)
      · refine PostCl.of (h0) ?_ ?_
        · repeat first | exact trivial | refine ⟨VLe.refl _, ?_⟩
        · repeat first | exact trivial | refine ⟨by decide, ?_⟩
    · rw [if_neg he] at hR
      have hst := stepI_le _ he
      have hsp := utf_step (s.drop i) (by omega)
      refine LoopW.round (pol := polG) mixP ?_
      conv => whnf
      repeat' ((first
       | ((with_reducible first | refine Br.dec ?_ ?_ | refine Br.ndec ?_ ?_) <;> intro hb <;> (try simp only [ZZ] at hb) <;> (first | omega | contradiction | skip))
       | (with_reducible first | refine Br.tt rfl ?_ | refine Br.ff rfl ?_ | refine Br.ff (isEmptyCons _ _) ?_)
       | ((with_reducible first | refine Side.mk ?_ ?_ | refine WrapW.mk ?_ ?_); focus (first | omega | (dsimp only [InR, Int.reduceToNat, IntKind.bits, Int.reducePow]; omega) | (simp [CC]; done) | (constructor <;> omega)))
       | with_reducible refine Br.not ?_
       | (with_reducible first | refine Br.tt (by assumption) ?_ | refine Br.ff (by assumption) ?_)
       | (refine Br.mk ?_ ?_ <;> intro hb <;> (try simp only [ZZ] at hb) <;> (first | omega | contradiction | skip))
       | refine Src.whole ⟨rfl, rfl⟩ ?_ | refine FrzV.whole ?_
       | refine CallW.use (hsp) ?_) <;> conv => whnf)
      obtain ⟨k, hk⟩ := Int.eq_ofNat_of_zero_le (show 0 ≤ stepI (s.drop i) by omega)
      rw [hk] at hst hR ⊢
      rw [Int.toNat_natCast, List.drop_drop] at hR
      refine LoopW.sub (ih (i + k) (n + 1) (by omega) (by omega) (by omega) (by omega) (by rw [← hR]; omega)) (by repeat first | exact trivial | refine ⟨VLe.refl _, ?_⟩) (by repeat first | exact trivial | refine ⟨by decide, ?_⟩)
theorem utf_Count (s : Str) (hs : s.length ≤ 1073741824) : AbsCall PP GG F.utf_Count [.p (.str s)] [] ⟨.ret (.p (.int .i64 (utfCount s))), [], []⟩ := by
  refine absCall_of (pol := polG) mixP F.utf_Count_is ?_
  conv => whnf
  refine LoopW.cl ?_
  refine LoopW.sub (count_loop s hs (utfCount s) _ ?_ s.length 0 0 (by omega) (by omega) (by omega) (by omega) (by simp [utfCount])) (by repeat first | exact trivial | refine ⟨VLe.refl _, ?_⟩) (by repeat first | exact trivial | refine ⟨by decide, ?_⟩)
  conv => whnf
  exact CLe.eq rfl
theorem place_Of (s : Str) (a : Int) (ha : -1073741824 ≤ a ∧ a ≤ 1073741824) (hs : s.length ≤ 1073741824) : AbsCall PP GG F.place_Of [.p (.str s), .p (.int .i64 a)] [] ⟨.ret (.tup [.p (.int .i64 (placeL s a).1), .p (.int .i64 (placeL s a).2)]), [], []⟩ := by
  have hc := clampL_le s a
  have hl : (aheadL s a).length = (clampL s a).toNat := by unfold aheadL; rw [List.length_take]; omega
  have hb : -1 ≤ Lib.lastIndexByte ⟨(aheadL s a).toArray⟩ 10 ∧ Lib.lastIndexByte ⟨(aheadL s a).toArray⟩ 10 < (aheadL s a).length ∨ Lib.lastIndexByte ⟨(aheadL s a).toArray⟩ 10 = -1 := by
    rcases Lib.lastIndexByte_spec ⟨(aheadL s a).toArray⟩ 10 with h | ⟨i, h1, h2, _⟩
    · right; exact h.1
    · left
      have : (ByteArray.mk (aheadL s a).toArray).size = (aheadL s a).length := by simp [ByteArray.size]
      omega
  have hcn : (Lib.countByte (aheadL s a) 10 : Int) ≤ (aheadL s a).length := by
    have := List.count_le_length (a := (10 : UInt8)) (l := aheadL s a)
    unfold Lib.countByte
    omega
  have hcl := countL_le ((aheadL s a).drop (beginL s a).toNat).length _ (Nat.le_refl _)
  change 0 ≤ utfCount _ ∧ utfCount _ ≤ _ at hcl
  rw [List.length_drop] at hcl
  unfold placeL
  unfold beginL at hcl ⊢
  unfold aheadL at *
  refine absCall_of (pol := polG) mixP F.place_Of_is ?_
  conv => whnf
  repeat' ((first
   | ((with_reducible first | refine Br.dec ?_ ?_ | refine Br.ndec ?_ ?_) <;> intro hb <;> (try simp only [ZZ] at hb) <;> (first | omega | contradiction | skip))
   | (with_reducible first | refine Br.tt rfl ?_ | refine Br.ff rfl ?_ | refine Br.ff (isEmptyCons _ _) ?_)
   | ((with_reducible first | refine Side.mk ?_ ?_ | refine WrapW.mk ?_ ?_); focus (first | omega | (dsimp only [InR, Int.reduceToNat, IntKind.bits, Int.reducePow]; omega) | (simp [CC]; done) | (constructor <;> omega)))
   | with_reducible refine Br.not ?_
   | (with_reducible first | refine Br.tt (by assumption) ?_ | refine Br.ff (by assumption) ?_)
   | (refine Br.mk ?_ ?_ <;> intro hb <;> (try simp only [ZZ] at hb) <;> (first | omega | contradiction | skip))
   | refine Src.whole ⟨rfl, rfl⟩ ?_ | refine FrzV.whole ?_
   | refine CallW.use (place_clamp s a ha hs) ?_
   | refine CallW.use (strings_LastIndexByte _ 10 (by simp only [List.length_take]; omega) []) ?_
   | refine CallW.use (strings_Count _ 10 []) ?_
   | refine CallW.use (utf_Count _ (by simp only [List.length_drop, List.length_take]; omega)) ?_) <;> conv => whnf)
  exact CLe.eq rfl
theorem place_Fault (s : Str) (a e : Int) (ha : -1073741824 ≤ a ∧ a ≤ 1073741824) (hs : s.length ≤ 1073741824) : AbsCall PP GG F.place_Fault [.p (.str s), .p (.int .i64 a), .p (.int .i64 e)] [] ⟨.ret (.p (.agg [.int .i64 e, .int .i64 (clampL s a), .int .i64 (placeL s a).1, .int .i64 (placeL s a).2])), [], []⟩ := by
  refine absCall_of (pol := polG) mixP F.place_Fault_is ?_
  conv => whnf
  repeat' ((first
   | ((with_reducible first | refine Br.dec ?_ ?_ | refine Br.ndec ?_ ?_) <;> intro hb <;> (try simp only [ZZ] at hb) <;> (first | omega | contradiction | skip))
   | (with_reducible first | refine Br.tt rfl ?_ | refine Br.ff rfl ?_ | refine Br.ff (isEmptyCons _ _) ?_)
   | ((with_reducible first | refine Side.mk ?_ ?_ | refine WrapW.mk ?_ ?_); focus (first | omega | (dsimp only [InR, Int.reduceToNat, IntKind.bits, Int.reducePow]; omega) | (simp [CC]; done) | (constructor <;> omega)))
   | with_reducible refine Br.not ?_
   | (with_reducible first | refine Br.tt (by assumption) ?_ | refine Br.ff (by assumption) ?_)
   | (refine Br.mk ?_ ?_ <;> intro hb <;> (try simp only [ZZ] at hb) <;> (first | omega | contradiction | skip))
   | refine Src.whole ⟨rfl, rfl⟩ ?_ | refine FrzV.whole ?_
   | refine CallW.use (place_Of s a ha hs) ?_
   | refine CallW.use (place_clamp s a ha hs) ?_) <;> conv => whnf)
  exact CLe.eq rfl
theorem jlex_while (s c : Str) (hs : s.length ≤ 1073741824) (hc : c.length ≤ 1000) (h2 : c.all (fun b => decide (b.toNat < 128)) = true) : AbsCall PP GG F.jlex_while [.p (.str s), .p (.str c)] [] ⟨.ret (.p (.int .i64 (whileL s c))), [], []⟩ := by
  have hw := whileL_le s c
  have he := while_eq s c
  have hT := strings_TrimSet s c (by omega) (fun j b h => by have := List.all_eq_true.1 h2 b (List.mem_of_getElem? h); simpa using this) []
  refine absCall_of (pol := polG) mixP F.jlex_while_is ?_
  conv => whnf
  repeat' ((first
   | ((with_reducible first | refine Br.dec ?_ ?_ | refine Br.ndec ?_ ?_) <;> intro hb <;> (try simp only [ZZ] at hb) <;> (first | omega | contradiction | skip))
   | (with_reducible first | refine Br.tt rfl ?_ | refine Br.ff rfl ?_ | refine Br.ff (isEmptyCons _ _) ?_)
   | ((with_reducible first | refine Side.mk ?_ ?_ | refine WrapW.mk ?_ ?_); focus (first | omega | (dsimp only [InR, Int.reduceToNat, IntKind.bits, Int.reducePow]; omega) | (simp [CC]; done) | (constructor <;> omega)))
   | with_reducible refine Br.not ?_
   | (with_reducible first | refine Br.tt (by assumption) ?_ | refine Br.ff (by assumption) ?_)
   | (refine Br.mk ?_ ?_ <;> intro hb <;> (try simp only [ZZ] at hb) <;> (first | omega | contradiction | skip))
   | refine Src.whole ⟨rfl, rfl⟩ ?_ | refine FrzV.whole ?_
   | refine CallW.use (hT) ?_) <;> conv => whnf)
  exact CLe.retP (by congr 1)
theorem jlex_great (s : Str) (hs : s.length ≤ 1073741824) (hasc : ∀ (j : Nat) (b : UInt8), s[j]? = some b → b.toNat < 128) : AbsCall PP GG F.jlex_great [.p (.str s)] [] ⟨.ret (.p (.bool (greatL s))), [], []⟩ := by
  have hI := strings_IndexAny s e2 (by omega) (by decide) hasc (by intro j b hb; have := List.mem_of_getElem? hb; revert this; unfold e2; simp only [List.mem_cons, List.mem_nil_iff, or_false]; rintro (rfl | rfl) <;> decide) []
  have hil := indexAny_lt s e2
  have hge := Lib.indexAny_ge e2 s
  unfold greatL
  generalize hi : Lib.indexAny s e2 = i at *
  have hP : behindE s = (s.drop (i + 1).toNat).drop (whileL (s.drop (i + 1).toNat) d10) := by unfold behindE; rw [hi]
  have hTr := strings_TrimSet (s.drop (i + 1).toNat) d10 (by decide) (by intro j b hb; have := List.mem_of_getElem? hb; revert this; unfold d10; simp only [List.mem_cons, List.mem_nil_iff, or_false]; rintro (rfl | rfl | rfl | rfl | rfl | rfl | rfl | rfl | rfl | rfl) <;> decide) []
  rw [trim_eq, ← hP] at hTr
  have hpl : (behindE s).length ≤ s.length := by rw [hP]; simp only [List.length_drop]; omega
  have hg := fun h => dec_Good (s.take i.toNat) h
  rw [decParse_ok] at hg
  have hW := fun h => jlex_while ((behindE s).drop 1) d10 h (by decide) (by decide)
  generalize behindE s = p at *
  refine absCall_of (pol := polG) mixP F.jlex_great_is ?_
  conv => whnf
  repeat' ((first
   | ((with_reducible first | refine Br.dec ?_ ?_ | refine Br.ndec ?_ ?_) <;> intro hb <;> (try simp only [ZZ] at hb) <;> (first | omega | contradiction | skip))
   | (with_reducible first | refine Br.tt rfl ?_ | refine Br.ff rfl ?_ | refine Br.ff (isEmptyCons _ _) ?_)
   | ((with_reducible first | refine Side.mk ?_ ?_ | refine WrapW.mk ?_ ?_); focus (first | omega | (dsimp only [InR, Int.reduceToNat, IntKind.bits, Int.reducePow]; omega) | (simp [CC]; done) | (constructor <;> omega)))
   | with_reducible refine Br.not ?_
   | (with_reducible first | refine Br.tt (by assumption) ?_ | refine Br.ff (by assumption) ?_)
   | (refine Br.mk ?_ ?_ <;> intro hb <;> (try simp only [ZZ] at hb) <;> (first | omega | contradiction | skip))
   | refine Src.whole ⟨rfl, rfl⟩ ?_ | refine FrzV.whole ?_
   | refine CallW.use (hI) ?_
   | refine CallW.use (hTr) ?_
   | refine CallW.use (hg (by simp only [List.length_take]; omega)) ?_
   | refine CallW.use (hW (by simp only [List.length_drop]; omega)) ?_) <;> conv => whnf)
  all_goals first | (rw [if_pos (by assumption)]; exact CLe.eq rfl) | rw [if_neg (by omega)]
  all_goals try simp only [Int.reduceToNat] at *
  all_goals first | rw [if_pos ⟨by assumption, by omega, by omega⟩] | rw [if_neg (by rintro ⟨_, _, _⟩; first | contradiction | omega)]
  all_goals first | (rw [decide_eq_true (by omega), Bool.true_and]; exact CLe.eq rfl) | (rw [decide_eq_false (by omega), Bool.false_and]; exact CLe.eq rfl) | skip
theorem jlex_number (s : Str) (hs : s.length ≤ 1073741824) (hasc : ∀ (j : Nat) (b : UInt8), s[j]? = some b → b.toNat < 128) : AbsCall PP GG F.jlex_number [.p (.str s)] [] ⟨.ret (.p (.int .i64 (jnumL s))), [], []⟩ := by
  have hg := dec_Good s hs
  rw [decParse_ok] at hg
  have hG := jlex_great s hs hasc
  unfold jnumL
  refine absCall_of (pol := polG) mixP F.jlex_number_is ?_
  conv => whnf
  repeat' ((first
   | ((with_reducible first | refine Br.dec ?_ ?_ | refine Br.ndec ?_ ?_) <;> intro hb <;> (try simp only [ZZ] at hb) <;> (first | omega | contradiction | skip))
   | (with_reducible first | refine Br.tt rfl ?_ | refine Br.ff rfl ?_ | refine Br.ff (isEmptyCons _ _) ?_)
   | ((with_reducible first | refine Side.mk ?_ ?_ | refine WrapW.mk ?_ ?_); focus (first | omega | (dsimp only [InR, Int.reduceToNat, IntKind.bits, Int.reducePow]; omega) | (simp [CC]; done) | (constructor <;> omega)))
   | with_reducible refine Br.not ?_
   | (with_reducible first | refine Br.tt (by assumption) ?_ | refine Br.ff (by assumption) ?_)
   | (refine Br.mk ?_ ?_ <;> intro hb <;> (try simp only [ZZ] at hb) <;> (first | omega | contradiction | skip))
   | refine Src.whole ⟨rfl, rfl⟩ ?_ | refine FrzV.whole ?_
   | refine CallW.use (hg) ?_
   | refine CallW.use (hG) ?_) <;> conv => whnf)
  all_goals first | (rw [if_pos (by omega)]; exact CLe.eq rfl) | rw [if_neg (by omega)]
  all_goals first | (rw [if_pos (by assumption)]; exact CLe.eq rfl) | rw [if_neg (by simp [*])]
  all_goals first | (rw [if_pos (by assumption)]; exact CLe.eq rfl) | (rw [if_neg (by simp [*])]; exact CLe.eq rfl)
theorem sl_IndexByte (s : Str) (c : Int) : AbsCall PP GG F.internal_stringslite_IndexByte [.p (.str s), .p (.int .u8 c)] [] ⟨.ret (.p (.int .i64 (firstIdx ⟨s.toArray⟩ c.toNat.toUInt8))), [], []⟩ := by
  refine absCall_of (pol := polG) mixP F.internal_stringslite_IndexByte_is ?_
  conv => whnf
  repeat' ((first
   | ((with_reducible first | refine Br.dec ?_ ?_ | refine Br.ndec ?_ ?_) <;> intro hb <;> (try simp only [ZZ] at hb) <;> (first | omega | skip))
   | (with_reducible first | refine Br.tt rfl ?_ | refine Br.ff rfl ?_ | refine Br.ff (isEmptyCons _ _) ?_)
   | ((with_reducible first | refine Side.mk ?_ ?_ | refine WrapW.mk ?_ ?_); focus (first | omega | (dsimp only [InR, Int.reduceToNat, IntKind.bits, Int.reducePow]; omega) | (simp [CC]; done) | (constructor <;> omega)))
   | (refine Br.mk ?_ ?_ <;> intro hb <;> (try simp only [ZZ] at hb) <;> (first | omega | skip))
   | refine Src.whole ⟨rfl, rfl⟩ ?_ | refine FrzV.whole ?_
   | refine CallW.use (bytealg_IndexByteString s c []) ?_) <;> conv => whnf)
  exact CLe.eq rfl
theorem strings_IndexByte (s : Str) (c : Int) : AbsCall PP GG F.strings_IndexByte [.p (.str s), .p (.int .u8 c)] [] ⟨.ret (.p (.int .i64 (firstIdx ⟨s.toArray⟩ c.toNat.toUInt8))), [], []⟩ := by
  refine absCall_of (pol := polG) mixP F.strings_IndexByte_is ?_
  conv => whnf
  repeat' ((first
   | ((with_reducible first | refine Br.dec ?_ ?_ | refine Br.ndec ?_ ?_) <;> intro hb <;> (try simp only [ZZ] at hb) <;> (first | omega | skip))
   | (with_reducible first | refine Br.tt rfl ?_ | refine Br.ff rfl ?_ | refine Br.ff (isEmptyCons _ _) ?_)
   | ((with_reducible first | refine Side.mk ?_ ?_ | refine WrapW.mk ?_ ?_); focus (first | omega | (dsimp only [InR, Int.reduceToNat, IntKind.bits, Int.reducePow]; omega) | (simp [CC]; done) | (constructor <;> omega)))
   | (refine Br.mk ?_ ?_ <;> intro hb <;> (try simp only [ZZ] at hb) <;> (first | omega | skip))
   | refine Src.whole ⟨rfl, rfl⟩ ?_ | refine FrzV.whole ?_
   | refine CallW.use (sl_IndexByte s c) ?_) <;> conv => whnf)
  exact CLe.eq rfl
end Go.Proofs.YtoinkmogdfjmmaaGreatDoor
end
