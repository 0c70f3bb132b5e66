/-
  Layer 22: contracts: a number's digits: Itoa, FormatUint.
-/
import Derived.Test.YtkdfgkbojbdelaaGreatDoorG01
import Derived.Shelf.Strconv.Itoa3
import Derived.Lib.AppendIntMem
import Derived.BigCall
import Derived.BigGuard
import Derived.Deep.QuietTactic
import Derived.BigQuiet
import Derived.Test.YtkdfgkbojbdelaaGreatDoorProg
import Derived.Shelf.Strings.SplitCore
import Derived.Shelf.Strings.Count
import Derived.Lib.SplitLaws
import Derived.Handy
import Derived.Lib.SlBytesConst
import Derived.Laws.EntriesVeiled

set_option linter.unusedSimpArgs false
set_option linter.unusedVariables false
set_option maxRecDepth 100000
set_option maxHeartbeats 6400000
namespace Go.Proofs.YtkdfgkbojbdelaaGreatDoor
open Go Go.Shelf Go.RowKit Go.Sort Go.Lib
def lays171_ren : Go.Shelf.Ren :=
{
 f := fun x =>
   match x with
   | 171 => 35
   | 243 => 57
   | 246 => 88
   | 283 => 109
   | 284 => 110
   | 285 => 111
   | 286 => 112
   | 129 => 130
   | 317 => 129
   | 318 => 131
   | 319 => 132
   | 320 => 133
   | 337 => 148
   | 338 => 149
   | n => n,
 t := fun x =>
   match x with
   | 3 => 3
   | 9 => 9
   | 2 => 2
   | 4 => 4
   | 171 => 140
   | 0 => 0
   | 53 => 40
   | 37 => 28
   | 5 => 5
   | 173 => 143
   | 212 => 162
   | 51 => 41
   | 20 => 20
   | 213 => 163
   | 46 => 123
   | 232 => 199
   | 233 => 200
   | n => n,
 g := fun x =>
   match x with
   | 17 => 3
   | 18 => 6
   | 19 => 7
   | n => n }
theorem lays171 : LaysM.n171 Tryz.prog lays171_ren :=
{ mixed := Eq.refl true, f129 := Eq.trans Tryz.func130 (congrArg some (Eq.refl (Body.n129 lays171_ren))),
  f171 := Eq.trans Tryz.func35 (congrArg some (Eq.refl (Body.n171 lays171_ren))),
  f243 := Eq.trans Tryz.func57 (congrArg some (Eq.refl (Body.n243 lays171_ren))),
  f246 := Eq.trans Tryz.func88 (congrArg some (Eq.refl (Body.n246 lays171_ren))),
  f283 := Eq.trans Tryz.func109 (congrArg some (Eq.refl (Body.n283 lays171_ren))),
  f284 := Eq.trans Tryz.func110 (congrArg some (Eq.refl (Body.n284 lays171_ren))),
  f285 := Eq.trans Tryz.func111 (congrArg some (Eq.refl (Body.n285 lays171_ren))),
  f286 := Eq.trans Tryz.func112 (congrArg some (Eq.refl (Body.n286 lays171_ren))),
  f317 := Eq.trans Tryz.func129 (congrArg some (Eq.refl (Body.n317 lays171_ren))),
  f318 := Eq.trans Tryz.func131 (congrArg some (Eq.refl (Body.n318 lays171_ren))),
  f319 := Eq.trans Tryz.func132 (congrArg some (Eq.refl (Body.n319 lays171_ren))),
  f320 := Eq.trans Tryz.func133 (congrArg some (Eq.refl (Body.n320 lays171_ren))),
  f337 := Eq.trans Tryz.func148 (congrArg some (Eq.refl (Body.n337 lays171_ren))),
  f338 := Eq.trans Tryz.func149 (congrArg some (Eq.refl (Body.n338 lays171_ren))), t0 := Tryz.underlying0,
  a0 := Tryz.isAgg0, z0 := Tryz.sizeOf0, v0 := Tryz.zeroValue0, t2 := Tryz.underlying2, a2 := Tryz.isAgg2,
  z2 := Tryz.sizeOf2, v2 := Tryz.zeroValue2, t3 := Tryz.underlying3, a3 := Tryz.isAgg3, z3 := Tryz.sizeOf3,
  v3 := Tryz.zeroValue3, t4 := Tryz.underlying4, a4 := Tryz.isAgg4, z4 := Tryz.sizeOf4, v4 := Tryz.zeroValue4,
  t5 := Tryz.underlying5, a5 := Tryz.isAgg5, z5 := Tryz.sizeOf5, v5 := Tryz.zeroValue5, t9 := Tryz.underlying9,
  a9 := Tryz.isAgg9, z9 := Tryz.sizeOf9, v9 := Tryz.zeroValue9, t20 := Tryz.underlying20, a20 := Tryz.isAgg20,
  z20 := Tryz.sizeOf20, v20 := Tryz.zeroValue20, t37 := Tryz.underlying28, a37 := Tryz.isAgg28, z37 := Tryz.sizeOf28,
  v37 := Tryz.zeroValue28, t46 := Tryz.underlying123, a46 := Tryz.isAgg123, z46 := Tryz.sizeOf123,
  v46 := Tryz.zeroValue123, t51 := Tryz.underlying41, a51 := Tryz.isAgg41, z51 := Tryz.sizeOf41,
  v51 := Tryz.zeroValue41, t53 := Tryz.underlying40, a53 := Tryz.isAgg40, z53 := Tryz.sizeOf40, v53 := Tryz.zeroValue40,
  t171 := Tryz.underlying140, a171 := Tryz.isAgg140, z171 := Tryz.sizeOf140, v171 := Tryz.zeroValue140,
  t173 := Tryz.underlying143, a173 := Tryz.isAgg143, z173 := Tryz.sizeOf143, v173 := Tryz.zeroValue143,
  t212 := Tryz.underlying162, a212 := Tryz.isAgg162, z212 := Tryz.sizeOf162, v212 := Tryz.zeroValue162,
  t213 := Tryz.underlying163, a213 := Tryz.isAgg163, z213 := Tryz.sizeOf163, t232 := Tryz.underlying199,
  a232 := Tryz.isAgg199, z232 := Tryz.sizeOf199, v232 := Tryz.zeroValue199, t233 := Tryz.underlying200,
  a233 := Tryz.isAgg200, z233 := Tryz.sizeOf200, v233 := Tryz.zeroValue200, g17 := by kernel_rfl,
  g18 := by kernel_rfl, g19 := by kernel_rfl,
  i0 := Eq.refl (some (some (Value.tuple #[]), 1, 0)), i2 := Eq.refl (some (some (Value.int IntKind.i64 0), 1, 8)),
  i3 := Eq.refl (some (some (Value.int IntKind.i64 0), 1, 8)), i4 := Eq.refl (some (some (Value.bool false), 1, 1)),
  i5 := Eq.refl (some (some (Value.int IntKind.u8 0), 1, 1)),
  i9 := Eq.refl (some (some (Value.string { data := #[] }), 1, 16)), i20 := Eq.refl (some (some Value.nilIface, 1, 16)),
  i37 := Eq.refl (some (some (Value.slice none 0 0), 1, 24)),
  i46 := Eq.refl (some (some (Value.int IntKind.u64 0), 1, 8)),
  i51 := Eq.refl (some (some (Value.int IntKind.u32 0), 1, 4)),
  i53 := Eq.refl (some (some (Value.int IntKind.u64 0), 1, 8)),
  i171 :=
   Eq.refl
    (some
      (some
        (Value.agg
          #[Value.int IntKind.u8 0, Value.int IntKind.u8 0, Value.int IntKind.u8 0, Value.int IntKind.u8 0,
            Value.int IntKind.u8 0, Value.int IntKind.u8 0, Value.int IntKind.u8 0, Value.int IntKind.u8 0,
            Value.int IntKind.u8 0, Value.int IntKind.u8 0, Value.int IntKind.u8 0, Value.int IntKind.u8 0,
            Value.int IntKind.u8 0, Value.int IntKind.u8 0, Value.int IntKind.u8 0, Value.int IntKind.u8 0,
            Value.int IntKind.u8 0, Value.int IntKind.u8 0, Value.int IntKind.u8 0, Value.int IntKind.u8 0,
            Value.int IntKind.u8 0, Value.int IntKind.u8 0, Value.int IntKind.u8 0, Value.int IntKind.u8 0]),
        24, 24)),
  i173 := Eq.refl (some (some (Value.tuple #[Value.slice none 0 0, Value.string { data := #[] }]), 1, 0)),
  i212 :=
   Eq.refl
    (some
      (some
        (Value.agg
          #[Value.int IntKind.u64 0, Value.int IntKind.u64 0, Value.int IntKind.u64 0, Value.int IntKind.u64 0,
            Value.int IntKind.u64 0, Value.int IntKind.u64 0, Value.int IntKind.u64 0, Value.int IntKind.u64 0,
            Value.int IntKind.u64 0, Value.int IntKind.u64 0, Value.int IntKind.u64 0, Value.int IntKind.u64 0,
            Value.int IntKind.u64 0, Value.int IntKind.u64 0, Value.int IntKind.u64 0, Value.int IntKind.u64 0,
            Value.int IntKind.u64 0, Value.int IntKind.u64 0, Value.int IntKind.u64 0, Value.int IntKind.u64 0]),
        20, 160)),
  i232 :=
   Eq.refl
    (some
      (some
        (Value.agg
          #[Value.int IntKind.u8 0, Value.int IntKind.u8 0, Value.int IntKind.u8 0, Value.int IntKind.u8 0,
            Value.int IntKind.u8 0, Value.int IntKind.u8 0, Value.int IntKind.u8 0, Value.int IntKind.u8 0,
            Value.int IntKind.u8 0, Value.int IntKind.u8 0, Value.int IntKind.u8 0, Value.int IntKind.u8 0,
            Value.int IntKind.u8 0, Value.int IntKind.u8 0, Value.int IntKind.u8 0, Value.int IntKind.u8 0,
            Value.int IntKind.u8 0, Value.int IntKind.u8 0, Value.int IntKind.u8 0, Value.int IntKind.u8 0,
            Value.int IntKind.u8 0, Value.int IntKind.u8 0, Value.int IntKind.u8 0, Value.int IntKind.u8 0,
            Value.int IntKind.u8 0, Value.int IntKind.u8 0, Value.int IntKind.u8 0, Value.int IntKind.u8 0,
            Value.int IntKind.u8 0, Value.int IntKind.u8 0, Value.int IntKind.u8 0, Value.int IntKind.u8 0]),
        32, 32)),
  i233 :=
   Eq.refl
    (some
      (some
        (Value.agg
          (let y :=
            let y :=
             let y :=
              let y :=
               [Value.int IntKind.u8 0, Value.int IntKind.u8 0, Value.int IntKind.u8 0,
                 Value.int IntKind.u8 0];
              Value.int IntKind.u8 0 ::
               Value.int IntKind.u8 0 :: Value.int IntKind.u8 0 :: Value.int IntKind.u8 0 :: y;
             let y :=
              Value.int IntKind.u8 0 ::
               Value.int IntKind.u8 0 :: Value.int IntKind.u8 0 :: Value.int IntKind.u8 0 :: y;
             Value.int IntKind.u8 0 ::
              Value.int IntKind.u8 0 :: Value.int IntKind.u8 0 :: Value.int IntKind.u8 0 :: y;
            let y :=
             let y :=
              Value.int IntKind.u8 0 ::
               Value.int IntKind.u8 0 :: Value.int IntKind.u8 0 :: Value.int IntKind.u8 0 :: y;
             Value.int IntKind.u8 0 ::
              Value.int IntKind.u8 0 :: Value.int IntKind.u8 0 :: Value.int IntKind.u8 0 :: y;
            let y :=
             Value.int IntKind.u8 0 ::
              Value.int IntKind.u8 0 :: Value.int IntKind.u8 0 :: Value.int IntKind.u8 0 :: y;
            Value.int IntKind.u8 0 ::
             Value.int IntKind.u8 0 :: Value.int IntKind.u8 0 :: Value.int IntKind.u8 0 :: y;
            let y :=
             let y :=
              let y :=
               Value.int IntKind.u8 0 ::
                Value.int IntKind.u8 0 :: Value.int IntKind.u8 0 :: Value.int IntKind.u8 0 :: y;
              Value.int IntKind.u8 0 ::
               Value.int IntKind.u8 0 :: Value.int IntKind.u8 0 :: Value.int IntKind.u8 0 :: y;
             let y :=
              Value.int IntKind.u8 0 ::
               Value.int IntKind.u8 0 :: Value.int IntKind.u8 0 :: Value.int IntKind.u8 0 :: y;
             Value.int IntKind.u8 0 ::
              Value.int IntKind.u8 0 :: Value.int IntKind.u8 0 :: Value.int IntKind.u8 0 :: y;
            let y :=
             let y :=
              Value.int IntKind.u8 0 ::
               Value.int IntKind.u8 0 :: Value.int IntKind.u8 0 :: Value.int IntKind.u8 0 :: y;
             Value.int IntKind.u8 0 ::
              Value.int IntKind.u8 0 :: Value.int IntKind.u8 0 :: Value.int IntKind.u8 0 :: y;
            let y :=
             Value.int IntKind.u8 0 ::
              Value.int IntKind.u8 0 :: Value.int IntKind.u8 0 :: Value.int IntKind.u8 0 :: y;
            Value.int IntKind.u8 0 ::
             Value.int IntKind.u8 0 :: Value.int IntKind.u8 0 :: Value.int IntKind.u8 0 :: y).toArray),
        64, 64)),
  m17 := Eq.refl (some (lays171_ren.g 17)), m18 := Eq.refl (some (lays171_ren.g 18)),
  m19 := Eq.refl (some (lays171_ren.g 19)) }
def lays284_ren : Go.Shelf.Ren :=
{
 f := fun x =>
   match x with
   | 284 => 110
   | 129 => 130
   | 317 => 129
   | 318 => 131
   | n => n,
 t := fun x =>
   match x with
   | 53 => 40
   | 3 => 3
   | 212 => 162
   | 0 => 0
   | 4 => 4
   | 46 => 123
   | 5 => 5
   | 9 => 9
   | n => n,
 g := fun x =>
   match x with
   | 17 => 3
   | n => n }
theorem lays284 : LaysM.n284 Tryz.prog lays284_ren :=
{ mixed := Eq.refl true, f129 := Eq.trans Tryz.func130 (congrArg some (Eq.refl (Body.n129 lays284_ren))),
  f284 := Eq.trans Tryz.func110 (congrArg some (Eq.refl (Body.n284 lays284_ren))),
  f317 := Eq.trans Tryz.func129 (congrArg some (Eq.refl (Body.n317 lays284_ren))),
  f318 := Eq.trans Tryz.func131 (congrArg some (Eq.refl (Body.n318 lays284_ren))), t0 := Tryz.underlying0,
  a0 := Tryz.isAgg0, z0 := Tryz.sizeOf0, v0 := Tryz.zeroValue0, t3 := Tryz.underlying3, a3 := Tryz.isAgg3,
  z3 := Tryz.sizeOf3, v3 := Tryz.zeroValue3, t4 := Tryz.underlying4, a4 := Tryz.isAgg4, z4 := Tryz.sizeOf4,
  v4 := Tryz.zeroValue4, t5 := Tryz.underlying5, a5 := Tryz.isAgg5, z5 := Tryz.sizeOf5, v5 := Tryz.zeroValue5,
  t9 := Tryz.underlying9, a9 := Tryz.isAgg9, z9 := Tryz.sizeOf9, v9 := Tryz.zeroValue9, t46 := Tryz.underlying123,
  a46 := Tryz.isAgg123, z46 := Tryz.sizeOf123, v46 := Tryz.zeroValue123, t53 := Tryz.underlying40, a53 := Tryz.isAgg40,
  z53 := Tryz.sizeOf40, v53 := Tryz.zeroValue40, t212 := Tryz.underlying162, a212 := Tryz.isAgg162,
  z212 := Tryz.sizeOf162, v212 := Tryz.zeroValue162, g17 := by kernel_rfl,
  i0 := Eq.refl (some (some (Value.tuple #[]), 1, 0)), i3 := Eq.refl (some (some (Value.int IntKind.i64 0), 1, 8)),
  i4 := Eq.refl (some (some (Value.bool false), 1, 1)), i5 := Eq.refl (some (some (Value.int IntKind.u8 0), 1, 1)),
  i9 := Eq.refl (some (some (Value.string { data := #[] }), 1, 16)),
  i46 := Eq.refl (some (some (Value.int IntKind.u64 0), 1, 8)),
  i53 := Eq.refl (some (some (Value.int IntKind.u64 0), 1, 8)),
  i212 :=
   Eq.refl
    (some
      (some
        (Value.agg
          #[Value.int IntKind.u64 0, Value.int IntKind.u64 0, Value.int IntKind.u64 0, Value.int IntKind.u64 0,
            Value.int IntKind.u64 0, Value.int IntKind.u64 0, Value.int IntKind.u64 0, Value.int IntKind.u64 0,
            Value.int IntKind.u64 0, Value.int IntKind.u64 0, Value.int IntKind.u64 0, Value.int IntKind.u64 0,
            Value.int IntKind.u64 0, Value.int IntKind.u64 0, Value.int IntKind.u64 0, Value.int IntKind.u64 0,
            Value.int IntKind.u64 0, Value.int IntKind.u64 0, Value.int IntKind.u64 0, Value.int IntKind.u64 0]),
        20, 160)),
  m17 := Eq.refl (some (lays284_ren.g 17)) }
def lays285_ren : Go.Shelf.Ren :=
{
 f := fun x =>
   match x with
   | 285 => 111
   | n => n,
 t := fun x =>
   match x with
   | 37 => 28
   | 53 => 40
   | 3 => 3
   | 4 => 4
   | 51 => 41
   | 9 => 9
   | 5 => 5
   | 0 => 0
   | n => n,
 g := fun x =>
   have n := x;
   n }
theorem lays285 : Lays.n285 Tryz.prog lays285_ren :=
{ mixed := Eq.refl true, f285 := Eq.trans Tryz.func111 (congrArg some (Eq.refl (Body.n285 lays285_ren))),
  t0 := Tryz.underlying0, a0 := Tryz.isAgg0, z0 := Tryz.sizeOf0, v0 := Tryz.zeroValue0, t3 := Tryz.underlying3,
  a3 := Tryz.isAgg3, z3 := Tryz.sizeOf3, v3 := Tryz.zeroValue3, t4 := Tryz.underlying4, a4 := Tryz.isAgg4,
  z4 := Tryz.sizeOf4, v4 := Tryz.zeroValue4, t5 := Tryz.underlying5, a5 := Tryz.isAgg5, z5 := Tryz.sizeOf5,
  v5 := Tryz.zeroValue5, t9 := Tryz.underlying9, a9 := Tryz.isAgg9, z9 := Tryz.sizeOf9, v9 := Tryz.zeroValue9,
  t37 := Tryz.underlying28, a37 := Tryz.isAgg28, z37 := Tryz.sizeOf28, v37 := Tryz.zeroValue28,
  t51 := Tryz.underlying41, a51 := Tryz.isAgg41, z51 := Tryz.sizeOf41, v51 := Tryz.zeroValue41,
  t53 := Tryz.underlying40, a53 := Tryz.isAgg40, z53 := Tryz.sizeOf40, v53 := Tryz.zeroValue40 }
def lays283_ren : Go.Shelf.Ren :=
{
 f := fun x =>
   match x with
   | 283 => 109
   | n => n,
 t := fun x =>
   match x with
   | 3 => 3
   | 9 => 9
   | 4 => 4
   | n => n,
 g := fun x =>
   have n := x;
   n }
theorem lays283 : Lays.n283 Tryz.prog lays283_ren :=
{ mixed := Eq.refl true, f283 := Eq.trans Tryz.func109 (congrArg some (Eq.refl (Body.n283 lays283_ren))),
  t3 := Tryz.underlying3, a3 := Tryz.isAgg3, z3 := Tryz.sizeOf3, v3 := Tryz.zeroValue3, t4 := Tryz.underlying4,
  a4 := Tryz.isAgg4, z4 := Tryz.sizeOf4, v4 := Tryz.zeroValue4, t9 := Tryz.underlying9, a9 := Tryz.isAgg9,
  z9 := Tryz.sizeOf9, v9 := Tryz.zeroValue9 }
def T10 (w : World) : Prop := Lib.TabIs Tryz.prog w "internal/strconv.uint64pow10" .u64 Lib.pow10Tab
theorem T10.on {w w' : World} (h : T10 w) (k : Keeps NoB w w') : T10 w' := by
 unfold T10 Lib.TabIs World.var? at *
 cases hg : Tryz.prog.globalNamed "internal/strconv.uint64pow10" with
 | none => simp [hg] at h
 | some g =>
   simp only [hg, Option.bind_some] at h ⊢
   rw [k.block g (by
    rcases Nat.lt_or_ge g w.heap.size with hl | hl
    ·exact hl
    ·rw [Array.getElem?_eq_none hl] at h
     cases h) (fun h => h)]
   exact h
theorem keeps_grow (w : World) (k : Nat) (os : Array Obj) : Keeps NoB w (grow (w.drewN k) os) :=
 ⟨rfl, rfl, rfl, by simp [grow], fun i hi _ => by simp [grow, Array.getElem?_append_left hi]⟩
def decB (n : Nat) : ByteArray := ⟨(Lib.decDigits n).toArray⟩
theorem decB_size (n : Nat) : (decB n).size = Lib.nDigits n := by
 show (Lib.decDigits n).toArray.size = _
 rw [List.size_toArray, Lib.decDigits_length]
theorem itoa_any (n : Nat) (hn : n < 9223372036854775808) (w : World) (h : T10 w) :
 Calls Tryz.prog 35 #[.int .i64 n] w fun e w' => e = .returned (.string (decB n)) ∧ Keeps NoB w w' := by
 refine (Any.strconv_Itoa lays171 (n : Int) (by omega) (by omega) w h).mono ?_
 rintro e w' ⟨rfl, k, os, rfl⟩
 exact ⟨by rw [Lib.itoa_nonneg]; rfl, keeps_grow w k os⟩
theorem isfu_10 (u : Nat) (hu64 : u < 18446744073709551616) (w : World) (h : T10 w) :
 Calls Tryz.prog 84 #[.int .u64 u, .int .i64 10] w fun e w' => e = .returned (.string (decB u)) ∧ Keeps NoB w w' := by
 by_cases hs : u < 100
 ·have HS := Lib.hid (fun w1 : World => Any.internal_strconv_small lays283 u hs w1)
  go_enter Tryz.func84, Tryz.ntmps84
  go_wp2_with (go_at_call 109; go_loud (refine (HS.out _).mono ?_); rintro e w' ⟨rfl, rfl⟩)
  go_ret
  exact ⟨rfl, Keeps.refl _ _⟩
 ·have hu1 : 1 <= u := by omega
  have hnd20 : Lib.nDigits u <= 20 := by have := Lib.numDigits_eq u hu1 hu64; split at this <;> omega
  have hb3 : Lib.nDigits u <= 24 := by omega
  have hal : Tryz.prog.arrayLen 140 = 24 := by kernel_rfl
  have hsl1 : ∀ W, (Instr.sliceAt 140 (.pointer (some ⟨w.heap.size, 0, none⟩)) none (some (.int .i64 (Lib.nDigits u : Int))) none).run Tryz.prog W = .ok (.slice (some ⟨w.heap.size, 0, none⟩) (Lib.nDigits u) 24) W := fun W => by
   rw [run_sliceAt_array_h W 140 ⟨w.heap.size, 0, none⟩ (by kernel_rfl) .i64 (Lib.nDigits u : Int) (by omega) (by rw [hal]; omega)]
   go_simp
  have hH0 := Lib.holds_zero0 w 140 (Lib.nDigits u) (by omega)
  have hfmt := Any.internal_strconv_formatBase10 lays285 w.heap.size 0 24 u (Array.replicate (Lib.nDigits u) 0) (w.alloc (.cells Lib.zeros24 140)) hH0 (by rw [Array.size_replicate]; exact Lib.lt_pow_nDigits u) hu64 (by rw [Array.size_replicate]; omega)
  rw [Array.size_replicate] at hfmt
  have HH0 := Lib.hid hH0
  have HT := Lib.hid (Lib.tabIs_alloc h (.cells Lib.zeros24 140))
  have HN := Lib.hid (fun (w1 : World) (t : T10 w1) => Any.internal_strconv_numDigits lays284 u hu1 hu64 w1 t)
  clear hH0 hal
  go_enter Tryz.func84, Tryz.ntmps84
  go_wp2_with (go_at_call 110; go_loud (refine (HN.out _ HT.out).mono ?_); rintro e w' ⟨rfl, rfl⟩)
  go_at_call 111
  refine hfmt.mono ?_
  rintro e w' ⟨rfl, k, v', dk, rfl, hF⟩
  have hcv : (convert 28 9 (.slice (some ⟨w.heap.size, 0, none⟩) (Lib.nDigits u) 24)).run Tryz.prog ((putRow (fun (b : UInt8) => Value.int .u8 (b.toNat : Int)) (w.alloc (.cells Lib.zeros24 140)) w.heap.size 0 dk).drewN k) = .ok (.string ⟨(Lib.decDigits u).toArray⟩) ((putRow (fun (b : UInt8) => Value.int .u8 (b.toNat : Int)) (w.alloc (.cells Lib.zeros24 140)) w.heap.size 0 dk).drewN k) := by
   have h := run_convert_bytes_back (P := Tryz.prog) ((putRow (fun (b : UInt8) => Value.int .u8 (b.toNat : Int)) (w.alloc (.cells Lib.zeros24 140)) w.heap.size 0 dk).drewN k) 28 9 5 ⟨w.heap.size, 0, none⟩ 24 (Lib.decDigits u) Tryz.underlying28 Tryz.underlying5 Tryz.underlying9 (fun j hj => by
    rw [Lib.row_is_numeral hF j hj, Lib.add_plain, World.cell?_drewN]
    exact cell?_putRow (fun (b : UInt8) => Value.int .u8 (b.toNat : Int)) _ w.heap.size 0 _ dk HH0.out (by rw [hF.size, Array.size_replicate]) j (by rw [hF.size]; rw [Lib.decDigits_length] at hj; exact hj))
   rw [Lib.decDigits_length] at h
   exact h
  go_wp2
  go_ret
  obtain ⟨os, eo⟩ := Lib.fin_at w (.cells Lib.zeros24 140) dk k 0
  rw [eo]
  exact ⟨rfl, keeps_grow w k os⟩
theorem fu_10 (u : Nat) (hu64 : u < 18446744073709551616) (w : World) (h : T10 w) :
 Calls Tryz.prog 54 #[.int .u64 u, .int .i64 10] w fun e w' => e = .returned (.string (decB u)) ∧ Keeps NoB w w' := by
 have H := Lib.hid (isfu_10 u hu64 w h)
 clear h
 go_enter Tryz.func54, Tryz.ntmps54
 go_wp2_with (go_at_call 84; go_loud (refine H.out.mono ?_); rintro e w' ⟨rfl, hk⟩)
 go_ret
 exact ⟨rfl, hk⟩
end Go.Proofs.YtkdfgkbojbdelaaGreatDoor
set_option maxHeartbeats 8000000
namespace Go.Proofs.YtkdfgkbojbdelaaGreatDoor
open Go Go.RowKit
theorem add_any (w : World) (B c n0 : Nat) {S : Nat -> Prop} {p : Option Addr} {cap : Nat} (l : List UInt8) (hS : SlAt encU8 S w p cap l) (hB : Bk w B [.int .u32 (c : Int), .int .i64 (n0 : Int)]) (hc : c < 4294967296) (hn : n0 + l.length <= 4611686018427387904) (hSB : ∀ g, S g -> ¬ g = B) :
 Calls Tryz.prog 85 #[.pointer (some ⟨B, 0, none⟩), .slice p l.length cap] w fun e w' => e = .returned (.tuple #[]) ∧ Bk w' B [.int .u32 ((crcF c l : Nat) : Int), .int .i64 ((n0 + l.length : Nat) : Int)] ∧ Keeps (fun g => g = B) w w' := by
 have hcap := hS.cap
 have hmax := hS.max
 unfold maxLen at hmax
 have HS := Lib.hid hS
 have HB := Lib.hid hB
 have HD := Lib.hid hSB
 have HC := Lib.hid (fun k : Nat => crcF_lt hc (l.take k))
 have HSh := Lib.hid (fun (c b : Nat) (hc : c < 4294967296) (hb : b < 256) (w1 : World) => shift_any c b hc hb w1)
 clear hS hB hSB hc
 go_enter Tryz.func85, Tryz.ntmps85
 go_wp2
 go_loopw [8] (fun i wr => ∃ k : Nat, k <= l.length ∧ i = .int .i64 k ∧ Bk wr B [.int .u32 ((crcF c (l.take k) : Nat) : Int), .int .i64 (n0 : Int)] ∧ Keeps (fun g => g = B) w wr) (fun i _ => l.length + 1 - (intOf i).toNat)
 case atStart => exact ⟨0, Nat.zero_le _, rfl, HB.out, Keeps.refl _ _⟩
 case round =>
  rename_i wr
  obtain ⟨k, hk, rfl, hb, hkr⟩ := hrel
  have HBr := Lib.hid hb
  have HK := Lib.hid hkr
  clear hb hkr
  by_cases hlt : k < l.length
  ·obtain ⟨b, hx⟩ : ∃ b, l[k]? = some b := ⟨_, List.getElem?_eq_getElem hlt⟩
   obtain ⟨g, off, rfl, _, hg, hcc⟩ := (HS.out.keep HK.out (fun g hg _ h => HD.out g hg h)).at hx
   have c0 : wr.cell? ⟨g, off + k, none⟩ = some (.int .u8 ((b.toNat : Nat) : Int)) := by
    have := hcc 0 _ rfl
    simpa [encU8] using this
   have hs : crcF c (l.take (k + 1)) = crcB (crcF c (l.take k)) b.toNat := crcF_succ c l hx
   have HSs := Lib.hid hs
   have hlc := HC.out k
   have b0 := HBr.out.cell 0 _ rfl
   have bf := HBr.out.fz 0
   have bl := HBr.out.lt
   have hb2 : b.toNat < 256 := b.toNat_lt
   have HSh2 := Lib.hid (fun w1 : World => HSh.out _ _ hlc hb2 w1)
   have HB2 := Lib.hid (HBr.out.put 0 (.int .u32 ((crcB (crcF c (l.take k)) b.toNat : Nat) : Int)))
   have HK2 := Lib.hid (HK.out.trans (kset wr ⟨B, 0, none⟩ (.int .u32 ((crcB (crcF c (l.take k)) b.toNat : Nat) : Int))))
   clear hs hx hcc
   generalize crcB (crcF c (l.take k)) b.toNat = y at *
   generalize crcF c (l.take k) = x at *
   generalize b.toNat = bb at *
   go_wp2_with (go_at_call 113; go_loud (refine (HSh2.out _).mono ?_); rintro e w1 ⟨rfl, rfl⟩)
   go_roundw
   case rel => exact ⟨k + 1, by omega, by go_num, by rw [HSs.out]; exact HB2.out, HK2.out⟩
   case measure => (simp [intOf]) <;> omega
  ·obtain rfl : k = l.length := by omega
   have b1 := HBr.out.cell 1 _ rfl
   have bf := HBr.out.fz 1
   have bl := HBr.out.lt
   have hb := HBr.out
   rw [List.take_length] at hb
   have HB2 := Lib.hid (hb.put 1 (.int .i64 ((n0 : Int) + (l.length : Int))))
   have HK2 := Lib.hid (HK.out.trans (kset wr ⟨B, 1, none⟩ (.int .i64 ((n0 : Int) + (l.length : Int)))))
   clear hb
   go_wp2
   go_end0
   rw [Int.natCast_add]
   exact ⟨rfl, HB2.out, HK2.out⟩
theorem not_u32 {c : Nat} (h : c < 4294967296) : bits .xor .u32 IntKind.u32.max (c : Int) = ((4294967295 - c : Nat) : Int) := by
 rw [show IntKind.u32.max = ((4294967295 : Nat) : Int) from rfl, bits_xor_32 (by decide) h, xor_all h]
theorem value_any (w : World) (B c n : Nat) (hB : Bk w B [.int .u32 (c : Int), .int .i64 (n : Int)]) (hc : c < 4294967296) (hn : n <= 4611686018427387904) :
 Calls Tryz.prog 86 #[.pointer (some ⟨B, 0, none⟩)] w fun e w' => e = .returned (.int .u32 ((4294967295 - crcL c n : Nat) : Int)) ∧ Keeps NoB w w' := by
 have HSh := Lib.hid (fun (c b : Nat) (hc : c < 4294967296) (hb : b < 256) (w1 : World) => shift_any c b hc hb w1)
 have b0 := hB.cell 0 _ rfl
 have b1 := hB.cell 1 _ rfl
 have bl := hB.lt
 go_enter Tryz.func86, Tryz.ntmps86
 go_upto_region 1 with fail
 go_quiet (fail)
 go_upto_region 2 with fail
 have HK := Lib.hid ((Keeps.refl NoB w).drewN nq)
 clear b0 b1 bl hB
 generalize w.drewN nq = w3 at *
 go_loop [3, 4] (fun cc nn => ∃ c' n' : Nat, n' <= n ∧ c' < 4294967296 ∧ cc = .int .u32 (c' : Int) ∧ nn = .int .i64 (n' : Int) ∧ crcL c' n' = crcL c n) (fun _ nn => (intOf nn).toNat)
 case atStart => exact ⟨c, n, Nat.le_refl _, hc, rfl, rfl, rfl⟩
 case round =>
  obtain ⟨c', n', hn', hc', rfl, rfl, he⟩ := hrel
  have HE := Lib.hid he
  clear he
  by_cases h0 : 0 < n'
  ·have hz : (n' : Int) % 256 = ((n' % 256 : Nat) : Int) := by omega
   have hd : (n' : Int) / 256 = ((n' / 256 : Nat) : Int) := by omega
   have HSh2 := Lib.hid (fun w1 : World => HSh.out c' (n' % 256) hc' (Nat.mod_lt _ (by decide)) w1)
   have hst := crcL_step c' h0
   have HSt := Lib.hid hst
   have hlb := crcB_lt c' (n' % 256)
   have hle : n' / 256 <= n' := Nat.div_le_self _ _
   have hlt2 : n' / 256 < n' := Nat.div_lt_self h0 (by decide)
   clear hst
   generalize crcB c' (n' % 256) = y at *
   generalize n' % 256 = m at *
   generalize n' / 256 = q at *
   go_wp2_with (go_at_call 113; go_loud (refine (HSh2.out _).mono ?_); rintro e w1 ⟨rfl, rfl⟩)
   go_round
   case rel => exact ⟨y, q, by omega, hlb, rfl, by first | rfl | (rw [hd]), HSt.out.symm.trans HE.out⟩
   case measure => first | (simp [intOf]; done) | (simp [intOf]; omega)
  ·obtain rfl : n' = 0 := by omega
   have he := HE.out
   rw [crcL_zero] at he
   subst he
   have hx := not_u32 hc'
   go_wp2
   go_ret
   first | exact ⟨rfl, HK.out⟩ | exact ⟨by rw [hx], HK.out⟩ | (refine ⟨?_, HK.out⟩; simp [hx])
theorem of_any (s : ByteArray) (w : World) (hs : s.size <= 1000000) :
 Calls Tryz.prog 55 #[.string s] w fun e w' => e = .returned (.int .u32 ((crcOf s : Nat) : Int)) ∧ Keeps NoB w w' := by
 have ka : Keeps NoB w (w.alloc (.cells #[.int .u32 0, .int .i64 0] 114)) := (Keeps.refl _ _).alloc _
 have hb := Bk.new (Keeps.refl NoB (w.alloc (.cells #[.int .u32 0, .int .i64 0] 114)))
 have hsz : (w.alloc (.cells #[.int .u32 0, .int .i64 0] 114)).heap.size = w.heap.size + 1 := by simp
 have hl : s.data.toList.length = s.size := len_data s
 have hconv := fun wx => Lib.run_convert_string_bytes (P := Tryz.prog) wx 9 28 5 s Tryz.underlying9 Tryz.underlying28 Tryz.underlying5
 obtain ⟨hsl, hkc⟩ := conv_sl (w.alloc (.cells #[.int .u32 0, .int .i64 0] 114)) s (by unfold maxLen; omega)
 have hA := add_any _ w.heap.size 0 0 s.data.toList hsl (hb.on hkc) (by decide) (by rw [hl]; omega) (fun g hg => by rw [hg, hsz]; omega)
 rw [hl, hsz] at hA
 have HA := Lib.hid hA
 have HK1 := Lib.hid (ka.trans hkc)
 have HV := Lib.hid (fun (w1 : World) (hb : Bk w1 w.heap.size [.int .u32 ((crcF 0 s.data.toList : Nat) : Int), .int .i64 ((0 + s.size : Nat) : Int)]) => value_any w1 w.heap.size (crcF 0 s.data.toList) (0 + s.size) hb (crcF_lt (by decide) _) (by omega))
 rw [show 4294967295 - crcL (crcF 0 s.data.toList) (0 + s.size) = crcOf s by rw [Nat.zero_add, crcOf]] at HV
 clear ka hb hsz hl hsl hkc hA
 go_enter Tryz.func55, Tryz.ntmps55
 go_wp2_with (first | (go_at_call 85; go_loud (refine HA.out.mono ?_); rintro e w1 ⟨rfl, hb1, hk1⟩; have HB1 := Lib.hid hb1; clear hb1) | (go_at_call 86; go_loud (refine (HV.out _ HB1.out).mono ?_); rintro e w2 ⟨rfl, hk2⟩))
 go_ret
 exact ⟨rfl, ((HK1.out.of_none (F := NoB)).step hk1 (fun g hg => .inr (by rw [hg]; exact Nat.le_refl _))).trans hk2⟩
def lineB (s : ByteArray) : ByteArray := decB (crcOf s) ++ ⟨#[32]⟩ ++ decB s.size
theorem line_any (s : ByteArray) (w : World) (hs : s.size <= 1000000) (h10 : T10 w) :
 Calls Tryz.prog 32 #[.string s] w fun e w' => e = .returned (.string (lineB s)) ∧ Keeps NoB w w' := by
 have HO := Lib.hid (of_any s w hs)
 have HF := Lib.hid (fun (w1 : World) (k : Keeps NoB w w1) => fu_10 (crcOf s) (Nat.lt_trans (crcOf_lt s) (by decide)) w1 (h10.on k))
 have HI := Lib.hid (fun (w1 : World) (k : Keeps NoB w w1) => itoa_any s.size (by omega) w1 (h10.on k))
 have hlt : ((crcOf s : Nat) : Int) < 4294967296 := by have := crcOf_lt s; omega
 have hz1 : (decB (crcOf s)).size <= 20 := by
  rw [decB_size]
  rcases Nat.eq_zero_or_pos (crcOf s) with h | h
  ·rw [h]; unfold Lib.nDigits; simp
  ·have := Lib.numDigits_eq (crcOf s) h (Nat.lt_trans (crcOf_lt s) (by decide))
   have h2 := crcOf_lt s
   split at this <;> omega
 have hz2 : (decB s.size).size <= 20 := by
  rw [decB_size]
  rcases Nat.eq_zero_or_pos s.size with h | h
  ·rw [h]; unfold Lib.nDigits; simp
  ·have := Lib.numDigits_eq s.size h (by omega)
   split at this <;> omega
 clear h10
 unfold lineB
 generalize crcOf s = cc at *
 generalize decB cc = d1 at *
 generalize decB s.size = d2 at *
 go_enter Tryz.func32, Tryz.ntmps32
 go_wp2_with (first | (go_at_call 55; go_loud (refine HO.out.mono ?_); rintro e w1 ⟨rfl, hk1⟩) | (go_at_call 54; go_loud (refine (HF.out _ hk1).mono ?_); rintro e w2 ⟨rfl, hk2⟩) | (go_at_call 35; go_loud (refine (HI.out _ (hk1.trans hk2)).mono ?_); rintro e w3 ⟨rfl, hk3⟩))
 go_ret
 exact ⟨rfl, (hk1.trans hk2).trans hk3⟩
set_option maxHeartbeats 4000000
theorem toList_ne {x s : ByteArray} (h : ¬ x = s) : (x.toList == s.toList) = false := by
 rw [beq_eq_false_iff_ne]
 intro e
 rw [Lib.toList_data, Lib.toList_data] at e
 exact h (ByteArray.ext (Array.toList_inj.1 e))
def dgB (k : Nat) : ByteArray := ⟨#[(48 + k).toUInt8]⟩
theorem itoa_digit (k : Nat) (hk : k = 0 ∨ k = 1 ∨ k = 2) (w : World) : Calls Tryz.prog 35 #[.int .i64 (k : Int)] w fun e w' => e = .returned (.string (dgB k)) ∧ w = w' := by
 have h3 : Hid (Calls Tryz.prog 109 #[.int .i64 (k : Int)] w fun e w' => e = .returned (.string (dgB k)) ∧ w = w') := by
  show Calls _ _ _ _ _
  rcases hk with rfl | rfl | rfl
  all_goals
   go_enter Tryz.func109, Tryz.ntmps109
   go_wp2
   go_ret
   exact ⟨rfl, rfl⟩
 have h2 : Hid (Calls Tryz.prog 88 #[.int .i64 (k : Int), .int .i64 10] w fun e w' => e = .returned (.string (dgB k)) ∧ w = w') := by
  show Calls _ _ _ _ _
  have hl : (k : Int) < 100 := by omega
  have hg : (0 : Int) <= k := by omega
  clear hk
  go_enter Tryz.func88, Tryz.ntmps88
  go_wp2_with (go_at_call 109; go_loud (refine h3.out.mono ?_); rintro e w1 ⟨rfl, rfl⟩)
  go_ret
  exact ⟨rfl, rfl⟩
 have h1 : Hid (Calls Tryz.prog 57 #[.int .i64 (k : Int)] w fun e w' => e = .returned (.string (dgB k)) ∧ w = w') := by
  show Calls _ _ _ _ _
  go_enter Tryz.func57, Tryz.ntmps57
  go_wp2_with (go_at_call 88; go_loud (refine h2.out.mono ?_); rintro e w1 ⟨rfl, rfl⟩)
  go_ret
  exact ⟨rfl, rfl⟩
 go_enter Tryz.func35, Tryz.ntmps35
 go_wp2_with (go_at_call 57; go_loud (refine h1.out.mono ?_); rintro e w1 ⟨rfl, rfl⟩)
 go_ret
 exact ⟨rfl, rfl⟩
theorem results_cell_oneF {fn : Func} {p : Tmp} {ty : TypeId} (h : fn.results = #[.cell p ty]) (tmps : Array Value) (P : Program) (w : World) :
 (results fn tmps).run P w = ((asAddr (tmps.getD p undef)).run P w).andThen fun a w₁ => (loadVar ty a).run P w₁ := by
 simp only [results, h]
 simp [Sem.run_bind, Result.andThen]
theorem plain_asc (s : ByteArray) (w : World) (h1 : 1 <= s.size) (hs : s.size <= 1000000) (ha : ∀ (j : Nat) b, s.data.toList[j]? = some b -> b.toNat < 128) :
 Calls Tryz.prog 62 #[.string s] w fun e w' => e = .returned (.string s) ∧ Keeps NoB w w' := by
 have hconv := fun wx => Lib.run_convert_string_bytes (P := Tryz.prog) wx 9 28 5 s Tryz.underlying9 Tryz.underlying28 Tryz.underlying5
 have hl : s.data.toList.length = s.size := len_data s
 obtain ⟨hsl, hkc⟩ := conv_sl w s (by unfold maxLen; omega)
 have HL := Lib.hid hsl
 have HK := Lib.hid hkc
 have HA := Lib.hid ha
 have hcp := hsl.cap
 have hmx := hsl.max
 unfold maxLen at hmx
 rw [hl] at hcp
 have hst := sl_str hsl (by rw [hl]; omega)
 rw [hl] at hst
 have HS := Lib.hid hst
 clear hsl hkc ha hst
 go_enter Tryz.func62, Tryz.ntmps62
 go_upto_region 3 with fail
 clear hconv
 generalize grownCap w s.size 0 5 = cp at *
 generalize Lib.bytesWorld w 5 s = w2 at *
 go_loop [10] (fun i => ∃ k : Nat, k <= s.size ∧ i = .int .i64 k) (fun i => s.size + 1 - (intOf i).toNat)
 case atStart => exact ⟨0, Nat.zero_le _, rfl⟩
 case round =>
  obtain ⟨k, hk, rfl⟩ := hrel
  by_cases hlt : k < s.size
  ·obtain ⟨b, hb⟩ : ∃ b, s.data.toList[k]? = some b := ⟨_, List.getElem?_eq_getElem (by rw [hl]; exact hlt)⟩
   have t0 : w2.cell? ⟨w.heap.size, k, none⟩ = some (.int .u8 (b.toNat : Int)) := by
    obtain ⟨g, off, e, _, _, hcc⟩ := HL.out.at hb
    cases e
    have := hcc 0 _ rfl
    simpa [encU8] using this
   have hb8 : (b.toNat : Int) < 128 := by have := HA.out k b hb; omega
   clear hb
   go_wp2
   go_round
   case rel => exact ⟨k + 1, by omega, by go_num⟩
   case measure => simp [intOf]; omega
  ·obtain rfl : k = s.size := by omega
   have hst := HS.out
   go_wp2
   go_ret
   exact ⟨rfl, HK.out⟩
theorem words_asc (s : ByteArray) (w : World) (h1 : 1 <= s.size) (hs : s.size <= 1000000) (ha : ∀ (j : Nat) b, s.data.toList[j]? = some b -> b.toNat < 128) (ht : As22 w) :
 Calls Tryz.prog 38 #[.string s] w fun e w' => e = .returned (.int .i64 ((Lib.fields s.data.toList).length : Int)) ∧ Keeps NoB w w' := by
 have HP := Lib.hid (plain_asc s w h1 hs ha)
 have HF := Lib.hid (fun (w1 : World) (k : Keeps NoB w w1) => fields_asc s w1 hs ha (ht.on k))
 obtain ⟨n, hn⟩ : ∃ n, (Lib.fields s.data.toList).length = n := ⟨_, rfl⟩
 rw [hn] at HF ⊢
 clear ha ht hn
 go_enter Tryz.func38, Tryz.ntmps38
 go_wp2_with (first | (go_at_call 62; go_loud (refine HP.out.mono ?_); rintro e w1 ⟨rfl, hk1⟩) | (go_at_call 61; go_loud (refine (HF.out _ hk1).mono ?_); rintro e w2 ⟨rfl, hk2⟩))
 go_ret
 exact ⟨rfl, hk1.trans hk2⟩
theorem results_cell_tmpF {fn : Func} {p q : Tmp} {ty : TypeId} (h : fn.results = #[.cell p ty, .tmp q]) (tmps : Array Value) (P : Program) (w : World) :
 (results fn tmps).run P w = ((asAddr (tmps.getD p undef)).run P w).andThen fun a w₁ => ((loadVar ty a).run P w₁).andThen fun v w₂ => .ok (.tuple #[v, tmps.getD q undef]) w₂ := by
 simp only [results, h]
 simp [Sem.run_bind, Result.andThen]
abbrev xyB : ByteArray := ⟨#[120, 10, 121, 10]⟩
def Ex22 (w : World) (L : Nat) : Prop := Bk w L [.string ⟨#[97]⟩, .string xyB, .int .i64 0]
theorem find_ex (w : World) (L : Nat) (h : Ex22 w L) : Calls Tryz.prog 8 #[.agg #[.string ⟨#[]⟩, .int .i64 0, .slice (some ⟨L, 0, none⟩) 1 1], .string ⟨#[97]⟩] w fun e w' => e = .returned (.tuple #[.agg #[.string ⟨#[97]⟩, .string xyB, .int .i64 0], .int .i64 0]) ∧ Keeps NoB w w' := by
 have c0 := Bk.cell h 0 _ rfl
 have c1 := Bk.cell h 1 _ rfl
 have c2 := Bk.cell h 2 _ rfl
 have cl := Bk.lt h
 clear h
 go_enter Tryz.func8, Tryz.ntmps8
 go_wp2
 go_loop [6] (fun v => v = .int .i64 0) (fun _ => 0)
 case atStart => rfl
 case round =>
  subst hrel
  go_wp2
  (try simp only [Exit.inBlock, Exit.then])
  refine bodyPost_ret (v := .tuple #[.agg #[.string ⟨#[97]⟩, .string xyB, .int .i64 0], .int .i64 0]) ?_ rfl ?_
  ·rw [results_cell_tmpF rfl]; go_simp
  exact ⟨rfl, ((Keeps.refl _ _).alloc _).alloc _⟩
theorem file_ex (w : World) (L : Nat) (h : Ex22 w L) : Calls Tryz.prog 179 #[.agg #[.string ⟨#[]⟩, .int .i64 0, .slice (some ⟨L, 0, none⟩) 1 1], .string ⟨#[97]⟩] w fun e w' => e = .returned (.tuple #[.string xyB, .int .i64 0]) ∧ Keeps NoB w w' := by
 have HF := Lib.hid (fun (w1 : World) (k : Keeps NoB w w1) => find_ex w1 L (Bk.on h k))
 have HK := Lib.hid ((Keeps.refl NoB w).alloc (.cells #[.string ⟨#[]⟩, .int .i64 0, .slice (some ⟨L, 0, none⟩) 1 1] 27))
 clear h
 go_enter Tryz.func179, Tryz.ntmps179
 go_wp2_with (go_at_call 8; go_loud (refine (HF.out _ HK.out).mono ?_); rintro e w1 ⟨rfl, hk1⟩)
 go_ret2
 exact ⟨rfl, (HK.out.trans hk1).alloc _⟩
theorem read_ex (w : World) (L : Nat) (h : Ex22 w L) : Calls Tryz.prog 31 #[.string ⟨#[97]⟩, .iface 27 (.agg #[.string ⟨#[]⟩, .int .i64 0, .slice (some ⟨L, 0, none⟩) 1 1])] w fun e w' => e = .returned (.tuple #[.string xyB, .int .i64 0]) ∧ Keeps NoB w w' := by
 have HF := Lib.hid (file_ex w L h)
 clear h
 go_enter Tryz.func31, Tryz.ntmps31
 go_wp2_with (go_at_call 179; go_loud (refine HF.out.mono ?_); rintro e w1 ⟨rfl, hk1⟩)
 go_ret2
 exact ⟨rfl, hk1⟩
theorem line_ex (w : World) (K : Nat) (h : Bk w K [.string ⟨#[108]⟩]) : Calls Tryz.prog 34 #[.agg #[.int .i64 2, .int .i64 2, .int .i64 4], .string ⟨#[97]⟩, .pointer (some ⟨K, 0, none⟩)] w fun e w' => e = .returned (.string ⟨#[50, 32, 97, 10]⟩) ∧ Keeps NoB w w' := by
 have c0 := h.cell 0 _ rfl
 have cl := h.lt
 have hconv := fun wx => Lib.run_convert_string_bytes (P := Tryz.prog) wx 9 28 5 ⟨#[108]⟩ Tryz.underlying9 Tryz.underlying28 Tryz.underlying5
 obtain ⟨hsl, hkc⟩ := conv_sl (w.alloc (.cells #[.int .i64 2, .int .i64 2, .int .i64 4] 70)) ⟨#[108]⟩ (by decide)
 have hb := Bk.new hkc
 have d0 := hb.cell 0 _ rfl
 have d1 := hb.cell 1 _ rfl
 have d2 := hb.cell 2 _ rfl
 have dl := hb.lt
 have hz : (w.alloc (.cells #[.int .i64 2, .int .i64 2, .int .i64 4] 70)).heap.size = w.heap.size + 1 := by simp
 have t0 : (Lib.bytesWorld (w.alloc (.cells #[.int .i64 2, .int .i64 2, .int .i64 4] 70)) 5 ⟨#[108]⟩).cell? ⟨w.heap.size + 1, 0, none⟩ = some (.int .u8 108) := by
  obtain ⟨g, off, e, _, _, hcc⟩ := hsl.at (i := 0) (x := 108) rfl
  cases e
  have := hcc 0 _ rfl
  rw [hz] at this
  simpa [encU8] using this
 have hcp := hsl.cap
 have hmx := hsl.max
 unfold maxLen at hmx
 have HK := Lib.hid (((Keeps.refl NoB w).alloc (.cells #[.int .i64 2, .int .i64 2, .int .i64 4] 70)).trans hkc)
 have HIb := Lib.hid (fun wx => ib_any ⟨#[108, 119, 99]⟩ 108 wx)
 rw [show bIdx (⟨#[108, 119, 99]⟩ : ByteArray) ((108 : Int)).toNat.toUInt8 = 0 by decide] at HIb
 have HIt : Hid (∀ w1 : World, Calls Tryz.prog 35 #[.int .i64 2] w1 fun e w' => e = .returned (.string ⟨#[50]⟩) ∧ w1 = w') := Lib.hid (fun w1 : World => itoa_digit 2 (.inr (.inr rfl)) w1)
 clear h hsl hkc hb hz
 go_enter Tryz.func34, Tryz.ntmps34
 go_upto_region 3 with fail
 clear hconv c0 cl
 generalize Lib.bytesWorld (w.alloc (.cells #[.int .i64 2, .int .i64 2, .int .i64 4] 70)) 5 ⟨#[108]⟩ = w2 at *
 go_loop [6, 12] (fun o i => (o = .string ⟨#[]⟩ ∧ i = .int .i64 0) ∨ (o = .string ⟨#[50]⟩ ∧ i = .int .i64 1)) (fun _ i => 2 - (intOf i).toNat)
 case atStart => exact .inl ⟨rfl, rfl⟩
 case round =>
  rcases hrel with ⟨rfl, rfl⟩ | ⟨rfl, rfl⟩
  ·go_wp2_with (first | (go_at_call 33; go_loud (refine (HIb.out _).mono ?_); rintro e w3 ⟨rfl, rfl⟩) | (go_at_call 35; go_loud (refine (HIt.out _).mono ?_); rintro e w4 ⟨rfl, rfl⟩))
   go_round
   case rel => exact .inr ⟨congrArg Value.string (by decide), by go_num⟩
   case measure => simp [intOf]
  ·go_wp2
   go_ret
   exact ⟨congrArg (fun s => Ending.returned (Value.string s)) (by decide), HK.out⟩
def accX : Nat -> List Value
 | 0 => [.int .i64 0, .int .i64 0, .int .i64 0]
 | 1 => [.int .i64 2, .int .i64 0, .int .i64 0]
 | 2 => [.int .i64 2, .int .i64 2, .int .i64 0]
 | _ => [.int .i64 2, .int .i64 2, .int .i64 4]
def lineF (K : Nat) : Value := .func (.func 34) #[] #[.pointer (some ⟨K, 0, none⟩)]
theorem tell_ex (w : World) (A T Lb K : Nat) (hA : Bk w A (accX 0)) (hT : Bk w T [.int .i64 0]) (hL : Bk w Lb [lineF K]) (hK : Bk w K [.string ⟨#[108]⟩]) (ht : As22 w) (n1 : T ≠ A) (n2 : Lb ≠ A) (n3 : K ≠ A) (n4 : Lb ≠ T) (n5 : K ≠ T) :
 Calls Tryz.prog 36 #[.string xyB, .string ⟨#[97]⟩, .pointer (some ⟨A, 0, none⟩), .pointer (some ⟨T, 0, none⟩), .pointer (some ⟨Lb, 0, none⟩)] w fun e w' => e = .returned (.string ⟨#[50, 32, 97, 10]⟩) ∧ Keeps (fun g => g = A ∨ g = T) w w' ∧ Bk w' T [.int .i64 1] := by
 have HC := Lib.hid (fun w1 : World => count_nl xyB w1)
 rw [show Lib.countByte xyB.data.toList 10 = 2 by decide] at HC
 have HW := Lib.hid (fun w1 (k : Keeps NoB w w1) => words_asc xyB w1 (by decide) (by decide) (by
  intro j b hb
  have : ∀ b ∈ xyB.data.toList, b.toNat < 128 := by decide
  exact this b (List.mem_of_getElem? hb)) (ht.on k))
 rw [show (Lib.fields xyB.data.toList).length = 2 by decide] at HW
 have HA := Lib.hid hA
 have HT := Lib.hid hT
 have HL := Lib.hid hL
 have HK := Lib.hid hK
 have N1 := Lib.hid n1
 have N2 := Lib.hid n2
 have N3 := Lib.hid n3
 have N4 := Lib.hid n4
 have N5 := Lib.hid n5
 clear hA hT hL hK ht n1 n2 n3 n4 n5
 go_enter Tryz.func36, Tryz.ntmps36
 go_upto_region 3 with (first | (go_at_call 37; go_loud (refine (HC.out _).mono ?_); rintro e w1 ⟨rfl, rfl⟩) | (go_at_call 38; go_loud (refine (HW.out _ (Keeps.refl _ _)).mono ?_); rintro e w2 ⟨rfl, hk2⟩))
 have ka : Keeps NoB w2 (w2.alloc (.cells #[.int .i64 2, .int .i64 2, .int .i64 4] 70)) := (Keeps.refl _ _).alloc _
 have HN := Lib.hid (Bk.new (Keeps.refl NoB (w2.alloc (.cells #[.int .i64 2, .int .i64 2, .int .i64 4] 70))))
 have HK3 := Lib.hid (hk2.trans ka)
 have NA : Hid (A ≠ w2.heap.size) := by
  show A ≠ w2.heap.size
  have := HA.out.lt
  have := hk2.size
  omega
 have HNB : Hid (w.heap.size <= w2.heap.size) := Lib.hid hk2.size
 clear hk2 ka HC HW
 generalize w2.alloc (.cells #[.int .i64 2, .int .i64 2, .int .i64 4] 70) = w3 at *
 generalize w2.heap.size = NB at *
 go_loopw [17] (fun i wr => ∃ k : Nat, k <= 3 ∧ i = .int .i64 k ∧ Bk wr A (accX k) ∧ Keeps (fun g => g = A) w3 wr) (fun i _ => 4 - (intOf i).toNat)
 case atStart => exact ⟨0, by omega, rfl, HA.out.on HK3.out, Keeps.refl _ _⟩
 case round =>
  obtain ⟨k, hk, rfl, hb, hk4⟩ := hrel
  have HB := Lib.hid hb
  have HK4 := Lib.hid hk4
  have HNr := Lib.hid (HN.out.keep hk4 (fun e => NA.out e.symm))
  clear hb hk4
  rcases (show k = 0 ∨ k = 1 ∨ k = 2 ∨ k = 3 by omega) with rfl | rfl | rfl | rfl
  ·have a0 := HB.out.cell 0 _ rfl
   have m0 := HNr.out.cell 0 _ rfl
   have af := HB.out.fz 0
   have al := HB.out.lt
   have ml := HNr.out.lt
   go_upto_region 5 with fail
   go_region
   all_goals
    go_wp2
    go_roundw
    case rel => exact ⟨1, by omega, by go_num, (HB.out.put 0 (.int .i64 2)).on (Keeps.refl _ _).drew, (HK4.out.trans (kset wr ⟨A, 0, none⟩ (.int .i64 2))).drew⟩
    case measure => simp [intOf]
  ·have a0 := HB.out.cell 1 _ rfl
   have m0 := HNr.out.cell 1 _ rfl
   have af := HB.out.fz 1
   have al := HB.out.lt
   have ml := HNr.out.lt
   go_upto_region 5 with fail
   go_region
   all_goals
    go_wp2
    go_roundw
    case rel => exact ⟨2, by omega, by go_num, (HB.out.put 1 (.int .i64 2)).on (Keeps.refl _ _).drew, (HK4.out.trans (kset wr ⟨A, 1, none⟩ (.int .i64 2))).drew⟩
    case measure => simp [intOf]
  ·have a0 := HB.out.cell 2 _ rfl
   have m0 := HNr.out.cell 2 _ rfl
   have af := HB.out.fz 2
   have al := HB.out.lt
   have ml := HNr.out.lt
   go_upto_region 5 with fail
   go_region
   all_goals
    go_wp2
    go_roundw
    case rel => exact ⟨3, by omega, by go_num, (HB.out.put 2 (.int .i64 4)).on (Keeps.refl _ _).drew, (HK4.out.trans (kset wr ⟨A, 2, none⟩ (.int .i64 4))).drew⟩
    case measure => simp [intOf]
  ·have HTr := Lib.hid ((HT.out.on HK3.out).keep HK4.out N1.out)
   have HLr := Lib.hid ((HL.out.on HK3.out).keep HK4.out N2.out)
   have HKr := Lib.hid ((HK.out.on HK3.out).keep HK4.out N3.out)
   have k5 := kset wr ⟨T, 0, none⟩ (.int .i64 1)
   have NT : Hid (NB ≠ T) := by
    show NB ≠ T
    have h1 := HT.out.lt
    have h2 := HNB.out
    omega
   have HL5 := HLr.out.keep k5 N4.out
   have HN5 := HNr.out.keep k5 NT.out
   have HLn := Lib.hid (line_ex _ K (HKr.out.keep k5 N5.out))
   have HT5 := Lib.hid (HTr.out.put 0 (.int .i64 1))
   have HK5 := Lib.hid (((HK3.out.of_none (F := fun g => g = A ∨ g = T)).trans (HK4.out.mono (fun g _ hg => .inl hg))).trans (k5.mono (fun g _ hg => .inr hg)))
   have t0 := HTr.out.cell 0 _ rfl
   have tf := HTr.out.fz 0
   have tl := HTr.out.lt
   have l0 := HL5.cell 0 _ rfl
   have ll := HL5.lt
   have m0 := HN5.cell 0 _ rfl
   have m1 := HN5.cell 1 _ rfl
   have m2 := HN5.cell 2 _ rfl
   have ml := HN5.lt
   unfold lineF at l0
   clear k5 HL5 HN5
   go_wp2_with (go_at_call 34; go_loud (refine HLn.out.mono ?_); rintro e w6 ⟨rfl, hk6⟩)
   go_ret
   exact ⟨rfl, HK5.out.trans hk6.of_none, HT5.out.on hk6⟩
def res0 : List Value := [.string ⟨#[]⟩, .string ⟨#[]⟩, .int .i64 0]
def tellF (A T Lb : Nat) : Value := .func (.func 36) #[] #[.pointer (some ⟨A, 0, none⟩), .pointer (some ⟨T, 0, none⟩), .pointer (some ⟨Lb, 0, none⟩)]
def inEx (L : Nat) : Value := .iface 27 (.agg #[.string ⟨#[]⟩, .int .i64 0, .slice (some ⟨L, 0, none⟩) 1 1])
theorem each_ex (w : World) (A T Lb K L : Nat) {S : Nat -> Prop} {p : Option Addr} {c : Nat} (hS : SlAt encStr S w p c [⟨#[97]⟩]) (hE : Ex22 w L) (hA : Bk w A (accX 0)) (hT : Bk w T [.int .i64 0]) (hL : Bk w Lb [lineF K]) (hK : Bk w K [.string ⟨#[108]⟩]) (ht : As22 w) (n1 : T ≠ A) (n2 : Lb ≠ A) (n3 : K ≠ A) (n4 : Lb ≠ T) (n5 : K ≠ T) :
 Calls Tryz.prog 14 #[.string ⟨#[119, 99]⟩, .slice p 1 c, inEx L, tellF A T Lb] w fun e w' => e = .returned (.agg #[.string ⟨#[50, 32, 97, 10]⟩, .string ⟨#[]⟩, .int .i64 0]) ∧ Keeps (fun g => g = A ∨ g = T) w w' ∧ Bk w' T [.int .i64 1] := by
 obtain ⟨g, o, rfl, _, hgl, c0⟩ := hS.str (i := 0) (x := ⟨#[97]⟩) rfl
 have hcp := hS.cap
 have hmx := hS.max
 unfold maxLen at hmx
 simp only [List.length_cons, List.length_nil, Nat.zero_add] at hcp
 simp only [Nat.add_zero] at c0
 have HC0 : Hid (w.cell? ⟨g, o, none⟩ = some (.string ⟨#[97]⟩)) := c0
 have k1 : Keeps NoB w (w.alloc (.cells #[.string ⟨#[]⟩, .string ⟨#[]⟩, .int .i64 0] 31)) := (Keeps.refl _ _).alloc _
 have k2 : Keeps NoB (w.alloc (.cells #[.string ⟨#[]⟩, .string ⟨#[]⟩, .int .i64 0] 31)) ((w.alloc (.cells #[.string ⟨#[]⟩, .string ⟨#[]⟩, .int .i64 0] 31)).alloc (.cells #[.string ⟨#[]⟩, .string ⟨#[]⟩, .int .i64 0] 31)) := (Keeps.refl _ _).alloc _
 have HR0 := Lib.hid (Bk.new k2)
 have hr1 := Bk.new (Keeps.refl NoB ((w.alloc (.cells #[.string ⟨#[]⟩, .string ⟨#[]⟩, .int .i64 0] 31)).alloc (.cells #[.string ⟨#[]⟩, .string ⟨#[]⟩, .int .i64 0] 31)))
 rw [show (w.alloc (.cells #[.string ⟨#[]⟩, .string ⟨#[]⟩, .int .i64 0] 31)).heap.size = w.heap.size + 1 by simp] at hr1
 have HR1 := Lib.hid hr1
 have HK2 := Lib.hid (k1.trans k2)
 have hAl := hA.lt
 have hTl := hT.lt
 have hLl := hL.lt
 have hKl := hK.lt
 have HTell : Hid (∀ w4 : World, Keeps NoB w w4 -> Calls Tryz.prog 36 #[.string xyB, .string ⟨#[97]⟩, .pointer (some ⟨A, 0, none⟩), .pointer (some ⟨T, 0, none⟩), .pointer (some ⟨Lb, 0, none⟩)] w4 fun e w' => e = .returned (.string ⟨#[50, 32, 97, 10]⟩) ∧ Keeps (fun g => g = A ∨ g = T) w4 w' ∧ Bk w' T [.int .i64 1]) := Lib.hid fun w4 k => tell_ex w4 A T Lb K (hA.on k) (hT.on k) (hL.on k) (hK.on k) (ht.on k) n1 n2 n3 n4 n5
 have HRead : Hid (∀ w4 : World, Keeps NoB w w4 -> Calls Tryz.prog 31 #[.string ⟨#[97]⟩, inEx L] w4 fun e w' => e = .returned (.tuple #[.string xyB, .int .i64 0]) ∧ Keeps NoB w4 w') := Lib.hid fun w4 k => read_ex w4 L (Bk.on hE k)
 unfold inEx at HRead ⊢
 have HX : Hid ((⟨#[]⟩ ++ ⟨#[50, 32, 97, 10]⟩ : ByteArray) = ⟨#[50, 32, 97, 10]⟩) := Lib.hid (by decide)
 have a0 := c0
 clear hS hE hA hT hL hK ht n1 n2 n3 n4 n5 k1 k2 hr1 c0
 unfold tellF
 go_enter Tryz.func14, Tryz.ntmps14
 go_upto_region 10 with fail
 clear a0
 generalize (w.alloc (.cells #[.string ⟨#[]⟩, .string ⟨#[]⟩, .int .i64 0] 31)).alloc (.cells #[.string ⟨#[]⟩, .string ⟨#[]⟩, .int .i64 0] 31) = w2 at *
 go_loopw [47] (fun i wr => (i = .int .i64 0 ∧ wr = w2) ∨ (i = .int .i64 1 ∧ Bk wr (w.heap.size + 1) [.string ⟨#[50, 32, 97, 10]⟩, .string ⟨#[]⟩, .int .i64 0] ∧ Bk wr w.heap.size res0 ∧ Bk wr T [.int .i64 1] ∧ Keeps (fun g => g = A ∨ g = T ∨ g = w.heap.size + 1) w2 wr)) (fun i _ => 2 - (intOf i).toNat)
 case atStart => exact .inl ⟨rfl, rfl⟩
 case round =>
  rcases hrel with ⟨rfl, hw⟩ | ⟨rfl, hb1, hb0, hbt, hk⟩
  ·obtain rfl : w2 = wr := hw.symm
   have a0 : w2.cell? ⟨g, o, none⟩ = some (.string ⟨#[97]⟩) := (HK2.out.cell (p := ⟨g, o, none⟩) hgl (fun h => h)).trans HC0.out
   go_upto_region 17 with (first | (go_at_call 31; go_loud (refine (HRead.out _ HK2.out).mono ?_); rintro e w4 ⟨rfl, hk4⟩) | (go_at_call 36; go_loud (refine (HTell.out _ (HK2.out.trans hk4)).mono ?_); rintro e w5 ⟨rfl, hk5, hb5⟩))
   have n1 : ¬ (w.heap.size + 1 = A ∨ w.heap.size + 1 = T) := by omega
   have n0 : ¬ (w.heap.size = A ∨ w.heap.size = T) := by omega
   have hr1 := (HR1.out.on hk4).keep hk5 n1
   have hr0 := (HR0.out.on hk4).keep hk5 n0
   have r0 := hr1.cell 0 _ rfl
   have rf := hr1.fz 0
   have rl := hr1.lt
   have HB1 := Lib.hid (hr1.put 0 (.string (⟨#[]⟩ ++ ⟨#[50, 32, 97, 10]⟩)))
   have k6 := kset w5 ⟨w.heap.size + 1, 0, none⟩ (.string (⟨#[]⟩ ++ ⟨#[50, 32, 97, 10]⟩))
   have HB0 := Lib.hid (hr0.keep k6 (by show ¬ w.heap.size = w.heap.size + 1; omega))
   have HBT := Lib.hid (hb5.keep k6 (by show ¬ T = w.heap.size + 1; omega))
   have HK6 := Lib.hid (((hk4.of_none (F := fun g => g = A ∨ g = T ∨ g = w.heap.size + 1)).trans (hk5.mono (fun g _ hg => hg.elim .inl (fun h => .inr (.inl h))))).trans (k6.mono (fun g _ hg => .inr (.inr hg))))
   rw [HX.out] at HB1 HB0 HBT HK6
   clear k6 hr0 hr1 hb5 hk5
   go_wp2_with fail
   go_roundw
   case rel => exact .inr ⟨by go_num, HB1.out, HB0.out, HBT.out, HK6.out⟩
   case measure => simp [intOf]
  ·have r0 := hb1.cell 0 _ rfl
   have r1 := hb1.cell 1 _ rfl
   have r2 := hb1.cell 2 _ rfl
   have rl := hb1.lt
   have s0 := hb0.cell 0 _ rfl
   have s1 := hb0.cell 1 _ rfl
   have s2 := hb0.cell 2 _ rfl
   have sf := hb0.fz
   have sl := hb0.lt
   have HBT := Lib.hid hbt
   have HKr := Lib.hid hk
   clear hb1 hb0 hbt hk
   go_wp2_with fail
   refine bodyPost_ret (v := .agg #[.string ⟨#[50, 32, 97, 10]⟩, .string ⟨#[]⟩, .int .i64 0]) ?_ rfl ?_
   ·rw [results_cell_oneF rfl]; go_simp
   have k3 := kset wr ⟨w.heap.size, 0, none⟩ (.string ⟨#[50, 32, 97, 10]⟩)
   have k4 := kset (wr.setCell ⟨w.heap.size, 0, none⟩ (.string ⟨#[50, 32, 97, 10]⟩)) ⟨w.heap.size, 1, none⟩ (.string ⟨#[]⟩)
   have k5 := kset ((wr.setCell ⟨w.heap.size, 0, none⟩ (.string ⟨#[50, 32, 97, 10]⟩)).setCell ⟨w.heap.size, 1, none⟩ (.string ⟨#[]⟩)) ⟨w.heap.size, 2, none⟩ (.int .i64 0)
   have k6 := (k3.trans k4).trans k5
   refine ⟨rfl, ?_, HBT.out.keep k6 (by show ¬ T = w.heap.size; omega)⟩
   refine ((HK2.out.of_none (F := fun g => g = A ∨ g = T)).step HKr.out (fun g hg => ?_)).step k6 (fun g hg => .inr (Nat.le_of_eq hg.symm))
   rcases hg with h | h | h
   ·exact .inl (.inl h)
   ·exact .inl (.inr h)
   ·exact .inr (by omega)
theorem lit_strF (wx : World) (zs : Array Value) (bs : List UInt8) (h : zs.toList = bs.map fun b => Value.int .u8 (b.toNat : Int)) :
 (convert 28 9 (.slice (some ⟨wx.heap.size, 0, none⟩) bs.length bs.length)).run Tryz.prog (wx.alloc (.cells zs 5)) = .ok (.string ⟨bs.toArray⟩) (wx.alloc (.cells zs 5)) := by
 exact run_convert_bytes_back (P := Tryz.prog) (wx.alloc (.cells zs 5)) 28 9 5 ⟨wx.heap.size, 0, none⟩ bs.length bs Tryz.underlying28 Tryz.underlying5 Tryz.underlying9 (fun j hj => by
  rw [add_lit, Nat.zero_add]
  refine (Bk.new (Keeps.refl NoB (wx.alloc (.cells zs 5)))).cell j _ ?_
  rw [h, List.getElem?_map, List.getElem?_eq_getElem hj]
  rfl)
theorem count_ex (w : World) (L : Nat) {S : Nat -> Prop} {p : Option Addr} {c : Nat} (hS : SlAt encStr S w p c [⟨#[45, 108]⟩, ⟨#[97]⟩]) (hE : Ex22 w L) (ht : As22 w) :
 Calls Tryz.prog 17 #[.slice p 2 c, inEx L] w fun e w' => e = .returned (.agg #[.string ⟨#[50, 32, 97, 10]⟩, .string ⟨#[]⟩, .int .i64 0]) ∧ Keeps NoB w w' := by
 obtain ⟨g, o, rfl, _, hgl, c0⟩ := hS.str (i := 0) (x := ⟨#[45, 108]⟩) rfl
 have hcp := hS.cap
 have hmx := hS.max
 unfold maxLen at hmx
 simp only [List.length_cons, List.length_nil, Nat.zero_add] at hcp
 simp only [Nat.add_zero] at c0
 have hconv := fun wx => Lib.run_convert_string_bytes (P := Tryz.prog) wx 9 28 5 ⟨#[108]⟩ Tryz.underlying9 Tryz.underlying28 Tryz.underlying5
 have hex : (⟨#[45, 108]⟩ : ByteArray).extract 1 2 = ⟨#[108]⟩ := by decide
 have hcpn := hS.cap
 have hsub := hS.sub 1 2 (by omega) (by simp)
 rw [show ([(⟨#[45, 108]⟩ : ByteArray), ⟨#[97]⟩].take 2).drop 1 = [⟨#[97]⟩] from rfl] at hsub
 obtain ⟨vg, vo, hvp, _, hvl, _⟩ := hsub.str (i := 0) (x := ⟨#[97]⟩) rfl
 rw [show encStr.k = 1 from rfl] at hvp
 have hsl1 : ∀ wx : World, (Instr.slice 29 (.slice (some ⟨g, o, none⟩) 2 c) (some (.int .i64 1)) none none).run Tryz.prog wx = .ok (.slice (some ⟨vg, vo, none⟩) 1 (c - 1)) wx := fun wx => by
  rw [<- hvp]
  exact run_slice_l (P := Tryz.prog) 29 9 1 Tryz.underlying29 (by kernel_rfl) (some ⟨g, o, none⟩) 2 c 1 (by omega) wx (by omega)
 rw [show encStr.k = 1 from rfl, hvp] at hsub
 have HSub := Lib.hid hsub
 have HS1 := Lib.hid hsl1
 have HC0 : Hid (w.cell? ⟨g, o, none⟩ = some (.string ⟨#[45, 108]⟩)) := c0
 have HE := Lib.hid hE
 have HTb := Lib.hid ht
 have k1 : Keeps NoB w (w.alloc (.cells #[.string ⟨#[]⟩, .string ⟨#[]⟩, .int .i64 0] 31)) := (Keeps.refl _ _).alloc _
 have k2 : Keeps NoB (w.alloc (.cells #[.string ⟨#[]⟩, .string ⟨#[]⟩, .int .i64 0] 31)) ((w.alloc (.cells #[.string ⟨#[]⟩, .string ⟨#[]⟩, .int .i64 0] 31)).alloc (.cells #[.string ⟨#[]⟩] 9)) := (Keeps.refl _ _).alloc _
 obtain ⟨hsl, hkc⟩ := conv_sl ((w.alloc (.cells #[.string ⟨#[]⟩, .string ⟨#[]⟩, .int .i64 0] 31)).alloc (.cells #[.string ⟨#[]⟩] 9)) ⟨#[108]⟩ (by decide)
 have hz1 : (w.alloc (.cells #[.string ⟨#[]⟩, .string ⟨#[]⟩, .int .i64 0] 31)).heap.size = w.heap.size + 1 := by simp
 have hz2 : ((w.alloc (.cells #[.string ⟨#[]⟩, .string ⟨#[]⟩, .int .i64 0] 31)).alloc (.cells #[.string ⟨#[]⟩] 9)).heap.size = w.heap.size + 1 + 1 := by simp
 have HR0 := Lib.hid (Bk.new (k2.trans hkc))
 have hkb := Bk.new hkc
 rw [hz1] at hkb
 have HKb := Lib.hid hkb
 have t0 : (Lib.bytesWorld ((w.alloc (.cells #[.string ⟨#[]⟩, .string ⟨#[]⟩, .int .i64 0] 31)).alloc (.cells #[.string ⟨#[]⟩] 9)) 5 ⟨#[108]⟩).cell? ⟨w.heap.size + 1 + 1, 0, none⟩ = some (.int .u8 108) := by
  obtain ⟨g, off, e, _, _, hcc⟩ := hsl.at (i := 0) (x := 108) rfl
  cases e
  have := hcc 0 _ rfl
  rw [hz2] at this
  simpa [encU8] using this
 have HWB := Lib.hid ((k1.trans k2).trans hkc)
 have hcp2 := hsl.cap
 have hmx2 := hsl.max
 unfold maxLen at hmx2
 have HI0 := Lib.hid (fun wx => ib_any ⟨#[108, 119, 99]⟩ 108 wx)
 rw [show bIdx (⟨#[108, 119, 99]⟩ : ByteArray) ((108 : Int)).toNat.toUInt8 = 0 by decide] at HI0
 have HI1 := Lib.hid (fun wx => ib_any ⟨#[108]⟩ 108 wx)
 rw [show bIdx (⟨#[108]⟩ : ByteArray) ((108 : Int)).toNat.toUInt8 = 0 by decide] at HI1
 have HI2 := Lib.hid (fun wx => ib_any ⟨#[108]⟩ 119 wx)
 rw [show bIdx (⟨#[108]⟩ : ByteArray) ((119 : Int)).toNat.toUInt8 = -1 by decide] at HI2
 have HI3 := Lib.hid (fun wx => ib_any ⟨#[108]⟩ 99 wx)
 rw [show bIdx (⟨#[108]⟩ : ByteArray) ((99 : Int)).toNat.toUInt8 = -1 by decide] at HI3
 have HX : Hid ((⟨#[]⟩ ++ ⟨#[108]⟩ : ByteArray) = ⟨#[108]⟩) := Lib.hid (by decide)
 have HCp := Lib.hid hcp
 have HMx : Hid (c <= 2 ^ 63 - 1) := Lib.hid hmx
 clear hS hE ht hsub hvp hsl1 k1 k2 hsl hkc hz1 hz2 hkb
 go_enter Tryz.func17, Tryz.ntmps17
 go_upto_region 5 with fail
 clear c0 hconv
 generalize Lib.bytesWorld ((w.alloc (.cells #[.string ⟨#[]⟩, .string ⟨#[]⟩, .int .i64 0] 31)).alloc (.cells #[.string ⟨#[]⟩] 9)) 5 ⟨#[108]⟩ = wB at *
 go_loop [43] (fun i => i = .int .i64 0 ∨ i = .int .i64 1) (fun i => 2 - (intOf i).toNat)
 case atStart => exact .inl rfl
 case round =>
  rcases hrel with rfl | rfl
  ·go_wp2_with (go_at_call 33; go_loud (refine (HI0.out _).mono ?_); rintro e w3 ⟨rfl, rfl⟩)
   go_round
   case rel => exact .inr (by go_num)
   case measure => simp [intOf]
  ·clear t0
   have hcc : (convert 28 28 (.slice (some ⟨wB.heap.size, 0, none⟩) 3 3)).run Tryz.prog (wB.alloc (.cells #[.int .u8 108, .int .u8 119, .int .u8 99] 5)) = .ok (.slice (some ⟨wB.heap.size, 0, none⟩) 3 3) (wB.alloc (.cells #[.int .u8 108, .int .u8 119, .int .u8 99] 5 (3, 4))) := Lib.run_convert_bytes_const wB 28 5 _ 3 3 Tryz.underlying28 Tryz.underlying5
   have m0 : (wB.alloc (.cells #[.int .u8 108, .int .u8 119, .int .u8 99] 5 (3, 4))).cell? ⟨wB.heap.size, 0, none⟩ = some (.int .u8 108) := by rw [cell_of_row _ _ 0 _ _ (3, 4) (heap_alloc_new wB _)]; rfl
   have m1 : (wB.alloc (.cells #[.int .u8 108, .int .u8 119, .int .u8 99] 5 (3, 4))).cell? ⟨wB.heap.size, 1, none⟩ = some (.int .u8 119) := by rw [cell_of_row _ _ 1 _ _ (3, 4) (heap_alloc_new wB _)]; rfl
   have m2 : (wB.alloc (.cells #[.int .u8 108, .int .u8 119, .int .u8 99] 5 (3, 4))).cell? ⟨wB.heap.size, 2, none⟩ = some (.int .u8 99) := by rw [cell_of_row _ _ 2 _ _ (3, 4) (heap_alloc_new wB _)]; rfl
   have HM0 := Lib.hid m0
   have HM1 := Lib.hid m1
   have HM2 := Lib.hid m2
   have ml : wB.heap.size < (wB.alloc (.cells #[.int .u8 108, .int .u8 119, .int .u8 99] 5 (3, 4))).heap.size := by simp
   have HMl := Lib.hid ml
   have kc : Keeps NoB wB (wB.alloc (.cells #[.int .u8 108, .int .u8 119, .int .u8 99] 5 (3, 4))) := (Keeps.refl _ _).alloc _
   have HKc := Lib.hid (HKb.out.on kc)
   have HRc := Lib.hid (HR0.out.on kc)
   have HWC := Lib.hid (HWB.out.trans kc)
   have hbs := HKb.out.lt
   have HBs := Lib.hid hbs
   clear kc m0 m1 m2 hbs
   go_upto_region 11 with fail
   clear hcc ml
   generalize wB.alloc (.cells #[.int .u8 108, .int .u8 119, .int .u8 99] 5 (3, 4)) = wC at *
   generalize wB.heap.size = NB at *
   go_loopw [55] (fun i wr => ∃ k : Nat, k <= 3 ∧ i = .int .i64 k ∧ Bk wr (w.heap.size + 1) [.string (if k = 0 then ⟨#[]⟩ else ⟨#[108]⟩)] ∧ Keeps (fun g => g = w.heap.size + 1) wC wr) (fun i _ => 4 - (intOf i).toNat)
   case atStart => exact ⟨0, by omega, rfl, HKc.out, Keeps.refl _ _⟩
   case round =>
    obtain ⟨k, hk, rfl, hb, hkw⟩ := hrel
    have HB := Lib.hid hb
    have HKw := Lib.hid hkw
    have hne : ¬ NB = w.heap.size + 1 := by have := HBs.out; omega
    have c0 : wr.cell? ⟨g, o, none⟩ = some (.string ⟨#[45, 108]⟩) := (hkw.cell (p := ⟨g, o, none⟩) (Nat.lt_of_lt_of_le hgl HWC.out.size) (fun e => by have e' : g = w.heap.size + 1 := e; omega)).trans ((HWC.out.cell (p := ⟨g, o, none⟩) hgl (fun h => h)).trans HC0.out)
    have HM0r : Hid (wr.cell? ⟨NB, 0, none⟩ = some (.int .u8 108)) := Lib.hid ((hkw.cell (p := ⟨NB, 0, none⟩) HMl.out hne).trans HM0.out)
    have HM1r : Hid (wr.cell? ⟨NB, 1, none⟩ = some (.int .u8 119)) := Lib.hid ((hkw.cell (p := ⟨NB, 1, none⟩) HMl.out hne).trans HM1.out)
    have HM2r : Hid (wr.cell? ⟨NB, 2, none⟩ = some (.int .u8 99)) := Lib.hid ((hkw.cell (p := ⟨NB, 2, none⟩) HMl.out hne).trans HM2.out)
    clear hb hkw
    rcases (show k = 0 ∨ k = 1 ∨ k = 2 ∨ k = 3 by omega) with rfl | rfl | rfl | rfl
    ·have hb : Bk wr (w.heap.size + 1) [.string ⟨#[]⟩] := HB.out
     have m0 := HM0r.out
     have b0 := hb.cell 0 _ rfl
     have bf := hb.fz 0
     have bl := hb.lt
     have hlit : (convert 28 9 (.slice (some ⟨wr.heap.size, 0, none⟩) 1 1)).run Tryz.prog (wr.alloc (.cells #[.int .u8 108] 5)) = .ok (.string ⟨#[108]⟩) (wr.alloc (.cells #[.int .u8 108] 5)) := lit_strF wr #[.int .u8 108] [108] rfl
     have HB2 := Lib.hid ((hb.put 0 (.string (⟨#[]⟩ ++ ⟨#[108]⟩))).on ((Keeps.refl NoB _).alloc (.cells #[.int .u8 108] 5)))
     have HK2 := Lib.hid ((HKw.out.trans (kset wr ⟨w.heap.size + 1, 0, none⟩ (.string (⟨#[]⟩ ++ ⟨#[108]⟩)))).alloc (.cells #[.int .u8 108] 5))
     clear hb
     go_wp2_with (go_at_call 33; go_loud (refine (HI1.out _).mono ?_); rintro e w3 ⟨rfl, rfl⟩)
     go_roundw
     case rel => exact ⟨1, by omega, by go_num, by have h2 := HB2.out; rw [HX.out] at h2 ⊢; exact h2, HK2.out⟩
     case measure => simp [intOf]
    ·have m1 := HM1r.out
     go_wp2_with (go_at_call 33; go_loud (refine (HI2.out _).mono ?_); rintro e w3 ⟨rfl, rfl⟩)
     go_roundw
     case rel => exact ⟨2, by omega, by go_num, HB.out, HKw.out⟩
     case measure => simp [intOf]
    ·have m2 := HM2r.out
     go_wp2_with (go_at_call 33; go_loud (refine (HI3.out _).mono ?_); rintro e w3 ⟨rfl, rfl⟩)
     go_roundw
     case rel => exact ⟨3, by omega, by go_num, HB.out, HKw.out⟩
     case measure => simp [intOf]
    ·have hsl1 := HS1.out
     have hw1 : w.heap.size + 1 < wr.heap.size := HB.out.lt
     have d1 : Keeps NoB wr (wr.alloc (.cells #[.int .i64 0, .int .i64 0, .int .i64 0] 70)) := (Keeps.refl _ _).alloc _
     have d2 : Keeps NoB (wr.alloc (.cells #[.int .i64 0, .int .i64 0, .int .i64 0] 70)) ((wr.alloc (.cells #[.int .i64 0, .int .i64 0, .int .i64 0] 70)).alloc (.cells #[.int .i64 0] 3)) := (Keeps.refl _ _).alloc _
     have d3 : Keeps NoB ((wr.alloc (.cells #[.int .i64 0, .int .i64 0, .int .i64 0] 70)).alloc (.cells #[.int .i64 0] 3)) (((wr.alloc (.cells #[.int .i64 0, .int .i64 0, .int .i64 0] 70)).alloc (.cells #[.int .i64 0] 3)).alloc (.cells #[.func (.func 34) #[] #[.pointer (some ⟨w.heap.size + 1, 0, none⟩)]] 72)) := (Keeps.refl _ _).alloc _
     have z1 : (wr.alloc (.cells #[.int .i64 0, .int .i64 0, .int .i64 0] 70)).heap.size = wr.heap.size + 1 := by simp
     have z2 : ((wr.alloc (.cells #[.int .i64 0, .int .i64 0, .int .i64 0] 70)).alloc (.cells #[.int .i64 0] 3)).heap.size = wr.heap.size + 1 + 1 := by simp
     have hA := Bk.new (d2.trans d3)
     have hT := Bk.new d3
     rw [z1] at hT
     have hL := Bk.new (Keeps.refl NoB (((wr.alloc (.cells #[.int .i64 0, .int .i64 0, .int .i64 0] 70)).alloc (.cells #[.int .i64 0] 3)).alloc (.cells #[.func (.func 34) #[] #[.pointer (some ⟨w.heap.size + 1, 0, none⟩)]] 72)))
     rw [z2] at hL
     have kd := (d1.trans d2).trans d3
     have hKl : Bk (((wr.alloc (.cells #[.int .i64 0, .int .i64 0, .int .i64 0] 70)).alloc (.cells #[.int .i64 0] 3)).alloc (.cells #[.func (.func 34) #[] #[.pointer (some ⟨w.heap.size + 1, 0, none⟩)]] 72)) (w.heap.size + 1) [.string ⟨#[108]⟩] := HB.out.on kd
     have HKD := Lib.hid ((HWC.out.trans (Keeps.refl _ _)).step (HKw.out.trans kd.of_none) (fun g hg => .inr (by have e : g = w.heap.size + 1 := hg; omega)))
     have hSD : SlAt encStr S (((wr.alloc (.cells #[.int .i64 0, .int .i64 0, .int .i64 0] 70)).alloc (.cells #[.int .i64 0] 3)).alloc (.cells #[.func (.func 34) #[] #[.pointer (some ⟨w.heap.size + 1, 0, none⟩)]] 72)) (some ⟨vg, vo, none⟩) (c - 1) [⟨#[97]⟩] := HSub.out.keepN HKD.out
     have hED : Ex22 (((wr.alloc (.cells #[.int .i64 0, .int .i64 0, .int .i64 0] 70)).alloc (.cells #[.int .i64 0] 3)).alloc (.cells #[.func (.func 34) #[] #[.pointer (some ⟨w.heap.size + 1, 0, none⟩)]] 72)) L := Bk.on HE.out HKD.out
     have HEa := Lib.hid (each_ex _ wr.heap.size (wr.heap.size + 1) (wr.heap.size + 1 + 1) (w.heap.size + 1) L hSD hED hA hT hL hKl (HTb.out.on HKD.out) (by omega) (by omega) (by omega) (by omega) (by omega))
     unfold tellF at HEa
     have HRD := Lib.hid ((HRc.out.keep HKw.out (by show ¬ w.heap.size = w.heap.size + 1; omega)).on kd)
     clear d1 d2 d3 z1 z2 hA hT hL kd hKl hSD hED
     go_upto_region 21 with (go_at_call 14; go_loud (refine HEa.out.mono ?_); rintro e w6 ⟨rfl, hk6, hb6⟩)
     have ka : Keeps NoB w6 (w6.alloc (.cells #[.string ⟨#[50, 32, 97, 10]⟩, .string ⟨#[]⟩, .int .i64 0] 31)) := (Keeps.refl _ _).alloc _
     have hr := Bk.new (Keeps.refl NoB (w6.alloc (.cells #[.string ⟨#[50, 32, 97, 10]⟩, .string ⟨#[]⟩, .int .i64 0] 31)))
     have hs := ((HRD.out.keep hk6 (by show ¬ (w.heap.size = wr.heap.size ∨ w.heap.size = wr.heap.size + 1); omega)).on ka)
     have ht := hb6.on ka
     have t0 := ht.cell 0 _ rfl
     have tl := ht.lt
     have r0 := hr.cell 0 _ rfl
     have r1 := hr.cell 1 _ rfl
     have r2 := hr.cell 2 _ rfl
     have rl := hr.lt
     have s0 := hs.cell 0 _ rfl
     have s1 := hs.cell 1 _ rfl
     have s2 := hs.cell 2 _ rfl
     have sf := hs.fz
     have sl := hs.lt
     have HK7 := Lib.hid ((HKD.out.step hk6 (fun g hg => .inr (by rcases hg with h | h <;> omega))).trans ka)
     clear hr hs ht hk6 hb6 ka hw1
     generalize w6.alloc (.cells #[.string ⟨#[50, 32, 97, 10]⟩, .string ⟨#[]⟩, .int .i64 0] 31) = w7 at *
     generalize w6.heap.size = RB at *
     go_wp2_with fail
     refine bodyPost_ret (v := .agg #[.string ⟨#[50, 32, 97, 10]⟩, .string ⟨#[]⟩, .int .i64 0]) ?_ rfl ?_
     ·rw [results_cell_oneF rfl]; go_simp
     refine ⟨rfl, ?_⟩
     exact ((HK7.out.step (kset w7 ⟨w.heap.size, 0, none⟩ (.string ⟨#[50, 32, 97, 10]⟩)) (fun g hg => .inr (Nat.le_of_eq hg.symm))).step (kset _ ⟨w.heap.size, 1, none⟩ _) (fun g hg => .inr (Nat.le_of_eq hg.symm))).step (kset _ ⟨w.heap.size, 2, none⟩ _) (fun g hg => .inr (Nat.le_of_eq hg.symm))
set_option maxHeartbeats 8000000
theorem r8Of_any (w : World) {S : Nat -> Prop} {p : Option Addr} {cap : Nat} (l : List UInt8) (hS : SlAt encU8 S w p cap l) (hl : l.length <= 1000000) :
 Calls Tryz.prog 10 #[.slice p l.length cap] w fun e w' => e = .returned (.int .u32 ((4294967295 - crcL (crcF 0 l) l.length : Nat) : Int)) ∧ w = w' := by
 have hcap := hS.cap
 have hmax := hS.max
 unfold maxLen at hmax
 have HS := Lib.hid hS
 have HC := Lib.hid (fun k : Nat => crcF_lt (show 0 < 4294967296 by decide) (l.take k))
 have HSh := Lib.hid (fun (c b : Nat) (hc : c < 4294967296) (hb : b < 256) (w1 : World) => byteIn_any c b hc hb w1)
 clear hS
 go_enter Tryz.func10, Tryz.ntmps10
 go_wp2
 go_loop [3, 4] (fun cc i => ∃ k : Nat, k <= l.length ∧ i = .int .i64 k ∧ cc = .int .u32 ((crcF 0 (l.take k) : Nat) : Int)) (fun _ i => l.length + 1 - (intOf i).toNat)
 case atStart => exact ⟨0, Nat.zero_le _, rfl, rfl⟩
 case round =>
  obtain ⟨k, hk, rfl, rfl⟩ := hrel
  by_cases hlt : k < l.length
  ·obtain ⟨b, hx⟩ : ∃ b, l[k]? = some b := ⟨_, List.getElem?_eq_getElem hlt⟩
   obtain ⟨g, off, rfl, _, hg, hcc⟩ := HS.out.at hx
   have c0 : w.cell? ⟨g, off + k, none⟩ = some (.int .u8 ((b.toNat : Nat) : Int)) := by
    have := hcc 0 _ rfl
    simpa [encU8] using this
   have HSs := Lib.hid (crcF_succ 0 l hx)
   have hlc := HC.out k
   have HSh2 := Lib.hid (fun w1 : World => HSh.out _ _ hlc b.toNat_lt w1)
   clear hx hcc
   generalize crcB (crcF 0 (l.take k)) b.toNat = y at *
   generalize crcF 0 (l.take k) = x at *
   generalize b.toNat = bb at *
   go_wp2_with (go_at_call 23; go_loud (refine (HSh2.out _).mono ?_); rintro e w1 ⟨rfl, rfl⟩)
   go_round
   case rel => exact ⟨k + 1, by omega, by go_num, by rw [HSs.out]⟩
   case measure => (simp [intOf]) <;> omega
  ·obtain rfl : k = l.length := by omega
   have hcl := HC.out l.length
   rw [List.take_length] at hcl ⊢
   obtain ⟨c, hcc⟩ : ∃ c, crcF 0 l = c := ⟨_, rfl⟩
   rw [hcc] at hcl ⊢
   obtain ⟨n, hn⟩ : ∃ n, l.length = n := ⟨_, rfl⟩
   have HN : Hid (n <= 1000000) := by show n <= 1000000; omega
   go_upto_region 7 with fail
   clear HS HC hlt hk
   go_loop [3, 5] (fun cc nn => ∃ c' n' : Nat, n' <= n ∧ c' < 4294967296 ∧ cc = .int .u32 (c' : Int) ∧ nn = .int .i64 (n' : Int) ∧ crcL c' n' = crcL c n) (fun _ nn => (intOf nn).toNat)
   case atStart => exact ⟨c, n, Nat.le_refl _, hcl, rfl, rfl, rfl⟩
   case round =>
    obtain ⟨c', n', hn', hc', rfl, rfl, he⟩ := hrel
    have HE := Lib.hid he
    clear he
    by_cases h0 : 0 < n'
    ·have hz : (n' : Int) % 256 = ((n' % 256 : Nat) : Int) := by omega
     have hd : (n' : Int) / 256 = ((n' / 256 : Nat) : Int) := by omega
     have hm : n' % 256 < 256 := Nat.mod_lt _ (by decide)
     have HSh2 := Lib.hid (fun w1 : World => HSh.out c' (n' % 256) hc' hm w1)
     have hst := crcL_step c' h0
     have HSt := Lib.hid hst
     have hlb := crcB_lt c' (n' % 256)
     have hle : n' / 256 <= n' := Nat.div_le_self _ _
     have hlt2 : n' / 256 < n' := Nat.div_lt_self h0 (by decide)
     clear hst
     generalize crcB c' (n' % 256) = y at *
     generalize n' % 256 = m at *
     generalize n' / 256 = q at *
     go_wp2_with (go_at_call 23; go_loud (refine (HSh2.out _).mono ?_); rintro e w1 ⟨rfl, rfl⟩)
     go_round
     case rel => exact ⟨y, q, by omega, hlb, rfl, by first | rfl | (rw [hd]), HSt.out.symm.trans HE.out⟩
     case measure => first | (simp [intOf]; done) | (simp [intOf]; omega)
    ·obtain rfl : n' = 0 := by omega
     have he := HE.out
     rw [crcL_zero] at he
     have hcl2 := crcL_lt hcl n
     subst he
     go_wp2
     go_ret
     refine ⟨?_, rfl⟩
     show Ending.returned (Value.int .u32 _) = _
     congr 2
     omega
theorem dec_step {n m : Nat} {out : ByteArray} (h : Lib.decDigits n = Lib.decDigits m ++ out.data.toList) (hm : ¬ m < 10) : Lib.decDigits n = Lib.decDigits (m / 10) ++ (dgB (m % 10) ++ out).data.toList := by
 have he : Lib.decDigits m = Lib.decDigits (m / 10) ++ [UInt8.ofNat (48 + m % 10)] := by rw [Lib.decDigits, dif_neg hm]
 rw [h, he, List.append_assoc, ByteArray.data_append, Array.toList_append]
 rfl
theorem dec_end {n m : Nat} {out : ByteArray} (h : Lib.decDigits n = Lib.decDigits m ++ out.data.toList) (hm : m < 10) : dgB m ++ out = decB n := by
 apply ba_eq
 show _ = (Lib.decDigits n).toArray.toList
 rw [h, Lib.decDigits_one hm, ByteArray.data_append, Array.toList_append]
 rfl
theorem nd20 (u : Nat) (hu : u < 18446744073709551616) : Lib.nDigits u <= 20 := by
 rcases Nat.eq_zero_or_pos u with h | h
 ·rw [h]; unfold Lib.nDigits; simp
 ·have := Lib.numDigits_eq u h hu
  split at this <;> omega
theorem dec_out {n m : Nat} (hn : n < 18446744073709551616) {out : ByteArray} (h : Lib.decDigits n = Lib.decDigits m ++ out.data.toList) : out.size <= 20 := by
 have h1 := congrArg List.length h
 rw [List.length_append, Lib.decDigits_length, len_data] at h1
 have := nd20 n hn
 omega
theorem dgB_one (d : Nat) : (dgB d).size = 1 := rfl
theorem digits_any (n : Nat) (hn : n < 18446744073709551616) (w : World) :
 Calls Tryz.prog 9 #[.int .u64 (n : Int)] w fun e w' => e = .returned (.string (decB n)) ∧ Keeps NoB w w' := by
 have HD : Hid (∀ (m : Nat) (out : ByteArray), Lib.decDigits n = Lib.decDigits m ++ out.data.toList -> ¬ m < 10 -> Lib.decDigits n = Lib.decDigits (m / 10) ++ (dgB (m % 10) ++ out).data.toList) := Lib.hid fun m out h hm => dec_step h hm
 have HLit : Hid (∀ (q : Nat) (wx : World), q <= 9 -> (convert 28 9 (.slice (some ⟨wx.heap.size, 0, none⟩) 1 1)).run Tryz.prog (wx.alloc (.cells #[.int .u8 (48 + (q : Int))] 5)) = .ok (.string (dgB q)) (wx.alloc (.cells #[.int .u8 (48 + (q : Int))] 5))) := Lib.hid fun q wx hq => lit_strF wx #[.int .u8 (48 + (q : Int))] [(48 + q).toUInt8] (by
  have : ((48 + q).toUInt8.toNat : Int) = 48 + q := by
   have : (48 + q).toUInt8.toNat = (48 + q) % 256 := rfl
   rw [this]; omega
  simp [this]
  omega)
 go_enter Tryz.func9, Tryz.ntmps9
 go_wp2
 go_loopw [0, 3] (fun nn oo wr => ∃ (m : Nat) (out : ByteArray), m <= n ∧ nn = .int .u64 (m : Int) ∧ oo = .string out ∧ Lib.decDigits n = Lib.decDigits m ++ out.data.toList ∧ Keeps NoB w wr) (fun nn _ _ => (intOf nn).toNat)
 case atStart => exact ⟨n, ⟨#[]⟩, Nat.le_refl _, rfl, rfl, by simp, Keeps.refl _ _⟩
 case round =>
  rename_i wr
  obtain ⟨m, out, hm, rfl, rfl, hd, hk⟩ := hrel
  have HDd := Lib.hid hd
  have HK := Lib.hid hk
  have hz := dec_out hn hd
  clear hd hk
  by_cases h10 : m < 10
  ·have hi : ¬ (10 : Int) <= (m : Int) := by omega
   have hi2 : (m : Int) < 10 := by omega
   have hi3 : (m : Int) <= 9 := by omega
   have hlit := HLit.out m wr (by omega)
   have HE := Lib.hid (dec_end HDd.out h10)
   have hx1 := dgB_one m
   generalize dgB m = x at *
   go_wp2
   go_ret
   rw [HE.out]
   exact ⟨rfl, HK.out.alloc _⟩
  ·have hi : (10 : Int) <= (m : Int) := by omega
   have hq : (m : Int) % 10 = ((m % 10 : Nat) : Int) := by omega
   have hv : (m : Int) / 10 = ((m / 10 : Nat) : Int) := by omega
   have hq9 : m % 10 <= 9 := by omega
   have hq8 : ((m % 10 : Nat) : Int) <= 9 := by omega
   have hlit := HLit.out (m % 10) wr hq9
   have HE := Lib.hid (HD.out m out HDd.out h10)
   have hle : m / 10 <= m := Nat.div_le_self _ _
   have hlt : m / 10 < m := Nat.div_lt_self (by omega) (by decide)
   have hx1 := dgB_one (m % 10)
   generalize dgB (m % 10) = x at *
   generalize m % 10 = q at *
   generalize m / 10 = v at *
   go_wp2
   go_roundw
   case rel => exact ⟨v, x ++ out, by omega, by first | rfl | rw [hv], rfl, HE.out, HK.out.alloc _⟩
   case measure => first | (simp [intOf]; done) | (simp [intOf]; omega)
theorem conv_fz (w : World) (s : ByteArray) (j : Nat) (hj : j < s.size) : (Lib.bytesWorld w 5 s).frozen? ⟨w.heap.size, j, none⟩ = false := by
 have hbs : s.size <= (Lib.bytesCells w 5 s).size := by simp [Lib.bytesCells]
 unfold World.frozen?
 rw [Lib.bytesWorld_at_new]
 simp
 omega
structure Low (w w' : World) (P n k : Nat) (l : List UInt8) : Prop where
 len : l.length = n
 lt : P < w'.heap.size
 cell : ∀ (j : Nat) b, l[j]? = some b -> w'.cell? ⟨P, j, none⟩ = some (.int .u8 (b.toNat : Int))
 low : ∀ (j : Nat) b, j < k -> l[j]? = some b -> b.toNat < 128
 fz : ∀ j, j < n -> w'.frozen? ⟨P, j, none⟩ = false
 keeps : Keeps (fun g => g = P) w w'
theorem Low.next {w w' : World} {P n k : Nat} {l : List UInt8} (h : Low w w' P n k l) {b : UInt8} (hb : l[k]? = some b) (hl : b.toNat < 128) : Low w w' P n (k + 1) l :=
 ⟨h.len, h.lt, h.cell, fun j c hj hc => by
   rcases Nat.lt_or_ge j k with hlt | hge
   ·exact h.low j c hlt hc
   ·obtain rfl : j = k := by omega
    rw [hb] at hc
    cases hc
    exact hl, h.fz, h.keeps⟩
theorem Low.set {w w' : World} {P n k : Nat} {l : List UInt8} (h : Low w w' P n k l) (hk : k < n) : Low w (w'.setCell ⟨P, k, none⟩ (.int .u8 120)) P n (k + 1) (l.set k 120) := by
 have hk' : k < l.length := by rw [h.len]; exact hk
 have hold := h.cell k _ (List.getElem?_eq_getElem hk')
 refine ⟨by rw [List.length_set, h.len], by simpa using h.lt, fun j b hb => ?_, fun j b hj hb => ?_, fun j hj => (xrozen_set _ _ _ _).trans (h.fz j hj), h.keeps.trans (kset w' ⟨P, k, none⟩ (.int .u8 120))⟩
 ·by_cases e : k = j
  ·subst e
   rw [List.getElem?_set_self hk'] at hb
   cases hb
   exact World.cell?_setCell_same _ _ _ hold
  ·rw [List.getElem?_set_ne e] at hb
   rw [World.cell?_setCell_other _ _ _ _ (by (simp) <;> omega)]
   exact h.cell j b hb
 ·by_cases e : k = j
  ·subst e
   rw [List.getElem?_set_self hk'] at hb
   cases hb
   decide
  ·rw [List.getElem?_set_ne e] at hb
   exact h.low j b (by omega) hb
theorem plain_all (s : ByteArray) (w : World) (hs : s.size <= 1000000) :
 Calls Tryz.prog 62 #[.string s] w fun e w' => ∃ t : ByteArray, e = .returned (.string t) ∧ (t.size = s.size ∧ ∀ (j : Nat) b, t.data.toList[j]? = some b -> b.toNat < 128) ∧ Keeps NoB w w' := by
 have hconv := fun wx => Lib.run_convert_string_bytes (P := Tryz.prog) wx 9 28 5 s Tryz.underlying9 Tryz.underlying28 Tryz.underlying5
 have hl : s.data.toList.length = s.size := len_data s
 obtain ⟨hsl, hkc⟩ := conv_sl w s (by unfold maxLen; omega)
 have hlow : Low (Lib.bytesWorld w 5 s) (Lib.bytesWorld w 5 s) w.heap.size s.size 0 s.data.toList := ⟨hl, by rw [Lib.bytesWorld_size]; omega, fun j b hb => by
  obtain ⟨g, off, e, _, _, hcc⟩ := hsl.at hb
  cases e
  have := hcc 0 _ rfl
  simpa [encU8] using this, (fun j b hj => by omega), fun j hj => conv_fz w s j hj, Keeps.refl _ _⟩
 have hcp := hsl.cap
 have hmx := hsl.max
 unfold maxLen at hmx
 rw [hl] at hcp
 have HL := Lib.hid hlow
 have HK := Lib.hid hkc
 obtain ⟨n, hn⟩ : ∃ n, s.size = n := ⟨_, rfl⟩
 rw [hn] at hcp hs
 have HLw : Hid (Low (Lib.bytesWorld w 5 s) (Lib.bytesWorld w 5 s) w.heap.size n 0 s.data.toList) := by
  show Low _ _ _ _ _ _
  rw [<- hn]; exact hlow
 clear hsl hkc hlow HL hl
 go_enter Tryz.func62, Tryz.ntmps62
 go_upto_region 3 with fail
 clear hconv
 (try rw [hn])
 generalize grownCap w n 0 5 = cp at *
 generalize Lib.bytesWorld w 5 s = w2 at *
 generalize s.data.toList = l0 at *
 have HN := Lib.hid hn
 clear hn
 go_loopw [10] (fun i wr => ∃ (k : Nat) (l : List UInt8), k <= n ∧ i = .int .i64 k ∧ Low w2 wr w.heap.size n k l) (fun i _ => n + 1 - (intOf i).toNat)
 case atStart => exact ⟨0, l0, Nat.zero_le _, rfl, HLw.out⟩
 case round =>
  rename_i wr
  obtain ⟨k, l, hk, rfl, hlw⟩ := hrel
  have HLr := Lib.hid hlw
  have hpl := hlw.lt
  clear hlw
  by_cases hlt : k < n
  ·obtain ⟨b, hb⟩ : ∃ b, l[k]? = some b := ⟨_, List.getElem?_eq_getElem (by rw [HLr.out.len]; exact hlt)⟩
   have t0 := HLr.out.cell k b hb
   have tf := HLr.out.fz k hlt
   have HB := Lib.hid hb
   clear hb
   by_cases h8 : b.toNat < 128
   ·have hb8 : ¬ (128 : Int) <= (b.toNat : Int) := by omega
    have HNx := Lib.hid (HLr.out.next HB.out h8)
    go_wp2
    go_roundw
    case rel => exact ⟨k + 1, l, by omega, by go_num, HNx.out⟩
    case measure => (simp [intOf]) <;> omega
   ·have hb8 : (128 : Int) <= (b.toNat : Int) := by omega
    have HNx := Lib.hid (HLr.out.set hlt)
    go_wp2
    go_roundw
    case rel => exact ⟨k + 1, l.set k 120, by omega, by go_num, HNx.out⟩
    case measure => (simp [intOf]) <;> omega
  ·obtain rfl : k = n := by omega
   have hcv : (convert 28 9 (.slice (some ⟨w.heap.size, 0, none⟩) k cp)).run Tryz.prog wr = .ok (.string ⟨l.toArray⟩) wr := by
    have h := run_convert_bytes_back (P := Tryz.prog) wr 28 9 5 ⟨w.heap.size, 0, none⟩ cp l Tryz.underlying28 Tryz.underlying5 Tryz.underlying9 (fun j hj => by
     rw [add_lit, Nat.zero_add]
     exact HLr.out.cell j _ (List.getElem?_eq_getElem hj))
    rw [HLr.out.len] at h
    exact h
   go_wp2
   go_ret
   refine ⟨⟨l.toArray⟩, rfl, ⟨?_, fun j b hb => HLr.out.low j b ?_ hb⟩, (HK.out.of_none (F := NoB)).step HLr.out.keeps (fun g hg => .inr (by rw [hg]; exact Nat.le_refl _))⟩
   ·show l.toArray.size = _
    rw [List.size_toArray, HLr.out.len]
    first | done | rfl | exact HN.out.symm
   ·have := (List.getElem?_eq_some_iff.1 hb).1
    have h2 := HLr.out.len
    simp at this
    omega
theorem words_any (s : ByteArray) (w : World) (hs : s.size <= 1000000) (ht : As22 w) :
 Calls Tryz.prog 38 #[.string s] w fun e w' => ∃ n : Nat, e = .returned (.int .i64 (n : Int)) ∧ Keeps NoB w w' := by
 have HP := Lib.hid (plain_all s w hs)
 have HF := Lib.hid (fun (t : ByteArray) (h1 : t.size = s.size ∧ ∀ (j : Nat) b, t.data.toList[j]? = some b -> b.toNat < 128) (w1 : World) (k : Keeps NoB w w1) => fields_asc t w1 (by rw [h1.1]; exact hs) h1.2 (ht.on k))
 clear ht
 go_enter Tryz.func38, Tryz.ntmps38
 go_wp2_with (first | (go_at_call 62; go_loud (refine HP.out.mono ?_); rintro e w1 ⟨t, rfl, htt, hk1⟩; have HT := Lib.hid htt; clear htt) | (go_at_call 61; go_loud (refine (HF.out t HT.out _ hk1).mono ?_); rintro e w2 ⟨rfl, hk2⟩; obtain ⟨n, hn⟩ : ∃ n, (Lib.fields t.data.toList).length = n := ⟨_, rfl⟩; rw [hn]; clear hn))
 go_ret
 exact ⟨n, rfl, hk1.trans hk2⟩
theorem line_c (w : World) (K : Nat) (n0 n1 : Int) (n : Nat) (hn : n <= 1000000) (h10 : T10 w) (h : Bk w K [.string ⟨#[99]⟩]) : Calls Tryz.prog 34 #[.agg #[.int .i64 n0, .int .i64 n1, .int .i64 (n : Int)], .string ⟨#[]⟩, .pointer (some ⟨K, 0, none⟩)] w fun e w' => e = .returned (.string (decB n ++ ⟨#[10]⟩)) ∧ Keeps NoB w w' := by
 have c0 := h.cell 0 _ rfl
 have cl := h.lt
 have hconv := fun wx => Lib.run_convert_string_bytes (P := Tryz.prog) wx 9 28 5 ⟨#[99]⟩ Tryz.underlying9 Tryz.underlying28 Tryz.underlying5
 have ka : Keeps NoB w (w.alloc (.cells #[.int .i64 n0, .int .i64 n1, .int .i64 (n : Int)] 70)) := (Keeps.refl _ _).alloc _
 obtain ⟨hsl, hkc⟩ := conv_sl (w.alloc (.cells #[.int .i64 n0, .int .i64 n1, .int .i64 (n : Int)] 70)) ⟨#[99]⟩ (by decide)
 have hb := Bk.new hkc
 have d0 := hb.cell 0 _ rfl
 have d1 := hb.cell 1 _ rfl
 have d2 := hb.cell 2 _ rfl
 have dl := hb.lt
 have hz : (w.alloc (.cells #[.int .i64 n0, .int .i64 n1, .int .i64 (n : Int)] 70)).heap.size = w.heap.size + 1 := by simp
 have t0 : (Lib.bytesWorld (w.alloc (.cells #[.int .i64 n0, .int .i64 n1, .int .i64 (n : Int)] 70)) 5 ⟨#[99]⟩).cell? ⟨w.heap.size + 1, 0, none⟩ = some (.int .u8 99) := by
  obtain ⟨g, off, e, _, _, hcc⟩ := hsl.at (i := 0) (x := 99) rfl
  cases e
  have := hcc 0 _ rfl
  rw [hz] at this
  simpa [encU8] using this
 have hcp := hsl.cap
 have hmx := hsl.max
 unfold maxLen at hmx
 have HK := Lib.hid (ka.trans hkc)
 have HIb := Lib.hid (fun wx => ib_any ⟨#[108, 119, 99]⟩ 99 wx)
 rw [show bIdx (⟨#[108, 119, 99]⟩ : ByteArray) ((99 : Int)).toNat.toUInt8 = 2 by decide] at HIb
 have HIt : Hid (∀ w1 : World, Keeps NoB w w1 -> Calls Tryz.prog 35 #[.int .i64 (n : Int)] w1 fun e w' => e = .returned (.string (decB n)) ∧ Keeps NoB w1 w') := Lib.hid (fun w1 k => itoa_any n (by omega) w1 (h10.on k))
 have hz2 : (decB n).size <= 20 := by rw [decB_size]; exact nd20 n (by omega)
 obtain ⟨x, hx⟩ : ∃ x, decB n = x := ⟨_, rfl⟩
 rw [hx] at HIt hz2
 rw [hx]
 have HX : Hid ((⟨#[]⟩ ++ x : ByteArray) = x) := Lib.hid (ba_eq (by simp))
 clear h hsl hkc hb hz ka hx h10
 go_enter Tryz.func34, Tryz.ntmps34
 go_upto_region 3 with fail
 clear hconv c0 cl
 generalize Lib.bytesWorld (w.alloc (.cells #[.int .i64 n0, .int .i64 n1, .int .i64 (n : Int)] 70)) 5 ⟨#[99]⟩ = w2 at *
 go_loopw [6, 12] (fun o i wr => (o = .string ⟨#[]⟩ ∧ i = .int .i64 0 ∧ wr = w2) ∨ (o = .string x ∧ i = .int .i64 1 ∧ Keeps NoB w2 wr)) (fun _ i _ => 2 - (intOf i).toNat)
 case atStart => exact .inl ⟨rfl, rfl, rfl⟩
 case round =>
  rcases hrel with ⟨rfl, rfl, hw⟩ | ⟨rfl, rfl, hk⟩
  ·obtain rfl : w2 = _ := hw.symm
   go_wp2_with (first | (go_at_call 33; go_loud (refine (HIb.out _).mono ?_); rintro e w3 ⟨rfl, rfl⟩) | (go_at_call 35; go_loud (refine (HIt.out _ HK.out).mono ?_); rintro e w4 ⟨rfl, hk4⟩))
   go_roundw
   case rel => exact .inr ⟨congrArg Value.string HX.out, by go_num, hk4⟩
   case measure => simp [intOf]
  ·have HKr := Lib.hid hk
   clear hk t0 d0 d1 d2
   go_wp2
   go_ret
   exact ⟨rfl, HK.out.trans HKr.out⟩
end Go.Proofs.YtkdfgkbojbdelaaGreatDoor
