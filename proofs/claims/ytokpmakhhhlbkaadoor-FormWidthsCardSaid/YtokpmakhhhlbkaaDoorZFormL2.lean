/-
  The shelf's contracts of strconv.ParseInt and strconv.FormatInt laid at this program (numbers by the shelf's own command, in plain words).
-/
import Derived.Test.YtokpmakhhhlbkaaDoorProg
import Derived.Test.YtokpmakhhhlbkaaDoorZFormP
import Derived.Shelf.Strconv.ParseIntPublic10
import Derived.Shelf.Strconv.Itoa4

set_option linter.unusedSimpArgs false
set_option linter.unusedVariables false

set_option maxRecDepth 100000
namespace Go.Proofs.YtokpmakhhhlbkaaDoor
open Go Go.Shelf Go.RowKit

def lays174_ren : Go.Shelf.Ren :=
{
  f := fun x =>
    match x with
    | 174 => 34
    | 247 => 43
    | 245 => 44
    | 287 => 52
    | 279 => 53
    | 280 => 54
    | 281 => 55
    | 282 => 56
    | 321 => 67
    | 322 => 68
    | 316 => 69
    | 171 => 71
    | 205 => 70
    | 243 => 80
    | 246 => 45
    | 283 => 57
    | 284 => 58
    | 285 => 59
    | 286 => 60
    | 129 => 73
    | 317 => 72
    | 318 => 74
    | 319 => 75
    | 320 => 76
    | 337 => 81
    | 338 => 82
    | n => n,
  t := fun x =>
    match x with
    | 9 => 9
    | 3 => 3
    | 2 => 2
    | 75 => 40
    | 85 => 68
    | 4 => 4
    | 167 => 85
    | 5 => 5
    | 53 => 72
    | 175 => 86
    | 46 => 44
    | 168 => 88
    | 37 => 23
    | 0 => 0
    | 210 => 105
    | 21 => 21
    | 127 => 55
    | 145 => 119
    | 143 => 117
    | 171 => 92
    | 173 => 95
    | 212 => 109
    | 51 => 80
    | 20 => 20
    | 213 => 110
    | 232 => 128
    | 233 => 129
    | 80 => 45
    | n => n,
  g := fun x =>
    match x with
    | 15 => 1
    | 16 => 2
    | 17 => 3
    | 18 => 7
    | 19 => 8
    | n => n }
theorem lays174 : LaysC.n174 Tryd.prog lays174_ren :=
{ mixed := Eq.refl true, f129 := Eq.trans Tryd.func73 (congrArg some (Eq.refl (Body.n129 lays174_ren))),
  f171 := Eq.trans Tryd.func71 (congrArg some (Eq.refl (Body.n171 lays174_ren))),
  f174 := Eq.trans Tryd.func34 (congrArg some (Eq.refl (Body.n174 lays174_ren))),
  f205 := Eq.trans Tryd.func70 (congrArg some (Eq.refl (Body.n205 lays174_ren))),
  f243 := Eq.trans Tryd.func80 (congrArg some (Eq.refl (Body.n243 lays174_ren))),
  f245 := Eq.trans Tryd.func44 (congrArg some (Eq.refl (Body.n245 lays174_ren))),
  f246 := Eq.trans Tryd.func45 (congrArg some (Eq.refl (Body.n246 lays174_ren))),
  f247 := Eq.trans Tryd.func43 (congrArg some (Eq.refl (Body.n247 lays174_ren))),
  f279 := Eq.trans Tryd.func53 (congrArg some (Eq.refl (Body.n279 lays174_ren))),
  f280 := Eq.trans Tryd.func54 (congrArg some (Eq.refl (Body.n280 lays174_ren))),
  f281 := Eq.trans Tryd.func55 (congrArg some (Eq.refl (Body.n281 lays174_ren))),
  f282 := Eq.trans Tryd.func56 (congrArg some (Eq.refl (Body.n282 lays174_ren))),
  f283 := Eq.trans Tryd.func57 (congrArg some (Eq.refl (Body.n283 lays174_ren))),
  f284 := Eq.trans Tryd.func58 (congrArg some (Eq.refl (Body.n284 lays174_ren))),
  f285 := Eq.trans Tryd.func59 (congrArg some (Eq.refl (Body.n285 lays174_ren))),
  f286 := Eq.trans Tryd.func60 (congrArg some (Eq.refl (Body.n286 lays174_ren))),
  f287 := Eq.trans Tryd.func52 (congrArg some (Eq.refl (Body.n287 lays174_ren))),
  f316 := Eq.trans Tryd.func69 (congrArg some (Eq.refl (Body.n316 lays174_ren))),
  f317 := Eq.trans Tryd.func72 (congrArg some (Eq.refl (Body.n317 lays174_ren))),
  f318 := Eq.trans Tryd.func74 (congrArg some (Eq.refl (Body.n318 lays174_ren))),
  f319 := Eq.trans Tryd.func75 (congrArg some (Eq.refl (Body.n319 lays174_ren))),
  f320 := Eq.trans Tryd.func76 (congrArg some (Eq.refl (Body.n320 lays174_ren))),
  f321 := Eq.trans Tryd.func67 (congrArg some (Eq.refl (Body.n321 lays174_ren))),
  f322 := Eq.trans Tryd.func68 (congrArg some (Eq.refl (Body.n322 lays174_ren))),
  f337 := Eq.trans Tryd.func81 (congrArg some (Eq.refl (Body.n337 lays174_ren))),
  f338 := Eq.trans Tryd.func82 (congrArg some (Eq.refl (Body.n338 lays174_ren))), t0 := Tryd.underlying0,
  a0 := Tryd.isAgg0, z0 := Tryd.sizeOf0, v0 := Tryd.zeroValue0, t2 := Tryd.underlying2, a2 := Tryd.isAgg2,
  z2 := Tryd.sizeOf2, v2 := Tryd.zeroValue2, t3 := Tryd.underlying3, a3 := Tryd.isAgg3, z3 := Tryd.sizeOf3,
  v3 := Tryd.zeroValue3, t4 := Tryd.underlying4, a4 := Tryd.isAgg4, z4 := Tryd.sizeOf4, v4 := Tryd.zeroValue4,
  t5 := Tryd.underlying5, a5 := Tryd.isAgg5, z5 := Tryd.sizeOf5, v5 := Tryd.zeroValue5, t9 := Tryd.underlying9,
  a9 := Tryd.isAgg9, z9 := Tryd.sizeOf9, v9 := Tryd.zeroValue9, t20 := Tryd.underlying20, a20 := Tryd.isAgg20,
  z20 := Tryd.sizeOf20, v20 := Tryd.zeroValue20, t21 := Tryd.underlying21, a21 := Tryd.isAgg21, z21 := Tryd.sizeOf21,
  v21 := Tryd.zeroValue21, t37 := Tryd.underlying23, a37 := Tryd.isAgg23, z37 := Tryd.sizeOf23, v37 := Tryd.zeroValue23,
  t46 := Tryd.underlying44, a46 := Tryd.isAgg44, z46 := Tryd.sizeOf44, v46 := Tryd.zeroValue44,
  t51 := Tryd.underlying80, a51 := Tryd.isAgg80, z51 := Tryd.sizeOf80, v51 := Tryd.zeroValue80,
  t53 := Tryd.underlying72, a53 := Tryd.isAgg72, z53 := Tryd.sizeOf72, v53 := Tryd.zeroValue72,
  t75 := Tryd.underlying40, a75 := Tryd.isAgg40, z75 := Tryd.sizeOf40, v75 := Tryd.zeroValue40,
  t85 := Tryd.underlying68, a85 := Tryd.isAgg68, z85 := Tryd.sizeOf68, v85 := Tryd.zeroValue68,
  t127 := Tryd.underlying55, a127 := Tryd.isAgg55, z127 := Tryd.sizeOf55, v127 := Tryd.zeroValue55,
  t143 := Tryd.underlying117, a143 := Tryd.isAgg117, z143 := Tryd.sizeOf117, v143 := Tryd.zeroValue117,
  t145 := Tryd.underlying119, a145 := Tryd.isAgg119, z145 := Tryd.sizeOf119, v145 := Tryd.zeroValue119,
  t167 := Tryd.underlying85, a167 := Tryd.isAgg85, z167 := Tryd.sizeOf85, v167 := Tryd.zeroValue85,
  t168 := Tryd.underlying88, a168 := Tryd.isAgg88, z168 := Tryd.sizeOf88, v168 := Tryd.zeroValue88,
  t171 := Tryd.underlying92, a171 := Tryd.isAgg92, z171 := Tryd.sizeOf92, v171 := Tryd.zeroValue92,
  t173 := Tryd.underlying95, a173 := Tryd.isAgg95, z173 := Tryd.sizeOf95, v173 := Tryd.zeroValue95,
  t175 := Tryd.underlying86, a175 := Tryd.isAgg86, z175 := Tryd.sizeOf86, v175 := Tryd.zeroValue86,
  t210 := Tryd.underlying105, a210 := Tryd.isAgg105, z210 := Tryd.sizeOf105, v210 := Tryd.zeroValue105,
  t212 := Tryd.underlying109, a212 := Tryd.isAgg109, z212 := Tryd.sizeOf109, v212 := Tryd.zeroValue109,
  t213 := Tryd.underlying110, a213 := Tryd.isAgg110, z213 := Tryd.sizeOf110, t232 := Tryd.underlying128,
  a232 := Tryd.isAgg128, z232 := Tryd.sizeOf128, v232 := Tryd.zeroValue128, t233 := Tryd.underlying129,
  a233 := Tryd.isAgg129, z233 := Tryd.sizeOf129, v233 := Tryd.zeroValue129, g15 := by kernel_rfl,
  g16 := by kernel_rfl, g17 := by kernel_rfl,
  g18 := by kernel_rfl, g19 := by kernel_rfl, t80 := Tryd.underlying45,
  a80 := Tryd.isAgg45, z80 := Tryd.sizeOf45, v80 := Tryd.zeroValue45,
  i0 := Eq.refl (some (some (Value.tuple #[]), 1, 0)), i2 := Eq.refl (some (some (Value.int IntKind.i64 0), 1, 8)),
  i3 := Eq.refl (some (some (Value.int IntKind.i64 0), 1, 8)), i4 := Eq.refl (some (some (Value.bool false), 1, 1)),
  i5 := Eq.refl (some (some (Value.int IntKind.u8 0), 1, 1)),
  i9 := Eq.refl (some (some (Value.string { data := #[] }), 1, 16)), i20 := Eq.refl (some (some Value.nilIface, 1, 16)),
  i21 := Eq.refl (some (some (Value.int IntKind.i32 0), 1, 4)),
  i37 := Eq.refl (some (some (Value.slice none 0 0), 1, 24)),
  i46 := Eq.refl (some (some (Value.int IntKind.u64 0), 1, 8)),
  i51 := Eq.refl (some (some (Value.int IntKind.u32 0), 1, 4)),
  i53 := Eq.refl (some (some (Value.int IntKind.u64 0), 1, 8)), i75 := Eq.refl (some (some Value.nilIface, 1, 16)),
  i80 := Eq.refl (some (some Value.nilFunc, 1, 8)),
  i85 := Eq.refl (some (some (Value.tuple #[Value.int IntKind.i64 0, Value.nilIface]), 1, 0)),
  i127 := Eq.refl (some (some (Value.pointer none), 1, 8)), i143 := Eq.refl (some (some (Value.pointer none), 1, 8)),
  i145 := Eq.refl (some (some (Value.agg #[Value.string { data := #[] }]), 1, 16)),
  i167 := Eq.refl (some (some (Value.int IntKind.i64 0), 1, 8)),
  i168 := Eq.refl (some (some (Value.pointer none), 1, 8)),
  i171 :=
    Eq.refl
      (some
        (some
            (Value.agg
              #[Value.int IntKind.u8 0, Value.int IntKind.u8 0, Value.int IntKind.u8 0, Value.int IntKind.u8 0,
                Value.int IntKind.u8 0, Value.int IntKind.u8 0, Value.int IntKind.u8 0, Value.int IntKind.u8 0,
                Value.int IntKind.u8 0, Value.int IntKind.u8 0, Value.int IntKind.u8 0, Value.int IntKind.u8 0,
                Value.int IntKind.u8 0, Value.int IntKind.u8 0, Value.int IntKind.u8 0, Value.int IntKind.u8 0,
                Value.int IntKind.u8 0, Value.int IntKind.u8 0, Value.int IntKind.u8 0, Value.int IntKind.u8 0,
                Value.int IntKind.u8 0, Value.int IntKind.u8 0, Value.int IntKind.u8 0, Value.int IntKind.u8 0]),
          24, 24)),
  i173 := Eq.refl (some (some (Value.tuple #[Value.slice none 0 0, Value.string { data := #[] }]), 1, 0)),
  i175 := Eq.refl (some (some (Value.tuple #[Value.int IntKind.u64 0, Value.nilIface]), 1, 0)),
  i210 :=
    Eq.refl
      (some (some (Value.agg #[Value.string { data := #[] }, Value.string { data := #[] }, Value.nilIface]), 3, 48)),
  i212 :=
    Eq.refl
      (some
        (some
            (Value.agg
              #[Value.int IntKind.u64 0, Value.int IntKind.u64 0, Value.int IntKind.u64 0, Value.int IntKind.u64 0,
                Value.int IntKind.u64 0, Value.int IntKind.u64 0, Value.int IntKind.u64 0, Value.int IntKind.u64 0,
                Value.int IntKind.u64 0, Value.int IntKind.u64 0, Value.int IntKind.u64 0, Value.int IntKind.u64 0,
                Value.int IntKind.u64 0, Value.int IntKind.u64 0, Value.int IntKind.u64 0, Value.int IntKind.u64 0,
                Value.int IntKind.u64 0, Value.int IntKind.u64 0, Value.int IntKind.u64 0, Value.int IntKind.u64 0]),
          20, 160)),
  i232 :=
    Eq.refl
      (some
        (some
            (Value.agg
              #[Value.int IntKind.u8 0, Value.int IntKind.u8 0, Value.int IntKind.u8 0, Value.int IntKind.u8 0,
                Value.int IntKind.u8 0, Value.int IntKind.u8 0, Value.int IntKind.u8 0, Value.int IntKind.u8 0,
                Value.int IntKind.u8 0, Value.int IntKind.u8 0, Value.int IntKind.u8 0, Value.int IntKind.u8 0,
                Value.int IntKind.u8 0, Value.int IntKind.u8 0, Value.int IntKind.u8 0, Value.int IntKind.u8 0,
                Value.int IntKind.u8 0, Value.int IntKind.u8 0, Value.int IntKind.u8 0, Value.int IntKind.u8 0,
                Value.int IntKind.u8 0, Value.int IntKind.u8 0, Value.int IntKind.u8 0, Value.int IntKind.u8 0,
                Value.int IntKind.u8 0, Value.int IntKind.u8 0, Value.int IntKind.u8 0, Value.int IntKind.u8 0,
                Value.int IntKind.u8 0, Value.int IntKind.u8 0, Value.int IntKind.u8 0, Value.int IntKind.u8 0]),
          32, 32)),
  i233 :=
    Eq.refl
      (some
        (some
            (Value.agg
              (let y :=
                  let y :=
                    let y :=
                      let y :=
                        [Value.int IntKind.u8 0, Value.int IntKind.u8 0, Value.int IntKind.u8 0,
                          Value.int IntKind.u8 0];
                      Value.int IntKind.u8 0 ::
                        Value.int IntKind.u8 0 :: Value.int IntKind.u8 0 :: Value.int IntKind.u8 0 :: y;
                    let y :=
                      Value.int IntKind.u8 0 ::
                        Value.int IntKind.u8 0 :: Value.int IntKind.u8 0 :: Value.int IntKind.u8 0 :: y;
                    Value.int IntKind.u8 0 ::
                      Value.int IntKind.u8 0 :: Value.int IntKind.u8 0 :: Value.int IntKind.u8 0 :: y;
                  let y :=
                    let y :=
                      Value.int IntKind.u8 0 ::
                        Value.int IntKind.u8 0 :: Value.int IntKind.u8 0 :: Value.int IntKind.u8 0 :: y;
                    Value.int IntKind.u8 0 ::
                      Value.int IntKind.u8 0 :: Value.int IntKind.u8 0 :: Value.int IntKind.u8 0 :: y;
                  let y :=
                    Value.int IntKind.u8 0 ::
                      Value.int IntKind.u8 0 :: Value.int IntKind.u8 0 :: Value.int IntKind.u8 0 :: y;
                  Value.int IntKind.u8 0 ::
                    Value.int IntKind.u8 0 :: Value.int IntKind.u8 0 :: Value.int IntKind.u8 0 :: y;
                let y :=
                  let y :=
                    let y :=
                      Value.int IntKind.u8 0 ::
                        Value.int IntKind.u8 0 :: Value.int IntKind.u8 0 :: Value.int IntKind.u8 0 :: y;
                    Value.int IntKind.u8 0 ::
                      Value.int IntKind.u8 0 :: Value.int IntKind.u8 0 :: Value.int IntKind.u8 0 :: y;
                  let y :=
                    Value.int IntKind.u8 0 ::
                      Value.int IntKind.u8 0 :: Value.int IntKind.u8 0 :: Value.int IntKind.u8 0 :: y;
                  Value.int IntKind.u8 0 ::
                    Value.int IntKind.u8 0 :: Value.int IntKind.u8 0 :: Value.int IntKind.u8 0 :: y;
                let y :=
                  let y :=
                    Value.int IntKind.u8 0 ::
                      Value.int IntKind.u8 0 :: Value.int IntKind.u8 0 :: Value.int IntKind.u8 0 :: y;
                  Value.int IntKind.u8 0 ::
                    Value.int IntKind.u8 0 :: Value.int IntKind.u8 0 :: Value.int IntKind.u8 0 :: y;
                let y :=
                  Value.int IntKind.u8 0 ::
                    Value.int IntKind.u8 0 :: Value.int IntKind.u8 0 :: Value.int IntKind.u8 0 :: y;
                Value.int IntKind.u8 0 ::
                  Value.int IntKind.u8 0 :: Value.int IntKind.u8 0 :: Value.int IntKind.u8 0 :: y).toArray),
          64, 64)),
  m15 := Eq.refl (some (lays174_ren.g 15)), m16 := Eq.refl (some (lays174_ren.g 16)),
  m17 := Eq.refl (some (lays174_ren.g 17)), m18 := Eq.refl (some (lays174_ren.g 18)),
  m19 := Eq.refl (some (lays174_ren.g 19)), c0 := Eq.refl (some false), c2 := Eq.refl (some true),
  c3 := Eq.refl (some true), c4 := Eq.refl (some true), c5 := Eq.refl (some true), c9 := Eq.refl (some true),
  c20 := Eq.refl (some true), c21 := Eq.refl (some true), c37 := Eq.refl (some false), c46 := Eq.refl (some true),
  c51 := Eq.refl (some true), c53 := Eq.refl (some true), c75 := Eq.refl (some true), c80 := Eq.refl (some false),
  c85 := Eq.refl (some false), c127 := Eq.refl (some true), c143 := Eq.refl (some true), c145 := Eq.refl (some true),
  c167 := Eq.refl (some true), c168 := Eq.refl (some true), c171 := Eq.refl (some true), c173 := Eq.refl (some false),
  c175 := Eq.refl (some false), c210 := Eq.refl (some true), c212 := Eq.refl (some true), c213 := Eq.refl (some true),
  c232 := Eq.refl (some true), c233 := Eq.refl (some true) }


def lays173_ren : Go.Shelf.Ren :=
{
  f := fun x =>
    match x with
    | 173 => 35
    | 246 => 45
    | 283 => 57
    | 284 => 58
    | 285 => 59
    | 286 => 60
    | 129 => 73
    | 317 => 72
    | 318 => 74
    | 319 => 75
    | 320 => 76
    | 337 => 81
    | 338 => 82
    | n => n,
  t := fun x =>
    match x with
    | 2 => 2
    | 3 => 3
    | 9 => 9
    | 4 => 4
    | 171 => 92
    | 0 => 0
    | 53 => 72
    | 37 => 23
    | 5 => 5
    | 173 => 95
    | 212 => 109
    | 51 => 80
    | 20 => 20
    | 213 => 110
    | 46 => 44
    | 232 => 128
    | 233 => 129
    | n => n,
  g := fun x =>
    match x with
    | 17 => 3
    | 18 => 7
    | 19 => 8
    | n => n }
theorem lays173 : Lays.n173 Tryd.prog lays173_ren :=
{ mixed := Eq.refl true, f129 := Eq.trans Tryd.func73 (congrArg some (Eq.refl (Body.n129 lays173_ren))),
  f173 := Eq.trans Tryd.func35 (congrArg some (Eq.refl (Body.n173 lays173_ren))),
  f246 := Eq.trans Tryd.func45 (congrArg some (Eq.refl (Body.n246 lays173_ren))),
  f283 := Eq.trans Tryd.func57 (congrArg some (Eq.refl (Body.n283 lays173_ren))),
  f284 := Eq.trans Tryd.func58 (congrArg some (Eq.refl (Body.n284 lays173_ren))),
  f285 := Eq.trans Tryd.func59 (congrArg some (Eq.refl (Body.n285 lays173_ren))),
  f286 := Eq.trans Tryd.func60 (congrArg some (Eq.refl (Body.n286 lays173_ren))),
  f317 := Eq.trans Tryd.func72 (congrArg some (Eq.refl (Body.n317 lays173_ren))),
  f318 := Eq.trans Tryd.func74 (congrArg some (Eq.refl (Body.n318 lays173_ren))),
  f319 := Eq.trans Tryd.func75 (congrArg some (Eq.refl (Body.n319 lays173_ren))),
  f320 := Eq.trans Tryd.func76 (congrArg some (Eq.refl (Body.n320 lays173_ren))),
  f337 := Eq.trans Tryd.func81 (congrArg some (Eq.refl (Body.n337 lays173_ren))),
  f338 := Eq.trans Tryd.func82 (congrArg some (Eq.refl (Body.n338 lays173_ren))), t0 := Tryd.underlying0,
  a0 := Tryd.isAgg0, z0 := Tryd.sizeOf0, v0 := Tryd.zeroValue0, t2 := Tryd.underlying2, a2 := Tryd.isAgg2,
  z2 := Tryd.sizeOf2, v2 := Tryd.zeroValue2, t3 := Tryd.underlying3, a3 := Tryd.isAgg3, z3 := Tryd.sizeOf3,
  v3 := Tryd.zeroValue3, t4 := Tryd.underlying4, a4 := Tryd.isAgg4, z4 := Tryd.sizeOf4, v4 := Tryd.zeroValue4,
  t5 := Tryd.underlying5, a5 := Tryd.isAgg5, z5 := Tryd.sizeOf5, v5 := Tryd.zeroValue5, t9 := Tryd.underlying9,
  a9 := Tryd.isAgg9, z9 := Tryd.sizeOf9, v9 := Tryd.zeroValue9, t20 := Tryd.underlying20, a20 := Tryd.isAgg20,
  z20 := Tryd.sizeOf20, v20 := Tryd.zeroValue20, t37 := Tryd.underlying23, a37 := Tryd.isAgg23, z37 := Tryd.sizeOf23,
  v37 := Tryd.zeroValue23, t46 := Tryd.underlying44, a46 := Tryd.isAgg44, z46 := Tryd.sizeOf44, v46 := Tryd.zeroValue44,
  t51 := Tryd.underlying80, a51 := Tryd.isAgg80, z51 := Tryd.sizeOf80, v51 := Tryd.zeroValue80,
  t53 := Tryd.underlying72, a53 := Tryd.isAgg72, z53 := Tryd.sizeOf72, v53 := Tryd.zeroValue72,
  t171 := Tryd.underlying92, a171 := Tryd.isAgg92, z171 := Tryd.sizeOf92, v171 := Tryd.zeroValue92,
  t173 := Tryd.underlying95, a173 := Tryd.isAgg95, z173 := Tryd.sizeOf95, v173 := Tryd.zeroValue95,
  t212 := Tryd.underlying109, a212 := Tryd.isAgg109, z212 := Tryd.sizeOf109, v212 := Tryd.zeroValue109,
  t213 := Tryd.underlying110, a213 := Tryd.isAgg110, z213 := Tryd.sizeOf110, t232 := Tryd.underlying128,
  a232 := Tryd.isAgg128, z232 := Tryd.sizeOf128, v232 := Tryd.zeroValue128, t233 := Tryd.underlying129,
  a233 := Tryd.isAgg129, z233 := Tryd.sizeOf129, v233 := Tryd.zeroValue129, g17 := by kernel_rfl,
  g18 := by kernel_rfl, g19 := by kernel_rfl }


end Go.Proofs.YtokpmakhhhlbkaaDoor
