/-
  The shelf's contracts of strings.Repeat and of strings.Builder laid at this program (numbers by the shelf's own command, in plain words).
-/
import Derived.Test.YtokpmakhhhlbkaaDoorProg
import Derived.Test.YtokpmakhhhlbkaaDoorB01
import Derived.Shelf.Strings.Repeat

set_option linter.unusedSimpArgs false
set_option linter.unusedVariables false

set_option maxRecDepth 100000
namespace Go.Proofs.YtokpmakhhhlbkaaDoor
open Go Go.Shelf Go.RowKit

def lays105_ren : Go.Shelf.Ren :=
{
  f := fun x =>
    match x with
    | 105 => 32
    | 212 => 39
    | 99 => 33
    | 165 => 40
    | 166 => 22
    | 170 => 41
    | 169 => 17
    | 263 => 49
    | 264 => 50
    | 206 => 42
    | 240 => 23
    | 241 => 51
    | 276 => 30
    | 277 => 66
    | n => n,
  t := fun x =>
    match x with
    | 9 => 9
    | 3 => 3
    | 4 => 4
    | 20 => 20
    | 0 => 0
    | 46 => 44
    | 109 => 73
    | 5 => 5
    | 72 => 37
    | 76 => 42
    | 51 => 80
    | 146 => 81
    | 53 => 72
    | 148 => 83
    | 70 => 35
    | 37 => 23
    | 75 => 40
    | 127 => 55
    | 164 => 64
    | 80 => 45
    | n => n,
  g := fun x =>
    have n := x;
    n }
theorem lays105 : Lays.n105 Tryd.prog lays105_ren :=
{ mixed := Eq.refl true, f99 := Eq.trans Tryd.func33 (congrArg some (Eq.refl (Body.n99 lays105_ren))),
  f105 := Eq.trans Tryd.func32 (congrArg some (Eq.refl (Body.n105 lays105_ren))),
  f165 := Eq.trans Tryd.func40 (congrArg some (Eq.refl (Body.n165 lays105_ren))),
  f166 := Eq.trans Tryd.func22 (congrArg some (Eq.refl (Body.n166 lays105_ren))),
  f169 := Eq.trans Tryd.func17 (congrArg some (Eq.refl (Body.n169 lays105_ren))),
  f170 := Eq.trans Tryd.func41 (congrArg some (Eq.refl (Body.n170 lays105_ren))),
  f206 := Eq.trans Tryd.func42 (congrArg some (Eq.refl (Body.n206 lays105_ren))),
  f212 := Eq.trans Tryd.func39 (congrArg some (Eq.refl (Body.n212 lays105_ren))),
  f240 := Eq.trans Tryd.func23 (congrArg some (Eq.refl (Body.n240 lays105_ren))),
  f241 := Eq.trans Tryd.func51 (congrArg some (Eq.refl (Body.n241 lays105_ren))),
  f263 := Eq.trans Tryd.func49 (congrArg some (Eq.refl (Body.n263 lays105_ren))),
  f264 := Eq.trans Tryd.func50 (congrArg some (Eq.refl (Body.n264 lays105_ren))),
  f276 := Eq.trans Tryd.func30 (congrArg some (Eq.refl (Body.n276 lays105_ren))),
  f277 := Eq.trans Tryd.func66 (congrArg some (Eq.refl (Body.n277 lays105_ren))), t0 := Tryd.underlying0,
  a0 := Tryd.isAgg0, z0 := Tryd.sizeOf0, v0 := Tryd.zeroValue0, t3 := Tryd.underlying3, a3 := Tryd.isAgg3,
  z3 := Tryd.sizeOf3, v3 := Tryd.zeroValue3, t4 := Tryd.underlying4, a4 := Tryd.isAgg4, z4 := Tryd.sizeOf4,
  v4 := Tryd.zeroValue4, t5 := Tryd.underlying5, a5 := Tryd.isAgg5, z5 := Tryd.sizeOf5, v5 := Tryd.zeroValue5,
  t9 := Tryd.underlying9, a9 := Tryd.isAgg9, z9 := Tryd.sizeOf9, v9 := Tryd.zeroValue9, t20 := Tryd.underlying20,
  a20 := Tryd.isAgg20, z20 := Tryd.sizeOf20, v20 := Tryd.zeroValue20, t37 := Tryd.underlying23, a37 := Tryd.isAgg23,
  z37 := Tryd.sizeOf23, v37 := Tryd.zeroValue23, t46 := Tryd.underlying44, a46 := Tryd.isAgg44, z46 := Tryd.sizeOf44,
  v46 := Tryd.zeroValue44, t51 := Tryd.underlying80, a51 := Tryd.isAgg80, z51 := Tryd.sizeOf80, v51 := Tryd.zeroValue80,
  t53 := Tryd.underlying72, a53 := Tryd.isAgg72, z53 := Tryd.sizeOf72, v53 := Tryd.zeroValue72,
  t70 := Tryd.underlying35, a70 := Tryd.isAgg35, z70 := Tryd.sizeOf35, v70 := Tryd.zeroValue35,
  t72 := Tryd.underlying37, a72 := Tryd.isAgg37, z72 := Tryd.sizeOf37, v72 := Tryd.zeroValue37,
  t75 := Tryd.underlying40, a75 := Tryd.isAgg40, z75 := Tryd.sizeOf40, v75 := Tryd.zeroValue40,
  t76 := Tryd.underlying42, a76 := Tryd.isAgg42, z76 := Tryd.sizeOf42, v76 := Tryd.zeroValue42,
  t109 := Tryd.underlying73, a109 := Tryd.isAgg73, z109 := Tryd.sizeOf73, v109 := Tryd.zeroValue73,
  t127 := Tryd.underlying55, a127 := Tryd.isAgg55, z127 := Tryd.sizeOf55, v127 := Tryd.zeroValue55,
  t146 := Tryd.underlying81, a146 := Tryd.isAgg81, z146 := Tryd.sizeOf81, v146 := Tryd.zeroValue81,
  t148 := Tryd.underlying83, a148 := Tryd.isAgg83, z148 := Tryd.sizeOf83, v148 := Tryd.zeroValue83,
  t164 := Tryd.underlying64, a164 := Tryd.isAgg64, z164 := Tryd.sizeOf64, v164 := Tryd.zeroValue64 }


def lays169_ren : Go.Shelf.Ren :=
{
  f := fun x =>
    match x with
    | 169 => 17
    | n => n,
  t := fun x =>
    match x with
    | 70 => 35
    | 9 => 9
    | 0 => 0
    | 72 => 37
    | 37 => 23
    | 127 => 55
    | 3 => 3
    | 5 => 5
    | n => n,
  g := fun x =>
    have n := x;
    n }
theorem lays169 : Lays.n169 Tryd.prog lays169_ren :=
{ mixed := Eq.refl true, f169 := Eq.trans Tryd.func17 (congrArg some (Eq.refl (Body.n169 lays169_ren))),
  t0 := Tryd.underlying0, a0 := Tryd.isAgg0, z0 := Tryd.sizeOf0, v0 := Tryd.zeroValue0, t3 := Tryd.underlying3,
  a3 := Tryd.isAgg3, z3 := Tryd.sizeOf3, v3 := Tryd.zeroValue3, t9 := Tryd.underlying9, a9 := Tryd.isAgg9,
  z9 := Tryd.sizeOf9, v9 := Tryd.zeroValue9, t37 := Tryd.underlying23, a37 := Tryd.isAgg23, z37 := Tryd.sizeOf23,
  v37 := Tryd.zeroValue23, t70 := Tryd.underlying35, a70 := Tryd.isAgg35, z70 := Tryd.sizeOf35, v70 := Tryd.zeroValue35,
  t72 := Tryd.underlying37, a72 := Tryd.isAgg37, z72 := Tryd.sizeOf37, v72 := Tryd.zeroValue37,
  t127 := Tryd.underlying55, a127 := Tryd.isAgg55, z127 := Tryd.sizeOf55, v127 := Tryd.zeroValue55 }


end Go.Proofs.YtokpmakhhhlbkaaDoor
