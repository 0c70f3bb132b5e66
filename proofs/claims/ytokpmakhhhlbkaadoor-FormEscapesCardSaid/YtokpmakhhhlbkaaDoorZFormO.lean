/-
  Layer 10: contracts: once, Format, by what a format tells, place by place.
-/
import Derived.Test.YtokpmakhhhlbkaaDoorZFormW3

set_option linter.unusedSimpArgs false
set_option linter.unusedVariables false

set_option maxRecDepth 100000
set_option maxHeartbeats 8000000
namespace Go.Proofs.YtokpmakhhhlbkaaDoor
open Go Go.RowKit

/-- A place for a text. -/
structure Sp where
  left : Bool
  zero : Bool
  width : Int
  prec : Int
  kind : UInt8
def Sp.val (p : Sp) : Value := .agg #[.bool p.left, .bool p.zero, .int .i64 p.width, .int .i64 p.prec, .int .u8 (p.kind.toNat : Int)]

/-- A place is read. -/
def ReadsTo (s : ByteArray) (p : Sp) (n : Nat) : Prop := ∀ w, Calls Tryd.prog 20 #[.string s] w fun e w' => e = .returned (.tuple #[p.val, .int .i64 n, .bool true]) ∧ Keeps NoB w w'
/-- The one cell of a table of the library's that the example reads. -/
def DbOk (w : World) : Prop := w.cell? ⟨8, 7, none⟩ = some (.int .u8 3)
theorem DbOk.on {w w' : World} (h : DbOk w) (k : Keeps NoB w w') : DbOk w' := (k.cell (p := ⟨8, 7, none⟩) (lt_of_cell h) (fun h => h)).trans h
/-- An argument comes to a place. -/
def PutsTo (p : Sp) (s : ByteArray) (t : List UInt8) : Prop := ∀ w, DbOk w → Calls Tryd.prog 21 #[p.val, .string s] w fun e w' => e = .returned (.tuple #[.string ⟨t.toArray⟩, .int .i64 0]) ∧ Keeps NoB w w'

/-- What a format tells from a place on: so many arguments have been taken, these bytes come, so many have been taken then. -/
inductive Onc (f : ByteArray) (args : List ByteArray) : Nat → Nat → List UInt8 → Nat → Prop
  | done {u : Nat} : Onc f args f.size u [] u
  | esc {i u n U : Nat} {c : UInt8} {O : List UInt8} (hi : i < f.size) (h92 : f[i] = 92) (he : escR (f.data.toList.drop (i + 1)) = (c, n)) (hn : 0 < n) (h : Onc f args (i + n + 1) u O U) : Onc f args i u (c :: O) U
  | lit {i u U : Nat} {c : UInt8} {O : List UInt8} (hi : i < f.size) (hc : f[i] = c) (h37 : c ≠ 37) (hno : c = 92 → (escR (f.data.toList.drop (i + 1))).2 = 0) (h : Onc f args (i + 1) u O U) : Onc f args i u (c :: O) U
  | place {i u n U : Nat} {p : Sp} {t O : List UInt8} (hi : i < f.size) (h37 : f[i] = 37) (hr : ReadsTo (f.extract (i + 1) f.size) p n) (hin : i + n + 1 ≤ f.size) (hk : p.kind ≠ 37) (hp : PutsTo p (args.getD u ⟨#[]⟩) t) (h : Onc f args (i + n + 1) (u + 1) O U) : Onc f args i u (t ++ O) U

theorem Onc.cases' {f : ByteArray} {args : List ByteArray} {i u U : Nat} {O : List UInt8} (h : Onc f args i u O U) :
    (i = f.size ∧ O = [] ∧ U = u) ∨
    (∃ (n : Nat) (c : UInt8) (O' : List UInt8) (hi : i < f.size), O = c :: O' ∧ f[i] = 92 ∧ escR (f.data.toList.drop (i + 1)) = (c, n) ∧ 0 < n ∧ Onc f args (i + n + 1) u O' U) ∨
    (∃ (c : UInt8) (O' : List UInt8) (hi : i < f.size), O = c :: O' ∧ f[i] = c ∧ c ≠ 37 ∧ (c = 92 → (escR (f.data.toList.drop (i + 1))).2 = 0) ∧ Onc f args (i + 1) u O' U) ∨
    (∃ (n : Nat) (p : Sp) (t O' : List UInt8) (hi : i < f.size), O = t ++ O' ∧ f[i] = 37 ∧ ReadsTo (f.extract (i + 1) f.size) p n ∧ i + n + 1 ≤ f.size ∧ p.kind ≠ 37 ∧ PutsTo p (args.getD u ⟨#[]⟩) t ∧ Onc f args (i + n + 1) (u + 1) O' U) := by
  cases h with
  | done => exact .inl ⟨rfl, rfl, rfl⟩
  | esc hi h92 he hn h => exact .inr (.inl ⟨_, _, _, hi, rfl, h92, he, hn, h⟩)
  | lit hi hc h37 hno h => exact .inr (.inr (.inl ⟨_, _, hi, rfl, hc, h37, hno, h⟩))
  | place hi h37 hr hin hk hp h => exact .inr (.inr (.inr ⟨_, _, _, _, hi, rfl, h37, hr, hin, hk, hp, h⟩))

theorem at37 (c : UInt8) : (c = 37 ∧ ((c.toNat : Int) == 37) = true ∧ ((c.toNat : Int) != 37) = false) ∨ (c ≠ 37 ∧ ((c.toNat : Int) == 37) = false ∧ ((c.toNat : Int) != 37) = true) := by
  by_cases h : c = 37
  · subst h; exact .inl ⟨rfl, rfl, rfl⟩
  · have : c.toNat ≠ 37 := fun e => h (by apply UInt8.toNat_inj.1; rw [e]; rfl)
    refine .inr ⟨h, ?_, ?_⟩
    · simp; omega
    · simp; omega

/-- At the label 'next'. -/
structure OnJ (f : ByteArray) (args : List ByteArray) (O : List UInt8) (U : Nat) (w w' : World) (i u : Nat) : Prop where
  ex : ∃ R out : List UInt8, Onc f args i u R U ∧ out ++ R = O ∧ BA (fun g => w.heap.size < g) w' w.heap.size out
  keeps : Keeps NoB w w'
  ile : i ≤ f.size
  ule : u ≤ i

def OnA (f : ByteArray) (args : List ByteArray) (O : List UInt8) (U : Nat) (w : World) (pa : Option Addr) (ca : Nat) (a' : Act) (w' : World) : Prop :=
  ∃ (fz : Nat → Value) (i u : Nat), a' = { tmps := List.toArray (.string f :: .slice pa args.length ca :: fz 2 :: fz 3 :: fz 4 :: fz 5 :: fz 6 :: .pointer (some ⟨w.heap.size, 0, none⟩) :: .int .i64 (u : Int) :: .int .i64 (i : Int) :: fz 10 :: fz 11 :: fz 12 :: fz 13 :: fz 14 :: fz 15 :: fz 16 :: fz 17 :: fz 18 :: fz 19 :: fz 20 :: fz 21 :: fz 22 :: fz 23 :: fz 24 :: fz 25 :: fz 26 :: fz 27 :: fz 28 :: fz 29 :: fz 30 :: fz 31 :: fz 32 :: fz 33 :: fz 34 :: fz 35 :: fz 36 :: fz 37 :: fz 38 :: fz 39 :: fz 40 :: fz 41 :: fz 42 :: fz 43 :: fz 44 :: fz 45 :: fz 46 :: fz 47 :: fz 48 :: fz 49 :: fz 50 :: fz 51 :: fz 52 :: fz 53 :: fz 54 :: fz 55 :: fz 56 :: fz 57 :: fz 58 :: fz 59 :: fz 60 :: fz 61 :: fz 62 :: fz 63 :: fz 64 :: fz 65 :: fz 66 :: fz 67 :: fz 68 :: fz 69 :: fz 70 :: fz 71 :: fz 72 :: fz 73 :: fz 74 :: fz 75 :: fz 76 :: fz 77 :: fz 78 :: fz 79 :: fz 80 :: fz 81 :: fz 82 :: fz 83 :: fz 84 :: fz 85 :: fz 86 :: fz 87 :: fz 88 :: fz 89 :: fz 90 :: fz 91 :: fz 92 :: fz 93 :: []), defers := [] } ∧ OnJ f args O U w w' i u

theorem OnA.mk {f : ByteArray} {args : List ByteArray} {O : List UInt8} {U : Nat} {w w' : World} {pa : Option Addr} {ca : Nat} {a' : Act} {i u : Nat}
    (h : (fun fz : Nat → Value => a' = { tmps := List.toArray (.string f :: .slice pa args.length ca :: fz 2 :: fz 3 :: fz 4 :: fz 5 :: fz 6 :: .pointer (some ⟨w.heap.size, 0, none⟩) :: .int .i64 (u : Int) :: .int .i64 (i : Int) :: fz 10 :: fz 11 :: fz 12 :: fz 13 :: fz 14 :: fz 15 :: fz 16 :: fz 17 :: fz 18 :: fz 19 :: fz 20 :: fz 21 :: fz 22 :: fz 23 :: fz 24 :: fz 25 :: fz 26 :: fz 27 :: fz 28 :: fz 29 :: fz 30 :: fz 31 :: fz 32 :: fz 33 :: fz 34 :: fz 35 :: fz 36 :: fz 37 :: fz 38 :: fz 39 :: fz 40 :: fz 41 :: fz 42 :: fz 43 :: fz 44 :: fz 45 :: fz 46 :: fz 47 :: fz 48 :: fz 49 :: fz 50 :: fz 51 :: fz 52 :: fz 53 :: fz 54 :: fz 55 :: fz 56 :: fz 57 :: fz 58 :: fz 59 :: fz 60 :: fz 61 :: fz 62 :: fz 63 :: fz 64 :: fz 65 :: fz 66 :: fz 67 :: fz 68 :: fz 69 :: fz 70 :: fz 71 :: fz 72 :: fz 73 :: fz 74 :: fz 75 :: fz 76 :: fz 77 :: fz 78 :: fz 79 :: fz 80 :: fz 81 :: fz 82 :: fz 83 :: fz 84 :: fz 85 :: fz 86 :: fz 87 :: fz 88 :: fz 89 :: fz 90 :: fz 91 :: fz 92 :: fz 93 :: []), defers := [] }) (fun i => a'.tmps.toList.getD i undef))
    (J : OnJ f args O U w w' i u) : OnA f args O U w pa ca a' w' := ⟨fun i => a'.tmps.toList.getD i undef, i, u, h, J⟩

theorem once_fok {f : ByteArray} {args : List ByteArray} {O : List UInt8} {U : Nat} {w : World} {S1 : Nat → Prop} {pa : Option Addr} {ca : Nat} (ha : SlAt encStr S1 w pa ca args) (h : Onc f args 0 0 O U) (hf : f.size ≤ 1000000000) (hO : O.length ≤ 4000000000) (hdb : DbOk w) :
    Calls Tryd.prog 13 #[.string f, .slice pa args.length ca] w fun e w' => e = .returned (.tuple #[.string ⟨O.toArray⟩, .int .i64 (U : Int), .int .i64 0]) ∧ Keeps NoB w w' := by
  have hcap := ha.cap
  have hmax := ha.max
  unfold maxLen at hmax
  have HA := Lib.hid ha
  have HOn := Lib.hid h
  have HDB := Lib.hid hdb
  clear ha h hdb
  go_enter Tryd.func13, Tryd.ntmps13
  go_wp2
  refine wp_scope_goto 0 (OnA f args O U w pa ca) (fun a' _ => f.size - (intOf (a'.tmps.getD 9 undef)).toNat) rfl ?_ ?_
  · intro HJ
    have HJ' := Lib.hid HJ
    clear HJ
    go_wp2
    go_step3
    go_step
    go_step
    refine HJ'.out _ _ ?_
    exact OnA.mk (i := 0) (u := 0) rfl ⟨⟨O, [], HOn.out, rfl, BA.new w (Nat.lt_irrefl _)⟩, (Keeps.refl _ _).alloc _, Nat.zero_le _, Nat.zero_le _⟩
  · rintro a' w1 ⟨fz, i, u, rfl, hJ⟩
    obtain ⟨R, out, hon, hout, hba⟩ := hJ.ex
    have HB := Lib.hid hba
    have HK := Lib.hid hJ.keeps
    have hile := hJ.ile
    have hule := hJ.ule
    have hsz : w.heap.size < w1.heap.size := hba.lt
    have HOut := Lib.hid hout
    have hol : out.length + R.length = O.length := by rw [← hout, List.length_append]
    have hSS : ∀ g, w1.heap.size ≤ g → w.heap.size < g := fun g hg => by omega
    have HSS := Lib.hid hSS
    clear hSS hba hJ HOn
    rcases hon.cases' with ⟨h1, h2, h3⟩ | ⟨n, c, O', hi, h1, h92, he, hn, hr⟩ | ⟨c, O', hi, h1, hc, h37, hno, hr⟩ | ⟨n, p, t, O', hi, h1, h37, hrd, hin, hk, hpt, hr⟩
    · subst h1 h2 h3
      rw [List.append_nil] at hout
      subst hout
      have HSt := Lib.hid (sbString_any (B := w.heap.size) HB.out (fun g hg => by omega) (Nat.le_refl _) (by omega))
      clear hon
      go_wp2_with (go_at_call 17; go_loud (refine HSt.out.mono ?_); rintro e w4 ⟨rfl, hk4⟩)
      simp only [Exit.jump]
      go_ret3
      exact ⟨rfl, HK.out.step hk4 (fun g hg => .inr hg)⟩
    · have hne : ((i : Int) == (f.size : Int)) = false := by simp; omega
      have hb92 : ((f[i].toNat : Int) == 92) = true := by rw [h92]; rfl
      obtain ⟨x, hx⟩ : ∃ x, f.extract (i + 1) f.size = x := ⟨_, rfl⟩
      have hxl := sub_list f (i + 1)
      rw [hx] at hxl
      have hxs : x.size ≤ f.size := by rw [← hx, ByteArray.size_extract]; omega
      have HE := Lib.hid (fun wx : World => escape_any x wx (by omega))
      rw [hxl, he] at HE
      simp only at HE
      have hle := escR_le (f.data.toList.drop (i + 1))
      rw [he, List.length_drop, len_data] at hle
      simp only at hle
      have h0' : (0 : Int) < (n : Int) := by omega
      rw [h1, List.length_cons] at hol
      have HW := Lib.hid (sbWriteByte_any HB.out HSS.out c (by omega))
      have HR := Lib.hid hr
      have HOu2 : Hid ((out ++ [c]) ++ O' = O) := Lib.hid (by rw [← HOut.out, h1]; simp)
      clear hon hr he hxl h92 h1 hout
      go_wp2_with (first | (go_at_call 18; go_loud (refine (HE.out _).mono ?_); rintro e w' ⟨rfl, rfl⟩) | (go_at_call 15; go_loud (refine HW.out.mono ?_); rintro e w4 ⟨rfl, hB4, hk4⟩))
      go_step3
      refine ⟨rfl, OnA.mk (i := i + n + 1) (u := u) rfl ⟨⟨O', out ++ [c], HR.out, HOu2.out, hB4⟩, HK.out.step hk4 (fun g hg => .inr (by omega)), by omega, by omega⟩, ?_⟩
      simp [intOf]; omega
    · have hne : ((i : Int) == (f.size : Int)) = false := by simp; omega
      have hb37 : ((c.toNat : Int) != 37) = true := by
        rcases at37 c with ⟨e, _⟩ | ⟨_, _, h⟩
        · exact absurd e h37
        · exact h
      rw [h1, List.length_cons] at hol
      have HW := Lib.hid (sbWriteByte_any HB.out HSS.out c (by omega))
      have HR := Lib.hid hr
      have HOu2 : Hid ((out ++ [c]) ++ O' = O) := Lib.hid (by rw [← HOut.out, h1]; simp)
      rcases at92 c with ⟨e92, hb⟩ | ⟨e92, hb⟩
      · obtain ⟨x, hx⟩ : ∃ x, f.extract (i + 1) f.size = x := ⟨_, rfl⟩
        have hxl := sub_list f (i + 1)
        rw [hx] at hxl
        have hxs : x.size ≤ f.size := by rw [← hx, ByteArray.size_extract]; omega
        have HE := Lib.hid (fun wx : World => escape_any x wx (by omega))
        rw [hxl, hno e92] at HE
        generalize (escR (List.drop (i + 1) f.data.toList)).1 = ec at *
        clear hon hr hno hxl h1 hout hb h37 hb37
        subst e92
        rw [show (((92 : UInt8).toNat : Nat) : Int) = 92 from rfl] at HW
        go_wp2_with (first | (go_at_call 18; go_loud (refine (HE.out _).mono ?_); rintro e w' ⟨rfl, rfl⟩) | (go_at_call 15; go_loud (refine HW.out.mono ?_); rintro e w4 ⟨rfl, hB4, hk4⟩))
        go_step3
        refine ⟨rfl, OnA.mk (i := i + 1) (u := u) rfl ⟨⟨O', out ++ [92], HR.out, HOu2.out, hB4⟩, HK.out.step hk4 (fun g hg => .inr (by omega)), by omega, by omega⟩, ?_⟩
        simp [intOf]; omega
      · clear hon hr hno h1 hout e92 h37
        go_wp2_with (go_at_call 15; go_loud (refine HW.out.mono ?_); rintro e w4 ⟨rfl, hB4, hk4⟩)
        go_step3
        refine ⟨rfl, OnA.mk (i := i + 1) (u := u) rfl ⟨⟨O', out ++ [c], HR.out, HOu2.out, hB4⟩, HK.out.step hk4 (fun g hg => .inr (by omega)), by omega, by omega⟩, ?_⟩
        simp [intOf]; omega
    · have hne : ((i : Int) == (f.size : Int)) = false := by simp; omega
      obtain ⟨x, hx⟩ : ∃ x, f.extract (i + 1) f.size = x := ⟨_, rfl⟩
      rw [hx] at hrd
      rw [h1, List.length_append] at hol
      unfold ReadsTo at hrd
      unfold PutsTo at hpt
      have HRd := Lib.hid hrd
      have HPt := Lib.hid hpt
      have HR := Lib.hid hr
      have HOu2 : Hid ((out ++ t) ++ O' = O) := Lib.hid (by rw [← HOut.out, h1]; simp)
      have hbk : ((p.kind.toNat : Int) == 37) = false := by
        rcases at37 p.kind with ⟨e, _⟩ | ⟨_, h, _⟩
        · exact absurd e hk
        · exact h
      unfold Sp.val at HRd HPt
      clear hon hr hrd hpt h1 hout hk
      by_cases hu : u < args.length
      · obtain ⟨arg, harg⟩ : ∃ arg, args[u]? = some arg := ⟨_, List.getElem?_eq_getElem hu⟩
        rw [List.getD_eq_getElem?_getD, harg] at HPt
        simp only [Option.getD_some] at HPt
        go_upto_region 15 with (go_at_call 20; go_loud (refine (HRd.out _).mono ?_); rintro e w2 ⟨rfl, hk2⟩)
        have ka : Keeps NoB w1 (w2.alloc (.cells #[.bool p.left, .bool p.zero, .int .i64 p.width, .int .i64 p.prec, .int .u8 (p.kind.toNat : Int)] 50)) := hk2.alloc _
        obtain ⟨ga, oa, epa, _, _, t0⟩ := (HA.out.keepN (HK.out.trans ka)).str harg
        subst epa
        have HB3 := Lib.hid (HB.out.on ka)
        have HK3 := Lib.hid (HK.out.trans ka)
        have hs3 := ka.size
        clear hk2 ka harg HB HK HRd
        go_upto_region 25 with (go_at_call 21; go_loud (refine (HPt.out _ (HDB.out.on HK3.out)).mono ?_); rintro e w5 ⟨rfl, hk5⟩)
        have HW := Lib.hid (sbWriteString_any (HB3.out.on hk5) (fun g hg => by have := hk5.size; omega) ⟨t.toArray⟩ (by show out.length + t.toArray.size ≤ _; simp; omega))
        have HK5 := Lib.hid (HK3.out.trans hk5)
        clear hk5 HB3 HK3 HPt t0
        go_wp2_with (go_at_call 22; go_loud (refine HW.out.mono ?_); rintro e w4 ⟨rfl, hB4, hk4⟩)
        go_step3
        refine ⟨rfl, OnA.mk (i := i + n + 1) (u := u + 1) rfl ⟨⟨O', out ++ t, HR.out, HOu2.out, hB4⟩, HK5.out.step hk4 (fun g hg => .inr (by omega)), by omega, by omega⟩, ?_⟩
        simp [intOf]; omega
      · have hd : args.getD u ⟨#[]⟩ = ⟨#[]⟩ := by rw [List.getD_eq_getElem?_getD, List.getElem?_eq_none (by omega)]; rfl
        rw [hd] at HPt
        clear hd
        go_upto_region 15 with (go_at_call 20; go_loud (refine (HRd.out _).mono ?_); rintro e w2 ⟨rfl, hk2⟩)
        have ka : Keeps NoB w1 (w2.alloc (.cells #[.bool p.left, .bool p.zero, .int .i64 p.width, .int .i64 p.prec, .int .u8 (p.kind.toNat : Int)] 50)) := hk2.alloc _
        have HB3 := Lib.hid (HB.out.on ka)
        have HK3 := Lib.hid (HK.out.trans ka)
        have hs3 := ka.size
        clear hk2 ka HB HK HRd
        go_upto_region 25 with (go_at_call 21; go_loud (refine (HPt.out _ (HDB.out.on HK3.out)).mono ?_); rintro e w5 ⟨rfl, hk5⟩)
        have HW := Lib.hid (sbWriteString_any (HB3.out.on hk5) (fun g hg => by have := hk5.size; omega) ⟨t.toArray⟩ (by show out.length + t.toArray.size ≤ _; simp; omega))
        have HK5 := Lib.hid (HK3.out.trans hk5)
        clear hk5 HB3 HK3 HPt
        go_wp2_with (go_at_call 22; go_loud (refine HW.out.mono ?_); rintro e w4 ⟨rfl, hB4, hk4⟩)
        go_step3
        refine ⟨rfl, OnA.mk (i := i + n + 1) (u := u + 1) rfl ⟨⟨O', out ++ t, HR.out, HOu2.out, hB4⟩, HK5.out.step hk4 (fun g hg => .inr (by omega)), by omega, by omega⟩, ?_⟩
        simp [intOf]; omega

end Go.Proofs.YtokpmakhhhlbkaaDoor
