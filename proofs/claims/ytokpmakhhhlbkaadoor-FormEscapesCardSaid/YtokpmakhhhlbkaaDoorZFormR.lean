/-
  Layer 10: contracts: number, read, of places that an expected text has.
-/
import Derived.Test.YtokpmakhhhlbkaaDoorZFormF

set_option linter.unusedSimpArgs false
set_option linter.unusedVariables false

set_option maxRecDepth 100000
set_option maxHeartbeats 8000000
namespace Go.Proofs.YtokpmakhhhlbkaaDoor
open Go Go.RowKit

def isDig (c : UInt8) : Bool := decide (48 ≤ (c.toNat : Int)) && decide ((c.toNat : Int) ≤ 57)
def digV (l : List UInt8) : Nat := l.foldl (fun v c => 10 * v + (c.toNat - 48)) 0
theorem digV_snoc (l : List UInt8) (c : UInt8) : digV (l ++ [c]) = 10 * digV l + (c.toNat - 48) := by unfold digV; simp
theorem digV_le (l : List UInt8) (h : ∀ c ∈ l, isDig c = true) : digV l < 10 ^ l.length := by
  suffices H : ∀ (l : List UInt8) (v m : Nat), v < 10 ^ m → (∀ c ∈ l, isDig c = true) → l.foldl (fun v c => 10 * v + (c.toNat - 48)) v < 10 ^ (m + l.length) by
    have := H l 0 0 (by decide) h
    rw [Nat.zero_add] at this
    exact this
  intro l
  induction l with
  | nil => intro v m hv _; exact hv
  | cons c l ih =>
    intro v m hv hl
    have hc := hl c (by simp)
    unfold isDig at hc
    simp only [Bool.and_eq_true, decide_eq_true_eq] at hc
    have := ih (10 * v + (c.toNat - 48)) (m + 1) (by rw [Nat.pow_succ]; omega) (fun x hx => hl x (by simp [hx]))
    rw [List.foldl_cons, List.length_cons, show m + (l.length + 1) = m + 1 + l.length by omega]
    exact this

/-- Digits, three at most, and what is none behind them. -/
theorem number_any (s : ByteArray) (ds : List UInt8) (w : World) (hs : s.size ≤ 1000000000) (h3 : ds.length ≤ 3) (hp : s.data.toList.take ds.length = ds) (hd : ∀ c ∈ ds, isDig c = true) (hno : ∀ c, s.data.toList[ds.length]? = some c → isDig c = false) :
    Calls Tryd.prog 26 #[.string s] w fun e w' => e = .returned (.tuple #[.int .i64 (digV ds : Int), .int .i64 (ds.length : Int)]) ∧ w = w' := by
  have hl : s.data.toList.length = s.size := len_data s
  have HG := Lib.hid (fun (i : Nat) (h : i < s.size) => (show s.data.toList[i]? = some s[i] by rw [List.getElem?_eq_getElem (by rw [hl]; exact h)]; rfl))
  obtain ⟨l, hls⟩ : ∃ l, s.data.toList = l := ⟨_, rfl⟩
  rw [hls] at hl HG hp hno
  clear hls
  have hdl : ds.length ≤ l.length := by have := congrArg List.length hp; rw [List.length_take] at this; omega
  have HP := Lib.hid hp
  have HD := Lib.hid hd
  have HN := Lib.hid hno
  clear hp hd hno
  go_enter Tryd.func26, Tryd.ntmps26
  go_wp2
  go_loop [4, 5] (fun n v => ∃ k : Nat, k ≤ ds.length ∧ n = .int .i64 k ∧ v = .int .i64 ((digV (ds.take k) : Nat) : Int)) (fun n _ => 4 - (intOf n).toNat)
  case atStart => exact ⟨0, Nat.zero_le _, rfl, rfl⟩
  case round =>
    obtain ⟨k, hk, rfl, rfl⟩ := hrel
    by_cases hlt : k < ds.length
    · obtain ⟨c, hc⟩ : ∃ c, ds[k]? = some c := ⟨_, List.getElem?_eq_getElem hlt⟩
      have hks : k < s.size := by omega
      have hlk : l[k]? = some c := by
        have := HP.out
        rw [← this, List.getElem?_take, if_pos hlt] at hc
        exact hc
      have hsk : s[k] = c := by have := HG.out k hks; rw [hlk] at this; exact (Option.some.inj this).symm
      have hdc := HD.out c (List.mem_of_getElem? hc)
      unfold isDig at hdc
      simp only [Bool.and_eq_true, decide_eq_true_eq] at hdc
      obtain ⟨o1, o2⟩ := hdc
      have hV := digV_le (ds.take k) (fun x hx => HD.out x (List.mem_of_mem_take hx))
      have hV2 : digV (ds.take k) < 100 := Nat.lt_of_lt_of_le hV (by have := Nat.pow_le_pow_right (show 0 < 10 by decide) (show (ds.take k).length ≤ 2 by rw [List.length_take]; omega); simpa using this)
      have HN2 := Lib.hid (show digV (ds.take (k + 1)) = 10 * digV (ds.take k) + (c.toNat - 48) by rw [take_next hc, digV_snoc])
      have hk3 : ((k : Int) == 3) = false := by simp; omega
      obtain ⟨V, hVV⟩ : ∃ V, digV (ds.take k) = V := ⟨_, rfl⟩
      rw [hVV] at hV2 HN2 ⊢
      clear hc hlk hV hVV
      go_wp2
      go_round
      case rel => exact ⟨k + 1, by omega, by go_num, by rw [HN2.out]; exact congrArg (Value.int .i64) (by omega)⟩
      case measure => simp [intOf]; omega
    · obtain rfl : k = ds.length := by omega
      rw [List.take_length]
      by_cases he : ds.length < s.size
      · obtain ⟨c, hc⟩ : ∃ c, s[ds.length] = c := ⟨_, rfl⟩
        have hdc := HN.out c (by rw [HG.out _ he, hc])
        have hno : ((c.toNat : Int) < 48) ∨ (48 ≤ (c.toNat : Int) ∧ 57 < (c.toNat : Int)) := by
          unfold isDig at hdc
          simp only [Bool.and_eq_false_iff, decide_eq_false_iff_not] at hdc
          omega
        clear hdc
        rcases hno with ho | ⟨ho, ho2⟩
        all_goals
          go_wp2
          go_ret2
          exact ⟨rfl, rfl⟩
      · go_wp2
        go_ret2
        exact ⟨rfl, rfl⟩


/-- Flags that have been read. -/
def hasL (l : List UInt8) : Bool := l.any fun c => decide (c = 45)
def hasZ (l : List UInt8) : Bool := l.any fun c => decide (c = 48)
theorem hasL_snoc (l : List UInt8) (c : UInt8) : hasL (l ++ [c]) = (hasL l || decide (c = 45)) := by unfold hasL; simp
theorem hasZ_snoc (l : List UInt8) (c : UInt8) : hasZ (l ++ [c]) = (hasZ l || decide (c = 48)) := by unfold hasZ; simp

theorem results_cell_tmp2F {fn : Func} {p u t : Tmp} {ty : TypeId} (h : fn.results = #[.cell p ty, .tmp u, .tmp t]) (tmps : Array Value) (P : Program) (w : World) :
    (results fn tmps).run P w =
      ((asAddr (tmps.getD p undef)).run P w).andThen fun a w₁ => ((loadVar ty a).run P w₁).andThen fun v w₂ => .ok (.tuple #[v, tmps.getD u undef, tmps.getD t undef]) w₂ := by
  simp only [results, h]
  simp [Sem.run_bind, Result.andThen]

/-- At the label 'flags'. -/
structure RdJ (fl : List UInt8) (w w' : World) (i : Nat) : Prop where
  pb : Bk w' (w.heap.size + 1) [.bool (hasL (fl.take i)), .bool (hasZ (fl.take i)), .int .i64 0, .int .i64 (-1), .int .u8 0]
  rb : Bk w' w.heap.size [.bool false, .bool false, .int .i64 0, .int .i64 0, .int .u8 0]
  keeps : Keeps NoB w w'
  ile : i ≤ fl.length
def RdA (s : ByteArray) (fl : List UInt8) (w : World) (a' : Act) (w' : World) : Prop :=
  ∃ (fz : Nat → Value) (i : Nat), a' = { tmps := List.toArray (.string s :: fz 1 :: .pointer (some ⟨w.heap.size, 0, none⟩) :: fz 3 :: fz 4 :: .pointer (some ⟨w.heap.size + 1, 0, none⟩) :: .int .i64 (i : Int) :: fz 7 :: fz 8 :: fz 9 :: fz 10 :: fz 11 :: fz 12 :: fz 13 :: fz 14 :: fz 15 :: fz 16 :: fz 17 :: fz 18 :: fz 19 :: fz 20 :: fz 21 :: fz 22 :: fz 23 :: fz 24 :: fz 25 :: fz 26 :: fz 27 :: fz 28 :: fz 29 :: fz 30 :: fz 31 :: fz 32 :: fz 33 :: fz 34 :: fz 35 :: fz 36 :: fz 37 :: fz 38 :: fz 39 :: fz 40 :: fz 41 :: fz 42 :: fz 43 :: fz 44 :: fz 45 :: fz 46 :: fz 47 :: fz 48 :: fz 49 :: fz 50 :: fz 51 :: fz 52 :: fz 53 :: fz 54 :: fz 55 :: fz 56 :: fz 57 :: fz 58 :: fz 59 :: fz 60 :: fz 61 :: fz 62 :: fz 63 :: fz 64 :: fz 65 :: fz 66 :: fz 67 :: fz 68 :: fz 69 :: fz 70 :: fz 71 :: fz 72 :: fz 73 :: fz 74 :: fz 75 :: fz 76 :: fz 77 :: fz 78 :: fz 79 :: fz 80 :: fz 81 :: fz 82 :: fz 83 :: fz 84 :: fz 85 :: fz 86 :: fz 87 :: fz 88 :: fz 89 :: fz 90 :: fz 91 :: fz 92 :: fz 93 :: fz 94 :: fz 95 :: fz 96 :: fz 97 :: fz 98 :: fz 99 :: fz 100 :: fz 101 :: fz 102 :: fz 103 :: fz 104 :: fz 105 :: fz 106 :: fz 107 :: fz 108 :: []), defers := [] } ∧ RdJ fl w w' i
theorem RdA.mk {s : ByteArray} {fl : List UInt8} {w w' : World} {a' : Act} {i : Nat} (h : (fun fz : Nat → Value => a' = { tmps := List.toArray (.string s :: fz 1 :: .pointer (some ⟨w.heap.size, 0, none⟩) :: fz 3 :: fz 4 :: .pointer (some ⟨w.heap.size + 1, 0, none⟩) :: .int .i64 (i : Int) :: fz 7 :: fz 8 :: fz 9 :: fz 10 :: fz 11 :: fz 12 :: fz 13 :: fz 14 :: fz 15 :: fz 16 :: fz 17 :: fz 18 :: fz 19 :: fz 20 :: fz 21 :: fz 22 :: fz 23 :: fz 24 :: fz 25 :: fz 26 :: fz 27 :: fz 28 :: fz 29 :: fz 30 :: fz 31 :: fz 32 :: fz 33 :: fz 34 :: fz 35 :: fz 36 :: fz 37 :: fz 38 :: fz 39 :: fz 40 :: fz 41 :: fz 42 :: fz 43 :: fz 44 :: fz 45 :: fz 46 :: fz 47 :: fz 48 :: fz 49 :: fz 50 :: fz 51 :: fz 52 :: fz 53 :: fz 54 :: fz 55 :: fz 56 :: fz 57 :: fz 58 :: fz 59 :: fz 60 :: fz 61 :: fz 62 :: fz 63 :: fz 64 :: fz 65 :: fz 66 :: fz 67 :: fz 68 :: fz 69 :: fz 70 :: fz 71 :: fz 72 :: fz 73 :: fz 74 :: fz 75 :: fz 76 :: fz 77 :: fz 78 :: fz 79 :: fz 80 :: fz 81 :: fz 82 :: fz 83 :: fz 84 :: fz 85 :: fz 86 :: fz 87 :: fz 88 :: fz 89 :: fz 90 :: fz 91 :: fz 92 :: fz 93 :: fz 94 :: fz 95 :: fz 96 :: fz 97 :: fz 98 :: fz 99 :: fz 100 :: fz 101 :: fz 102 :: fz 103 :: fz 104 :: fz 105 :: fz 106 :: fz 107 :: fz 108 :: []), defers := [] }) (fun i => a'.tmps.toList.getD i undef))
    (J : RdJ fl w w' i) : RdA s fl w a' w' := ⟨fun i => a'.tmps.toList.getD i undef, i, h, J⟩

theorem RdJ.next {fl : List UInt8} {w w1 : World} {i : Nat} (h : RdJ fl w w1 i) (hi : i < fl.length) {x y : Value} (hx : x = .bool (hasL (fl.take (i + 1)))) (hy : y = .bool (hasZ (fl.take (i + 1)))) :
    RdJ fl w ((w1.drew.setCell ⟨w.heap.size + 1, 0, none⟩ x).setCell ⟨w.heap.size + 1, 1, none⟩ y) (i + 1) := by
  subst hx; subst hy
  have k1 := kset w1.drew ⟨w.heap.size + 1, 0, none⟩ (.bool (hasL (fl.take (i + 1))))
  have k2 := kset (w1.drew.setCell ⟨w.heap.size + 1, 0, none⟩ (.bool (hasL (fl.take (i + 1))))) ⟨w.heap.size + 1, 1, none⟩ (.bool (hasZ (fl.take (i + 1))))
  have kd : Keeps NoB w1 w1.drew := (Keeps.refl _ _).drew
  refine ⟨((h.pb.on kd).put 0 _).put 1 _, ((h.rb.on kd).keep k1 (fun e => by have : w.heap.size = w.heap.size + 1 := e; omega)).keep k2 (fun e => by have : w.heap.size = w.heap.size + 1 := e; omega), ?_, by omega⟩
  exact ((h.keeps.trans kd).setCell (.inr (Nat.le_succ _)) _).setCell (.inr (Nat.le_succ _)) _

theorem read_flags (s : ByteArray) (fl ds rest : List UInt8) (k : UInt8) (w : World) (hs : s.size ≤ 1000000000) (hl : s.data.toList = fl ++ (ds ++ k :: rest)) (hf : ∀ c ∈ fl, c = 45 ∨ c = 48) (h3 : ds.length ≤ 3) (hd : ∀ c ∈ ds, isDig c = true) (h0 : ∀ c, ds.head? = some c → c ≠ 48)
    (hk : isDig k = false) (hk2 : k ≠ 45) (hk3 : k ≠ 46) (hix : 0 ≤ bIdx ⟨#[37, 115, 98, 99, 100, 105, 111, 117, 120, 88]⟩ k) :
    Calls Tryd.prog 20 #[.string s] w fun e w' => e = .returned (.tuple #[(Sp.mk (hasL fl) (hasZ fl) (digV ds) (-1) k).val, .int .i64 ((fl.length + ds.length + 1 : Nat) : Int), .bool true]) ∧ Keeps NoB w w' := by
  have hls : s.data.toList.length = s.size := len_data s
  have HG := Lib.hid (fun (i : Nat) (h : i < s.size) => (show s.data.toList[i]? = some s[i] by rw [List.getElem?_eq_getElem (by rw [hls]; exact h)]; rfl))
  have HL := Lib.hid hl
  have HF := Lib.hid hf
  have hsz : fl.length + ds.length + 1 ≤ s.size := by rw [← hls, hl]; simp; omega
  clear hl hf hls
  go_enter Tryd.func20, Tryd.ntmps20
  go_wp2
  refine wp_scope_goto 0 (RdA s fl w) (fun a' _ => s.size - (intOf (a'.tmps.getD 6 undef)).toNat) rfl ?_ ?_
  · intro HJ
    have HJ' := Lib.hid HJ
    clear HJ
    go_wp2
    go_step3
    go_step
    go_step
    refine HJ'.out _ _ ?_
    have k1 : Keeps NoB w (w.alloc (.cells #[.bool false, .bool false, .int .i64 0, .int .i64 0, .int .u8 0] 50)) := (Keeps.refl _ _).alloc _
    have k2 : Keeps NoB (w.alloc (.cells #[.bool false, .bool false, .int .i64 0, .int .i64 0, .int .u8 0] 50)) ((w.alloc (.cells #[.bool false, .bool false, .int .i64 0, .int .i64 0, .int .u8 0] 50)).alloc (.cells #[.bool false, .bool false, .int .i64 0, .int .i64 (-1), .int .u8 0] 50)) := (Keeps.refl _ _).alloc _
    have hb1 := Bk.new k2
    have hb2 := Bk.new (Keeps.refl NoB ((w.alloc (.cells #[.bool false, .bool false, .int .i64 0, .int .i64 0, .int .u8 0] 50)).alloc (.cells #[.bool false, .bool false, .int .i64 0, .int .i64 (-1), .int .u8 0] 50)))
    rw [show (w.alloc (.cells #[.bool false, .bool false, .int .i64 0, .int .i64 0, .int .u8 0] 50)).heap.size = w.heap.size + 1 by simp] at hb2
    exact RdA.mk (i := 0) rfl ⟨hb2, hb1, k1.trans k2, Nat.zero_le _⟩
  · rintro a' w1 ⟨fz, i, rfl, hJ⟩
    have HJ := Lib.hid hJ
    have c0 := hJ.pb.cell 0 _ rfl
    have c1 := hJ.pb.cell 1 _ rfl
    have c2 := hJ.pb.cell 2 _ rfl
    have c3 := hJ.pb.cell 3 _ rfl
    have c4 := hJ.pb.cell 4 _ rfl
    have cz := hJ.pb.fz
    have r0 := hJ.rb.cell 0 _ rfl
    have ile := hJ.ile
    clear hJ
    by_cases hlt : i < fl.length
    · obtain ⟨c, hc⟩ : ∃ c, fl[i]? = some c := ⟨_, List.getElem?_eq_getElem hlt⟩
      have hks : i < s.size := by omega
      have hsk : s[i] = c := by have := HG.out i hks; rw [HL.out, List.getElem?_append_left hlt, hc] at this; exact (Option.some.inj this).symm
      have hcc := HF.out c (List.mem_of_getElem? hc)
      have hn1 := Lib.hid (show hasL (fl.take (i + 1)) = (hasL (fl.take i) || decide (c = 45)) by rw [take_next hc, hasL_snoc])
      have hn2 := Lib.hid (show hasZ (fl.take (i + 1)) = (hasZ (fl.take i) || decide (c = 48)) by rw [take_next hc, hasZ_snoc])
      clear hc
      obtain ⟨lb, hlb⟩ : ∃ lb, hasL (fl.take i) = lb := ⟨_, rfl⟩
      obtain ⟨zb, hzb⟩ : ∃ zb, hasZ (fl.take i) = zb := ⟨_, rfl⟩
      rw [hlb] at c0 hn1
      rw [hzb] at c1 hn2
      rcases hcc with rfl | rfl
      all_goals
        go_upto_region 4 with fail
        cases lb
        all_goals
          cases zb
          all_goals
            go_region
            all_goals
              go_wp2_with fail
              go_step3
              refine ⟨rfl, RdA.mk (i := i + 1) rfl (HJ.out.next hlt (by rw [hn1.out]; rfl) (by rw [hn2.out]; rfl)), ?_⟩
              simp [intOf]; omega
    · obtain rfl : i = fl.length := by omega
      have hpb := HJ.out.pb
      rw [List.take_length] at c0 c1 hpb
      have HPB := Lib.hid hpb
      have HRB := Lib.hid HJ.out.rb
      have HK := Lib.hid HJ.out.keeps
      have hi0 : fl.length < s.size := by omega
      have hik : fl.length + ds.length < s.size := by omega
      obtain ⟨c, hc⟩ : ∃ c, s[fl.length] = c := ⟨_, rfl⟩
      have hsk : s[fl.length + ds.length] = k := by
        have := HG.out (fl.length + ds.length) hik
        rw [HL.out, List.getElem?_append_right (by omega), List.getElem?_append_right (by omega)] at this
        rw [show fl.length + ds.length - fl.length - ds.length = 0 by omega] at this
        exact (Option.some.inj this).symm
      have hcn : c ≠ 45 ∧ c ≠ 48 := by
        have h1 := HG.out fl.length hi0
        rw [HL.out, List.getElem?_append_right (by omega), Nat.sub_self, hc] at h1
        cases hds : ds with
        | nil =>
          rw [hds] at h1
          obtain rfl : k = c := by simpa using h1
          refine ⟨hk2, fun e => ?_⟩
          rw [e] at hk
          exact absurd hk (by decide)
        | cons d r =>
          rw [hds] at h1 hd h0
          obtain rfl : d = c := by simpa using h1
          refine ⟨fun e => ?_, h0 d rfl⟩
          have := hd d (by simp)
          rw [e] at this
          exact absurd this (by decide)
      have b45 : ((c.toNat : Int) == 45) = false := by
        have : c.toNat ≠ 45 := fun e => hcn.1 (by apply UInt8.toNat_inj.1; rw [e]; rfl)
        simp; omega
      have b48 : ((c.toNat : Int) == 48) = false := by
        have : c.toNat ≠ 48 := fun e => hcn.2 (by apply UInt8.toNat_inj.1; rw [e]; rfl)
        simp; omega
      have b46 : ((k.toNat : Int) == 46) = false := by
        have : k.toNat ≠ 46 := fun e => hk3 (by apply UInt8.toNat_inj.1; rw [e]; rfl)
        simp; omega
      obtain ⟨x, hx⟩ : ∃ x, s.extract fl.length s.size = x := ⟨_, rfl⟩
      have hxl : x.data.toList = ds ++ k :: rest := by rw [← hx, sub_list, HL.out, List.drop_left]
      have hxs : x.size ≤ s.size := by rw [← hx, ByteArray.size_extract]; omega
      have HNm := Lib.hid (fun wx : World => number_any x ds wx (by omega) h3 (by rw [hxl, List.take_left]) hd (fun c hc => by rw [hxl, List.getElem?_append_right (Nat.le_refl _), Nat.sub_self] at hc; simp at hc; rw [← hc]; exact hk))
      have HIb := Lib.hid (fun wx : World => ib_any ⟨#[37, 115, 98, 99, 100, 105, 111, 117, 120, 88]⟩ (k.toNat : Int) wx)
      rw [show ((k.toNat : Int).toNat.toUInt8) = k by simp] at HIb
      obtain ⟨bi, hbi⟩ : ∃ bi, bIdx ⟨#[37, 115, 98, 99, 100, 105, 111, 117, 120, 88]⟩ k = bi := ⟨_, rfl⟩
      rw [hbi] at HIb hix
      have HDV := Lib.hid (rfl : digV ds = digV ds)
      obtain ⟨V, hV⟩ : ∃ V, digV ds = V := ⟨_, rfl⟩
      rw [hV] at HNm
      have HV := Lib.hid hV
      obtain ⟨lb, hlb⟩ : ∃ lb, hasL fl = lb := ⟨_, rfl⟩
      obtain ⟨zb, hzb⟩ : ∃ zb, hasZ fl = zb := ⟨_, rfl⟩
      rw [hlb] at c0
      rw [hzb] at c1
      rw [hlb, hzb] at HPB
      have Hlb := Lib.hid hlb
      have Hzb := Lib.hid hzb
      clear hpb hcn hxl hd h0 hk hk2 hk3 hbi hV hlb hzb HJ HDV
      go_upto_region 8 with (go_at_call 26; go_loud (refine (HNm.out _).mono ?_); rintro e w' ⟨rfl, rfl⟩)
      have k1 := kset w1 ⟨w.heap.size + 1, 2, none⟩ (.int .i64 (V : Int))
      have HP2 := Lib.hid (HPB.out.put 2 (.int .i64 (V : Int)))
      have HR2 := Lib.hid (HRB.out.keep k1 (fun e => by have : w.heap.size = w.heap.size + 1 := e; omega))
      have HK2 := Lib.hid (HK.out.setCell (p := ⟨w.heap.size + 1, 2, none⟩) (.inr (Nat.le_succ _)) (.int .i64 (V : Int)))
      clear c0 c1 c2 c3 c4 cz r0 k1 HPB HRB HK
      generalize w1.setCell ⟨w.heap.size + 1, 2, none⟩ (.int .i64 (V : Int)) = w2 at *
      have hne : ((fl.length : Int) + (ds.length : Int) == (s.size : Int)) = false := by simp; omega
      have hV0 : ¬ (V : Int) < 0 := by omega
      have hbi : ¬ bi < 0 := by omega
      have c2 := HP2.out.cell 2 _ rfl
      have c4 := HP2.out.cell 4 _ rfl
      have cz := HP2.out.fz
      go_upto_region 16 with (go_at_call 24; go_loud (refine (HIb.out _).mono ?_); rintro e w' ⟨rfl, rfl⟩)
      have k2 := kset w2 ⟨w.heap.size + 1, 4, none⟩ (.int .u8 (k.toNat : Int))
      have HP3 := Lib.hid (HP2.out.put 4 (.int .u8 (k.toNat : Int)))
      have HR3 := Lib.hid (HR2.out.keep k2 (fun e => by have : w.heap.size = w.heap.size + 1 := e; omega))
      have HK3 := Lib.hid (HK2.out.setCell (p := ⟨w.heap.size + 1, 4, none⟩) (.inr (Nat.le_succ _)) (.int .u8 (k.toNat : Int)))
      clear c2 c4 cz k2 HP2 HR2 HK2
      generalize w2.setCell ⟨w.heap.size + 1, 4, none⟩ (.int .u8 (k.toNat : Int)) = w3 at *
      have c0 := HP3.out.cell 0 _ rfl
      have c1 := HP3.out.cell 1 _ rfl
      have c2 := HP3.out.cell 2 _ rfl
      have c3 := HP3.out.cell 3 _ rfl
      have c4 := HP3.out.cell 4 _ rfl
      have r0 := HR3.out.cell 0 _ rfl
      have r1 := HR3.out.cell 1 _ rfl
      have r2 := HR3.out.cell 2 _ rfl
      have r3 := HR3.out.cell 3 _ rfl
      have r4 := HR3.out.cell 4 _ rfl
      have rz := HR3.out.fz
      go_wp2_with fail
      simp only [Exit.jump]
      have HRF := Lib.hid (((((HR3.out.put 0 (.bool lb)).put 1 (.bool zb)).put 2 (.int .i64 (V : Int))).put 3 (.int .i64 (-1))).put 4 (.int .u8 (k.toNat : Int)))
      have HKF := Lib.hid (((((HK3.out.setCell (p := ⟨w.heap.size, 0, none⟩) (.inr (Nat.le_refl _)) (.bool lb)).setCell (p := ⟨w.heap.size, 1, none⟩) (.inr (Nat.le_refl _)) (.bool zb)).setCell (p := ⟨w.heap.size, 2, none⟩) (.inr (Nat.le_refl _)) (.int .i64 (V : Int))).setCell (p := ⟨w.heap.size, 3, none⟩) (.inr (Nat.le_refl _)) (.int .i64 (-1))).setCell (p := ⟨w.heap.size, 4, none⟩) (.inr (Nat.le_refl _)) (.int .u8 (k.toNat : Int)))
      clear c0 c1 c2 c3 c4 r0 r1 r2 r3 r4 rz HP3 HR3 HK3
      generalize ((((w3.setCell ⟨w.heap.size, 0, none⟩ (.bool lb)).setCell ⟨w.heap.size, 1, none⟩ (.bool zb)).setCell ⟨w.heap.size, 2, none⟩ (.int .i64 (V : Int))).setCell ⟨w.heap.size, 3, none⟩ (.int .i64 (-1))).setCell ⟨w.heap.size, 4, none⟩ (.int .u8 (k.toNat : Int)) = wf at *
      have r0 : wf.cell? ⟨w.heap.size, 0, none⟩ = some (.bool lb) := HRF.out.cell 0 _ rfl
      have r1 : wf.cell? ⟨w.heap.size, 1, none⟩ = some (.bool zb) := HRF.out.cell 1 _ rfl
      have r2 : wf.cell? ⟨w.heap.size, 2, none⟩ = some (.int .i64 (V : Int)) := HRF.out.cell 2 _ rfl
      have r3 : wf.cell? ⟨w.heap.size, 3, none⟩ = some (.int .i64 (-1)) := HRF.out.cell 3 _ rfl
      have r4 : wf.cell? ⟨w.heap.size, 4, none⟩ = some (.int .u8 (k.toNat : Int)) := HRF.out.cell 4 _ rfl
      refine bodyPost_ret (v := .tuple #[.agg #[.bool lb, .bool zb, .int .i64 (V : Int), .int .i64 (-1), .int .u8 (k.toNat : Int)], .int .i64 ((fl.length : Int) + (ds.length : Int) + 1), .bool true]) ?_ rfl ⟨?_, HKF.out⟩
      · rw [results_cell_tmp2F rfl]
        go_simp
      · unfold Sp.val
        simp only [Hlb.out, Hzb.out, HV.out]
        rfl

end Go.Proofs.YtokpmakhhhlbkaaDoor
