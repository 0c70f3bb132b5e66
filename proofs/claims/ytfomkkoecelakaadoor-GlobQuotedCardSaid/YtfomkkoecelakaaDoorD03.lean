/-
  The shelf's contracts of strings.Repeat and of strings.Builder laid at this program (numbers by the shelf's own command, in plain words).
-/
import Derived.Test.YtfomkkoecelakaaDoorProg
import Derived.Test.YtfomkkoecelakaaDoorB01
import Derived.Shelf.Strings.Repeat
import Derived.Test.YtfomkkoecelakaaDoorD01
import Derived.Lib.Builder
import Derived.Lib.AppendStr
import Derived.Test.YtfomkkoecelakaaDoorB23
import Derived.Test.YtfomkkoecelakaaDoorB04
import Derived.Lib.ConvBytes
import Derived.Laws.IdiomStrings

set_option linter.unusedSimpArgs false
set_option linter.unusedVariables false

set_option maxRecDepth 100000
namespace Go.Proofs.YtfomkkoecelakaaDoor
open Go Go.Shelf Go.RowKit



def lays169_ren : Go.Shelf.Ren :=
{
  f := fun x =>
    match x with
    | 169 => 57
    | n => n,
  t := fun x =>
    match x with
    | 70 => 121
    | 9 => 9
    | 0 => 0
    | 72 => 123
    | 37 => 76
    | 127 => 143
    | 3 => 3
    | 5 => 5
    | n => n,
  g := fun x =>
    have n := x;
    n }
theorem lays169 : Lays.n169 Tryd.prog lays169_ren :=
{ mixed := Eq.refl true, f169 := Eq.trans Tryd.func57 (congrArg some (Eq.refl (Body.n169 lays169_ren))),
  t0 := Tryd.underlying0, a0 := Tryd.isAgg0, z0 := Tryd.sizeOf0, v0 := Tryd.zeroValue0, t3 := Tryd.underlying3,
  a3 := Tryd.isAgg3, z3 := Tryd.sizeOf3, v3 := Tryd.zeroValue3, t9 := Tryd.underlying9, a9 := Tryd.isAgg9,
  z9 := Tryd.sizeOf9, v9 := Tryd.zeroValue9, t37 := Tryd.underlying76, a37 := Tryd.isAgg76, z37 := Tryd.sizeOf76,
  v37 := Tryd.zeroValue76, t70 := Tryd.underlying121, a70 := Tryd.isAgg121, z70 := Tryd.sizeOf121,
  v70 := Tryd.zeroValue121, t72 := Tryd.underlying123, a72 := Tryd.isAgg123, z72 := Tryd.sizeOf123,
  v72 := Tryd.zeroValue123, t127 := Tryd.underlying143, a127 := Tryd.isAgg143, z127 := Tryd.sizeOf143,
  v127 := Tryd.zeroValue143 }


end Go.Proofs.YtfomkkoecelakaaDoor

/-
  strings.Builder: what is written to it, byte by byte, by rows of bytes and by strings.
-/
set_option maxRecDepth 100000
set_option maxHeartbeats 4000000
namespace Go.Proofs.YtfomkkoecelakaaDoor
open Go Go.RowKit

/-- A byte in a cell. -/
def encU8 : Enc UInt8 where
  enc := fun c => [.int .u8 (c.toNat : Int)]
  k := 1
  pos := by decide
  len := fun _ => rfl
  one := fun x v hv => by simp at hv; subst hv; rfl
theorem tU8 : ElemT Tryd.prog encU8 76 5 0 1 :=
  elemOf (.int .u8 0) Tryd.underlying76 (by kernel_rfl) rfl

/-- A Builder at b that holds the bytes s; its row lies in a block of S. -/
structure BA (S : Nat → Prop) (w : World) (b : Nat) (s : List UInt8) : Prop where
  ex : ∃ p v, w.heap[b]? = some (.cells #[p, v] 123 (0, 0)) ∧ (p = .pointer none ∨ p = .pointer (some ⟨b, 0, none⟩)) ∧ Own encU8 5 S w v s
  nS : ¬ S b

section
variable {S : Nat → Prop} {w w' : World} {b : Nat} {s : List UInt8}

theorem BA.lt (h : BA S w b s) : b < w.heap.size := by
  obtain ⟨p, v, h1, _⟩ := h.ex
  exact lt_of_block h1
theorem BA.keep {F : Nat → Prop} (h : BA S w b s) (k : Keeps F w w') (hb : ¬ F b) (hF : ∀ g, S g → ¬ F g) : BA S w' b s := by
  obtain ⟨p, v, h1, h2, h3⟩ := h.ex
  exact ⟨⟨p, v, (k.block b (lt_of_block h1) hb).trans h1, h2, h3.keep k (fun g hg => hF g (h3.2 g hg))⟩, h.nS⟩
theorem BA.on (h : BA S w b s) (k : Keeps NoB w w') : BA S w' b s := h.keep k (fun h => h) (fun _ _ h => h)
theorem BA.mono {S' : Nat → Prop} (h : BA S w b s) (hS : ∀ g, S g → g < w.heap.size → S' g) (hn : ¬ S' b) : BA S' w b s := by
  obtain ⟨p, v, h1, h2, h3⟩ := h.ex
  exact ⟨⟨p, v, h1, h2, h3.mono (fun g hg hs => hS g hs (h3.lt g hg))⟩, hn⟩
/-- A new one. -/
theorem BA.new (w : World) (hn : ¬ S w.heap.size) : BA S (w.alloc (.cells #[.pointer none, .slice none 0 0] 123)) w.heap.size [] :=
  ⟨⟨_, _, heap_alloc_new w _, .inl rfl, Own.nil _ _ _ _⟩, hn⟩

theorem grown_keeps {r : Option Nat} (h : w.grownBy w' r) : Keeps (fun g => r = some g) w w' :=
  ⟨h.os, h.tape, h.output, h.size, fun k hk hn => h.block k hk (fun e => hn e.symm)⟩

/-- Behind copyCheck the Builder knows itself. -/
theorem sbCopy_any (h : BA S w b s) : Calls Tryd.prog 74 #[.pointer (some ⟨b, 0, none⟩)] w fun e w' => e = .returned (.tuple #[]) ∧
    (∃ v, w'.heap[b]? = some (.cells #[.pointer (some ⟨b, 0, none⟩), v] 123 (0, 0)) ∧ Own encU8 5 S w' v s) ∧ Keeps (fun g => g = b) w w' := by
  obtain ⟨p, v, h1, h2, h3⟩ := h.ex
  have c0 : w.cell? ⟨b, 0, none⟩ = some p := by rw [Lib.cell_of_heap h1]; rfl
  have hj : ((Tryd.prog.info? 123).map (·.size)) = some 2 := by kernel_rfl
  obtain ⟨j, hj, hjs⟩ := Option.map_eq_some_iff.1 hj
  rcases h2 with rfl | rfl
  · have hsh : w.shape? b = some (123, 2) := by simp [World.shape?, h1]
    have hfz : w.frozen? ⟨b, 0, none⟩ = false := Lib.frozen_of_heap h1 0
    have HR : Hid (∃ v', (w.setCell ⟨b, 0, none⟩ (.pointer (some ⟨b, 0, none⟩))).heap[b]? = some (.cells #[.pointer (some ⟨b, 0, none⟩), v'] 123 (0, 0)) ∧ Own encU8 5 S (w.setCell ⟨b, 0, none⟩ (.pointer (some ⟨b, 0, none⟩))) v' s) := by
      refine ⟨v, ?_, h3.keep (kset w ⟨b, 0, none⟩ _) (fun g hg e => h.nS (by rw [← show g = b from e]; exact h3.2 g hg))⟩
      simp [World.setCell, Array.getElem?_modify, h1]
    have HK := Lib.hid (kset w ⟨b, 0, none⟩ (.pointer (some ⟨b, 0, none⟩)))
    clear h h1 h3
    have hto := fun wx : World => fun (hs : wx.shape? b = some (123, 2)) => Lib.run_to_unsafe (P := Tryd.prog) wx (src := 121) (dst := 152) ⟨b, 0, none⟩ Tryd.underlying121 Tryd.underlying152 hj (by rw [hjs]; decide) hs (Nat.zero_lt_succ 1)
    have hto1 := Lib.hid (hto w hsh)
    clear hto
    go_enter Tryd.func74, Tryd.ntmps74
    go_wp2
    rw [hto1.out]
    simp only [Result.andThen]
    rw [Oper.upon_value]
    go_wp2
    rw [run_callFunc_extern Tryd.func87 (by kernel_rfl) (by kernel_rfl) (by kernel_rfl) (e := Extern.AbiNoEscape.same) (by kernel_rfl)]
    rw [Lib.run_noEscape]
    simp only [Result.andThen]
    rw [Oper.upon_value]
    go_wp2
    rw [Lib.run_from_unsafe w ⟨b, 0, none⟩ Tryd.underlying152 Tryd.underlying121 hj hsh (by kernel_rfl)]
    simp only [Result.andThen]
    rw [Oper.upon_value]
    go_wp2
    go_end0
    exact ⟨rfl, HR.out, HK.out⟩
  · have H3 := Lib.hid h3
    have H1 := Lib.hid h1
    clear h h1 h3
    go_enter Tryd.func74, Tryd.ntmps74
    go_wp2
    rw [Lib.run_neq_ptr_same w _ Tryd.underlying121 hj]
    go_wp2
    go_end0
    exact ⟨rfl, ⟨v, H1.out, H3.out⟩, Keeps.refl _ _⟩

/-- What is behind a write: the row that was, or a new one, laid into the Builder. -/
theorem ba_put {w1 w2 : World} {v v' : Value} {s' : List UInt8} (h1 : w1.heap[b]? = some (.cells #[.pointer (some ⟨b, 0, none⟩), v] 123 (0, 0))) (ho : Own encU8 5 S w1 v s) (hn : ¬ S b)
    (h2 : Own encU8 5 S w2 v' s') (k : Keeps (fun g => v.ownBlock = some g) w1 w2) :
    w2.cell? ⟨b, 0, none⟩ = some (.pointer (some ⟨b, 0, none⟩)) ∧ w2.cell? ⟨b, 1, none⟩ = some v ∧ w2.frozen? ⟨b, 1, none⟩ = false ∧ BA S (w2.setCell ⟨b, 1, none⟩ v') b s' ∧ Keeps (fun g => g = b ∨ S g) w1 (w2.setCell ⟨b, 1, none⟩ v') := by
  have hb2 : w2.heap[b]? = some (.cells #[.pointer (some ⟨b, 0, none⟩), v] 123 (0, 0)) := (k.block b (lt_of_block h1) (fun e => hn (ho.2 b e))).trans h1
  refine ⟨by rw [Lib.cell_of_heap hb2]; rfl, by rw [Lib.cell_of_heap hb2]; rfl, Lib.frozen_of_heap hb2 1, ⟨⟨.pointer (some ⟨b, 0, none⟩), v', ?_, .inr rfl, h2.keep (kset w2 ⟨b, 1, none⟩ _) (fun g hg e => hn (by rw [← show g = b from e]; exact h2.2 g hg))⟩, hn⟩, ?_⟩
  · simp [World.setCell, Array.getElem?_modify, hb2]
  · exact (k.mono (fun g _ hg => .inr (ho.2 g hg))).trans ((kset w2 ⟨b, 1, none⟩ v').mono (fun g _ hg => .inl hg))

theorem src_str (x : ByteArray) (w : World) : Src Tryd.prog encU8.k 9 (.string x) x.data.toList.length (x.data.toList.flatMap encU8.enc) w := by
  have h := Src.ofString (P := Tryd.prog) w (tx := 9) Tryd.underlying9 x
  have e1 : x.data.toList.length = x.size := len_data x
  have e2 : x.data.toList.flatMap encU8.enc = byteCells x := by
    unfold byteCells encU8
    generalize x.data.toList = l
    induction l with
    | nil => rfl
    | cons a l ih => simp [List.flatMap_cons, ih]
  rw [e1, e2]
  exact h

theorem sbWriteString_any (h : BA S w b s) (hS : ∀ g, w.heap.size ≤ g → S g) (x : ByteArray) (hl : s.length + x.size ≤ 4294967296) :
    Calls Tryd.prog 56 #[.pointer (some ⟨b, 0, none⟩), .string x] w fun e w' => e = .returned (.tuple #[.int .i64 x.size, .nilIface]) ∧ BA S w' b (s ++ x.data.toList) ∧ Keeps (fun g => g = b ∨ S g) w w' := by
  have HC := Lib.hid (sbCopy_any h)
  have HN := Lib.hid h.nS
  have HS := Lib.hid hS
  have hlx : x.data.toList.length = x.size := len_data x
  clear h hS
  go_enter Tryd.func56, Tryd.ntmps56
  go_upto_region 2 with (go_at_call 74; go_loud (refine HC.out.mono ?_); rintro e w1 ⟨rfl, ⟨v, h1, h3⟩, k1⟩)
  have c1 : w1.cell? ⟨b, 1, none⟩ = some v := by rw [Lib.cell_of_heap h1]; rfl
  have hs1 := k1.size
  have H1 := Lib.hid h1
  have H3 := Lib.hid h3
  have HK := Lib.hid k1
  clear HC h1 h3 k1
  go_wp2_with (at_builtin; go_loud (refine wpl_appendS rfl (.tmp 12) (.tmp 13) rfl tU8 H3.out (src_str x w1) rfl rfl (HS.out _ (by omega)) (by rw [hlx]; simp [maxLen]; omega) (by rw [hlx]; omega) ?_))
  intro v' w2 ho2 hk2 _
  obtain ⟨d0, d1, f1, hB, hK⟩ := ba_put H1.out H3.out HN.out ho2 hk2
  have HB := Lib.hid hB
  have HK2 := Lib.hid ((HK.out.mono (F := fun g => g = b) (G := fun g => g = b ∨ S g) (fun g _ hg => .inl hg)).trans hK)
  obtain ⟨a2, n2, c2, rfl⟩ : ∃ a2 n2 c2, v' = .slice a2 n2 c2 := by
    rcases ho2.cases with ⟨hv, _⟩ | ⟨g, cap, cur, hv, _⟩
    · exact ⟨_, _, _, hv⟩
    · exact ⟨_, _, _, hv⟩
  clear ho2 hk2 hB hK c1 H1 H3 HS HN
  go_wp2
  go_ret2
  exact ⟨rfl, HB.out, HK2.out⟩
end

end Go.Proofs.YtfomkkoecelakaaDoor

/-
  Layer 10, plain: bytes that stand for themselves, bytes behind backslashes. No program in sight.
-/
set_option maxRecDepth 100000
namespace Go.Proofs.YtfomkkoecelakaaDoor

/-- Does a byte stand for itself? -/
def plnB (z : Int) : Bool := decide (32 ≤ z) && decide (z ≤ 126) && !decide (z = 37) && !decide (z = 92) && !decide (z = 39)
def plnC (c : UInt8) : Bool := plnB (c.toNat : Int)

/-- A byte in a format that tells it. -/
def escC (c : UInt8) : List UInt8 := if plnC c then [c] else [92, 48 + c / 64, 48 + c / 8 % 8, 48 + c % 8]
def escL (l : List UInt8) : List UInt8 := l.flatMap escC

theorem escC_len (c : UInt8) : (escC c).length = if plnC c then 1 else 4 := by unfold escC; split <;> rfl
theorem escL_le : ∀ l : List UInt8, (escL l).length ≤ 4 * l.length
  | [] => Nat.le_refl _
  | c :: l => by
    have h1 := escL_le l
    have h2 := escC_len c
    unfold escL at *
    rw [List.flatMap_cons, List.length_append, h2, List.length_cons]
    split <;> omega
theorem escL_snoc (l : List UInt8) (c : UInt8) : escL (l ++ [c]) = escL l ++ escC c := by unfold escL; simp
theorem take_next {l : List UInt8} {k : Nat} {c : UInt8} (h : l[k]? = some c) : l.take (k + 1) = l.take k ++ [c] := by
  obtain ⟨h1, h2⟩ := List.getElem?_eq_some_iff.1 h
  rw [List.take_succ_eq_append_getElem h1, h2]

/-- A letter's byte behind a backslash. -/
def lettC (c : UInt8) : Option UInt8 :=
  if c = 92 then some 92 else if c = 97 then some 7 else if c = 98 then some 8 else if c = 102 then some 12 else if c = 110 then some 10 else if c = 114 then some 13 else if c = 116 then some 9 else if c = 118 then some 11 else none
def isOct (c : UInt8) : Bool := decide (48 ≤ (c.toNat : Int)) && decide ((c.toNat : Int) ≤ 55)
/-- The octal digits ahead, three at most; their value. -/
def octN (l : List UInt8) : Nat := ((l.take 3).takeWhile isOct).length
def octV (l : List UInt8) : Nat := l.foldl (fun v c => 8 * v + (c.toNat - 48)) 0
/-- What stands behind a backslash: a byte, and how many bytes tell it. -/
def escR : List UInt8 → UInt8 × Nat
  | [] => (0, 0)
  | c :: l => match lettC c with
    | some v => (v, 1)
    | none => (UInt8.ofNat (octV ((c :: l).take (octN (c :: l)))), octN (c :: l))

end Go.Proofs.YtfomkkoecelakaaDoor

/-
  Layer 10: contracts: String of a Builder, plain, Escape, Escaped.
-/
set_option maxRecDepth 100000
set_option maxHeartbeats 4000000
namespace Go.Proofs.YtfomkkoecelakaaDoor
open Go Go.RowKit

theorem extra169 : Builder.Extra Tryd.prog lays169_ren where
  sizeBuilder := by kernel_rfl
  liesBuilder := by kernel_rfl
  t5 := Tryd.underlying5
  a5 := Tryd.isAgg5
  z5 := Tryd.sizeOf5
  v5 := Tryd.zeroValue5
  infoByte := by kernel_rfl
  cellsByte := by kernel_rfl
  sizeByte := by kernel_rfl
  neB5 := by decide

theorem enc_cells (l : List UInt8) : Lib.byteCells l = l.flatMap encU8.enc := by
  unfold Lib.byteCells encU8
  induction l with
  | nil => rfl
  | cons a l ih => simp [List.flatMap_cons, ih]

theorem sbString_any {S : Nat → Prop} {w : World} {b B : Nat} {s : List UInt8} (h : BA S w b s) (hS : ∀ g, S g → B ≤ g) (hb : B ≤ b) (hBw : B ≤ w.heap.size) :
    Calls Tryd.prog 57 #[.pointer (some ⟨b, 0, none⟩)] w fun e w' => e = .returned (.string ⟨s.toArray⟩) ∧ Keeps (fun g => B ≤ g) w w' := by
  obtain ⟨p, v, h1, h2, h3⟩ := h.ex
  have hI : Lib.IsBuilder 123 5 B b (Lib.byteCells s) w := by
    have hA : Lib.BuilderAt 123 5 B b p (Lib.byteCells s) w := by
      refine ⟨hb, v, h1, ?_, fun e => h.nS (h3.2 b e)⟩
      have h4 := h3.1
      rw [Lib.byteCells_length, enc_cells]
      refine ⟨h4.1, h4.2.imp id ?_⟩
      rintro ⟨g, cap, cur, hv, hg, r⟩
      exact ⟨g, cap, cur, hv, hS g (h3.2 g (by rw [hv]; rfl)), r⟩
    rcases h2 with rfl | rfl
    · exact .inl hA
    · exact .inr hA
  refine (Any.Builder_String_any lays169 extra169 B b s w hI hBw).mono ?_
  rintro e w' ⟨rfl, k⟩
  exact ⟨rfl, k.os, k.tape, k.output, k.size, fun i hi hn => k.block i (by omega)⟩

/-- A row of bytes that is read, one by one. -/
theorem oc_facts (c : UInt8) : IntKind.u8.wrap ((c.toNat : Int)) = (c.toNat : Int) := by
  have := c.toNat_lt
  show ((c.toNat : Int)) % 256 = _
  omega

/-- The row that []byte(s) lays. -/
theorem conv_sl (w : World) (s : ByteArray) (hs : s.size ≤ maxLen) :
    SlAt encU8 (fun g => g = w.heap.size) (Lib.bytesWorld w 5 s) (some ⟨w.heap.size, 0, none⟩) (grownCap w s.size 0 5) s.data.toList ∧ Keeps NoB w (Lib.bytesWorld w 5 s) := by
  have hge : s.size ≤ grownCap w s.size 0 5 := grownCap_ge w s.size 0 5
  have hle := grownCap_le_maxLen w s.size 0 5 hs
  have hsize := Lib.bytesWorld_size w 5 s
  have hl : s.data.toList.length = s.size := len_data s
  refine ⟨⟨by rw [hl]; exact hge, hle, (fun h => by cases h), (fun _ a ha => by cases ha; rfl), fun _ => ⟨w.heap.size, 0, rfl, rfl, by rw [hsize]; omega, fun j hj => ?_⟩⟩, ?_⟩
  · have hj2 : j < s.data.toList.length := by simpa [encU8] using hj
    rw [Nat.zero_add, Lib.bytesWorld_cell w 5 s j hj2]
    have := Enc.flat_get encU8 s.data.toList j 0 (by decide)
    simp only [show encU8.k = 1 from rfl, Nat.mul_one, Nat.add_zero] at this
    rw [this, List.getElem?_eq_getElem hj2]
    simp [List.getD, List.getElem?_eq_getElem hj2, encU8]
  · refine ⟨?_, ?_, ?_, by omega, fun k hk _ => Lib.bytesWorld_at_old w 5 s k hk⟩
    · simp [Lib.bytesWorld, World.freeze]; rfl
    · simp [Lib.bytesWorld, World.freeze]
    · simp [Lib.bytesWorld, World.freeze]; rfl

/-- The three octal digits, as the program reckons them. -/
theorem oct_fin : ∀ n : Fin 256, (48 + (n.val : Int) / 64) % 256 = ((48 + UInt8.ofNat n.val / 64).toNat : Int) ∧ (48 + bits BinOp.and IntKind.u8 ((n.val : Int) / 8) 7) % 256 = ((48 + UInt8.ofNat n.val / 8 % 8).toNat : Int) ∧ (48 + bits BinOp.and IntKind.u8 (n.val : Int) 7) % 256 = ((48 + UInt8.ofNat n.val % 8).toNat : Int) := by decide +kernel
theorem oct_cells (c : UInt8) : (48 + (c.toNat : Int) / 64) % 256 = ((48 + c / 64).toNat : Int) ∧ (48 + bits BinOp.and IntKind.u8 ((c.toNat : Int) / 8) 7) % 256 = ((48 + c / 8 % 8).toNat : Int) ∧ (48 + bits BinOp.and IntKind.u8 (c.toNat : Int) 7) % 256 = ((48 + c % 8).toNat : Int) := by
  have := oct_fin ⟨c.toNat, c.toNat_lt⟩
  simpa using this

end Go.Proofs.YtfomkkoecelakaaDoor

/-
  Layer 20: contracts of package field: Text.
-/
set_option maxRecDepth 100000
set_option maxHeartbeats 4000000
namespace Go.Proofs.YtfomkkoecelakaaDoor
open Go Go.RowKit

/-- A field without its quotes. -/
def fiL (pl : List (ByteArray × Bool)) : List UInt8 := pl.flatMap fun p => p.1.data.toList
theorem fiL_len : ∀ (pl : List (ByteArray × Bool)) (n : Nat), (∀ p ∈ pl, p.1.size ≤ n) → (fiL pl).length ≤ pl.length * n
  | [], n, _ => by simp [fiL]
  | p :: pl, n, h => by
    have h1 := fiL_len pl n (fun q hq => h q (List.mem_cons_of_mem _ hq))
    have h2 := h p List.mem_cons_self
    unfold fiL at h1 ⊢
    rw [List.flatMap_cons, List.length_append, List.length_cons, Nat.succ_mul, len_data]
    omega

theorem fiText_any {S1 : Nat → Prop} {w : World} {pa : Option Addr} {ca : Nat} {pl : List (ByteArray × Bool)} (ha : SlAt encPc S1 w pa ca pl) (hn : pl.length ≤ 10000) (hz : ∀ p ∈ pl, p.1.size ≤ 10000) :
    Calls Tryd.prog 35 #[.slice pa pl.length ca] w fun e w' => e = .returned (.string ⟨(fiL pl).toArray⟩) ∧ Keeps NoB w w' := by
  have hcap := ha.cap
  have hmax := ha.max
  unfold maxLen at hmax
  have HA := Lib.hid ha
  have HZ := Lib.hid hz
  have HB0 := Lib.hid (BA.new (S := fun g => w.heap.size < g) w (Nat.lt_irrefl _))
  have HK0 := Lib.hid ((Keeps.refl NoB w).alloc (.cells #[.pointer none, .slice none 0 0] 123))
  clear ha hz
  go_enter Tryd.func35, Tryd.ntmps35
  go_wp2
  go_loopw [8] (fun i wr => ∃ k : Nat, k ≤ pl.length ∧ i = .int .i64 k ∧ BA (fun g => w.heap.size < g) wr w.heap.size (fiL (pl.take k)) ∧ Keeps NoB w wr) (fun i _ => pl.length + 1 - (intOf i).toNat)
  case atStart => exact ⟨0, Nat.zero_le _, rfl, HB0.out, HK0.out⟩
  case round =>
    obtain ⟨k, hk, rfl, hba, hkp⟩ := hrel
    have HB := Lib.hid hba
    have HK := Lib.hid hkp
    have hlt0 := hba.lt
    clear hba hkp HB0 HK0
    by_cases hlt : k < pl.length
    · have hlz : (k : Int) < (pl.length : Int) := by omega
      obtain ⟨p, hp⟩ : ∃ p, pl[k]? = some p := ⟨_, List.getElem?_eq_getElem hlt⟩
      have hps := HZ.out p (List.mem_of_getElem? hp)
      obtain ⟨g, off, rfl, _, _, t0, t1⟩ := (HA.out.keepN HK.out).pc hp
      have HN := Lib.hid (show fiL (pl.take (k + 1)) = fiL (pl.take k) ++ p.1.data.toList by rw [tk_next hp]; unfold fiL; simp)
      have hle := fiL_len (pl.take k) 10000 (fun q hq => HZ.out q (List.mem_of_mem_take hq))
      rw [List.length_take] at hle
      have hle2 : min k pl.length * 10000 ≤ 10000 * 10000 := Nat.mul_le_mul_right _ (by omega)
      obtain ⟨s, q⟩ := p
      simp only at t0 t1 hps HN
      have HW := Lib.hid (sbWriteString_any (HB.out.on ((Keeps.refl NoB wr).alloc (.cells #[.string s, .bool q] 37))) (fun g hg => by simp at hg; omega) s (by omega))
      clear hp hle hle2
      go_wp2_with (go_at_call 56; go_loud (refine HW.out.mono ?_); rintro e w4 ⟨rfl, hB4, hk4⟩)
      go_roundw
      case rel => exact ⟨k + 1, by omega, by go_num, by rw [HN.out]; exact hB4, (HK.out.alloc _).step hk4 (fun g hg => .inr (by omega))⟩
      case measure => simp [intOf]; omega
    · obtain rfl : k = pl.length := by omega
      have hlz : ¬ (pl.length : Int) < (pl.length : Int) := by omega
      rw [List.take_length] at HB
      have HSt := Lib.hid (sbString_any (B := w.heap.size) HB.out (fun g hg => by omega) (Nat.le_refl _) (by omega))
      go_wp2_with (go_at_call 57; go_loud (refine HSt.out.mono ?_); rintro e w4 ⟨rfl, hk4⟩)
      go_ret
      exact ⟨rfl, HK.out.step hk4 (fun g hg => .inr hg)⟩

end Go.Proofs.YtfomkkoecelakaaDoor
