/-
  strings.Builder: what is written to it, byte by byte, by rows of bytes and by strings.
-/
import Derived.Test.YtokpmakhhhlbkaaDoorZFormL
import Derived.Test.YtokpmakhhhlbkaaDoorZAppS
import Derived.Test.YtokpmakhhhlbkaaDoorZKit10
import Derived.Lib.Builder
import Derived.Lib.AppendStr

set_option linter.unusedSimpArgs false
set_option linter.unusedVariables false

set_option maxRecDepth 100000
set_option maxHeartbeats 4000000
namespace Go.Proofs.YtokpmakhhhlbkaaDoor
open Go Go.RowKit

/-- A byte in a cell. -/
def encU8 : Enc UInt8 where
  enc := fun c => [.int .u8 (c.toNat : Int)]
  k := 1
  pos := by decide
  len := fun _ => rfl
  one := fun x v hv => by simp at hv; subst hv; rfl
theorem tU8 : ElemT Tryd.prog encU8 23 5 0 1 :=
  elemOf (.int .u8 0) Tryd.underlying23 (by kernel_rfl) rfl

/-- A Builder at b that holds the bytes s; its row lies in a block of S. -/
structure BA (S : Nat → Prop) (w : World) (b : Nat) (s : List UInt8) : Prop where
  ex : ∃ p v, w.heap[b]? = some (.cells #[p, v] 37 (0, 0)) ∧ (p = .pointer none ∨ p = .pointer (some ⟨b, 0, none⟩)) ∧ Own encU8 5 S w v s
  nS : ¬ S b

section
variable {S : Nat → Prop} {w w' : World} {b : Nat} {s : List UInt8}

theorem BA.lt (h : BA S w b s) : b < w.heap.size := by
  obtain ⟨p, v, h1, _⟩ := h.ex
  exact lt_of_block h1
theorem BA.keep {F : Nat → Prop} (h : BA S w b s) (k : Keeps F w w') (hb : ¬ F b) (hF : ∀ g, S g → ¬ F g) : BA S w' b s := by
  obtain ⟨p, v, h1, h2, h3⟩ := h.ex
  exact ⟨⟨p, v, (k.block b (lt_of_block h1) hb).trans h1, h2, h3.keep k (fun g hg => hF g (h3.2 g hg))⟩, h.nS⟩
theorem BA.on (h : BA S w b s) (k : Keeps NoB w w') : BA S w' b s := h.keep k (fun h => h) (fun _ _ h => h)
theorem BA.mono {S' : Nat → Prop} (h : BA S w b s) (hS : ∀ g, S g → g < w.heap.size → S' g) (hn : ¬ S' b) : BA S' w b s := by
  obtain ⟨p, v, h1, h2, h3⟩ := h.ex
  exact ⟨⟨p, v, h1, h2, h3.mono (fun g hg hs => hS g hs (h3.lt g hg))⟩, hn⟩
/-- A new one. -/
theorem BA.new (w : World) (hn : ¬ S w.heap.size) : BA S (w.alloc (.cells #[.pointer none, .slice none 0 0] 37)) w.heap.size [] :=
  ⟨⟨_, _, heap_alloc_new w _, .inl rfl, Own.nil _ _ _ _⟩, hn⟩

theorem grown_keeps {r : Option Nat} (h : w.grownBy w' r) : Keeps (fun g => r = some g) w w' :=
  ⟨h.os, h.tape, h.output, h.size, fun k hk hn => h.block k hk (fun e => hn e.symm)⟩

/-- Behind copyCheck the Builder knows itself. -/
theorem sbCopy_any (h : BA S w b s) : Calls Tryd.prog 23 #[.pointer (some ⟨b, 0, none⟩)] w fun e w' => e = .returned (.tuple #[]) ∧
    (∃ v, w'.heap[b]? = some (.cells #[.pointer (some ⟨b, 0, none⟩), v] 37 (0, 0)) ∧ Own encU8 5 S w' v s) ∧ Keeps (fun g => g = b) w w' := by
  obtain ⟨p, v, h1, h2, h3⟩ := h.ex
  have c0 : w.cell? ⟨b, 0, none⟩ = some p := by rw [Lib.cell_of_heap h1]; rfl
  have hj : ((Tryd.prog.info? 37).map (·.size)) = some 2 := by kernel_rfl
  obtain ⟨j, hj, hjs⟩ := Option.map_eq_some_iff.1 hj
  rcases h2 with rfl | rfl
  · have hsh : w.shape? b = some (37, 2) := by simp [World.shape?, h1]
    have hfz : w.frozen? ⟨b, 0, none⟩ = false := Lib.frozen_of_heap h1 0
    have HR : Hid (∃ v', (w.setCell ⟨b, 0, none⟩ (.pointer (some ⟨b, 0, none⟩))).heap[b]? = some (.cells #[.pointer (some ⟨b, 0, none⟩), v'] 37 (0, 0)) ∧ Own encU8 5 S (w.setCell ⟨b, 0, none⟩ (.pointer (some ⟨b, 0, none⟩))) v' s) := by
      refine ⟨v, ?_, h3.keep (kset w ⟨b, 0, none⟩ _) (fun g hg e => h.nS (by rw [← show g = b from e]; exact h3.2 g hg))⟩
      simp [World.setCell, Array.getElem?_modify, h1]
    have HK := Lib.hid (kset w ⟨b, 0, none⟩ (.pointer (some ⟨b, 0, none⟩)))
    clear h h1 h3
    have hto := fun wx : World => fun (hs : wx.shape? b = some (37, 2)) => Lib.run_to_unsafe (P := Tryd.prog) wx (src := 35) (dst := 64) ⟨b, 0, none⟩ Tryd.underlying35 Tryd.underlying64 hj (by rw [hjs]; decide) hs (Nat.zero_lt_succ 1)
    have hto1 := Lib.hid (hto w hsh)
    clear hto
    go_enter Tryd.func23, Tryd.ntmps23
    go_wp2
    rw [hto1.out]
    simp only [Result.andThen]
    rw [Oper.upon_value]
    go_wp2
    rw [run_callFunc_extern Tryd.func30 (by kernel_rfl) (by kernel_rfl) (by kernel_rfl) (e := Extern.AbiNoEscape.same) (by kernel_rfl)]
    rw [Lib.run_noEscape]
    simp only [Result.andThen]
    rw [Oper.upon_value]
    go_wp2
    rw [Lib.run_from_unsafe w ⟨b, 0, none⟩ Tryd.underlying64 Tryd.underlying35 hj hsh (by kernel_rfl)]
    simp only [Result.andThen]
    rw [Oper.upon_value]
    go_wp2
    go_end0
    exact ⟨rfl, HR.out, HK.out⟩
  · have H3 := Lib.hid h3
    have H1 := Lib.hid h1
    clear h h1 h3
    go_enter Tryd.func23, Tryd.ntmps23
    go_wp2
    rw [Lib.run_neq_ptr_same w _ Tryd.underlying35 hj]
    go_wp2
    go_end0
    exact ⟨rfl, ⟨v, H1.out, H3.out⟩, Keeps.refl _ _⟩

/-- What is behind a write: the row that was, or a new one, laid into the Builder. -/
theorem ba_put {w1 w2 : World} {v v' : Value} {s' : List UInt8} (h1 : w1.heap[b]? = some (.cells #[.pointer (some ⟨b, 0, none⟩), v] 37 (0, 0))) (ho : Own encU8 5 S w1 v s) (hn : ¬ S b)
    (h2 : Own encU8 5 S w2 v' s') (k : Keeps (fun g => v.ownBlock = some g) w1 w2) :
    w2.cell? ⟨b, 0, none⟩ = some (.pointer (some ⟨b, 0, none⟩)) ∧ w2.cell? ⟨b, 1, none⟩ = some v ∧ w2.frozen? ⟨b, 1, none⟩ = false ∧ BA S (w2.setCell ⟨b, 1, none⟩ v') b s' ∧ Keeps (fun g => g = b ∨ S g) w1 (w2.setCell ⟨b, 1, none⟩ v') := by
  have hb2 : w2.heap[b]? = some (.cells #[.pointer (some ⟨b, 0, none⟩), v] 37 (0, 0)) := (k.block b (lt_of_block h1) (fun e => hn (ho.2 b e))).trans h1
  refine ⟨by rw [Lib.cell_of_heap hb2]; rfl, by rw [Lib.cell_of_heap hb2]; rfl, Lib.frozen_of_heap hb2 1, ⟨⟨.pointer (some ⟨b, 0, none⟩), v', ?_, .inr rfl, h2.keep (kset w2 ⟨b, 1, none⟩ _) (fun g hg e => hn (by rw [← show g = b from e]; exact h2.2 g hg))⟩, hn⟩, ?_⟩
  · simp [World.setCell, Array.getElem?_modify, hb2]
  · exact (k.mono (fun g _ hg => .inr (ho.2 g hg))).trans ((kset w2 ⟨b, 1, none⟩ v').mono (fun g _ hg => .inl hg))

theorem sbWriteByte_any (h : BA S w b s) (hS : ∀ g, w.heap.size ≤ g → S g) (c : UInt8) (hl : s.length + 1 ≤ 4294967296) :
    Calls Tryd.prog 15 #[.pointer (some ⟨b, 0, none⟩), .int .u8 (c.toNat : Int)] w fun e w' => e = .returned .nilIface ∧ BA S w' b (s ++ [c]) ∧ Keeps (fun g => g = b ∨ S g) w w' := by
  have HC := Lib.hid (sbCopy_any h)
  have HN := Lib.hid h.nS
  have HS := Lib.hid hS
  clear h hS
  go_enter Tryd.func15, Tryd.ntmps15
  go_upto_region 2 with (go_at_call 23; go_loud (refine HC.out.mono ?_); rintro e w1 ⟨rfl, ⟨v, h1, h3⟩, k1⟩)
  have c1 : w1.cell? ⟨b, 1, none⟩ = some v := by rw [Lib.cell_of_heap h1]; rfl
  have hs1 := k1.size
  have H1 := Lib.hid h1
  have H3 := Lib.hid h3
  have HK := Lib.hid k1
  clear HC h1 h3 k1
  go_wp2_with (at_builtin; go_loud (refine wpl_append rfl (.tmp 11) (.tmp 13) rfl tU8 (H3.out.keep ((Keeps.refl NoB w1).alloc _) (fun _ _ h => h)) (own_lit (E := encU8) (e := 5) (w := w1) (S := fun _ => True) [c] #[.int .u8 (c.toNat : Int)] rfl 1 rfl trivial (by decide)).sl rfl rfl (HS.out _ (by simp; omega)) (by simp [maxLen]; omega) (by simp; omega) ?_))
  intro v' w2 ho2 hk2 _
  have ka : Keeps NoB w1 (w1.alloc (.cells #[.int .u8 (c.toNat : Int)] 5)) := (Keeps.refl _ _).alloc _
  have H1a := Lib.hid ((ka.block b (lt_of_block H1.out) (fun h => h)).trans H1.out)
  have H3a := Lib.hid (H3.out.keep ka (fun _ _ h => h))
  obtain ⟨d0, d1, f1, hB, hK⟩ := ba_put H1a.out H3a.out HN.out ho2 hk2
  have HB := Lib.hid hB
  have HK2 := Lib.hid ((HK.out.mono (F := fun g => g = b) (G := fun g => g = b ∨ S g) (fun g _ hg => .inl hg)).trans (ka.of_none.trans hK))
  obtain ⟨a2, n2, c2, rfl⟩ : ∃ a2 n2 c2, v' = .slice a2 n2 c2 := by
    rcases ho2.cases with ⟨hv, _⟩ | ⟨g, cap, cur, hv, _⟩
    · exact ⟨_, _, _, hv⟩
    · exact ⟨_, _, _, hv⟩
  clear ho2 hk2 hB hK c1 H1 H3 H1a H3a ka HS HN
  go_wp2
  go_ret
  exact ⟨rfl, HB.out, HK2.out⟩

theorem sbWrite_any (h : BA S w b s) (hS : ∀ g, w.heap.size ≤ g → S g) {p : Option Addr} {cp : Nat} {l : List UInt8} {S2 : Nat → Prop} (hl2 : SlAt encU8 S2 w p cp l) (h2b : ¬ S2 b) (hl : s.length + l.length ≤ 4294967296) :
    Calls Tryd.prog 16 #[.pointer (some ⟨b, 0, none⟩), .slice p l.length cp] w fun e w' => e = .returned (.tuple #[.int .i64 l.length, .nilIface]) ∧ BA S w' b (s ++ l) ∧ Keeps (fun g => g = b ∨ S g) w w' := by
  have HC := Lib.hid (sbCopy_any h)
  have HN := Lib.hid h.nS
  have HS := Lib.hid hS
  have HL := Lib.hid hl2
  clear h hS hl2
  go_enter Tryd.func16, Tryd.ntmps16
  go_upto_region 2 with (go_at_call 23; go_loud (refine HC.out.mono ?_); rintro e w1 ⟨rfl, ⟨v, h1, h3⟩, k1⟩)
  have c1 : w1.cell? ⟨b, 1, none⟩ = some v := by rw [Lib.cell_of_heap h1]; rfl
  have hs1 := k1.size
  have H1 := Lib.hid h1
  have H3 := Lib.hid h3
  have HK := Lib.hid k1
  have HL1 := Lib.hid (HL.out.keep k1 (fun g hg _ e => h2b (by rw [← show g = b from e]; exact hg)))
  clear HC h1 h3 k1 h2b HL
  go_wp2_with (at_builtin; go_loud (refine wpl_append rfl (.tmp 12) (.tmp 13) rfl tU8 H3.out (Sl.of HL1.out) rfl rfl (HS.out _ (by omega)) (by simp [maxLen]; omega) (by omega) ?_))
  intro v' w2 ho2 hk2 _
  obtain ⟨d0, d1, f1, hB, hK⟩ := ba_put H1.out H3.out HN.out ho2 hk2
  have HB := Lib.hid hB
  have HK2 := Lib.hid ((HK.out.mono (F := fun g => g = b) (G := fun g => g = b ∨ S g) (fun g _ hg => .inl hg)).trans hK)
  obtain ⟨a2, n2, c2, rfl⟩ : ∃ a2 n2 c2, v' = .slice a2 n2 c2 := by
    rcases ho2.cases with ⟨hv, _⟩ | ⟨g, cap, cur, hv, _⟩
    · exact ⟨_, _, _, hv⟩
    · exact ⟨_, _, _, hv⟩
  clear ho2 hk2 hB hK c1 H1 H3 HS HN HL1
  go_wp2
  go_ret2
  exact ⟨rfl, HB.out, HK2.out⟩

theorem src_str (x : ByteArray) (w : World) : Src Tryd.prog encU8.k 9 (.string x) x.data.toList.length (x.data.toList.flatMap encU8.enc) w := by
  have h := Src.ofString (P := Tryd.prog) w (tx := 9) Tryd.underlying9 x
  have e1 : x.data.toList.length = x.size := len_data x
  have e2 : x.data.toList.flatMap encU8.enc = byteCells x := by
    unfold byteCells encU8
    generalize x.data.toList = l
    induction l with
    | nil => rfl
    | cons a l ih => simp [List.flatMap_cons, ih]
  rw [e1, e2]
  exact h

theorem sbWriteString_any (h : BA S w b s) (hS : ∀ g, w.heap.size ≤ g → S g) (x : ByteArray) (hl : s.length + x.size ≤ 4294967296) :
    Calls Tryd.prog 22 #[.pointer (some ⟨b, 0, none⟩), .string x] w fun e w' => e = .returned (.tuple #[.int .i64 x.size, .nilIface]) ∧ BA S w' b (s ++ x.data.toList) ∧ Keeps (fun g => g = b ∨ S g) w w' := by
  have HC := Lib.hid (sbCopy_any h)
  have HN := Lib.hid h.nS
  have HS := Lib.hid hS
  have hlx : x.data.toList.length = x.size := len_data x
  clear h hS
  go_enter Tryd.func22, Tryd.ntmps22
  go_upto_region 2 with (go_at_call 23; go_loud (refine HC.out.mono ?_); rintro e w1 ⟨rfl, ⟨v, h1, h3⟩, k1⟩)
  have c1 : w1.cell? ⟨b, 1, none⟩ = some v := by rw [Lib.cell_of_heap h1]; rfl
  have hs1 := k1.size
  have H1 := Lib.hid h1
  have H3 := Lib.hid h3
  have HK := Lib.hid k1
  clear HC h1 h3 k1
  go_wp2_with (at_builtin; go_loud (refine wpl_appendS rfl (.tmp 12) (.tmp 13) rfl tU8 H3.out (src_str x w1) rfl rfl (HS.out _ (by omega)) (by rw [hlx]; simp [maxLen]; omega) (by rw [hlx]; omega) ?_))
  intro v' w2 ho2 hk2 _
  obtain ⟨d0, d1, f1, hB, hK⟩ := ba_put H1.out H3.out HN.out ho2 hk2
  have HB := Lib.hid hB
  have HK2 := Lib.hid ((HK.out.mono (F := fun g => g = b) (G := fun g => g = b ∨ S g) (fun g _ hg => .inl hg)).trans hK)
  obtain ⟨a2, n2, c2, rfl⟩ : ∃ a2 n2 c2, v' = .slice a2 n2 c2 := by
    rcases ho2.cases with ⟨hv, _⟩ | ⟨g, cap, cur, hv, _⟩
    · exact ⟨_, _, _, hv⟩
    · exact ⟨_, _, _, hv⟩
  clear ho2 hk2 hB hK c1 H1 H3 HS HN
  go_wp2
  go_ret2
  exact ⟨rfl, HB.out, HK2.out⟩
end

end Go.Proofs.YtokpmakhhhlbkaaDoor
