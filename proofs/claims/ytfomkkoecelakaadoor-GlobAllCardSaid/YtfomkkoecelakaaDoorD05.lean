/-
  Layer 21: a row of fields in memory, as glob.steps builds it.
-/
import Derived.Test.YtfomkkoecelakaaDoorD01
import Derived.Test.YtfomkkoecelakaaDoorB23
import Derived.Test.YtfomkkoecelakaaDoorC02
import Derived.Deep.RegionHeld3
import Derived.Deep.AppendLies
import Derived.Deep.RegionLaw

set_option linter.unusedSimpArgs false
set_option linter.unusedVariables false

set_option maxRecDepth 100000
set_option maxHeartbeats 4000000
namespace Go.Proofs.YtfomkkoecelakaaDoor
open Go Go.RowKit

/-- A slice's header as an element. -/
abbrev SvH := Option Addr × Nat × Nat
abbrev Pc := ByteArray × Bool
def svV (h : SvH) : Value := .slice h.1 h.2.1 h.2.2
def encSv : Enc SvH where
  enc := fun h => [svV h]
  k := 1
  pos := by decide
  len := fun _ => rfl
  one := fun x v hv => by simp at hv; subst hv; rfl
theorem tSv : ElemT Tryd.prog encSv 67 39 (none, 0, 0) 24 :=
  elemOf (.slice none 0 0) Tryd.underlying67 (by kernel_rfl) rfl
theorem tPc : ElemT Tryd.prog encPc 39 37 (ByteArray.empty, false) 24 :=
  elemOf (.agg #[.string ByteArray.empty, .bool false]) Tryd.underlying39 (by kernel_rfl) rfl

/-- A row of fields; the last one is owned. -/
structure StH (S : Nat → Prop) (w : World) (v : Value) (hs : List SvH) (h : SvH) (init : List (List Pc)) (last : List Pc) : Prop where
  own : Own encSv 39 S w v (hs ++ [h])
  len : hs.length = init.length
  old : ∀ (i : Nat) x l, hs[i]? = some x → init[i]? = some l → x.2.1 = l.length ∧ SlAt encPc (fun g => S g ∧ v.ownBlock ≠ some g ∧ (svV h).ownBlock ≠ some g) w x.1 x.2.2 l
  lst : Own encPc 37 S w (svV h) last
  dis : ∀ g, v.ownBlock = some g → (svV h).ownBlock ≠ some g

section
variable {S : Nat → Prop} {w w' : World} {v v' : Value} {hs : List SvH} {h h' : SvH} {init : List (List Pc)} {last : List Pc}

theorem own_len {α : Type} {E : Enc α} {e : TypeId} {l : List α} (ho : Own E e S w (svV h) l) : h.2.1 = l.length := by
  rcases ho.cases with ⟨hv, hl⟩ | ⟨g, cap, cur, hv, _⟩
  · unfold svV at hv
    injection hv with _ h2 _
    rw [h2, hl]; rfl
  · unfold svV at hv
    injection hv with _ h2 _

theorem StH.keep {F : Nat → Prop} (H : StH S w v hs h init last) (k : Keeps F w w') (hF : ∀ g, S g → ¬ F g) : StH S w' v hs h init last :=
  ⟨H.own.keep k (fun g hg => hF g (H.own.2 g hg)), H.len, fun i x l hx hl => ⟨(H.old i x l hx hl).1, (H.old i x l hx hl).2.keep k (fun g hg _ => hF g hg.1)⟩, H.lst.keep k (fun g hg => hF g (H.lst.2 g hg)), H.dis⟩
theorem StH.mono {S' : Nat → Prop} (H : StH S w v hs h init last) (hS : ∀ g, g < w.heap.size → S g → S' g) : StH S' w v hs h init last :=
  ⟨H.own.mono (fun g hg h => hS g (H.own.lt g hg) h), H.len, fun i x l hx hl => ⟨(H.old i x l hx hl).1, (H.old i x l hx hl).2.keepS (Keeps.refl NoB w) (fun _ _ _ h => h) (fun g hg hl => ⟨hS g hl hg.1, hg.2⟩)⟩, H.lst.mono (fun g hg h => hS g (H.lst.lt g hg) h), H.dis⟩
theorem StH.keepN (H : StH S w v hs h init last) (k : Keeps NoB w w') : StH S w' v hs h init last := H.keep k (fun _ _ h => h)

theorem nil_own : (svV (none, 0, 0)).ownBlock = none := rfl

/-- Behind out = append(out, nil). -/
theorem StH.push (H : StH S w v hs h init last) (ho : Own encSv 39 S w' v' ((hs ++ [h]) ++ [(none, 0, 0)])) (hk : Keeps (fun g => v.ownBlock = some g) w w') (hf : ∀ g, v'.ownBlock = some g → v.ownBlock = some g ∨ w.heap.size ≤ g) :
    StH S w' v' (hs ++ [h]) (none, 0, 0) (init ++ [last]) [] := by
  refine ⟨ho, by simp [H.len], fun i x l hx hl => ?_, Own.nil _ _ _ _, fun g _ h => by rw [nil_own] at h; cases h⟩
  by_cases hi : i < hs.length
  · rw [List.getElem?_append_left hi] at hx
    rw [List.getElem?_append_left (by rw [← H.len]; exact hi)] at hl
    obtain ⟨h1, h2⟩ := H.old i x l hx hl
    refine ⟨h1, h2.keepS hk (fun g hg _ h => hg.2.1 h) (fun g hg hlt => ⟨hg.1, fun h => ?_, fun h => by rw [nil_own] at h; cases h⟩)⟩
    rcases hf g h with h3 | h3
    · exact hg.2.1 h3
    · omega
  · have hil : i = hs.length := by
      have := (List.getElem?_eq_some_iff.1 hx).1
      simp at this; omega
    subst hil
    rw [List.getElem?_append_right (Nat.le_refl _), Nat.sub_self] at hx
    rw [H.len, List.getElem?_append_right (Nat.le_refl _), Nat.sub_self] at hl
    cases hx; cases hl
    have hln := own_len H.lst
    have hm := H.lst.mono (S' := fun g => S g ∧ (svV h).ownBlock = some g) (fun g hg hs => ⟨hs, hg⟩)
    have hd := H.dis
    unfold svV at hm hd
    rw [hln] at hm hd
    refine ⟨hln, hm.at.keepS hk (fun g hg _ hv => hd g hv hg.2) (fun g hg hlt => ⟨hg.1, fun hv => ?_, fun hv => by rw [nil_own] at hv; cases hv⟩)⟩
    rcases hf g hv with h3 | h3
    · exact hd g h3 hg.2
    · omega

theorem sv_flat (l : List SvH) : l.flatMap encSv.enc = l.map svV := by
  induction l with
  | nil => rfl
  | cons a l ih => rw [List.flatMap_cons, ih]; rfl

/-- The row's block, and where its last element lies. -/
theorem StH.spot (H : StH S w v hs h init last) : ∃ g cap, v = .slice (some ⟨g, 0, none⟩) (hs.length + 1) cap ∧ S g ∧ g < w.heap.size ∧ hs.length + 1 ≤ cap ∧ cap ≤ maxLen ∧ w.cell? ⟨g, hs.length, none⟩ = some (svV h) ∧ w.frozen? ⟨g, hs.length, none⟩ = false := by
  obtain ⟨g, cap, cur, hv, hS, hg, hcap, hmax, hsz, htk⟩ := H.own.row (by simp)
  rw [List.length_append, List.length_singleton] at hv hcap htk
  refine ⟨g, cap, hv, hS, lt_of_block hg, hcap, hmax, ?_, frozen_of_row w g _ cur _ hg⟩
  rw [cell_of_row w g _ cur _ (0, 0) hg, ← Array.getElem?_toList]
  rw [sv_flat] at htk
  have h1 := congrArg (fun l => l[hs.length]?) htk
  simp only [show encSv.k = 1 from rfl, Nat.mul_one, List.getElem?_take, List.map_append, List.map_cons, List.map_nil] at h1
  rw [if_pos (by omega), List.getElem?_append_right (by simp)] at h1
  simpa using h1

/-- Behind out[k] = append(out[k], x) at the last. -/
theorem StH.put {w1 : World} {x : Pc} (H : StH S w v hs h init last) {g cap : Nat} (hv : v = .slice (some ⟨g, 0, none⟩) (hs.length + 1) cap) (ho : Own encPc 37 S w1 (svV h') (last ++ [x])) (hk : Keeps (fun b => (svV h).ownBlock = some b) w w1)
    (hf : ∀ b, (svV h').ownBlock = some b → (svV h).ownBlock = some b ∨ w.heap.size ≤ b) :
    StH S (w1.setCell ⟨g, hs.length, none⟩ (svV h')) v hs h' init (last ++ [x]) := by
  obtain ⟨g0, cap0, cur, hv0, hS, hg, hcap, hmax, hsz, htk⟩ := H.own.row (by simp)
  rw [List.length_append, List.length_singleton] at hv0 hcap htk
  rw [hv] at hv0
  cases hv0
  have hvo : v.ownBlock = some g := by rw [hv]; rfl
  have hg1 : w1.heap[g]? = some (.cells cur 39 (0, 0)) := (hk.block g (lt_of_block hg) (fun e => H.dis g hvo e)).trans hg
  have hgl := lt_of_block hg
  have hdis : ∀ b, v.ownBlock = some b → (svV h').ownBlock ≠ some b := fun b hb e => by
    rw [hvo] at hb
    cases hb
    rcases hf g e with h3 | h3
    · exact H.dis g hvo h3
    · omega
  have hg2 : (w1.setCell ⟨g, hs.length, none⟩ (svV h')).heap[g]? = some (.cells (cur.setIfInBounds hs.length (svV h')) 39 (0, 0)) := by
    simp [World.setCell, Array.getElem?_modify, hg1]
  have hown : Own encSv 39 S (w1.setCell ⟨g, hs.length, none⟩ (svV h')) (.slice (some ⟨g, 0, none⟩) (hs ++ [h']).length cap) (hs ++ [h']) := by
    refine Own.mk (cur := cur.setIfInBounds hs.length (svV h')) hS hg2 (by simpa using hcap) hmax (by simpa using hsz) ?_
    rw [sv_flat] at htk ⊢
    simp only [show encSv.k = 1 from rfl, Nat.mul_one] at htk ⊢
    rw [Array.toList_setIfInBounds, List.length_append, List.length_singleton, List.take_set, htk]
    simp
  rw [List.length_append, List.length_singleton, ← hv] at hown
  refine ⟨hown, H.len, fun i y l hx hl => ?_, ho.keep (kset w1 ⟨g, hs.length, none⟩ _) (fun b hb e => hdis b (by rw [hvo, show b = g from e]) hb), hdis⟩
  obtain ⟨h1, h2⟩ := H.old i y l hx hl
  refine ⟨h1, (h2.keepS hk (fun b hb _ e => hb.2.2 e) (S' := fun b => S b ∧ v.ownBlock ≠ some b ∧ (svV h').ownBlock ≠ some b) (fun b hb hlt => ⟨hb.1, hb.2.1, fun e => ?_⟩)).keep (kset w1 ⟨g, hs.length, none⟩ _) (fun b hb _ e => hb.2.1 (by rw [hvo, show b = g from e]))⟩
  rcases hf b e with h3 | h3
  · exact hb.2.2 h3
  · omega
end

end Go.Proofs.YtfomkkoecelakaaDoor

/-
  Layer 21: contracts of package glob: steps.
-/
set_option maxRecDepth 100000
set_option maxHeartbeats 8000000
namespace Go.Proofs.YtfomkkoecelakaaDoor
open Go Go.RowKit

def stOne (st : List (List Pc) × List Pc) (i : Nat) (s : ByteArray) (q : Bool) : List (List Pc) × List Pc :=
  let a := if 0 < i then (st.1 ++ [st.2], []) else st
  if s.size = 0 then a else (a.1, a.2 ++ [(s, q)])
def stGo (st : List (List Pc) × List Pc) (l : List ByteArray) (q : Bool) : List (List Pc) × List Pc := l.zipIdx.foldl (fun st x => stOne st x.2 x.1 q) st
def stField (pl : List Pc) : List (List Pc) × List Pc := pl.foldl (fun st p => stGo st (pcs p.1) p.2) ([], [])
theorem stGo_next {st : List (List Pc) × List Pc} {l : List ByteArray} {q : Bool} {j : Nat} {s : ByteArray} (h : l[j]? = some s) : stGo st (l.take (j + 1)) q = stOne (stGo st (l.take j) q) j s q := by
  have hl := (List.getElem?_eq_some_iff.1 h).1
  unfold stGo
  rw [tk_next h, List.zipIdx_append, List.foldl_append]
  simp only [List.length_take, Nat.min_eq_left (Nat.le_of_lt hl), Nat.zero_add, List.zipIdx_singleton, List.foldl_cons, List.foldl_nil]
theorem stField_next {pl : List Pc} {k : Nat} {p : Pc} (h : pl[k]? = some p) : stField (pl.take (k + 1)) = stGo (stField (pl.take k)) (pcs p.1) p.2 := by
  unfold stField
  rw [tk_next h, List.foldl_append]
  rfl

/-- Blocks that are none of some others. -/
def InS (a B c g : Nat) : Prop := a ≤ g ∧ g ≠ B ∧ ¬ (B + 1 ≤ g ∧ g < c)
theorem inS_hi {a B c g : Nat} (h1 : a ≤ B) (h2 : B + 1 ≤ c) (h : c ≤ g) : InS a B c g := ⟨by omega, by omega, by omega⟩
theorem emp_d (x : ByteArray) : x.toList.isEmpty = decide (x.size = 0) := by
  rw [ByteArray.toList_eq]
  by_cases h : x.size = 0
  · rw [decide_eq_true h]; have : x.data.toList.length = 0 := by rw [len_data]; exact h
    rw [List.isEmpty_iff]; exact List.eq_nil_of_length_eq_zero this
  · rw [decide_eq_false h]; have : x.data.toList.length ≠ 0 := by rw [len_data]; exact h
    cases hl : x.data.toList with
    | nil => rw [hl] at this; simp at this
    | cons a l => rfl

/-- A row of fields, built so far. -/
def StX (S : Nat → Prop) (w : World) (v : Value) (st : List (List Pc) × List Pc) : Prop := ∃ hs h, StH S w v hs h st.1 st.2

theorem pgrown_keeps {w w' : World} {r : Option Nat} (h : w.grownBy w' r) : Keeps (fun g => r = some g) w w' := ⟨h.os, h.tape, h.output, h.size, fun k hk hn => h.block k hk (fun e => hn e.symm)⟩

theorem pcInfo : (Tryd.prog.info? 37).map (fun i => (i.zero, i.size, i.bytes)) = some (some (.agg #[.string ⟨#[]⟩, .bool false]), 2, 24) := by kernel_rfl

theorem steps_any {S1 : Nat → Prop} {w : World} {pa : Option Addr} {ca : Nat} {pl : List Pc} (ha : SlAt encPc S1 w pa ca pl) (hn : pl.length ≤ 1000) (hz : ∀ p ∈ pl, p.1.size ≤ 1000) :
    Calls Tryd.prog 20 #[.slice pa pl.length ca] w fun e w' => ∃ v, e = .returned v ∧ StX (fun g => w.heap.size ≤ g) w' v (stField pl) ∧ Keeps NoB w w' := by
  have hcap := ha.cap
  have hmax := ha.max
  unfold maxLen at hmax
  have HA := Lib.hid ha
  have HZ := Lib.hid hz
  have HSp := Lib.hid split_any
  have hS0 : StH (fun g => w.heap.size ≤ g) (w.alloc (.cells #[.slice none 0 0] 39)) (.slice (some ⟨w.heap.size, 0, none⟩) 1 1) [] (none, 0, 0) [] [] :=
    ⟨own_lit [(none, 0, 0)] _ rfl 1 rfl (Nat.le_refl _) (by decide), rfl, fun i x l hx hl => by simp at hx, Own.nil _ _ _ _, fun g _ h => by rw [nil_own] at h; cases h⟩
  have HS0 := Lib.hid hS0
  clear ha hz hS0
  go_enter Tryd.func20, Tryd.ntmps20
  go_wp2
  go_loopw [3, 12] (fun v i wr => ∃ (k : Nat) (hs : List SvH) (h : SvH), k ≤ pl.length ∧ i = .int .i64 k ∧ StH (fun g => w.heap.size ≤ g) wr v hs h (stField (pl.take k)).1 (stField (pl.take k)).2 ∧ hs.length ≤ k * 1001 ∧ (stField (pl.take k)).2.length ≤ k * 1001 ∧ Keeps NoB w wr) (fun _ i _ => pl.length + 1 - (intOf i).toNat)
  case atStart => exact ⟨0, [], (none, 0, 0), Nat.zero_le _, rfl, HS0.out, by simp, by simp [stField], (Keeps.refl _ _).alloc _⟩
  case round =>
    obtain ⟨k, hs, h, hk, rfl, hst, hb1, hb2, hkp⟩ := hrel
    have HT := Lib.hid hst
    have HK := Lib.hid hkp
    have hsz := hkp.size
    clear hst hkp HS0
    by_cases hlt : k < pl.length
    · have hlz : (k : Int) < (pl.length : Int) := by omega
      obtain ⟨p, hp⟩ : ∃ p, pl[k]? = some p := ⟨_, List.getElem?_eq_getElem hlt⟩
      have hps := HZ.out p (List.mem_of_getElem? hp)
      obtain ⟨g0, o0, rfl, _, _, t0, t1⟩ := (HA.out.keepN HK.out).pc hp
      have HN := Lib.hid (stField_next hp)
      obtain ⟨s, q⟩ := p
      simp only at t0 t1 hps HN
      have hpl := pcs_length s
      have HSs := Lib.hid (fun wx => HSp.out s wx (by omega))
      obtain ⟨st, hst⟩ : ∃ st, stField (pl.take k) = st := ⟨_, rfl⟩
      rw [hst] at HT HN hb2
      clear hp hst HSp
      go_upto_region 6 with (go_at_call 38; go_loud (refine (HSs.out _).mono ?_); rintro e w4 ⟨v4, rfl, ho4, hk4⟩; obtain ⟨p4, c4, rfl, hsl4⟩ := ho4.sl)
      have hB0 := (Bk.new (Keeps.refl NoB (wr.alloc (.cells #[.string s, .bool q] 37)))).on hk4
      have hs4 : wr.heap.size + 1 ≤ w4.heap.size := by have := hk4.size; simpa using this
      have HBx := Lib.hid hB0
      have HRow := Lib.hid (hsl4.keepS (Keeps.refl NoB w4) (S' := fun g => wr.heap.size + 1 ≤ g ∧ g < w4.heap.size) (fun _ _ _ h => h) (fun g hg hl => ⟨by simpa using hg, hl⟩))
      have hkr : Keeps NoB wr w4 := ((Keeps.refl NoB wr).alloc _).trans hk4
      have HK0 := Lib.hid (HK.out.trans hkr)
      have HT1 := Lib.hid ((HT.out.mono (S' := InS w.heap.size wr.heap.size w4.heap.size) (fun g hl hg => ⟨hg, by omega, by omega⟩)).keepN hkr)
      clear hB0 hsl4 ho4 hk4 hkr t0 t1 HSs HT HK
      have hpc := HRow.out.cap
      have hpm := HRow.out.max
      unfold maxLen at hpm
      generalize pcs s = pcl at *
      generalize wr.heap.size = B at *
      go_loopw [3, 20] (fun v i w2 => ∃ (j : Nat) (hs : List SvH) (h : SvH), j ≤ pcl.length ∧ i = .int .i64 j ∧ StH (InS w.heap.size B w4.heap.size) w2 v hs h (stGo st (pcl.take j) q).1 (stGo st (pcl.take j) q).2 ∧ hs.length ≤ k * 1001 + j ∧ (stGo st (pcl.take j) q).2.length ≤ k * 1001 + j ∧ Bk w2 B [.string s, .bool q] ∧ SlAt encStr (fun g => B + 1 ≤ g ∧ g < w4.heap.size) w2 p4 c4 pcl ∧ Keeps NoB w w2 ∧ w4.heap.size ≤ w2.heap.size) (fun _ i _ => pcl.length + 1 - (intOf i).toNat)
      case atStart =>
        exact ⟨0, hs, h, Nat.zero_le _, rfl, HT1.out, by omega, by simpa [stGo] using hb2, HBx.out, HRow.out, HK0.out, Nat.le_refl _⟩
      case round =>
        obtain ⟨j, hs, h, hj, rfl, hst, hb1, hb2, hbx, hrow, hkp, hsz2⟩ := hrel
        have HT := Lib.hid hst
        have HK := Lib.hid hkp
        have HB := Lib.hid hbx
        have HR := Lib.hid hrow
        have q1 := hbx.cell 1 _ rfl
        clear hst hkp hbx hrow HBx HRow HK0 HT1 HA HZ
        have hkk : k * 1001 ≤ 1000 * 1001 := Nat.mul_le_mul_right _ (by omega)
        by_cases hjt : j < pcl.length
        · have hjz : (j : Int) < (pcl.length : Int) := by omega
          obtain ⟨x, hx⟩ : ∃ x, pcl[j]? = some x := ⟨_, List.getElem?_eq_getElem hjt⟩
          obtain ⟨g4, o4, rfl, _, _, t2⟩ := HR.out.str hx
          have HNx := Lib.hid (stGo_next (st := st) (q := q) hx)
          obtain ⟨cu, hcu⟩ : ∃ cu, stGo st (pcl.take j) q = cu := ⟨_, rfl⟩
          rw [hcu] at HT HNx hb2
          clear hx hcu
          obtain ⟨g, cap, rfl, hgS, hgl, hgc, hgm, v0, v1⟩ := HT.out.spot
          unfold maxLen at hgm
          by_cases hj0 : 0 < j
          · have hj0z : (0 : Int) < (j : Int) := by omega
            go_wp2_with (at_builtin; go_loud (refine wpl_append rfl (.tmp 27) (.tmp 28) rfl tSv ((HT.out.own.keep ((Keeps.refl NoB wr).alloc _) (fun _ _ h => h))) (own_lit (E := encSv) (e := 39) (w := wr) (S := fun _ => True) [(none, 0, 0)] #[.slice none 0 0] rfl 1 rfl trivial (by decide)).sl rfl rfl (inS_hi hsz hs4 (by simp; omega)) (by simp [maxLen]; omega) (by simp; omega) ?_))
            intro v' w5 ho2 hk2 hf2
            have ka : Keeps NoB wr (wr.alloc (.cells #[.slice none 0 0] 39)) := (Keeps.refl NoB wr).alloc _
            have hP := (HT.out.keepN ka).push (by rw [List.append_assoc]; exact ho2) hk2 (fun b hb => by rcases hf2 b hb with h3 | h3; exact .inl h3; exact .inr (by simpa using h3))
            have hnb : ∀ b, (Value.slice (some ⟨g, 0, none⟩) (hs.length + 1) cap).ownBlock = some b → b = g := fun b hb => by
              have : some g = some b := hb
              cases this; rfl
            have HT5 := Lib.hid hP
            have HK5 := Lib.hid ((HK.out.trans ka).step hk2 (fun b hb => .inr (by rw [hnb b hb]; exact hgS.1)))
            have HB5 := Lib.hid ((HB.out.on ka).keep hk2 (fun hb => hgS.2.1 (hnb _ hb).symm))
            have HR5 := Lib.hid ((HR.out.keepN ka).keep hk2 (fun b hb _ h3 => hgS.2.2 (by rw [hnb b h3] at hb; exact hb)))
            have hs5 : w4.heap.size ≤ w5.heap.size := by have := hk2.size; simp at this; omega
            obtain ⟨g5, cap5, rfl, hgS5, hgl5, hgc5, hgm5, y0, y1⟩ := hP.spot
            have q5 := HB5.out.cell 1 _ rfl
            clear ho2 hk2 hf2 hP ka hnb HT HK HB HR q1 t2 v0 v1
            by_cases hx0 : x.size = 0
            · have he : x.toList.isEmpty = true := by rw [emp_d]; simp [hx0]
              have HE := Lib.hid (show stOne cu j x q = (cu.1 ++ [cu.2], []) by unfold stOne; simp [hj0, hx0])
              go_wp2_with fail
              go_roundw
              case rel => exact ⟨j + 1, hs ++ [h], (none, 0, 0), by omega, by go_num, by rw [HNx.out, HE.out]; exact HT5.out, by simp; omega, by rw [HNx.out, HE.out]; simp, HB5.out, HR5.out, HK5.out, hs5⟩
              case measure => simp [intOf]; omega
            · have he : x.toList.isEmpty = false := by rw [emp_d]; simp [hx0]
              have HE := Lib.hid (show stOne cu j x q = (cu.1 ++ [cu.2], [(x, q)]) by unfold stOne; simp [hj0, hx0])
              go_upto_region 12 with fail
              obtain ⟨i0, hi0, hz0, hz1, hz2⟩ := info_parts pcInfo
              have kr5 := Keeps.refl NoB w5
              rw [List.length_append, List.length_singleton] at y0 y1
              have d0 : w5.drew.cell? ⟨g5, hs.length + 1, none⟩ = some (.slice none 0 0) := y0
              have d1 : w5.drew.cell? ⟨B, 1, none⟩ = some (.bool q) := q5
              have d2 : w5.drew.frozen? ⟨g5, hs.length + 1, none⟩ = false := y1
              have lB := HB5.out.lt
              have ix1 : ((hs.length : Int) + 1) < ((hs.length : Int) + 1 + 1) := by omega
              have ix0 : 0 ≤ ((hs.length : Int) + 1) := by omega
              go_region_law
                (refine step_append_lies _ (by rfl) _ _ _ (by rfl) 0 37 i0 _ 2 24 Tryd.underlying39 hi0 hz0 hz1 hz2 rfl (by decide) (.slice none 0 0) 0 [] (by rfl) (World.ownsRow_nil _ _ _ _)
                      ⟨_, 0, none⟩ 1 1 [.string x, .bool q] (by rfl) (by rfl) (World.news_of_block (cs := #[.string x, .bool q]) (t := 37) (fr := (0, 0)) (heap_alloc_new _ _)) (by simp [Value.oneCell'])
                      (by decide) (by decide) (by decide) (Nat.zero_le _) _ rfl ?_; intro gg cp2 w6 hown1 hgrow hat hlt6; have zc := ((pgrown_keeps hgrow).cell (p := ⟨g5, hs.length + 1, none⟩) (Nat.lt_of_lt_of_le hgl5 ((((Keeps.refl NoB w5).alloc _).drew).size)) (fun h => by simp [Value.ownBlock] at h)).trans (((((Keeps.refl NoB w5).alloc _).drew).cell (p := ⟨g5, hs.length + 1, none⟩) hgl5 (fun h => h)).trans y0); have zf := ((pgrown_keeps hgrow).frozen (p := ⟨g5, hs.length + 1, none⟩) (Nat.lt_of_lt_of_le hgl5 ((((Keeps.refl NoB w5).alloc _).drew).size)) (fun h => by simp [Value.ownBlock] at h)).trans (((((Keeps.refl NoB w5).alloc _).drew).frozen (p := ⟨g5, hs.length + 1, none⟩) hgl5 (fun h => h)).trans y1))
              all_goals
                have HW6 := Lib.hid hown1
                have HG6 := Lib.hid (pgrown_keeps hgrow)
                have hgg : InS w.heap.size B w4.heap.size gg := by
                  rcases hat with h3 | h3
                  · simp [Value.ownBlock] at h3
                  · exact inS_hi hsz hs4 (by simp at h3; omega)
                have hP6 : StH (InS w.heap.size B w4.heap.size) (w6.setCell ⟨g5, (hs ++ [h]).length, none⟩ (svV (some ⟨gg, 0, none⟩, 1, cp2))) (.slice (some ⟨g5, 0, none⟩) ((hs ++ [h]).length + 1) cap5) (hs ++ [h]) (some ⟨gg, 0, none⟩, 1, cp2) (cu.1 ++ [cu.2]) ([] ++ [(x, q)]) :=
                  (HT5.out.keepN ((Keeps.refl NoB w5).alloc (.cells #[.string x, .bool q] 37)).drew).put rfl ⟨hown1, fun b hb => by have : some gg = some b := hb; cases this; exact hgg⟩ (HG6.out.mono (fun b _ hb => by simp [Value.ownBlock] at hb)) (fun b hb => by
                    have : some gg = some b := hb
                    cases this
                    rcases hat with h3 | h3
                    · simp [Value.ownBlock] at h3
                    · exact .inr (by rw [h3]; simp))
                rw [List.length_append, List.length_singleton] at hP6
                have HT7 := Lib.hid hP6
                have kA : Keeps NoB w5 w6 := (((Keeps.refl NoB w5).alloc (.cells #[.string x, .bool q] 37)).drew).trans (HG6.out.mono (fun b _ hb => by simp [Value.ownBlock] at hb))
                have HK7 := Lib.hid ((HK5.out.trans kA).setCell (p := ⟨g5, hs.length + 1, none⟩) (.inr hgS5.1) (svV (some ⟨gg, 0, none⟩, 1, cp2)))
                have HB7 := Lib.hid ((HB5.out.on kA).keep (kset w6 ⟨g5, hs.length + 1, none⟩ (svV (some ⟨gg, 0, none⟩, 1, cp2))) (fun e => hgS5.2.1 (show g5 = B from (show B = g5 from e).symm)))
                have HR7 := Lib.hid ((HR5.out.keepN kA).keep (kset w6 ⟨g5, hs.length + 1, none⟩ (svV (some ⟨gg, 0, none⟩, 1, cp2))) (fun b hb _ e => hgS5.2.2 (by rw [← show b = g5 from e]; exact hb)))
                have hs7 : w4.heap.size ≤ w6.heap.size := by have := kA.size; omega
                clear hP6 hown1 hgrow hat
                go_wp2_with fail
                go_roundw
                case rel => exact ⟨j + 1, hs ++ [h], (some ⟨gg, 0, none⟩, 1, cp2), by omega, by go_num, by rw [HNx.out, HE.out]; exact HT7.out, by simp; omega, by rw [HNx.out, HE.out]; simp; omega, HB7.out, HR7.out, HK7.out, by simpa using hs7⟩
                case measure => simp [intOf]; omega
          · have hj0z : ¬ (0 : Int) < (j : Int) := by omega
            by_cases hx0 : x.size = 0
            · have he : x.toList.isEmpty = true := by rw [emp_d]; simp [hx0]
              have HE := Lib.hid (show stOne cu j x q = cu by unfold stOne; simp [hj0, hx0])
              go_wp2_with fail
              go_roundw
              case rel => exact ⟨j + 1, hs, h, by omega, by go_num, by rw [HNx.out, HE.out]; exact HT.out, by omega, by rw [HNx.out, HE.out]; omega, HB.out, HR.out, HK.out, hsz2⟩
              case measure => simp [intOf]; omega
            · have he : x.toList.isEmpty = false := by rw [emp_d]; simp [hx0]
              have HE := Lib.hid (show stOne cu j x q = (cu.1, cu.2 ++ [(x, q)]) by unfold stOne; simp [hj0, hx0])
              have hln := own_len HT.out.lst
              have hdis : (svV h).ownBlock ≠ some g := HT.out.dis g rfl
              go_upto_region 12 with fail
              obtain ⟨i0, hi0, hz0, hz1, hz2⟩ := info_parts pcInfo
              have d0 : wr.drew.cell? ⟨g, hs.length, none⟩ = some (svV h) := v0
              have d1 : wr.drew.cell? ⟨B, 1, none⟩ = some (.bool q) := q1
              have d2 : wr.drew.frozen? ⟨g, hs.length, none⟩ = false := v1
              have lB := HB.out.lt
              have ix1 : (hs.length : Int) < ((hs.length : Int) + 1) := by omega
              have ix0 : 0 ≤ (hs.length : Int) := by omega
              go_region_law
                (refine step_append_lies _ (by rfl) _ _ _ (by rfl) 0 37 i0 _ 2 24 Tryd.underlying39 hi0 hz0 hz1 hz2 rfl (by decide) (svV h) cu.2.length (cu.2.flatMap encPc.enc) (by rfl) ((HT.out.lst.keep (F := NoB) ((((Keeps.refl NoB wr).alloc _)).drew) (fun _ _ h => h)).1)
                      ⟨_, 0, none⟩ 1 1 [.string x, .bool q] (by rfl) (by rfl) (World.news_of_block (cs := #[.string x, .bool q]) (t := 37) (fr := (0, 0)) (heap_alloc_new _ _)) (by simp [Value.oneCell'])
                      (by decide) (by simp [maxLen]; omega) (by omega) (Nat.zero_le _) _ rfl ?_; intro gg cp2 w6 hown1 hgrow hat hlt6; have zc := ((pgrown_keeps hgrow).cell (p := ⟨g, hs.length, none⟩) (Nat.lt_of_lt_of_le hgl ((((Keeps.refl NoB wr).alloc _).drew).size)) hdis).trans (((((Keeps.refl NoB wr).alloc _).drew).cell (p := ⟨g, hs.length, none⟩) hgl (fun h => h)).trans v0); have zf := ((pgrown_keeps hgrow).frozen (p := ⟨g, hs.length, none⟩) (Nat.lt_of_lt_of_le hgl ((((Keeps.refl NoB wr).alloc _).drew).size)) hdis).trans (((((Keeps.refl NoB wr).alloc _).drew).frozen (p := ⟨g, hs.length, none⟩) hgl (fun h => h)).trans v1))
              all_goals
                have HG6 := Lib.hid (pgrown_keeps hgrow)
                have hgg : InS w.heap.size B w4.heap.size gg := by
                  rcases hat with h3 | h3
                  · exact HT.out.lst.2 gg h3
                  · exact inS_hi hsz hs4 (by simp at h3; omega)
                have hown2 : Own encPc 37 (InS w.heap.size B w4.heap.size) w6 (svV (some ⟨gg, 0, none⟩, cu.2.length + 1, cp2)) (cu.2 ++ [(x, q)]) := ⟨by have := hown1; rw [List.length_append, List.length_singleton, List.flatMap_append]; exact this, fun b hb => by have : some gg = some b := hb; cases this; exact hgg⟩
                have HT7 := Lib.hid ((HT.out.keepN ((Keeps.refl NoB wr).alloc (.cells #[.string x, .bool q] 37)).drew).put rfl hown2 HG6.out (fun b hb => by
                    have : some gg = some b := hb
                    cases this
                    rcases hat with h3 | h3
                    · exact .inl h3
                    · exact .inr (by rw [h3]; simp)))
                have kA : Keeps NoB w w6 := (HK.out.trans (((Keeps.refl NoB wr).alloc (.cells #[.string x, .bool q] 37)).drew)).step HG6.out (fun b hb => .inr (HT.out.lst.2 b hb).1)
                have HK7 := Lib.hid (kA.setCell (p := ⟨g, hs.length, none⟩) (.inr hgS.1) (svV (some ⟨gg, 0, none⟩, cu.2.length + 1, cp2)))
                have HB7 := Lib.hid (((HB.out.on (((Keeps.refl NoB wr).alloc (.cells #[.string x, .bool q] 37)).drew)).keep HG6.out (fun hb => (HT.out.lst.2 _ hb).2.1 rfl)).keep (kset w6 ⟨g, hs.length, none⟩ (svV (some ⟨gg, 0, none⟩, cu.2.length + 1, cp2))) (fun e => hgS.2.1 (show g = B from (show B = g from e).symm)))
                have HR7 := Lib.hid (((HR.out.keepN (((Keeps.refl NoB wr).alloc (.cells #[.string x, .bool q] 37)).drew)).keep HG6.out (fun b hb _ h3 => (HT.out.lst.2 b h3).2.2 hb)).keep (kset w6 ⟨g, hs.length, none⟩ (svV (some ⟨gg, 0, none⟩, cu.2.length + 1, cp2))) (fun b hb _ e => hgS.2.2 (by rw [← show b = g from e]; exact hb)))
                have hs7 : w4.heap.size ≤ w6.heap.size := by have := HG6.out.size; simp at this; omega
                clear hown1 hown2 hgrow hat kA
                go_wp2_with fail
                go_roundw
                case rel => exact ⟨j + 1, hs, (some ⟨gg, 0, none⟩, cu.2.length + 1, cp2), by omega, by go_num, by rw [HNx.out, HE.out]; exact HT7.out, by omega, by rw [HNx.out, HE.out]; simp; omega, HB7.out, HR7.out, HK7.out, by simpa using hs7⟩
                case measure => simp [intOf]; omega
        · obtain rfl : j = pcl.length := by omega
          have hjz : ¬ (pcl.length : Int) < (pcl.length : Int) := by omega
          rw [List.take_length] at HT hb2
          go_wp2_with fail
          go_roundw
          case rel => exact ⟨k + 1, hs, h, by omega, by go_num, by rw [HN.out]; exact HT.out.mono (fun _ _ h => h.1), by omega, by rw [HN.out]; omega, HK.out⟩
          case measure => simp [intOf]; omega
    · obtain rfl : k = pl.length := by omega
      have hlz : ¬ (pl.length : Int) < (pl.length : Int) := by omega
      rw [List.take_length] at HT
      go_wp2_with fail
      go_ret
      exact ⟨_, rfl, ⟨hs, h, HT.out⟩, HK.out⟩

end Go.Proofs.YtfomkkoecelakaaDoor
