/-
  Contracts of package dir, the third part: slices.Insert, slices.Delete, Put, Set, Drop.
-/
import Derived.Test.YtbcejodnjeklpaaDirW2
import Derived.StillTailTactics
import Derived.Lib.AppendZerosOnto
namespace Go.Proofs.Ytbcejodnjeklpaa
open Go.RowKit

theorem info_ent : ∃ i : TypeInfo, Try.prog.info? 107 = some i ∧ i.size = encEnt.k ∧ i.bytes = 24 ∧ i.zero = some (.agg #[.string ByteArray.empty, .int .i64 0]) := by
  have h : (Try.prog.info? 107).map (fun i => (i.zero, i.size, i.bytes)) = some (some (.agg #[.string ByteArray.empty, .int .i64 0]), 2, 24) := by kernel_rfl
  cases hi : Try.prog.info? 107 with
  | none => rw [hi] at h; cases h
  | some i => rw [hi] at h; simp at h; exact ⟨i, rfl, h.2.1, h.2.2, h.1⟩

set_option maxHeartbeats 1000000 in
set_option maxRecDepth 100000 in
theorem ins_end (G : Nat → Prop) (w : World) (v : Value) (es : List Ent) (x : Ent) (b : Nat) (ho : Own encEnt 107 G w v es) (hG : G w.heap.size) (hn : es.length < 4294967295)
    (hx : w.heap[b]? = some (.cells #[.string x.1, .int .i64 x.2] 107 (0, 0))) :
    Calls Try.prog 81 #[v, .int .i64 es.length, .slice (some ⟨b, 0, none⟩) 1 1] w fun e w' =>
      ∃ v', e = .returned v' ∧ Own encEnt 107 G w' v' (es ++ [x]) ∧ Keeps (fun g => v.ownBlock = some g) w w' ∧ (∀ g, v'.ownBlock = some g → v.ownBlock = some g ∨ w.heap.size ≤ g) := by
  have hsx : Sl encEnt (fun _ => True) w (.slice (some ⟨b, 0, none⟩) 1 1) [x] :=
    (Own.mk (E := encEnt) (l := [x]) (cap := 1) (S := fun _ => True) trivial hx (Nat.le_refl _) (by decide) rfl rfl).sl
  obtain ⟨p, c, rfl, hs⟩ := ho.sl
  have hcap := hs.cap
  have hmax := hs.max
  unfold maxLen at hmax
  have hsl := fun wx => run_slice_l (P := Try.prog) 73 107 2 Try.underlying73 (by kernel_rfl) p es.length c es.length (Nat.le_refl _) wx (by omega)
  go_enter Try.func81, Try.ntmps81
  go_wp2_with (at_builtin; refine wpl_append rfl _ _ rfl tEnt ho hsx rfl rfl hG (by simp [maxLen]; omega) (by simp; omega) ?_; intro v' w' ho' hk hf)
  go_ret
  exact ⟨v', rfl, ho', hk, hf⟩

/-- append(s[:i], make([]Entry, k)...) where there is no room. -/
theorem run_grow_zeros (G : Nat → Prop) (w : World) (g c : Nat) (cur : Array Value) (es : List Ent) (i k : Nat) (hG : G w.heap.size) (ty : TypeId)
    (hg : w.heap[g]? = some (.cells cur 107 (0, 0))) (hcs : cur.size = c * 2) (htk : cur.toList.take (es.length * 2) = es.flatMap encEnt.enc) (hc1 : es.length ≤ c)
    (hi : i ≤ es.length) (hk : 0 < k) (hfull : c < i + k) (hb : i + k ≤ 4294967296) :
    ∃ cap' cur' w1, (Builtin.append_ #[73, 3] ty #[.slice (some ⟨g, 0, none⟩) i c, .int .i64 (k : Int)]).run Try.prog w = .ok (.slice (some ⟨w.heap.size, 0, none⟩) (i + k) cap') w1 ∧
      w1.heap[w.heap.size]? = some (.cells cur' 107 (0, 0)) ∧ cur'.size = cap' * 2 ∧ i + k ≤ cap' ∧ cap' ≤ maxLen ∧ cur'.toList.take (i * 2) = (es.take i).flatMap encEnt.enc ∧ Keeps NoB w w1 := by
  obtain ⟨inf, hi', his, hib, hiz⟩ := info_ent
  have hm : i + k ≤ maxLen := by simp only [maxLen]; omega
  have hold : (Builtin.firstCells inf.size i (.slice (some ⟨g, 0, none⟩) i c)).run Try.prog w.drew = .ok ((es.take i).flatMap encEnt.enc).toArray w.drew := by
    refine run_firstCells_some w.drew inf.size i ⟨g, 0, none⟩ i c _ (by rw [encEnt.flat_len, his, List.length_take, Nat.min_eq_left hi]) (fun j u hu => ?_)
    have hj := (List.getElem?_eq_some_iff.1 hu).1
    rw [encEnt.flat_take, List.length_take, encEnt.flat_len] at hj
    rw [encEnt.flat_take, ← htk, List.getElem?_take, List.getElem?_take] at hu
    have hk2 : encEnt.k = 2 := rfl
    rw [hk2] at hj hu
    rw [if_pos (by omega), if_pos (by omega)] at hu
    rw [add_lit, World.cell?_drew, cell_of_row w g _ cur _ (0, 0) hg, Nat.zero_add]
    simpa using hu
  have hr := Lib.run_append_grow_zeros (P := Try.prog) w 73 3 ty 107 inf _ .i64 .i64 Try.underlying73 Try.underlying3 hi' hiz (some ⟨g, 0, none⟩) i c _ hold k hk (by rw [his]; decide) hfull
    (by omega) (by rw [hib]; omega) (growslice_fits hfull (by rw [hib]; omega))
  have hge := grownCap_ge w (i + k) c 107
  have hle := grownCap_le_maxLen w (i + k) c 107 hm
  refine ⟨_, _, _, hr, heap_alloc_new w.drew _, ?_, hge, hle, ?_, ((Keeps.refl _ _).drew).alloc _⟩
  · simp only [Array.size_append, List.size_toArray, size_zeroCells]
    rw [encEnt.flat_len]
    have hk2 : encEnt.k = 2 := rfl
    have hzz : (Value.agg #[.string ByteArray.empty, .int .i64 0]).cells.size = 2 := rfl
    rw [hzz, hk2, List.length_take]
    omega
  · simp only [Array.toList_append, List.append_assoc]
    have hl : ((es.take i).flatMap encEnt.enc).length = i * 2 := by
      have hk2 : encEnt.k = 2 := rfl
      rw [encEnt.flat_len, hk2, List.length_take]; omega
    rw [← hl]
    exact List.take_left

set_option maxHeartbeats 1000000 in
set_option maxRecDepth 100000 in
theorem ins_grow (G : Nat → Prop) (w : World) (g c : Nat) (cur : Array Value) (es : List Ent) (x : Ent) (b i : Nat) (hG : G w.heap.size) (hn : es.length < 4294967295)
    (hg : w.heap[g]? = some (.cells cur 107 (0, 0))) (hc1 : es.length ≤ c) (hc2 : c ≤ maxLen) (hcs : cur.size = c * 2) (htk : cur.toList.take (es.length * 2) = es.flatMap encEnt.enc)
    (hx : w.heap[b]? = some (.cells #[.string x.1, .int .i64 x.2] 107 (0, 0))) (hi : i < es.length) (hfull : c < es.length + 1) :
    Calls Try.prog 81 #[.slice (some ⟨g, 0, none⟩) es.length c, .int .i64 i, .slice (some ⟨b, 0, none⟩) 1 1] w fun e w' =>
      ∃ v', e = .returned v' ∧ Own encEnt 107 G w' v' (es.take i ++ x :: es.drop i) ∧ Keeps NoB w w' ∧ (∀ g, v'.ownBlock = some g → w.heap.size ≤ g) := by
  obtain ⟨inf, hi', his, hib, hiz⟩ := info_ent
  have hsx : SlAt encEnt (fun _ => True) w (some ⟨b, 0, none⟩) 1 [x] := by
    obtain ⟨p, c, h, hs⟩ := (Own.mk (E := encEnt) (l := [x]) (cap := 1) (S := fun _ => True) trivial hx (Nat.le_refl _) (by decide) rfl rfl).sl
    cases h; exact hs
  have hse : SlAt encEnt (fun _ => True) w (some ⟨g, 0, none⟩) c es := by
    obtain ⟨p, c', h, hs⟩ := (Own.mk (E := encEnt) (l := es) (cap := c) (S := fun _ => True) trivial hg hc1 hc2 hcs htk).sl
    cases h; exact hs
  obtain ⟨cap', cur', w1, hrun, hg1, hcs1, hcap1, hcm1, htk1, hk1⟩ := run_grow_zeros G w g c cur es i (es.length + 1 - i) hG 73 hg hcs htk hc1 (by omega) (by omega) (by omega) (by omega)
  have ek : ((es.length + 1 - i : Nat) : Int) = (es.length : Int) + 1 - i := by omega
  have ek2 : i + (es.length + 1 - i) = es.length + 1 := by omega
  rw [ek, ek2] at hrun
  have Hrun := Lib.hid hrun
  clear hrun ek ek2
  unfold maxLen at hc2
  go_enter Try.func81, Try.ntmps81
  have hk2e : encEnt.k = 2 := rfl
  go_wp2_with (first | (at_builtin; refine Lib.wpList_append_run _ rfl _ _ _ _ rfl _ _ rfl rfl _ _ Hrun.out ?_) | (refine wpl_copy (E := encEnt) rfl (.tmp 43) (.tmp 44) _ _ rfl Try.underlying73 hi' his _ _ _ _ rfl _ _ hg1 rfl (hsx.keepN hk1) ?_ ?_ ?_))
  · simp [Nat.min_def]; omega
  · rw [hcs1, hk2e]; simp only [List.length_singleton]; omega
  simp only [List.length_singleton, hk2e]
  obtain ⟨cur2, hcur2⟩ : ∃ cur2, cur2 = (List.take (i * 2) cur'.toList ++ (List.flatMap encEnt.enc [x] ++ List.drop (i * 2 + 1 * 2) cur'.toList)).toArray := ⟨_, rfl⟩
  rw [← hcur2]
  have hg2 := setRow_heap w1 w.heap.size cur' cur2 _ (0, 0) hg1
  have hk2 := hk1.setRow (g := w.heap.size) (Or.inr (Nat.le_refl _)) cur2
  have Hcur2 := Lib.hid hcur2
  clear hcur2
  generalize w1.setRow w.heap.size cur2 = w2 at *
  have e1 : subAt 2 (some ⟨w.heap.size, 0, none⟩) cap' (i + 1) = some ⟨w.heap.size, (i + 1) * 2, none⟩ := by
    unfold subAt; rw [if_neg (by omega)]; simp [add_lit]
  have hsl1 := fun wx => run_slice_l (P := Try.prog) 73 107 2 Try.underlying73 (by kernel_rfl) (some ⟨w.heap.size, 0, none⟩) (es.length + 1) cap' (i + 1) (by omega) wx (by omega)
  have hsl2 := fun wx => run_slice_l (P := Try.prog) 73 107 2 Try.underlying73 (by kernel_rfl) (some ⟨g, 0, none⟩) es.length c i (by omega) wx (by omega)
  rw [e1, show ((i + 1 : Nat) : Int) = (i : Int) + 1 by omega, show es.length + 1 - (i + 1) = es.length - i by omega] at hsl1
  clear e1
  go_wp2_with fail
  have hsum : IntKind.i64.wrap ((i : Int) + 1) = (i : Int) + 1 := by rw [IntKind.wrap_i64]; omega
  go_still_tail 8, (by kernel_rfl)
  clear hsum
  change wpList _ _ _ _ _ w2.drew
  have hg3 : w2.drew.heap[w.heap.size]? = some (.cells cur2 107 (0, 0)) := hg2
  have hk3 : Keeps NoB w w2.drew := hk2.drew
  clear hg2 hk2
  generalize w2.drew = w3 at *
  have hsub := (hse.sub i es.length (by omega) (Nat.le_refl _)).keepN hk3
  rw [List.take_length] at hsub
  have hcl : cur2.size = cap' * 2 := by
    rw [Hcur2.out, List.size_toArray, List.length_append, List.length_append, List.length_take, List.length_drop, Array.length_toList, hcs1, encEnt.flat_len, hk2e]; simp only [List.length_singleton]; omega
  refine wpl_copy (E := encEnt) rfl (.tmp 50) (.tmp 53) _ _ rfl Try.underlying73 hi' his _ _ _ _ rfl _ _ hg3 rfl hsub ?_ ?_ ?_
  · simp
  · rw [hcl, hk2e, List.length_drop]; omega
  rw [List.length_drop, hk2e]
  obtain ⟨cur3, hcur3⟩ : ∃ cur3, cur3 = (List.take ((i + 1) * 2) cur2.toList ++ (List.flatMap encEnt.enc (List.drop i es) ++ List.drop ((i + 1) * 2 + (es.length - i) * 2) cur2.toList)).toArray := ⟨_, rfl⟩
  rw [← hcur3]
  have hg4 := setRow_heap w3 w.heap.size cur2 cur3 _ (0, 0) hg3
  have hk4 := hk3.setRow (g := w.heap.size) (Or.inr (Nat.le_refl _)) cur3
  have Hcur3 := Lib.hid hcur3
  clear hcur3
  generalize w3.setRow w.heap.size cur3 = w4 at *
  go_wp2_with fail
  go_ret
  have hL : cur'.toList.length = cap' * 2 := by rw [Array.length_toList]; exact hcs1
  have hAl : (List.flatMap encEnt.enc (es.take i)).length = i * 2 := by rw [encEnt.flat_len, hk2e, List.length_take]; omega
  have hVl : (List.flatMap encEnt.enc [x]).length = 2 := rfl
  have hBl : (List.flatMap encEnt.enc (es.drop i)).length = (es.length - i) * 2 := by rw [encEnt.flat_len, hk2e, List.length_drop]
  have hsp := splice_two cur'.toList (List.flatMap encEnt.enc (es.take i)) (List.flatMap encEnt.enc [x]) (List.flatMap encEnt.enc (es.drop i)) cur2.toList cur3.toList
    (by rw [hAl]; exact htk1) (by rw [hAl, hVl, hBl, hL]; omega)
    (by rw [hAl, hVl, Hcur2.out]) (by rw [hAl, hVl, hBl, Hcur3.out]; simp [Nat.add_mul])
  refine ⟨_, rfl, ?_, hk4, fun g h => by simp [Value.ownBlock] at h; omega⟩
  have hll : (es.take i ++ x :: es.drop i).length = es.length + 1 := by simp; omega
  rw [← hll]
  refine Own.mk hG hg4 (by rw [hll]; omega) hcm1 ?_ ?_
  · rw [← Array.length_toList, hsp.2, hL, hk2e]
  · have := hsp.1
    rw [hAl, hVl, hBl] at this
    rw [hll, hk2e, show (es.length + 1) * 2 = i * 2 + 2 + (es.length - i) * 2 by omega, this, List.flatMap_append, List.flatMap_cons]
    rfl

set_option maxHeartbeats 1000000 in
set_option maxRecDepth 100000 in
theorem ins_room (G : Nat → Prop) (w : World) (g c : Nat) (cur : Array Value) (es : List Ent) (x : Ent) (b i : Nat) (hG : G g) (hn : es.length < 4294967295)
    (hg : w.heap[g]? = some (.cells cur 107 (0, 0))) (hc1 : es.length ≤ c) (hc2 : c ≤ maxLen) (hcs : cur.size = c * 2) (htk : cur.toList.take (es.length * 2) = es.flatMap encEnt.enc)
    (hx : w.heap[b]? = some (.cells #[.string x.1, .int .i64 x.2] 107 (0, 0))) (hbg : b ≠ g) (hi : i < es.length) (hroom : es.length + 1 ≤ c) :
    Calls Try.prog 81 #[.slice (some ⟨g, 0, none⟩) es.length c, .int .i64 i, .slice (some ⟨b, 0, none⟩) 1 1] w fun e w' =>
      e = .returned (.slice (some ⟨g, 0, none⟩) (es.length + 1) c) ∧ Own encEnt 107 G w' (.slice (some ⟨g, 0, none⟩) (es.length + 1) c) (es.take i ++ x :: es.drop i) ∧ Keeps (fun k => k = g) w w' := by
  obtain ⟨inf, hi', his, hib, hiz⟩ := info_ent
  have hk2e : encEnt.k = 2 := rfl
  have hcm := hc2
  have hsx : SlAt encEnt (fun k => k = b) w (some ⟨b, 0, none⟩) 1 [x] := by
    obtain ⟨p, c, h, hs⟩ := (Own.mk (E := encEnt) (l := [x]) (cap := 1) (S := fun k => k = b) rfl hx (Nat.le_refl _) (by decide) rfl rfl).sl
    cases h; exact hs
  have hse : SlAt encEnt (fun k => k = g) w (some ⟨g, 0, none⟩) c es := by
    obtain ⟨p, c', h, hs⟩ := (Own.mk (E := encEnt) (l := es) (cap := c) (S := fun k => k = g) rfl hg hc1 hc2 hcs htk).sl
    cases h; exact hs
  unfold maxLen at hc2
  have e1 : subAt 2 (some ⟨g, 0, none⟩) c (i + 1) = some ⟨g, (i + 1) * 2, none⟩ := by
    unfold subAt; rw [if_neg (by omega)]; simp [add_lit]
  have e2 : subAt 2 (some ⟨g, 0, none⟩) c i = some ⟨g, i * 2, none⟩ := by
    unfold subAt; rw [if_neg (by omega)]; simp [add_lit]
  have hsl0 := fun wx => run_slice_l (P := Try.prog) 73 107 2 Try.underlying73 (by kernel_rfl) (some ⟨g, 0, none⟩) es.length c i (by omega) wx (by omega)
  have hsl1 := fun wx => run_slice_l (P := Try.prog) 73 107 2 Try.underlying73 (by kernel_rfl) (some ⟨g, 0, none⟩) (es.length + 1) c (i + 1) (by omega) wx (by omega)
  have hsl2 := fun wx => run_slice_l (P := Try.prog) 73 107 2 Try.underlying73 (by kernel_rfl) (some ⟨g, 0, none⟩) (es.length + 1) c i (by omega) wx (by omega)
  rw [e1, show ((i + 1 : Nat) : Int) = (i : Int) + 1 by omega, show es.length + 1 - (i + 1) = es.length - i by omega] at hsl1
  rw [e2] at hsl0 hsl2
  clear e1 e2
  go_enter Try.func81, Try.ntmps81
  go_wp2_with fail
  rw [run_callFunc_extern Try.func88 (by kernel_rfl) (by kernel_rfl) (by kernel_rfl) (e := Extern.SlicesOverlaps.overlaps #[73, 73] #[4]) (by kernel_rfl),
    Lib.run_overlaps_apart w 73 4 107 Try.underlying73 2 (fun w => by simp [sizeOf, typeInfo, hi', his, hk2e]) ⟨b, 0, none⟩ ⟨g, (i + 1) * 2, none⟩ 1 1 (es.length - i) (c - (i + 1)) hbg 107 107 2 cur.size
      (by simp [World.shape?, hx]) (by simp [World.shape?, hg]) (by omega) (by simp [World.frozen?, hx]) (by simp [World.frozen?, hx])]
  simp only [Result.andThen]
  rw [Oper.upon_value]
  go_wp2_with fail
  have hsum : IntKind.i64.wrap ((i : Int) + 1) = (i : Int) + 1 := by rw [IntKind.wrap_i64]; omega
  go_still_tail 8, (by kernel_rfl)
  clear hsum
  change wpList _ _ _ _ _ w.drew
  have hg1 : w.drew.heap[g]? = some (.cells cur 107 (0, 0)) := hg
  have hk1 : Keeps (fun k => k = g) w w.drew := (Keeps.refl _ w).drew
  have hsub := (hse.sub i es.length (by omega) (Nat.le_refl _)).keepN (Keeps.refl NoB w).drew
  rw [List.take_length] at hsub
  have e2 : subAt encEnt.k (some ⟨g, 0, none⟩) c i = some ⟨g, i * 2, none⟩ := by
    unfold subAt; rw [if_neg (by omega)]; simp [add_lit, hk2e]
  rw [e2] at hsub
  clear e2
  generalize w.drew = w1 at *
  refine wpl_copy (E := encEnt) rfl (.tmp 73) (.tmp 76) _ _ rfl Try.underlying73 hi' his _ _ _ _ rfl _ _ hg1 rfl hsub ?_ ?_ ?_
  · simp [Nat.min_def]; omega
  · rw [hcs, hk2e, List.length_drop]; omega
  rw [List.length_drop, hk2e]
  obtain ⟨cur2, hcur2⟩ : ∃ cur2, cur2 = (List.take ((i + 1) * 2) cur.toList ++ (List.flatMap encEnt.enc (List.drop i es) ++ List.drop ((i + 1) * 2 + (es.length - i) * 2) cur.toList)).toArray := ⟨_, rfl⟩
  rw [← hcur2]
  have hg2 := setRow_heap w1 g cur cur2 _ (0, 0) hg1
  have hk2 := hk1.setRow (g := g) (Or.inl rfl) cur2
  have Hcur2 := Lib.hid hcur2
  clear hcur2
  have hsx2 := hsx.keep hk2 (fun k hk _ e => hbg (by rw [← hk, e]))
  generalize w1.setRow g cur2 = w2 at *
  have hcl : cur2.size = c * 2 := by
    have hL : cur.toList.length = c * 2 := by rw [Array.length_toList]; exact hcs
    rw [Hcur2.out, List.size_toArray, List.length_append, List.length_append, List.length_take, List.length_drop, hL, encEnt.flat_len, hk2e, List.length_drop]; omega
  go_wp2_with (refine wpl_copy (E := encEnt) rfl (.tmp 80) (.tmp 81) _ _ rfl Try.underlying73 hi' his _ _ _ _ rfl _ _ hg2 rfl hsx2 ?_ ?_ ?_)
  · simp [Nat.min_def]; omega
  · rw [hcl, hk2e]; simp only [List.length_singleton]; omega
  obtain ⟨cur3, hcur3⟩ : ∃ cur3, cur3 = (List.take (i * 2) cur2.toList ++ (encEnt.enc x ++ List.drop (i * 2 + 2) cur2.toList)).toArray := ⟨_, rfl⟩
  rw [← hcur3]
  have hg3 := setRow_heap w2 g cur2 cur3 _ (0, 0) hg2
  have hk3 := hk2.setRow (g := g) (Or.inl rfl) cur3
  have Hcur3 := Lib.hid hcur3
  clear hcur3
  generalize w2.setRow g cur3 = w3 at *
  go_ret
  have hL : cur.toList.length = c * 2 := by rw [Array.length_toList]; exact hcs
  have hAl : (List.flatMap encEnt.enc (es.take i)).length = i * 2 := by rw [encEnt.flat_len, hk2e, List.length_take]; omega
  have hVl : (List.flatMap encEnt.enc [x]).length = 2 := rfl
  have hBl : (List.flatMap encEnt.enc (es.drop i)).length = (es.length - i) * 2 := by rw [encEnt.flat_len, hk2e, List.length_drop]
  have htA : cur.toList.take (i * 2) = List.flatMap encEnt.enc (es.take i) := by
    rw [encEnt.flat_take, ← htk, List.take_take, hk2e, Nat.min_eq_left (by omega)]
  have hsp := splice_back cur.toList (List.flatMap encEnt.enc (es.take i)) (List.flatMap encEnt.enc [x]) (List.flatMap encEnt.enc (es.drop i)) cur2.toList cur3.toList
    (by rw [hAl]; exact htA) (by rw [hAl, hVl, hBl, hL]; omega)
    (by rw [hAl, hVl, hBl, Hcur2.out]; simp [Nat.add_mul]) (by rw [hAl, hVl, Hcur3.out]; simp)
  refine ⟨rfl, ?_, hk3⟩
  have hll : (es.take i ++ x :: es.drop i).length = es.length + 1 := by simp; omega
  rw [← hll]
  refine Own.mk hG hg3 (by rw [hll]; omega) hcm ?_ ?_
  · rw [← Array.length_toList, hsp.2, hL, hk2e]
  · have := hsp.1
    rw [hAl, hVl, hBl] at this
    rw [hll, hk2e, show (es.length + 1) * 2 = i * 2 + 2 + (es.length - i) * 2 by omega, this, List.flatMap_append, List.flatMap_cons]
    rfl
end Go.Proofs.Ytbcejodnjeklpaa
