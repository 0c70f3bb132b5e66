/-
  Contracts of package walk: into, step.
-/
import Derived.Test.YtijbhmledmnifaaGreatDoorG03
import Derived.Test.YtijbhmledmnifaaGreatDoorG01
import Derived.Test.YtijbhmledmnifaaGreatDoorG02
import Derived.Test.YtijbhmledmnifaaGreatDoorG04
import Derived.Deep.RegionHeld3

set_option linter.unusedSimpArgs false
set_option linter.unusedVariables false

set_option maxRecDepth 100000
set_option maxHeartbeats 2000000
namespace Go.Proofs.YtijbhmledmnifaaGreatDoor
open Go Go.RowKit
section
variable {R : RD} {w0 w w' : World} {a g : Nat} {d : Nds} {room us : Int} {lk up : Int → Int}
theorem info_k (h : Rep R w a d room us lk up) (i : Int) (er : Int) (he : er = if has d i then 0 else 12) :
    Calls Tryz.prog 42 #[.pointer (some ⟨a, 0, none⟩), .int .i64 i] w fun e w' =>
      ∃ m l hh z : Int, (has d i → m = (nd d i).mode) ∧ e = .returned (.tuple #[.agg #[.int .i64 (nd d i).kind, .int .i64 m, .int .i64 l, .int .i64 hh, .int .i64 z], .int .i64 er]) ∧ Keeps NoB w w' := by
  subst he
  refine (info_any h i).mono ?_
  rintro e w' ⟨rfl, hk⟩
  by_cases hi : has d i
  · refine ⟨(nd d i).mode, lk i, (nd d i).holds, sizeOf4 (nd d i), fun _ => rfl, ?_, hk⟩
    rw [if_pos hi]
    rfl
  · refine ⟨0, 0, 0, 0, fun h => absurd h hi, ?_, hk⟩
    rw [if_neg hi, not_has hi]
    rfl
structure Wkr (w : World) (g a : Nat) (at' : Int) (n : Nat) : Prop where
  lt : g < w.heap.size
  c0 : w.cell? ⟨g, 0, none⟩ = some (.pointer (some ⟨a, 0, none⟩))
  c1 : w.cell? ⟨g, 1, none⟩ = some (.int .i64 at')
  c2 : w.cell? ⟨g, 2, none⟩ = some (.int .i64 n)
  fz : ∀ j, w.frozen? ⟨g, j, none⟩ = false
theorem Wkr.keep {F : Nat → Prop} {at' : Int} {n : Nat} (h : Wkr w g a at' n) (k : Keeps F w w') (hF : ¬ F g) : Wkr w' g a at' n :=
  ⟨Nat.lt_of_lt_of_le h.lt k.size, (k.cell (p := ⟨g, 0, none⟩) h.lt hF).trans h.c0, (k.cell (p := ⟨g, 1, none⟩) h.lt hF).trans h.c1, (k.cell (p := ⟨g, 2, none⟩) h.lt hF).trans h.c2, fun j => (k.frozen (p := ⟨g, j, none⟩) h.lt hF).trans (h.fz j)⟩
theorem Wkr.on {at' : Int} {n : Nat} (h : Wkr w g a at' n) (k : Keeps NoB w w') : Wkr w' g a at' n := h.keep k (fun h => h)
theorem bits64 : ∀ n : Fin 4096, (bits BinOp.and IntKind.i64 (n.val : Int) 64 == 0) = decide ((n.val : Int) / 64 % 2 = 0) := by decide +kernel
theorem bits64_of (m : Int) (h0 : 0 ≤ m) (h1 : m ≤ 4095) : (bits BinOp.and IntKind.i64 m 64 == 0) = decide (m / 64 % 2 = 0) := by
  have := bits64 ⟨m.toNat, by omega⟩
  simp only [Int.toNat_of_nonneg h0] at this
  exact this
theorem boxedD {w w1 : World} {cs : Array Value} {T : TypeId} (k : Keeps NoB (w.alloc (.cells cs T)).drew w1) (j : Nat) (v : Value) (h : cs[j]? = some v) : w1.cell? ⟨w.heap.size, j, none⟩ = some v :=
  boxed ((Keeps.refl NoB _).drew.trans k) j v h
theorem boxedF {w w1 : World} {cs : Array Value} {T : TypeId} (k : Keeps NoB (w.alloc (.cells cs T)).drew w1) (j : Nat) : w1.frozen? ⟨w.heap.size, j, none⟩ = false :=
  boxedz ((Keeps.refl NoB _).drew.trans k) j
theorem into_any (h : Rep R w0 a d room us lk up) (k : Keeps NoB w0 w) {at' : Int} {n : Nat} (hw : Wkr w g a at' n) (hI : DInv d) :
    Calls Tryz.prog 183 #[.pointer (some ⟨g, 0, none⟩)] w fun e w' => e = .returned (.int .i64 (intoErr d at')) ∧ Keeps NoB w w' := by
  obtain ⟨er, her⟩ : ∃ er : Int, er = if has d at' then 0 else 12 := ⟨_, rfl⟩
  have HIn := Lib.hid (fun (w1 : World) (hk : Keeps NoB w w1) => info_k (h.keepN (k.trans hk)) at' er her)
  have Her := Lib.hid her
  clear her
  have c0 := hw.c0
  have c1 := hw.c1
  go_enter Tryz.func183, Tryz.ntmps183
  go_upto_region 1 with fail
  go_cut [3, 4] from 3 to 16 (fun x y wx => ∃ (G : Nat) (m l hh z : Int), (has d at' → m = (nd d at').mode) ∧ x = .pointer (some ⟨G, 0, none⟩) ∧ y = .int .i64 er ∧ wx.cell? ⟨G, 0, none⟩ = some (.int .i64 (nd d at').kind) ∧ wx.cell? ⟨G, 1, none⟩ = some (.int .i64 m) ∧ Keeps NoB w wx)
  case first =>
    have kr := Keeps.refl NoB w
    have krd := kr.drew
    have d0 := (hw.on krd).c0
    have d1 := (hw.on krd).c1
    go_region_held3 (fun wz => wz.cell? ⟨g, 0, none⟩ = some (.pointer (some ⟨a, 0, none⟩)) ∧ wz.cell? ⟨g, 1, none⟩ = some (.int .i64 at') ∧ Keeps NoB w wz) (refine ⟨?_, ?_, ?_⟩ <;> first | with_reducible assumption | (with_reducible refine (hw.on ?_).c0; (repeat (first | with_reducible assumption | (with_reducible exact Keeps.refl _ _) | (with_reducible refine Keeps.drew ?_) | (with_reducible refine Keeps.alloc ?_ _) | (with_reducible refine Keeps.setCell ?_ (Or.inr (by first | exact Nat.le_refl _ | (simp; omega))) _))); done) | (with_reducible refine (hw.on ?_).c1; (repeat (first | with_reducible assumption | (with_reducible exact Keeps.refl _ _) | (with_reducible refine Keeps.drew ?_) | (with_reducible refine Keeps.alloc ?_ _) | (with_reducible refine Keeps.setCell ?_ (Or.inr (by first | exact Nat.le_refl _ | (simp; omega))) _))); done) | ((repeat (first | with_reducible assumption | (with_reducible exact Keeps.refl _ _) | (with_reducible refine Keeps.drew ?_) | (with_reducible refine Keeps.alloc ?_ _) | (with_reducible refine Keeps.setCell ?_ (Or.inr (by first | exact Nat.le_refl _ | (simp; omega))) _))); done))
      (first | (go_at_call 42; refine (HIn.out _ (by (repeat (first | with_reducible assumption | (with_reducible exact Keeps.refl _ _) | (with_reducible refine Keeps.drew ?_) | (with_reducible refine Keeps.alloc ?_ _) | (with_reducible refine Keeps.setCell ?_ (Or.inr (by first | exact Nat.le_refl _ | (simp; omega))) _))))).mono ?_; rintro e w1 ⟨m, l, hh, z, hm, rfl, hk1⟩; have zky : Keeps NoB w w1 := Keeps.trans (by (repeat (first | with_reducible assumption | (with_reducible exact Keeps.refl _ _) | (with_reducible refine Keeps.drew ?_) | (with_reducible refine Keeps.alloc ?_ _) | (with_reducible refine Keeps.setCell ?_ (Or.inr (by first | exact Nat.le_refl _ | (simp; omega))) _)))) hk1; have zs := zky.size; have z0 := (hw.on zky).c0; have z1 := (hw.on zky).c1; (try (have b0 := boxedD hk1 0 _ rfl; have b1 := boxedD hk1 1 _ rfl; have b2 := boxedD hk1 2 _ rfl; have b3 := boxedD hk1 3 _ rfl; have b4 := boxedD hk1 4 _ rfl; have f0 := boxedF hk1))))
    all_goals (go_wp2_with fail; go_meet; refine ⟨_, m, l, hh, z, hm, rfl, rfl, ?_, ?_, ?_⟩)
    all_goals first
      | (with_reducible exact boxed (Keeps.refl NoB _) 0 _ rfl)
      | (with_reducible exact boxed (Keeps.refl NoB _) 1 _ rfl)
      | ((repeat (first | with_reducible assumption | (with_reducible exact Keeps.refl _ _) | (with_reducible refine Keeps.drew ?_) | (with_reducible refine Keeps.alloc ?_ _) | (with_reducible refine Keeps.setCell ?_ (Or.inr (by first | exact Nat.le_refl _ | (simp; omega))) _))); done)
      | (go_simp; done)
      | skip
  case rest =>
    obtain ⟨G, m, l, hh, z, hm, rfl, rfl, i0, i1, hk1⟩ := hcut
    clear c0 c1 HIn
    have her := Her.out
    clear Her
    have HI := Lib.hid (show intoErr d at' = if er ≠ 0 then er else if (nd d at').kind ≠ 2 then 14 else if (bits BinOp.and IntKind.i64 m 64 == 0) = true then 19 else 0 by
      unfold intoErr folderErr
      by_cases hi : has d at'
      · have hk : ¬ (nd d at').kind = 0 := hi
        rw [if_pos hi] at her
        rw [hm hi, bits64_of _ (hI.node at').mode0 (hI.node at').mode1, her]
        by_cases h2 : (nd d at').kind = 2
        · simp [h2]
        · simp [h2, hk]
      · rw [if_neg hi] at her
        rw [her, not_has hi]
        simp)
    clear her
    go_wp2_with fail
    all_goals
      go_ret
      refine ⟨ret_i64 ?_, hk1⟩
      rw [HI.out]
      simp_all
end
end Go.Proofs.YtijbhmledmnifaaGreatDoor

/-
  Move as the reference does it (the old name goes first): the same nodes. The pure part.
-/
set_option maxRecDepth 100000
namespace Go.Proofs.YtijbhmledmnifaaGreatDoor
open Go.RowKit
section
variable {d : Nds} {f t k : Int} {name other : ByteArray}
def refAtL (d : Nds) (f : Int) (name : ByteArray) (t : Int) (other : ByteArray) (k : Int) : List Ent :=
  if entHas (nd d t).ents other then entSet (nd (dropTo d f name) t).ents other k else entPut (nd (dropTo d f name) t).ents other k
theorem setE_comm {i j : Int} (hi : has d i) (hj : has d j) (hne : i ≠ j) (l m : List Ent) : setE (setE d i l) j m = setE (setE d j m) i l := by
  have h1 := has_range hi
  have h2 := has_range hj
  unfold setE
  rw [nd_upd h1.1 h1.2, nd_upd h2.1 h2.2, if_neg (fun e => hne e.symm), if_neg hne]
  unfold upd
  rw [if_pos h1.1, if_pos h2.1, if_pos h1.1]
  rw [if_pos h2.1]
  exact List.set_comm _ _ (by omega)
theorem MoveOk.ref (M : MoveOk d f name t other k) : setE (dropTo d f name) t (refAtL d f name t other k) = moveTo d f name t other k := by
  unfold moveTo refAtL
  by_cases e : f = t
  · subst e
    have hne : name ≠ other := fun h => M.ne ⟨rfl, h⟩
    have h1 : (nd (dropTo d f name) f).ents = entDel (nd d f).ents name := by unfold dropTo; rw [ents_setE M.hf, if_pos rfl]
    rw [h1]
    unfold dropTo moveMid
    rw [setE_setE M.hf, ents_setE M.hf, if_pos rfl, setE_setE M.hf]
    congr 1
    unfold movedAt
    cases hh : entHas (nd d f).ents other with
    | true => simp only [if_true]; rw [set_del_comm M.rt hne]
    | false => simp only [Bool.false_eq_true, if_false]; rw [put_del_comm M.rt hh hne]
  · have h1 : (nd (dropTo d f name) t).ents = (nd d t).ents := by unfold dropTo; rw [ents_setE M.hf, if_neg (fun h => e h.symm)]
    have h2 : (nd (moveMid d t other k) f).ents = (nd d f).ents := by unfold moveMid; rw [ents_setE M.ht, if_neg e]
    rw [h1]
    unfold dropTo
    rw [h2]
    unfold moveMid movedAt
    exact setE_comm M.hf M.ht e _ _
theorem MoveOk.free (M : MoveOk d f name t other k) (hcl : NoGarb d) : (∀ old, entGet (nd d t).ents other = some old → Go.Proofs.YtijbhmledmnifaaGreatDoor.has (moveTo d f name t other k) old ∧ ∀ j, Garb (moveTo d f name t other k) j → j = old) ∧
    (entGet (nd d t).ents other = none → gc (moveTo d f name t other k) = moveTo d f name t other k) := by
  have hl := M.links
  refine ⟨fun old ho => ⟨(M.has old).2 (M.inv.tgt t _ (entGet_mem ho)).1, fun j hj => ?_⟩, fun ho => gc_same fun j hj => ?_⟩
  · obtain ⟨g1, g2, g3⟩ := hj
    rw [M.holds] at g3
    have h2 := hl j
    unfold movePend at h2
    rw [ho] at h2
    simp only at h2
    unfold onePend at h2
    by_cases e : j = old
    · exact e
    · rw [if_neg e] at h2
      exact absurd ⟨(M.has j).1 g1, by omega, g3⟩ (hcl j)
  · obtain ⟨g1, g2, g3⟩ := hj
    rw [M.holds] at g3
    have h2 := hl j
    unfold movePend at h2
    rw [ho] at h2
    simp only at h2
    unfold zp at h2
    exact hcl j ⟨(M.has j).1 g1, by omega, g3⟩
theorem MoveOk.small (M : MoveOk d f name t other k) (hs : smallD d) : smallD (moveTo d f name t other k) := by
  have := M.mass
  unfold smallD at *
  omega
theorem MoveOk.get_drop (M : MoveOk d f name t other k) : entHas (nd (dropTo d f name) t).ents other = entHas (nd d t).ents other := by
  unfold dropTo
  rw [ents_setE M.hf]
  split
  · next e =>
    subst e
    rw [entHas_del]
    have : decide (other = name) = false := decide_eq_false (fun h => M.ne ⟨rfl, h.symm⟩)
    first | (rw [this]; simp) | simp [this]
  · rfl
end
end Go.Proofs.YtijbhmledmnifaaGreatDoor

/-
  Contracts of the reference for layer 4, the ninth part: Move, where it fails, or has nothing to do.
-/
namespace Go.Proofs.YtijbhmledmnifaaGreatDoor
open Go.RowKit
set_option maxRecDepth 100000
set_option maxHeartbeats 2000000
section
variable {S : Nat → Prop} {w : World} {p : Option Addr} {c : Nat} {d : Nds} {room : Int}
theorem r4move_e1 (h : RefAt S w p c d) (hI : DInv d) (hs : smallD d) (f : Int) (name : ByteArray) (t : Int) (other : ByteArray) (he : lookErr d f name ≠ 0 ∨ folderErr d t ≠ 0) :
    Calls Tryz.prog 136 #[refV p c d room, .int .i64 f, .string name, .int .i64 t, .string other] w (RTo S w d room (if lookErr d f name ≠ 0 then lookErr d f name else folderErr d t)) := by
  have hcap := h.cap
  have hmax := h.max
  unfold maxLen at hmax
  have HFo := Lib.hid (fun (w1 : World) (hk : Keeps NoB w w1) => r4folder_any (room := room) (h.keepN hk) hI.zero t)
  have HLk := Lib.hid (fun (w1 : World) (hk : Keeps NoB w w1) => r4look_any (room := room) (h.keepN hk) hI f name)
  have Hh := Lib.hid (fun (w1 : World) (hk : Keeps NoB w w1) => h.but2 hk)
  have B := rbox (w := w) (Keeps.refl NoB ((w.alloc (.cells #[.slice p d.length c, .int .i64 room] 35)).alloc (.cells #[.slice none 0 0, .int .i64 0] 35)))
  by_cases c0 : lookErr d f name = 0
  case neg =>
    rw [if_pos c0]
    clear h hI hs HFo he
    generalize lookErr d f name = er at *
    generalize lookOf d f name = ko at *
    unfold refV at *
    go_enter Tryz.func136, Tryz.ntmps136
    go_wp2_with (go_at_call 195; refine (HLk.out _ B.keeps).mono ?_; rintro e w1 ⟨rfl, hk1⟩; (try clear A0); (try clear A1); (try clear C0); (try clear C1); (try clear zA); (try clear zC); (try clear l0); (try clear l1); (try clear R0); (try clear R1); (try clear R2); (try clear R3); (try clear R4); (try clear hgl); (try clear Q0); (try clear T4); replace B := B.on hk1; clear hk1; have A0 := B.A0; have A1 := B.A1; have C0 := B.C0; have C1 := B.C1; have zA := B.zA; have zC := B.zC; have l0 : w.heap.size < w1.heap.size := Nat.lt_of_lt_of_le (by simp) B.size; have l1 : w.heap.size + 1 < w1.heap.size := B.size)
    (try simp only [Exit.inBlock, Exit.then])
    refine bodyPost_ret (v := .tuple #[.agg #[.slice p d.length c, .int .i64 room], .int .i64 er]) ?_ rfl ?_
    · rw [results_cell_tmp rfl]
      go_simp
    · exact rto_store (Hh.out _ B.keeps) B.keeps _ _
  case pos =>
    rw [if_neg (by simpa using c0)]
    replace he := he.resolve_left (by simpa using c0)
    rw [c0] at HLk
    clear h hI hs
    generalize folderErr d t = er at *
    generalize lookOf d f name = ko at *
    unfold refV at *
    go_enter Tryz.func136, Tryz.ntmps136
    go_wp2_with (first | (go_at_call 195; refine (HLk.out _ B.keeps).mono ?_; rintro e w1 ⟨rfl, hk1⟩; (try clear A0); (try clear A1); (try clear C0); (try clear C1); (try clear zA); (try clear zC); (try clear l0); (try clear l1); (try clear R0); (try clear R1); (try clear R2); (try clear R3); (try clear R4); (try clear hgl); (try clear Q0); (try clear T4); replace B := B.on hk1; clear hk1; have A0 := B.A0; have A1 := B.A1; have C0 := B.C0; have C1 := B.C1; have zA := B.zA; have zC := B.zC; have l0 : w.heap.size < w1.heap.size := Nat.lt_of_lt_of_le (by simp) B.size; have l1 : w.heap.size + 1 < w1.heap.size := B.size) | (go_at_call 191; refine (HFo.out _ B.keeps).mono ?_; rintro e w1 ⟨rfl, hk1⟩; (try clear A0); (try clear A1); (try clear C0); (try clear C1); (try clear zA); (try clear zC); (try clear l0); (try clear l1); (try clear R0); (try clear R1); (try clear R2); (try clear R3); (try clear R4); (try clear hgl); (try clear Q0); (try clear T4); replace B := B.on hk1; clear hk1; have A0 := B.A0; have A1 := B.A1; have C0 := B.C0; have C1 := B.C1; have zA := B.zA; have zC := B.zC; have l0 : w.heap.size < w1.heap.size := Nat.lt_of_lt_of_le (by simp) B.size; have l1 : w.heap.size + 1 < w1.heap.size := B.size))
    (try simp only [Exit.inBlock, Exit.then])
    refine bodyPost_ret (v := .tuple #[.agg #[.slice p d.length c, .int .i64 room], .int .i64 er]) ?_ rfl ?_
    · rw [results_cell_tmp rfl]
      go_simp
    · exact rto_store (Hh.out _ B.keeps) B.keeps _ _
theorem move_rows (h : RefAt S w p c d) {f t k : Int} (hf : has d f) (ht : has d t) (hk : has d k) :
    ∃ (F T K : Nat) (g off : Nat) (q q' : Option Addr) (m m' : Nat), f = (F : Int) ∧ t = (T : Int) ∧ k = (K : Int) ∧ F < d.length ∧ T < d.length ∧ K < d.length ∧ p = some ⟨g, off, none⟩ ∧ S g ∧
    SlAt encEnt S w q m (nd d (F : Int)).ents ∧ SlAt encEnt S w q' m' (nd d (T : Int)).ents ∧ g < w.heap.size ∧
    (∀ w1, Keeps NoB w w1 → (w1.cell? ⟨g, off + F * 5, none⟩ = some (.int .i64 (nd d F).kind) ∧ w1.cell? ⟨g, off + F * 5 + 1, none⟩ = some (.int .i64 (nd d F).mode) ∧ w1.cell? ⟨g, off + F * 5 + 2, none⟩ = some (.int .i64 (nd d F).holds) ∧
      w1.cell? ⟨g, off + F * 5 + 3, none⟩ = some (.string (nd d F).data) ∧ w1.cell? ⟨g, off + F * 5 + 4, none⟩ = some (.slice q (nd d F).ents.length m) ∧ g < w1.heap.size ∧ w1.cell? ⟨g, off + K * 5, none⟩ = some (.int .i64 (nd d K).kind) ∧
      w1.cell? ⟨g, off + T * 5 + 4, none⟩ = some (.slice q' (nd d T).ents.length m'))) := by
  obtain ⟨F, rfl, hF⟩ := has_nat hf
  obtain ⟨T, rfl, hT⟩ := has_nat ht
  obtain ⟨K, rfl, hK⟩ := has_nat hk
  obtain ⟨g, off, q, m, rfl, hSg, hrow⟩ := h.rowAt hF
  obtain ⟨g', off', q', m', hp', _, hrow'⟩ := h.rowAt hT
  cases hp'
  obtain ⟨g'', off'', q'', m'', hp'', _, hrow''⟩ := h.rowAt hK
  cases hp''
  refine ⟨F, T, K, g, off, q, q', m, m', rfl, rfl, rfl, hF, hT, hK, rfl, hSg, hrow.sl, hrow'.sl, hrow.lt, fun w1 hk1 => ?_⟩
  exact ⟨(hrow.keepN hk1).c0, (hrow.keepN hk1).c1, (hrow.keepN hk1).c2, (hrow.keepN hk1).c3, (hrow.keepN hk1).c4, (hrow.keepN hk1).lt, (hrow''.keepN hk1).c0, (hrow'.keepN hk1).c4⟩
theorem r4below_says (h : RefAt S w p c d) (hI : DInv d) (hs : smallD d) (i top : Int) (hi : (nd d i).kind = 2) (ht : top ≠ 1) (b : Bool) (hb : b = true ↔ Above d top i) :
    Calls Tryz.prog 203 #[refV p c d room, .int .i64 i, .int .i64 top] w fun e w' => e = .returned (.bool b) ∧ Keeps NoB w w' := by
  refine (r4below_any h hI hs i top hi ht).mono ?_
  rintro e w' ⟨b', rfl, h1, h2⟩
  have : b' = b := by rw [Bool.eq_iff_iff, h1, hb]
  rw [this]
  exact ⟨rfl, h2⟩
theorem r4move_e2 (h : RefAt S w p c d) (hI : DInv d) (hs : smallD d) (f : Int) (name : ByteArray) (t : Int) (other : ByteArray) (k : Int) (c0 : lookErr d f name = 0) (hkk : lookOf d f name = k) (c1 : folderErr d t = 0) (hk2 : (nd d k).kind = 2) (ha : Above d k t) :
    Calls Tryz.prog 136 #[refV p c d room, .int .i64 f, .string name, .int .i64 t, .string other] w (RTo S w d room 23) := by
  have hcap := h.cap
  have hmax := h.max
  unfold maxLen at hmax
  obtain ⟨f0, hget⟩ := lookErr_zero c0
  rw [hkk] at hget
  obtain ⟨hf, hf2⟩ := folderErr_zero f0
  obtain ⟨ht, ht2⟩ := folderErr_zero c1
  have hk := (hI.tgt f _ (entGet_mem hget)).1
  have hk1 := (hI.tgt f _ (entGet_mem hget)).2
  have HFo := Lib.hid (fun (w1 : World) (hk : Keeps NoB w w1) => r4folder_any (room := room) (h.keepN hk) hI.zero t)
  have HLk := Lib.hid (fun (w1 : World) (hk : Keeps NoB w w1) => r4look_any (room := room) (h.keepN hk) hI f name)
  have HBe := Lib.hid (fun (w1 : World) (hkx : Keeps NoB w w1) => r4below_says (room := room) (h.keepN hkx) hI hs t k ht2 hk1 true ⟨fun _ => ha, fun _ => rfl⟩)
  rw [c0, hkk] at HLk
  rw [c1] at HFo
  have Hh := Lib.hid (fun (w1 : World) (hk : Keeps NoB w w1) => h.but2 hk)
  have B := rbox (w := w) (Keeps.refl NoB ((w.alloc (.cells #[.slice p d.length c, .int .i64 room] 35)).alloc (.cells #[.slice none 0 0, .int .i64 0] 35)))
  obtain ⟨F, T, K, g, off, q, q', m, m', rfl, rfl, rfl, hF, hT, hK, rfl, hSg, hsl, hsl', hg0, hc⟩ := move_rows h hf ht hk
  have HC := Lib.hid hc
  rw [hk2] at HC
  clear h hI hs hc hsl hsl' hget f0 c0 c1 hkk ha hk2 hf ht hk hk1 hf2 ht2
  generalize (nd d (F : Int)).ents = eF at *
  generalize (nd d (T : Int)).ents = eT at *
  unfold refV at *
  go_enter Tryz.func136, Tryz.ntmps136
  go_wp2_with (first | (go_at_call 195; refine (HLk.out _ B.keeps).mono ?_; rintro e w1 ⟨rfl, hk1⟩; (try clear A0); (try clear A1); (try clear C0); (try clear C1); (try clear zA); (try clear zC); (try clear l0); (try clear l1); (try clear R0); (try clear R1); (try clear R2); (try clear R3); (try clear R4); (try clear hgl); (try clear Q0); (try clear T4); replace B := B.on hk1; clear hk1; have A0 := B.A0; have A1 := B.A1; have C0 := B.C0; have C1 := B.C1; have zA := B.zA; have zC := B.zC; have l0 : w.heap.size < w1.heap.size := Nat.lt_of_lt_of_le (by simp) B.size; have l1 : w.heap.size + 1 < w1.heap.size := B.size; obtain ⟨R0, R1, R2, R3, R4, hgl, Q0, T4⟩ := HC.out _ B.keeps) | (go_at_call 191; refine (HFo.out _ B.keeps).mono ?_; rintro e w1 ⟨rfl, hk1⟩; (try clear A0); (try clear A1); (try clear C0); (try clear C1); (try clear zA); (try clear zC); (try clear l0); (try clear l1); (try clear R0); (try clear R1); (try clear R2); (try clear R3); (try clear R4); (try clear hgl); (try clear Q0); (try clear T4); replace B := B.on hk1; clear hk1; have A0 := B.A0; have A1 := B.A1; have C0 := B.C0; have C1 := B.C1; have zA := B.zA; have zC := B.zC; have l0 : w.heap.size < w1.heap.size := Nat.lt_of_lt_of_le (by simp) B.size; have l1 : w.heap.size + 1 < w1.heap.size := B.size; obtain ⟨R0, R1, R2, R3, R4, hgl, Q0, T4⟩ := HC.out _ B.keeps) | (go_at_call 203; refine (HBe.out _ B.keeps).mono ?_; rintro e w1 ⟨rfl, hk1⟩; (try clear A0); (try clear A1); (try clear C0); (try clear C1); (try clear zA); (try clear zC); (try clear l0); (try clear l1); (try clear R0); (try clear R1); (try clear R2); (try clear R3); (try clear R4); (try clear hgl); (try clear Q0); (try clear T4); replace B := B.on hk1; clear hk1; have A0 := B.A0; have A1 := B.A1; have C0 := B.C0; have C1 := B.C1; have zA := B.zA; have zC := B.zC; have l0 : w.heap.size < w1.heap.size := Nat.lt_of_lt_of_le (by simp) B.size; have l1 : w.heap.size + 1 < w1.heap.size := B.size; obtain ⟨R0, R1, R2, R3, R4, hgl, Q0, T4⟩ := HC.out _ B.keeps))
  (try simp only [Exit.inBlock, Exit.then])
  refine bodyPost_ret (v := .tuple #[.agg #[.slice (some ⟨g, off, none⟩) d.length c, .int .i64 room], .int .i64 23]) ?_ rfl ?_
  · rw [results_cell_tmp rfl]
    go_simp
  · exact rto_store (Hh.out _ B.keeps) B.keeps _ _
theorem r4move_e3 (h : RefAt S w p c d) (hI : DInv d) (hs : smallD d) (f : Int) (name : ByteArray) (t : Int) (other : ByteArray) (k old : Int) (c0 : lookErr d f name = 0) (hkk : lookOf d f name = k) (c1 : folderErr d t = 0) (htop : (nd d k).kind = 2 → ¬ Above d k t)
    (hold : entGet (nd d t).ents other = some old) (hor : old = k ∨ givesErr d k old ≠ 0) :
    Calls Tryz.prog 136 #[refV p c d room, .int .i64 f, .string name, .int .i64 t, .string other] w (RTo S w d room (if old = k then 0 else givesErr d k old)) := by
  have hcap := h.cap
  have hmax := h.max
  unfold maxLen at hmax
  obtain ⟨f0, hget⟩ := lookErr_zero c0
  rw [hkk] at hget
  obtain ⟨hf, hf2⟩ := folderErr_zero f0
  obtain ⟨ht, ht2⟩ := folderErr_zero c1
  have hk := (hI.tgt f _ (entGet_mem hget)).1
  have hk1 := (hI.tgt f _ (entGet_mem hget)).2
  have ho := (hI.tgt t _ (entGet_mem hold)).1
  have HFo := Lib.hid (fun (w1 : World) (hk : Keeps NoB w w1) => r4folder_any (room := room) (h.keepN hk) hI.zero t)
  have HLk := Lib.hid (fun (w1 : World) (hk : Keeps NoB w w1) => r4look_any (room := room) (h.keepN hk) hI f name)
  have HLo := Lib.hid (fun (w1 : World) (hk : Keeps NoB w w1) => r4look_any (room := room) (h.keepN hk) hI t other)
  have HGi := Lib.hid (fun (w1 : World) (hkx : Keeps NoB w w1) => r4gives_any (room := room) (h.keepN hkx) k old hk ho)
  have HBe := Lib.hid (fun (h2 : (nd d k).kind = 2) (w1 : World) (hkx : Keeps NoB w w1) => r4below_says (room := room) (h.keepN hkx) hI hs t k ht2 hk1 false ⟨(fun h => by cases h), fun h => absurd h (htop h2)⟩)
  have e1 : lookErr d t other = 0 := by unfold lookErr; rw [if_neg (by simpa using c1), hold]; rfl
  have e2 : lookOf d t other = old := by unfold lookOf; rw [if_neg (by simpa using c1), hold]; rfl
  rw [c0, hkk] at HLk
  rw [c1] at HFo
  rw [e1, e2] at HLo
  have Hh := Lib.hid (fun (w1 : World) (hk : Keeps NoB w w1) => h.but2 hk)
  have B := rbox (w := w) (Keeps.refl NoB ((w.alloc (.cells #[.slice p d.length c, .int .i64 room] 35)).alloc (.cells #[.slice none 0 0, .int .i64 0] 35)))
  have hne : k = old ∨ k ≠ old := Classical.em _
  obtain ⟨F, T, K, g, off, q, q', m, m', rfl, rfl, rfl, hF, hT, hK, rfl, hSg, hsl, hsl', hg0, hc⟩ := move_rows h hf ht hk
  have HC := Lib.hid hc
  have hkd : ((nd d (K : Int)).kind = 2) ∨ ((nd d (K : Int)).kind ≠ 2) := Classical.em _
  clear h hI hs hc hsl hsl' hget f0 c0 c1 hkk htop hf ht hk hk1 hf2 ht2 hold ho e1 e2
  generalize (nd d (F : Int)).ents = eF at *
  generalize (nd d (T : Int)).ents = eT at *
  generalize givesErr d K old = ge at *
  unfold refV at *
  rcases hkd with hkd | hkd
  case' inl => rw [hkd] at HC; replace HBe := Lib.hid (HBe.out hkd); clear hkd
  case' inr => clear HBe; generalize (nd d (K : Int)).kind = ko at *
  all_goals
    by_cases c3 : old = (K : Int)
    · subst c3
      rw [if_pos rfl]
      clear HGi hor hne
      go_enter Tryz.func136, Tryz.ntmps136
      go_wp2_with (first | (go_at_call 195; have HX := HLk; clear HLk; refine (HX.out _ B.keeps).mono ?_; clear HX; rintro e w1 ⟨rfl, hk1⟩; (try clear A0); (try clear A1); (try clear C0); (try clear C1); (try clear zA); (try clear zC); (try clear l0); (try clear l1); (try clear R0); (try clear R1); (try clear R2); (try clear R3); (try clear R4); (try clear hgl); (try clear Q0); (try clear T4); replace B := B.on hk1; clear hk1; have A0 := B.A0; have A1 := B.A1; have C0 := B.C0; have C1 := B.C1; have zA := B.zA; have zC := B.zC; have l0 : w.heap.size < w1.heap.size := Nat.lt_of_lt_of_le (by simp) B.size; have l1 : w.heap.size + 1 < w1.heap.size := B.size; obtain ⟨R0, R1, R2, R3, R4, hgl, Q0, T4⟩ := HC.out _ B.keeps) | (go_at_call 195; have HX := HLo; clear HLo; refine (HX.out _ B.keeps).mono ?_; clear HX; rintro e w1 ⟨rfl, hk1⟩; (try clear A0); (try clear A1); (try clear C0); (try clear C1); (try clear zA); (try clear zC); (try clear l0); (try clear l1); (try clear R0); (try clear R1); (try clear R2); (try clear R3); (try clear R4); (try clear hgl); (try clear Q0); (try clear T4); replace B := B.on hk1; clear hk1; have A0 := B.A0; have A1 := B.A1; have C0 := B.C0; have C1 := B.C1; have zA := B.zA; have zC := B.zC; have l0 : w.heap.size < w1.heap.size := Nat.lt_of_lt_of_le (by simp) B.size; have l1 : w.heap.size + 1 < w1.heap.size := B.size; obtain ⟨R0, R1, R2, R3, R4, hgl, Q0, T4⟩ := HC.out _ B.keeps) | (go_at_call 191; refine (HFo.out _ B.keeps).mono ?_; rintro e w1 ⟨rfl, hk1⟩; (try clear A0); (try clear A1); (try clear C0); (try clear C1); (try clear zA); (try clear zC); (try clear l0); (try clear l1); (try clear R0); (try clear R1); (try clear R2); (try clear R3); (try clear R4); (try clear hgl); (try clear Q0); (try clear T4); replace B := B.on hk1; clear hk1; have A0 := B.A0; have A1 := B.A1; have C0 := B.C0; have C1 := B.C1; have zA := B.zA; have zC := B.zC; have l0 : w.heap.size < w1.heap.size := Nat.lt_of_lt_of_le (by simp) B.size; have l1 : w.heap.size + 1 < w1.heap.size := B.size; obtain ⟨R0, R1, R2, R3, R4, hgl, Q0, T4⟩ := HC.out _ B.keeps) | (go_at_call 203; refine (HBe.out _ B.keeps).mono ?_; rintro e w1 ⟨rfl, hk1⟩; (try clear A0); (try clear A1); (try clear C0); (try clear C1); (try clear zA); (try clear zC); (try clear l0); (try clear l1); (try clear R0); (try clear R1); (try clear R2); (try clear R3); (try clear R4); (try clear hgl); (try clear Q0); (try clear T4); replace B := B.on hk1; clear hk1; have A0 := B.A0; have A1 := B.A1; have C0 := B.C0; have C1 := B.C1; have zA := B.zA; have zC := B.zC; have l0 : w.heap.size < w1.heap.size := Nat.lt_of_lt_of_le (by simp) B.size; have l1 : w.heap.size + 1 < w1.heap.size := B.size; obtain ⟨R0, R1, R2, R3, R4, hgl, Q0, T4⟩ := HC.out _ B.keeps))
      (try simp only [Exit.inBlock, Exit.then])
      refine bodyPost_ret (v := .tuple #[.agg #[.slice (some ⟨g, off, none⟩) d.length c, .int .i64 room], .int .i64 0]) ?_ rfl ?_
      · rw [results_cell_tmp rfl]
        go_simp
      · exact rto_store (Hh.out _ B.keeps) B.keeps _ _
    · rw [if_neg c3]
      replace hor := hor.resolve_left c3
      have hb3 : (old == (K : Int)) = false := by simpa using c3
      clear hne c3
      go_enter Tryz.func136, Tryz.ntmps136
      go_wp2_with (first | (go_at_call 195; have HX := HLk; clear HLk; refine (HX.out _ B.keeps).mono ?_; clear HX; rintro e w1 ⟨rfl, hk1⟩; (try clear A0); (try clear A1); (try clear C0); (try clear C1); (try clear zA); (try clear zC); (try clear l0); (try clear l1); (try clear R0); (try clear R1); (try clear R2); (try clear R3); (try clear R4); (try clear hgl); (try clear Q0); (try clear T4); replace B := B.on hk1; clear hk1; have A0 := B.A0; have A1 := B.A1; have C0 := B.C0; have C1 := B.C1; have zA := B.zA; have zC := B.zC; have l0 : w.heap.size < w1.heap.size := Nat.lt_of_lt_of_le (by simp) B.size; have l1 : w.heap.size + 1 < w1.heap.size := B.size; obtain ⟨R0, R1, R2, R3, R4, hgl, Q0, T4⟩ := HC.out _ B.keeps) | (go_at_call 195; have HX := HLo; clear HLo; refine (HX.out _ B.keeps).mono ?_; clear HX; rintro e w1 ⟨rfl, hk1⟩; (try clear A0); (try clear A1); (try clear C0); (try clear C1); (try clear zA); (try clear zC); (try clear l0); (try clear l1); (try clear R0); (try clear R1); (try clear R2); (try clear R3); (try clear R4); (try clear hgl); (try clear Q0); (try clear T4); replace B := B.on hk1; clear hk1; have A0 := B.A0; have A1 := B.A1; have C0 := B.C0; have C1 := B.C1; have zA := B.zA; have zC := B.zC; have l0 : w.heap.size < w1.heap.size := Nat.lt_of_lt_of_le (by simp) B.size; have l1 : w.heap.size + 1 < w1.heap.size := B.size; obtain ⟨R0, R1, R2, R3, R4, hgl, Q0, T4⟩ := HC.out _ B.keeps) | (go_at_call 191; refine (HFo.out _ B.keeps).mono ?_; rintro e w1 ⟨rfl, hk1⟩; (try clear A0); (try clear A1); (try clear C0); (try clear C1); (try clear zA); (try clear zC); (try clear l0); (try clear l1); (try clear R0); (try clear R1); (try clear R2); (try clear R3); (try clear R4); (try clear hgl); (try clear Q0); (try clear T4); replace B := B.on hk1; clear hk1; have A0 := B.A0; have A1 := B.A1; have C0 := B.C0; have C1 := B.C1; have zA := B.zA; have zC := B.zC; have l0 : w.heap.size < w1.heap.size := Nat.lt_of_lt_of_le (by simp) B.size; have l1 : w.heap.size + 1 < w1.heap.size := B.size; obtain ⟨R0, R1, R2, R3, R4, hgl, Q0, T4⟩ := HC.out _ B.keeps) | (go_at_call 203; refine (HBe.out _ B.keeps).mono ?_; rintro e w1 ⟨rfl, hk1⟩; (try clear A0); (try clear A1); (try clear C0); (try clear C1); (try clear zA); (try clear zC); (try clear l0); (try clear l1); (try clear R0); (try clear R1); (try clear R2); (try clear R3); (try clear R4); (try clear hgl); (try clear Q0); (try clear T4); replace B := B.on hk1; clear hk1; have A0 := B.A0; have A1 := B.A1; have C0 := B.C0; have C1 := B.C1; have zA := B.zA; have zC := B.zC; have l0 : w.heap.size < w1.heap.size := Nat.lt_of_lt_of_le (by simp) B.size; have l1 : w.heap.size + 1 < w1.heap.size := B.size; obtain ⟨R0, R1, R2, R3, R4, hgl, Q0, T4⟩ := HC.out _ B.keeps) | (go_at_call 204; refine (HGi.out _ B.keeps).mono ?_; rintro e w1 ⟨rfl, hk1⟩; (try clear A0); (try clear A1); (try clear C0); (try clear C1); (try clear zA); (try clear zC); (try clear l0); (try clear l1); (try clear R0); (try clear R1); (try clear R2); (try clear R3); (try clear R4); (try clear hgl); (try clear Q0); (try clear T4); replace B := B.on hk1; clear hk1; have A0 := B.A0; have A1 := B.A1; have C0 := B.C0; have C1 := B.C1; have zA := B.zA; have zC := B.zC; have l0 : w.heap.size < w1.heap.size := Nat.lt_of_lt_of_le (by simp) B.size; have l1 : w.heap.size + 1 < w1.heap.size := B.size; obtain ⟨R0, R1, R2, R3, R4, hgl, Q0, T4⟩ := HC.out _ B.keeps))
      (try simp only [Exit.inBlock, Exit.then])
      refine bodyPost_ret (v := .tuple #[.agg #[.slice (some ⟨g, off, none⟩) d.length c, .int .i64 room], .int .i64 ge]) ?_ rfl ?_
      · rw [results_cell_tmp rfl]
        go_simp
      · exact rto_store (Hh.out _ B.keeps) B.keeps _ _
end
end Go.Proofs.YtijbhmledmnifaaGreatDoor
