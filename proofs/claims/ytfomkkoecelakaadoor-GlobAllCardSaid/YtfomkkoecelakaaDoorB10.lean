/-
  Contracts of package disk, the sixth part: Info, Read.
-/
import Derived.Test.YtfomkkoecelakaaDoorB08
import Derived.Handy
import Derived.Laws.ResultCell
import Derived.Test.YtfomkkoecelakaaDoorB09
import Derived.Deep.RegionLaw

set_option linter.unusedSimpArgs false
set_option linter.unusedVariables false

namespace Go.Proofs.YtfomkkoecelakaaDoor
open Go.RowKit
set_option maxRecDepth 100000
set_option maxHeartbeats 1000000

section
variable {R : RD} {w : World} {a : Nat} {d : Nds} {room us : Int} {lk up : Int → Int}

def sizeOf4 (n : Nd) : Nat := if n.kind = 2 then n.ents.length else n.data.size
def infoV (n : Nd) (lk : Int) : Value := .agg #[.int .i64 n.kind, .int .i64 n.mode, .int .i64 lk, .int .i64 n.holds, .int .i64 (sizeOf4 n)]
def noInfo : Value := .agg #[.int .i64 0, .int .i64 0, .int .i64 0, .int .i64 0, .int .i64 0]

theorem info_any (h : Rep R w a d room us lk up) (i : Int) :
    Calls Tryd.prog 22 #[.pointer (some ⟨a, 0, none⟩), .int .i64 i] w fun e w' => e = .returned (.tuple #[if has d i then infoV (nd d i) (lk i) else noInfo, .int .i64 (if has d i then 0 else 12)]) ∧ Keeps NoB w w' := by
  have hl := h.l
  have hlook := (h.keepN ((Keeps.refl NoB w).alloc (.cells #[.int .i64 0, .int .i64 0, .int .i64 0, .int .i64 0, .int .i64 0] 44))).look i
  unfold nodeV at hlook
  have hlt := h.alt
  by_cases hi : has d i
  · rw [if_pos hi] at hlook
    rw [if_pos hi, if_pos hi]
    have hn := h.node i hi
    have c0 := hn.kind
    have c1 := hn.mode
    have c2 := hn.links
    have c3 := hn.holds
    have c4 := hn.data
    obtain ⟨p, cap, hv⟩ := hn.own.form
    rw [hv] at c4
    have hlen := fun wx (hx : Keeps NoB w wx) => len_any (fun _ => True) wx ⟨R.g i, 5, none⟩ (R.ev i) (nd d i).ents ((hn.dir.keep hx (fun h => h) (fun _ _ h => h)).any (fun _ _ => trivial))
    have HL := Lib.hid hlen
    unfold infoV sizeOf4
    generalize (nd d i).data.size = ds at *
    generalize (nd d i).ents.length = es at *
    generalize (nd d i).mode = m at *
    generalize (nd d i).holds = hh at *
    generalize lk i = l at *
    have hgl := hn.lt
    clear hn h hv hlen
    by_cases h2 : (nd d i).kind = 2
    · rw [if_pos h2]
      rw [h2] at c0 ⊢
      clear h2
      go_enter Tryd.func22, Tryd.ntmps22
      go_wp2_with (go_at_call 39; refine (HL.out _ ?_).mono ?_; (exact (Keeps.refl _ _).alloc _); rintro e w1 ⟨rfl, rfl⟩)
      go_region
      all_goals go_wp2
      all_goals (try simp only [Exit.inBlock, Exit.then])
      all_goals refine bodyPost_ret (v := .tuple #[.agg #[.int .i64 2, .int .i64 m, .int .i64 l, .int .i64 hh, .int .i64 es], .int .i64 0]) ?_ rfl ⟨rfl, ?_⟩
      all_goals first | (rw [results_cell_tmp rfl]; go_simp) | skip
      all_goals exact ((Keeps.refl _ _).alloc _).drew
    · rw [if_neg h2]
      generalize (nd d i).kind = kd at *
      go_enter Tryd.func22, Tryd.ntmps22
      go_wp2
      go_region
      all_goals go_wp2
      all_goals (try simp only [Exit.inBlock, Exit.then])
      all_goals refine bodyPost_ret (v := .tuple #[.agg #[.int .i64 kd, .int .i64 m, .int .i64 l, .int .i64 hh, .int .i64 ds], .int .i64 0]) ?_ rfl ⟨rfl, ?_⟩
      all_goals first | (rw [results_cell_tmp rfl]; go_simp) | skip
      all_goals exact ((Keeps.refl _ _).alloc _).drew
  · rw [if_neg hi] at hlook
    rw [if_neg hi, if_neg hi]
    go_enter Tryd.func22, Tryd.ntmps22
    go_wp2
    (try simp only [Exit.inBlock, Exit.then])
    refine bodyPost_ret (v := .tuple #[noInfo, .int .i64 12]) ?_ rfl ⟨rfl, ?_⟩
    · rw [results_cell_tmp rfl]; unfold noInfo; go_simp
    · exact (Keeps.refl _ _).alloc _

def readErr (d : Nds) (i at' most : Int) : Int := if dataErr d i ≠ 0 then dataErr d i else if at' < 0 then 10 else if most < 0 then 10 else 0
/-- At most so many bytes from a place on. -/
def cut (s : ByteArray) (at' most : Int) : ByteArray := s.extract (min at'.toNat s.size) (min at'.toNat s.size + min most.toNat (s.size - min at'.toNat s.size))
def readOf (d : Nds) (i at' most : Int) : ByteArray := if readErr d i at' most = 0 then cut (dataOf d i) at' most else ⟨#[]⟩

end

end Go.Proofs.YtfomkkoecelakaaDoor

/-
  Contracts of package disk, the seventh part: Make.
-/
namespace Go.Proofs.YtfomkkoecelakaaDoor
open Go.RowKit
set_option maxRecDepth 100000
set_option maxHeartbeats 1000000

def makeErr (d : Nds) (room kind m : Int) (s : ByteArray) : Int :=
  if kind < 1 then 43 else if 3 < kind then 43 else if kind = 2 ∧ s.size ≠ 0 then 43 else if okMode m = false then 10 else if 4194304 < s.size then 18 else if 65536 ≤ count d then 24 else if room - used d < s.size then 20 else 0
def newNd (kind m : Int) (s : ByteArray) : Nd := ⟨kind, m, 1, s, []⟩

section
variable {R : RD} {w : World} {a : Nat} {d : Nds} {room : Int}

theorem used_le2 {d : Nds} (h : DInv d) (hs : smallD d) : (used d : Int) ≤ 9007199254740992 := by
  have h1 := used_le h
  unfold smallD at hs
  omega

theorem make_end {lk up : Int → Int} {us1 : Int} {w1 w5 : World} {kind m : Int} {s : ByteArray} (hC : Casc R w a d room lk up zp) (hcl : NoGarb d) (hfit : (used d : Int) + s.size ≤ room) (hmax : room ≤ 9223372036854775807) (hb : mass d + 2 ≤ 2147483648)
    (h1 : 1 ≤ kind) (h3 : kind ≤ 3) (h2 : kind ≠ 2 ∨ s = ⟨#[]⟩) (hm : okMode m = true) (hs : (s.size : Int) ≤ 4194304)
    (hR1 : Rep R w1 a d room us1 lk up) (hus : us1 = (used d : Int) + s.size) (hk1 : Keeps (fun x => x = a) w w1) (e8 T : TypeId) {cap : Nat} (hcap : cap = grownCap (w1.setCell ⟨a, 1, none⟩ (.int .i64 ((d.length : Int) + 1))) s.size 0 e8)
    {w4 : World} (hw4 : w4 = (Lib.bytesWorld (w1.setCell ⟨a, 1, none⟩ (.int .i64 ((d.length : Int) + 1))) e8 s).alloc (.cells #[.int .i64 kind, .int .i64 m, .int .i64 0, .int .i64 1, .slice (some ⟨w1.heap.size, 0, none⟩) s.size cap, .slice none 0 0, .int .i64 0] T))
    {g5 : Nat} (hm5 : IMap w5 R.b (R.kv ++ [((d.length : Int), .pointer (some ⟨g5, 0, none⟩))])) (hg5 : g5 = w1.heap.size + 1) (hk5 : Keeps (fun g => g = R.b) w4 w5) : DiskTo R w a (d ++ [newNd kind m s]) room w5 := by
  subst hg5
  have hab : ¬ a = R.b := fun e => by have := hC.rep.tagB; rw [← e, hC.rep.tagA] at this; cases this
  have hsz2 : (w1.setCell ⟨a, 1, none⟩ (.int .i64 ((d.length : Int) + 1))).heap.size = w1.heap.size := by simp [World.setCell]
  obtain ⟨hO3, hk3⟩ := OwnB.conv (S := fun _ => True) (w1.setCell ⟨a, 1, none⟩ (.int .i64 ((d.length : Int) + 1))) e8 s trivial (by unfold maxLen; omega)
  rw [hsz2, ← hcap] at hO3
  have hsz3 := Lib.bytesWorld_size (w1.setCell ⟨a, 1, none⟩ (.int .i64 ((d.length : Int) + 1))) e8 s
  rw [hsz2] at hsz3
  generalize hw2 : w1.setCell ⟨a, 1, none⟩ (.int .i64 ((d.length : Int) + 1)) = w2 at *
  generalize hw3 : Lib.bytesWorld w2 e8 s = w3 at *
  have k12 : Keeps (fun x => x = a) w1 w2 := by rw [← hw2]; exact keeps_set w1 ⟨a, 1, none⟩ _
  have k34 : Keeps NoB w3 w4 := by rw [hw4]; exact (Keeps.refl _ _).alloc _
  have k14 : Keeps (fun x => x = a) w1 w4 := (k12.trans hk3.of_none).trans k34.of_none
  have kk : Keeps (fun x => x = a ∨ x = R.b) w w5 := ((hk1.trans k14).mono (fun _ _ h => .inl h)).trans (hk5.mono (fun _ _ h => .inr h))
  have hal1 := hR1.alt
  have hc : ∀ (j : Nat), w5.cell? ⟨a, j, none⟩ = w2.cell? ⟨a, j, none⟩ := fun j => by
    have e1 : w4.cell? ⟨a, j, none⟩ = w2.cell? ⟨a, j, none⟩ := (hk3.trans k34).cell (p := ⟨a, j, none⟩) (by rw [hsz2]; exact hal1) (fun h => h)
    rw [← e1]
    exact hk5.cell (p := ⟨a, j, none⟩) (Nat.lt_of_lt_of_le hal1 k14.size) hab
  have hf : ∀ (j : Nat), w5.frozen? ⟨a, j, none⟩ = w2.frozen? ⟨a, j, none⟩ := fun j => by
    have e1 : w4.frozen? ⟨a, j, none⟩ = w2.frozen? ⟨a, j, none⟩ := (hk3.trans k34).frozen (p := ⟨a, j, none⟩) (by rw [hsz2]; exact hal1) (fun h => h)
    rw [← e1]
    exact hk5.frozen (p := ⟨a, j, none⟩) (Nat.lt_of_lt_of_le hal1 k14.size) hab
  have hsz4 : w4.heap.size = w1.heap.size + 2 := by rw [hw4]; simp; omega
  have hbt : R.b < w1.heap.size := hR1.map.lt
  have hnew := heap_alloc_new w3 (.cells #[.int .i64 kind, .int .i64 m, .int .i64 0, .int .i64 1, .slice (some ⟨w1.heap.size, 0, none⟩) s.size cap, .slice none 0 0, .int .i64 0] T)
  rw [← hw4, hsz3] at hnew
  have hn5 : w5.heap[w1.heap.size + 1]? = some (.cells #[.int .i64 kind, .int .i64 m, .int .i64 0, .int .i64 1, .slice (some ⟨w1.heap.size, 0, none⟩) s.size cap, .slice none 0 0, .int .i64 0] T) := (hk5.block _ (by omega) (by omega)).trans hnew
  have hcell : ∀ j v, (#[Value.int .i64 kind, .int .i64 m, .int .i64 0, .int .i64 1, .slice (some ⟨w1.heap.size, 0, none⟩) s.size cap, .slice none 0 0, .int .i64 0] : Array Value)[j]? = some v → w5.cell? ⟨w1.heap.size + 1, j, none⟩ = some v := fun j v hv => by
    rw [cell_of_row w5 _ j _ T (0, 0) hn5]; exact hv
  have hO5 : OwnB (fun _ => True) w5 (.slice (some ⟨w1.heap.size, 0, none⟩) s.size cap) s := (hO3.keep k34 (fun _ _ h => h)).keep hk5 (fun g hg e => by
    have e' : g = R.b := e
    simp [Value.ownBlock] at hg; omega)
  have hN : NodeAt w5 (w1.heap.size + 1) (.slice (some ⟨w1.heap.size, 0, none⟩) s.size cap) (.slice none 0 0) (newNd kind m s) 0 0 :=
    ⟨hcell 0 _ rfl, hcell 1 _ rfl, hcell 2 _ rfl, hcell 3 _ rfl, hcell 4 _ rfl, hO5, ⟨hcell 5 _ rfl, frozen_of_row w5 _ 5 _ T hn5, rfl, Own.nil _ _ _ _, List.Pairwise.nil, (fun _ h => by cases h), (fun h => by simp [Value.ownBlock] at h)⟩, hcell 6 _ rfl, fun j => frozen_of_row w5 _ j _ T hn5⟩
  have hle := hk1.size
  have hnd0 : (newNd kind m s).kind ≠ 0 := by unfold newNd; simp only; omega
  obtain ⟨R', hR', hT⟩ := hC.rep.add kk (n := newNd kind m s) hnd0 (us' := us1) (w1.heap.size + 1) (.slice (some ⟨w1.heap.size, 0, none⟩) s.size cap)
    ((hc 0).trans (by rw [← hw2]; exact cell_set hR1.l)) ((hc 1).trans (by rw [← hw2]; exact cell_set hR1.next)) ((hc 2).trans (by rw [← hw2]; exact cell_set hR1.used)) ((hc 3).trans (by rw [← hw2]; exact cell_set hR1.room))
    (fun j => (hf j).trans (by rw [← hw2]; exact (frozen_set _ _ _ _).trans (hR1.fz j))) hm5 (by omega) (fun x hx => by simp [Value.ownBlock] at hx; omega) hN
  have hmo : 0 ≤ m ∧ m ≤ 4095 := by simpa [okMode] using hm
  have hok : NdOk (newNd kind m s) := ⟨by unfold newNd; simp only; omega, by unfold newNd; simp only; omega, fun e => absurd e hnd0, hmo.1, hmo.2, (by show (0 : Int) ≤ 1; decide), by unfold newNd; simp only; omega,
    fun e => h2.elim (fun h => absurd e h) id, fun _ => rfl, List.Pairwise.nil, (fun _ h => by cases h)⟩
  have hu : used (d ++ [newNd kind m s]) = used d + s.size := by
    rw [used_append]; unfold room1 newNd; simp [entSize]
  refine ⟨R', IsDisk.add hC hcl hnd0 hok rfl (by show (1 : Int) ≠ 0; decide) (by rw [hu]; rw [hus] at hR'; exact_mod_cast hR') ?_ (by rw [hu]; omega) hmax, hT⟩
  unfold smallD
  rw [mass_append]
  unfold mass1 newNd
  simp only [List.length_nil]
  omega

theorem make_any (h : IsDisk R w a d room) (kind m : Int) (s : ByteArray) (hb : mass d + 2 ≤ 2147483648) (he : makeErr d room kind m s = 0) :
    Calls Tryd.prog 15 #[.pointer (some ⟨a, 0, none⟩), .int .i64 kind, .int .i64 m, .string s] w fun e w' => e = .returned (.tuple #[.int .i64 d.length, .int .i64 0]) ∧ DiskTo R w a (d ++ [newNd kind m s]) room w' := by
  have H := Lib.hid h
  obtain ⟨⟨lk, up, hC⟩, hcl, hfit, hmax⟩ := h
  unfold makeErr at he
  split at he; · cases he
  split at he; · cases he
  split at he; · cases he
  split at he; · cases he
  split at he; · cases he
  split at he; · cases he
  split at he; · cases he
  next c1 c2 c3 c4 c5 c6 c7 =>
  have hmode : okMode m = true := by simpa using c4
  have hr := right_any m w
  rw [hmode] at hr
  have hl := hC.rep.l
  have hlen := hC.rep.map.len (P := Tryd.prog) Tryd.underlying72 3
  rw [hC.rep.len, show goInt ((count d : Nat) : Int) = .int .i64 (count d : Nat) from rfl] at hlen
  have hul := used_le2 hC.inv hC.small
  have hconv := fun wx => Lib.run_convert_string_bytes (P := Tryd.prog) wx 9 76 5 s Tryd.underlying9 Tryd.underlying76 Tryd.underlying5
  have hml := mass_ge d
  have htake := take_any hC.rep s.size (by omega) hfit hmax (by omega) (by omega)
  have ht : (decide ((s.size : Int) ≤ room - used d)) = true := decide_eq_true (by omega)
  have htu : takeU room (used d) s.size = used d + s.size := if_pos (by omega)
  rw [ht, htu] at htake
  have hlt : ¬ (65536 ≤ (count d : Int)) := by omega
  have hls : ¬ (4194304 < (s.size : Int)) := by omega
  have hlt2 : (65536 ≤ (count d : Int)) = False := by simp; omega
  have hw1 : wrap64 ((d.length : Int) + 1) = (d.length : Int) + 1 := IntWalk.wrap64_in _ (by omega)
  have hno : kvGet R.kv d.length = none := by rw [hC.rep.get, if_neg (not_has_length d)]
  have hab : ¬ R.b = a := fun e => by have := hC.rep.tagB; rw [e, hC.rep.tagA] at this; cases this
  have k2 : kind ≠ 2 ∨ (kind = 2 ∧ s = ⟨#[]⟩) := by
    by_cases e : kind = 2
    · refine .inr ⟨e, ByteArray.ext (Array.eq_empty_of_size_eq_zero ?_)⟩
      by_cases e0 : s.size = 0
      · exact e0
      · exact absurd ⟨e, e0⟩ c3
    · exact .inl e
  have hs32 : s.size ≤ maxLen := by unfold maxLen; omega
  have HE := Lib.hid (fun w1 w4 w5 cap => make_end (w1 := w1) (w4 := w4) (w5 := w5) (cap := cap) (kind := kind) (m := m) (s := s) hC hcl (by omega) hmax hb (by omega) (by omega) (k2.imp id And.right) hmode (by omega) (us1 := (used d : Int) + s.size))
  clear hC hcl hul ht htu hb hmode c7 c6 c5 c4 hfit hmax hml c3
  generalize (count d : Int) = cd at *
  generalize (used d : Int) = u at *
  rcases k2 with k2 | ⟨rfl, rfl⟩
  all_goals
    go_enter Tryd.func15, Tryd.ntmps15
    go_wp2_with (first | (go_at_call 26; refine hr.mono ?_; rintro e w1 ⟨rfl, rfl⟩) | (go_at_call 27; refine htake.mono ?_; rintro e w1 ⟨rfl, hR1, hk1⟩; have hl1 := hR1.l; have hn1 := hR1.next; have hf1 := hR1.fz 1) | (at_mapUpdate; refine wpl_mapUpdate rfl (.tmp 61) (.tmp 62) (.tmp 68) _ rfl Tryd.underlying72 Tryd.underlying3 rfl (((hR1.map.keep (keeps_set w1 ⟨a, 1, none⟩ _) hab).keep (OwnB.conv (S := fun _ => True) _ _ _ trivial hs32).2 (fun h => h)).keep ((Keeps.refl NoB _).alloc _) (fun h => h)) rfl rfl hno ?_; intro w5 hm5 hk5))
  all_goals
    go_ret2
    exact ⟨rfl, HE.out _ _ _ _ hR1 trivial hk1 _ _ rfl rfl hm5 (by rw [Lib.bytesWorld_size]; simp [World.setCell]) hk5⟩

theorem Casc.re {R' : RD} {w' : World} {lk up : Int → Int} {pend : Int → Nat} (h : Casc R w a d room lk up pend) (rep : Rep R' w' a d room (used d) lk up) : Casc R' w' a d room lk up pend :=
  ⟨rep, h.inv, h.cnt, h.pres, h.upok, h.small, h.lkb⟩

theorem make_err (h : IsDisk R w a d room) (kind m : Int) (s : ByteArray) (hsz : s.size ≤ 4294967296) (he : makeErr d room kind m s ≠ 0) :
    Calls Tryd.prog 15 #[.pointer (some ⟨a, 0, none⟩), .int .i64 kind, .int .i64 m, .string s] w fun e w' => e = .returned (.tuple #[.int .i64 0, .int .i64 (makeErr d room kind m s)]) ∧ DiskTo R w a d room w' := by
  have H := Lib.hid h
  obtain ⟨⟨lk, up, hC⟩, hcl, hfit, hmax⟩ := h
  have hul := used_le2 hC.inv hC.small
  have htake := take_any hC.rep s.size (by omega) hfit hmax (by omega) (by omega)
  have hfa := hC.rep.fA
  have hl := hC.rep.l
  have hlen := hC.rep.map.len (P := Tryd.prog) Tryd.underlying72 3
  rw [hC.rep.len, show goInt ((count d : Nat) : Int) = .int .i64 (count d : Nat) from rfl] at hlen
  have hr := right_any m w
  have HE := Lib.hid (fun (w1 : World) (hR : Rep R w1 a d room (used d) lk up) (hk : Keeps (fun x => x = a) w w1) => (⟨R, ⟨⟨lk, up, hC.re hR⟩, hcl, hfit, hmax⟩, Turn.of (hk.mono (fun x _ hx => by subst hx; exact hfa))⟩ : DiskTo R w a d room w1))
  unfold makeErr at he ⊢
  clear hC hcl hul hmax hfit
  by_cases c1 : kind < 1
  · rw [if_pos c1]
    clear he
    go_enter Tryd.func15, Tryd.ntmps15
    go_wp2
    go_ret2
    exact ⟨rfl, H.out.same (Keeps.refl _ _)⟩
  rw [if_neg c1] at he ⊢
  by_cases c2 : 3 < kind
  · rw [if_pos c2]
    clear he
    go_enter Tryd.func15, Tryd.ntmps15
    go_wp2
    go_ret2
    exact ⟨rfl, H.out.same (Keeps.refl _ _)⟩
  rw [if_neg c2] at he ⊢
  by_cases c3 : kind = 2 ∧ s.size ≠ 0
  · rw [if_pos c3]
    obtain ⟨rfl, c3⟩ := c3
    have hne : (s.toList == []) = false := beq_false_of_ne (fun e => c3 ((toList_nil s).1 e))
    clear he c3
    go_enter Tryd.func15, Tryd.ntmps15
    go_wp2
    go_ret2
    exact ⟨rfl, H.out.same (Keeps.refl _ _)⟩
  rw [if_neg c3] at he ⊢
  have k2 : kind ≠ 2 ∨ (kind = 2 ∧ s = ⟨#[]⟩) := by
    by_cases e : kind = 2
    · refine .inr ⟨e, ByteArray.ext (Array.eq_empty_of_size_eq_zero ?_)⟩
      by_cases e0 : s.size = 0
      · exact e0
      · exact absurd ⟨e, e0⟩ c3
    · exact .inl e
  clear c3
  by_cases c4 : okMode m = false
  · rw [if_pos c4]
    rw [c4] at hr
    clear he c4
    rcases k2 with k2 | ⟨rfl, rfl⟩
    all_goals
      go_enter Tryd.func15, Tryd.ntmps15
      go_wp2_with (go_at_call 26; refine hr.mono ?_; rintro e w1 ⟨rfl, rfl⟩)
      go_ret2
      exact ⟨rfl, H.out.same (Keeps.refl _ _)⟩
  rw [if_neg c4] at he ⊢
  rw [show okMode m = true by simpa using c4] at hr
  clear c4
  by_cases c5 : 4194304 < s.size
  · rw [if_pos c5]
    have c5' : ¬ ((s.size : Int) ≤ 4194304) := by omega
    rcases k2 with k2 | ⟨rfl, rfl⟩
    · clear he c5
      go_enter Tryd.func15, Tryd.ntmps15
      go_wp2_with (go_at_call 26; refine hr.mono ?_; rintro e w1 ⟨rfl, rfl⟩)
      go_ret2
      exact ⟨rfl, H.out.same (Keeps.refl _ _)⟩
    · exact absurd c5 (by decide)
  rw [if_neg c5] at he ⊢
  have c5' : (s.size : Int) ≤ 4194304 := by omega
  clear c5
  by_cases c6 : 65536 ≤ count d
  · rw [if_pos c6]
    have c6' : 65536 ≤ (count d : Int) := by omega
    clear he c6
    generalize (count d : Int) = cd at *
    rcases k2 with k2 | ⟨rfl, rfl⟩
    all_goals
      go_enter Tryd.func15, Tryd.ntmps15
      go_wp2_with (go_at_call 26; refine hr.mono ?_; rintro e w1 ⟨rfl, rfl⟩)
      go_ret2
      exact ⟨rfl, H.out.same (Keeps.refl _ _)⟩
  rw [if_neg c6] at he ⊢
  have c6' : ¬ (65536 ≤ (count d : Int)) := by omega
  have c6'' : (65536 ≤ (count d : Int)) = False := by simp; omega
  clear c6
  by_cases c7 : room - used d < s.size
  · rw [if_pos c7]
    rw [show (decide ((s.size : Int) ≤ room - used d)) = false from decide_eq_false (by omega), show takeU room (used d) s.size = used d from if_neg (by omega)] at htake
    clear he c7
    generalize (count d : Int) = cd at *
    generalize (used d : Int) = u at *
    rcases k2 with k2 | ⟨rfl, rfl⟩
    all_goals
      go_enter Tryd.func15, Tryd.ntmps15
      go_wp2_with (first | (go_at_call 26; refine hr.mono ?_; rintro e w1 ⟨rfl, rfl⟩) | (go_at_call 27; refine htake.mono ?_; rintro e w1 ⟨rfl, hR1, hk1⟩))
      go_ret2
      exact ⟨rfl, HE.out _ hR1 hk1⟩
  · rw [if_neg c7] at he
    exact absurd rfl he

/-- The nodes after Make. -/
def makeTo (d : Nds) (room kind m : Int) (s : ByteArray) : Nds := if makeErr d room kind m s = 0 then d ++ [newNd kind m s] else d
def makeId (d : Nds) (room kind m : Int) (s : ByteArray) : Int := if makeErr d room kind m s = 0 then d.length else 0

theorem makeD_any (h : IsDisk R w a d room) (kind m : Int) (s : ByteArray) (hb : mass d + 2 ≤ 2147483648) (hsz : s.size ≤ 4294967296) :
    Calls Tryd.prog 15 #[.pointer (some ⟨a, 0, none⟩), .int .i64 kind, .int .i64 m, .string s] w fun e w' => e = .returned (.tuple #[.int .i64 (makeId d room kind m s), .int .i64 (makeErr d room kind m s)]) ∧ DiskTo R w a (makeTo d room kind m s) room w' := by
  unfold makeId makeTo
  by_cases he : makeErr d room kind m s = 0
  · rw [if_pos he, if_pos he, he]; exact make_any h kind m s hb he
  · rw [if_neg he, if_neg he]; exact make_err h kind m s hsz he

end

end Go.Proofs.YtfomkkoecelakaaDoor

/-
  Contracts of package disk, the eighth part: Write.
-/
namespace Go.Proofs.YtfomkkoecelakaaDoor
open Go.RowKit
set_option maxRecDepth 100000
set_option maxHeartbeats 1000000

def endOf (d : Nds) (i x : Int) (s : ByteArray) : Nat := max (nd d i).data.size (x.toNat + s.size)
def writeErr (d : Nds) (room i x : Int) (s : ByteArray) : Int :=
  if fileErr d i ≠ 0 then fileErr d i else if x < 0 then 10 else if s.size = 0 then 0 else if 4194304 < x then 18 else if 4194304 - x < s.size then 18 else if room - used d < endOf d i x s - (nd d i).data.size then 20 else 0
def writeNd (n : Nd) (x : Nat) (s : ByteArray) : Nd := n.setData (over (n.data ++ noughts (max n.data.size (x + s.size) - n.data.size)) x s)
def writeTo (d : Nds) (room i x : Int) (s : ByteArray) : Nds := if writeErr d room i x s = 0 ∧ s.size ≠ 0 then upd d i (writeNd (nd d i) x.toNat s) else d

/-- append whose run is known, as one step of a region that draws. -/
theorem step_append_run {P : Program} {ops : Array Oper} {o : Oper} {a : Act} {w : World} {K : Act → World → Prop} {Q : Exit → Act → World → Prop} {E : Prop}
    (hg : o.guard = none) (s x : Operand) (t tn : TypeId) (hop : o.op = Op.call { callee := Callee.builtin Builtin.append, args := #[s, x], argTypes := #[t, tn] })
    {vs vx v' : Value} {w' : World} (hr : (Builtin.append_ #[t, tn] o.type #[vs, vx]).run P w = .ok v' w') (hs : a.eval s = vs) (hx : a.eval x = vx)
    (hK : K (a.put o.dst v') w') : if Region.wanted o (yielded ops a.tmps) = true then Oper.wp P o a w K Q else E := by
  have hw : Region.wanted o (yielded ops a.tmps) = true := by simp [Region.wanted, hg]
  rw [if_pos hw]
  unfold Oper.wp
  simp [execOp, hop, resolve, invoke, builtin, hs, hx, hr, Result.andThen]
  exact hK

section
variable {R : RD} {w : World} {a : Nat} {d : Nds} {room : Int}

theorem nd_upd_self {d : Nds} {i : Int} (hi : has d i) (n : Nd) : nd (upd d i n) i = n := by
  have hr := has_range hi
  rw [nd_upd hr.1 hr.2, if_pos rfl]

theorem upd_upd {d : Nds} {i : Int} (hi : has d i) {n : Nd} (hn : n.kind ≠ 0) (m : Nd) : upd (upd d i n) i m = upd d i m := by
  have hr := has_range hi
  have hi2 : has (upd d i n) i := (has_upd hi hn i).2 hi
  have hr2 := has_range hi2
  apply List.ext_getElem?
  intro j
  unfold upd
  rw [if_pos hr.1, if_pos hr.1, if_pos hr.1, List.set_set]

/-- The end of Write. -/
theorem write_end {lk up : Int → Int} {us1 : Int} {w1 w2 w4 : World} {i : Int} {v : Value} {x : Nat} {s : ByteArray} (hC : Casc R w a d room lk up zp) (hcl : NoGarb d) (hi : has d i) (hk1 : (nd d i).kind = 1) (hmax : room ≤ 9223372036854775807)
    (hx : x + s.size ≤ 4194304) (h0 : 0 < s.size) (hus : us1 = ((used (upd d i (writeNd (nd d i) x s)) : Nat) : Int)) (hfit : us1 ≤ room)
    (hR1 : Rep R w1 a d room us1 lk up) (hk1 : Keeps (fun x => x = a) w w1)
    (ho : OwnB (fun _ => True) w2 v ((nd d i).data ++ noughts (max (nd d i).data.size (x + s.size) - (nd d i).data.size))) (hk2 : Keeps (fun g => (R.dv i).ownBlock = some g) w1 w2) (hv : ∀ g, v.ownBlock = some g → (R.dv i).ownBlock = some g ∨ w1.heap.size ≤ g)
    (ho4 : OwnB (fun _ => True) w4 v (over ((nd d i).data ++ noughts (max (nd d i).data.size (x + s.size) - (nd d i).data.size)) x s)) (hk4 : Keeps (fun g => v.ownBlock = some g) (w2.setCell ⟨R.g i, 4, none⟩ v) w4) :
    DiskTo R w a (upd d i (writeNd (nd d i) x s)) room w4 := by
  obtain ⟨R', hR2, hT, hg', _, hdv'⟩ := hR1.setData hi hk2 ho hv
  have hn0 : ((nd d i).setData ((nd d i).data ++ noughts (max (nd d i).data.size (x + s.size) - (nd d i).data.size))).kind ≠ 0 := hi
  have hi2 := (has_upd hi hn0 i).2 hi
  have hR3 := hR2.overData hi2 (s := over ((nd d i).data ++ noughts (max (nd d i).data.size (x + s.size) - (nd d i).data.size)) x s) (by rw [hdv']; exact hk4) (by rw [hdv']; exact ho4)
  rw [nd_upd_self hi, upd_upd hi hn0] at hR3
  have hsz : (over ((nd d i).data ++ noughts (max (nd d i).data.size (x + s.size) - (nd d i).data.size)) x s).size = max (nd d i).data.size (x + s.size) := by
    have h1 : ((nd d i).data ++ noughts (max (nd d i).data.size (x + s.size) - (nd d i).data.size)).size = max (nd d i).data.size (x + s.size) := by rw [ByteArray.size_append, noughts_size]; omega
    rw [over_size (by rw [h1]; omega), h1]
  have hds := (hC.inv.node i).data
  subst hus
  refine ⟨R', IsDisk.turn hC hcl hi ((hC.inv.node i).setData hi (by omega) (s := over ((nd d i).data ++ noughts (max (nd d i).data.size (x + s.size) - (nd d i).data.size)) x s) (by rw [hsz]; omega)) rfl rfl (fun e => e) hR3 ?_ hfit hmax, ?_⟩
  · have := mass_upd (n := writeNd (nd d i) x s) hi
    have e : mass1 (writeNd (nd d i) x s) = mass1 (nd d i) := rfl
    have := hC.small
    unfold smallD at *
    unfold writeNd at *
    omega
  · have k3 : Keeps R'.F (w2.setCell ⟨R.g i, 4, none⟩ v) w4 := (Keeps.refl _ _).step hk4 (fun g hg => .inl (by
      have := hR2.tagD i hi2 g (by rw [hdv']; exact hg)
      unfold RD.F
      rw [this]
      exact fun h => by cases h))
    exact ((Turn.of (hk1.mono (fun g _ e => by subst e; exact hC.rep.fA))).trans hT).trans (Turn.of k3)

theorem write_facts {lk up : Int → Int} {us1 : Int} {w1 : World} {i : Int} {x : Nat} {s : ByteArray} {p : Option Addr} {cap : Nat} (hC : Casc R w a d room lk up zp) (hcl : NoGarb d) (hi : has d i) (hk1 : (nd d i).kind = 1) (hmax : room ≤ 9223372036854775807)
    (hx : x + s.size ≤ 4194304) (h0 : 0 < s.size) (hus : us1 = ((used (upd d i (writeNd (nd d i) x s)) : Nat) : Int)) (hfit : us1 ≤ room)
    (hR1 : Rep R w1 a d room us1 lk up) (hk1 : Keeps (fun x => x = a) w w1) (hv : R.dv i = .slice p (nd d i).data.size cap) :
    ∃ p' n' c' w2 w4, w1.drew.cell? ⟨R.g i, 4, none⟩ = some (.slice p (nd d i).data.size cap) ∧ w1.drew.frozen? ⟨R.g i, 4, none⟩ = false ∧ w2.cell? ⟨R.g i, 4, none⟩ = some (.slice p (nd d i).data.size cap) ∧ w2.frozen? ⟨R.g i, 4, none⟩ = false ∧
      (Builtin.append_ #[76, 3] 76 #[.slice p (nd d i).data.size cap, .int .i64 ((max (nd d i).data.size (x + s.size) - (nd d i).data.size : Nat) : Int)]).run Tryd.prog w1.drew = .ok (.slice p' n' c') w2 ∧
      (Instr.slice 76 (.slice p' n' c') (some (.int .i64 x)) none none).run Tryd.prog (w2.setCell ⟨R.g i, 4, none⟩ (.slice p' n' c')) = .ok (.slice (subAt 1 p' c' x) (n' - x) (c' - x)) (w2.setCell ⟨R.g i, 4, none⟩ (.slice p' n' c')) ∧
      (Builtin.copy_ #[76, 9] 3 #[.slice (subAt 1 p' c' x) (n' - x) (c' - x), .string s]).run Tryd.prog (w2.setCell ⟨R.g i, 4, none⟩ (.slice p' n' c')) = .ok (goInt s.size) w4 ∧
      R.g i < w1.drew.heap.size ∧ DiskTo R w a (upd d i (writeNd (nd d i) x s)) room w4 := by
  have hR1 := hR1.keepN ((Keeps.refl NoB w1).drew)
  have hk1 := hk1.drew
  have hn1 := hR1.node i hi
  have hsz : ((nd d i).data ++ noughts (max (nd d i).data.size (x + s.size) - (nd d i).data.size)).size = max (nd d i).data.size (x + s.size) := by rw [ByteArray.size_append, noughts_size]; omega
  have hds := (hC.inv.node i).data
  obtain ⟨v', w2, hz, ho2, hk2, hv2⟩ := hn1.own.zeros (P := Tryd.prog) (t := 76) (tn := 3) (e := 5) 76 Tryd.underlying76 Tryd.underlying3 (i := (Tryd.prog.info? 5).get!) (by kernel_rfl) (by kernel_rfl) (by kernel_rfl) (by kernel_rfl) (max (nd d i).data.size (x + s.size) - (nd d i).data.size) (by omega) trivial
  have hgd := hR1.dvne hi
  have hgv : ¬ v'.ownBlock = some (R.g i) := fun e => by
    rcases hv2 _ e with h1 | h1
    · exact hgd h1
    · have := hn1.lt; omega
  have hc2 : w2.cell? ⟨R.g i, 4, none⟩ = w1.cell? ⟨R.g i, 4, none⟩ := hk2.cell (p := ⟨R.g i, 4, none⟩) hn1.lt hgd
  have hf2 : w2.frozen? ⟨R.g i, 4, none⟩ = w1.frozen? ⟨R.g i, 4, none⟩ := hk2.frozen (p := ⟨R.g i, 4, none⟩) hn1.lt hgd
  have hd4 := hn1.data
  obtain ⟨p', c', hv'⟩ := ho2.form
  have hmax2 := ho2.small
  have ho3 : OwnB (fun _ => True) (w2.setCell ⟨R.g i, 4, none⟩ v') v' ((nd d i).data ++ noughts (max (nd d i).data.size (x + s.size) - (nd d i).data.size)) :=
    ho2.keep (keeps_set w2 ⟨R.g i, 4, none⟩ v') (fun g hg e => by
      have e' : g = R.g i := e
      subst e'; exact hgv hg)
  obtain ⟨w4, hcp, ho4, hk4⟩ := ho3.over (P := Tryd.prog) (t := 76) (tn := 9) (e := 5) 3 Tryd.underlying76 (i := (Tryd.prog.info? 5).get!) (by kernel_rfl) (by kernel_rfl) hv' x s h0 (by rw [hsz]; omega)
  have hsl := run_slice_l (P := Tryd.prog) 76 5 1 Tryd.underlying76 (by kernel_rfl) p' ((nd d i).data ++ noughts (max (nd d i).data.size (x + s.size) - (nd d i).data.size)).size c' x (by rw [hsz]; omega) (w2.setCell ⟨R.g i, 4, none⟩ v') (by rw [hsz]; omega)
  have hend := write_end hC hcl hi (by assumption) hmax hx h0 hus hfit hR1 hk1 ho2 hk2 hv2 ho4 hk4
  rw [hv] at hz hd4
  subst hv'
  exact ⟨p', _, c', w2, w4, hd4, hn1.fz 4, hc2.trans hd4, hf2.trans (hn1.fz 4), hz, hsl, hcp, hn1.lt, hend⟩

end

end Go.Proofs.YtfomkkoecelakaaDoor
