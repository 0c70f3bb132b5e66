/-
  Contracts of package disk, the sixth part: Info, Read.
-/
import Derived.Test.YtbmalnllppamdaaGreatDoorB08
import Derived.Handy
import Derived.Laws.ResultCell
import Derived.Test.YtbmalnllppamdaaGreatDoorB09
import Derived.Deep.RegionLaw

set_option linter.unusedSimpArgs false
set_option linter.unusedVariables false

namespace Go.Proofs.YtbmalnllppamdaaGreatDoor
open Go.RowKit
set_option maxRecDepth 100000
set_option maxHeartbeats 1000000

section
variable {R : RD} {w : World} {a : Nat} {d : Nds} {room us : Int} {lk up : Int → Int}

def sizeOf4 (n : Nd) : Nat := if n.kind = 2 then n.ents.length else n.data.size
def infoV (n : Nd) (lk : Int) : Value := .agg #[.int .i64 n.kind, .int .i64 n.mode, .int .i64 lk, .int .i64 n.holds, .int .i64 (sizeOf4 n)]
def noInfo : Value := .agg #[.int .i64 0, .int .i64 0, .int .i64 0, .int .i64 0, .int .i64 0]

theorem info_any (h : Rep R w a d room us lk up) (i : Int) :
    Calls Tryz.prog 49 #[.pointer (some ⟨a, 0, none⟩), .int .i64 i] w fun e w' => e = .returned (.tuple #[if has d i then infoV (nd d i) (lk i) else noInfo, .int .i64 (if has d i then 0 else 12)]) ∧ Keeps NoB w w' := by
  have hl := h.l
  have hlook := (h.keepN ((Keeps.refl NoB w).alloc (.cells #[.int .i64 0, .int .i64 0, .int .i64 0, .int .i64 0, .int .i64 0] 85))).look i
  unfold nodeV at hlook
  have hlt := h.alt
  by_cases hi : has d i
  · rw [if_pos hi] at hlook
    rw [if_pos hi, if_pos hi]
    have hn := h.node i hi
    have c0 := hn.kind
    have c1 := hn.mode
    have c2 := hn.links
    have c3 := hn.holds
    have c4 := hn.data
    obtain ⟨p, cap, hv⟩ := hn.own.form
    rw [hv] at c4
    have hlen := fun wx (hx : Keeps NoB w wx) => len_any (fun _ => True) wx ⟨R.g i, 5, none⟩ (R.ev i) (nd d i).ents ((hn.dir.keep hx (fun h => h) (fun _ _ h => h)).any (fun _ _ => trivial))
    have HL := Lib.hid hlen
    unfold infoV sizeOf4
    generalize (nd d i).data.size = ds at *
    generalize (nd d i).ents.length = es at *
    generalize (nd d i).mode = m at *
    generalize (nd d i).holds = hh at *
    generalize lk i = l at *
    have hgl := hn.lt
    clear hn h hv hlen
    by_cases h2 : (nd d i).kind = 2
    · rw [if_pos h2]
      rw [h2] at c0 ⊢
      clear h2
      go_enter Tryz.func49, Tryz.ntmps49
      go_wp2_with (go_at_call 106; refine (HL.out _ ?_).mono ?_; (exact (Keeps.refl _ _).alloc _); rintro e w1 ⟨rfl, rfl⟩)
      go_region
      all_goals go_wp2
      all_goals (try simp only [Exit.inBlock, Exit.then])
      all_goals refine bodyPost_ret (v := .tuple #[.agg #[.int .i64 2, .int .i64 m, .int .i64 l, .int .i64 hh, .int .i64 es], .int .i64 0]) ?_ rfl ⟨rfl, ?_⟩
      all_goals first | (rw [results_cell_tmp rfl]; go_simp) | skip
      all_goals exact ((Keeps.refl _ _).alloc _).drew
    · rw [if_neg h2]
      generalize (nd d i).kind = kd at *
      go_enter Tryz.func49, Tryz.ntmps49
      go_wp2
      go_region
      all_goals go_wp2
      all_goals (try simp only [Exit.inBlock, Exit.then])
      all_goals refine bodyPost_ret (v := .tuple #[.agg #[.int .i64 kd, .int .i64 m, .int .i64 l, .int .i64 hh, .int .i64 ds], .int .i64 0]) ?_ rfl ⟨rfl, ?_⟩
      all_goals first | (rw [results_cell_tmp rfl]; go_simp) | skip
      all_goals exact ((Keeps.refl _ _).alloc _).drew
  · rw [if_neg hi] at hlook
    rw [if_neg hi, if_neg hi]
    go_enter Tryz.func49, Tryz.ntmps49
    go_wp2
    (try simp only [Exit.inBlock, Exit.then])
    refine bodyPost_ret (v := .tuple #[noInfo, .int .i64 12]) ?_ rfl ⟨rfl, ?_⟩
    · rw [results_cell_tmp rfl]; unfold noInfo; go_simp
    · exact (Keeps.refl _ _).alloc _

def readErr (d : Nds) (i at' most : Int) : Int := if dataErr d i ≠ 0 then dataErr d i else if at' < 0 then 10 else if most < 0 then 10 else 0
/-- At most so many bytes from a place on. -/
def cut (s : ByteArray) (at' most : Int) : ByteArray := s.extract (min at'.toNat s.size) (min at'.toNat s.size + min most.toNat (s.size - min at'.toNat s.size))
def readOf (d : Nds) (i at' most : Int) : ByteArray := if readErr d i at' most = 0 then cut (dataOf d i) at' most else ⟨#[]⟩

theorem read_any (h : Rep R w a d room us lk up) (i x y : Int) (hs : (dataOf d i).size ≤ 4194304) :
    Calls Tryz.prog 59 #[.pointer (some ⟨a, 0, none⟩), .int .i64 i, .int .i64 x, .int .i64 y] w fun e w' => e = .returned (.tuple #[.string (readOf d i x y), .int .i64 (readErr d i x y)]) ∧ w = w' := by
  have hd := data_any h i
  clear h
  by_cases he : dataErr d i = 0
  · rw [he] at hd
    by_cases h1 : x < 0
    · have e1 : readErr d i x y = 10 := by simp [readErr, he, h1]
      have e2 : readOf d i x y = ⟨#[]⟩ := by simp [readOf, e1]
      rw [e2, e1]
      go_enter Tryz.func59, Tryz.ntmps59
      go_wp2_with (go_at_call 85; refine hd.mono ?_; rintro e w1 ⟨rfl, rfl⟩)
      go_ret2
      exact ⟨rfl, rfl⟩
    · by_cases h2 : y < 0
      · have e1 : readErr d i x y = 10 := by simp [readErr, he, h1, h2]
        have e2 : readOf d i x y = ⟨#[]⟩ := by simp [readOf, e1]
        rw [e2, e1]
        go_enter Tryz.func59, Tryz.ntmps59
        go_wp2_with (go_at_call 85; refine hd.mono ?_; rintro e w1 ⟨rfl, rfl⟩)
        go_ret2
        exact ⟨rfl, rfl⟩
      · have e1 : readErr d i x y = 0 := by simp [readErr, he, h1, h2]
        have e2 : readOf d i x y = cut (dataOf d i) x y := by simp [readOf, e1]
        rw [e2, e1]
        clear e1 e2 he
        generalize dataOf d i = s at *
        go_enter Tryz.func59, Tryz.ntmps59
        go_wp2_with (go_at_call 85; refine hd.mono ?_; rintro e w1 ⟨rfl, rfl⟩)
        go_ret2
        have a1 : (min x (s.size : Int)).toNat = min x.toNat s.size := by omega
        have a2 : (min x (s.size : Int) + min y ((s.size : Int) - min x (s.size : Int))).toNat = min x.toNat s.size + min y.toNat (s.size - min x.toNat s.size) := by omega
        have hc : s.extract (min x (s.size : Int)).toNat (min x (s.size : Int) + min y ((s.size : Int) - min x (s.size : Int))).toNat = cut s x y := by
          unfold cut
          rw [a1, a2]
        exact ⟨by rw [← hc]; rfl, rfl⟩
  · have e1 : readErr d i x y = dataErr d i := by simp [readErr, he]
    have e2 : readOf d i x y = ⟨#[]⟩ := by simp [readOf, e1, he]
    rw [e2, e1]
    clear e1 e2
    generalize dataErr d i = er at *
    generalize dataOf d i = s at *
    go_enter Tryz.func59, Tryz.ntmps59
    go_wp2_with (go_at_call 85; refine hd.mono ?_; rintro e w1 ⟨rfl, rfl⟩)
    go_ret2
    exact ⟨rfl, rfl⟩

end

end Go.Proofs.YtbmalnllppamdaaGreatDoor

/-
  Contracts of package disk, the seventh part: Make.
-/
namespace Go.Proofs.YtbmalnllppamdaaGreatDoor
open Go.RowKit
set_option maxRecDepth 100000
set_option maxHeartbeats 1000000

def makeErr (d : Nds) (room kind m : Int) (s : ByteArray) : Int :=
  if kind < 1 then 43 else if 3 < kind then 43 else if kind = 2 ∧ s.size ≠ 0 then 43 else if okMode m = false then 10 else if 4194304 < s.size then 18 else if 65536 ≤ count d then 24 else if room - used d < s.size then 20 else 0
def newNd (kind m : Int) (s : ByteArray) : Nd := ⟨kind, m, 1, s, []⟩

section
variable {R : RD} {w : World} {a : Nat} {d : Nds} {room : Int}

theorem used_le2 {d : Nds} (h : DInv d) (hs : smallD d) : (used d : Int) ≤ 9007199254740992 := by
  have h1 := used_le h
  unfold smallD at hs
  omega

theorem make_end {lk up : Int → Int} {us1 : Int} {w1 w5 : World} {kind m : Int} {s : ByteArray} (hC : Casc R w a d room lk up zp) (hcl : NoGarb d) (hfit : (used d : Int) + s.size ≤ room) (hmax : room ≤ 9223372036854775807) (hb : mass d + 2 ≤ 2147483648)
    (h1 : 1 ≤ kind) (h3 : kind ≤ 3) (h2 : kind ≠ 2 ∨ s = ⟨#[]⟩) (hm : okMode m = true) (hs : (s.size : Int) ≤ 4194304)
    (hR1 : Rep R w1 a d room us1 lk up) (hus : us1 = (used d : Int) + s.size) (hk1 : Keeps (fun x => x = a) w w1) (e8 T : TypeId) {cap : Nat} (hcap : cap = grownCap (w1.setCell ⟨a, 1, none⟩ (.int .i64 ((d.length : Int) + 1))) s.size 0 e8)
    {w4 : World} (hw4 : w4 = (Lib.bytesWorld (w1.setCell ⟨a, 1, none⟩ (.int .i64 ((d.length : Int) + 1))) e8 s).alloc (.cells #[.int .i64 kind, .int .i64 m, .int .i64 0, .int .i64 1, .slice (some ⟨w1.heap.size, 0, none⟩) s.size cap, .slice none 0 0, .int .i64 0] T))
    {g5 : Nat} (hm5 : IMap w5 R.b (R.kv ++ [((d.length : Int), .pointer (some ⟨g5, 0, none⟩))])) (hg5 : g5 = w1.heap.size + 1) (hk5 : Keeps (fun g => g = R.b) w4 w5) : DiskTo R w a (d ++ [newNd kind m s]) room w5 := by
  subst hg5
  have hab : ¬ a = R.b := fun e => by have := hC.rep.tagB; rw [← e, hC.rep.tagA] at this; cases this
  have hsz2 : (w1.setCell ⟨a, 1, none⟩ (.int .i64 ((d.length : Int) + 1))).heap.size = w1.heap.size := by simp [World.setCell]
  obtain ⟨hO3, hk3⟩ := OwnB.conv (S := fun _ => True) (w1.setCell ⟨a, 1, none⟩ (.int .i64 ((d.length : Int) + 1))) e8 s trivial (by unfold maxLen; omega)
  rw [hsz2, ← hcap] at hO3
  have hsz3 := Lib.bytesWorld_size (w1.setCell ⟨a, 1, none⟩ (.int .i64 ((d.length : Int) + 1))) e8 s
  rw [hsz2] at hsz3
  generalize hw2 : w1.setCell ⟨a, 1, none⟩ (.int .i64 ((d.length : Int) + 1)) = w2 at *
  generalize hw3 : Lib.bytesWorld w2 e8 s = w3 at *
  have k12 : Keeps (fun x => x = a) w1 w2 := by rw [← hw2]; exact keeps_set w1 ⟨a, 1, none⟩ _
  have k34 : Keeps NoB w3 w4 := by rw [hw4]; exact (Keeps.refl _ _).alloc _
  have k14 : Keeps (fun x => x = a) w1 w4 := (k12.trans hk3.of_none).trans k34.of_none
  have kk : Keeps (fun x => x = a ∨ x = R.b) w w5 := ((hk1.trans k14).mono (fun _ _ h => .inl h)).trans (hk5.mono (fun _ _ h => .inr h))
  have hal1 := hR1.alt
  have hc : ∀ (j : Nat), w5.cell? ⟨a, j, none⟩ = w2.cell? ⟨a, j, none⟩ := fun j => by
    have e1 : w4.cell? ⟨a, j, none⟩ = w2.cell? ⟨a, j, none⟩ := (hk3.trans k34).cell (p := ⟨a, j, none⟩) (by rw [hsz2]; exact hal1) (fun h => h)
    rw [← e1]
    exact hk5.cell (p := ⟨a, j, none⟩) (Nat.lt_of_lt_of_le hal1 k14.size) hab
  have hf : ∀ (j : Nat), w5.frozen? ⟨a, j, none⟩ = w2.frozen? ⟨a, j, none⟩ := fun j => by
    have e1 : w4.frozen? ⟨a, j, none⟩ = w2.frozen? ⟨a, j, none⟩ := (hk3.trans k34).frozen (p := ⟨a, j, none⟩) (by rw [hsz2]; exact hal1) (fun h => h)
    rw [← e1]
    exact hk5.frozen (p := ⟨a, j, none⟩) (Nat.lt_of_lt_of_le hal1 k14.size) hab
  have hsz4 : w4.heap.size = w1.heap.size + 2 := by rw [hw4]; simp; omega
  have hbt : R.b < w1.heap.size := hR1.map.lt
  have hnew := heap_alloc_new w3 (.cells #[.int .i64 kind, .int .i64 m, .int .i64 0, .int .i64 1, .slice (some ⟨w1.heap.size, 0, none⟩) s.size cap, .slice none 0 0, .int .i64 0] T)
  rw [← hw4, hsz3] at hnew
  have hn5 : w5.heap[w1.heap.size + 1]? = some (.cells #[.int .i64 kind, .int .i64 m, .int .i64 0, .int .i64 1, .slice (some ⟨w1.heap.size, 0, none⟩) s.size cap, .slice none 0 0, .int .i64 0] T) := (hk5.block _ (by omega) (by omega)).trans hnew
  have hcell : ∀ j v, (#[Value.int .i64 kind, .int .i64 m, .int .i64 0, .int .i64 1, .slice (some ⟨w1.heap.size, 0, none⟩) s.size cap, .slice none 0 0, .int .i64 0] : Array Value)[j]? = some v → w5.cell? ⟨w1.heap.size + 1, j, none⟩ = some v := fun j v hv => by
    rw [cell_of_row w5 _ j _ T (0, 0) hn5]; exact hv
  have hO5 : OwnB (fun _ => True) w5 (.slice (some ⟨w1.heap.size, 0, none⟩) s.size cap) s := (hO3.keep k34 (fun _ _ h => h)).keep hk5 (fun g hg e => by
    have e' : g = R.b := e
    simp [Value.ownBlock] at hg; omega)
  have hN : NodeAt w5 (w1.heap.size + 1) (.slice (some ⟨w1.heap.size, 0, none⟩) s.size cap) (.slice none 0 0) (newNd kind m s) 0 0 :=
    ⟨hcell 0 _ rfl, hcell 1 _ rfl, hcell 2 _ rfl, hcell 3 _ rfl, hcell 4 _ rfl, hO5, ⟨hcell 5 _ rfl, frozen_of_row w5 _ 5 _ T hn5, rfl, Own.nil _ _ _ _, List.Pairwise.nil, (fun _ h => by cases h), (fun h => by simp [Value.ownBlock] at h)⟩, hcell 6 _ rfl, fun j => frozen_of_row w5 _ j _ T hn5⟩
  have hle := hk1.size
  have hnd0 : (newNd kind m s).kind ≠ 0 := by unfold newNd; simp only; omega
  obtain ⟨R', hR', hT⟩ := hC.rep.add kk (n := newNd kind m s) hnd0 (us' := us1) (w1.heap.size + 1) (.slice (some ⟨w1.heap.size, 0, none⟩) s.size cap)
    ((hc 0).trans (by rw [← hw2]; exact cell_set hR1.l)) ((hc 1).trans (by rw [← hw2]; exact cell_set hR1.next)) ((hc 2).trans (by rw [← hw2]; exact cell_set hR1.used)) ((hc 3).trans (by rw [← hw2]; exact cell_set hR1.room))
    (fun j => (hf j).trans (by rw [← hw2]; exact (frozen_set _ _ _ _).trans (hR1.fz j))) hm5 (by omega) (fun x hx => by simp [Value.ownBlock] at hx; omega) hN
  have hmo : 0 ≤ m ∧ m ≤ 4095 := by simpa [okMode] using hm
  have hok : NdOk (newNd kind m s) := ⟨by unfold newNd; simp only; omega, by unfold newNd; simp only; omega, fun e => absurd e hnd0, hmo.1, hmo.2, (by show (0 : Int) ≤ 1; decide), by unfold newNd; simp only; omega,
    fun e => h2.elim (fun h => absurd e h) id, fun _ => rfl, List.Pairwise.nil, (fun _ h => by cases h)⟩
  have hu : used (d ++ [newNd kind m s]) = used d + s.size := by
    rw [used_append]; unfold room1 newNd; simp [entSize]
  refine ⟨R', IsDisk.add hC hcl hnd0 hok rfl (by show (1 : Int) ≠ 0; decide) (by rw [hu]; rw [hus] at hR'; exact_mod_cast hR') ?_ (by rw [hu]; omega) hmax, hT⟩
  unfold smallD
  rw [mass_append]
  unfold mass1 newNd
  simp only [List.length_nil]
  omega

theorem make_any (h : IsDisk R w a d room) (kind m : Int) (s : ByteArray) (hb : mass d + 2 ≤ 2147483648) (he : makeErr d room kind m s = 0) :
    Calls Tryz.prog 115 #[.pointer (some ⟨a, 0, none⟩), .int .i64 kind, .int .i64 m, .string s] w fun e w' => e = .returned (.tuple #[.int .i64 d.length, .int .i64 0]) ∧ DiskTo R w a (d ++ [newNd kind m s]) room w' := by
  have H := Lib.hid h
  obtain ⟨⟨lk, up, hC⟩, hcl, hfit, hmax⟩ := h
  unfold makeErr at he
  split at he; · cases he
  split at he; · cases he
  split at he; · cases he
  split at he; · cases he
  split at he; · cases he
  split at he; · cases he
  split at he; · cases he
  next c1 c2 c3 c4 c5 c6 c7 =>
  have hmode : okMode m = true := by simpa using c4
  have hr := right_any m w
  rw [hmode] at hr
  have hl := hC.rep.l
  have hlen := hC.rep.map.len (P := Tryz.prog) Tryz.underlying179 3
  rw [hC.rep.len, show goInt ((count d : Nat) : Int) = .int .i64 (count d : Nat) from rfl] at hlen
  have hul := used_le2 hC.inv hC.small
  have hconv := fun wx => Lib.run_convert_string_bytes (P := Tryz.prog) wx 9 187 5 s Tryz.underlying9 Tryz.underlying187 Tryz.underlying5
  have hml := mass_ge d
  have htake := take_any hC.rep s.size (by omega) hfit hmax (by omega) (by omega)
  have ht : (decide ((s.size : Int) ≤ room - used d)) = true := decide_eq_true (by omega)
  have htu : takeU room (used d) s.size = used d + s.size := if_pos (by omega)
  rw [ht, htu] at htake
  have hlt : ¬ (65536 ≤ (count d : Int)) := by omega
  have hls : ¬ (4194304 < (s.size : Int)) := by omega
  have hlt2 : (65536 ≤ (count d : Int)) = False := by simp; omega
  have hw1 : wrap64 ((d.length : Int) + 1) = (d.length : Int) + 1 := IntWalk.wrap64_in _ (by omega)
  have hno : kvGet R.kv d.length = none := by rw [hC.rep.get, if_neg (not_has_length d)]
  have hab : ¬ R.b = a := fun e => by have := hC.rep.tagB; rw [e, hC.rep.tagA] at this; cases this
  have k2 : kind ≠ 2 ∨ (kind = 2 ∧ s = ⟨#[]⟩) := by
    by_cases e : kind = 2
    · refine .inr ⟨e, ByteArray.ext (Array.eq_empty_of_size_eq_zero ?_)⟩
      by_cases e0 : s.size = 0
      · exact e0
      · exact absurd ⟨e, e0⟩ c3
    · exact .inl e
  have hs32 : s.size ≤ maxLen := by unfold maxLen; omega
  have HE := Lib.hid (fun w1 w4 w5 cap => make_end (w1 := w1) (w4 := w4) (w5 := w5) (cap := cap) (kind := kind) (m := m) (s := s) hC hcl (by omega) hmax hb (by omega) (by omega) (k2.imp id And.right) hmode (by omega) (us1 := (used d : Int) + s.size))
  clear hC hcl hul ht htu hb hmode c7 c6 c5 c4 hfit hmax hml c3
  generalize (count d : Int) = cd at *
  generalize (used d : Int) = u at *
  rcases k2 with k2 | ⟨rfl, rfl⟩
  all_goals
    go_enter Tryz.func115, Tryz.ntmps115
    go_wp2_with (first | (go_at_call 179; refine hr.mono ?_; rintro e w1 ⟨rfl, rfl⟩) | (go_at_call 178; refine htake.mono ?_; rintro e w1 ⟨rfl, hR1, hk1⟩; have hl1 := hR1.l; have hn1 := hR1.next; have hf1 := hR1.fz 1) | (at_mapUpdate; refine wpl_mapUpdate rfl (.tmp 61) (.tmp 62) (.tmp 68) _ rfl Tryz.underlying179 Tryz.underlying3 rfl (((hR1.map.keep (keeps_set w1 ⟨a, 1, none⟩ _) hab).keep (OwnB.conv (S := fun _ => True) _ _ _ trivial hs32).2 (fun h => h)).keep ((Keeps.refl NoB _).alloc _) (fun h => h)) rfl rfl hno ?_; intro w5 hm5 hk5))
  all_goals
    go_ret2
    exact ⟨rfl, HE.out _ _ _ _ hR1 trivial hk1 _ _ rfl rfl hm5 (by rw [Lib.bytesWorld_size]; simp [World.setCell]) hk5⟩

theorem Casc.re {R' : RD} {w' : World} {lk up : Int → Int} {pend : Int → Nat} (h : Casc R w a d room lk up pend) (rep : Rep R' w' a d room (used d) lk up) : Casc R' w' a d room lk up pend :=
  ⟨rep, h.inv, h.cnt, h.pres, h.upok, h.small, h.lkb⟩

theorem make_err (h : IsDisk R w a d room) (kind m : Int) (s : ByteArray) (hsz : s.size ≤ 4294967296) (he : makeErr d room kind m s ≠ 0) :
    Calls Tryz.prog 115 #[.pointer (some ⟨a, 0, none⟩), .int .i64 kind, .int .i64 m, .string s] w fun e w' => e = .returned (.tuple #[.int .i64 0, .int .i64 (makeErr d room kind m s)]) ∧ DiskTo R w a d room w' := by
  have H := Lib.hid h
  obtain ⟨⟨lk, up, hC⟩, hcl, hfit, hmax⟩ := h
  have hul := used_le2 hC.inv hC.small
  have htake := take_any hC.rep s.size (by omega) hfit hmax (by omega) (by omega)
  have hfa := hC.rep.fA
  have hl := hC.rep.l
  have hlen := hC.rep.map.len (P := Tryz.prog) Tryz.underlying179 3
  rw [hC.rep.len, show goInt ((count d : Nat) : Int) = .int .i64 (count d : Nat) from rfl] at hlen
  have hr := right_any m w
  have HE := Lib.hid (fun (w1 : World) (hR : Rep R w1 a d room (used d) lk up) (hk : Keeps (fun x => x = a) w w1) => (⟨R, ⟨⟨lk, up, hC.re hR⟩, hcl, hfit, hmax⟩, Turn.of (hk.mono (fun x _ hx => by subst hx; exact hfa))⟩ : DiskTo R w a d room w1))
  unfold makeErr at he ⊢
  clear hC hcl hul hmax hfit
  by_cases c1 : kind < 1
  · rw [if_pos c1]
    clear he
    go_enter Tryz.func115, Tryz.ntmps115
    go_wp2
    go_ret2
    exact ⟨rfl, H.out.same (Keeps.refl _ _)⟩
  rw [if_neg c1] at he ⊢
  by_cases c2 : 3 < kind
  · rw [if_pos c2]
    clear he
    go_enter Tryz.func115, Tryz.ntmps115
    go_wp2
    go_ret2
    exact ⟨rfl, H.out.same (Keeps.refl _ _)⟩
  rw [if_neg c2] at he ⊢
  by_cases c3 : kind = 2 ∧ s.size ≠ 0
  · rw [if_pos c3]
    obtain ⟨rfl, c3⟩ := c3
    have hne : (s.toList == []) = false := beq_false_of_ne (fun e => c3 ((toList_nil s).1 e))
    clear he c3
    go_enter Tryz.func115, Tryz.ntmps115
    go_wp2
    go_ret2
    exact ⟨rfl, H.out.same (Keeps.refl _ _)⟩
  rw [if_neg c3] at he ⊢
  have k2 : kind ≠ 2 ∨ (kind = 2 ∧ s = ⟨#[]⟩) := by
    by_cases e : kind = 2
    · refine .inr ⟨e, ByteArray.ext (Array.eq_empty_of_size_eq_zero ?_)⟩
      by_cases e0 : s.size = 0
      · exact e0
      · exact absurd ⟨e, e0⟩ c3
    · exact .inl e
  clear c3
  by_cases c4 : okMode m = false
  · rw [if_pos c4]
    rw [c4] at hr
    clear he c4
    rcases k2 with k2 | ⟨rfl, rfl⟩
    all_goals
      go_enter Tryz.func115, Tryz.ntmps115
      go_wp2_with (go_at_call 179; refine hr.mono ?_; rintro e w1 ⟨rfl, rfl⟩)
      go_ret2
      exact ⟨rfl, H.out.same (Keeps.refl _ _)⟩
  rw [if_neg c4] at he ⊢
  rw [show okMode m = true by simpa using c4] at hr
  clear c4
  by_cases c5 : 4194304 < s.size
  · rw [if_pos c5]
    have c5' : ¬ ((s.size : Int) ≤ 4194304) := by omega
    rcases k2 with k2 | ⟨rfl, rfl⟩
    · clear he c5
      go_enter Tryz.func115, Tryz.ntmps115
      go_wp2_with (go_at_call 179; refine hr.mono ?_; rintro e w1 ⟨rfl, rfl⟩)
      go_ret2
      exact ⟨rfl, H.out.same (Keeps.refl _ _)⟩
    · exact absurd c5 (by decide)
  rw [if_neg c5] at he ⊢
  have c5' : (s.size : Int) ≤ 4194304 := by omega
  clear c5
  by_cases c6 : 65536 ≤ count d
  · rw [if_pos c6]
    have c6' : 65536 ≤ (count d : Int) := by omega
    clear he c6
    generalize (count d : Int) = cd at *
    rcases k2 with k2 | ⟨rfl, rfl⟩
    all_goals
      go_enter Tryz.func115, Tryz.ntmps115
      go_wp2_with (go_at_call 179; refine hr.mono ?_; rintro e w1 ⟨rfl, rfl⟩)
      go_ret2
      exact ⟨rfl, H.out.same (Keeps.refl _ _)⟩
  rw [if_neg c6] at he ⊢
  have c6' : ¬ (65536 ≤ (count d : Int)) := by omega
  have c6'' : (65536 ≤ (count d : Int)) = False := by simp; omega
  clear c6
  by_cases c7 : room - used d < s.size
  · rw [if_pos c7]
    rw [show (decide ((s.size : Int) ≤ room - used d)) = false from decide_eq_false (by omega), show takeU room (used d) s.size = used d from if_neg (by omega)] at htake
    clear he c7
    generalize (count d : Int) = cd at *
    generalize (used d : Int) = u at *
    rcases k2 with k2 | ⟨rfl, rfl⟩
    all_goals
      go_enter Tryz.func115, Tryz.ntmps115
      go_wp2_with (first | (go_at_call 179; refine hr.mono ?_; rintro e w1 ⟨rfl, rfl⟩) | (go_at_call 178; refine htake.mono ?_; rintro e w1 ⟨rfl, hR1, hk1⟩))
      go_ret2
      exact ⟨rfl, HE.out _ hR1 hk1⟩
  · rw [if_neg c7] at he
    exact absurd rfl he

/-- The nodes after Make. -/
def makeTo (d : Nds) (room kind m : Int) (s : ByteArray) : Nds := if makeErr d room kind m s = 0 then d ++ [newNd kind m s] else d
def makeId (d : Nds) (room kind m : Int) (s : ByteArray) : Int := if makeErr d room kind m s = 0 then d.length else 0

theorem makeD_any (h : IsDisk R w a d room) (kind m : Int) (s : ByteArray) (hb : mass d + 2 ≤ 2147483648) (hsz : s.size ≤ 4294967296) :
    Calls Tryz.prog 115 #[.pointer (some ⟨a, 0, none⟩), .int .i64 kind, .int .i64 m, .string s] w fun e w' => e = .returned (.tuple #[.int .i64 (makeId d room kind m s), .int .i64 (makeErr d room kind m s)]) ∧ DiskTo R w a (makeTo d room kind m s) room w' := by
  unfold makeId makeTo
  by_cases he : makeErr d room kind m s = 0
  · rw [if_pos he, if_pos he, he]; exact make_any h kind m s hb he
  · rw [if_neg he, if_neg he]; exact make_err h kind m s hsz he

end

end Go.Proofs.YtbmalnllppamdaaGreatDoor

/-
  Contracts of package disk, the eighth part: Write.
-/
namespace Go.Proofs.YtbmalnllppamdaaGreatDoor
open Go.RowKit
set_option maxRecDepth 100000
set_option maxHeartbeats 1000000

def endOf (d : Nds) (i x : Int) (s : ByteArray) : Nat := max (nd d i).data.size (x.toNat + s.size)
def writeErr (d : Nds) (room i x : Int) (s : ByteArray) : Int :=
  if fileErr d i ≠ 0 then fileErr d i else if x < 0 then 10 else if s.size = 0 then 0 else if 4194304 < x then 18 else if 4194304 - x < s.size then 18 else if room - used d < endOf d i x s - (nd d i).data.size then 20 else 0
def writeNd (n : Nd) (x : Nat) (s : ByteArray) : Nd := n.setData (over (n.data ++ noughts (max n.data.size (x + s.size) - n.data.size)) x s)
def writeTo (d : Nds) (room i x : Int) (s : ByteArray) : Nds := if writeErr d room i x s = 0 ∧ s.size ≠ 0 then upd d i (writeNd (nd d i) x.toNat s) else d

/-- append whose run is known, as one step of a region that draws. -/
theorem step_append_run {P : Program} {ops : Array Oper} {o : Oper} {a : Act} {w : World} {K : Act → World → Prop} {Q : Exit → Act → World → Prop} {E : Prop}
    (hg : o.guard = none) (s x : Operand) (t tn : TypeId) (hop : o.op = Op.call { callee := Callee.builtin Builtin.append, args := #[s, x], argTypes := #[t, tn] })
    {vs vx v' : Value} {w' : World} (hr : (Builtin.append_ #[t, tn] o.type #[vs, vx]).run P w = .ok v' w') (hs : a.eval s = vs) (hx : a.eval x = vx)
    (hK : K (a.put o.dst v') w') : if Region.wanted o (yielded ops a.tmps) = true then Oper.wp P o a w K Q else E := by
  have hw : Region.wanted o (yielded ops a.tmps) = true := by simp [Region.wanted, hg]
  rw [if_pos hw]
  unfold Oper.wp
  simp [execOp, hop, resolve, invoke, builtin, hs, hx, hr, Result.andThen]
  exact hK

section
variable {R : RD} {w : World} {a : Nat} {d : Nds} {room : Int}

theorem nd_upd_self {d : Nds} {i : Int} (hi : has d i) (n : Nd) : nd (upd d i n) i = n := by
  have hr := has_range hi
  rw [nd_upd hr.1 hr.2, if_pos rfl]

theorem upd_upd {d : Nds} {i : Int} (hi : has d i) {n : Nd} (hn : n.kind ≠ 0) (m : Nd) : upd (upd d i n) i m = upd d i m := by
  have hr := has_range hi
  have hi2 : has (upd d i n) i := (has_upd hi hn i).2 hi
  have hr2 := has_range hi2
  apply List.ext_getElem?
  intro j
  unfold upd
  rw [if_pos hr.1, if_pos hr.1, if_pos hr.1, List.set_set]

/-- The end of Write. -/
theorem write_end {lk up : Int → Int} {us1 : Int} {w1 w2 w4 : World} {i : Int} {v : Value} {x : Nat} {s : ByteArray} (hC : Casc R w a d room lk up zp) (hcl : NoGarb d) (hi : has d i) (hk1 : (nd d i).kind = 1) (hmax : room ≤ 9223372036854775807)
    (hx : x + s.size ≤ 4194304) (h0 : 0 < s.size) (hus : us1 = ((used (upd d i (writeNd (nd d i) x s)) : Nat) : Int)) (hfit : us1 ≤ room)
    (hR1 : Rep R w1 a d room us1 lk up) (hk1 : Keeps (fun x => x = a) w w1)
    (ho : OwnB (fun _ => True) w2 v ((nd d i).data ++ noughts (max (nd d i).data.size (x + s.size) - (nd d i).data.size))) (hk2 : Keeps (fun g => (R.dv i).ownBlock = some g) w1 w2) (hv : ∀ g, v.ownBlock = some g → (R.dv i).ownBlock = some g ∨ w1.heap.size ≤ g)
    (ho4 : OwnB (fun _ => True) w4 v (over ((nd d i).data ++ noughts (max (nd d i).data.size (x + s.size) - (nd d i).data.size)) x s)) (hk4 : Keeps (fun g => v.ownBlock = some g) (w2.setCell ⟨R.g i, 4, none⟩ v) w4) :
    DiskTo R w a (upd d i (writeNd (nd d i) x s)) room w4 := by
  obtain ⟨R', hR2, hT, hg', _, hdv'⟩ := hR1.setData hi hk2 ho hv
  have hn0 : ((nd d i).setData ((nd d i).data ++ noughts (max (nd d i).data.size (x + s.size) - (nd d i).data.size))).kind ≠ 0 := hi
  have hi2 := (has_upd hi hn0 i).2 hi
  have hR3 := hR2.overData hi2 (s := over ((nd d i).data ++ noughts (max (nd d i).data.size (x + s.size) - (nd d i).data.size)) x s) (by rw [hdv']; exact hk4) (by rw [hdv']; exact ho4)
  rw [nd_upd_self hi, upd_upd hi hn0] at hR3
  have hsz : (over ((nd d i).data ++ noughts (max (nd d i).data.size (x + s.size) - (nd d i).data.size)) x s).size = max (nd d i).data.size (x + s.size) := by
    have h1 : ((nd d i).data ++ noughts (max (nd d i).data.size (x + s.size) - (nd d i).data.size)).size = max (nd d i).data.size (x + s.size) := by rw [ByteArray.size_append, noughts_size]; omega
    rw [over_size (by rw [h1]; omega), h1]
  have hds := (hC.inv.node i).data
  subst hus
  refine ⟨R', IsDisk.turn hC hcl hi ((hC.inv.node i).setData hi (by omega) (s := over ((nd d i).data ++ noughts (max (nd d i).data.size (x + s.size) - (nd d i).data.size)) x s) (by rw [hsz]; omega)) rfl rfl (fun e => e) hR3 ?_ hfit hmax, ?_⟩
  · have := mass_upd (n := writeNd (nd d i) x s) hi
    have e : mass1 (writeNd (nd d i) x s) = mass1 (nd d i) := rfl
    have := hC.small
    unfold smallD at *
    unfold writeNd at *
    omega
  · have k3 : Keeps R'.F (w2.setCell ⟨R.g i, 4, none⟩ v) w4 := (Keeps.refl _ _).step hk4 (fun g hg => .inl (by
      have := hR2.tagD i hi2 g (by rw [hdv']; exact hg)
      unfold RD.F
      rw [this]
      exact fun h => by cases h))
    exact ((Turn.of (hk1.mono (fun g _ e => by subst e; exact hC.rep.fA))).trans hT).trans (Turn.of k3)

theorem write_facts {lk up : Int → Int} {us1 : Int} {w1 : World} {i : Int} {x : Nat} {s : ByteArray} {p : Option Addr} {cap : Nat} (hC : Casc R w a d room lk up zp) (hcl : NoGarb d) (hi : has d i) (hk1 : (nd d i).kind = 1) (hmax : room ≤ 9223372036854775807)
    (hx : x + s.size ≤ 4194304) (h0 : 0 < s.size) (hus : us1 = ((used (upd d i (writeNd (nd d i) x s)) : Nat) : Int)) (hfit : us1 ≤ room)
    (hR1 : Rep R w1 a d room us1 lk up) (hk1 : Keeps (fun x => x = a) w w1) (hv : R.dv i = .slice p (nd d i).data.size cap) :
    ∃ p' n' c' w2 w4, w1.drew.cell? ⟨R.g i, 4, none⟩ = some (.slice p (nd d i).data.size cap) ∧ w1.drew.frozen? ⟨R.g i, 4, none⟩ = false ∧ w2.cell? ⟨R.g i, 4, none⟩ = some (.slice p (nd d i).data.size cap) ∧ w2.frozen? ⟨R.g i, 4, none⟩ = false ∧
      (Builtin.append_ #[187, 3] 187 #[.slice p (nd d i).data.size cap, .int .i64 ((max (nd d i).data.size (x + s.size) - (nd d i).data.size : Nat) : Int)]).run Tryz.prog w1.drew = .ok (.slice p' n' c') w2 ∧
      (Instr.slice 187 (.slice p' n' c') (some (.int .i64 x)) none none).run Tryz.prog (w2.setCell ⟨R.g i, 4, none⟩ (.slice p' n' c')) = .ok (.slice (subAt 1 p' c' x) (n' - x) (c' - x)) (w2.setCell ⟨R.g i, 4, none⟩ (.slice p' n' c')) ∧
      (Builtin.copy_ #[187, 9] 3 #[.slice (subAt 1 p' c' x) (n' - x) (c' - x), .string s]).run Tryz.prog (w2.setCell ⟨R.g i, 4, none⟩ (.slice p' n' c')) = .ok (goInt s.size) w4 ∧
      R.g i < w1.drew.heap.size ∧ DiskTo R w a (upd d i (writeNd (nd d i) x s)) room w4 := by
  have hR1 := hR1.keepN ((Keeps.refl NoB w1).drew)
  have hk1 := hk1.drew
  have hn1 := hR1.node i hi
  have hsz : ((nd d i).data ++ noughts (max (nd d i).data.size (x + s.size) - (nd d i).data.size)).size = max (nd d i).data.size (x + s.size) := by rw [ByteArray.size_append, noughts_size]; omega
  have hds := (hC.inv.node i).data
  obtain ⟨v', w2, hz, ho2, hk2, hv2⟩ := hn1.own.zeros (P := Tryz.prog) (t := 187) (tn := 3) (e := 5) 187 Tryz.underlying187 Tryz.underlying3 (i := (Tryz.prog.info? 5).get!) (by kernel_rfl) (by kernel_rfl) (by kernel_rfl) (by kernel_rfl) (max (nd d i).data.size (x + s.size) - (nd d i).data.size) (by omega) trivial
  have hgd := hR1.dvne hi
  have hgv : ¬ v'.ownBlock = some (R.g i) := fun e => by
    rcases hv2 _ e with h1 | h1
    · exact hgd h1
    · have := hn1.lt; omega
  have hc2 : w2.cell? ⟨R.g i, 4, none⟩ = w1.cell? ⟨R.g i, 4, none⟩ := hk2.cell (p := ⟨R.g i, 4, none⟩) hn1.lt hgd
  have hf2 : w2.frozen? ⟨R.g i, 4, none⟩ = w1.frozen? ⟨R.g i, 4, none⟩ := hk2.frozen (p := ⟨R.g i, 4, none⟩) hn1.lt hgd
  have hd4 := hn1.data
  obtain ⟨p', c', hv'⟩ := ho2.form
  have hmax2 := ho2.small
  have ho3 : OwnB (fun _ => True) (w2.setCell ⟨R.g i, 4, none⟩ v') v' ((nd d i).data ++ noughts (max (nd d i).data.size (x + s.size) - (nd d i).data.size)) :=
    ho2.keep (keeps_set w2 ⟨R.g i, 4, none⟩ v') (fun g hg e => by
      have e' : g = R.g i := e
      subst e'; exact hgv hg)
  obtain ⟨w4, hcp, ho4, hk4⟩ := ho3.over (P := Tryz.prog) (t := 187) (tn := 9) (e := 5) 3 Tryz.underlying187 (i := (Tryz.prog.info? 5).get!) (by kernel_rfl) (by kernel_rfl) hv' x s h0 (by rw [hsz]; omega)
  have hsl := run_slice_l (P := Tryz.prog) 187 5 1 Tryz.underlying187 (by kernel_rfl) p' ((nd d i).data ++ noughts (max (nd d i).data.size (x + s.size) - (nd d i).data.size)).size c' x (by rw [hsz]; omega) (w2.setCell ⟨R.g i, 4, none⟩ v') (by rw [hsz]; omega)
  have hend := write_end hC hcl hi (by assumption) hmax hx h0 hus hfit hR1 hk1 ho2 hk2 hv2 ho4 hk4
  rw [hv] at hz hd4
  subst hv'
  exact ⟨p', _, c', w2, w4, hd4, hn1.fz 4, hc2.trans hd4, hf2.trans (hn1.fz 4), hz, hsl, hcp, hn1.lt, hend⟩

theorem write_ok (h : IsDisk R w a d room) (i : Int) (X : Nat) (s : ByteArray) (he : writeErr d room i X s = 0) (h0 : s.size ≠ 0) :
    Calls Tryz.prog 112 #[.pointer (some ⟨a, 0, none⟩), .int .i64 i, .int .i64 X, .string s] w fun e w' => e = .returned (.int .i64 0) ∧ DiskTo R w a (upd d i (writeNd (nd d i) X s)) room w' := by
  have H := Lib.hid h
  obtain ⟨⟨lk, up, hC⟩, hcl, hfit, hmax⟩ := h
  unfold writeErr at he
  split at he
  · next e => exact absurd he e
  next hf0 =>
  split at he; · cases he
  split at he; · cases he
  split at he; · cases he
  split at he; · cases he
  next c1 c2 c3 c4 =>
  have hf := file_any hC.rep i
  have hfe : fileErr d i = 0 := Classical.not_not.1 hf0
  obtain ⟨hi, hk1⟩ := fileErr_zero hfe
  rw [hfe] at hf
  have hp : ptrIf R 0 i = .pointer (some ⟨R.g i, 0, none⟩) := rfl
  rw [hp] at hf
  have hn := hC.rep.node i hi
  obtain ⟨p, cap, hv⟩ := hn.own.form
  have hd4 := hn.data
  rw [hv] at hd4
  have hul := used_le2 hC.inv hC.small
  have hds := (hC.inv.node i).data
  unfold endOf at c4
  rw [Int.toNat_natCast] at c4
  have hX : X + s.size ≤ 4194304 := by omega
  have hmx : max ((nd d i).data.size : Int) ((X : Int) + (s.size : Int)) - ((nd d i).data.size : Int) = ((max (nd d i).data.size (X + s.size) - (nd d i).data.size : Nat) : Int) := by omega
  have hus : (used d : Int) + ((max (nd d i).data.size (X + s.size) - (nd d i).data.size : Nat) : Int) = ((used (upd d i (writeNd (nd d i) X s)) : Nat) : Int) := by
    have := used_upd (n := writeNd (nd d i) X s) hi
    have e : room1 (writeNd (nd d i) X s) = room1 (nd d i) + (max (nd d i).data.size (X + s.size) - (nd d i).data.size) := by
      unfold room1 writeNd
      simp only [Nd.setData]
      have h1 : ((nd d i).data ++ noughts (max (nd d i).data.size (X + s.size) - (nd d i).data.size)).size = max (nd d i).data.size (X + s.size) := by rw [ByteArray.size_append, noughts_size]; omega
      rw [over_size (by rw [h1]; omega), h1]
      omega
    omega
  have hfit1 : (used d : Int) + ((max (nd d i).data.size (X + s.size) - (nd d i).data.size : Nat) : Int) ≤ room := by omega
  have htake := take_any hC.rep (max ((nd d i).data.size : Int) ((X : Int) + (s.size : Int)) - ((nd d i).data.size : Int)) (by omega) hfit hmax (by omega) (by omega)
  rw [show decide (max ((nd d i).data.size : Int) ((X : Int) + (s.size : Int)) - ((nd d i).data.size : Int) ≤ room - used d) = true from decide_eq_true (by omega), show takeU room (used d) (max ((nd d i).data.size : Int) ((X : Int) + (s.size : Int)) - ((nd d i).data.size : Int)) = (used d : Int) + ((max (nd d i).data.size (X + s.size) - (nd d i).data.size : Nat) : Int) from by rw [hmx]; exact if_pos (by omega)] at htake
  have hne : (s.toList == []) = false := beq_false_of_ne (fun e => h0 ((toList_nil s).1 e))
  have hap : ¬ R.g i = a := fun e => by have := hC.rep.tagN i hi; rw [e, hC.rep.tagA] at this; cases this
  have hgl := hn.lt
  have hfz := hn.fz 4
  have hX2 : (X : Int) ≤ 4194304 := by omega
  have hs2 : (s.size : Int) ≤ 4194304 - (X : Int) := by omega
  have hds2 : ((nd d i).data.size : Int) ≤ 4194304 := by omega
  have HG := Lib.hid (fun (w1 : World) (hR1 : Rep R w1 a d room ((used d : Int) + ((max (nd d i).data.size (X + s.size) - (nd d i).data.size : Nat) : Int)) lk up) (hk1' : Keeps (fun x => x = a) w w1) => write_facts hC hcl hi hk1 hmax hX (by omega) hus hfit1 hR1 hk1' hv)
  clear hC hcl hfit hmax hul hds hX hus hfit1 c1 c2 c3 c4 hf0 hfe hn he h0 hi hk1 hv H
  generalize (nd d i).data.size = ds at *
  generalize hkk : ((max ds (X + s.size) - ds : Nat) : Int) = kk at *
  rw [hmx] at htake
  have hkw : IntKind.i64.wrap kk = kk := by rw [IntKind.wrap_i64]; omega
  clear hkk
  go_enter Tryz.func112, Tryz.ntmps112
  go_wp2_with (first | (go_at_call 177; refine hf.mono ?_; rintro e w1 ⟨rfl, rfl⟩) | (go_at_call 178; refine htake.mono ?_; rintro e w1 ⟨rfl, hR1, hk1⟩; obtain ⟨p', n', c', w2, w4, e1, f1, e2, f2, q1, q2, q3, q4, hend⟩ := HG.out w1 hR1 hk1; simp only [World.cell?_drew, World.frozen?_drew] at e1 f1))
  go_region_law (refine step_append_run rfl (.tmp 62) (.tmp 69) _ _ rfl q1 (by simp [Act.eval, Act.put]) (by simp [Act.eval, Act.put, hkw]) ?_)
  all_goals go_wp2
  all_goals
    go_ret
    exact ⟨rfl, hend⟩

theorem write_no (h : IsDisk R w a d room) (i x : Int) (s : ByteArray) (hsz : s.size ≤ 4294967296) (he : ¬ (writeErr d room i x s = 0 ∧ s.size ≠ 0)) :
    Calls Tryz.prog 112 #[.pointer (some ⟨a, 0, none⟩), .int .i64 i, .int .i64 x, .string s] w fun e w' => e = .returned (.int .i64 (writeErr d room i x s)) ∧ DiskTo R w a d room w' := by
  have H := Lib.hid h
  obtain ⟨⟨lk, up, hC⟩, hcl, hfit, hmax⟩ := h
  have hf := file_any hC.rep i
  unfold writeErr at he ⊢
  by_cases c0 : fileErr d i = 0
  case neg =>
    rw [if_pos c0]
    have hp : ptrIf R (fileErr d i) i = .pointer none := if_neg c0
    rw [hp] at hf
    clear hC hcl hfit hmax he
    generalize fileErr d i = er at hf c0
    go_enter Tryz.func112, Tryz.ntmps112
    go_wp2_with (go_at_call 177; refine hf.mono ?_; rintro e w1 ⟨rfl, rfl⟩)
    go_ret
    exact ⟨rfl, H.out.same (Keeps.refl _ _)⟩
  case pos =>
  rw [if_neg (by simpa using c0)] at he ⊢
  obtain ⟨hi, hk1⟩ := fileErr_zero c0
  rw [c0] at hf
  have hp : ptrIf R 0 i = .pointer (some ⟨R.g i, 0, none⟩) := rfl
  rw [hp] at hf
  by_cases c1 : x < 0
  · rw [if_pos c1]
    clear hC hcl hfit hmax he
    go_enter Tryz.func112, Tryz.ntmps112
    go_wp2_with (go_at_call 177; refine hf.mono ?_; rintro e w1 ⟨rfl, rfl⟩)
    go_ret
    exact ⟨rfl, H.out.same (Keeps.refl _ _)⟩
  rw [if_neg c1] at he ⊢
  by_cases c2 : s.size = 0
  · rw [if_pos c2]
    have hs : s = ⟨#[]⟩ := ByteArray.ext (Array.eq_empty_of_size_eq_zero c2)
    subst hs
    clear hC hcl hfit hmax he
    go_enter Tryz.func112, Tryz.ntmps112
    go_wp2_with (go_at_call 177; refine hf.mono ?_; rintro e w1 ⟨rfl, rfl⟩)
    go_ret
    exact ⟨rfl, H.out.same (Keeps.refl _ _)⟩
  rw [if_neg c2] at he ⊢
  have hne : (s.toList == []) = false := beq_false_of_ne (fun e => c2 ((toList_nil s).1 e))
  by_cases c3 : 4194304 < x
  · rw [if_pos c3]
    clear hC hcl hfit hmax he
    go_enter Tryz.func112, Tryz.ntmps112
    go_wp2_with (go_at_call 177; refine hf.mono ?_; rintro e w1 ⟨rfl, rfl⟩)
    go_ret
    exact ⟨rfl, H.out.same (Keeps.refl _ _)⟩
  rw [if_neg c3] at he ⊢
  by_cases c4 : 4194304 - x < s.size
  · rw [if_pos c4]
    clear hC hcl hfit hmax he
    go_enter Tryz.func112, Tryz.ntmps112
    go_wp2_with (go_at_call 177; refine hf.mono ?_; rintro e w1 ⟨rfl, rfl⟩)
    go_ret
    exact ⟨rfl, H.out.same (Keeps.refl _ _)⟩
  rw [if_neg c4] at he ⊢
  obtain ⟨X, rfl⟩ : ∃ X : Nat, x = (X : Int) := ⟨x.toNat, by omega⟩
  by_cases c5 : room - used d < endOf d i X s - (nd d i).data.size
  case neg =>
    rw [if_neg c5] at he
    exact absurd ⟨rfl, c2⟩ he
  rw [if_pos c5]
  unfold endOf at c5
  rw [Int.toNat_natCast] at c5
  have hn := hC.rep.node i hi
  obtain ⟨p, cap, hv⟩ := hn.own.form
  have hd4 := hn.data
  rw [hv] at hd4
  have hul := used_le2 hC.inv hC.small
  have hds := (hC.inv.node i).data
  have hmx : max ((nd d i).data.size : Int) ((X : Int) + (s.size : Int)) - ((nd d i).data.size : Int) = ((max (nd d i).data.size (X + s.size) - (nd d i).data.size : Nat) : Int) := by omega
  have htake := take_any hC.rep ((max (nd d i).data.size (X + s.size) - (nd d i).data.size : Nat) : Int) (by omega) hfit hmax (by omega) (by omega)
  rw [show decide (((max (nd d i).data.size (X + s.size) - (nd d i).data.size : Nat) : Int) ≤ room - used d) = false from decide_eq_false (by omega), show takeU room (used d) ((max (nd d i).data.size (X + s.size) - (nd d i).data.size : Nat) : Int) = (used d : Int) from if_neg (by omega)] at htake
  have hfa := hC.rep.fA
  have HE := Lib.hid (fun (w1 : World) (hR : Rep R w1 a d room (used d) lk up) (hk : Keeps (fun x => x = a) w w1) => (⟨R, ⟨⟨lk, up, hC.re hR⟩, hcl, hfit, hmax⟩, Turn.of (hk.mono (fun x _ hx => by subst hx; exact hfa))⟩ : DiskTo R w a d room w1))
  have hds2 : ((nd d i).data.size : Int) ≤ 4194304 := by omega
  clear hC hcl hfit hmax hul hds c5 c0 hn he hi hk1 hv H
  generalize (nd d i).data.size = ds at *
  generalize hkk : ((max ds (X + s.size) - ds : Nat) : Int) = kk at *
  have hkw : IntKind.i64.wrap kk = kk := by rw [IntKind.wrap_i64]; omega
  clear hkk
  go_enter Tryz.func112, Tryz.ntmps112
  go_wp2_with (first | (go_at_call 177; refine hf.mono ?_; rintro e w1 ⟨rfl, rfl⟩) | (go_at_call 178; refine htake.mono ?_; rintro e w1 ⟨rfl, hR1, hk1⟩))
  go_ret
  exact ⟨rfl, HE.out _ hR1 hk1⟩

theorem writeD_any (h : IsDisk R w a d room) (i x : Int) (s : ByteArray) (hsz : s.size ≤ 4294967296) :
    Calls Tryz.prog 112 #[.pointer (some ⟨a, 0, none⟩), .int .i64 i, .int .i64 x, .string s] w fun e w' => e = .returned (.int .i64 (writeErr d room i x s)) ∧ DiskTo R w a (writeTo d room i x s) room w' := by
  unfold writeTo
  by_cases he : writeErr d room i x s = 0 ∧ s.size ≠ 0
  · rw [if_pos he, he.1]
    have hx : ¬ x < 0 := fun hx => by
      have h1 := he.1
      unfold writeErr at h1
      split at h1
      · next e => exact e h1
      · cases h1
    obtain ⟨X, rfl⟩ : ∃ X : Nat, x = (X : Int) := ⟨x.toNat, by omega⟩
    rw [Int.toNat_natCast]
    exact write_ok h i X s he.1 he.2
  · rw [if_neg he]; exact write_no h i x s hsz he

end

end Go.Proofs.YtbmalnllppamdaaGreatDoor

/-
  What the reference's Write makes of a file's bytes: the pure part.
-/
set_option maxRecDepth 100000
namespace Go.Proofs.YtbmalnllppamdaaGreatDoor
open Go.RowKit

theorem ba_ext {a b : ByteArray} (h : a.data.toList = b.data.toList) : a = b := ByteArray.ext (Array.toList_inj.1 h)

theorem over_list (s : ByteArray) (x : Nat) (t : ByteArray) : (over s x t).data.toList = s.data.toList.take x ++ t.data.toList ++ s.data.toList.drop (x + t.size) := by simp [over]

/-- Behind the end. -/
theorem write_far {D s : ByteArray} {X : Nat} (h : D.size < X) : (D ++ noughts (X - D.size)).extract 0 X ++ s = over (D ++ noughts (max D.size (X + s.size) - D.size)) X s := by
  have hd := Lib.size_eq D
  have hs := Lib.size_eq s
  apply ba_ext
  rw [over_list]
  have e1 : ((D ++ noughts (X - D.size)).extract 0 X).data.toList = D.data.toList ++ List.replicate (X - D.size) 0 := by
    have hl : (D.data.toList ++ List.replicate (X - D.size) (0 : UInt8)).length = X := by rw [List.length_append, List.length_replicate]; omega
    simp only [ByteArray.data_extract, ByteArray.data_append, Array.toList_extract, Array.toList_append, noughts, Array.toList_replicate]
    rw [List.extract_eq_take_drop]
    simp only [List.drop_zero, Nat.sub_zero]
    rw [Array.toList_append, Array.toList_replicate]
    exact List.take_of_length_le (Nat.le_of_eq hl)
  have e2 : (D ++ noughts (max D.size (X + s.size) - D.size)).data.toList = (D.data.toList ++ List.replicate (X - D.size) 0) ++ List.replicate s.size 0 := by
    simp only [ByteArray.data_append, Array.toList_append, noughts, Array.toList_replicate]
    rw [show max D.size (X + s.size) - D.size = (X - D.size) + s.size by omega, ← List.replicate_append_replicate, List.append_assoc]
  have hl : (D.data.toList ++ List.replicate (X - D.size) (0 : UInt8)).length = X := by rw [List.length_append, List.length_replicate]; omega
  rw [ByteArray.data_append, Array.toList_append, e1, e2]
  rw [List.take_append_of_le_length (by omega), List.take_of_length_le (by omega), List.drop_eq_nil_of_le (by rw [List.length_append, List.length_replicate]; omega), List.append_nil]

/-- From within, past the end. -/
theorem write_past {D s : ByteArray} {X : Nat} (h : X ≤ D.size) (h2 : D.size ≤ X + s.size) : D.extract 0 X ++ s = over (D ++ noughts (max D.size (X + s.size) - D.size)) X s := by
  have hd := Lib.size_eq D
  have hs := Lib.size_eq s
  apply ba_ext
  rw [over_list]
  have e2 : (D ++ noughts (max D.size (X + s.size) - D.size)).data.toList = D.data.toList ++ List.replicate (X + s.size - D.size) 0 := by
    simp only [ByteArray.data_append, Array.toList_append, noughts, Array.toList_replicate]
    rw [show max D.size (X + s.size) - D.size = X + s.size - D.size by omega]
  rw [ByteArray.data_append, Array.toList_append, e2]
  rw [List.take_append_of_le_length (by omega), List.drop_eq_nil_of_le (by rw [List.length_append, List.length_replicate]; omega), List.append_nil]
  simp only [ByteArray.data_extract, Array.toList_extract]
  rw [List.extract_eq_take_drop]
  simp

/-- Within. -/
theorem write_within {D s : ByteArray} {X : Nat} (h2 : X + s.size < D.size) : D.extract 0 X ++ s ++ D.extract (X + s.size) D.size = over (D ++ noughts (max D.size (X + s.size) - D.size)) X s := by
  have hd := Lib.size_eq D
  have hs := Lib.size_eq s
  apply ba_ext
  rw [over_list]
  have e2 : (D ++ noughts (max D.size (X + s.size) - D.size)).data.toList = D.data.toList := by
    simp only [ByteArray.data_append, Array.toList_append, noughts, Array.toList_replicate]
    rw [show max D.size (X + s.size) - D.size = 0 by omega]
    simp
  rw [ByteArray.data_append, Array.toList_append, ByteArray.data_append, Array.toList_append, e2]
  simp only [ByteArray.data_extract, Array.toList_extract]
  rw [List.extract_eq_take_drop, List.extract_eq_take_drop]
  simp only [List.drop_zero, Nat.sub_zero]
  rw [List.take_of_length_le (l := List.drop _ _) (by rw [List.length_drop]; omega)]

theorem ba_nil (a : ByteArray) : a ++ ⟨#[]⟩ = a := by
  apply ba_ext
  simp [ByteArray.data_append]

theorem write_far' {D s : ByteArray} {X : Nat} (h : D.size < X) : (D ++ noughts (X - D.size)).extract 0 X ++ s ++ ⟨#[]⟩ = over (D ++ noughts (max D.size (X + s.size) - D.size)) X s := by rw [ba_nil]; exact write_far h
theorem write_past' {D s : ByteArray} {X : Nat} (h : X ≤ D.size) (h2 : D.size ≤ X + s.size) : D.extract 0 X ++ s ++ ⟨#[]⟩ = over (D ++ noughts (max D.size (X + s.size) - D.size)) X s := by rw [ba_nil]; exact write_past h h2

end Go.Proofs.YtbmalnllppamdaaGreatDoor
