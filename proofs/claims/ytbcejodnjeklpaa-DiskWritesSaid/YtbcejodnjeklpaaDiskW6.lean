/-
  Contracts of package disk, the sixth part: Info, Read.
-/
import Derived.Test.YtbcejodnjeklpaaDiskW5
import Derived.Handy
import Derived.Laws.ResultCell
namespace Go.Proofs.Ytbcejodnjeklpaa
open Go.RowKit
set_option maxRecDepth 100000
set_option maxHeartbeats 1000000

section
variable {R : RD} {w : World} {a : Nat} {d : Nds} {room us : Int} {lk up : Int → Int}

def sizeOf4 (n : Nd) : Nat := if n.kind = 2 then n.ents.length else n.data.size
def infoV (n : Nd) (lk : Int) : Value := .agg #[.int .i64 n.kind, .int .i64 n.mode, .int .i64 lk, .int .i64 n.holds, .int .i64 (sizeOf4 n)]
def noInfo : Value := .agg #[.int .i64 0, .int .i64 0, .int .i64 0, .int .i64 0, .int .i64 0]

theorem info_any (h : Rep R w a d room us lk up) (i : Int) :
    Calls Try.prog 66 #[.pointer (some ⟨a, 0, none⟩), .int .i64 i] w fun e w' => e = .returned (.tuple #[if has d i then infoV (nd d i) (lk i) else noInfo, .int .i64 (if has d i then 0 else 12)]) ∧ Keeps NoB w w' := by
  have hl := h.l
  have hlook := (h.keepN ((Keeps.refl NoB w).alloc (.cells #[.int .i64 0, .int .i64 0, .int .i64 0, .int .i64 0, .int .i64 0] 102))).look i
  unfold nodeV at hlook
  have hlt := h.alt
  by_cases hi : has d i
  · rw [if_pos hi] at hlook
    rw [if_pos hi, if_pos hi]
    have hn := h.node i hi
    have c0 := hn.kind
    have c1 := hn.mode
    have c2 := hn.links
    have c3 := hn.holds
    have c4 := hn.data
    obtain ⟨p, cap, hv⟩ := hn.own.form
    rw [hv] at c4
    have hlen := fun wx (hx : Keeps NoB w wx) => len_any (fun _ => True) wx ⟨R.g i, 5, none⟩ (R.ev i) (nd d i).ents ((hn.dir.keep hx (fun h => h) (fun _ _ h => h)).any (fun _ _ => trivial))
    have HL := Lib.hid hlen
    unfold infoV sizeOf4
    generalize (nd d i).data.size = ds at *
    generalize (nd d i).ents.length = es at *
    generalize (nd d i).mode = m at *
    generalize (nd d i).holds = hh at *
    generalize lk i = l at *
    have hgl := hn.lt
    clear hn h hv hlen
    by_cases h2 : (nd d i).kind = 2
    · rw [if_pos h2]
      rw [h2] at c0 ⊢
      clear h2
      go_enter Try.func66, Try.ntmps66
      go_wp2_with (go_at_call 51; refine (HL.out _ ?_).mono ?_; (exact (Keeps.refl _ _).alloc _); rintro e w1 ⟨rfl, rfl⟩)
      go_region
      all_goals go_wp2
      all_goals (try simp only [Exit.inBlock, Exit.then])
      all_goals refine bodyPost_ret (v := .tuple #[.agg #[.int .i64 2, .int .i64 m, .int .i64 l, .int .i64 hh, .int .i64 es], .int .i64 0]) ?_ rfl ⟨rfl, ?_⟩
      all_goals first | (rw [results_cell_tmp rfl]; go_simp) | skip
      all_goals exact ((Keeps.refl _ _).alloc _).drew
    · rw [if_neg h2]
      generalize (nd d i).kind = kd at *
      go_enter Try.func66, Try.ntmps66
      go_wp2
      go_region
      all_goals go_wp2
      all_goals (try simp only [Exit.inBlock, Exit.then])
      all_goals refine bodyPost_ret (v := .tuple #[.agg #[.int .i64 kd, .int .i64 m, .int .i64 l, .int .i64 hh, .int .i64 ds], .int .i64 0]) ?_ rfl ⟨rfl, ?_⟩
      all_goals first | (rw [results_cell_tmp rfl]; go_simp) | skip
      all_goals exact ((Keeps.refl _ _).alloc _).drew
  · rw [if_neg hi] at hlook
    rw [if_neg hi, if_neg hi]
    go_enter Try.func66, Try.ntmps66
    go_wp2
    (try simp only [Exit.inBlock, Exit.then])
    refine bodyPost_ret (v := .tuple #[noInfo, .int .i64 12]) ?_ rfl ⟨rfl, ?_⟩
    · rw [results_cell_tmp rfl]; unfold noInfo; go_simp
    · exact (Keeps.refl _ _).alloc _

def readErr (d : Nds) (i at' most : Int) : Int := if dataErr d i ≠ 0 then dataErr d i else if at' < 0 then 10 else if most < 0 then 10 else 0
/-- At most so many bytes from a place on. -/
def cut (s : ByteArray) (at' most : Int) : ByteArray := s.extract (min at'.toNat s.size) (min at'.toNat s.size + min most.toNat (s.size - min at'.toNat s.size))
def readOf (d : Nds) (i at' most : Int) : ByteArray := if readErr d i at' most = 0 then cut (dataOf d i) at' most else ⟨#[]⟩

theorem read_any (h : Rep R w a d room us lk up) (i x y : Int) (hs : (dataOf d i).size ≤ 4194304) :
    Calls Try.prog 24 #[.pointer (some ⟨a, 0, none⟩), .int .i64 i, .int .i64 x, .int .i64 y] w fun e w' => e = .returned (.tuple #[.string (readOf d i x y), .int .i64 (readErr d i x y)]) ∧ w = w' := by
  have hd := data_any h i
  clear h
  by_cases he : dataErr d i = 0
  · rw [he] at hd
    by_cases h1 : x < 0
    · have e1 : readErr d i x y = 10 := by simp [readErr, he, h1]
      have e2 : readOf d i x y = ⟨#[]⟩ := by simp [readOf, e1]
      rw [e2, e1]
      go_enter Try.func24, Try.ntmps24
      go_wp2_with (go_at_call 12; refine hd.mono ?_; rintro e w1 ⟨rfl, rfl⟩)
      go_ret2
      exact ⟨rfl, rfl⟩
    · by_cases h2 : y < 0
      · have e1 : readErr d i x y = 10 := by simp [readErr, he, h1, h2]
        have e2 : readOf d i x y = ⟨#[]⟩ := by simp [readOf, e1]
        rw [e2, e1]
        go_enter Try.func24, Try.ntmps24
        go_wp2_with (go_at_call 12; refine hd.mono ?_; rintro e w1 ⟨rfl, rfl⟩)
        go_ret2
        exact ⟨rfl, rfl⟩
      · have e1 : readErr d i x y = 0 := by simp [readErr, he, h1, h2]
        have e2 : readOf d i x y = cut (dataOf d i) x y := by simp [readOf, e1]
        rw [e2, e1]
        clear e1 e2 he
        generalize dataOf d i = s at *
        go_enter Try.func24, Try.ntmps24
        go_wp2_with (go_at_call 12; refine hd.mono ?_; rintro e w1 ⟨rfl, rfl⟩)
        go_ret2
        have a1 : (min x (s.size : Int)).toNat = min x.toNat s.size := by omega
        have a2 : (min x (s.size : Int) + min y ((s.size : Int) - min x (s.size : Int))).toNat = min x.toNat s.size + min y.toNat (s.size - min x.toNat s.size) := by omega
        have hc : s.extract (min x (s.size : Int)).toNat (min x (s.size : Int) + min y ((s.size : Int) - min x (s.size : Int))).toNat = cut s x y := by
          unfold cut
          rw [a1, a2]
        exact ⟨by rw [← hc]; rfl, rfl⟩
  · have e1 : readErr d i x y = dataErr d i := by simp [readErr, he]
    have e2 : readOf d i x y = ⟨#[]⟩ := by simp [readOf, e1, he]
    rw [e2, e1]
    clear e1 e2
    generalize dataErr d i = er at *
    generalize dataOf d i = s at *
    go_enter Try.func24, Try.ntmps24
    go_wp2_with (go_at_call 12; refine hd.mono ?_; rintro e w1 ⟨rfl, rfl⟩)
    go_ret2
    exact ⟨rfl, rfl⟩

end

end Go.Proofs.Ytbcejodnjeklpaa
