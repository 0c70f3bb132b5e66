/-
  Layer 5: what both packages answer on a disk that has been built.
-/
import Derived.Test.YtbcejodnjeklpaaDoorB22
import Derived.Test.YtbcejodnjeklpaaDoorB31
import Derived.Test.YtbcejodnjeklpaaDoorB25

set_option linter.unusedSimpArgs false
set_option linter.unusedVariables false

set_option maxRecDepth 100000
namespace Go.Proofs.YtbcejodnjeklpaaDoor
open Go Go.RowKit

/-- A disk that has been built, as both packages read it. -/
structure W5 (w : World) (a : Nat) (d : Nds) (p : Option Addr) (c : Nat) (lk up : Int → Int) : Prop where
  rep : ∃ R : RD, Rep R w a d room5 (used d) lk up
  ref : ∃ S : Nat → Prop, RefAt S w p c d
  inv : DInv d
  small : smallD d
  upok : UpOk d lk up
  upis : ∀ i u, folderErr d i = 0 → UpIs d i u → up i = u
  clean : ∀ i, has d i → i ≠ 1 → 0 < cnt d i
  root : intoErr d 1 = 0
  mode : (nd d 1).mode = 493

section
variable {w w' : World} {a : Nat} {d : Nds} {p : Option Addr} {c : Nat} {lk up : Int → Int}

theorem W5.on (h : W5 w a d p c lk up) (k : Keeps NoB w w') : W5 w' a d p c lk up := by
  obtain ⟨R, hr⟩ := h.rep
  obtain ⟨S, hq⟩ := h.ref
  exact ⟨⟨R, hr.keepN k⟩, ⟨S, hq.keepN k⟩, h.inv, h.small, h.upok, h.upis, h.clean, h.root, h.mode⟩

theorem root_into {d : Nds} (hI : DInv d) (hm : (nd d 1).mode = 493) : intoErr d 1 = 0 := by
  have hf : folderErr d 1 = 0 := by
    unfold folderErr
    rw [if_neg (by rw [hI.root]; decide), if_pos hI.root]
  unfold intoErr
  rw [if_neg (by rw [hf]; simp), hm]
  decide

theorem W5.of {N : Nat → Prop} {s : Nds × List Int} {k : Nat} (h : Pair N w a s.1 p c s.1 room5) (hb : Bt s k) : ∃ lk up, W5 w a s.1 p c lk up := by
  obtain ⟨R, ⟨⟨lk, up, hC⟩, hcl, _, _⟩, _, hr⟩ := h.both
  refine ⟨lk, up, ⟨R, hC.rep⟩, ⟨_, hr⟩, hC.inv, hC.small, hC.upok, up_is hC.inv hC.upok (fun i hi => ?_) hcl hb.holds, fun i hi h1 => clean_links hcl hb.holds hi h1, root_into hC.inv hb.mode, hb.mode⟩
  have := hC.cnt i hi
  simpa [zp] using this

theorem W5.par (h : W5 w a d p c lk up) (u i : Int) (hp : Par d u i) : up i = u := by
  have hi : has d i := by unfold has; rw [hp.1]; decide
  exact (h.upok i hi).1 u hp

theorem W5.up1 (h : W5 w a d p c lk up) : up 1 = 1 := by
  have hi : has d 1 := by unfold has; rw [h.inv.root]; decide
  exact (h.upok 1 hi).2.1 rfl

theorem W5.find (h : W5 w a d p c lk up) (from' : Int) (s : ByteArray) (follow : Bool) (hsz : s.size ≤ 4294967280) :
    Calls Tryd.prog 10 #[.pointer (some ⟨a, 0, none⟩), .int .i64 from', .string s, .bool follow] w fun e w' =>
      e = .returned (.tuple #[plcV (findR d up follow 41 from' s 0).1, .int .i64 (findR d up follow 41 from' s 0).2]) ∧ Keeps NoB w w' := by
  obtain ⟨R, hr⟩ := h.rep
  exact wfind_any hr h.inv h.small from' s follow hsz

theorem W5.there (h : W5 w a d p c lk up) (from' : Int) (s : ByteArray) (follow : Bool) (hsz : s.size ≤ 4294967280) :
    Calls Tryd.prog 12 #[.pointer (some ⟨a, 0, none⟩), .int .i64 from', .string s, .bool follow] w fun e w' =>
      e = .returned (.tuple #[plcV (thereR (findR d up follow 41 from' s 0)).1, .int .i64 (thereR (findR d up follow 41 from' s 0)).2]) ∧ Keeps NoB w w' := by
  obtain ⟨R, hr⟩ := h.rep
  exact wthere_any hr h.inv h.small from' s follow hsz

theorem W5.whole (h : W5 w a d p c lk up) (id : Int) (W : ByteArray) (hk : (nd d id).kind = 2) (hW : WP d id ⟨#[]⟩ W) :
    Calls Tryd.prog 14 #[.pointer (some ⟨a, 0, none⟩), .int .i64 id] w fun e w' => e = .returned (.tuple #[.string W, .int .i64 0]) ∧ Keeps NoB w w' := by
  obtain ⟨R, hr⟩ := h.rep
  exact whole_any hr h.inv h.upok h.small id W hk hW

theorem W5.wholeErr (h : W5 w a d p c lk up) (id : Int) (hf : folderErr d id ≠ 0) :
    Calls Tryd.prog 14 #[.pointer (some ⟨a, 0, none⟩), .int .i64 id] w fun e w' => e = .returned (.tuple #[.string ⟨#[]⟩, .int .i64 (folderErr d id)]) ∧ Keeps NoB w w' := by
  obtain ⟨R, hr⟩ := h.rep
  refine wwhole_err hr id hf (fun e => hf ?_)
  subst e
  exact into_dir h.root

theorem W5.rfolder (h : W5 w a d p c lk up) (id : Int) :
    Calls Tryd.prog 15 #[refV p c d room5, .int .i64 id] w fun e w' => e = .returned (.int .i64 (folderErr d id)) ∧ Keeps NoB w w' := by
  obtain ⟨S, hr⟩ := h.ref
  exact r4folder_any hr h.inv.zero id
end

end Go.Proofs.YtbcejodnjeklpaaDoor

/-
  Layer 5: the document's example.
-/
set_option maxRecDepth 100000
set_option maxHeartbeats 4000000
namespace Go.Proofs.YtbcejodnjeklpaaDoor
open Go Go.RowKit

theorem n5_lit (w : World) (T : TypeId) (l : List N5) (cs : Array Value) (hcs : cs.toList = l.flatMap encN5.enc) (n : Nat) (hn : n = l.length) (hm : n ≤ maxLen) :
    SlAt encN5 (fun _ => True) (w.alloc (.cells cs T)) (some ⟨w.heap.size, 0, none⟩) n l := by
  obtain ⟨p, c, e, h⟩ := (own_lit (E := encN5) (e := T) (S := fun _ => True) l cs hcs n hn trivial hm).sl
  cases e
  exact h

theorem anchor_any (w : World) : Calls Tryd.prog 7 #[] w fun e w' => e = .returned (.bool true) ∧ Keeps NoB w w' := by
  have k1 : Keeps NoB w (w.alloc (.cells #[.int .i64 0, .string ⟨#[100]⟩, .int .i64 2, .int .i64 493, .string ⟨#[]⟩, .int .i64 0, .string ⟨#[108]⟩, .int .i64 3, .int .i64 0, .string ⟨#[100, 47, 46, 46]⟩] 42)) := (Keeps.refl _ _).alloc _
  have HB := Lib.hid (built_any (n5_lit w 42 anc5 #[.int .i64 0, .string ⟨#[100]⟩, .int .i64 2, .int .i64 493, .string ⟨#[]⟩, .int .i64 0, .string ⟨#[108]⟩, .int .i64 3, .int .i64 0, .string ⟨#[100, 47, 46, 46]⟩] rfl 2 rfl (by decide)) ⟨fun o ho => by simp only [anc5, List.mem_cons, List.mem_nil_iff, or_false] at ho; rcases ho with rfl | rfl <;> exact ⟨by decide, by decide⟩, by decide⟩)
  go_enter Tryd.func7, Tryd.ntmps7
  go_upto_region 2 with (go_at_call 9; go_loud (refine HB.out.mono ?_); rintro e w2 ⟨a, p, c, rfl, hP, hT, hk⟩; unfold refV)
  have kz := k1.trans hk
  obtain ⟨lk, up, h5⟩ := W5.of hP hT
  clear HB hk k1 hP hT
  have hn := anc5_nodes
  have h2 : up 2 = 1 := by
    refine h5.par 1 2 ⟨by rw [hn]; rfl, (⟨#[100]⟩, 2), ?_, rfl⟩
    rw [hn 1]
    exact List.mem_cons_self
  have HF := Lib.hid ((h5.on ((Keeps.refl NoB w2).alloc (.cells #[.slice p (List.length (builtD anc5).fst) c, .int .i64 room5] 28))).find 1 ⟨#[108, 47, 120]⟩ true (by decide))
  rw [anc5_find h2] at HF
  unfold plcV at HF
  clear h2 hn h5
  generalize (List.length (builtD anc5).fst) = dl at *
  have kz3 := kz.alloc (.cells #[.slice p dl c, .int .i64 room5] 28)
  generalize w2.alloc (.cells #[.slice p dl c, .int .i64 room5] 28) = w3 at *
  clear kz
  go_wp2_with (go_at_call 10; go_loud (refine HF.out.mono ?_); rintro e w4 ⟨rfl, hk4⟩; have kz4 := kz3.trans hk4)
  go_ret
  exact ⟨rfl, kz4.alloc _⟩
end Go.Proofs.YtbcejodnjeklpaaDoor
