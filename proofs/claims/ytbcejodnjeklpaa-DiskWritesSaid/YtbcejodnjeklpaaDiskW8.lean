/-
  Contracts of package disk, the eighth part: Write.
-/
import Derived.Test.YtbcejodnjeklpaaDiskW7
import Derived.Deep.RegionLaw
namespace Go.Proofs.Ytbcejodnjeklpaa
open Go.RowKit
set_option maxRecDepth 100000
set_option maxHeartbeats 1000000

def endOf (d : Nds) (i x : Int) (s : ByteArray) : Nat := max (nd d i).data.size (x.toNat + s.size)
def writeErr (d : Nds) (room i x : Int) (s : ByteArray) : Int :=
  if fileErr d i ≠ 0 then fileErr d i else if x < 0 then 10 else if s.size = 0 then 0 else if 4194304 < x then 18 else if 4194304 - x < s.size then 18 else if room - used d < endOf d i x s - (nd d i).data.size then 20 else 0
def writeNd (n : Nd) (x : Nat) (s : ByteArray) : Nd := n.setData (over (n.data ++ noughts (max n.data.size (x + s.size) - n.data.size)) x s)
def writeTo (d : Nds) (room i x : Int) (s : ByteArray) : Nds := if writeErr d room i x s = 0 ∧ s.size ≠ 0 then upd d i (writeNd (nd d i) x.toNat s) else d

/-- append whose run is known, as one step of a region that draws. -/
theorem step_append_run {P : Program} {ops : Array Oper} {o : Oper} {a : Act} {w : World} {K : Act → World → Prop} {Q : Exit → Act → World → Prop} {E : Prop}
    (hg : o.guard = none) (s x : Operand) (t tn : TypeId) (hop : o.op = Op.call { callee := Callee.builtin Builtin.append, args := #[s, x], argTypes := #[t, tn] })
    {vs vx v' : Value} {w' : World} (hr : (Builtin.append_ #[t, tn] o.type #[vs, vx]).run P w = .ok v' w') (hs : a.eval s = vs) (hx : a.eval x = vx)
    (hK : K (a.put o.dst v') w') : if Region.wanted o (yielded ops a.tmps) = true then Oper.wp P o a w K Q else E := by
  have hw : Region.wanted o (yielded ops a.tmps) = true := by simp [Region.wanted, hg]
  rw [if_pos hw]
  unfold Oper.wp
  simp [execOp, hop, resolve, invoke, builtin, hs, hx, hr, Result.andThen]
  exact hK

section
variable {R : RD} {w : World} {a : Nat} {d : Nds} {room : Int}

theorem nd_upd_self {d : Nds} {i : Int} (hi : has d i) (n : Nd) : nd (upd d i n) i = n := by
  have hr := has_range hi
  rw [nd_upd hr.1 hr.2, if_pos rfl]

theorem upd_upd {d : Nds} {i : Int} (hi : has d i) {n : Nd} (hn : n.kind ≠ 0) (m : Nd) : upd (upd d i n) i m = upd d i m := by
  have hr := has_range hi
  have hi2 : has (upd d i n) i := (has_upd hi hn i).2 hi
  have hr2 := has_range hi2
  apply List.ext_getElem?
  intro j
  unfold upd
  rw [if_pos hr.1, if_pos hr.1, if_pos hr.1, List.set_set]

/-- The end of Write. -/
theorem write_end {lk up : Int → Int} {us1 : Int} {w1 w2 w4 : World} {i : Int} {v : Value} {x : Nat} {s : ByteArray} (hC : Casc R w a d room lk up zp) (hcl : NoGarb d) (hi : has d i) (hk1 : (nd d i).kind = 1) (hmax : room ≤ 9223372036854775807)
    (hx : x + s.size ≤ 4194304) (h0 : 0 < s.size) (hus : us1 = ((used (upd d i (writeNd (nd d i) x s)) : Nat) : Int)) (hfit : us1 ≤ room)
    (hR1 : Rep R w1 a d room us1 lk up) (hk1 : Keeps (fun x => x = a) w w1)
    (ho : OwnB (fun _ => True) w2 v ((nd d i).data ++ noughts (max (nd d i).data.size (x + s.size) - (nd d i).data.size))) (hk2 : Keeps (fun g => (R.dv i).ownBlock = some g) w1 w2) (hv : ∀ g, v.ownBlock = some g → (R.dv i).ownBlock = some g ∨ w1.heap.size ≤ g)
    (ho4 : OwnB (fun _ => True) w4 v (over ((nd d i).data ++ noughts (max (nd d i).data.size (x + s.size) - (nd d i).data.size)) x s)) (hk4 : Keeps (fun g => v.ownBlock = some g) (w2.setCell ⟨R.g i, 4, none⟩ v) w4) :
    DiskTo R w a (upd d i (writeNd (nd d i) x s)) room w4 := by
  obtain ⟨R', hR2, hT, hg', _, hdv'⟩ := hR1.setData hi hk2 ho hv
  have hn0 : ((nd d i).setData ((nd d i).data ++ noughts (max (nd d i).data.size (x + s.size) - (nd d i).data.size))).kind ≠ 0 := hi
  have hi2 := (has_upd hi hn0 i).2 hi
  have hR3 := hR2.overData hi2 (s := over ((nd d i).data ++ noughts (max (nd d i).data.size (x + s.size) - (nd d i).data.size)) x s) (by rw [hdv']; exact hk4) (by rw [hdv']; exact ho4)
  rw [nd_upd_self hi, upd_upd hi hn0] at hR3
  have hsz : (over ((nd d i).data ++ noughts (max (nd d i).data.size (x + s.size) - (nd d i).data.size)) x s).size = max (nd d i).data.size (x + s.size) := by
    have h1 : ((nd d i).data ++ noughts (max (nd d i).data.size (x + s.size) - (nd d i).data.size)).size = max (nd d i).data.size (x + s.size) := by rw [ByteArray.size_append, noughts_size]; omega
    rw [over_size (by rw [h1]; omega), h1]
  have hds := (hC.inv.node i).data
  subst hus
  refine ⟨R', IsDisk.turn hC hcl hi ((hC.inv.node i).setData hi (by omega) (s := over ((nd d i).data ++ noughts (max (nd d i).data.size (x + s.size) - (nd d i).data.size)) x s) (by rw [hsz]; omega)) rfl rfl (fun e => e) hR3 ?_ hfit hmax, ?_⟩
  · have := mass_upd (n := writeNd (nd d i) x s) hi
    have e : mass1 (writeNd (nd d i) x s) = mass1 (nd d i) := rfl
    have := hC.small
    unfold smallD at *
    unfold writeNd at *
    omega
  · have k3 : Keeps R'.F (w2.setCell ⟨R.g i, 4, none⟩ v) w4 := (Keeps.refl _ _).step hk4 (fun g hg => .inl (by
      have := hR2.tagD i hi2 g (by rw [hdv']; exact hg)
      unfold RD.F
      rw [this]
      exact fun h => by cases h))
    exact ((Turn.of (hk1.mono (fun g _ e => by subst e; exact hC.rep.fA))).trans hT).trans (Turn.of k3)

theorem write_facts {lk up : Int → Int} {us1 : Int} {w1 : World} {i : Int} {x : Nat} {s : ByteArray} {p : Option Addr} {cap : Nat} (hC : Casc R w a d room lk up zp) (hcl : NoGarb d) (hi : has d i) (hk1 : (nd d i).kind = 1) (hmax : room ≤ 9223372036854775807)
    (hx : x + s.size ≤ 4194304) (h0 : 0 < s.size) (hus : us1 = ((used (upd d i (writeNd (nd d i) x s)) : Nat) : Int)) (hfit : us1 ≤ room)
    (hR1 : Rep R w1 a d room us1 lk up) (hk1 : Keeps (fun x => x = a) w w1) (hv : R.dv i = .slice p (nd d i).data.size cap) :
    ∃ p' n' c' w2 w4, w1.drew.cell? ⟨R.g i, 4, none⟩ = some (.slice p (nd d i).data.size cap) ∧ w1.drew.frozen? ⟨R.g i, 4, none⟩ = false ∧ w2.cell? ⟨R.g i, 4, none⟩ = some (.slice p (nd d i).data.size cap) ∧ w2.frozen? ⟨R.g i, 4, none⟩ = false ∧
      (Builtin.append_ #[72, 3] 72 #[.slice p (nd d i).data.size cap, .int .i64 ((max (nd d i).data.size (x + s.size) - (nd d i).data.size : Nat) : Int)]).run Try.prog w1.drew = .ok (.slice p' n' c') w2 ∧
      (Instr.slice 72 (.slice p' n' c') (some (.int .i64 x)) none none).run Try.prog (w2.setCell ⟨R.g i, 4, none⟩ (.slice p' n' c')) = .ok (.slice (subAt 1 p' c' x) (n' - x) (c' - x)) (w2.setCell ⟨R.g i, 4, none⟩ (.slice p' n' c')) ∧
      (Builtin.copy_ #[72, 9] 3 #[.slice (subAt 1 p' c' x) (n' - x) (c' - x), .string s]).run Try.prog (w2.setCell ⟨R.g i, 4, none⟩ (.slice p' n' c')) = .ok (goInt s.size) w4 ∧
      R.g i < w1.drew.heap.size ∧ DiskTo R w a (upd d i (writeNd (nd d i) x s)) room w4 := by
  have hR1 := hR1.keepN ((Keeps.refl NoB w1).drew)
  have hk1 := hk1.drew
  have hn1 := hR1.node i hi
  have hsz : ((nd d i).data ++ noughts (max (nd d i).data.size (x + s.size) - (nd d i).data.size)).size = max (nd d i).data.size (x + s.size) := by rw [ByteArray.size_append, noughts_size]; omega
  have hds := (hC.inv.node i).data
  obtain ⟨v', w2, hz, ho2, hk2, hv2⟩ := hn1.own.zeros (P := Try.prog) (t := 72) (tn := 3) (e := 5) 72 Try.underlying72 Try.underlying3 (i := (Try.prog.info? 5).get!) (by kernel_rfl) (by kernel_rfl) (by kernel_rfl) (by kernel_rfl) (max (nd d i).data.size (x + s.size) - (nd d i).data.size) (by omega) trivial
  have hgd := hR1.dvne hi
  have hgv : ¬ v'.ownBlock = some (R.g i) := fun e => by
    rcases hv2 _ e with h1 | h1
    · exact hgd h1
    · have := hn1.lt; omega
  have hc2 : w2.cell? ⟨R.g i, 4, none⟩ = w1.cell? ⟨R.g i, 4, none⟩ := hk2.cell (p := ⟨R.g i, 4, none⟩) hn1.lt hgd
  have hf2 : w2.frozen? ⟨R.g i, 4, none⟩ = w1.frozen? ⟨R.g i, 4, none⟩ := hk2.frozen (p := ⟨R.g i, 4, none⟩) hn1.lt hgd
  have hd4 := hn1.data
  obtain ⟨p', c', hv'⟩ := ho2.form
  have hmax2 := ho2.small
  have ho3 : OwnB (fun _ => True) (w2.setCell ⟨R.g i, 4, none⟩ v') v' ((nd d i).data ++ noughts (max (nd d i).data.size (x + s.size) - (nd d i).data.size)) :=
    ho2.keep (keeps_set w2 ⟨R.g i, 4, none⟩ v') (fun g hg e => by
      have e' : g = R.g i := e
      subst e'; exact hgv hg)
  obtain ⟨w4, hcp, ho4, hk4⟩ := ho3.over (P := Try.prog) (t := 72) (tn := 9) (e := 5) 3 Try.underlying72 (i := (Try.prog.info? 5).get!) (by kernel_rfl) (by kernel_rfl) hv' x s h0 (by rw [hsz]; omega)
  have hsl := run_slice_l (P := Try.prog) 72 5 1 Try.underlying72 (by kernel_rfl) p' ((nd d i).data ++ noughts (max (nd d i).data.size (x + s.size) - (nd d i).data.size)).size c' x (by rw [hsz]; omega) (w2.setCell ⟨R.g i, 4, none⟩ v') (by rw [hsz]; omega)
  have hend := write_end hC hcl hi (by assumption) hmax hx h0 hus hfit hR1 hk1 ho2 hk2 hv2 ho4 hk4
  rw [hv] at hz hd4
  subst hv'
  exact ⟨p', _, c', w2, w4, hd4, hn1.fz 4, hc2.trans hd4, hf2.trans (hn1.fz 4), hz, hsl, hcp, hn1.lt, hend⟩

theorem write_ok (h : IsDisk R w a d room) (i : Int) (X : Nat) (s : ByteArray) (he : writeErr d room i X s = 0) (h0 : s.size ≠ 0) :
    Calls Try.prog 11 #[.pointer (some ⟨a, 0, none⟩), .int .i64 i, .int .i64 X, .string s] w fun e w' => e = .returned (.int .i64 0) ∧ DiskTo R w a (upd d i (writeNd (nd d i) X s)) room w' := by
  have H := Lib.hid h
  obtain ⟨⟨lk, up, hC⟩, hcl, hfit, hmax⟩ := h
  unfold writeErr at he
  split at he
  · next e => exact absurd he e
  next hf0 =>
  split at he; · cases he
  split at he; · cases he
  split at he; · cases he
  split at he; · cases he
  next c1 c2 c3 c4 =>
  have hf := file_any hC.rep i
  have hfe : fileErr d i = 0 := Classical.not_not.1 hf0
  obtain ⟨hi, hk1⟩ := fileErr_zero hfe
  rw [hfe] at hf
  have hp : ptrIf R 0 i = .pointer (some ⟨R.g i, 0, none⟩) := rfl
  rw [hp] at hf
  have hn := hC.rep.node i hi
  obtain ⟨p, cap, hv⟩ := hn.own.form
  have hd4 := hn.data
  rw [hv] at hd4
  have hul := used_le2 hC.inv hC.small
  have hds := (hC.inv.node i).data
  unfold endOf at c4
  rw [Int.toNat_natCast] at c4
  have hX : X + s.size ≤ 4194304 := by omega
  have hmx : max ((nd d i).data.size : Int) ((X : Int) + (s.size : Int)) - ((nd d i).data.size : Int) = ((max (nd d i).data.size (X + s.size) - (nd d i).data.size : Nat) : Int) := by omega
  have hus : (used d : Int) + ((max (nd d i).data.size (X + s.size) - (nd d i).data.size : Nat) : Int) = ((used (upd d i (writeNd (nd d i) X s)) : Nat) : Int) := by
    have := used_upd (n := writeNd (nd d i) X s) hi
    have e : room1 (writeNd (nd d i) X s) = room1 (nd d i) + (max (nd d i).data.size (X + s.size) - (nd d i).data.size) := by
      unfold room1 writeNd
      simp only [Nd.setData]
      have h1 : ((nd d i).data ++ noughts (max (nd d i).data.size (X + s.size) - (nd d i).data.size)).size = max (nd d i).data.size (X + s.size) := by rw [ByteArray.size_append, noughts_size]; omega
      rw [over_size (by rw [h1]; omega), h1]
      omega
    omega
  have hfit1 : (used d : Int) + ((max (nd d i).data.size (X + s.size) - (nd d i).data.size : Nat) : Int) ≤ room := by omega
  have htake := take_any hC.rep (max ((nd d i).data.size : Int) ((X : Int) + (s.size : Int)) - ((nd d i).data.size : Int)) (by omega) hfit hmax (by omega) (by omega)
  rw [show decide (max ((nd d i).data.size : Int) ((X : Int) + (s.size : Int)) - ((nd d i).data.size : Int) ≤ room - used d) = true from decide_eq_true (by omega), show takeU room (used d) (max ((nd d i).data.size : Int) ((X : Int) + (s.size : Int)) - ((nd d i).data.size : Int)) = (used d : Int) + ((max (nd d i).data.size (X + s.size) - (nd d i).data.size : Nat) : Int) from by rw [hmx]; exact if_pos (by omega)] at htake
  have hne : (s.toList == []) = false := beq_false_of_ne (fun e => h0 ((toList_nil s).1 e))
  have hap : ¬ R.g i = a := fun e => by have := hC.rep.tagN i hi; rw [e, hC.rep.tagA] at this; cases this
  have hgl := hn.lt
  have hfz := hn.fz 4
  have hX2 : (X : Int) ≤ 4194304 := by omega
  have hs2 : (s.size : Int) ≤ 4194304 - (X : Int) := by omega
  have hds2 : ((nd d i).data.size : Int) ≤ 4194304 := by omega
  have HG := Lib.hid (fun (w1 : World) (hR1 : Rep R w1 a d room ((used d : Int) + ((max (nd d i).data.size (X + s.size) - (nd d i).data.size : Nat) : Int)) lk up) (hk1' : Keeps (fun x => x = a) w w1) => write_facts hC hcl hi hk1 hmax hX (by omega) hus hfit1 hR1 hk1' hv)
  clear hC hcl hfit hmax hul hds hX hus hfit1 c1 c2 c3 c4 hf0 hfe hn he h0 hi hk1 hv H
  generalize (nd d i).data.size = ds at *
  generalize hkk : ((max ds (X + s.size) - ds : Nat) : Int) = kk at *
  rw [hmx] at htake
  have hkw : IntKind.i64.wrap kk = kk := by rw [IntKind.wrap_i64]; omega
  clear hkk
  go_enter Try.func11, Try.ntmps11
  go_wp2_with (first | (go_at_call 37; refine hf.mono ?_; rintro e w1 ⟨rfl, rfl⟩) | (go_at_call 36; refine htake.mono ?_; rintro e w1 ⟨rfl, hR1, hk1⟩; obtain ⟨p', n', c', w2, w4, e1, f1, e2, f2, q1, q2, q3, q4, hend⟩ := HG.out w1 hR1 hk1; simp only [World.cell?_drew, World.frozen?_drew] at e1 f1))
  go_region_law (refine step_append_run rfl (.tmp 62) (.tmp 69) _ _ rfl q1 (by simp [Act.eval, Act.put]) (by simp [Act.eval, Act.put, hkw]) ?_)
  all_goals go_wp2
  all_goals
    go_ret
    exact ⟨rfl, hend⟩

theorem write_no (h : IsDisk R w a d room) (i x : Int) (s : ByteArray) (hsz : s.size ≤ 4294967296) (he : ¬ (writeErr d room i x s = 0 ∧ s.size ≠ 0)) :
    Calls Try.prog 11 #[.pointer (some ⟨a, 0, none⟩), .int .i64 i, .int .i64 x, .string s] w fun e w' => e = .returned (.int .i64 (writeErr d room i x s)) ∧ DiskTo R w a d room w' := by
  have H := Lib.hid h
  obtain ⟨⟨lk, up, hC⟩, hcl, hfit, hmax⟩ := h
  have hf := file_any hC.rep i
  unfold writeErr at he ⊢
  by_cases c0 : fileErr d i = 0
  case neg =>
    rw [if_pos c0]
    have hp : ptrIf R (fileErr d i) i = .pointer none := if_neg c0
    rw [hp] at hf
    clear hC hcl hfit hmax he
    generalize fileErr d i = er at hf c0
    go_enter Try.func11, Try.ntmps11
    go_wp2_with (go_at_call 37; refine hf.mono ?_; rintro e w1 ⟨rfl, rfl⟩)
    go_ret
    exact ⟨rfl, H.out.same (Keeps.refl _ _)⟩
  case pos =>
  rw [if_neg (by simpa using c0)] at he ⊢
  obtain ⟨hi, hk1⟩ := fileErr_zero c0
  rw [c0] at hf
  have hp : ptrIf R 0 i = .pointer (some ⟨R.g i, 0, none⟩) := rfl
  rw [hp] at hf
  by_cases c1 : x < 0
  · rw [if_pos c1]
    clear hC hcl hfit hmax he
    go_enter Try.func11, Try.ntmps11
    go_wp2_with (go_at_call 37; refine hf.mono ?_; rintro e w1 ⟨rfl, rfl⟩)
    go_ret
    exact ⟨rfl, H.out.same (Keeps.refl _ _)⟩
  rw [if_neg c1] at he ⊢
  by_cases c2 : s.size = 0
  · rw [if_pos c2]
    have hs : s = ⟨#[]⟩ := ByteArray.ext (Array.eq_empty_of_size_eq_zero c2)
    subst hs
    clear hC hcl hfit hmax he
    go_enter Try.func11, Try.ntmps11
    go_wp2_with (go_at_call 37; refine hf.mono ?_; rintro e w1 ⟨rfl, rfl⟩)
    go_ret
    exact ⟨rfl, H.out.same (Keeps.refl _ _)⟩
  rw [if_neg c2] at he ⊢
  have hne : (s.toList == []) = false := beq_false_of_ne (fun e => c2 ((toList_nil s).1 e))
  by_cases c3 : 4194304 < x
  · rw [if_pos c3]
    clear hC hcl hfit hmax he
    go_enter Try.func11, Try.ntmps11
    go_wp2_with (go_at_call 37; refine hf.mono ?_; rintro e w1 ⟨rfl, rfl⟩)
    go_ret
    exact ⟨rfl, H.out.same (Keeps.refl _ _)⟩
  rw [if_neg c3] at he ⊢
  by_cases c4 : 4194304 - x < s.size
  · rw [if_pos c4]
    clear hC hcl hfit hmax he
    go_enter Try.func11, Try.ntmps11
    go_wp2_with (go_at_call 37; refine hf.mono ?_; rintro e w1 ⟨rfl, rfl⟩)
    go_ret
    exact ⟨rfl, H.out.same (Keeps.refl _ _)⟩
  rw [if_neg c4] at he ⊢
  obtain ⟨X, rfl⟩ : ∃ X : Nat, x = (X : Int) := ⟨x.toNat, by omega⟩
  by_cases c5 : room - used d < endOf d i X s - (nd d i).data.size
  case neg =>
    rw [if_neg c5] at he
    exact absurd ⟨rfl, c2⟩ he
  rw [if_pos c5]
  unfold endOf at c5
  rw [Int.toNat_natCast] at c5
  have hn := hC.rep.node i hi
  obtain ⟨p, cap, hv⟩ := hn.own.form
  have hd4 := hn.data
  rw [hv] at hd4
  have hul := used_le2 hC.inv hC.small
  have hds := (hC.inv.node i).data
  have hmx : max ((nd d i).data.size : Int) ((X : Int) + (s.size : Int)) - ((nd d i).data.size : Int) = ((max (nd d i).data.size (X + s.size) - (nd d i).data.size : Nat) : Int) := by omega
  have htake := take_any hC.rep ((max (nd d i).data.size (X + s.size) - (nd d i).data.size : Nat) : Int) (by omega) hfit hmax (by omega) (by omega)
  rw [show decide (((max (nd d i).data.size (X + s.size) - (nd d i).data.size : Nat) : Int) ≤ room - used d) = false from decide_eq_false (by omega), show takeU room (used d) ((max (nd d i).data.size (X + s.size) - (nd d i).data.size : Nat) : Int) = (used d : Int) from if_neg (by omega)] at htake
  have hfa := hC.rep.fA
  have HE := Lib.hid (fun (w1 : World) (hR : Rep R w1 a d room (used d) lk up) (hk : Keeps (fun x => x = a) w w1) => (⟨R, ⟨⟨lk, up, hC.re hR⟩, hcl, hfit, hmax⟩, Turn.of (hk.mono (fun x _ hx => by subst hx; exact hfa))⟩ : DiskTo R w a d room w1))
  have hds2 : ((nd d i).data.size : Int) ≤ 4194304 := by omega
  clear hC hcl hfit hmax hul hds c5 c0 hn he hi hk1 hv H
  generalize (nd d i).data.size = ds at *
  generalize hkk : ((max ds (X + s.size) - ds : Nat) : Int) = kk at *
  have hkw : IntKind.i64.wrap kk = kk := by rw [IntKind.wrap_i64]; omega
  clear hkk
  go_enter Try.func11, Try.ntmps11
  go_wp2_with (first | (go_at_call 37; refine hf.mono ?_; rintro e w1 ⟨rfl, rfl⟩) | (go_at_call 36; refine htake.mono ?_; rintro e w1 ⟨rfl, hR1, hk1⟩))
  go_ret
  exact ⟨rfl, HE.out _ hR1 hk1⟩

theorem writeD_any (h : IsDisk R w a d room) (i x : Int) (s : ByteArray) (hsz : s.size ≤ 4294967296) :
    Calls Try.prog 11 #[.pointer (some ⟨a, 0, none⟩), .int .i64 i, .int .i64 x, .string s] w fun e w' => e = .returned (.int .i64 (writeErr d room i x s)) ∧ DiskTo R w a (writeTo d room i x s) room w' := by
  unfold writeTo
  by_cases he : writeErr d room i x s = 0 ∧ s.size ≠ 0
  · rw [if_pos he, he.1]
    have hx : ¬ x < 0 := fun hx => by
      have h1 := he.1
      unfold writeErr at h1
      split at h1
      · next e => exact e h1
      · cases h1
    obtain ⟨X, rfl⟩ : ∃ X : Nat, x = (X : Int) := ⟨x.toNat, by omega⟩
    rw [Int.toNat_natCast]
    exact write_ok h i X s he.1 he.2
  · rw [if_neg he]; exact write_no h i x s hsz he

end

end Go.Proofs.Ytbcejodnjeklpaa
