/-
 Contracts of the reference for layer 4, the tenth part: Move in another's place.
-/
import Derived.Test.YtijbhmledmnifaaGreatDoorG07

set_option linter.unusedSimpArgs false
set_option linter.unusedVariables false
namespace Go.Proofs.YtijbhmledmnifaaGreatDoor
open Go.RowKit
set_option maxRecDepth 100000
set_option maxHeartbeats 2000000
section
variable {S : Nat -> Prop} {w : World} {p : Option Addr} {c : Nat} {d : Nds} {room : Int}
theorem r4move_set (h : RefAt S w p c d) (hS : ∀ g, w.heap.size <= g -> S g) (hI : DInv d) (hcl : NoGarb d) (hs : smallD d) (f : Int) (name : ByteArray) (t : Int) (other : ByteArray) (k old : Int) (c0 : lookErr d f name = 0) (hkk : lookOf d f name = k) (c1 : folderErr d t = 0)
  (M : MoveOk d f name t other k) (hold : entGet (nd d t).ents other = some old) (hne : old ≠ k) (hg0 : givesErr d k old = 0) :
  Calls Tryz.prog 136 #[refV p c d room, .int .i64 f, .string name, .int .i64 t, .string other] w (RTo S w (gc (moveTo d f name t other k)) room 0) := by
 have hcap := h.cap
 have hmax := h.max
 unfold maxLen at hmax
 have hf := M.hf
 have ht := M.ht
 have hk := M.hk
 have hk1 := M.k1
 have ho := (hI.tgt t _ (entGet_mem hold)).1
 have HFo := Lib.hid (fun (w1 : World) (hk : Keeps NoB w w1) => r4folder_any (room := room) (h.keepN hk) hI.zero t)
 have HLk := Lib.hid (fun (w1 : World) (hk : Keeps NoB w w1) => r4look_any (room := room) (h.keepN hk) hI f name)
 have HLo := Lib.hid (fun (w1 : World) (hk : Keeps NoB w w1) => r4look_any (room := room) (h.keepN hk) hI t other)
 have HGi := Lib.hid (fun (w1 : World) (hkx : Keeps NoB w w1) => r4gives_any (room := room) (h.keepN hkx) k old hk ho)
 have HBe := Lib.hid (fun (h2 : (nd d k).kind = 2) (w1 : World) (hkx : Keeps NoB w w1) => r4below_says (room := room) (h.keepN hkx) hI hs t k M.t2 hk1 false ⟨(fun h => by cases h), fun h => absurd h (M.top h2)⟩)
 have e1 : lookErr d t other = 0 := by unfold lookErr; rw [if_neg (by simpa using c1), hold]; rfl
 have e2 : lookOf d t other = old := by unfold lookOf; rw [if_neg (by simpa using c1), hold]; rfl
 rw [c0, hkk] at HLk
 rw [c1] at HFo
 rw [e1, e2] at HLo
 rw [hg0] at HGi
 have hb3 : (old == k) = false := by simpa using hne
 have B := rbox (w := w) (Keeps.refl NoB ((w.alloc (.cells #[.slice p d.length c, .int .i64 room] 35)).alloc (.cells #[.slice none 0 0, .int .i64 0] 35)))
 -- what the two puts make
 have hI1 : DInv (dropTo d f name) := drop_inv hI M.f2 M.get
 have hlen1 : (dropTo d f name).length = d.length := length_setE _ _ _
 have hlen2 : (moveTo d f name t other k).length = d.length := by unfold moveTo dropTo moveMid; rw [length_setE, length_setE]
 have hel := nd_ents_len hs f
 have hel1 : (nd (dropTo d f name) t).ents.length < 4294967295 := nd_ents_len (by have := drop_mass hI hf M.get; unfold smallD at *; omega) t
 have hml := mass_ge d
 have hd1 : setE d f (entDel (nd d f).ents name) = dropTo d f name := rfl
 have hd2 : setE (dropTo d f name) t (entSet (nd (dropTo d f name) t).ents other k) = moveTo d f name t other k := by
  rw [<- M.ref]
  unfold refAtL
  rw [if_pos (entGet_has hold)]
 have hhas1 : hasErr (nd d f).ents name = 0 := by unfold hasErr; rw [if_pos (entGet_has M.get)]
 have hhas2 : hasErr (nd (dropTo d f name) t).ents other = 0 := by unfold hasErr; rw [if_pos (by rw [M.get_drop]; exact entGet_has hold)]
 obtain ⟨hf1, hf2⟩ := (M.free hcl).1 old hold
 obtain ⟨F, T, K, g, off, q, q', m, m', rfl, rfl, rfl, hF, hT, hK, rfl, hSg, hsl, hsl', hg1, hc⟩ := move_rows h hf ht hk
 have HC := Lib.hid hc
 have HD := Lib.hid (fun (w2 : World) (N : Nat) (hk2 : Keeps NoB w w2) (hN : w.heap.size + 2 <= N) (hsz : N < w2.heap.size) => r3drop_any (But3 S w N) w2 q m (nd d (F : Int)).ents name
   (hsl.keepS hk2 (fun _ _ _ h => h) (fun g hg hl => ⟨⟨hg, by omega, by omega⟩, by omega⟩)) (hI.node (F : Int)).rising (by omega) (but3_new hS hN hsz))
 rw [hhas1] at HD
 have HP := Lib.hid (fun (w0 w2 : World) (N : Nat) (hk0 : Keeps NoB w w0) (hN : w.heap.size + 2 <= N) (hsz : N < w2.heap.size) (hr : RefAt (But3 S w N) w2 (some ⟨g, off, none⟩) c d) (q2 : Option Addr) (m2 : Nat) (hx : SlAt encEnt (But3 S w N) w2 q2 m2 (entDel (nd d (F : Int)).ents name)) =>
  put3 (room := room) hr hS hN hsz (by unfold smallD at hs; omega) F hF (entDel (nd d (F : Int)).ents name) q2 m2 hx (dropTo d F name) hd1)
 have HT := Lib.hid (fun (w2 : World) (N : Nat) (p3 : Option Addr) (c3 : Nat) (hr : RefAt (But3 S w N) w2 p3 c3 (dropTo d F name)) => hr.rowAt (show T < (dropTo d F name).length by rw [hlen1]; exact hT))
 have HS := Lib.hid (fun (w2 : World) (N : Nat) (hN : w.heap.size + 2 <= N) (hsz : N < w2.heap.size) (q2 : Option Addr) (m2 : Nat) (hx : SlAt encEnt (But3 S w N) w2 q2 m2 (nd (dropTo d F name) (T : Int)).ents) =>
  r3set_any (But3 S w N) w2 q2 m2 (nd (dropTo d F name) (T : Int)).ents other (K : Int) hx (hI1.node (T : Int)).rising hel1 (but3_new hS hN hsz))
 rw [hhas2] at HS
 have HQ := Lib.hid (fun (w2 : World) (N : Nat) (hN : w.heap.size + 2 <= N) (hsz : N < w2.heap.size) (p3 : Option Addr) (c3 : Nat) (hr : RefAt (But3 S w N) w2 p3 c3 (dropTo d F name)) (q2 : Option Addr) (m2 : Nat) (hx : SlAt encEnt (But3 S w N) w2 q2 m2 (entSet (nd (dropTo d F name) (T : Int)).ents other K)) =>
  put3 (room := room) hr hS hN hsz (by unfold smallD at hs; rw [hlen1]; omega) T (by rw [hlen1]; exact hT) (entSet (nd (dropTo d F name) (T : Int)).ents other K) q2 m2 hx (moveTo d F name T other K) hd2)
 have HFr := Lib.hid (fun (w2 : World) (N : Nat) (hN : w.heap.size + 2 <= N) (hsz : N < w2.heap.size) (p3 : Option Addr) (c3 : Nat) (hr : RefAt (But3 S w N) w2 p3 c3 (moveTo d F name T other K)) =>
  r4free_any (room := room) hr (but3_new hS hN hsz) M.after (M.small hs) old hf1 hf2)
 have hkd : ((nd d (K : Int)).kind = 2) ∨ ((nd d (K : Int)).kind ≠ 2) := Classical.em _
 have HR0 := Lib.hid (fun (w2 : World) (N : Nat) (hk : Keeps NoB w w2) (hN : w.heap.size + 2 <= N) => h.but3 hk hN)
 unfold refV at *
 rw [hlen1] at HQ
 rw [hlen2] at HFr
 clear h hI hs hc hsl hsl' c0 c1 hkk hf ht hk hk1 hold ho e1 e2 M hcl hI1 hlen1 hlen2 hel hel1 hml hd1 hd2 hhas1 hhas2 hf1 hf2 hg0 hne
 generalize moveTo d F name T other K = dd2 at *
 generalize entSet (nd (dropTo d F name) (T : Int)).ents other K = ns at *
 generalize dropTo d F name = dd1 at *
 generalize entDel (nd d (F : Int)).ents name = ne at *
 generalize (nd d (F : Int)).ents = eF at *
 generalize (nd d (T : Int)).ents = eT at *
 rcases hkd with hkd | hkd
 case' inl => rw [hkd] at HC; replace HBe := Lib.hid (HBe.out hkd); clear hkd
 case' inr => clear HBe; generalize (nd d (K : Int)).kind = ko at *
 all_goals
  go_enter Tryz.func136, Tryz.ntmps136
  go_upto_region 24 with (first | (go_at_call 195; have HX := HLk; clear HLk; refine (HX.out _ B.keeps).mono ?_; clear HX; rintro e w1 ⟨rfl, hk1⟩; (try clear A0); (try clear A1); (try clear C0); (try clear C1); (try clear zA); (try clear zC); (try clear l0); (try clear l1); (try clear R0); (try clear R1); (try clear R2); (try clear R3); (try clear R4); (try clear hgl); (try clear Q0); (try clear T4); replace B := B.on hk1; clear hk1; have A0 := B.A0; have A1 := B.A1; have C0 := B.C0; have C1 := B.C1; have zA := B.zA; have zC := B.zC; have l0 : w.heap.size < w1.heap.size := Nat.lt_of_lt_of_le (by simp) B.size; have l1 : w.heap.size + 1 < w1.heap.size := B.size; obtain ⟨R0, R1, R2, R3, R4, hgl, Q0, T4⟩ := HC.out _ B.keeps) | (go_at_call 195; have HX := HLo; clear HLo; refine (HX.out _ B.keeps).mono ?_; clear HX; rintro e w1 ⟨rfl, hk1⟩; (try clear A0); (try clear A1); (try clear C0); (try clear C1); (try clear zA); (try clear zC); (try clear l0); (try clear l1); (try clear R0); (try clear R1); (try clear R2); (try clear R3); (try clear R4); (try clear hgl); (try clear Q0); (try clear T4); replace B := B.on hk1; clear hk1; have A0 := B.A0; have A1 := B.A1; have C0 := B.C0; have C1 := B.C1; have zA := B.zA; have zC := B.zC; have l0 : w.heap.size < w1.heap.size := Nat.lt_of_lt_of_le (by simp) B.size; have l1 : w.heap.size + 1 < w1.heap.size := B.size; obtain ⟨R0, R1, R2, R3, R4, hgl, Q0, T4⟩ := HC.out _ B.keeps) | (go_at_call 191; refine (HFo.out _ B.keeps).mono ?_; rintro e w1 ⟨rfl, hk1⟩; (try clear A0); (try clear A1); (try clear C0); (try clear C1); (try clear zA); (try clear zC); (try clear l0); (try clear l1); (try clear R0); (try clear R1); (try clear R2); (try clear R3); (try clear R4); (try clear hgl); (try clear Q0); (try clear T4); replace B := B.on hk1; clear hk1; have A0 := B.A0; have A1 := B.A1; have C0 := B.C0; have C1 := B.C1; have zA := B.zA; have zC := B.zC; have l0 : w.heap.size < w1.heap.size := Nat.lt_of_lt_of_le (by simp) B.size; have l1 : w.heap.size + 1 < w1.heap.size := B.size; obtain ⟨R0, R1, R2, R3, R4, hgl, Q0, T4⟩ := HC.out _ B.keeps) | (go_at_call 203; refine (HBe.out _ B.keeps).mono ?_; rintro e w1 ⟨rfl, hk1⟩; (try clear A0); (try clear A1); (try clear C0); (try clear C1); (try clear zA); (try clear zC); (try clear l0); (try clear l1); (try clear R0); (try clear R1); (try clear R2); (try clear R3); (try clear R4); (try clear hgl); (try clear Q0); (try clear T4); replace B := B.on hk1; clear hk1; have A0 := B.A0; have A1 := B.A1; have C0 := B.C0; have C1 := B.C1; have zA := B.zA; have zC := B.zC; have l0 : w.heap.size < w1.heap.size := Nat.lt_of_lt_of_le (by simp) B.size; have l1 : w.heap.size + 1 < w1.heap.size := B.size; obtain ⟨R0, R1, R2, R3, R4, hgl, Q0, T4⟩ := HC.out _ B.keeps) | (go_at_call 204; refine (HGi.out _ B.keeps).mono ?_; rintro e w1 ⟨rfl, hk1⟩; (try clear A0); (try clear A1); (try clear C0); (try clear C1); (try clear zA); (try clear zC); (try clear l0); (try clear l1); (try clear R0); (try clear R1); (try clear R2); (try clear R3); (try clear R4); (try clear hgl); (try clear Q0); (try clear T4); replace B := B.on hk1; clear hk1; have A0 := B.A0; have A1 := B.A1; have C0 := B.C0; have C1 := B.C1; have zA := B.zA; have zC := B.zC; have l0 : w.heap.size < w1.heap.size := Nat.lt_of_lt_of_le (by simp) B.size; have l1 : w.heap.size + 1 < w1.heap.size := B.size; obtain ⟨R0, R1, R2, R3, R4, hgl, Q0, T4⟩ := HC.out _ B.keeps) | (go_at_call 196; go_loud (refine (HD.out _ w1.heap.size (B.keeps.alloc _) B.size (by simp)).mono ?_); rintro e w2 ⟨v2, rfl, hsl, hk2⟩; obtain ⟨q2, m2, rfl, hsl⟩ := hsl; have NB := nbox hk2; have Bs := B.size; have kw2 := (B.keeps.alloc _).trans hk2; replace B := (B.on ((Keeps.refl NoB _).alloc _)).on hk2; (try clear A0); (try clear A1); (try clear C0); (try clear C1); (try clear zA); (try clear zC); (try clear l0); (try clear l1); (try clear R0); (try clear R1); (try clear R2); (try clear R3); (try clear R4); (try clear hgl); (try clear Q0); (try clear T4); have A0 := B.A0; have A1 := B.A1; have C0 := B.C0; have C1 := B.C1; have zA := B.zA; have zC := B.zC; have N0 := NB.N0; have N1 := NB.N1; have N2 := NB.N2; have N3 := NB.N3; have N4 := NB.N4; have zN := NB.zN; have nA : ¬ w.heap.size = w1.heap.size := (by omega); have nA' : ¬ w1.heap.size = w.heap.size := (by omega); have hz2 : w1.heap.size < w2.heap.size := lt_of_cell N0) | (go_at_call 168; go_loud (refine (HP.out w2 _ w1.heap.size kw2 Bs (by simpa using hz2) ((HR0.out w2 _ kw2 Bs).var (keeps_set w2 ⟨w1.heap.size, 4, none⟩ _) (fun b hb => .inr (.inr hb))) q2 m2 (hsl.var3 (keeps_set w2 ⟨w1.heap.size, 4, none⟩ _) (fun b hb => .inr (.inr hb)))).mono ?_); rintro e w4 ⟨p3, c3, rfl, href, hk4⟩; replace NB := (NB.set4 (.slice q2 ne.length m2)).on hk4; replace B := (B.set Bs 4 (.slice q2 ne.length m2)).on hk4; (try clear N0 N1 N2 N3 N4 zN); (try clear A0); (try clear A1); (try clear C0); (try clear C1); (try clear zA); (try clear zC); (try clear l0); (try clear l1); (try clear R0); (try clear R1); (try clear R2); (try clear R3); (try clear R4); (try clear hgl); (try clear Q0); (try clear T4); have A0 := B.A0; have A1 := B.A1; have C0 := B.C0; have C1 := B.C1; have zA := B.zA; have zC := B.zC))
  have kA := (keeps_set w4 ⟨w.heap.size, 0, none⟩ (.slice p3 d.length c3)).trans (keeps_set _ ⟨w.heap.size, 1, none⟩ (.int .i64 room))
  have B5 := B.setA (p' := p3) (n' := d.length) (c' := c3) (room' := room)
  have N5 := NB.keep kA nA'
  have href5 := href.var kA (fun b hb => .inl hb)
  have hz5 := lt_of_cell N5.N0
  (try clear A0); (try clear A1); (try clear C0); (try clear C1); (try clear zA); (try clear zC); (try clear l0); (try clear l1); (try clear R0); (try clear R1); (try clear R2); (try clear R3); (try clear R4); (try clear hgl); (try clear Q0); (try clear T4)
  clear kA hk4 NB B href hsl hk2 kw2 HP HD HR0 HFo HC hz2
  generalize (w4.setCell ⟨w.heap.size, 0, none⟩ (.slice p3 d.length c3)).setCell ⟨w.heap.size, 1, none⟩ (.int .i64 room) = w5 at *
  obtain ⟨g5, off5, q5, m5, rfl, hS5, hrow5⟩ := HT.out _ _ _ _ href5
  have A0 := B5.A0
  have A1 := B5.A1
  have C0 := B5.C0
  have C1 := B5.C1
  have zA := B5.zA
  have zC := B5.zC
  have N0 := N5.N0
  have N1 := N5.N1
  have N2 := N5.N2
  have N3 := N5.N3
  have N4 := N5.N4
  have zN := N5.zN
  have R0 := hrow5.c0
  have R1 := hrow5.c1
  have R2 := hrow5.c2
  have R3 := hrow5.c3
  have R4 := hrow5.c4
  have hgl := hrow5.lt
  have nG : ¬ g5 = w1.heap.size := hS5.2
  have nG' : ¬ w1.heap.size = g5 := fun e => nG e.symm
  go_upto_region 25 with (fail)
  change Code.wp _ _ _ _ (set5 w5 w1.heap.size 0 (.int .i64 (nd dd1 (T : Int)).kind) (.int .i64 (nd dd1 (T : Int)).mode) (.int .i64 (nd dd1 (T : Int)).holds) (.string (nd dd1 (T : Int)).data) (.slice q5 (nd dd1 (T : Int)).ents.length m5))
  have k5 := set5_keeps w5 w1.heap.size 0 (.int .i64 (nd dd1 (T : Int)).kind) (.int .i64 (nd dd1 (T : Int)).mode) (.int .i64 (nd dd1 (T : Int)).holds) (.string (nd dd1 (T : Int)).data) (.slice q5 (nd dd1 (T : Int)).ents.length m5)
  have N6 := N5.set5 (.int .i64 (nd dd1 (T : Int)).kind) (.int .i64 (nd dd1 (T : Int)).mode) (.int .i64 (nd dd1 (T : Int)).holds) (.string (nd dd1 (T : Int)).data) (.slice q5 (nd dd1 (T : Int)).ents.length m5)
  have B6 := B5.keep k5 nA (by omega) (fun b hb => by omega)
  have href6 := href5.var k5 (fun b hb => .inr (.inr hb))
  have hsl6 := hrow5.sl.var3 k5 (fun b hb => .inr (.inr hb))
  have hz6 := lt_of_cell N6.N0
  (try clear A0); (try clear A1); (try clear C0); (try clear C1); (try clear zA); (try clear zC); (try clear l0); (try clear l1); (try clear R0); (try clear R1); (try clear R2); (try clear R3); (try clear R4); (try clear hgl); (try clear Q0); (try clear T4)
  clear N0 N1 N2 N3 N4 zN k5 N5 B5 href5 hrow5 HT hz5 nG nG' hS5
  generalize set5 w5 w1.heap.size 0 (.int .i64 (nd dd1 (T : Int)).kind) (.int .i64 (nd dd1 (T : Int)).mode) (.int .i64 (nd dd1 (T : Int)).holds) (.string (nd dd1 (T : Int)).data) (.slice q5 (nd dd1 (T : Int)).ents.length m5) = w6 at *
  have A0 := B6.A0
  have A1 := B6.A1
  have C0 := B6.C0
  have C1 := B6.C1
  have zA := B6.zA
  have zC := B6.zC
  have N0 := N6.N0
  have N1 := N6.N1
  have N2 := N6.N2
  have N3 := N6.N3
  have N4 := N6.N4
  have zN := N6.zN
  go_wp2_with (first | (go_at_call 205; go_loud (refine (HS.out w6 w1.heap.size Bs hz6 q5 m5 hsl6).mono ?_); rintro e w7 ⟨v7, rfl, hsl7, hk7⟩; obtain ⟨q7, m7, rfl, hsl7⟩ := hsl7; have N7 := N6.on hk7; have B7 := B6.on hk7; have href7 := href6.keepN hk7; have hz7 := lt_of_cell N7.N0; (try clear A0); (try clear A1); (try clear C0); (try clear C1); (try clear zA); (try clear zC); (try clear l0); (try clear l1); (try clear R0); (try clear R1); (try clear R2); (try clear R3); (try clear R4); (try clear hgl); (try clear Q0); (try clear T4); clear N0 N1 N2 N3 N4 zN; have A0 := B7.A0; have A1 := B7.A1; have C0 := B7.C0; have C1 := B7.C1; have zA := B7.zA; have zC := B7.zC; have N0 := N7.N0; have N1 := N7.N1; have N2 := N7.N2; have N3 := N7.N3; have N4 := N7.N4; have zN := N7.zN) | (go_at_call 168; go_loud (refine (HQ.out _ w1.heap.size Bs (by simpa using hz7) _ _ (href7.var (keeps_set w7 ⟨w1.heap.size, 4, none⟩ _) (fun b hb => .inr (.inr hb))) q7 m7 (hsl7.var3 (keeps_set w7 ⟨w1.heap.size, 4, none⟩ _) (fun b hb => .inr (.inr hb)))).mono ?_); rintro e w8 ⟨p8, c8, rfl, href8, hk8⟩; have B8 := (B7.set Bs 4 (.slice q7 ns.length m7)).on hk8; have N8 := (N7.set4 (.slice q7 ns.length m7)).on hk8; have hz8 := lt_of_cell N8.N0; (try clear A0); (try clear A1); (try clear C0); (try clear C1); (try clear zA); (try clear zC); (try clear l0); (try clear l1); (try clear R0); (try clear R1); (try clear R2); (try clear R3); (try clear R4); (try clear hgl); (try clear Q0); (try clear T4); clear N0 N1 N2 N3 N4 zN; have A0 := B8.A0; have A1 := B8.A1; have C0 := B8.C0; have C1 := B8.C1; have zA := B8.zA; have zC := B8.zC) | (go_at_call 197; go_loud (refine (HFr.out _ w1.heap.size Bs (by simpa using hz8) _ _ (href8.var ((keeps_set w8 ⟨w.heap.size, 0, none⟩ (.slice p8 d.length c8)).trans (keeps_set _ ⟨w.heap.size, 1, none⟩ (.int .i64 room))) (fun b hb => .inl hb))).mono ?_); rintro e w9 ⟨p9, c9, rfl, href9, hk9⟩; have B9 := (B8.setA (p' := p8) (n' := d.length) (c' := c8) (room' := room)).on hk9; (try clear A0); (try clear A1); (try clear C0); (try clear C1); (try clear zA); (try clear zC); (try clear l0); (try clear l1); (try clear R0); (try clear R1); (try clear R2); (try clear R3); (try clear R4); (try clear hgl); (try clear Q0); (try clear T4); have A0 := B9.A0; have A1 := B9.A1; have C0 := B9.C0; have C1 := B9.C1; have zA := B9.zA; have zC := B9.zC))
  (try simp only [Exit.inBlock, Exit.then])
  refine bodyPost_ret (v := .tuple #[.agg #[.slice p9 (gc dd2).length c9, .int .i64 room], .int .i64 0]) ?_ rfl ?_
  ·rw [results_cell_tmp rfl]
   go_simp
  ·exact rto_store ((href9.var ((keeps_set w9 ⟨w.heap.size, 0, none⟩ (.slice p9 (gc dd2).length c9)).trans (keeps_set _ ⟨w.heap.size, 1, none⟩ (.int .i64 room))) (fun b hb => .inl hb)).of3) (B9.setA (p' := p9) (n' := (gc dd2).length) (c' := c9) (room' := room)).keeps _ _
end
end Go.Proofs.YtijbhmledmnifaaGreatDoor
